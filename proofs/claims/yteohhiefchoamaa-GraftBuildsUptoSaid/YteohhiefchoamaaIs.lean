/-
  errors.Is at two error numbers that differ: false.
-/
import Derived.Test.YteohhiefchoamaaAt
import Derived.LaidEql
import Derived.Stop.Asserts
import Derived.RowKitTokens
namespace Go.Proofs.Yteohhiefchoamaa
open Go.RowKit Go.Extern.Stop Go.Stop Go.Extern

theorem isTypeOf (v : Value) (w : World) : (Extern.ReflectliteType.typeOf #[.iface 63 v]).run Try.prog w = .ok (.iface 151 (.agg #[.pointer (some ⟨0, 63, none⟩)])) w := by kernel_rfl
theorem isComparable (w : World) : ((Extern.ReflectliteType.method fun t => do Go.Extern.Rtype.noPackHeld "Comparable" t; pure (.bool (← typeInfo t).comparable)) #[.agg #[.pointer (some ⟨0, 63, none⟩)]]).run Try.prog w = .ok (.bool true) w := by kernel_rfl
theorem noIs (v : Value) (xT : TypeId) (w : World) : (Instr.typeAssert (.iface 63 v) xT 153 true).run Try.prog w = .ok (.tuple #[.nilIface, .bool false]) w := run_typeAssert_lacksB Try.underlying153 (by kernel_rfl) (by kernel_rfl) v xT w
theorem noUnwrap (v : Value) (xT : TypeId) (w : World) : (Instr.typeAssert (.iface 63 v) xT 156 true).run Try.prog w = .ok (.tuple #[.nilIface, .bool false]) w := run_typeAssert_lacksB Try.underlying156 (by kernel_rfl) (by kernel_rfl) v xT w
theorem noUnwraps (v : Value) (xT : TypeId) (w : World) : (Instr.typeAssert (.iface 63 v) xT 157 true).run Try.prog w = .ok (.tuple #[.nilIface, .bool false]) w := run_typeAssert_lacksB Try.underlying157 (by kernel_rfl) (by kernel_rfl) v xT w
theorem isMethodComparable (v : Value) (w : World) : (Go.method 295 151 v "Comparable").run Try.prog w = .ok (115, v) w := by kernel_rfl
theorem info63c : (Try.prog.info? 63).map (·.comparable) = some true := by kernel_rfl
theorem run_eql_iface_int (w : World) (a b : Int) (h : a ≠ b) : (binOp .eql 41 (.iface 63 (.int .i64 a)) (.iface 63 (.int .i64 b))).run Try.prog w = .ok (.bool false) w := by
  obtain ⟨i, hi, hc⟩ := Option.map_eq_some_iff.1 info63c
  have h9 : ∀ d : Nat, (Op.equalIn (d + 2) 41 (.iface 63 (.int .i64 a)) (.iface 63 (.int .i64 b))).run Try.prog w = .ok false w := fun d => by
    simp [Op.equalIn, run_underlying Try.underlying41, run_underlying Try.underlying63, typeInfo, hi, hc, h]
  simp only [binOp]
  simp [Op.equal, Op.maxDepth, h9 9998]

set_option maxRecDepth 100000 in
/-- errors.Is(e, f) of two numbers that differ. -/
theorem is_not (w : World) (a b : Int) (hne : a ≠ b) : Calls Try.prog 77 #[.iface 63 (.int .i64 a), .iface 63 (.int .i64 b)] w fun e w' => e = .returned (.bool false) ∧ w = w' := by
  have h8 := @run_callFunc_extern Try.prog 87 _ Extern.ReflectliteType.typeOf Try.func87 (by kernel_rfl) (by kernel_rfl) (by kernel_rfl) (by kernel_rfl)
  have h115 : ∀ W, (callFunc 115 #[.agg #[.pointer (some ⟨0, 63, none⟩)]]).run Try.prog W = .ok (.value (.bool true)) W := fun W => by
    rw [@run_callFunc_extern Try.prog 115 _ (Extern.ReflectliteType.method fun t => do Go.Extern.Rtype.noPackHeld "Comparable" t; pure (.bool (← typeInfo t).comparable)) Try.func115 (by kernel_rfl) (by kernel_rfl) (by kernel_rfl) (by kernel_rfl), isComparable]
    rfl
  have tT := isTypeOf
  have mR := isMethodComparable
  have nE := noIs
  have uE := noUnwrap
  have vE := noUnwraps
  have heq := fun W => run_eql_iface_int W a b hne
  go_enter Try.func77, Try.ntmps77
  go_wp2
  refine wp_loop_rounds 1 ?_
  rw [rounds_succ]
  go_wp2
  go_ret
  exact ⟨rfl, rfl⟩
end Go.Proofs.Yteohhiefchoamaa

/-
  The walk of the law's fault: what an error says.
-/
import Derived.Test.YteohhiefchoamaaAwake
namespace Go.Proofs.Yteohhiefchoamaa
open Go.RowKit

abbrev fl (c a y : Int) : Value := .agg #[.int .i64 c, .int .i64 a, .int .i64 y, .bool false, .int .i64 0, .int .i64 0]
theorem Blk.six {w : World} {g : Nat} {t : TypeId} {a b c d e f : Value} (h : Blk w g t #[a, b, c, d, e, f]) : w.cell? ⟨g, 0, none⟩ = some a ∧ w.cell? ⟨g, 1, none⟩ = some b ∧ w.cell? ⟨g, 2, none⟩ = some c ∧ w.cell? ⟨g, 3, none⟩ = some d ∧ w.cell? ⟨g, 4, none⟩ = some e ∧ w.cell? ⟨g, 5, none⟩ = some f :=
  ⟨(h.cell 0).trans rfl, (h.cell 1).trans rfl, (h.cell 2).trans rfl, (h.cell 3).trans rfl, (h.cell 4).trans rfl, (h.cell 5).trans rfl⟩
theorem results_fault {w : World} {fn : Func} {t : Tmp} (h : fn.results = #[.cell t 80]) (tmps : Array Value) {g : Nat} (ht : tmps.getD t undef = .pointer (some ⟨g, 0, none⟩)) {a b c d e f : Value} (hB : Blk w g 80 #[a, b, c, d, e, f]) :
    (results fn tmps).run Try.prog w = .ok (.agg #[a, b, c, d, e, f]) w := by
  obtain ⟨h0, h1, h2, h3, h4, h5⟩ := hB.six
  have ht' : tmps[t]?.getD undef = .pointer (some ⟨g, 0, none⟩) := by simpa using ht
  simp [results, h, ht', go_sem, h0, h1, h2, h3, h4, h5]
theorem assert104 (v : Value) (W : World) : (Instr.typeAssert (.iface 104 v) 41 104 true).run Try.prog W = .ok (.tuple #[v, .bool true]) W := by kernel_rfl
theorem assert104n (W : World) : (Instr.typeAssert .nilIface 41 104 true).run Try.prog W = .ok (.tuple #[.pointer none, .bool false]) W := by kernel_rfl
theorem assert63 (v : Value) (W : World) : (Instr.typeAssert (.iface 63 v) 41 63 true).run Try.prog W = .ok (.tuple #[v, .bool true]) W := by kernel_rfl
theorem assert63n (W : World) : (Instr.typeAssert .nilIface 41 63 true).run Try.prog W = .ok (.tuple #[.int .i64 0, .bool false]) W := by kernel_rfl

theorem fault_nil (w : World) : Calls Try.prog 33 #[.nilIface] w fun e w' => e = .returned (fl 0 0 0) ∧ Same w w' := by
  have hA := assert104n
  go_enter Try.func33, Try.ntmps33
  go_wp2_with fail
  exact bodyPost_ret (results_fault rfl _ rfl (Blk.new w 80 _)) rfl ⟨rfl, (Turned.refl _ _).alloc _⟩

set_option maxRecDepth 100000 in
set_option maxHeartbeats 4000000 in
theorem fault_any (w : World) (q : Nat) (c a y : Int) (hB : Blk w q 106 #[.int .i64 c, .int .i64 a, whyV y]) : Calls Try.prog 33 #[.iface 104 (.pointer (some ⟨q, 0, none⟩))] w fun e w' => e = .returned (fl c a y) ∧ Turned (fun k => k = q) w w' := by
  have hA := assert104
  have hA2 := assert63
  have hA3 := assert63n
  have hql := hB.lt
  have HB := Lib.hid hB
  have q0 := (hB.cell 0).trans rfl
  clear hB
  have HE : Hid (∀ z : Value, ∀ o, Blk ((((w.setCell ⟨q, 1, none⟩ (.int .i64 (-99))).alloc (.cells #[.int .i64 c, .int .i64 a, z, .bool false, .int .i64 0, .int .i64 0] 80)).alloc o).drew) w.heap.size 80 #[.int .i64 c, .int .i64 a, z, .bool false, .int .i64 0, .int .i64 0] ∧
      Turned (fun k => k = q) w ((((w.setCell ⟨q, 1, none⟩ (.int .i64 (-99))).alloc (.cells #[.int .i64 c, .int .i64 a, z, .bool false, .int .i64 0, .int .i64 0] 80)).alloc o).drew)) := by
    intro z o
    have hz : (w.setCell ⟨q, 1, none⟩ (.int .i64 (-99))).heap.size = w.heap.size := by simp [World.setCell]
    have h1 := Blk.new (w.setCell ⟨q, 1, none⟩ (.int .i64 (-99))) 80 #[.int .i64 c, .int .i64 a, z, .bool false, .int .i64 0, .int .i64 0]
    rw [hz] at h1
    exact ⟨(h1.alloc o).drew, ((((Turned.refl (fun k => k = q) w).setCell (p := ⟨q, 1, none⟩) (.inl rfl) _).alloc _).alloc o).drew⟩
  by_cases hy : y = 0
  · subst hy
    have p0 : w.cell? ⟨q, 0, none⟩ = some (.int .i64 c) := (HB.out.cell 0).trans rfl
    have p1 : w.cell? ⟨q, 1, none⟩ = some (.int .i64 a) := (HB.out.cell 1).trans rfl
    have p2 : w.cell? ⟨q, 2, none⟩ = some .nilIface := (HB.out.cell 2).trans rfl
    have pf := fun i => HB.out.frozen i
    clear q0
    go_enter Try.func33, Try.ntmps33
    go_wp2_with fail
    go_region_law (fail)
    all_goals
      go_wp2_with fail
      exact bodyPost_ret (results_fault rfl _ rfl (HE.out (.int .i64 0) _).1) rfl ⟨rfl, (HE.out (.int .i64 0) _).2⟩
  · have p0 : w.cell? ⟨q, 0, none⟩ = some (.int .i64 c) := (HB.out.cell 0).trans rfl
    have p1 : w.cell? ⟨q, 1, none⟩ = some (.int .i64 a) := (HB.out.cell 1).trans rfl
    have p2 : w.cell? ⟨q, 2, none⟩ = some (.iface 63 (.int .i64 y)) := by
      rw [HB.out.cell 2]
      show some (whyV y) = _
      unfold whyV; rw [if_neg hy]
    have pf := fun i => HB.out.frozen i
    clear q0 hy
    go_enter Try.func33, Try.ntmps33
    go_wp2_with fail
    go_region_law (fail)
    all_goals
      go_wp2_with fail
      exact bodyPost_ret (results_fault rfl _ rfl (HE.out (.int .i64 y) _).1) rfl ⟨rfl, (HE.out (.int .i64 y) _).2⟩
end Go.Proofs.Yteohhiefchoamaa

/-
  Two symbols compared: '==' and '!=' of api.Symbol.
-/
import Derived.Test.YtpknnhdpnmkpcaaState
import Derived.Laws.StructEq
import Derived.Lib.SlicesS
namespace Go.Proofs.Ytpknnhdpnmkpcaa
open Go.RowKit

def symEq (x y : Sym) : Bool := (x.name.toList == y.name.toList) && (x.arity == y.arity) && (x.defd == y.defd)
theorem symEq_same (x : Sym) : symEq x x = true := by simp [symEq]
theorem symEq_ne {x y : Sym} (h : x ≠ y) : symEq x y = false := by
  cases he : symEq x y with
  | false => rfl
  | true =>
    exfalso
    obtain ⟨s, a, c⟩ := x
    obtain ⟨t, b, d⟩ := y
    simp only [symEq, Bool.and_eq_true, beq_iff_eq] at he
    obtain ⟨⟨h1, h2⟩, h3⟩ := he
    apply h
    subst h2; subst h3
    congr 1
    apply Classical.byContradiction
    intro hne
    have := (Lib.bytes_beq_false_iff s t).2 hne
    rw [beq_eq_false_iff_ne] at this
    exact this h1
theorem sym_equal (w : World) (x y : Sym) : (Op.equalIn 10000 31 x.val y.val).run Try.prog w = .ok (symEq x y) w := by
  have hf : Try.prog.fieldsOf 31 = (match Try.prog.underlying 31 with | some (.struct fs) => fs | _ => #[]) := rfl
  rw [Try.underlying31] at hf
  unfold Sym.val
  rw [run_equalIn_struct w 9999 31 _ _ (by rw [hf]; exact Try.underlying31) (by kernel_rfl), hf]
  simp [Op.eqFields, go_sem, Try.underlying9, Try.underlying3, Try.underlying4, symEq]
  by_cases h1 : x.name.toList = y.name.toList <;> by_cases h2 : x.arity = y.arity <;> by_cases h3 : x.defd = y.defd <;> simp [h1, h2, h3]
theorem run_neq_sym (w : World) (x y : Sym) : (binOp .neq 31 x.val y.val).run Try.prog w = .ok (.bool (!symEq x y)) w := by
  unfold Sym.val
  rw [run_neq_struct]
  have := sym_equal w x y
  unfold Sym.val at this
  rw [this]; rfl
theorem run_eql_sym (w : World) (x y : Sym) : (binOp .eql 31 x.val y.val).run Try.prog w = .ok (.bool (symEq x y)) w := by
  unfold Sym.val
  rw [run_eql_struct]
  have := sym_equal w x y
  unfold Sym.val at this
  rw [this]; rfl
end Go.Proofs.Ytpknnhdpnmkpcaa

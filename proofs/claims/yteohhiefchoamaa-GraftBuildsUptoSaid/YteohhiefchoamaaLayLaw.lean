/-
  What lay makes, in plain: a list in prefix order, from the last to the first.
-/
import Derived.Test.YteohhiefchoamaaMake
namespace Go.Proofs.Yteohhiefchoamaa
open Go.RowKit

def arN (L : List Sym) (n : Int) : Nat := if n < 0 then 0 else ((L[n.toNat]?).map fun x => x.arity.toNat).getD 0
/-- A list of things in prefix order: as many as are wanted. -/
def Well (L : List Sym) : Nat → List Int → Prop
  | w, [] => w = 0
  | w, n :: r => 0 < w ∧ Well L (w - 1 + arN L n) r
def layF (L : List Sym) (base : Nat) : List (Int × Int) → List Int × List Nd
  | [] => ([], [])
  | (n, h) :: r => if n < 0 then (h :: (layF L base r).1, (layF L base r).2)
    else ((base + (layF L base r).2.length : Nat) :: (layF L base r).1.drop (arN L n), (layF L base r).2 ++ [⟨n, (layF L base r).1.take (arN L n), 0, false, 0⟩])
def syms (P : List (Int × Int)) : Nat := (P.filter fun x => decide (0 ≤ x.1)).length

theorem layF_len (L : List Sym) (base : Nat) : ∀ (P : List (Int × Int)) (w : Nat), Well L w (P.map (·.1)) → (layF L base P).1.length = w
  | [], w, h => by simpa [Well, layF] using h.symm
  | (n, h) :: r, w, hw => by
    obtain ⟨h0, h1⟩ := hw
    have ih := layF_len L base r _ h1
    unfold layF
    by_cases hn : n < 0
    · rw [if_pos hn]
      simp only [List.length_cons, ih]
      have : arN L n = 0 := by unfold arN; rw [if_pos hn]
      omega
    · rw [if_neg hn]
      simp only [List.length_cons, List.length_drop, ih]
      omega
theorem well_drop (L : List Sym) : ∀ (l : List Int) (w k : Nat), Well L w l → ∃ w', Well L w' (l.drop k)
  | [], w, k, h => ⟨w, by simpa using h⟩
  | n :: r, w, 0, h => ⟨w, by simpa using h⟩
  | n :: r, w, k + 1, h => by
    obtain ⟨w', h'⟩ := well_drop L r _ k h.2
    exact ⟨w', by simpa using h'⟩
theorem layF_cons_neg (L : List Sym) (base : Nat) {n h : Int} {r : List (Int × Int)} (hn : n < 0) : layF L base ((n, h) :: r) = (h :: (layF L base r).1, (layF L base r).2) := by
  rw [layF, if_pos hn]
theorem layF_cons_pos (L : List Sym) (base : Nat) {n h : Int} {r : List (Int × Int)} (hn : ¬ n < 0) : layF L base ((n, h) :: r) = (((base + (layF L base r).2.length : Nat) : Int) :: (layF L base r).1.drop (arN L n), (layF L base r).2 ++ [⟨n, (layF L base r).1.take (arN L n), 0, false, 0⟩]) := by
  rw [layF, if_neg hn]

theorem layF_syms (L : List Sym) (base : Nat) : ∀ P : List (Int × Int), (layF L base P).2.length = syms P
  | [] => rfl
  | (n, h) :: r => by
    have ih := layF_syms L base r
    by_cases hn : n < 0
    · rw [layF_cons_neg L base hn]
      simp only [syms, List.filter_cons, show ¬ (0 ≤ n) from by omega, decide_false, Bool.false_eq_true, if_false]
      exact ih
    · rw [layF_cons_pos L base hn]
      simp only [syms, List.filter_cons, show (0 ≤ n) from by omega, decide_true, if_true, List.length_append, List.length_cons, List.length_nil]
      rw [ih]; rfl
theorem syms_drop (P : List (Int × Int)) (k : Nat) : syms (P.drop k) ≤ syms P := by
  unfold syms
  have : (P.drop k).Sublist P := List.drop_sublist k P
  exact (this.filter _).length_le
/-- What stands on the stack is there. -/
theorem layF_in (L : List Sym) (base : Nat) : ∀ P : List (Int × Int), (∀ x ∈ P, x.1 < 0 → ∃ j : Nat, x.2 = (j : Int) ∧ j < base) → ∀ d ∈ (layF L base P).1, ∃ j : Nat, d = (j : Int) ∧ j < base + (layF L base P).2.length
  | [], _, d, h => by simp [layF] at h
  | (n, hd) :: r, hP, d, h => by
    have ih := layF_in L base r (fun x hx => hP x (by simp [hx]))
    unfold layF at h ⊢
    by_cases hn : n < 0
    · rw [if_pos hn] at h ⊢
      rcases List.mem_cons.1 h with e | h
      · obtain ⟨j, e1, e2⟩ := hP (n, hd) (by simp) hn
        exact ⟨j, by rw [e]; exact e1, by simp only; omega⟩
      · exact ih d h
    · rw [if_neg hn] at h ⊢
      simp only [List.length_append, List.length_cons, List.length_nil]
      rcases List.mem_cons.1 h with e | h
      · exact ⟨_, e, by omega⟩
      · obtain ⟨j, e1, e2⟩ := ih d (List.mem_of_mem_drop h)
        exact ⟨j, e1, by omega⟩
theorem ranked_nil : Ranked [] := ⟨fun _ => 0, fun i h => by simp at h⟩
/-- A new node above those that are there makes no ring. -/
theorem ranked_snoc {N : List Nd} (hr : Ranked N) (x : Nd) (hx : ∀ d ∈ down x, ∃ j : Nat, d = (j : Int) ∧ j < N.length) : Ranked (N ++ [x]) := by
  obtain ⟨rk, h⟩ := hr
  let m := (List.range N.length).foldr (fun j s => rk j + s) 0
  have hm : ∀ n, ∀ j < n, rk j ≤ (List.range n).foldr (fun j s => rk j + s) 0 := by
    intro n
    have gen : ∀ (l : List Nat) (j : Nat), j ∈ l → rk j ≤ l.foldr (fun j s => rk j + s) 0 := by
      intro l
      induction l with
      | nil => intro j h; simp at h
      | cons a r ih =>
        intro j hj
        simp only [List.foldr_cons]
        rcases List.mem_cons.1 hj with e | hj
        · subst e; omega
        · have := ih j hj; omega
    intro j hj
    exact gen _ j (by simpa using hj)
  refine ⟨fun i => if i < N.length then rk i else m + 1, fun i hi d hd => ?_⟩
  by_cases hlt : i < N.length
  · rw [List.getElem_append_left hlt] at hd
    obtain ⟨j, e, hj, hrk⟩ := h i hlt d hd
    exact ⟨j, e, by simp; omega, by simp only [if_pos hlt, if_pos hj]; exact hrk⟩
  · have hi2 : i = N.length := by simp at hi; omega
    subst hi2
    rw [List.getElem_append_right (Nat.le_refl _)] at hd
    simp only [Nat.sub_self, List.getElem_cons_zero] at hd
    obtain ⟨j, e, hj⟩ := hx d hd
    refine ⟨j, e, by simp; omega, ?_⟩
    simp only [if_pos hj, if_neg (Nat.lt_irrefl _)]
    have := hm N.length j hj
    show rk j < m + 1
    omega
theorem ranked_lay (L : List Sym) {N : List Nd} (hr : Ranked N) : ∀ P : List (Int × Int), (∀ x ∈ P, x.1 < 0 → ∃ j : Nat, x.2 = (j : Int) ∧ j < N.length) → Ranked (N ++ (layF L N.length P).2)
  | [], _ => by simpa [layF] using hr
  | (n, hd) :: r, hP => by
    have ih := ranked_lay L hr r (fun x hx => hP x (by simp [hx]))
    by_cases hn : n < 0
    · rw [layF_cons_neg L _ hn]; exact ih
    · rw [layF_cons_pos L _ hn]
      rw [← List.append_assoc]
      refine ranked_snoc ih _ (fun d hd2 => ?_)
      have hin := layF_in L N.length r (fun x hx => hP x (by simp [hx])) d (List.mem_of_mem_take (by simpa [down] using hd2))
      rw [List.length_append]
      exact hin
end Go.Proofs.Yteohhiefchoamaa

/-
  Places of things in prefix order, in plain: which stand beside each other, and where each ends; what is laid, by the places.
-/
import Derived.Test.YteohhiefchoamaaStaysLaw
namespace Go.Proofs.Yteohhiefchoamaa
open Go.RowKit

/-- The places of the things that stand beside each other from a place on. -/
def topsF (L : List Sym) : List Int → Nat → List Nat
  | [], _ => []
  | n :: r, m => m :: (topsF L r (m + 1)).drop (arN L n)
/-- How many numbers so many things take. -/
def consF (L : List Sym) : Nat → List Int → Nat
  | 0, _ => 0
  | _ + 1, [] => 0
  | w + 1, n :: r => 1 + consF L (w + arN L n) r
theorem consF_zero (L : List Sym) (r : List Int) : consF L 0 r = 0 := by cases r <;> rfl
theorem consF_le (L : List Sym) : ∀ (r : List Int) (w : Nat), consF L w r ≤ r.length
  | [], 0 => Nat.le_refl _
  | [], _ + 1 => Nat.le_refl _
  | _ :: _, 0 => Nat.zero_le _
  | n :: r, w + 1 => by
    have := consF_le L r (w + arN L n)
    simp only [consF, List.length_cons]
    omega
theorem topsF_drop (L : List Sym) : ∀ (r : List Int) (m w : Nat), (topsF L r m).drop w = topsF L (r.drop (consF L w r)) (m + consF L w r)
  | r, m, 0 => by rw [consF_zero]; rfl
  | [], m, w + 1 => by simp [topsF, consF]
  | n :: r, m, w + 1 => by
    have ih := topsF_drop L r (m + 1) (arN L n + w)
    simp only [topsF, List.drop_succ_cons, List.drop_drop, consF]
    rw [ih, show arN L n + w = w + arN L n from Nat.add_comm _ _, Nat.add_comm 1 (consF L (w + arN L n) r), List.drop_succ_cons]
    congr 1
    omega
theorem topsF_head (L : List Sym) {r : List Int} {m : Nat} (h : r ≠ []) : (topsF L r m)[0]? = some m := by
  cases r with
  | nil => exact absurd rfl h
  | cons n r => rfl
theorem topsF_len (L : List Sym) : ∀ (r : List Int) (m w : Nat), Well L w r → (topsF L r m).length = w
  | [], m, w, h => by simpa [Well, topsF] using h.symm
  | n :: r, m, w, h => by
    obtain ⟨h0, h1⟩ := h
    have ih := topsF_len L r (m + 1) _ h1
    simp only [topsF, List.length_cons, List.length_drop, ih]
    omega
/-- Where each item of what is laid is. -/
def adrF (L : List Sym) (base : Nat) : List (Int × Int) → List Int
  | [] => []
  | (n, h) :: r => (if n < 0 then h else ((base + (layF L base r).2.length : Nat) : Int)) :: adrF L base r
theorem adrF_len (L : List Sym) (base : Nat) : ∀ P : List (Int × Int), (adrF L base P).length = P.length
  | [] => rfl
  | (n, h) :: r => by simp [adrF, adrF_len L base r]
theorem lay_tops (L : List Sym) (base : Nat) : ∀ (P : List (Int × Int)) (m : Nat) (f : Nat → Int), (∀ j, j < P.length → (adrF L base P)[j]? = some (f (m + j))) → (layF L base P).1 = (topsF L (P.map (·.1)) m).map f
  | [], _, _, _ => rfl
  | (n, h) :: r, m, f, hf => by
    have h0 := hf 0 (by simp)
    have ih := lay_tops L base r (m + 1) f (fun j hj => by
      have := hf (j + 1) (by simpa using hj)
      simp only [adrF, List.getElem?_cons_succ] at this
      rw [this]
      congr 2
      omega)
    by_cases hn : n < 0
    · rw [layF_cons_neg L base hn]
      have ha : arN L n = 0 := by unfold arN; rw [if_pos hn]
      simp only [adrF, if_pos hn, List.getElem?_cons_zero, Nat.add_zero] at h0
      injection h0 with h0
      simp only [List.map_cons, topsF, ha, List.drop_zero]
      rw [← h0, ih]
    · rw [layF_cons_pos L base hn]
      simp only [adrF, if_neg hn, List.getElem?_cons_zero, Nat.add_zero] at h0
      injection h0 with h0
      simp only [List.map_cons, topsF, List.map_drop]
      rw [← h0, ih]
/-- The node that is laid at a place. -/
theorem lay_node (L : List Sym) (base : Nat) {P : List (Int × Int)} {i : Nat} (hi : i < P.length) (hn : ¬ P[i].1 < 0) :
    (layF L base (P.drop i)).2 = (layF L base (P.drop (i + 1))).2 ++ [⟨P[i].1, (layF L base (P.drop (i + 1))).1.take (arN L P[i].1), 0, false, 0⟩] := by
  have e : P.drop i = (P[i].1, P[i].2) :: P.drop (i + 1) := List.drop_eq_getElem_cons hi
  rw [e, layF_cons_pos L base hn]
theorem lay_skip (L : List Sym) (base : Nat) {P : List (Int × Int)} {i : Nat} (hi : i < P.length) (hn : P[i].1 < 0) :
    (layF L base (P.drop i)).2 = (layF L base (P.drop (i + 1))).2 := by
  have e : P.drop i = (P[i].1, P[i].2) :: P.drop (i + 1) := List.drop_eq_getElem_cons hi
  rw [e, layF_cons_neg L base hn]
theorem adrF_drop (L : List Sym) (base : Nat) : ∀ (P : List (Int × Int)) (m : Nat), (adrF L base P).drop m = adrF L base (P.drop m)
  | _, 0 => rfl
  | [], m + 1 => rfl
  | (n, h) :: r, m + 1 => by simp only [adrF, List.drop_succ_cons]; exact adrF_drop L base r m
theorem adrF_at (L : List Sym) (base : Nat) {P : List (Int × Int)} {i : Nat} (hi : i < P.length) : (adrF L base P)[i]? = some (if P[i].1 < 0 then P[i].2 else ((base + (layF L base (P.drop (i + 1))).2.length : Nat) : Int)) := by
  have h1 : (adrF L base P)[i]? = ((adrF L base P).drop i)[0]? := by rw [List.getElem?_drop, Nat.add_zero]
  rw [h1, adrF_drop]
  have e : P.drop i = (P[i].1, P[i].2) :: P.drop (i + 1) := List.drop_eq_getElem_cons hi
  rw [e]
  rfl
/-- The arguments of a symbol, by their places. -/
theorem lay_args (L : List Sym) (base : Nat) (P : List (Int × Int)) (i : Nat) (k : Nat) : (layF L base (P.drop i)).1.take k = ((topsF L ((P.drop i).map (·.1)) i).take k).map (fun p => (adrF L base P).getD p 0) := by
  rw [lay_tops L base (P.drop i) i (fun p => (adrF L base P).getD p 0) (fun j hj => by
    have hl : i + j < (adrF L base P).length := by rw [adrF_len]; rw [List.length_drop] at hj; omega
    rw [← adrF_drop, List.getElem?_drop, List.getD, List.getElem?_eq_getElem hl]; rfl), List.map_take]
end Go.Proofs.Yteohhiefchoamaa

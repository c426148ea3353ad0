/-
  What Build says, in plain.
-/
import Derived.Test.YteohhiefchoamaaParts
namespace Go.Proofs.Yteohhiefchoamaa
open Go.RowKit

noncomputable def leadF (N : List Nd) (a : Int) (p : List Int) : Int := p.foldl (argF N) a
/-- What is wrong with a part: the number that the fault comes of. -/
noncomputable def partBad (L : List Sym) (N : List Nd) (a : Int) (q : PartD) : Option Int :=
  if (L.length : Int) ≤ q.sym then some 14 else if q.sym < -1 then some 0 else if q.sym = -1 ∧ leadF N a q.path < 0 then some 0 else none
def partsBad (f : PartD → Option Int) : Nat → List PartD → Option (Nat × Int)
  | _, [] => none
  | i, q :: r => match f q with
    | some y => some (i, y)
    | none => partsBad f (i + 1) r
theorem partsBad_split {f : PartD → Option Int} : ∀ (l r : List PartD) (i : Nat), (∀ q ∈ l, f q = none) → partsBad f i (l ++ r) = partsBad f (i + l.length) r
  | [], r, i, _ => rfl
  | q :: l, r, i, h => by
    rw [List.cons_append, partsBad, h q (by simp)]
    simp only
    rw [partsBad_split l r (i + 1) (fun m hm => h m (by simp [hm]))]
    congr 1
    simp; omega
theorem partsBad_none {f : PartD → Option Int} {l : List PartD} {i : Nat} (h : ∀ q ∈ l, f q = none) : partsBad f i l = none := by
  have := partsBad_split l [] i h
  rw [List.append_nil] at this
  rw [this]; rfl
theorem partsBad_at {f : PartD → Option Int} {l : List PartD} {k : Nat} (hk : k < l.length) {y : Int} (h : ∀ q ∈ l.take k, f q = none) (hy : f l[k] = some y) : partsBad f 0 l = some (k, y) := by
  have e : l = l.take k ++ l[k] :: l.drop (k + 1) := by rw [← List.drop_eq_getElem_cons hk, List.take_append_drop]
  rw [e, partsBad_split _ _ _ h, partsBad, hy]
  simp; omega
noncomputable def handF (N : List Nd) (a : Int) (q : PartD) : Int := if q.sym = -1 then leadF N a q.path else 0
noncomputable def itemsF (N : List Nd) (a : Int) (Q : List PartD) : List (Int × Int) := Q.map fun q => (q.sym, handF N a q)
/-- The parts of a right side, as Build's numbers say. -/
noncomputable def rightBad (L : List Sym) (N : List Nd) (room : Int) (a : Int) (Q : List PartD) : Option (Int × Int × Int) :=
  match partsBad (partBad L N a) 0 Q with
  | some (i, y) => some (132, i, y)
  | none => if wellB L 1 (Q.map (·.sym)) = false then some (130, 0, 0) else if room - N.length < cntP (Q.map (·.sym)) then some (131, 0, 111) else none

theorem argF_in {N : List Nd} (hr : Ranked N) (a n : Int) : argF N a n = -1 ∨ ∃ j : Nat, argF N a n = (j : Int) ∧ j < N.length := by
  unfold argF
  cases hnd : ndF N a with
  | none => exact .inl rfl
  | some nd =>
    simp only
    by_cases hn : 0 ≤ n
    · rw [if_pos hn]
      cases hd : nd.args[n.toNat]? with
      | none => exact .inl rfl
      | some d =>
        unfold ndF at hnd
        by_cases ha : 0 ≤ a ∧ a < N.length
        · rw [if_pos ha] at hnd
          obtain ⟨c, hc⟩ := hr.res a.toNat (by omega)
          rw [resF_eq hc] at hnd
          obtain ⟨hcl, hcp⟩ := hc.lt
          have hp : nd.points = false := by rw [List.getElem?_eq_getElem hcl] at hnd; injection hnd with e; rw [← e]; exact hcp
          obtain ⟨t, rfl, ht⟩ := args_in hr hnd hp d (List.mem_of_getElem? hd)
          obtain ⟨q, hq⟩ := hr.res t ht
          right
          refine ⟨q, ?_, hq.lt.1⟩
          simp only [Int.toNat_natCast]
          rw [resF_eq hq]
        · rw [if_neg ha] at hnd; cases hnd
    · rw [if_neg hn]; exact .inl rfl
theorem leadF_in {N : List Nd} (hr : Ranked N) : ∀ (p : List Int) (a : Int), (a = -1 ∨ ∃ j : Nat, a = (j : Int) ∧ j < N.length) → leadF N a p = -1 ∨ ∃ j : Nat, leadF N a p = (j : Int) ∧ j < N.length
  | [], _, h => h
  | n :: r, a, _ => leadF_in hr r (argF N a n) (argF_in hr a n)
theorem leadF_snoc (N : List Nd) (a : Int) (p : List Int) (n : Int) : leadF N a (p ++ [n]) = argF N (leadF N a p) n := by simp [leadF]
/-- The first k of a list's numbers, the others 0. -/
def mkL (f : PartD → Int) (k : Nat) (Q : List PartD) : List Int := Q.mapIdx fun i q => if i < k then f q else 0
theorem mkL_length (f : PartD → Int) (k : Nat) (Q : List PartD) : (mkL f k Q).length = Q.length := by simp [mkL]
theorem mkL_succ (f : PartD → Int) (k : Nat) (Q : List PartD) (h : k < Q.length) : mkL f (k + 1) Q = (mkL f k Q).set k (f Q[k]) := by
  apply List.ext_getElem
  · simp [mkL]
  · intro i h1 h2
    simp only [mkL, List.getElem_mapIdx, List.getElem_set]
    by_cases he : k = i
    · subst he; simp
    · rw [if_neg he]
      by_cases hlt : i < k
      · rw [if_pos (by omega), if_pos hlt]
      · rw [if_neg (by omega), if_neg hlt]
theorem mkL_zero (f : PartD → Int) (k : Nat) (Q : List PartD) (h : k < Q.length) (hf : f Q[k] = 0) : mkL f (k + 1) Q = mkL f k Q := by
  rw [mkL_succ f k Q h, hf]
  apply List.ext_getElem
  · simp
  · intro i h1 h2
    rw [List.getElem_set]
    by_cases he : k = i
    · subst he; simp [mkL]
    · rw [if_neg he]
theorem mkL_start (f : PartD → Int) (Q : List PartD) : mkL f 0 Q = List.replicate Q.length 0 := by
  apply List.ext_getElem
  · simp [mkL]
  · intro i h1 h2; simp [mkL]
theorem mkL_full (f : PartD → Int) (Q : List PartD) : mkL f Q.length Q = Q.map f := by
  apply List.ext_getElem
  · simp [mkL]
  · intro i h1 h2
    have : i < Q.length := by simpa [mkL] using h1
    simp [mkL, this]
theorem mkL_at (f : PartD → Int) (k : Nat) (Q : List PartD) (i : Nat) (h : i < Q.length) : (mkL f k Q)[i]? = some (if i < k then f Q[i] else 0) := by
  simp [mkL, h]
theorem nInts_set (l : List Int) (k : Nat) (x : Int) : (nInts l).toArray.setIfInBounds k (.int .i64 x) = (nInts (l.set k x)).toArray := by
  apply Array.ext'
  simp [nInts, List.map_set]
end Go.Proofs.Yteohhiefchoamaa

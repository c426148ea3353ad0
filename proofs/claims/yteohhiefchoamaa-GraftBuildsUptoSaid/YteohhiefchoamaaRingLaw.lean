/-
  The plain law of Ring: soundness grows until nothing is added; then all are sound where no node stands beneath itself, and only there.
-/
import Derived.Test.YteohhiefchoamaaMay
namespace Go.Proofs.Yteohhiefchoamaa
open Go.RowKit

def nBools (l : List Bool) : List Value := l.map fun b => .bool b
def isF : Value → Bool
  | .bool false => true
  | _ => false
def cntF (B : List Bool) : Nat := (B.filter fun b => !b).length
/-- How many cells of a block are false. -/
def cntW (w : World) (g : Nat) : Nat :=
  match w.heap[g]? with
  | some (.cells cs _ _) => (cs.toList.filter isF).length
  | _ => 0
theorem cntF_vals (B : List Bool) : ((nBools B).filter isF).length = cntF B := by
  induction B with
  | nil => rfl
  | cons b r ih =>
    cases b
    · have e : ((nBools (false :: r)).filter isF).length = ((nBools r).filter isF).length + 1 := by simp [nBools, List.filter_cons, isF]
      rw [e, ih]; simp [cntF]
    · have e : ((nBools (true :: r)).filter isF).length = ((nBools r).filter isF).length := by simp [nBools, isF]
      rw [e, ih]; simp [cntF]
theorem cntW_blk {w : World} {g : Nat} {t : TypeId} {B : List Bool} (h : Blk w g t (nBools B).toArray) : cntW w g = cntF B := by
  unfold cntW
  unfold Blk at h
  rw [h]
  exact cntF_vals B
theorem cntF_set (B : List Bool) (i : Nat) (h : B[i]? = some false) : cntF (B.set i true) + 1 = cntF B := by
  induction B generalizing i with
  | nil => simp at h
  | cons b r ih =>
    cases i with
    | zero =>
      obtain rfl : b = false := by simpa using h
      simp [cntF]
    | succ i =>
      have := ih i (by simpa using h)
      cases b <;> simp [cntF] at this ⊢ <;> omega
/-- What is sound stands above sound ones alone. -/
def SoundOk (K : List Nd) (B : List Bool) : Prop :=
  B.length = K.length ∧ ∃ rk : Nat → Nat, ∀ i (h : i < K.length), B[i]? = some true → ∀ d ∈ down K[i], ∃ j : Nat, d = (j : Int) ∧ B[j]? = some true ∧ rk j < rk i
/-- One of what is beneath is not sound. -/
def Stuck (K : List Nd) (B : List Bool) (i : Nat) : Prop := ∃ x, K[i]? = some x ∧ ∃ d ∈ down x, ∃ j : Nat, d = (j : Int) ∧ B[j]? = some false
def InK (K : List Nd) : Prop := ∀ x ∈ K, ∀ d ∈ down x, ∃ j : Nat, d = (j : Int) ∧ j < K.length
theorem sound_start (K : List Nd) : SoundOk K (List.replicate K.length false) :=
  ⟨by simp, fun _ => 0, fun i h hb => by simp [h] at hb⟩
theorem le_sum (rk : Nat → Nat) (n j : Nat) (h : j < n) : rk j ≤ (List.range n).foldr (fun j s => rk j + s) 0 := by
  have gen : ∀ (l : List Nat) (j : Nat), j ∈ l → rk j ≤ l.foldr (fun j s => rk j + s) 0 := by
    intro l
    induction l with
    | nil => intro j h; simp at h
    | cons a r ih =>
      intro j hj
      simp only [List.foldr_cons]
      rcases List.mem_cons.1 hj with e | hj
      · subst e; omega
      · have := ih j hj; omega
  exact gen _ j (by simpa using h)
theorem sound_set {K : List Nd} {B : List Bool} (h : SoundOk K B) {i : Nat} {x : Nd} (hx : K[i]? = some x) (hB : B[i]? = some false) (hd : ∀ d ∈ down x, ∃ j : Nat, d = (j : Int) ∧ B[j]? = some true) : SoundOk K (B.set i true) := by
  obtain ⟨hl, rk, hr⟩ := h
  obtain ⟨hi, rfl⟩ := List.getElem?_eq_some_iff.1 hx
  refine ⟨by simpa using hl, fun k => if k = i then (List.range K.length).foldr (fun j s => rk j + s) 0 + 1 else rk k, fun k hk hb d hdk => ?_⟩
  by_cases e : k = i
  · subst e
    obtain ⟨j, e1, e2⟩ := hd d hdk
    have hji : j ≠ k := by intro e; subst e; rw [hB] at e2; cases e2
    have hjl : j < K.length := by rw [← hl]; exact (List.getElem?_eq_some_iff.1 e2).1
    refine ⟨j, e1, ?_, ?_⟩
    · rw [List.getElem?_set_ne (Ne.symm hji)]; exact e2
    · rw [show (fun k_1 => if k_1 = k then List.foldr (fun j s => rk j + s) 0 (List.range K.length) + 1 else rk k_1) k = List.foldr (fun j s => rk j + s) 0 (List.range K.length) + 1 from if_pos rfl]; simp only; rw [if_neg hji]
      have := le_sum rk K.length j hjl
      omega
  · rw [List.getElem?_set_ne (Ne.symm e)] at hb
    obtain ⟨j, e1, e2, e3⟩ := hr k hk hb d hdk
    have hji : j ≠ i := by intro e; subst e; rw [hB] at e2; cases e2
    refine ⟨j, e1, ?_, ?_⟩
    · rw [List.getElem?_set_ne (Ne.symm hji)]; exact e2
    · simp only; rw [if_neg hji, if_neg e]; exact e3
theorem sound_ranked {K : List Nd} {B : List Bool} (h : SoundOk K B) (ha : ∀ i < K.length, B[i]? = some true) : Ranked K := by
  obtain ⟨hl, rk, hr⟩ := h
  refine ⟨rk, fun i hi d hd => ?_⟩
  obtain ⟨j, e1, e2, e3⟩ := hr i hi (ha i hi) d hd
  exact ⟨j, e1, by rw [← hl]; exact (List.getElem?_eq_some_iff.1 e2).1, e3⟩
theorem stuck_not {K : List Nd} {B : List Bool} (hs : ∀ i < K.length, B[i]? = some false → Stuck K B i) {i : Nat} (hi : i < K.length) (hb : B[i]? = some false) : ¬ Ranked K := by
  rintro ⟨rk, hr⟩
  have key : ∀ n i, rk i < n → i < K.length → B[i]? = some false → False := by
    intro n
    induction n with
    | zero => intro i h; omega
    | succ n ih =>
      intro i hlt hi hb
      obtain ⟨x, hx, d, hd, j, e1, e2⟩ := hs i hi hb
      obtain ⟨_, rfl⟩ := List.getElem?_eq_some_iff.1 hx
      obtain ⟨j', e3, e4, e5⟩ := hr i hi d hd
      obtain rfl : j = j' := by omega
      exact ih j (by omega) e4 e2
  exact key (rk i + 1) i (by omega) hi hb
/-- What a pass over the nodes has done. -/
structure Pass (K : List Nd) (B0 B : List Bool) (b : Bool) : Prop where
  ok : SoundOk K B
  no : b = false → B = B0
  yes : b = true → cntF B < cntF B0
theorem Pass.set {K : List Nd} {B0 B : List Bool} {b : Bool} (h : Pass K B0 B b) {i : Nat} {x : Nd} (hx : K[i]? = some x) (hB : B[i]? = some false) (hd : ∀ d ∈ down x, ∃ j : Nat, d = (j : Int) ∧ B[j]? = some true) : Pass K B0 (B.set i true) true := by
  refine ⟨sound_set h.ok hx hB hd, by simp, fun _ => ?_⟩
  have h1 := cntF_set B i hB
  cases b with
  | false => rw [← h.no rfl]; omega
  | true => have := h.yes rfl; omega
theorem mayp_in {K : List Nd} (h : ∀ x ∈ K, MayP x K.length) : InK K := by
  intro x hx d hd
  have hm := h x hx
  unfold down at hd
  split at hd
  · rename_i hp
    obtain rfl : d = x.to := by simpa using hd
    have := (hm.pts hp).1
    exact ⟨x.to.toNat, by omega, by omega⟩
  · have := hm.args d hd
    exact ⟨d.toNat, by omega, by omega⟩
theorem nBools_len (B : List Bool) : (nBools B).length = B.length := by simp [nBools]
theorem nBools_at {w : World} {g : Nat} {B : List Bool} (h : Blk w g 4 (nBools B).toArray) {i : Nat} {b : Bool} (hb : B[i]? = some b) : w.cell? ⟨g, i, none⟩ = some (.bool b) := by
  rw [h.cell i]; simp [nBools, hb]
theorem nBools_set {w : World} {g : Nat} {B : List Bool} (h : Blk w g 4 (nBools B).toArray) (i : Nat) (b : Bool) : Blk (w.setCell ⟨g, i, none⟩ (.bool b)) g 4 (nBools (B.set i b)).toArray := by
  have := h.set_ i (.bool b)
  simpa [nBools, List.map_set] using this
end Go.Proofs.Yteohhiefchoamaa

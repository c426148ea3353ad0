/-
  What stands beneath a node, in plain: the search of it; to point a node elsewhere makes no ring, if it does not stand beneath that.
-/
import Derived.Test.YteohhiefchoamaaStaysLaw
namespace Go.Proofs.Yteohhiefchoamaa
open Go.RowKit

inductive Reach (K : List Nd) : Nat → Nat → Prop
  | refl (a : Nat) : Reach K a a
  | step {a t b : Nat} {x : Nd} (hx : K[a]? = some x) (ht : (t : Int) ∈ down x) (r : Reach K t b) : Reach K a b
theorem Reach.snoc {K : List Nd} {a b c : Nat} {x : Nd} (h : Reach K a b) (hx : K[b]? = some x) (hc : (c : Int) ∈ down x) : Reach K a c := by
  induction h with
  | refl => exact .step hx hc (.refl _)
  | step h1 h2 _ ih => exact .step h1 h2 (ih hx)
/-- A search at work: B is seen, T is to do. -/
structure Dfs (K : List Nd) (f : Nat) (B : List Bool) (T : List Int) : Prop where
  len : B.length = K.length
  inn : Under K.length T
  snd : ∀ x : Nat, (B[x]? = some true ∨ (x : Int) ∈ T) → Reach K f x
  cls : ∀ (i : Nat) (x : Nd), B[i]? = some true → K[i]? = some x → ∀ j : Nat, (j : Int) ∈ down x → B[j]? = some true ∨ (j : Int) ∈ T
  bgn : B[f]? = some true ∨ (f : Int) ∈ T
theorem Dfs.start {K : List Nd} {f : Nat} (hf : f < K.length) : Dfs K f (List.replicate K.length false) [(f : Int)] := by
  have hn : ∀ x : Nat, (List.replicate K.length false)[x]? ≠ some true := by
    intro x h
    have := List.eq_of_mem_replicate (List.mem_of_getElem? h)
    cases this
  refine ⟨by simp, fun d hd => ⟨f, by simpa using hd, hf⟩, fun x hx => ?_, fun i x hb => absurd hb (hn i), .inr (by simp)⟩
  rcases hx with h | h
  · exact absurd h (hn x)
  · have : x = f := Int.ofNat.inj (by simpa using h)
    rw [this]; exact .refl f
theorem Dfs.old {K : List Nd} {f x : Nat} {B : List Bool} {T : List Int} (h : Dfs K f B (T ++ [(x : Int)])) (hb : B[x]? = some true) : Dfs K f B T := by
  have hm : ∀ j : Nat, (j : Int) ∈ T ++ [(x : Int)] → B[j]? = some true ∨ (j : Int) ∈ T := by
    intro j hj
    rcases List.mem_append.1 hj with h1 | h1
    · exact .inr h1
    · have : j = x := Int.ofNat.inj (by simpa using h1)
      rw [this]; exact .inl hb
  refine ⟨h.len, fun d hd => h.inn d (by simp [hd]), fun y hy => h.snd y (hy.elim .inl (fun h1 => .inr (by simp [h1]))), fun i y h1 h2 j h3 => ?_, ?_⟩
  · rcases h.cls i y h1 h2 j h3 with h4 | h4
    · exact .inl h4
    · exact hm j h4
  · rcases h.bgn with h4 | h4
    · exact .inl h4
    · exact hm f h4
theorem Dfs.new {K : List Nd} {f x : Nat} {B : List Bool} {T : List Int} {nd : Nd} (h : Dfs K f B (T ++ [(x : Int)])) (hb : B[x]? = some false) (hx : K[x]? = some nd) (hin : Under K.length (down nd)) : Dfs K f (B.set x true) (T ++ down nd) := by
  have hxl : x < B.length := (List.getElem?_eq_some_iff.1 hb).1
  have hset : ∀ j : Nat, B[j]? = some true → (B.set x true)[j]? = some true := by
    intro j hj
    by_cases e : x = j
    · subst e; rw [List.getElem?_set_self hxl]
    · rw [List.getElem?_set_ne e]; exact hj
  have hself : (B.set x true)[x]? = some true := List.getElem?_set_self hxl
  have hrx : Reach K f x := h.snd x (.inr (by simp))
  have hm : ∀ j : Nat, (j : Int) ∈ T ++ [(x : Int)] → (B.set x true)[j]? = some true ∨ (j : Int) ∈ T ++ down nd := by
    intro j hj
    rcases List.mem_append.1 hj with h1 | h1
    · exact .inr (by simp [h1])
    · have : j = x := Int.ofNat.inj (by simpa using h1)
      rw [this]; exact .inl hself
  refine ⟨by simpa using h.len, fun d hd => ?_, fun y hy => ?_, fun i y h1 h2 j h3 => ?_, ?_⟩
  · rcases List.mem_append.1 hd with h1 | h1
    · exact h.inn d (by simp [h1])
    · exact hin d h1
  · rcases hy with h1 | h1
    · by_cases e : x = y
      · subst e; exact hrx
      · rw [List.getElem?_set_ne e] at h1
        exact h.snd y (.inl h1)
    · rcases List.mem_append.1 h1 with h2 | h2
      · exact h.snd y (.inr (by simp [h2]))
      · exact hrx.snoc hx h2
  · by_cases e : x = i
    · subst e
      rw [hx] at h2
      injection h2 with h2
      subst h2
      exact .inr (by simp [h3])
    · rw [List.getElem?_set_ne e] at h1
      rcases h.cls i y h1 h2 j h3 with h4 | h4
      · exact .inl (hset j h4)
      · exact hm j h4
  · rcases h.bgn with h4 | h4
    · exact .inl (hset f h4)
    · exact hm f h4
theorem Dfs.all {K : List Nd} {f : Nat} {B : List Bool} (h : Dfs K f B []) {j : Nat} (hr : Reach K f j) : B[j]? = some true := by
  have key : ∀ {a b : Nat}, Reach K a b → B[a]? = some true → B[b]? = some true := by
    intro a b hr
    induction hr with
    | refl => exact id
    | step hx ht _ ih =>
      intro hb
      rcases h.cls _ _ hb hx _ ht with h1 | h1
      · exact ih h1
      · simp at h1
  rcases h.bgn with h1 | h1
  · exact key hr h1
  · simp at h1
/-- How much a search has before it. -/
def wtL : List Bool → List Nd → Nat
  | b :: B, x :: K => (if b then 0 else (down x).length) + wtL B K
  | _, _ => 0
def wtV : List Value → List Nd → Nat
  | v :: B, x :: K => (if isF v then (down x).length else 0) + wtV B K
  | _, _ => 0
def wtW (w : World) (g : Nat) (K : List Nd) : Nat :=
  match w.heap[g]? with
  | some (.cells cs _ _) => wtV cs.toList K
  | _ => 0
theorem wtV_vals : ∀ (B : List Bool) (K : List Nd), wtV (nBools B) K = wtL B K
  | [], _ => by simp [nBools, wtV, wtL]
  | b :: B, [] => by simp [nBools, wtV, wtL]
  | b :: B, x :: K => by
    have := wtV_vals B K
    cases b <;> simp [nBools, wtV, wtL, isF] at this ⊢ <;> exact this
theorem wtW_blk {w : World} {g : Nat} {t : TypeId} {B : List Bool} {K : List Nd} (h : Blk w g t (nBools B).toArray) : wtW w g K = wtL B K := by
  unfold wtW
  unfold Blk at h
  rw [h]
  exact wtV_vals B K
theorem wtL_set : ∀ (B : List Bool) (K : List Nd) (i : Nat) (x : Nd), B[i]? = some false → K[i]? = some x → wtL (B.set i true) K + (down x).length = wtL B K
  | [], _, _, _, h, _ => by simp at h
  | _ :: _, [], _, _, _, h => by simp at h
  | b :: B, y :: K, 0, x, hb, hx => by
    obtain rfl : b = false := by simpa using hb
    obtain rfl : y = x := by simpa using hx
    simp [wtL]; omega
  | b :: B, y :: K, i + 1, x, hb, hx => by
    have := wtL_set B K i x (by simpa using hb) (by simpa using hx)
    simp only [List.set_cons_succ, wtL]
    omega
theorem wtL_le : ∀ (B : List Bool) (K : List Nd), (∀ x ∈ K, (down x).length ≤ 6) → wtL B K ≤ 6 * K.length
  | [], _, _ => by simp [wtL]
  | _ :: _, [], _ => by simp [wtL]
  | b :: B, x :: K, h => by
    have h1 := wtL_le B K (fun y hy => h y (by simp [hy]))
    have h2 := h x (by simp)
    simp only [wtL, List.length_cons]
    split <;> omega
/-- What a node of a heap is. -/
structure NodeOk (x : Nd) : Prop where
  a6 : x.args.length ≤ 6
  pt : x.points = true → x.args = []
  mk0 : 0 ≤ x.mark
theorem NodeOk.down6 {x : Nd} (h : NodeOk x) : (down x).length ≤ 6 := by
  unfold down
  split
  · simp
  · exact h.a6
theorem NodeOk.of {x : Nd} {m : Int} (h : MayP x m) : NodeOk x := ⟨h.len, fun hp => (h.pts hp).2, h.mk0⟩
theorem ranked_point {K : List Nd} {a t : Nat} (hr : Ranked K) (ht : t < K.length) (hn : ¬ Reach K t a) (x : Nd) (hx : down x = [(t : Int)]) : Ranked (K.set a x) := by
  obtain ⟨rk, h⟩ := hr
  classical
  refine ⟨fun i => if Reach K i a then rk i + rk t + 1 else rk i, fun i hi d hd => ?_⟩
  have hi' : i < K.length := by simpa using hi
  by_cases e : a = i
  · subst e
    rw [List.getElem_set_self, hx] at hd
    obtain rfl : d = (t : Int) := by simpa using hd
    refine ⟨t, rfl, by simpa using ht, ?_⟩
    simp only
    rw [if_neg hn, if_pos (Reach.refl a)]
    omega
  · rw [List.getElem_set_ne e] at hd
    obtain ⟨j, e1, e2, e3⟩ := h i hi' d hd
    refine ⟨j, e1, by simpa using e2, ?_⟩
    simp only
    by_cases hj : Reach K j a
    · have hia : Reach K i a := .step (List.getElem?_eq_getElem hi') (by rw [← e1]; exact hd) hj
      rw [if_pos hj, if_pos hia]
      omega
    · rw [if_neg hj]
      split <;> omega
theorem ranked_same {K : List Nd} {a : Nat} (hr : Ranked K) (x : Nd) (hx : ∀ y, K[a]? = some y → down x = down y) : Ranked (K.set a x) := by
  obtain ⟨rk, h⟩ := hr
  refine ⟨rk, fun i hi d hd => ?_⟩
  have hi' : i < K.length := by simpa using hi
  by_cases e : a = i
  · subst e
    rw [List.getElem_set_self, hx _ (List.getElem?_eq_getElem hi')] at hd
    obtain ⟨j, e1, e2, e3⟩ := h a hi' d hd
    exact ⟨j, e1, by simpa using e2, e3⟩
  · rw [List.getElem_set_ne e] at hd
    obtain ⟨j, e1, e2, e3⟩ := h i hi' d hd
    exact ⟨j, e1, by simpa using e2, e3⟩
end Go.Proofs.Yteohhiefchoamaa

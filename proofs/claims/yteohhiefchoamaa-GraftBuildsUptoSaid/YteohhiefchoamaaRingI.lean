/-
  The memory of heap.ring: what each node wants, who stands above each, what is free.
-/
import Derived.Test.YteohhiefchoamaaRRing
import Derived.Test.YteohhiefchoamaaRTerm
namespace Go.Proofs.Yteohhiefchoamaa
open Go.RowKit

structure RingS (w wr : World) (gw ga : Nat) (W : List Int) (V : List Value) (R : List (List Int)) (fv : Value) (F : List Int) : Prop where
  same : Same w wr
  wants : Blk wr gw 3 (nInts W).toArray
  above : Blk wr ga 26 V.toArray
  rl : R.length = V.length
  rows : ∀ (j : Nat) (v : Value) (r : List Int), V[j]? = some v → R[j]? = some r → wr.ownsRow 0 3 1 v r.length (nInts r)
  free : wr.ownsRow 0 3 1 fv F.length (nInts F)
  nw : w.heap.size ≤ gw
  na : w.heap.size ≤ ga
  nv : ∀ v ∈ V, ∀ k, v.ownBlock = some k → w.heap.size ≤ k ∧ k ≠ gw ∧ fv.ownBlock ≠ some k
  nf : ∀ k, fv.ownBlock = some k → w.heap.size ≤ k ∧ k ≠ gw
  apart : ∀ (i j : Nat) (vi vj : Value) (k : Nat), V[i]? = some vi → V[j]? = some vj → vi.ownBlock = some k → vj.ownBlock = some k → i = j
section
variable {w wr w' w1 w2 : World} {gw ga : Nat} {W : List Int} {V : List Value} {R : List (List Int)} {fv : Value} {F : List Int}
theorem RingS.later (h : RingS w wr gw ga W V R fv F) (ht : Same wr w') : RingS w w' gw ga W V R fv F :=
  ⟨h.same.trans ht (fun _ h => h.elim), h.wants.turned ht (fun h => h), h.above.turned ht (fun h => h), h.rl, fun j v r h1 h2 => World.ownsRow.turned (h.rows j v r h1 h2) ht (fun _ _ h => h), World.ownsRow.turned h.free ht (fun _ _ h => h), h.nw, h.na, h.nv, h.nf, h.apart⟩
theorem RingS.ne (h : RingS w wr gw ga W V R fv F) : gw ≠ ga := Blk.ne_ h.wants h.above (by decide)
theorem RingS.setWant (h : RingS w wr gw ga W V R fv F) (i : Nat) (x : Int) : RingS w (wr.setCell ⟨gw, i, none⟩ (.int .i64 x)) gw ga (W.set i x) V R fv F := by
  have ht : Turned (fun k => k = gw) wr (wr.setCell ⟨gw, i, none⟩ (.int .i64 x)) := Turned.setCell (S := fun k => k = gw) (Turned.refl _ wr) (p := ⟨gw, i, none⟩) (.inl rfl) _
  refine ⟨h.same.trans ht (fun k hk => .inr (by rw [hk]; exact h.nw)), ?_, h.above.turned ht (fun e => h.ne e.symm), h.rl, fun j v r h1 h2 => World.ownsRow.turned (h.rows j v r h1 h2) ht (fun k hk e => (h.nv v (List.mem_of_getElem? h1) k hk).2.1 e), World.ownsRow.turned h.free ht (fun k hk e => (h.nf k hk).2 e), h.nw, h.na, h.nv, h.nf, h.apart⟩
  have := h.wants.set_ i (.int .i64 x)
  rwa [nInts_set] at this
theorem RingS.pushFree (h : RingS w wr gw ga W V R fv F) (hs : Same wr w1) {x : Int} {fv2 : Value}
    (ho : w2.ownsRow 0 3 1 fv2 (F.length + 1) (nInts F ++ nInts [x])) (hg : w1.grownBy w2 fv.ownBlock) (hat : fv2.ownBlock = fv.ownBlock ∨ fv2.ownBlock = some w1.heap.size) :
    RingS w w2 gw ga W V R fv2 (F ++ [x]) := by
  have h1 := h.later hs
  have ht : Turned (fun k => fv.ownBlock = some k) w1 w2 := (Turned.refl _ _).grown hg (fun k hk => .inl hk)
  have hlt : ∀ v ∈ V, ∀ k, v.ownBlock = some k → k < w1.heap.size := by
    intro v hv k hk
    obtain ⟨j, hj, rfl⟩ := List.mem_iff_getElem.1 hv
    obtain ⟨r, hr⟩ : ∃ r, R[j]? = some r := ⟨R[j]'(by rw [h.rl]; exact hj), by simp⟩
    exact own_lt (h1.rows j _ r (by simp [hj]) hr) hk
  refine ⟨h1.same.trans ht (fun k hk => .inr (h1.nf k hk).1), h1.wants.turned ht (fun e => (h1.nf _ e).2 rfl), h1.above.turned ht (fun e => own_blk_ne h1.free h1.above (by decide) e), h.rl, fun j v r h3 h4 => World.ownsRow.turned (h1.rows j v r h3 h4) ht (fun k hk e => (h1.nv v (List.mem_of_getElem? h3) k hk).2.2 e), ?_, h.nw, h.na, fun v hv k hk => ⟨(h.nv v hv k hk).1, (h.nv v hv k hk).2.1, fun e => ?_⟩, fun k hk => ?_, h.apart⟩
  · rw [List.length_append, show nInts (F ++ [x]) = nInts F ++ nInts [x] from by simp [nInts]]; exact ho
  · rcases hat with e2 | e2
    · exact (h.nv v hv k hk).2.2 (e2.symm.trans e)
    · have e3 := e2.symm.trans e
      obtain rfl : w1.heap.size = k := by simpa using e3
      exact absurd (hlt v hv _ hk) (Nat.lt_irrefl _)
  · rcases hat with e2 | e2
    · exact h.nf k (e2.symm.trans hk)
    · have e3 := e2.symm.trans hk
      obtain rfl : w1.heap.size = k := by simpa using e3
      exact ⟨h1.same.size, fun e => absurd h1.wants.lt (by omega)⟩
theorem RingS.popFree {A : Option Addr} {n c : Nat} {x : Int} (h : RingS w wr gw ga W V R (.slice A (n + 1) c) (F ++ [x])) (hn : F.length = n) : RingS w wr gw ga W V R (.slice A n c) F ∧ ∃ g, A = some ⟨g, 0, none⟩ ∧ wr.cell? ⟨g, n, none⟩ = some (.int .i64 x) ∧ n + 1 ≤ c := by
  have hTo := h.free
  rw [List.length_append, show nInts (F ++ [x]) = nInts F ++ nInts [x] from by simp [nInts]] at hTo
  have hl1 : F.length + [x].length = n + 1 := by simp [hn]
  rw [hl1] at hTo
  obtain ⟨g, cap, hv, _, _⟩ := hTo.form (by omega)
  obtain ⟨rfl, rfl⟩ : A = some ⟨g, 0, none⟩ ∧ c = cap := by simpa using hv
  have hcap : n + 1 ≤ c := by
    obtain ⟨ax, cx, ex, h1, _⟩ := own_shape hTo
    have : c = cx := by injection ex
    omega
  have hln : (nInts F).length = n := by simp [nInts, hn]
  have top := row_cell hTo (j := n) (u := .int .i64 x) (by rw [List.getElem?_append_right (by omega), hln, Nat.sub_self]; rfl)
  have hShr := own_shrink hTo (by rw [hln]; omega)
  refine ⟨⟨h.same, h.wants, h.above, h.rl, h.rows, by rw [hn]; exact hShr, h.nw, h.na, fun v hv k hk => ⟨(h.nv v hv k hk).1, (h.nv v hv k hk).2.1, fun e => (h.nv v hv k hk).2.2 (by simpa [Value.ownBlock] using e)⟩, fun k hk => h.nf k (by simpa [Value.ownBlock] using hk), h.apart⟩, g, rfl, top, hcap⟩
theorem RingS.pushRow (h : RingS w wr gw ga W V R fv F) (hs : Same wr w1) {a : Nat} {v v2 : Value} {r : List Int} {x : Int} (hv : V[a]? = some v) (hr : R[a]? = some r)
    (ho : w2.ownsRow 0 3 1 v2 (r.length + 1) (nInts r ++ nInts [x])) (hg : w1.grownBy w2 v.ownBlock) (hat : v2.ownBlock = v.ownBlock ∨ v2.ownBlock = some w1.heap.size) :
    RingS w (w2.setCell ⟨ga, a, none⟩ v2) gw ga W (V.set a v2) (R.set a (r ++ [x])) fv F ∧ Blk w2 ga 26 V.toArray := by
  have h1 := h.later hs
  have hvm := List.mem_of_getElem? hv
  have hav : a < V.length := (List.getElem?_eq_some_iff.1 hv).1
  have har : a < R.length := (List.getElem?_eq_some_iff.1 hr).1
  have ht : Turned (fun k => v.ownBlock = some k) w1 w2 := (Turned.refl _ _).grown hg (fun k hk => .inl hk)
  have hga : ∀ {n xs} {u : Value}, w1.ownsRow 0 3 1 u n xs → u.ownBlock ≠ some ga := fun ho => own_blk_ne ho h1.above (by decide)
  have hA2 : Blk w2 ga 26 V.toArray := h1.above.turned ht (fun e => hga (h1.rows a v r hv hr) e)
  have hset : Turned (fun k => k = ga) w2 (w2.setCell ⟨ga, a, none⟩ v2) := Turned.setCell (S := fun k => k = ga) (Turned.refl _ w2) (p := ⟨ga, a, none⟩) (.inl rfl) _
  have hW2 : Blk w2 gw 3 (nInts W).toArray := h1.wants.turned ht (fun e => (h1.nv v hvm _ e).2.1 rfl)
  have hF2 : w2.ownsRow 0 3 1 fv F.length (nInts F) := World.ownsRow.turned h1.free ht (fun k hk e => (h1.nv v hvm k e).2.2 hk)
  have hlt : ∀ (j : Nat) (u : Value), V[j]? = some u → ∀ k, u.ownBlock = some k → k < w1.heap.size := by
    intro j u hu k hk
    obtain ⟨r, hr⟩ : ∃ r, R[j]? = some r := ⟨R[j]'(by rw [h.rl]; exact (List.getElem?_eq_some_iff.1 hu).1), by simp⟩
    exact own_lt (h1.rows j _ r hu hr) hk
  have hv2 : ∀ k, v2.ownBlock = some k → w.heap.size ≤ k ∧ k ≠ gw ∧ fv.ownBlock ≠ some k := by
    intro k hk
    rcases hat with e | e
    · exact h.nv v hvm k (e.symm.trans hk)
    · have e2 := e.symm.trans hk
      obtain rfl : w1.heap.size = k := by simpa using e2
      exact ⟨h1.same.size, fun e => absurd h1.wants.lt (by omega), fun e => absurd (own_lt h1.free e) (Nat.lt_irrefl _)⟩
  have hv3 : ∀ (j : Nat) (u : Value) (k : Nat), V[j]? = some u → u.ownBlock = some k → v2.ownBlock = some k → j = a := by
    intro j u k hu hk hk2
    rcases hat with e | e
    · exact h.apart j a u v k hu hv hk (e.symm.trans hk2)
    · have e2 := e.symm.trans hk2
      obtain rfl : w1.heap.size = k := by simpa using e2
      exact absurd (hlt j u hu _ hk) (Nat.lt_irrefl _)
  refine ⟨⟨(h1.same.trans ht (fun k hk => .inr (h1.nv v hvm k hk).1)).trans hset (fun k hk => .inr (by rw [hk]; exact h.na)), hW2.turned hset (fun e => h.ne e), ?_, by simp [h.rl], ?_, World.ownsRow.turned hF2 hset (fun k hk e => own_blk_ne hF2 hA2 (by decide) (by rw [hk, e])), h.nw, h.na, ?_, h.nf, ?_⟩, hA2⟩
  · have := hA2.set_ a v2
    simpa using this
  · intro j u q hu hq
    by_cases e : a = j
    · subst e
      rw [List.getElem?_set_self hav] at hu
      rw [List.getElem?_set_self har] at hq
      injection hu with hu; injection hq with hq
      subst hu; subst hq
      refine World.ownsRow.turned ?_ hset (fun k hk e => own_blk_ne ho hA2 (by decide) (by rw [hk, e]))
      rw [List.length_append, show nInts (r ++ [x]) = nInts r ++ nInts [x] from by simp [nInts]]; exact ho
    · rw [List.getElem?_set_ne e] at hu hq
      have h5 := World.ownsRow.turned (h1.rows j u q hu hq) ht (fun k hk e2 => e (h.apart a j v u k hv hu e2 hk))
      exact World.ownsRow.turned h5 hset (fun k hk e => own_blk_ne h5 hA2 (by decide) (by rw [hk, e]))
  · intro u hu k hk
    obtain ⟨j, hj⟩ := List.getElem?_of_mem hu
    by_cases e : a = j
    · subst e
      rw [List.getElem?_set_self hav] at hj
      injection hj with hj
      subst hj
      exact hv2 k hk
    · rw [List.getElem?_set_ne e] at hj
      exact h.nv u (List.mem_of_getElem? hj) k hk
  · intro i j vi vj k hi hj hki hkj
    by_cases e1 : a = i
    · subst e1
      by_cases e2 : a = j
      · exact e2
      · rw [List.getElem?_set_self hav] at hi
        rw [List.getElem?_set_ne e2] at hj
        injection hi with hi
        subst hi
        exact (hv3 j vj k hj hkj hki).symm
    · rw [List.getElem?_set_ne e1] at hi
      by_cases e2 : a = j
      · subst e2
        rw [List.getElem?_set_self hav] at hj
        injection hj with hj
        subst hj
        exact hv3 i vi k hi hki hkj
      · rw [List.getElem?_set_ne e2] at hj
        exact h.apart i j vi vj k hi hj hki hkj
end

def potL (W : List Int) : Nat := (W.map Int.toNat).sum
def posV : Value → Nat
  | .int _ n => n.toNat
  | _ => 0
def potW (w : World) (g : Nat) : Nat :=
  match w.heap[g]? with
  | some (.cells cs _ _) => (cs.toList.map posV).sum
  | _ => 0
theorem potW_blk {w : World} {g : Nat} {t : TypeId} {W : List Int} (h : Blk w g t (nInts W).toArray) : potW w g = potL W := by
  unfold potW
  unfold Blk at h
  rw [h]
  simp only [nInts, potL, List.map_map]
  congr 1
theorem potL_set (W : List Int) (i : Nat) (y : Int) (h : W[i]? = some y) : potL (W.set i (y - 1)) + (if 0 < y then 1 else 0) = potL W := by
  induction W generalizing i with
  | nil => simp at h
  | cons a r ih =>
    cases i with
    | zero =>
      obtain rfl : a = y := by simpa using h
      simp only [potL, List.set_cons_zero, List.map_cons, List.sum_cons]
      split <;> omega
    | succ i =>
      have := ih i (by simpa using h)
      simp only [potL, List.set_cons_succ, List.map_cons, List.sum_cons] at this ⊢
      omega
theorem potL_le (W : List Int) (m : Nat) (h : ∀ x ∈ W, x ≤ m) : potL W ≤ m * W.length := by
  induction W with
  | nil => simp [potL]
  | cons a r ih =>
    have h1 := ih (fun x hx => h x (by simp [hx]))
    have h2 := h a (by simp)
    simp only [potL, List.map_cons, List.sum_cons, List.length_cons, Nat.mul_add] at h1 ⊢
    omega
/-- All of a list are places below n. -/
def Under (n : Nat) (l : List Int) : Prop := ∀ d ∈ l, ∃ j : Nat, d = (j : Int) ∧ j < n
theorem Under.snoc {n : Nat} {l : List Int} (h : Under n l) {i : Nat} (hi : i < n) : Under n (l ++ [(i : Int)]) := by
  intro d hd
  rcases List.mem_append.1 hd with h1 | h1
  · exact h d h1
  · exact ⟨i, by simpa using h1, hi⟩
/-- The rows hold places, and not more than so many. -/
structure RowsOk (n m : Nat) (R : List (List Int)) : Prop where
  inn : ∀ r ∈ R, Under n r
  few : ∀ r ∈ R, r.length ≤ m
theorem RowsOk.push {n m : Nat} {R : List (List Int)} (h : RowsOk n m R) {a i : Nat} {r : List Int} (hr : R[a]? = some r) (hi : i < n) : RowsOk n (m + 1) (R.set a (r ++ [(i : Int)])) := by
  have hrm := List.mem_of_getElem? hr
  refine ⟨fun q hq => ?_, fun q hq => ?_⟩
  · rcases List.mem_or_eq_of_mem_set hq with h1 | rfl
    · exact h.inn q h1
    · exact (h.inn r hrm).snoc hi
  · rcases List.mem_or_eq_of_mem_set hq with h1 | rfl
    · exact Nat.le_succ_of_le (h.few q h1)
    · have := h.few r hrm; simp; omega
theorem RowsOk.mono {n m m' : Nat} {R : List (List Int)} (h : RowsOk n m R) (hm : m ≤ m') : RowsOk n m' R := ⟨h.inn, fun r hr => Nat.le_trans (h.few r hr) hm⟩
end Go.Proofs.Yteohhiefchoamaa

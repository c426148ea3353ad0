/-
  An implementation's spine beside the reference's; what a call of the law's 'do' finds behind its first lines.
-/
import Derived.Test.YthfhjopofpffgaaRef5
import Derived.Test.YthfhjopofpffgaaRef7
import Derived.Test.YthfhjopofpffgaaSpoil
namespace Go.Proofs.Ythfhjopofpffgaa
open Go.RowKit

def pown (b : Nat) (v : Value) (F : List FV) (r : Nat) (u : Value) (G : List FV) : Nat → Prop := fun k => foot b v k ∨ pblocks F k ∨ foot r u k ∨ pblocks G k
/-- Two spines of the same frames, that share no block. -/
structure Pair (w : World) (b : Nat) (v : Value) (F : List FV) (r : Nat) (u : Value) (G : List FV) (X : List Fr) : Prop where
  sp : SpAt w b v F
  rs : RAt w r u G
  fx : F.map (·.1) = X
  gx : G.map (·.1) = X
  sep : ∀ k, foot b v k → ¬ foot r u k
  ap : Apart F
  pg : ∀ k, pblocks F k → ¬ pblocks G k
section
variable {w w' : World} {b r : Nat} {v u : Value} {F G : List FV} {X : List Fr}
theorem Pair.turned {S : Nat → Prop} (h : Pair w b v F r u G X) (ht : Turned S w w') (hn : ∀ k, pown b v F r u G k → ¬ S k) : Pair w' b v F r u G X :=
  ⟨h.sp.turned ht (fun k hk => hn k (.inl hk)) (fun k hk => hn k (.inr (.inl hk))), h.rs.turned ht (fun k hk => hn k (.inr (.inr (.inl hk)))) (fun k hk => hn k (.inr (.inr (.inr hk)))), h.fx, h.gx, h.sep, h.ap, h.pg⟩
theorem Pair.same (h : Pair w b v F r u G X) (ht : Same w w') : Pair w' b v F r u G X := h.turned ht (fun _ _ h => h)
theorem pat_lt {pv : Value} {p : List Int} (h : PAt w pv p) : ∀ k, pv.ownBlock = some k → k < w.heap.size := by
  intro k hk
  rcases h with ⟨rfl, _⟩ | ⟨g, rfl, hg⟩
  · simp [Value.ownBlock] at hk
  · obtain rfl : g = k := by simpa [Value.ownBlock] using hk
    exact hg.lt
theorem SpAt.plt (h : SpAt w b v F) : ∀ k, pblocks F k → k < w.heap.size := by
  rintro k ⟨x, hx, hk⟩
  exact pat_lt (h.paths x hx) k hk
theorem Pair.lt (h : Pair w b v F r u G X) : ∀ k, pown b v F r u G k → k < w.heap.size := by
  rintro k (hk | hk | hk | hk)
  · exact foot_lt h.sp k hk
  · exact h.sp.plt k hk
  · exact h.rs.flt k hk
  · exact h.rs.plt k hk
/-- A foot of the one is no path of the other's. -/
theorem Pair.fp (h : Pair w b v F r u G X) : ∀ k, foot b v k → ¬ pblocks F k ∧ ¬ pblocks G k := by
  intro k hk
  constructor
  · rintro ⟨x, hx, e⟩; exact pat_foot (h.sp.paths x hx) h.sp.blk h.sp.own k e hk
  · rintro ⟨x, hx, e⟩; exact row_foot (h.rs.paths x hx) h.sp.blk (by decide) h.sp.own k e hk
theorem Pair.rp (h : Pair w b v F r u G X) : ∀ k, foot r u k → ¬ pblocks F k ∧ ¬ pblocks G k := by
  intro k hk
  constructor
  · rintro ⟨x, hx, e⟩
    have hp := h.sp.paths x hx
    rcases hp with ⟨e2, _⟩ | ⟨g, e2, hg⟩
    · rw [e2] at e; simp [Value.ownBlock] at e
    · rw [e2] at e
      obtain rfl : g = k := by simpa [Value.ownBlock] using e
      rcases hk with rfl | hk
      · exact Blk.ne_ hg h.rs.blk (by decide) rfl
      · exact own_blk_ne h.rs.own hg (by decide) hk
  · rintro ⟨x, hx, e⟩; exact row_foot (h.rs.paths x hx) h.rs.blk (by decide) h.rs.own k e hk
theorem pblocks_snoc (F : List FV) (x : FV) (k : Nat) : pblocks (F ++ [x]) k ↔ pblocks F k ∨ x.2.ownBlock = some k := by
  unfold pblocks
  constructor
  · rintro ⟨y, hy, hk⟩
    rw [List.mem_append] at hy
    rcases hy with hy | hy
    · exact .inl ⟨y, hy, hk⟩
    · obtain rfl : y = x := by simpa using hy
      exact .inr hk
  · rintro (⟨y, hy, hk⟩ | hk)
    · exact ⟨y, by simp [hy], hk⟩
    · exact ⟨x, by simp, hk⟩
end

/-- What a call on both spines leaves: the same frames on both, and nothing but their own has turned. -/
def Did (w w' : World) (b : Nat) (v : Value) (F : List FV) (r : Nat) (u : Value) (G : List FV) (X' : List Fr) : Prop :=
  ∃ v' F' u' G', Pair w' b v' F' r u' G' X' ∧ Turned (pown b v F r u G) w w' ∧ ∀ k, pown b v' F' r u' G' k → pown b v F r u G k ∨ w.heap.size ≤ k
section
variable {w w0 w1 w2 w' : World} {b r : Nat} {v u : Value} {F G : List FV} {X X' : List Fr}
theorem Did.same (h : Pair w b v F r u G X) (ht : Same w w') : Did w w' b v F r u G X :=
  ⟨v, F, u, G, h.same ht, ht.mono (fun _ h => h.elim), fun _ hk => .inl hk⟩
theorem Did.before (h : Did w w' b v F r u G X') (ht : Same w0 w) : Did w0 w' b v F r u G X' := by
  obtain ⟨v', F', u', G', hp, h1, h2⟩ := h
  exact ⟨v', F', u', G', hp, (ht.mono (fun _ h => h.elim)).trans h1 (fun i hi => .inl hi), fun k hk => by
    rcases h2 k hk with h | h
    · exact .inl h
    · exact .inr (Nat.le_trans ht.size h)⟩
theorem Did.after {S : Nat → Prop} (h : Did w w1 b v F r u G X') (ht : Turned S w1 w') (hS : ∀ k, S k → w.heap.size ≤ k) (hn : ∀ v' F' u' G', Pair w1 b v' F' r u' G' X' → (∀ k, pown b v' F' r u' G' k → pown b v F r u G k ∨ w.heap.size ≤ k) → ∀ k, pown b v' F' r u' G' k → ¬ S k) : Did w w' b v F r u G X' := by
  obtain ⟨v', F', u', G', hp, h1, h2⟩ := h
  exact ⟨v', F', u', G', hp.turned ht (hn v' F' u' G' hp h2), h1.trans ht (fun i hi => .inr (hS i hi)), h2⟩

/-- A call on the one, then on the other. -/
theorem Did.both {v' u' : Value} {F' G' : List FV} (h : Pair w b v F r u G X) (hs : SpAt w1 b v' F') (ht : Turned (foot b v) w w1) (h12 : Same w1 w2) (hr : RAt w' r u' G') (ht2 : Turned (foot r u) w2 w')
    (hx : F'.map (·.1) = X') (hy : G'.map (·.1) = X') (hap : Apart F')
    (hfv : ∀ k, foot b v' k → foot b v k ∨ w.heap.size ≤ k) (hfu : ∀ k, foot r u' k → foot r u k ∨ w2.heap.size ≤ k)
    (hpF : ∀ k, pblocks F' k → pblocks F k ∨ w.heap.size ≤ k) (hpG : ∀ k, pblocks G' k → pblocks G k ∨ w2.heap.size ≤ k) :
    Did w w' b v F r u G X' := by
  have hw1 : w.heap.size ≤ w1.heap.size := ht.size
  have hw2 : w1.heap.size ≤ w2.heap.size := h12.size
  have hlt := h.lt
  have hs' : SpAt w' b v' F' := (hs.same h12).turned ht2 (fun k hk hf => by
      rcases hfv k hk with h1 | h1
      · exact h.sep k h1 hf
      · have := hlt k (.inr (.inr (.inl hf))); omega) (fun k hk hf => by
      rcases hpF k hk with h1 | h1
      · exact (h.rp k hf).1 h1
      · have := hlt k (.inr (.inr (.inl hf))); omega)
  refine ⟨v', F', u', G', ⟨hs', hr, hx, hy, ?_, hap, ?_⟩, ?_, ?_⟩
  · intro k hk hk2
    have h0 := foot_lt hs k hk
    rcases hfv k hk with h1 | h1
    · rcases hfu k hk2 with h3 | h3
      · exact h.sep k h1 h3
      · have := hlt k (.inl h1); omega
    · rcases hfu k hk2 with h3 | h3
      · have := hlt k (.inr (.inr (.inl h3))); omega
      · omega
  · intro k hk hk2
    have h0 := hs.plt k hk
    rcases hpF k hk with h1 | h1
    · rcases hpG k hk2 with h3 | h3
      · exact h.pg k h1 h3
      · have := hlt k (.inr (.inl h1)); omega
    · rcases hpG k hk2 with h3 | h3
      · have := hlt k (.inr (.inr (.inr h3))); omega
      · omega
  · exact ((ht.mono (fun _ hk => .inl hk)).trans (h12.mono (fun _ h => h.elim)) (fun _ (h : False) => h.elim)).trans ht2 (fun i hi => .inl (.inr (.inr (.inl hi))))
  · rintro k (hk | hk | hk | hk)
    · rcases hfv k hk with h1 | h1
      · exact .inl (.inl h1)
      · exact .inr h1
    · rcases hpF k hk with h1 | h1
      · exact .inl (.inr (.inl h1))
      · exact .inr h1
    · rcases hfu k hk with h1 | h1
      · exact .inl (.inr (.inr (.inl h1)))
      · exact .inr (by omega)
    · rcases hpG k hk with h1 | h1
      · exact .inl (.inr (.inr (.inr h1)))
      · exact .inr (by omega)
theorem foot_moved {w : World} {b : Nat} {v v' : Value} (hv : v'.ownBlock = v.ownBlock ∨ ∃ k, v'.ownBlock = some k ∧ w.heap.size ≤ k) : ∀ k, foot b v' k → foot b v k ∨ w.heap.size ≤ k := by
  intro k hk
  rcases hk with rfl | hk
  · exact .inl (.inl rfl)
  · rcases hv with e | ⟨j, e, hj⟩
    · exact .inl (.inr (by rw [← e]; exact hk))
    · rw [e] at hk; obtain rfl : j = k := by simpa using hk
      exact .inr hj
theorem pblocks_new {w : World} {F : List FV} {x : FV} (hx : ∀ k, x.2.ownBlock = some k → w.heap.size ≤ k) : ∀ k, pblocks (F ++ [x]) k → pblocks F k ∨ w.heap.size ≤ k := by
  intro k hk
  rcases (pblocks_snoc F _ k).1 hk with h1 | h1
  · exact .inl h1
  · exact .inr (hx k h1)
theorem sl_new {w : World} {pv : Value} {f : Fr} (h : ∃ g, pv = .slice (some ⟨g, 0, none⟩) f.path.length f.path.length ∧ w.heap.size ≤ g) : ∀ k, pv.ownBlock = some k → w.heap.size ≤ k := by
  obtain ⟨g, rfl, hg⟩ := h
  intro k hk
  obtain rfl : g = k := by simpa [Value.ownBlock] using hk
  exact hg
/-- Push on both. -/
theorem Did.push {f : Fr} {v' u' pv pu : Value} (h : Pair w b v F r u G X)
    (hs : SpAt w1 b v' (F ++ [(f, pv)])) (ht : Turned (foot b v) w w1) (hv : v'.ownBlock = v.ownBlock ∨ ∃ k, v'.ownBlock = some k ∧ w.heap.size ≤ k) (hpv : ∃ g, pv = .slice (some ⟨g, 0, none⟩) f.path.length f.path.length ∧ w.heap.size ≤ g)
    (h12 : Same w1 w2)
    (hr : RAt w' r u' (G ++ [(f, pu)])) (ht2 : Turned (foot r u) w2 w') (hu : u'.ownBlock = u.ownBlock ∨ ∃ k, u'.ownBlock = some k ∧ w2.heap.size ≤ k) (hpu : ∀ k, pu.ownBlock = some k → w2.heap.size ≤ k) :
    Did w w' b v F r u G (X ++ [f]) :=
  Did.both h hs ht h12 hr ht2 (by simp [h.fx]) (by simp [h.gx]) (h.ap.snoc (fun x hx k hk hk2 => by
      have := h.lt k (.inr (.inl ⟨x, hx, hk⟩)); have := sl_new hpv k hk2; omega)) (foot_moved hv) (foot_moved hu) (pblocks_new (sl_new hpv)) (pblocks_new hpu)
/-- Turn on both. -/
theorem Did.turn {f : Fr} {x y : FV} {pv pu : Value} {X0 : List Fr} (h : Pair w b v (F ++ [x]) r u (G ++ [y]) (X0 ++ [x.1]))
    (hs : SpAt w1 b v (F ++ [(f, pv)])) (ht : Turned (foot b v) w w1) (hpv : ∃ g, pv = .slice (some ⟨g, 0, none⟩) f.path.length f.path.length ∧ w.heap.size ≤ g)
    (h12 : Same w1 w2) (hr : RAt w' r u (G ++ [(f, pu)])) (ht2 : Turned (foot r u) w2 w') (hpu : ∀ k, pu.ownBlock = some k → w2.heap.size ≤ k) :
    Did w w' b v (F ++ [x]) r u (G ++ [y]) (X0 ++ [f]) := by
  have hx := h.fx
  have hy := h.gx
  simp only [List.map_append, List.map_cons, List.map_nil] at hx hy
  have hx2 := List.append_inj_left' hx rfl
  have hy2 := List.append_inj_left' hy rfl
  refine Did.both h hs ht h12 hr ht2 (by simp [hx2]) (by simp [hy2]) (h.ap.init.1.snoc (fun x hx k hk hk2 => by
      have := h.lt k (.inr (.inl ⟨x, by simp [hx], hk⟩)); have := sl_new hpv k hk2; omega)) (fun _ hk => .inl hk) (fun _ hk => .inl hk) (fun k hk => ?_) (fun k hk => ?_)
  · rcases pblocks_new (sl_new hpv) k hk with h1 | h1
    · exact .inl ((pblocks_snoc F x k).2 (.inl h1))
    · exact .inr h1
  · rcases pblocks_new hpu k hk with h1 | h1
    · exact .inl ((pblocks_snoc G y k).2 (.inl h1))
    · exact .inr h1
/-- Pop on both. -/
theorem Did.pop {x y : FV} {v' u' : Value} {X0 : List Fr} (h : Pair w b v (F ++ [x]) r u (G ++ [y]) (X0 ++ [x.1]))
    (hs : SpAt w1 b v' F) (ht : Turned (foot b v) w w1) (hv : v'.ownBlock = v.ownBlock)
    (h12 : Same w1 w2) (hr : RAt w' r u' G) (ht2 : Turned (foot r u) w2 w') (hu : u'.ownBlock = u.ownBlock) :
    Did w w' b v (F ++ [x]) r u (G ++ [y]) X0 := by
  have hx := h.fx
  have hy := h.gx
  simp only [List.map_append, List.map_cons, List.map_nil] at hx hy
  exact Did.both h hs ht h12 hr ht2 (List.append_inj_left' hx rfl) (List.append_inj_left' hy rfl) h.ap.init.1 (fun k hk => .inl (by rcases hk with h | h; exact .inl h; exact .inr (by rw [← hv]; exact h))) (fun k hk => .inl (by rcases hk with h | h; exact .inl h; exact .inr (by rw [← hu]; exact h)))
    (fun k hk => .inl ((pblocks_snoc F x k).2 (.inl hk))) (fun k hk => .inl ((pblocks_snoc G y k).2 (.inl hk)))
theorem mv_pblocks {F : List FV} {T : List Int} {n k : Nat} (h : pblocks (mv n F T) k) : pblocks F k := by
  obtain ⟨x, hx, hk⟩ := h
  obtain ⟨y, hy, e, _⟩ := mv_mem hx
  exact ⟨y, hy, by rw [← e]; exact hk⟩
theorem mv_apart {F : List FV} {T : List Int} {n : Nat} (h : Apart F) : Apart (mv n F T) := by
  unfold Apart at *
  rw [List.pairwise_iff_getElem] at h ⊢
  intro i j hi hj hij
  have hi' : i < F.length := by simpa [mv] using hi
  have hj' : j < F.length := by simpa [mv] using hj
  have := h i j hi' hj' hij
  have e : ∀ i (hi : i < F.length) (h2 : i < (mv n F T).length), ((mv n F T)[i]).2 = F[i].2 := by
    intro i hi h2
    simp only [mv, List.getElem_mapIdx]
    split <;> rfl
  rw [e i hi', e j hj']
  exact this
/-- Move on both. -/
theorem Did.move {T : List Int} (h : Pair w b v F r u G X)
    (hs : SpAt w1 b v (mv F.length F T)) (ht : Turned (foot b v) w w1) (h12 : Same w1 w2) (hr : RAt w' r u (mv G.length G T)) (ht2 : Turned (foot r u) w2 w') :
    Did w w' b v F r u G (mvF X T) :=
  Did.both h hs ht h12 hr ht2 (mv_full F T X h.fx) (mv_full G T X h.gx) (mv_apart h.ap) (fun _ hk => .inl hk) (fun _ hk => .inl hk) (fun _ hk => .inl (mv_pblocks hk)) (fun _ hk => .inl (mv_pblocks hk))
end
end Go.Proofs.Ythfhjopofpffgaa

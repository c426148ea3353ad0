/-
  A signature, its list, a heap and the document's, side by side: what each change leaves.
-/
import Derived.Test.YteohhiefchoamaaLent
namespace Go.Proofs.Yteohhiefchoamaa
open Go.RowKit

theorem Twin.after {w wr w' : World} {b r : Nat} {room : Int} {v u : Value} {N M : List NV} (h : Twin w wr b r room v u N M) (ht : Same wr w') : Twin w w' b r room v u N M :=
  ⟨h.same.trans ht (fun _ h => h.elim), h.hp.same ht, h.rp.same ht, h.newh, h.newr, h.apart⟩
structure LdI (w wr : World) (bs bm : Nat) (vs : Value) (L : List Sym) (lu : Value) (b r : Nat) (room : Int) (v u : Value) (N M : List NV) : Prop where
  tw : Twin w wr b r room v u N M
  sig : SigAt wr bs bm vs L
  lst : wr.ownsRow 0 84 3 lu L.length (symCells L)
section
variable {w wr w' : World} {bs bm b r q : Nat} {vs lu v v' u u' : Value} {L : List Sym} {room : Int} {N N' M M' : List NV} {cs : Array Value} {t : TypeId}
theorem LdI.later (h : LdI w wr bs bm vs L lu b r room v u N M) (ht : Same wr w') : LdI w w' bs bm vs L lu b r room v u N M :=
  ⟨h.tw.after ht, h.sig.turned ht (fun _ _ h => h), World.ownsRow.same_ h.lst ht⟩
theorem sig_blk_ne (hs : SigAt wr bs bm vs L) (hB : Blk wr q t cs) (h1 : 133 ≠ t) (h2 : 84 ≠ t) : ¬ foot bs bm vs q := by
  obtain ⟨D, hD, _⟩ := hs.map
  rintro (e | e | e)
  · exact Blk.ne_ hs.blk hB h1 e.symm
  · exact blk_map_ne hB hD e
  · exact own_blk_ne hs.own hB h2 e
/-- A block of another kind turns. -/
theorem LdI.other (h : LdI w wr bs bm vs L lu b r room v u N M) (hB : Blk wr q t cs) (hn : w.heap.size ≤ q) (ht : Turned (fun k => k = q) wr w')
    (h1 : 133 ≠ t) (h2 : 84 ≠ t) (h3 : 113 ≠ t) (h4 : 53 ≠ t) (h5 : 3 ≠ t) (h6 : 72 ≠ t) : LdI w w' bs bm vs L lu b r room v u N M := by
  refine ⟨⟨h.tw.same.trans ht (fun i hi => .inr (by rw [hi]; exact hn)), ⟨h.tw.hp.blk.turned ht (fun e => Blk.ne_ h.tw.hp.blk hB h3 e), World.ownsRow.turned h.tw.hp.own ht (fun k hk e => own_blk_ne h.tw.hp.own hB h4 (by rw [hk, e])), fun x hx => (h.tw.hp.args x hx).turned ht (fun k hk e => arg_ne (h.tw.hp.args x hx) hB h5 (by rw [hk, e]))⟩, ⟨h.tw.rp.blk.turned ht (fun e => Blk.ne_ h.tw.rp.blk hB h6 e), World.ownsRow.turned h.tw.rp.own ht (fun k hk e => own_blk_ne h.tw.rp.own hB h4 (by rw [hk, e])), fun x hx => World.ownsRow.turned (h.tw.rp.args x hx) ht (fun k hk e => own_blk_ne (h.tw.rp.args x hx) hB h5 (by rw [hk, e]))⟩, h.tw.newh, h.tw.newr, h.tw.apart⟩, h.sig.turned ht (fun k hk e => sig_blk_ne h.sig hB h1 h2 (by rw [← e]; exact hk)), World.ownsRow.turned h.lst ht (fun k hk e => own_blk_ne h.lst hB h2 (by rw [hk, e]))⟩
theorem sig_apartR (hs : SigAt w bs bm vs L) (hh : RHeap w r room u M) : ∀ k, foot bs bm vs k → ¬ hfoot r u k := by
  obtain ⟨D, hD, _⟩ := hs.map
  rintro k (rfl | rfl | hk) (rfl | hv)
  · exact Blk.ne_ hs.blk hh.blk (by decide) rfl
  · exact own_blk_ne hh.own hs.blk (by decide) hv
  · exact blk_map_ne hh.blk hD rfl
  · exact own_map_ne hh.own hD hv
  · exact own_blk_ne hs.own hh.blk (by decide) hk
  · exact own_own_ne hs.own hh.own (by decide) k hk hv
/-- The heap turns. -/
theorem LdI.stepH (h : LdI w wr bs bm vs L lu b r room v u N M) (hh : HeapAt w' b room v' N') (ht : Turned (hfoot b v) wr w') (hv : v'.ownBlock = v.ownBlock ∨ ∃ k, v'.ownBlock = some k ∧ wr.heap.size ≤ k) : LdI w w' bs bm vs L lu b r room v' u N' M := by
  have hrf : ∀ k, hfoot r u k → ¬ hfoot b v k := by
    rintro k (rfl | hk) (e | e)
    · exact Blk.ne_ h.tw.rp.blk h.tw.hp.blk (by decide) e
    · exact own_blk_ne h.tw.hp.own h.tw.rp.blk (by decide) e
    · exact own_blk_ne h.tw.rp.own h.tw.hp.blk (by decide) (by rw [hk, e])
    · exact h.tw.apart k e hk
  have hold := hfoot_old (b := b) hv
  refine ⟨⟨h.tw.same.trans ht (fun i hi => .inr (h.tw.newh i hi)), hh, ⟨h.tw.rp.blk.turned ht (hrf r (.inl rfl)), World.ownsRow.turned h.tw.rp.own ht (fun k hk => hrf k (.inr hk)), fun x hx => World.ownsRow.turned (h.tw.rp.args x hx) ht (fun k hk hf => ?_)⟩, fun k hk => ?_, h.tw.newr, fun k hk hk2 => ?_⟩, h.sig.turned ht (sig_apart h.sig h.tw.hp), World.ownsRow.turned h.lst ht (fun k hk hf => ?_)⟩
  · rcases hf with e | e
    · exact own_blk_ne (h.tw.rp.args x hx) h.tw.hp.blk (by decide) (by rw [hk, e])
    · exact own_own_ne (h.tw.rp.args x hx) h.tw.hp.own (by decide) k hk e
  · rcases hold k hk with h1 | h1
    · exact h.tw.newh k h1
    · exact Nat.le_trans h.tw.same.size h1
  · rcases hv with e | ⟨j, e, hj⟩
    · exact h.tw.apart k (e.symm.trans hk) hk2
    · have e2 := e.symm.trans hk
      obtain rfl : j = k := by simpa using e2
      have := own_lt h.tw.rp.own hk2
      omega
  · rcases hf with e | e
    · exact own_blk_ne h.lst h.tw.hp.blk (by decide) (by rw [hk, e])
    · exact own_own_ne h.lst h.tw.hp.own (by decide) k hk e
/-- The document's heap turns. -/
theorem LdI.stepR (h : LdI w wr bs bm vs L lu b r room v u N M) (hh : RHeap w' r room u' M') (ht : Turned (hfoot r u) wr w') (hv : u'.ownBlock = u.ownBlock ∨ ∃ k, u'.ownBlock = some k ∧ wr.heap.size ≤ k) : LdI w w' bs bm vs L lu b r room v u' N M' := by
  have hrf : ∀ k, hfoot b v k → ¬ hfoot r u k := by
    rintro k (rfl | hk) (e | e)
    · exact Blk.ne_ h.tw.hp.blk h.tw.rp.blk (by decide) e
    · exact own_blk_ne h.tw.rp.own h.tw.hp.blk (by decide) e
    · exact own_blk_ne h.tw.hp.own h.tw.rp.blk (by decide) (by rw [hk, e])
    · exact h.tw.apart k hk e
  have hold := hfoot_old (b := r) hv
  refine ⟨⟨h.tw.same.trans ht (fun i hi => .inr (h.tw.newr i hi)), ⟨h.tw.hp.blk.turned ht (hrf b (.inl rfl)), World.ownsRow.turned h.tw.hp.own ht (fun k hk => hrf k (.inr hk)), fun x hx => (h.tw.hp.args x hx).turned ht (fun k hk hf => ?_)⟩, hh, h.tw.newh, fun k hk => ?_, fun k hk hk2 => ?_⟩, h.sig.turned ht (sig_apartR h.sig h.tw.rp), World.ownsRow.turned h.lst ht (fun k hk hf => ?_)⟩
  · rcases hf with e | e
    · exact arg_ne (h.tw.hp.args x hx) h.tw.rp.blk (by decide) (by rw [hk, e])
    · exact arg_own_ne (h.tw.hp.args x hx) h.tw.rp.own k hk e
  · rcases hold k hk with h1 | h1
    · exact h.tw.newr k h1
    · exact Nat.le_trans h.tw.same.size h1
  · rcases hv with e | ⟨j, e, hj⟩
    · exact h.tw.apart k hk (e.symm.trans hk2)
    · have e2 := e.symm.trans hk2
      obtain rfl : j = k := by simpa using e2
      have := own_lt h.tw.hp.own hk
      omega
  · rcases hf with e | e
    · exact own_blk_ne h.lst h.tw.rp.blk (by decide) (by rw [hk, e])
    · exact own_own_ne h.lst h.tw.rp.own (by decide) k hk e
/-- What stands behind a lent list is no argument. -/
theorem lent_arg_ne {tv av : Value} {p l : List Int} {g : Nat} (hT : LentAt w tv p g) (ha : ArgAt w av l) (hpos : ∀ d ∈ l, 0 ≤ d) : av.ownBlock ≠ some g := by
  intro he
  rcases ha with ⟨rfl, _⟩ | ⟨g', rfl, hb⟩
  · simp [Value.ownBlock] at he
  · obtain rfl : g' = g := by simpa [Value.ownBlock] using he
    obtain ⟨c, rfl, hc, ho⟩ := hT
    rcases ho.2 with ⟨h0, _⟩ | ⟨g2, cap, cur, hv, _, hh, h1, h2, h3, h4⟩
    · cases h0
    · injection hv with hv _ hc2
      injection hv with hv
      injection hv with hv
      subst hv
      unfold Blk at hb
      rw [hb] at hh
      injection hh with hh
      injection hh with hh
      subst hh
      have h5 : (nInts l)[p.length]? = some (.int .i64 (-77)) := by
        have h6 : ((nInts l).take ((p.length + 3) * 1))[p.length]? = some (.int .i64 (-77)) := by
          have h7 : (nInts l).toArray.toList = nInts l := rfl
          rw [h7] at h4
          rw [h4]
          simp [nInts]
        rw [List.getElem?_take_of_lt (by omega)] at h6
        exact h6
      simp only [nInts, List.getElem?_map, Option.map_eq_some_iff] at h5
      obtain ⟨d, hd, e⟩ := h5
      injection e with _ e
      have := hpos d (List.mem_of_getElem? hd)
      omega
/-- A lent list is written over. -/
theorem LdI.lent {tv : Value} {p : List Int} {g : Nat} (h : LdI w wr bs bm vs L lu b r room v u N M) (hT : LentAt wr tv p g) (hn : w.heap.size ≤ g) (ht : Turned (fun k => k = g) wr w')
    (hpos : ∀ x ∈ N, ∀ d ∈ x.1.args, 0 ≤ d) (hM : ∀ x ∈ M, x.2.ownBlock ≠ some g) : LdI w w' bs bm vs L lu b r room v u N M := by
  obtain ⟨c, hc1, hc2, ho⟩ := id hT
  have hgo : (Value.slice (some ⟨g, 0, none⟩) (p.length + 3) c).ownBlock = some g := rfl
  have hblk : ∀ {k : Nat} {t : TypeId} {cs : Array Value}, Blk wr k t cs → 3 ≠ t → k ≠ g := fun hb hne e => own_blk_ne ho hb hne (by rw [hgo, e])
  have hrow : ∀ {x : Value} {e : TypeId} {size n : Nat} {xs : List Value}, wr.ownsRow 0 e size x n xs → e ≠ 3 → x.ownBlock ≠ some g := fun hx hne e => own_own_ne hx ho hne g e hgo
  obtain ⟨D, hD, _⟩ := h.sig.map
  refine ⟨⟨h.tw.same.trans ht (fun i hi => .inr (by rw [hi]; exact hn)), ⟨h.tw.hp.blk.turned ht (hblk h.tw.hp.blk (by decide)), World.ownsRow.turned h.tw.hp.own ht (fun k hk e => hrow h.tw.hp.own (by decide) (by rw [hk, e])), fun x hx => (h.tw.hp.args x hx).turned ht (fun k hk e => lent_arg_ne hT (h.tw.hp.args x hx) (hpos x hx) (by rw [hk, e]))⟩, ⟨h.tw.rp.blk.turned ht (hblk h.tw.rp.blk (by decide)), World.ownsRow.turned h.tw.rp.own ht (fun k hk e => hrow h.tw.rp.own (by decide) (by rw [hk, e])), fun x hx => World.ownsRow.turned (h.tw.rp.args x hx) ht (fun k hk e => hM x hx (by rw [hk, e]))⟩, h.tw.newh, h.tw.newr, h.tw.apart⟩, h.sig.turned ht ?_, World.ownsRow.turned h.lst ht (fun k hk e => hrow h.lst (by decide) (by rw [hk, e]))⟩
  rintro k (rfl | rfl | hk) e
  · exact hblk h.sig.blk (by decide) e
  · exact own_map_ne ho hD (by rw [hgo, e])
  · exact hrow h.sig.own (by decide) (by rw [hk, e])
end
end Go.Proofs.Yteohhiefchoamaa

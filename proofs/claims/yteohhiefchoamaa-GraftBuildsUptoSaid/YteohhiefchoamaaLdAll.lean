/-
  Lists lent; a signature, a heap and the document's, side by side; Load of both.
-/
import Derived.Test.YteohhiefchoamaaRLoad
import Derived.Test.YteohhiefchoamaaFault
namespace Go.Proofs.Yteohhiefchoamaa
open Go.RowKit

theorem marks_at (p : List Int) (k : Nat) (h : k < p.length) : (nInts (p ++ [-77, -77, -77]))[k]? = some (.int .i64 p[k]) := by
  unfold nInts
  rw [List.map_append, List.getElem?_append_left (by simpa using h), List.getElem?_map, List.getElem?_eq_getElem h]; rfl

/-- A list that was lent: three marks stand behind it. -/
def LentAt (w : World) (v : Value) (p : List Int) (g : Nat) : Prop :=
  ∃ c, v = .slice (some ⟨g, 0, none⟩) p.length c ∧ p.length + 3 ≤ c ∧ w.ownsRow 0 3 1 (.slice (some ⟨g, 0, none⟩) (p.length + 3) c) (p.length + 3) (nInts (p ++ [-77, -77, -77]))
theorem LentAt.turned {w w' : World} {S : Nat → Prop} {v : Value} {p : List Int} {g : Nat} (h : LentAt w v p g) (ht : Turned S w w') (hn : ¬ S g) : LentAt w' v p g := by
  obtain ⟨c, rfl, hc, ho⟩ := h
  exact ⟨c, rfl, hc, World.ownsRow.turned ho ht (fun k hk hs => hn (by
    obtain rfl : g = k := by simpa [Value.ownBlock] using hk
    exact hs))⟩
theorem LentAt.rd {w : World} {v : Value} {p : List Int} {g : Nat} (h : LentAt w v p g) : Rd w v p := by
  obtain ⟨c, rfl, hc, ho⟩ := h
  refine ⟨_, c, rfl, fun h0 => ⟨g, 0, rfl, fun k hk => ?_⟩⟩
  have hc := World.ownsRow.cells (g := g) ho rfl k (.int .i64 p[k]) (marks_at p k hk)
  simpa [Addr.add_lit] using hc
theorem LentAt.own {v : Value} {w : World} {p : List Int} {g : Nat} (h : LentAt w v p g) : v.ownBlock = some g := by
  obtain ⟨c, rfl, hc, ho⟩ := h; rfl
theorem LentAt.lt {v : Value} {w : World} {p : List Int} {g : Nat} (h : LentAt w v p g) : g < w.heap.size := by
  obtain ⟨c, rfl, hc, ho⟩ := h
  exact (World.ownsRow.lt ho g rfl).2

set_option maxHeartbeats 1000000 in
theorem lent_any (w : World) (v : Value) (p : List Int) (hR : Rd w v p) (hl : p.length ≤ 17592186044000) :
    Calls Try.prog 34 #[v] w fun e w' => ∃ v' g, e = .returned v' ∧ LentAt w' v' p g ∧ Same w w' ∧ w.heap.size ≤ g := by
  obtain ⟨A, c, rfl, hA⟩ := hR
  have HS : Hid (Rd (w.alloc (.cells #[] 3)) (.slice A p.length c) p) := Rd.same_ (w := w) ⟨A, c, rfl, hA⟩ ((Turned.refl _ _).alloc _)
  clear hA
  obtain ⟨i0, hi0, hz0, hz1, hz2⟩ := info_parts info3
  have HI : Hid (Try.prog.info? 3 = some i0 ∧ i0.zero = some (.int .i64 0) ∧ i0.size = 1 ∧ i0.bytes = 8) := ⟨hi0, hz0, hz1, hz2⟩
  clear hi0 hz0 hz1 hz2
  go_enter Try.func34, Try.ntmps34
  go_wp2_with (at_builtin; go_loud (refine wpList_append_src _ rfl _ _ 26 rfl 3 i0 _ 1 8 Try.underlying26 HI.out.1 HI.out.2.1 HI.out.2.2.1 HI.out.2.2.2 rfl (by omega) (.slice (some ⟨w.heap.size, 0, none⟩) 0 0) 0 [] rfl (by exact empty_row) A p.length c (nInts p) rfl (by simp [nInts]) (rd_src HS.out) (nInts_one p) (by unfold maxLen; omega) (by omega) ?_))
  intro a1 c1 w1 ho1 hg1 hat1
  have HO1 : Hid (w1.ownsRow 0 3 1 (.slice a1 p.length c1) p.length (nInts p)) := by simpa [Hid] using ho1
  have HT1 : Hid (Same w w1) := by
    have h1 : Turned (fun k => k = w.heap.size) w w1 := ((Turned.refl _ w).alloc _).grown hg1 (fun k hk => .inl (by simpa [Value.ownBlock] using hk.symm))
    exact below_same (h1.below (Nat.le_refl _) (fun i hi => by omega))
  have HA1 : Hid (∀ k, (Value.slice a1 p.length c1).ownBlock = some k → w.heap.size ≤ k) := by
    intro k hk
    rcases hat1 with h | h
    · have h2 := hk.symm.trans h
      have : k = w.heap.size := by simpa [Value.ownBlock] using h2
      omega
    · have h2 := hk.symm.trans h
      have : k = (w.alloc (.cells #[] 3)).heap.size := by simpa using h2
      rw [this]; simp
  clear ho1 hg1 hat1
  go_wp2_with (at_builtin; go_loud (refine wpList_append_src _ rfl _ _ 26 rfl 3 i0 _ 1 8 Try.underlying26 HI.out.1 HI.out.2.1 HI.out.2.2.1 HI.out.2.2.2 rfl (by omega) (.slice a1 p.length c1) p.length (nInts p) rfl (by exact HO1.out.alloc _) (some ⟨w1.heap.size, 0, none⟩) 3 3 (nInts [-77, -77, -77]) rfl (by simp [nInts]) (by exact fun _ => src_new w1 (nInts [-77, -77, -77]) 3 (by omega)) (nInts_one _) (by unfold maxLen; omega) (by omega) ?_))
  intro a2 c2 w2 ho2 hg2 hat2
  obtain ⟨g, cap, hv, _, hg⟩ := ho2.form (by omega)
  obtain ⟨rfl, rfl⟩ : a2 = some ⟨g, 0, none⟩ ∧ c2 = cap := by simpa using hv
  have hcap := ho2
  obtain ⟨ax, cx, ex, hc1, hc2⟩ := own_shape hcap
  have hcc : c2 = cx := by injection ex
  have HL : Hid (LentAt w2 (.slice (some ⟨g, 0, none⟩) p.length c2) p g) := ⟨c2, rfl, by omega, by
    have e : nInts (p ++ [-77, -77, -77]) = nInts p ++ nInts [-77, -77, -77] := by simp [nInts]
    rw [e]; exact ho2⟩
  have HT2 : Hid (Same w w2) := by
    have h1 : Turned (fun k => w.heap.size ≤ k) w w2 := ((HT1.out.mono (T := fun k => w.heap.size ≤ k) (fun _ h => h.elim)).alloc _).grown hg2 (fun k hk => .inl (HA1.out k hk))
    exact below_same (h1.below (Nat.le_refl _) (fun i hi => hi))
  have HG : Hid (w.heap.size ≤ g) := by
    rcases hat2 with h | h
    · exact HA1.out g (h.symm.trans rfl)
    · have : g = (w1.alloc (.cells #[.int .i64 (-77), .int .i64 (-77), .int .i64 (-77)] 3)).heap.size := by simpa [Value.ownBlock] using h
      have := HT1.out.size
      unfold Hid
      simp at *
      omega
  have hcap3 : p.length + 3 ≤ c2 := by omega
  clear ho2 hg2 hat2 hv hcap ex hc1 hc2 hcc
  go_wp2_with fail
  all_goals go_ret
  all_goals exact ⟨_, g, rfl, HL.out, HT2.out, HG.out⟩

set_option maxHeartbeats 4000000 in
theorem held_any (w : World) (tv lv : Value) (p : List Int) (g : Nat) (hT : LentAt w tv p g) (hR : RdS w (fun k => k = g) lv p) (hl : p.length ≤ 17592186044000) :
    Calls Try.prog 36 #[tv, lv] w fun e w' => e = .returned (.bool true) ∧ Turned (fun k => k = g) w w' := by
  obtain ⟨c, rfl, hc, ho⟩ := hT
  obtain ⟨A, lc, rfl, hA⟩ := hR
  have HO := Lib.hid ho
  have HR : Hid (RdS w (fun k => k = g) (.slice A p.length lc) p) := ⟨A, lc, rfl, hA⟩
  clear ho hA
  have hfz : w.frozen? ⟨g, 0, none⟩ = false := by have := HO.out.frozenAt 0; simpa using this
  go_enter Try.func36, Try.ntmps36
  go_wp2_with fail
  all_goals
  go_loopw [6, 7] (fun ok i wr => ∃ k : Nat, k ≤ p.length + 3 ∧ i = .int .i64 k ∧ ok = .bool true ∧ Hid (∃ xs, wr.ownsRow 0 3 1 (.slice (some ⟨g, 0, none⟩) (p.length + 3) c) (p.length + 3) xs ∧ (∀ j, k ≤ j → xs[j]? = (nInts (p ++ [-77, -77, -77]))[j]?) ∧ Turned (fun k => k = g) w wr)) (fun _ i _ => p.length + 3 - (intOf i).toNat)
  case atStart => exact ⟨0, Nat.zero_le _, rfl, rfl, _, HO.out, fun _ _ => rfl, Turned.refl _ _⟩
  case round =>
    obtain ⟨k, hk, rfl, rfl, HV⟩ := hrel
    obtain ⟨xs, ho, hx, ht⟩ := HV.out
    by_cases hlt : k < p.length + 3
    · have hk0 : (0 : Int) ≤ k := by omega
      have hk1 : (k : Int) < (p.length : Int) + 3 := by omega
      by_cases hkp : k < p.length
      · obtain ⟨A', lc', e, hA⟩ := HR.out.keep ht
        injection e with e1 _ e2
        subst e1; subst e2
        obtain ⟨bl, off, rfl, _, hcell⟩ := hA (by omega)
        have hd := hcell k hkp
        have hq := row_cell ho (j := k) (u := .int .i64 p[k]) (by rw [hx k (Nat.le_refl _)]; exact marks_at p k hkp)
        obtain ⟨y, hy⟩ : ∃ y, y = p[k] := ⟨_, rfl⟩
        rw [← hy] at hd hq
        have hf := ho.frozenAt k
        have HS : Hid (∀ n u, ∃ xs', ((wr.drewN n).setCell ⟨g, k, none⟩ u).ownsRow 0 3 1 (.slice (some ⟨g, 0, none⟩) (p.length + 3) c) (p.length + 3) xs' ∧ (∀ j, k + 1 ≤ j → xs'[j]? = (nInts (p ++ [-77, -77, -77]))[j]?) ∧ Turned (fun k => k = g) w ((wr.drewN n).setCell ⟨g, k, none⟩ u)) := fun n u => ⟨xs.set k u, by simpa using (World.ownsRow.stored (w := wr.drewN n) ho k u).1, fun j hj => by rw [List.getElem?_set_ne (by omega)]; exact hx j (by omega), (ht.drewN n).setCell (p := ⟨g, k, none⟩) (.inl rfl) u⟩
        have hk2 : (k : Int) < p.length := by omega
        have hk3 : decide ((k : Int) ≥ p.length) = false := decide_eq_false (by omega)
        have hk4 : decide (p.length ≤ k) = false := decide_eq_false (by omega)
        clear hA hcell hy ho hx ht HV
        go_wp2_with fail
        go_quiet (fail)
        go_wp2_with fail
        go_roundw
        case rel => exact ⟨k + 1, by omega, by go_num, rfl, HS.out _ _⟩
        case measure => simp [intOf]; omega
      · have hq := row_cell ho (j := k) (u := .int .i64 (-77)) (by
          rw [hx k (Nat.le_refl _)]
          simp only [nInts, List.map_append]
          rw [List.getElem?_append_right (by simp; omega)]
          simp only [List.length_map, List.map_cons, List.map_nil]
          have : k - p.length = 0 ∨ k - p.length = 1 ∨ k - p.length = 2 := by omega
          rcases this with h | h | h <;> rw [h] <;> rfl)
        have hf := ho.frozenAt k
        have HS : Hid (∀ n u, ∃ xs', ((wr.drewN n).setCell ⟨g, k, none⟩ u).ownsRow 0 3 1 (.slice (some ⟨g, 0, none⟩) (p.length + 3) c) (p.length + 3) xs' ∧ (∀ j, k + 1 ≤ j → xs'[j]? = (nInts (p ++ [-77, -77, -77]))[j]?) ∧ Turned (fun k => k = g) w ((wr.drewN n).setCell ⟨g, k, none⟩ u)) := fun n u => ⟨xs.set k u, by simpa using (World.ownsRow.stored (w := wr.drewN n) ho k u).1, fun j hj => by rw [List.getElem?_set_ne (by omega)]; exact hx j (by omega), (ht.drewN n).setCell (p := ⟨g, k, none⟩) (.inl rfl) u⟩
        have hk2 : ¬ (k : Int) < p.length := by omega
        have hk3 : (k : Int) ≥ p.length := by omega
        clear ho hx ht HV
        go_wp2_with fail
        go_quiet (fail)
        go_wp2_with fail
        go_roundw
        case rel => exact ⟨k + 1, by omega, by go_num, rfl, HS.out _ _⟩
        case measure => simp [intOf]; omega
    · have HT := Lib.hid ht
      clear ho hx ht HV
      go_wp2_with fail
      go_ret
      exact ⟨rfl, HT.out⟩

end Go.Proofs.Yteohhiefchoamaa

namespace Go.Proofs.Yteohhiefchoamaa
open Go.RowKit

theorem Twin.after {w wr w' : World} {b r : Nat} {room : Int} {v u : Value} {N M : List NV} (h : Twin w wr b r room v u N M) (ht : Same wr w') : Twin w w' b r room v u N M :=
  ⟨h.same.trans ht (fun _ h => h.elim), h.hp.same ht, h.rp.same ht, h.newh, h.newr, h.apart⟩
structure LdI (w wr : World) (bs bm : Nat) (vs : Value) (L : List Sym) (lu : Value) (b r : Nat) (room : Int) (v u : Value) (N M : List NV) : Prop where
  tw : Twin w wr b r room v u N M
  sig : SigAt wr bs bm vs L
  lst : wr.ownsRow 0 84 3 lu L.length (symCells L)
section
variable {w wr w' : World} {bs bm b r q : Nat} {vs lu v v' u u' : Value} {L : List Sym} {room : Int} {N N' M M' : List NV} {cs : Array Value} {t : TypeId}
theorem LdI.later (h : LdI w wr bs bm vs L lu b r room v u N M) (ht : Same wr w') : LdI w w' bs bm vs L lu b r room v u N M :=
  ⟨h.tw.after ht, h.sig.turned ht (fun _ _ h => h), World.ownsRow.same_ h.lst ht⟩
theorem sig_blk_ne (hs : SigAt wr bs bm vs L) (hB : Blk wr q t cs) (h1 : 133 ≠ t) (h2 : 84 ≠ t) : ¬ foot bs bm vs q := by
  obtain ⟨D, hD, _⟩ := hs.map
  rintro (e | e | e)
  · exact Blk.ne_ hs.blk hB h1 e.symm
  · exact blk_map_ne hB hD e
  · exact own_blk_ne hs.own hB h2 e
/-- A block of another kind turns. -/
theorem LdI.other (h : LdI w wr bs bm vs L lu b r room v u N M) (hB : Blk wr q t cs) (hn : w.heap.size ≤ q) (ht : Turned (fun k => k = q) wr w')
    (h1 : 133 ≠ t) (h2 : 84 ≠ t) (h3 : 113 ≠ t) (h4 : 53 ≠ t) (h5 : 3 ≠ t) (h6 : 72 ≠ t) : LdI w w' bs bm vs L lu b r room v u N M := by
  refine ⟨⟨h.tw.same.trans ht (fun i hi => .inr (by rw [hi]; exact hn)), ⟨h.tw.hp.blk.turned ht (fun e => Blk.ne_ h.tw.hp.blk hB h3 e), World.ownsRow.turned h.tw.hp.own ht (fun k hk e => own_blk_ne h.tw.hp.own hB h4 (by rw [hk, e])), fun x hx => (h.tw.hp.args x hx).turned ht (fun k hk e => arg_ne (h.tw.hp.args x hx) hB h5 (by rw [hk, e]))⟩, ⟨h.tw.rp.blk.turned ht (fun e => Blk.ne_ h.tw.rp.blk hB h6 e), World.ownsRow.turned h.tw.rp.own ht (fun k hk e => own_blk_ne h.tw.rp.own hB h4 (by rw [hk, e])), fun x hx => World.ownsRow.turned (h.tw.rp.args x hx) ht (fun k hk e => own_blk_ne (h.tw.rp.args x hx) hB h5 (by rw [hk, e]))⟩, h.tw.newh, h.tw.newr, h.tw.apart⟩, h.sig.turned ht (fun k hk e => sig_blk_ne h.sig hB h1 h2 (by rw [← e]; exact hk)), World.ownsRow.turned h.lst ht (fun k hk e => own_blk_ne h.lst hB h2 (by rw [hk, e]))⟩
theorem sig_apartR (hs : SigAt w bs bm vs L) (hh : RHeap w r room u M) : ∀ k, foot bs bm vs k → ¬ hfoot r u k := by
  obtain ⟨D, hD, _⟩ := hs.map
  rintro k (rfl | rfl | hk) (rfl | hv)
  · exact Blk.ne_ hs.blk hh.blk (by decide) rfl
  · exact own_blk_ne hh.own hs.blk (by decide) hv
  · exact blk_map_ne hh.blk hD rfl
  · exact own_map_ne hh.own hD hv
  · exact own_blk_ne hs.own hh.blk (by decide) hk
  · exact own_own_ne hs.own hh.own (by decide) k hk hv
/-- The heap turns. -/
theorem LdI.stepH (h : LdI w wr bs bm vs L lu b r room v u N M) (hh : HeapAt w' b room v' N') (ht : Turned (hfoot b v) wr w') (hv : v'.ownBlock = v.ownBlock ∨ ∃ k, v'.ownBlock = some k ∧ wr.heap.size ≤ k) : LdI w w' bs bm vs L lu b r room v' u N' M := by
  have hrf : ∀ k, hfoot r u k → ¬ hfoot b v k := by
    rintro k (rfl | hk) (e | e)
    · exact Blk.ne_ h.tw.rp.blk h.tw.hp.blk (by decide) e
    · exact own_blk_ne h.tw.hp.own h.tw.rp.blk (by decide) e
    · exact own_blk_ne h.tw.rp.own h.tw.hp.blk (by decide) (by rw [hk, e])
    · exact h.tw.apart k e hk
  have hold := hfoot_old (b := b) hv
  refine ⟨⟨h.tw.same.trans ht (fun i hi => .inr (h.tw.newh i hi)), hh, ⟨h.tw.rp.blk.turned ht (hrf r (.inl rfl)), World.ownsRow.turned h.tw.rp.own ht (fun k hk => hrf k (.inr hk)), fun x hx => World.ownsRow.turned (h.tw.rp.args x hx) ht (fun k hk hf => ?_)⟩, fun k hk => ?_, h.tw.newr, fun k hk hk2 => ?_⟩, h.sig.turned ht (sig_apart h.sig h.tw.hp), World.ownsRow.turned h.lst ht (fun k hk hf => ?_)⟩
  · rcases hf with e | e
    · exact own_blk_ne (h.tw.rp.args x hx) h.tw.hp.blk (by decide) (by rw [hk, e])
    · exact own_own_ne (h.tw.rp.args x hx) h.tw.hp.own (by decide) k hk e
  · rcases hold k hk with h1 | h1
    · exact h.tw.newh k h1
    · exact Nat.le_trans h.tw.same.size h1
  · rcases hv with e | ⟨j, e, hj⟩
    · exact h.tw.apart k (e.symm.trans hk) hk2
    · have e2 := e.symm.trans hk
      obtain rfl : j = k := by simpa using e2
      have := own_lt h.tw.rp.own hk2
      omega
  · rcases hf with e | e
    · exact own_blk_ne h.lst h.tw.hp.blk (by decide) (by rw [hk, e])
    · exact own_own_ne h.lst h.tw.hp.own (by decide) k hk e
/-- The document's heap turns. -/
theorem LdI.stepR (h : LdI w wr bs bm vs L lu b r room v u N M) (hh : RHeap w' r room u' M') (ht : Turned (hfoot r u) wr w') (hv : u'.ownBlock = u.ownBlock ∨ ∃ k, u'.ownBlock = some k ∧ wr.heap.size ≤ k) : LdI w w' bs bm vs L lu b r room v u' N M' := by
  have hrf : ∀ k, hfoot b v k → ¬ hfoot r u k := by
    rintro k (rfl | hk) (e | e)
    · exact Blk.ne_ h.tw.hp.blk h.tw.rp.blk (by decide) e
    · exact own_blk_ne h.tw.rp.own h.tw.hp.blk (by decide) e
    · exact own_blk_ne h.tw.hp.own h.tw.rp.blk (by decide) (by rw [hk, e])
    · exact h.tw.apart k hk e
  have hold := hfoot_old (b := r) hv
  refine ⟨⟨h.tw.same.trans ht (fun i hi => .inr (h.tw.newr i hi)), ⟨h.tw.hp.blk.turned ht (hrf b (.inl rfl)), World.ownsRow.turned h.tw.hp.own ht (fun k hk => hrf k (.inr hk)), fun x hx => (h.tw.hp.args x hx).turned ht (fun k hk hf => ?_)⟩, hh, h.tw.newh, fun k hk => ?_, fun k hk hk2 => ?_⟩, h.sig.turned ht (sig_apartR h.sig h.tw.rp), World.ownsRow.turned h.lst ht (fun k hk hf => ?_)⟩
  · rcases hf with e | e
    · exact arg_ne (h.tw.hp.args x hx) h.tw.rp.blk (by decide) (by rw [hk, e])
    · exact arg_own_ne (h.tw.hp.args x hx) h.tw.rp.own k hk e
  · rcases hold k hk with h1 | h1
    · exact h.tw.newr k h1
    · exact Nat.le_trans h.tw.same.size h1
  · rcases hv with e | ⟨j, e, hj⟩
    · exact h.tw.apart k hk (e.symm.trans hk2)
    · have e2 := e.symm.trans hk2
      obtain rfl : j = k := by simpa using e2
      have := own_lt h.tw.hp.own hk
      omega
  · rcases hf with e | e
    · exact own_blk_ne h.lst h.tw.rp.blk (by decide) (by rw [hk, e])
    · exact own_own_ne h.lst h.tw.rp.own (by decide) k hk e
/-- What stands behind a lent list is no argument. -/
theorem lent_arg_ne {tv av : Value} {p l : List Int} {g : Nat} (hT : LentAt w tv p g) (ha : ArgAt w av l) (hpos : ∀ d ∈ l, 0 ≤ d) : av.ownBlock ≠ some g := by
  intro he
  rcases ha with ⟨rfl, _⟩ | ⟨g', rfl, hb⟩
  · simp [Value.ownBlock] at he
  · obtain rfl : g' = g := by simpa [Value.ownBlock] using he
    obtain ⟨c, rfl, hc, ho⟩ := hT
    rcases ho.2 with ⟨h0, _⟩ | ⟨g2, cap, cur, hv, _, hh, h1, h2, h3, h4⟩
    · cases h0
    · injection hv with hv _ hc2
      injection hv with hv
      injection hv with hv
      subst hv
      unfold Blk at hb
      rw [hb] at hh
      injection hh with hh
      injection hh with hh
      subst hh
      have h5 : (nInts l)[p.length]? = some (.int .i64 (-77)) := by
        have h6 : ((nInts l).take ((p.length + 3) * 1))[p.length]? = some (.int .i64 (-77)) := by
          have h7 : (nInts l).toArray.toList = nInts l := rfl
          rw [h7] at h4
          rw [h4]
          simp [nInts]
        rw [List.getElem?_take_of_lt (by omega)] at h6
        exact h6
      simp only [nInts, List.getElem?_map, Option.map_eq_some_iff] at h5
      obtain ⟨d, hd, e⟩ := h5
      injection e with _ e
      have := hpos d (List.mem_of_getElem? hd)
      omega
/-- A lent list is written over. -/
theorem LdI.lent {tv : Value} {p : List Int} {g : Nat} (h : LdI w wr bs bm vs L lu b r room v u N M) (hT : LentAt wr tv p g) (hn : w.heap.size ≤ g) (ht : Turned (fun k => k = g) wr w')
    (hpos : ∀ x ∈ N, ∀ d ∈ x.1.args, 0 ≤ d) (hM : ∀ x ∈ M, x.2.ownBlock ≠ some g) : LdI w w' bs bm vs L lu b r room v u N M := by
  obtain ⟨c, hc1, hc2, ho⟩ := id hT
  have hgo : (Value.slice (some ⟨g, 0, none⟩) (p.length + 3) c).ownBlock = some g := rfl
  have hblk : ∀ {k : Nat} {t : TypeId} {cs : Array Value}, Blk wr k t cs → 3 ≠ t → k ≠ g := fun hb hne e => own_blk_ne ho hb hne (by rw [hgo, e])
  have hrow : ∀ {x : Value} {e : TypeId} {size n : Nat} {xs : List Value}, wr.ownsRow 0 e size x n xs → e ≠ 3 → x.ownBlock ≠ some g := fun hx hne e => own_own_ne hx ho hne g e hgo
  obtain ⟨D, hD, _⟩ := h.sig.map
  refine ⟨⟨h.tw.same.trans ht (fun i hi => .inr (by rw [hi]; exact hn)), ⟨h.tw.hp.blk.turned ht (hblk h.tw.hp.blk (by decide)), World.ownsRow.turned h.tw.hp.own ht (fun k hk e => hrow h.tw.hp.own (by decide) (by rw [hk, e])), fun x hx => (h.tw.hp.args x hx).turned ht (fun k hk e => lent_arg_ne hT (h.tw.hp.args x hx) (hpos x hx) (by rw [hk, e]))⟩, ⟨h.tw.rp.blk.turned ht (hblk h.tw.rp.blk (by decide)), World.ownsRow.turned h.tw.rp.own ht (fun k hk e => hrow h.tw.rp.own (by decide) (by rw [hk, e])), fun x hx => World.ownsRow.turned (h.tw.rp.args x hx) ht (fun k hk e => hM x hx (by rw [hk, e]))⟩, h.tw.newh, h.tw.newr, h.tw.apart⟩, h.sig.turned ht ?_, World.ownsRow.turned h.lst ht (fun k hk e => hrow h.lst (by decide) (by rw [hk, e]))⟩
  rintro k (rfl | rfl | hk) e
  · exact hblk h.sig.blk (by decide) e
  · exact own_map_ne ho hD (by rw [hgo, e])
  · exact hrow h.sig.own (by decide) (by rw [hk, e])
end
end Go.Proofs.Yteohhiefchoamaa

namespace Go.Proofs.Yteohhiefchoamaa
open Go.RowKit

def ldA (L : List Sym) (room : Int) (n : Nat) (t : List Int) : Int := match loadBad L room n t with
  | some _ => 0
  | none => (layF L n (lst t)).1.headD 0
def ldC (L : List Sym) (room : Int) (n : Nat) (t : List Int) : Int × Int := (loadBad L room n t).getD (0, 0)
def ldN (L : List Sym) (room : Int) (n : Nat) (t : List Int) : List Nd := match loadBad L room n t with
  | some _ => []
  | none => (layF L n (lst t)).2
/-- What an error says: nothing; or a Fault in memory that is new. -/
def EvIs (w : World) (ev : Value) (c i y : Int) (lo : Nat) : Prop := (ev = .nilIface ∧ c = 0 ∧ i = 0 ∧ y = 0) ∨ ∃ q, ev = .iface 104 (.pointer (some ⟨q, 0, none⟩)) ∧ Blk w q 106 #[.int .i64 c, .int .i64 i, whyV y] ∧ lo ≤ q
theorem EvIs.turned {w w' : World} {ev : Value} {c i y : Int} {lo : Nat} {S : Nat → Prop} (h : EvIs w ev c i y lo) (ht : Turned S w w') (hS : ∀ q cs, Blk w q 106 cs → ¬ S q) : EvIs w' ev c i y lo := by
  rcases h with h | ⟨q, e, hB, hq⟩
  · exact .inl h
  · exact .inr ⟨q, e, hB.turned ht (hS q _ hB), hq⟩
/-- Nothing has turned but a Fault. -/
def FarT (lo : Nat) (w w' : World) : Prop := Same w w' ∨ ∃ q cs, lo ≤ q ∧ Blk w q 106 cs ∧ Turned (fun k => k = q) w w'
theorem fault_ev (w : World) (ev : Value) (c i y : Int) (lo : Nat) (h : EvIs w ev c i y lo) : Calls Try.prog 33 #[ev] w fun e w' => e = .returned (fl c i y) ∧ FarT lo w w' := by
  rcases h with ⟨rfl, rfl, rfl, rfl⟩ | ⟨q, rfl, hB, hq⟩
  · exact (fault_nil w).mono fun _ _ h => ⟨h.1, .inl h.2⟩
  · exact (fault_any w q c i y hB).mono fun _ _ h => ⟨h.1, .inr ⟨q, _, hq, hB, h.2⟩⟩
section
variable {w wr w' : World} {bs bm b r q lo : Nat} {vs lu v u : Value} {L : List Sym} {room : Int} {N M : List NV} {cs : Array Value} {t : TypeId}
theorem LdI.far (h : LdI w wr bs bm vs L lu b r room v u N M) (hf : FarT lo wr w') (hlo : w.heap.size ≤ lo) : LdI w w' bs bm vs L lu b r room v u N M := by
  rcases hf with hs | ⟨q, cs, hq, hB, ht⟩
  · exact h.later hs
  · exact h.other hB (Nat.le_trans hlo hq) ht (by decide) (by decide) (by decide) (by decide) (by decide) (by decide)
theorem Blk.farT {g : Nat} (h : Blk wr g t cs) (hf : FarT lo wr w') (hne : t ≠ 106) : Blk w' g t cs := by
  rcases hf with hs | ⟨q, cs, hq, hB, ht⟩
  · exact h.turned hs (fun h => h)
  · exact h.turned ht (fun e => Blk.ne_ h hB hne e)
theorem LentAt.farT {tv : Value} {p : List Int} {g : Nat} (h : LentAt wr tv p g) (hf : FarT lo wr w') : LentAt w' tv p g := by
  rcases hf with hs | ⟨q, cs, hq, hB, ht⟩
  · exact h.turned hs (fun h => h)
  · obtain ⟨c, _, _, ho⟩ := id h
    exact h.turned ht (fun e => own_blk_ne ho hB (by decide) (by rw [← e]; rfl))
theorem FarT.size (hf : FarT lo wr w') : wr.heap.size ≤ w'.heap.size := by
  rcases hf with hs | ⟨q, cs, hq, hB, ht⟩
  · exact hs.size
  · exact ht.size
theorem LdI.load (h : LdI w wr bs bm vs L lu b r room v u N M) (hL : ∀ x ∈ L, 0 ≤ x.arity ∧ x.arity ≤ 6) (hs : Sound (N.map (·.1)) room) (hr4 : room ≤ 4000) (tv : Value) (t : List Int) (hl : RdS wr (hfoot b v) tv t) (hlen : t.length ≤ 17592186044416) :
    Calls Try.prog 15 #[.pointer (some ⟨bs, 0, none⟩), .pointer (some ⟨b, 0, none⟩), tv] wr fun e w' => ∃ ev, e = .returned (.tuple #[.int .i64 (ldA L room N.length t), ev]) ∧
      ∃ v' X, LdI w w' bs bm vs L lu b r room v' u (N ++ X) M ∧ X.map (·.1) = ldN L room N.length t ∧ EvIs w' ev (ldC L room N.length t).1 0 (ldC L room N.length t).2 wr.heap.size ∧ Turned (hfoot b v) wr w' := by
  refine (load_any wr bs bm vs L h.sig hL b room v N h.tw.hp hr4 tv t hl hlen (by have := hs.len; rwa [List.length_map] at this)).mono ?_
  rintro e w' (⟨c, y, ev, hb, rfl, ⟨q, rfl, hB, hq⟩, hs'⟩ | ⟨v', X, a, hb, ha, rfl, hh, hX, ht, hv⟩)
  · refine ⟨_, by unfold ldA; rw [hb], v, [], by rw [List.append_nil]; exact h.later hs', by unfold ldN; rw [hb]; rfl, .inr ⟨q, rfl, ?_, hq⟩, hs'.mono (fun _ h => h.elim)⟩
    unfold ldC; rw [hb]; exact hB
  · exact ⟨_, by unfold ldA; rw [hb]; simp only; rw [ha]; rfl, v', X, h.stepH hh ht hv, by unfold ldN; rw [hb]; exact hX, .inl ⟨rfl, by unfold ldC; rw [hb]; rfl, rfl, by unfold ldC; rw [hb]; rfl⟩, ht⟩
theorem LdI.rload (h : LdI w wr bs bm vs L lu b r room v u N M) (hL : ∀ x ∈ L, 0 ≤ x.arity ∧ x.arity ≤ 6) (hNr : (M.length : Int) ≤ room) (hr4 : room ≤ 4000) (tv : Value) (t : List Int) (hl : RdS wr (hfoot r u) tv t) (hlen : t.length ≤ 17592186044416) :
    Calls Try.prog 35 #[lu, .pointer (some ⟨r, 0, none⟩), tv] wr fun e w' => e = .returned (.tuple #[.int .i64 (ldA L room M.length t), fl (ldC L room M.length t).1 0 (ldC L room M.length t).2]) ∧
      ∃ u' Y, LdI w w' bs bm vs L lu b r room v u' N (M ++ Y) ∧ Y.map (·.1) = ldN L room M.length t ∧ Turned (hfoot r u) wr w' ∧ ∀ x ∈ Y, ∀ k, x.2.ownBlock = some k → wr.heap.size ≤ k := by
  refine (rload_any wr lu L h.lst hL r room u M h.tw.rp hr4 hNr tv t hl hlen).mono ?_
  rintro e w' (⟨c, y, hb, rfl, hs'⟩ | ⟨u', Y, a, hb, ha, rfl, hh, hY, ht, hv, hn⟩)
  · exact ⟨by unfold ldA ldC; rw [hb]; rfl, u, [], by rw [List.append_nil]; exact h.later hs', by unfold ldN; rw [hb]; rfl, hs'.mono (fun _ h => h.elim), fun x hx => by simp at hx⟩
  · exact ⟨by unfold ldA ldC; rw [hb]; simp only; rw [ha]; rfl, u', Y, h.stepR hh ht hv, by unfold ldN; rw [hb]; exact hY, ht, hn⟩
end
theorem ldN_sound {L : List Sym} {K : List Nd} {room : Int} {t : List Int} (hs : Sound K room) (hL : ∀ x ∈ L, 0 ≤ x.arity ∧ x.arity ≤ 6) : Sound (K ++ ldN L room K.length t) room := by
  unfold ldN
  cases hb : loadBad L room K.length t with
  | some _ => simpa using hs
  | none => exact hs.lay hL (items_load hb)
theorem load_neg (L : List Sym) (room : Int) (n : Nat) : loadBad L room n [-1] = some (130, 0) := by
  have hc : checkP L [-1] = 0 := by
    have h1 : badT L [-1] = 0 := badT_zero.2 (fun m hm => by
      obtain rfl : m = -1 := by simpa using hm
      unfold badN
      rw [if_neg (by omega), if_neg (by omega)])
    have h2 : endF L 1 [-1] = 1 := (endF_well L [-1] 1).2 ⟨by omega, by simp [Well, arN]⟩
    unfold checkP
    rw [h1, h2]
    simp
  unfold loadBad
  rw [if_neg (by rw [hc]; simp), if_pos (by simp)]
end Go.Proofs.Yteohhiefchoamaa

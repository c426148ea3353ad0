/-
  The walks of lent and held: lists with the caller's marks behind them.
-/
import Derived.Test.YteohhiefchoamaaRLoad
namespace Go.Proofs.Yteohhiefchoamaa
open Go.RowKit

theorem marks_at (p : List Int) (k : Nat) (h : k < p.length) : (nInts (p ++ [-77, -77, -77]))[k]? = some (.int .i64 p[k]) := by
  unfold nInts
  rw [List.map_append, List.getElem?_append_left (by simpa using h), List.getElem?_map, List.getElem?_eq_getElem h]; rfl

/-- A list that was lent: three marks stand behind it. -/
def LentAt (w : World) (v : Value) (p : List Int) (g : Nat) : Prop :=
  ∃ c, v = .slice (some ⟨g, 0, none⟩) p.length c ∧ p.length + 3 ≤ c ∧ w.ownsRow 0 3 1 (.slice (some ⟨g, 0, none⟩) (p.length + 3) c) (p.length + 3) (nInts (p ++ [-77, -77, -77]))
theorem LentAt.turned {w w' : World} {S : Nat → Prop} {v : Value} {p : List Int} {g : Nat} (h : LentAt w v p g) (ht : Turned S w w') (hn : ¬ S g) : LentAt w' v p g := by
  obtain ⟨c, rfl, hc, ho⟩ := h
  exact ⟨c, rfl, hc, World.ownsRow.turned ho ht (fun k hk hs => hn (by
    obtain rfl : g = k := by simpa [Value.ownBlock] using hk
    exact hs))⟩
theorem LentAt.rd {w : World} {v : Value} {p : List Int} {g : Nat} (h : LentAt w v p g) : Rd w v p := by
  obtain ⟨c, rfl, hc, ho⟩ := h
  refine ⟨_, c, rfl, fun h0 => ⟨g, 0, rfl, fun k hk => ?_⟩⟩
  have hc := World.ownsRow.cells (g := g) ho rfl k (.int .i64 p[k]) (marks_at p k hk)
  simpa [Addr.add_lit] using hc
theorem LentAt.own {v : Value} {w : World} {p : List Int} {g : Nat} (h : LentAt w v p g) : v.ownBlock = some g := by
  obtain ⟨c, rfl, hc, ho⟩ := h; rfl
theorem LentAt.lt {v : Value} {w : World} {p : List Int} {g : Nat} (h : LentAt w v p g) : g < w.heap.size := by
  obtain ⟨c, rfl, hc, ho⟩ := h
  exact (World.ownsRow.lt ho g rfl).2

set_option maxHeartbeats 1000000 in
theorem lent_any (w : World) (v : Value) (p : List Int) (hR : Rd w v p) (hl : p.length ≤ 17592186044000) :
    Calls Try.prog 34 #[v] w fun e w' => ∃ v' g, e = .returned v' ∧ LentAt w' v' p g ∧ Same w w' ∧ w.heap.size ≤ g := by
  obtain ⟨A, c, rfl, hA⟩ := hR
  have HS : Hid (Rd (w.alloc (.cells #[] 3)) (.slice A p.length c) p) := Rd.same_ (w := w) ⟨A, c, rfl, hA⟩ ((Turned.refl _ _).alloc _)
  clear hA
  obtain ⟨i0, hi0, hz0, hz1, hz2⟩ := info_parts info3
  have HI : Hid (Try.prog.info? 3 = some i0 ∧ i0.zero = some (.int .i64 0) ∧ i0.size = 1 ∧ i0.bytes = 8) := ⟨hi0, hz0, hz1, hz2⟩
  clear hi0 hz0 hz1 hz2
  go_enter Try.func34, Try.ntmps34
  go_wp2_with (at_builtin; go_loud (refine wpList_append_src _ rfl _ _ 26 rfl 3 i0 _ 1 8 Try.underlying26 HI.out.1 HI.out.2.1 HI.out.2.2.1 HI.out.2.2.2 rfl (by omega) (.slice (some ⟨w.heap.size, 0, none⟩) 0 0) 0 [] rfl (by exact empty_row) A p.length c (nInts p) rfl (by simp [nInts]) (rd_src HS.out) (nInts_one p) (by unfold maxLen; omega) (by omega) ?_))
  intro a1 c1 w1 ho1 hg1 hat1
  have HO1 : Hid (w1.ownsRow 0 3 1 (.slice a1 p.length c1) p.length (nInts p)) := by simpa [Hid] using ho1
  have HT1 : Hid (Same w w1) := by
    have h1 : Turned (fun k => k = w.heap.size) w w1 := ((Turned.refl _ w).alloc _).grown hg1 (fun k hk => .inl (by simpa [Value.ownBlock] using hk.symm))
    exact below_same (h1.below (Nat.le_refl _) (fun i hi => by omega))
  have HA1 : Hid (∀ k, (Value.slice a1 p.length c1).ownBlock = some k → w.heap.size ≤ k) := by
    intro k hk
    rcases hat1 with h | h
    · have h2 := hk.symm.trans h
      have : k = w.heap.size := by simpa [Value.ownBlock] using h2
      omega
    · have h2 := hk.symm.trans h
      have : k = (w.alloc (.cells #[] 3)).heap.size := by simpa using h2
      rw [this]; simp
  clear ho1 hg1 hat1
  go_wp2_with (at_builtin; go_loud (refine wpList_append_src _ rfl _ _ 26 rfl 3 i0 _ 1 8 Try.underlying26 HI.out.1 HI.out.2.1 HI.out.2.2.1 HI.out.2.2.2 rfl (by omega) (.slice a1 p.length c1) p.length (nInts p) rfl (by exact HO1.out.alloc _) (some ⟨w1.heap.size, 0, none⟩) 3 3 (nInts [-77, -77, -77]) rfl (by simp [nInts]) (by exact fun _ => src_new w1 (nInts [-77, -77, -77]) 3 (by omega)) (nInts_one _) (by unfold maxLen; omega) (by omega) ?_))
  intro a2 c2 w2 ho2 hg2 hat2
  obtain ⟨g, cap, hv, _, hg⟩ := ho2.form (by omega)
  obtain ⟨rfl, rfl⟩ : a2 = some ⟨g, 0, none⟩ ∧ c2 = cap := by simpa using hv
  have hcap := ho2
  obtain ⟨ax, cx, ex, hc1, hc2⟩ := own_shape hcap
  have hcc : c2 = cx := by injection ex
  have HL : Hid (LentAt w2 (.slice (some ⟨g, 0, none⟩) p.length c2) p g) := ⟨c2, rfl, by omega, by
    have e : nInts (p ++ [-77, -77, -77]) = nInts p ++ nInts [-77, -77, -77] := by simp [nInts]
    rw [e]; exact ho2⟩
  have HT2 : Hid (Same w w2) := by
    have h1 : Turned (fun k => w.heap.size ≤ k) w w2 := ((HT1.out.mono (T := fun k => w.heap.size ≤ k) (fun _ h => h.elim)).alloc _).grown hg2 (fun k hk => .inl (HA1.out k hk))
    exact below_same (h1.below (Nat.le_refl _) (fun i hi => hi))
  have HG : Hid (w.heap.size ≤ g) := by
    rcases hat2 with h | h
    · exact HA1.out g (h.symm.trans rfl)
    · have : g = (w1.alloc (.cells #[.int .i64 (-77), .int .i64 (-77), .int .i64 (-77)] 3)).heap.size := by simpa [Value.ownBlock] using h
      have := HT1.out.size
      unfold Hid
      simp at *
      omega
  have hcap3 : p.length + 3 ≤ c2 := by omega
  clear ho2 hg2 hat2 hv hcap ex hc1 hc2 hcc
  go_wp2_with fail
  all_goals go_ret
  all_goals exact ⟨_, g, rfl, HL.out, HT2.out, HG.out⟩

set_option maxHeartbeats 4000000 in
theorem held_any (w : World) (tv lv : Value) (p : List Int) (g : Nat) (hT : LentAt w tv p g) (hR : RdS w (fun k => k = g) lv p) (hl : p.length ≤ 17592186044000) :
    Calls Try.prog 36 #[tv, lv] w fun e w' => e = .returned (.bool true) ∧ Turned (fun k => k = g) w w' := by
  obtain ⟨c, rfl, hc, ho⟩ := hT
  obtain ⟨A, lc, rfl, hA⟩ := hR
  have HO := Lib.hid ho
  have HR : Hid (RdS w (fun k => k = g) (.slice A p.length lc) p) := ⟨A, lc, rfl, hA⟩
  clear ho hA
  have hfz : w.frozen? ⟨g, 0, none⟩ = false := by have := HO.out.frozenAt 0; simpa using this
  go_enter Try.func36, Try.ntmps36
  go_wp2_with fail
  all_goals
  go_loopw [6, 7] (fun ok i wr => ∃ k : Nat, k ≤ p.length + 3 ∧ i = .int .i64 k ∧ ok = .bool true ∧ Hid (∃ xs, wr.ownsRow 0 3 1 (.slice (some ⟨g, 0, none⟩) (p.length + 3) c) (p.length + 3) xs ∧ (∀ j, k ≤ j → xs[j]? = (nInts (p ++ [-77, -77, -77]))[j]?) ∧ Turned (fun k => k = g) w wr)) (fun _ i _ => p.length + 3 - (intOf i).toNat)
  case atStart => exact ⟨0, Nat.zero_le _, rfl, rfl, _, HO.out, fun _ _ => rfl, Turned.refl _ _⟩
  case round =>
    obtain ⟨k, hk, rfl, rfl, HV⟩ := hrel
    obtain ⟨xs, ho, hx, ht⟩ := HV.out
    by_cases hlt : k < p.length + 3
    · have hk0 : (0 : Int) ≤ k := by omega
      have hk1 : (k : Int) < (p.length : Int) + 3 := by omega
      by_cases hkp : k < p.length
      · obtain ⟨A', lc', e, hA⟩ := HR.out.keep ht
        injection e with e1 _ e2
        subst e1; subst e2
        obtain ⟨bl, off, rfl, _, hcell⟩ := hA (by omega)
        have hd := hcell k hkp
        have hq := row_cell ho (j := k) (u := .int .i64 p[k]) (by rw [hx k (Nat.le_refl _)]; exact marks_at p k hkp)
        obtain ⟨y, hy⟩ : ∃ y, y = p[k] := ⟨_, rfl⟩
        rw [← hy] at hd hq
        have hf := ho.frozenAt k
        have HS : Hid (∀ n u, ∃ xs', ((wr.drewN n).setCell ⟨g, k, none⟩ u).ownsRow 0 3 1 (.slice (some ⟨g, 0, none⟩) (p.length + 3) c) (p.length + 3) xs' ∧ (∀ j, k + 1 ≤ j → xs'[j]? = (nInts (p ++ [-77, -77, -77]))[j]?) ∧ Turned (fun k => k = g) w ((wr.drewN n).setCell ⟨g, k, none⟩ u)) := fun n u => ⟨xs.set k u, by simpa using (World.ownsRow.stored (w := wr.drewN n) ho k u).1, fun j hj => by rw [List.getElem?_set_ne (by omega)]; exact hx j (by omega), (ht.drewN n).setCell (p := ⟨g, k, none⟩) (.inl rfl) u⟩
        have hk2 : (k : Int) < p.length := by omega
        have hk3 : decide ((k : Int) ≥ p.length) = false := decide_eq_false (by omega)
        have hk4 : decide (p.length ≤ k) = false := decide_eq_false (by omega)
        clear hA hcell hy ho hx ht HV
        go_wp2_with fail
        go_quiet (fail)
        go_wp2_with fail
        go_roundw
        case rel => exact ⟨k + 1, by omega, by go_num, rfl, HS.out _ _⟩
        case measure => simp [intOf]; omega
      · have hq := row_cell ho (j := k) (u := .int .i64 (-77)) (by
          rw [hx k (Nat.le_refl _)]
          simp only [nInts, List.map_append]
          rw [List.getElem?_append_right (by simp; omega)]
          simp only [List.length_map, List.map_cons, List.map_nil]
          have : k - p.length = 0 ∨ k - p.length = 1 ∨ k - p.length = 2 := by omega
          rcases this with h | h | h <;> rw [h] <;> rfl)
        have hf := ho.frozenAt k
        have HS : Hid (∀ n u, ∃ xs', ((wr.drewN n).setCell ⟨g, k, none⟩ u).ownsRow 0 3 1 (.slice (some ⟨g, 0, none⟩) (p.length + 3) c) (p.length + 3) xs' ∧ (∀ j, k + 1 ≤ j → xs'[j]? = (nInts (p ++ [-77, -77, -77]))[j]?) ∧ Turned (fun k => k = g) w ((wr.drewN n).setCell ⟨g, k, none⟩ u)) := fun n u => ⟨xs.set k u, by simpa using (World.ownsRow.stored (w := wr.drewN n) ho k u).1, fun j hj => by rw [List.getElem?_set_ne (by omega)]; exact hx j (by omega), (ht.drewN n).setCell (p := ⟨g, k, none⟩) (.inl rfl) u⟩
        have hk2 : ¬ (k : Int) < p.length := by omega
        have hk3 : (k : Int) ≥ p.length := by omega
        clear ho hx ht HV
        go_wp2_with fail
        go_quiet (fail)
        go_wp2_with fail
        go_roundw
        case rel => exact ⟨k + 1, by omega, by go_num, rfl, HS.out _ _⟩
        case measure => simp [intOf]; omega
    · have HT := Lib.hid ht
      clear ho hx ht HV
      go_wp2_with fail
      go_ret
      exact ⟨rfl, HT.out⟩

end Go.Proofs.Yteohhiefchoamaa

/-
  The law's numbers: Of, twice, of which the first is written over by its owner, and grown: true.
-/
import Derived.Test.YtpknnhdpnmkpcaaNums
namespace Go.Proofs.Ytpknnhdpnmkpcaa
open Go.RowKit

theorem row_cell {w : World} {g c n : Nat} {xs : List Value} (h : w.ownsRow 0 3 1 (.slice (some ⟨g, 0, none⟩) n c) n xs) {j : Nat} {u : Value} (hu : xs[j]? = some u) : w.cell? ⟨g, j, none⟩ = some u := by
  have := h.cells (g := g) rfl j u hu
  simpa only [Addr.add_lit, Nat.zero_add] using this
theorem below_drewN {w w' : World} {B : Nat} (h : Below B w w') (n : Nat) : Below B w (w'.drewN n) := ⟨h.os, h.tape, h.output, h.size, h.block⟩
theorem row_below {w w' : World} {base e s n : Nat} {v : Value} {xs : List Value} (h : w.ownsRow base e s v n xs) (hb : Below w.heap.size w w') : w'.ownsRow base e s v n xs :=
  World.ownsRow.turned h (below_turned hb) (fun k hk hge => by have := (h.lt k hk).2; omega)

/-- The owner's list a, grown and written over: what else has turned. -/
structure NA (S : Nat → Prop) (wn wr : World) (v : Value) (n : Nat) : Prop where
  row : ∃ xs, wr.ownsRow 0 3 1 v n xs
  tur : Turned S wn wr
  at_ : ∀ k, v.ownBlock = some k → S k ∨ wn.heap.size ≤ k
theorem NA.store {S : Nat → Prop} {wn wr : World} {g n c : Nat} (h : NA S wn wr (.slice (some ⟨g, 0, none⟩) n c) n) (j : Nat) (u : Value) : NA S wn (wr.setCell ⟨g, j, none⟩ u) (.slice (some ⟨g, 0, none⟩) n c) n := by
  obtain ⟨xs, hx⟩ := h.row
  exact ⟨⟨_, (hx.stored j u).1⟩, h.tur.setCell (p := ⟨g, j, none⟩) (h.at_ g rfl) u, h.at_⟩
theorem NA.more {S : Nat → Prop} {wn wr w2 : World} {v v' : Value} {n : Nat} {xs : List Value} {o : Obj} (h : NA S wn wr v n) (hown : w2.ownsRow 0 3 1 v' (n + 1) xs) (hg : (wr.alloc o).grownBy w2 v.ownBlock) (hat : v'.ownBlock = v.ownBlock ∨ v'.ownBlock = some (wr.alloc o).heap.size) : NA S wn w2 v' (n + 1) := by
  refine ⟨⟨_, hown⟩, (h.tur.alloc o).grown hg h.at_, fun k hk => ?_⟩
  rcases hat with e | e
  · exact h.at_ k (by rw [← e]; exact hk)
  · rw [e] at hk
    have : (wr.alloc o).heap.size = k := by simpa using hk
    have := h.tur.size
    simp at *; omega

theorem SymRd.below {w w' : World} {v : Value} {L : List Sym} (h : SymRd w v L) (hb : Below w.heap.size w w') : SymRd w' v L := by
  obtain ⟨A, c, rfl, hA⟩ := h
  refine ⟨A, c, rfl, fun h0 => ?_⟩
  obtain ⟨bl, off, rfl, hc⟩ := hA h0
  refine ⟨bl, off, rfl, fun k hk => ?_⟩
  obtain ⟨q0, q1, q2⟩ := hc k hk
  have hbl := World.block_lt_of_cell? w _ q0
  exact ⟨(hb.cell (p := ⟨bl, off + k * 3, none⟩) hbl).trans q0, (hb.cell (p := ⟨bl, off + k * 3 + 1, none⟩) hbl).trans q1, (hb.cell (p := ⟨bl, off + k * 3 + 2, none⟩) hbl).trans q2⟩
theorem below_same {w w1 w2 : World} (h : Below w.heap.size w w1) (hs : Same w1 w2) : Below w.heap.size w w2 := h.trans (Turned.below hs h.size (fun _ h => h.elim))
theorem below_below {w w1 w2 : World} (h : Below w.heap.size w w1) (hs : Below w1.heap.size w1 w2) : Below w.heap.size w w2 := h.trans (hs.mono h.size)

theorem IRd.of_own' {w : World} {v : Value} {l : List Nat} {n : Nat} (hn : n = l.length) (h : w.ownsRow 0 3 1 v n (intN l)) : IRd w v l := by
  subst hn; exact IRd.of_own h

set_option maxRecDepth 100000 in
set_option maxHeartbeats 4000000 in
theorem numbers_any (w : World) (b bm : Nat) (v u : Value) (L : List Sym) (h : SigAt w b bm v L) (hu : SymRd w u L) (d : Bool) :
    Calls Try.prog 29 #[.pointer (some ⟨b, 0, none⟩), u, .bool d] w fun e w' => e = .returned (.bool true) ∧ Below w.heap.size w w' := by
  have H := Lib.hid h; have HU := Lib.hid hu
  have hl64 : (ofL L d).length ≤ 64 := Nat.le_trans ofL_le h.few
  obtain ⟨uA, uc, rfl, _⟩ := hu
  clear h
  obtain ⟨i0, hi0, hz0, hz1, hz2⟩ := info_parts Try.info3
  have HI3 : Hid (Try.prog.info? 3 = some i0 ∧ i0.zero = some (.int .i64 0) ∧ i0.size = 1 ∧ i0.bytes = 8) := ⟨hi0, hz0, hz1, hz2⟩
  clear hi0 hz0 hz1 hz2
  go_enter Try.func29, Try.ntmps29
  go_wp2_with fail
  refine (of_any _ b bm v L H.out d).mono ?_
  rintro e w1 ⟨av, rfl, ha, hb1, hf1⟩
  have HA1 := Lib.hid ha; have HB1 := Lib.hid hb1; have HF1 := Lib.hid hf1
  obtain ⟨aa, ac, rfl, _, _⟩ := own_shape ha
  clear ha hb1 hf1
  go_wp2_with fail
  refine (of_any _ b bm v L (H.out.below HB1.out) d).mono ?_
  rintro e w2 ⟨bv, rfl, hbv, hb2, hf2⟩
  have HA2 := Lib.hid (row_below HA1.out hb2)
  have HBv2 := Lib.hid hbv; have HB2 := Lib.hid (below_below HB1.out hb2); have HF2 := Lib.hid hf2
  have h12 : Hid (w1.heap.size ≤ w2.heap.size) := hb2.size
  obtain ⟨ba, bc, rfl, _, _⟩ := own_shape hbv
  clear hbv hb2 hf2
  go_wp2_with fail
  refine (rof_any _ _ L (HU.out.below HB2.out) H.out.few d).mono ?_
  rintro e w3 ⟨wv, rfl, hwv, hs3, hf3⟩
  have HA3 := Lib.hid (World.ownsRow.turned HA2.out hs3 (fun _ _ h => h))
  have HBv3 := Lib.hid (World.ownsRow.turned HBv2.out hs3 (fun _ _ h => h))
  have HW3 := Lib.hid hwv; have HB3 := Lib.hid (below_same HB2.out hs3); have HF3 := Lib.hid hf3
  have h23 : Hid (w2.heap.size ≤ w3.heap.size) := hs3.size
  obtain ⟨wa, wc, rfl, _, _⟩ := own_shape hwv
  clear hwv hs3 hf3
  go_wp2_with fail
  refine (sameInts_any _ _ _ (ofL L d) (IRd.of_own HA3.out) (IRd.of_own HW3.out) hl64).mono ?_
  rintro e w4 ⟨rfl, m, rfl⟩
  obtain ⟨wn, hwn⟩ : ∃ wn, wn = w3.drewN m := ⟨_, rfl⟩
  obtain ⟨n0, hn0⟩ : ∃ n0, n0 = (ofL L d).length := ⟨_, rfl⟩
  have HBn : Hid (Below w.heap.size w wn) := by rw [hwn]; exact below_drewN HB3.out m
  have HBv : Hid (wn.ownsRow 0 3 1 (.slice ba n0 bc) n0 (intN (ofL L d))) := by rw [hwn, hn0]; exact HBv3.out
  have HWv : Hid (wn.ownsRow 0 3 1 (.slice wa n0 wc) n0 (intN (ofL L d))) := by rw [hwn, hn0]; exact HW3.out
  have HAp : Hid (∀ k, (Value.slice aa n0 ac).ownBlock = some k → w.heap.size ≤ k ∧ (Value.slice ba n0 bc).ownBlock ≠ some k ∧ (Value.slice wa n0 wc).ownBlock ≠ some k) := by
    intro k hk
    rw [hn0] at hk ⊢
    have hk1 := (HA1.out.lt k hk).2
    have hk2 := h12.out
    exact ⟨HF1.out k hk, fun e => by have := HF2.out k e; omega, fun e => by have := HF3.out k e; omega⟩
  have HNA : Hid (NA (fun k => (Value.slice aa n0 ac).ownBlock = some k) wn wn (.slice aa n0 ac) n0) := by
    rw [hwn, hn0]
    exact ⟨⟨_, HA3.out⟩, Turned.refl _ _, fun k hk => .inl hk⟩
  rw [← hn0] at hl64
  rw [← hwn, ← hn0]
  have HN := Lib.hid hn0
  clear hwn hn0 HA1 HB1 HF1 HA2 HBv2 HB2 HF2 h12 HA3 HBv3 HW3 HB3 HF3 h23
  go_wp2_with fail
  go_loopw [11] (fun i wr => ∃ k : Nat, k ≤ n0 ∧ i = .int .i64 k ∧ Hid (NA (fun k => (Value.slice aa n0 ac).ownBlock = some k) wn wr (.slice aa n0 ac) n0)) (fun i _ => n0 - (intOf i).toNat)
  case atStart => exact ⟨0, Nat.zero_le _, rfl, HNA.out⟩
  case round =>
    clear HNA
    obtain ⟨k, hk, rfl, HV⟩ := hrel
    by_cases hlt : k < n0
    · obtain ⟨ys, hy⟩ := HV.out.row
      obtain ⟨g, cap, hv, _, hg⟩ := hy.form (by omega)
      obtain ⟨rfl, rfl⟩ : aa = some ⟨g, 0, none⟩ ∧ ac = cap := by simpa using hv
      have hyl : ys.length = n0 := by have := hy.1; omega
      have hcell := row_cell hy (j := k) (u := ys[k]) (by rw [List.getElem?_eq_getElem (by omega)])
      have hf : wr.frozen? ⟨g, k, none⟩ = false := hy.frozenAt k
      obtain ⟨y, hye⟩ : ∃ y, wr.cell? ⟨g, k, none⟩ = some y := ⟨_, hcell⟩
      clear hy hv hcell hyl
      have hk0 : (0 : Int) ≤ k := by omega
      have hk1 : (k : Int) < n0 := by omega
      go_wp2_with fail
      go_roundw
      case rel => exact ⟨k + 1, by omega, by go_num, HV.out.store k _⟩
      case measure => simp [intOf]; omega
    · go_wp2_with fail
      go_loopw [7, 12] (fun a i wr => ∃ (k : Nat) (na : Option Addr) (nc : Nat), k ≤ 9 ∧ i = .int .i64 k ∧ a = .slice na (n0 + k) nc ∧ Hid (NA (fun k => (Value.slice aa n0 ac).ownBlock = some k) wn wr (.slice na (n0 + k) nc) (n0 + k))) (fun _ i _ => 9 - (intOf i).toNat)
      case atStart => exact ⟨0, aa, ac, Nat.zero_le _, rfl, rfl, HV.out⟩
      case round =>
        clear HV hlt hk
        obtain ⟨j, na, nc, hj, rfl, rfl, HV⟩ := hrel
        by_cases hlt : j < 9
        · have hj1 : (j : Int) < 9 := by omega
          obtain ⟨ys, hy⟩ := HV.out.row
          have HY := Lib.hid hy
          clear hy
          go_wp2_with (first | (at_builtin; refine wpList_append_own_at _ rfl _ _ 61 rfl 0 3 i0 (.int .i64 0) 1 8 Try.underlying61 HI3.out.1 HI3.out.2.1 HI3.out.2.2.1 HI3.out.2.2.2 rfl (by decide) _ _ _ rfl (World.ownsRow.alloc HY.out _) ⟨wr.heap.size, 0, none⟩ 1 1 [.int .i64 (-8)] rfl rfl (cell_one_new _ _ _) (by simp [Value.oneCell']) (by unfold maxLen; omega) (by omega) (by omega) ?_; intro v' w4 hown4 hgrow4 _ hat4))
          have HV4 := Lib.hid (HV.out.more hown4 hgrow4 hat4)
          obtain ⟨na', nc', hsh, _, _⟩ := own_shape hown4
          have HS := Lib.hid hsh
          clear hown4 hgrow4 hat4 hsh
          go_roundw
          case rel => exact ⟨j + 1, na', nc', by omega, by go_num, HS.out, by rw [show n0 + (j + 1) = n0 + j + 1 from by omega, ← HS.out]; exact HV4⟩
          case measure => simp [intOf]; omega
        · obtain rfl : j = 9 := by omega
          have HBr : Hid (wr.ownsRow 0 3 1 (.slice ba n0 bc) n0 (intN (ofL L d))) := World.ownsRow.turned HBv.out HV.out.tur (fun k hk hs => (HAp.out k hs).2.1 hk)
          have HWr : Hid (wr.ownsRow 0 3 1 (.slice wa n0 wc) n0 (intN (ofL L d))) := World.ownsRow.turned HWv.out HV.out.tur (fun k hk hs => (HAp.out k hs).2.2 hk)
          have HLr : Hid (Below w.heap.size w wr) := HBn.out.trans (Turned.below HV.out.tur HBn.out.size (fun k hk => (HAp.out k hk).1))
          clear HV
          go_wp2_with fail
          refine (sameInts_any _ _ _ (ofL L d) (IRd.of_own' HN.out HBr.out) (IRd.of_own' HN.out HWr.out) (by have := HN.out; omega)).mono ?_
          rintro e w5 ⟨rfl, m2, rfl⟩
          go_wp2_with fail
          refine (of_any _ b bm v L (H.out.below (below_drewN HLr.out m2)) d).mono ?_
          rintro e w6 ⟨cv, rfl, hcv, hb6, _⟩
          have HC6 := Lib.hid hcv
          have HW6 : Hid (w6.ownsRow 0 3 1 (.slice wa n0 wc) n0 (intN (ofL L d))) := row_below (w := wr.drewN m2) HWr.out hb6
          have HL6 := Lib.hid (below_below (below_drewN HLr.out m2) hb6)
          obtain ⟨ca, cc, rfl, _, _⟩ := own_shape hcv
          clear hcv hb6 HBr HWr HLr
          go_wp2_with fail
          refine (sameInts_any _ _ _ (ofL L d) (IRd.of_own HC6.out) (IRd.of_own' HN.out HW6.out) (by have := HN.out; omega)).mono ?_
          rintro e w7 ⟨rfl, m3, rfl⟩
          go_wp2_with fail
          go_ret
          exact ⟨rfl, below_drewN HL6.out m3⟩
end Go.Proofs.Ytpknnhdpnmkpcaa

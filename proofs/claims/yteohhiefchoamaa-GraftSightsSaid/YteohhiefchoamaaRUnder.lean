/-
  The walk of the document's Under.
-/
import Derived.Test.YteohhiefchoamaaUnder
namespace Go.Proofs.Yteohhiefchoamaa
open Go.RowKit

set_option maxHeartbeats 1000000 in
theorem copied_new (w : World) (v : Value) (p : List Int) (hR : Rd w v p) (hl : p.length ≤ 17592186044416) :
    Calls Try.prog 80 #[v] w fun e w' => ∃ a c, e = .returned (.slice a p.length c) ∧ w'.ownsRow 0 3 1 (.slice a p.length c) p.length (nInts p) ∧ Same w w' ∧ (∀ k, (Value.slice a p.length c).ownBlock = some k → w.heap.size ≤ k) := by
  obtain ⟨A, c, rfl, hA⟩ := hR
  have HS : Hid (Rd (w.alloc (.cells #[] 3)) (.slice A p.length c) p) := Rd.same_ (w := w) ⟨A, c, rfl, hA⟩ ((Turned.refl _ _).alloc _)
  clear hA
  obtain ⟨i0, hi0, hz0, hz1, hz2⟩ := info_parts info3
  have HI : Hid (Try.prog.info? 3 = some i0 ∧ i0.zero = some (.int .i64 0) ∧ i0.size = 1 ∧ i0.bytes = 8) := ⟨hi0, hz0, hz1, hz2⟩
  clear hi0 hz0 hz1 hz2
  go_enter Try.func80, Try.ntmps80
  go_wp2_with (at_builtin; go_loud (refine wpList_append_src _ rfl _ _ 26 rfl 3 i0 _ 1 8 Try.underlying26 HI.out.1 HI.out.2.1 HI.out.2.2.1 HI.out.2.2.2 rfl (by omega) (.slice (some ⟨w.heap.size, 0, none⟩) 0 0) 0 [] rfl (by exact empty_row) A p.length c (nInts p) rfl (by simp [nInts]) (rd_src HS.out) (nInts_one p) (by unfold maxLen; omega) (by omega) ?_))
  intro a1 c1 w1 ho1 hg1 hat1
  have HO1 : Hid (w1.ownsRow 0 3 1 (.slice a1 p.length c1) p.length (nInts p)) := by simpa [Hid] using ho1
  have HT1 : Hid (Same w w1) := by
    have h1 : Turned (fun k => k = w.heap.size) w w1 := ((Turned.refl _ w).alloc _).grown hg1 (fun k hk => .inl (by simpa [Value.ownBlock] using hk.symm))
    exact below_same (h1.below (Nat.le_refl _) (fun i hi => by omega))
  have HA1 : Hid (∀ k, (Value.slice a1 p.length c1).ownBlock = some k → w.heap.size ≤ k) := by
    intro k hk
    rcases hat1 with h | h
    · have h2 := hk.symm.trans h
      have : k = w.heap.size := by simpa [Value.ownBlock] using h2
      omega
    · have h2 := hk.symm.trans h
      have : k = (w.alloc (.cells #[] 3)).heap.size := by simpa using h2
      rw [this]; simp
  clear ho1 hg1 hat1
  go_wp2_with fail
  go_ret
  exact ⟨_, _, by simp, HO1.out, HT1.out, HA1.out⟩

/-- What the document's Under tells. -/
def RUnd (K : List Nd) (f : Nat) (e : Ending) (w' : World) : Prop :=
  ∃ g B, e = .returned (.slice (some ⟨g, 0, none⟩) K.length K.length) ∧ Blk w' g 4 (nBools B).toArray ∧ B.length = K.length ∧ ∀ j < K.length, (B[j]? = some true ↔ Reach K f j)

set_option maxRecDepth 100000 in
set_option maxHeartbeats 8000000 in
theorem runder_any (w : World) (lv : Value) (K : List Nd) (h : NdRd w lv K) (hr : Ranked K) (hok : ∀ x ∈ K, NodeOk x) (hl : K.length ≤ 4000) (fv : Value) (f : Nat) (hF : Rd w fv [(f : Int)]) (hf : f < K.length) :
    Calls Try.prog 62 #[lv, fv] w fun e w' => RUnd K f e w' ∧ Same w w' := by
  have H := Lib.hid h; have HR := Lib.hid hr; have HOk := Lib.hid hok; have HF := Lib.hid hf; have HFv := Lib.hid hF
  obtain ⟨A, c, rfl, _⟩ := h
  obtain ⟨fA, fc, rfl, _⟩ := hF
  obtain ⟨i0, hi0, hz0, hz1, hz2⟩ := info_parts info4
  obtain ⟨i1, hi1, hy0, hy1, hy2⟩ := info_parts info3
  have HI : Hid (Try.prog.info? 3 = some i1 ∧ i1.zero = some (.int .i64 0) ∧ i1.size = 1 ∧ i1.bytes = 8) := ⟨hi1, hy0, hy1, hy2⟩
  have hmk := fun W => run_make (P := Try.prog) W 116 4 i0 (.bool false) Try.underlying116 hi0 hz0 .i64 .i64 K.length K.length (by omega) (by omega) (by rw [hz2]; omega) (by omega)
  simp only [hz1, Int.toNat_natCast, Nat.mul_one] at hmk
  clear hr hok hf hi0 hz0 hz1 hz2 hi1 hy0 hy1 hy2
  have HB0 : Hid (Blk (w.alloc (.cells (madeCells #[.bool false] K.length) 4)) w.heap.size 4 (nBools (List.replicate K.length false)).toArray) := by
    have h1 := Blk.new w 4 (madeCells #[.bool false] K.length)
    have e : madeCells #[Value.bool false] K.length = (nBools (List.replicate K.length false)).toArray := by
      apply Array.ext'
      rw [toList_madeCells_one]
      simp [nBools]
    rw [e] at h1 ⊢
    exact h1
  have HD0 : Hid (Dfs K f (List.replicate K.length false) [(f : Int)]) := Dfs.start HF.out
  have HW0 : Hid (wtL (List.replicate K.length false) K ≤ 24000) := by
    have := wtL_le (List.replicate K.length false) K (fun x hx => (HOk.out x hx).down6)
    unfold Hid; omega
  obtain ⟨mc, hm⟩ : ∃ mc, mc = madeCells (Value.bool false).cells K.length := ⟨_, rfl⟩
  rw [← hm] at hmk
  have HM : Hid (mc = madeCells #[.bool false] K.length) := hm
  rw [← HM.out] at HB0
  clear hm
  go_enter Try.func62, Try.ntmps62
  go_wp2_with fail
  clear hmk
  refine (copied_new _ _ [(f : Int)] (HFv.out.same_ ((Turned.refl _ _).alloc _)) (by simp)).mono ?_
  rintro e w1 ⟨ta, tc, rfl, hto, hs1, htn⟩
  obtain ⟨gs, hgs⟩ : ∃ gs, gs = w.heap.size := ⟨_, rfl⟩
  have HU0 : Hid (UndI w w1 gs (.slice ta 1 tc) (List.replicate K.length false) [(f : Int)]) := by
    rw [hgs]
    exact ⟨((Turned.refl _ _).alloc _).trans hs1 (fun _ h => h.elim), HB0.out.turned hs1 (fun h => h), hto, Nat.le_refl _, fun k hk => by have := htn k hk; rw [World.size_alloc] at this; omega⟩
  rw [← hgs]
  clear hgs hto hs1 htn HB0
  go_wp2_with fail
  go_loopw [6] (fun tv wr => ∃ s : Nat, s ≤ 30000 ∧ (∃ ta tc, tv = .slice ta s tc) ∧ Hid (∃ B T, UndI w wr gs tv B T ∧ T.length = s ∧ Dfs K f B T ∧ wtL B K + s ≤ 30000)) (fun tv wr => wtW wr gs K + (match tv with | .slice _ n _ => n | _ => 0))
  case atStart => exact ⟨1, by omega, ⟨_, _, rfl⟩, _, _, HU0.out, rfl, HD0.out, by have := HW0.out; omega⟩
  case round =>
    obtain ⟨s, hs, ⟨ta, tc, rfl⟩, HV⟩ := hrel
    obtain ⟨B, T, hU, hTl, hD, hwt⟩ := HV.out
    cases s with
    | zero =>
      obtain rfl : T = [] := List.eq_nil_of_length_eq_zero hTl
      have HE : Hid (RUnd K f (.returned (.slice (some ⟨gs, 0, none⟩) K.length K.length)) wr) := ⟨gs, B, rfl, hU.blk, hD.len, fun j hj => ⟨fun h => hD.snd j (.inl h), fun h => hD.all h⟩⟩
      have HS := Lib.hid hU.same
      clear hU hTl hD hwt HV
      go_wp2_with fail
      go_ret
      exact ⟨HE.out, HS.out⟩
    | succ s =>
      obtain ⟨T1, x, rfl, hT1⟩ := list_pop hTl
      have htd := hU.todo
      rw [hTl] at htd
      obtain ⟨htd1, tg, rfl, htop, hcap⟩ := own_pop htd hT1
      obtain ⟨j, rfl, hj⟩ := hD.inn x (by simp)
      have HU1 : Hid (UndI w wr gs (.slice (some ⟨tg, 0, none⟩) s tc) B T1) := ⟨hU.same, hU.blk, by rw [hT1]; exact htd1, hU.nb, fun k hk => hU.nt k (by simpa [Value.ownBlock] using hk)⟩
      obtain ⟨bj, hbj⟩ : ∃ bj, B[j]? = some bj := ⟨B[j]'(by rw [hD.len]; exact hj), by simp⟩
      have hcell := nBools_at hU.blk hbj
      have hfr := fun i => hU.blk.frozen i
      have hgl := hU.blk.lt
      have HP : Hid (Dfs K f B (T1 ++ [(j : Int)]) ∧ wtL B K + (s + 1) ≤ 30000 ∧ T1.length = s ∧ wtW wr gs K = wtL B K) := ⟨hD, hwt, hT1, wtW_blk hU.blk⟩
      have HBj := Lib.hid hbj
      have HJ := Lib.hid hj
      have hj0 : (0 : Int) ≤ j := by omega
      have hj1 : (j : Int) < K.length := by omega
      clear hU hTl hD hwt htd htd1 hT1 hj hbj HV
      cases bj with
      | true =>
        have HN : Hid (∃ B T, UndI w wr gs (.slice (some ⟨tg, 0, none⟩) s tc) B T ∧ T.length = s ∧ Dfs K f B T ∧ wtL B K + s ≤ 30000) := ⟨B, T1, HU1.out, HP.out.2.2.1, HP.out.1.old HBj.out, by have := HP.out.2.1; omega⟩
        go_wp2_with fail
        go_roundw
        case rel => exact ⟨s, by omega, ⟨_, _, rfl⟩, HN.out⟩
        case measure => simp
      | false =>
        have HU2 := Lib.hid (HU1.out.set j)
        have hx0 : K[j]? = some (K[j]'HJ.out) := List.getElem?_eq_getElem HJ.out
        have hnok := HOk.out (K[j]'HJ.out) (List.getElem_mem _)
        obtain ⟨⟨sy, ar, mk, po, tt⟩, hx⟩ : ∃ x, x = K[j]'HJ.out := ⟨_, rfl⟩
        rw [← hx] at hx0 hnok
        obtain ⟨bl, off, c', aA, ac, e, d0, d1, d2, d3, d4, hRa, _⟩ := H.out.get HU2.out.same j _ hx0
        injection e with e1 e3 e2
        clear e3
        subst e1; subst e2
        simp only at d0 d1 d2 d3 d4 hRa
        have HX := Lib.hid hx0; have HNok := Lib.hid hnok; have HRa := Lib.hid hRa
        obtain ⟨D, hDe⟩ : ∃ D, D = down ⟨sy, ar, mk, po, tt⟩ := ⟨_, rfl⟩
        have HDe := Lib.hid hDe
        have hd6 : D.length ≤ 6 := by rw [hDe]; exact hnok.down6
        clear hx0 hnok hRa hx hDe
        go_wp2_with fail
        refine (rdown_any _ ⟨sy, ar, mk, po, tt⟩ _ (HRa.out.same_ HU2.out.same)).mono ?_
        rintro e w3 ⟨dv, rfl, hDv, hs3⟩
        rw [← HDe.out] at hDv
        have HDv := Lib.hid hDv
        obtain ⟨dA, dc, rfl, _⟩ := hDv
        have HU3 := Lib.hid (HU2.out.later hs3)
        have HTd : Hid (w3.ownsRow 0 3 1 (.slice (some ⟨tg, 0, none⟩) s tc) s (nInts T1)) := by have h1 := HU3.out.todo; rwa [HP.out.2.2.1] at h1
        obtain ⟨dn, hdn⟩ : ∃ dn, dn = D.length := ⟨_, rfl⟩
        have HDn := Lib.hid hdn
        rw [← hdn] at hd6 HDv ⊢
        clear hdn hs3 d0 d1 d2 d3 d4
        go_wp2_with (at_builtin; go_loud (refine wpList_append_src _ rfl _ _ 26 rfl 3 i1 _ 1 8 Try.underlying26 HI.out.1 HI.out.2.1 HI.out.2.2.1 HI.out.2.2.2 rfl (by omega) (.slice (some ⟨tg, 0, none⟩) s tc) s (nInts T1) rfl (by exact HTd.out) dA dn dc (nInts D) rfl (by rw [HDn.out]; simp [nInts]) (by rw [HDn.out]; exact rd_src (by rw [← HDn.out]; exact HDv.out)) (nInts_one _) (by unfold maxLen; omega) (by omega) ?_))
        intro a6 c6 w6 ho6 hg6 hat6
        have HN : Hid ((∃ B T, UndI w w6 gs (.slice a6 (s + dn) c6) B T ∧ T.length = s + dn ∧ Dfs K f B T ∧ wtL B K + (s + dn) ≤ 30000) ∧ wtW w6 gs K + (s + dn) < wtW wr gs K + (s + 1)) := by
          have hU6 := HU3.out.push (w1 := w3) (xs := D) (tv2 := .slice a6 (s + dn) c6) (Turned.refl _ _) (by rw [HP.out.2.2.1, ← HDn.out]; exact ho6) hg6 hat6
          have hset := wtL_set B K j _ HBj.out HX.out
          rw [← HDe.out, ← HDn.out] at hset
          have h2 := HP.out.2.1
          have h3 := wtW_blk (K := K) hU6.blk
          have h4 := HP.out.2.2.2
          refine ⟨⟨B.set j true, T1 ++ D, hU6, by rw [List.length_append, HP.out.2.2.1, ← HDn.out], ?_, by omega⟩, by omega⟩
          rw [HDe.out]
          refine HP.out.1.new HBj.out HX.out (fun d hd => HR.out.inK _ (List.mem_of_getElem? HX.out) d hd)
        have hsd : s + dn ≤ 30000 := by obtain ⟨⟨_, _, _, _, _, h⟩, _⟩ := HN.out; omega
        clear ho6 hg6 hat6
        go_wp2_with fail
        go_roundw
        case rel => exact ⟨s + dn, hsd, ⟨_, _, rfl⟩, HN.out.1⟩
        case measure => exact HN.out.2
end Go.Proofs.Yteohhiefchoamaa

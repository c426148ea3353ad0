/-
  The walks of the document's Refill, and of the law's made.
-/
import Derived.Test.YteohhiefchoamaaRHeap
namespace Go.Proofs.Yteohhiefchoamaa
open Go.RowKit

def RRefilled (w : World) (r : Nat) (room : Int) (K : List Nd) (e : Ending) (w' : World) : Prop :=
  (∃ k : Int, k ≠ 0 ∧ e = .returned (.int .i64 k) ∧ Same w w') ∨
  (e = .returned (.int .i64 0) ∧ ∃ u' M, RHeap w' r room u' M ∧ M.map (·.1) = K ∧ Turned (fun k => k = r) w w' ∧ (∀ j, u'.ownBlock = some j → w.heap.size ≤ j) ∧ (∀ x ∈ K, MayP x K.length) ∧ Ranked K)
theorem rheap_put {w : World} {b : Nat} {room : Int} {v u : Value} {M : List NV} (hB : Blk w b 72 #[.int .i64 room, v]) (ho : w.ownsRow 0 53 5 u M.length (nall M)) (ha : ∀ x ∈ M, w.ownsRow 0 3 1 x.2 x.1.args.length (nInts x.1.args)) :
    RHeap (w.setCell ⟨b, 1, none⟩ u) b room u M := by
  have hset : Turned (fun k => k = b) w (w.setCell ⟨b, 1, none⟩ u) := Turned.setCell (S := fun k => k = b) (Turned.refl _ w) (p := ⟨b, 1, none⟩) (.inl rfl) _
  exact ⟨(hB.set_ 1 _).trans rfl, World.ownsRow.turned ho hset (fun k hk e => own_blk_ne ho hB (by decide) (by rw [hk, e])), fun x hx => World.ownsRow.turned (ha x hx) hset (fun k hk e => own_blk_ne (ha x hx) hB (by decide) (by rw [hk, e]))⟩

set_option maxRecDepth 100000 in
set_option maxHeartbeats 4000000 in
theorem rrefill_any (w : World) (r : Nat) (room : Int) (u : Value) (N : List NV) (h : RHeap w r room u N) (hr4 : room ≤ 4000) (lv : Value) (K : List Nd) (hR : NdRd w lv K) :
    Calls Try.prog 46 #[.pointer (some ⟨r, 0, none⟩), lv] w fun e w' => RRefilled w r room K e w' := by
  have H := Lib.hid h; have HR := Lib.hid hR
  have c0 : w.cell? ⟨r, 0, none⟩ = some (.int .i64 room) := (h.blk.cell 0).trans rfl
  obtain ⟨A, c, rfl, _⟩ := hR
  clear h
  by_cases hlr : (K.length : Int) > room
  · go_enter Try.func46, Try.ntmps46
    go_wp2_with fail
    go_ret
    exact .inl ⟨111, by decide, rfl, Turned.refl _ _⟩
  have hl4 : K.length ≤ 4000 := by omega
  go_enter Try.func46, Try.ntmps46
  go_wp2_with fail
  clear c0
  go_loopw [5] (fun a wr => ∃ k : Nat, k ≤ K.length ∧ a = .int .i64 k ∧ Hid (Same w wr ∧ ∀ x ∈ K.take k, MayP x K.length)) (fun a _ => K.length - (intOf a).toNat)
  case atStart => exact ⟨0, Nat.zero_le _, rfl, Turned.refl _ _, by simp⟩
  case round =>
    obtain ⟨k, hk, rfl, HV⟩ := hrel
    by_cases hlt : k < K.length
    · have hx0 : K[k]? = some K[k] := by simp [hlt]
      have HTk : Hid (K.take (k + 1) = K.take k ++ [K[k]]) := List.take_succ_eq_append_getElem hlt
      obtain ⟨⟨sy, ar, mk, po, tt⟩, hx⟩ : ∃ x, x = K[k] := ⟨_, rfl⟩
      rw [← hx] at hx0 HTk
      obtain ⟨bl, off, c', aA, ac, e, a0, a1, a2, a3, a4, hRa, _⟩ := HR.out.get HV.out.1 k _ hx0
      injection e with e1 _ e2
      subst e1; subst e2
      simp only at a0 a1 a2 a3 a4 hRa
      have HRa := Lib.hid hRa
      have hk0 : (0 : Int) ≤ k := by omega
      have hk1 : (k : Int) < K.length := by omega
      clear hx0 hx hRa
      go_wp2_with fail
      refine (rmay_any _ ⟨sy, ar, mk, po, tt⟩ _ (HRa.out.same_ HV.out.1) K.length).mono ?_
      rintro e w2 ⟨⟨bm, rfl, hbm⟩, hs2⟩
      have HBm := Lib.hid hbm
      have HS2 : Hid (Same w w2) := HV.out.1.trans hs2 (fun _ h => h.elim)
      clear hs2 hbm a0 a1 a2 a3 a4
      cases bm with
      | false =>
        go_wp2_with fail
        go_ret
        exact .inl ⟨114, by decide, rfl, HS2.out⟩
      | true =>
        have HM2 : Hid (∀ x ∈ K.take (k + 1), MayP x K.length) := by
          intro x hx
          rw [HTk.out, List.mem_append] at hx
          rcases hx with h1 | h1
          · exact HV.out.2 x h1
          · obtain rfl : x = _ := by simpa using h1
            exact HBm.out rfl
        go_wp2_with fail
        go_roundw
        case rel => exact ⟨k + 1, by omega, by go_num, HS2.out, HM2.out⟩
        case measure => simp [intOf]; omega
    · have hkk : k = K.length := by omega
      subst hkk
      rw [List.take_length] at HV
      have HS := Lib.hid HV.out.1; have HMp := Lib.hid HV.out.2
      have HNd := Lib.hid (HR.out.same HV.out.1)
      clear HV
      go_wp2_with fail
      refine (rring_any wr _ K HNd.out (mayp_in HMp.out) hl4 (fun x hx => by have := (HMp.out x hx).len; omega)).mono ?_
      rintro e w2 ⟨⟨bb, rfl, hbb⟩, hs2⟩
      have HS2 : Hid (Same w w2) := HS.out.trans hs2 (fun _ h => h.elim)
      have HBb := Lib.hid hbb
      have HNd2 := Lib.hid (HNd.out.same hs2)
      clear hs2 hbb
      cases bb with
      | true =>
        go_wp2_with fail
        go_ret
        exact .inl ⟨113, by decide, rfl, HS2.out⟩
      | false =>
        have HRk : Hid (Ranked K) := HBb.out.1 rfl
        go_wp2_with fail
        refine (nodes_any w2 _ K HNd2.out hl4 (fun x hx => (HMp.out x hx).len)).mono ?_
        rintro e w3 ⟨u3, M, rfl, hN, hM⟩
        have HN := Lib.hid hN; have HM := Lib.hid hM
        have HS3 : Hid (Same w w3) := HS2.out.trans hN.same (fun _ h => h.elim)
        have hB3 := H.out.blk.turned HS3.out (fun h => h)
        have hb1 := hB3.cell 1
        have hbl := hB3.lt
        have hbf := fun i => hB3.frozen i
        simp at hb1
        have HB3 := Lib.hid hB3
        obtain ⟨ua, uc, rfl, _, _⟩ := own_shape hN.own
        clear hB3 hN hM
        go_wp2_with fail
        go_ret
        refine .inr ⟨rfl, _, M, rheap_put HB3.out HN.out.own HN.out.args, HM.out, Turned.setCell (S := fun k => k = r) (HS3.out.mono (fun _ h => h.elim)) (p := ⟨r, 1, none⟩) (.inl rfl) _, fun j hj => ?_, HMp.out, HRk.out⟩
        have := HN.out.new j hj
        have := HS2.out.size
        omega

/-- A heap and the document's, both made since w, of the same room. -/
structure Twin (w wr : World) (b r : Nat) (room : Int) (v u : Value) (N M : List NV) : Prop where
  same : Same w wr
  hp : HeapAt wr b room v N
  rp : RHeap wr r room u M
  newh : ∀ k, hfoot b v k → w.heap.size ≤ k
  newr : ∀ k, hfoot r u k → w.heap.size ≤ k
  apart : ∀ k, v.ownBlock = some k → u.ownBlock ≠ some k
def MadeRes (w : World) (room : Int) (K : List Nd) (e : Ending) (w' : World) : Prop :=
  (e = .returned (.tuple #[.pointer none, .pointer none]) ∧ Same w w') ∨
  (∃ b r v u N M, e = .returned (.tuple #[.pointer (some ⟨b, 0, none⟩), .pointer (some ⟨r, 0, none⟩)]) ∧ Twin w w' b r room v u N M ∧ N.map (·.1) = K ∧ M.map (·.1) = K ∧ (∀ x ∈ K, MayP x K.length) ∧ Ranked K ∧ 1 ≤ room ∧ room ≤ 4000 ∧ (K.length : Int) ≤ room)

set_option maxRecDepth 100000 in
set_option maxHeartbeats 4000000 in
theorem made_any (w : World) (room : Int) (lv : Value) (K : List Nd) (hR : NdRd w lv K) (hl2 : ∀ x ∈ K, x.args.length ≤ 17592186044416) :
    Calls Try.prog 12 #[.int .i64 room, lv] w fun e w' => MadeRes w room K e w' := by
  have HR := Lib.hid hR; have HL := Lib.hid hl2
  obtain ⟨A, c, rfl, _⟩ := hR
  clear hl2
  by_cases hroom : room < 1 ∨ 4000 < room
  · go_enter Try.func12, Try.ntmps12
    go_wp2_with (first | (go_at_call 28; refine (hnew_bad room hroom _).mono ?_; rintro e w' ⟨rfl, rfl⟩) | (go_at_call 44; refine (rnew_bad room hroom _).mono ?_; rintro e w' ⟨rfl, rfl⟩))
    go_ret2
    exact .inl ⟨rfl, Turned.refl _ _⟩
  have h1 : 1 ≤ room := by omega
  have h2 : room ≤ 4000 := by omega
  clear hroom
  go_enter Try.func12, Try.ntmps12
  go_wp2_with fail
  refine (hnew_ok room h1 h2 _).mono ?_
  rintro e w1 ⟨rfl, hh1, hs1⟩
  have HH1 := Lib.hid hh1; have HS1 := Lib.hid hs1
  obtain ⟨b, hb⟩ : ∃ b, b = w.heap.size := ⟨_, rfl⟩
  rw [← hb] at HH1 ⊢
  have HB := Lib.hid hb
  clear hh1 hs1 hb
  go_wp2_with fail
  refine (rnew_ok room h1 h2 _).mono ?_
  rintro e w2 ⟨rfl, hh2, hs2⟩
  have HH2 := Lib.hid hh2; have HS2 := Lib.hid hs2
  obtain ⟨r, hr⟩ : ∃ r, r = w1.heap.size := ⟨_, rfl⟩
  rw [← hr] at HH2 ⊢
  have HRr := Lib.hid hr
  have HS02 : Hid (Same w w2) := HS1.out.trans hs2 (fun _ h => h.elim)
  clear hh2 hs2 hr
  go_wp2_with fail
  refine (refill_any w2 b room _ [] (HH1.out.same HS2.out) h2 _ K (HR.out.same HS02.out) HL.out).mono ?_
  rintro e w3 (⟨k, hk, rfl, hs3⟩ | ⟨rfl, v3, N, hh3, hN, ht3, hn3, hm3, hl3⟩)
  · have hkz : (k == 0) = false := by rw [beq_eq_false_iff_ne]; exact hk
    have HS3 : Hid (Same w w3) := HS02.out.trans hs3 (fun _ h => h.elim)
    have HH3 := Lib.hid (HH2.out.same hs3)
    clear hs3
    go_wp2_with fail
    refine (rrefill_any w3 r room _ [] HH3.out h2 _ K (HR.out.same HS3.out)).mono ?_
    rintro e w4 (⟨k2, hk2, rfl, hs4⟩ | ⟨rfl, u4, M, hh4, hM, ht4, hn4, hm4, hrk⟩)
    · have hkz2 : (k2 == 0) = false := by rw [beq_eq_false_iff_ne]; exact hk2
      have HS4 : Hid (Same w w4) := HS3.out.trans hs4 (fun _ h => h.elim)
      clear hs4
      cases hq : (k == k2) with
      | false =>
        go_wp2_with fail
        go_ret2
        exact .inl ⟨rfl, HS4.out⟩
      | true =>
        go_wp2_with fail
        all_goals go_ret2
        all_goals exact .inl ⟨rfl, HS4.out⟩
    · have HS4 : Hid (Same w w4) := by
        have h1 := HS3.out.trans ht4 (S := fun _ => False) (fun i hi => .inr (by rw [hi, HRr.out]; exact HS1.out.size))
        exact h1
      clear hh4 hM ht4 hn4 hm4 hrk
      go_wp2_with fail
      go_ret2
      exact .inl ⟨rfl, HS4.out⟩
  · have HS3 : Hid (Same w w3) := by
      have h1 := HS02.out.trans ht3 (S := fun _ => False) (fun i hi => .inr (by rw [hi, HB.out]; exact Nat.le_refl _))
      exact h1
    have hbr : r ≠ b := by rw [HRr.out, HB.out]; have := HH1.out.blk.lt; rw [HB.out] at this; omega
    have HRH : Hid (RHeap w3 r room (.slice none 0 0) []) := ⟨HH2.out.blk.turned ht3 hbr, World.ownsRow_nil _ _ _ _, fun x h => by cases h⟩
    have HH3 := Lib.hid hh3; have HN := Lib.hid hN; have HMp := Lib.hid hm3; have HN3 := Lib.hid hn3; have HT3 := Lib.hid ht3
    clear hh3 hN ht3 hn3 hm3
    go_wp2_with fail
    refine (rrefill_any w3 r room _ [] HRH.out h2 _ K (HR.out.same HS3.out)).mono ?_
    rintro e w4 (⟨k2, hk2, rfl, hs4⟩ | ⟨rfl, u4, M, hh4, hM, ht4, hn4, hm4, hrk⟩)
    · have hkz2 : (0 == k2) = false := by rw [beq_eq_false_iff_ne]; exact fun e => hk2 e.symm
      have HS4 : Hid (Same w w4) := HS3.out.trans hs4 (fun _ h => h.elim)
      clear hs4 hbr
      go_wp2_with fail
      go_ret2
      exact .inl ⟨rfl, HS4.out⟩
    · have HS4 : Hid (Same w w4) := by
        have h1 := HS3.out.trans ht4 (S := fun _ => False) (fun i hi => .inr (by rw [hi, HRr.out]; exact HS1.out.size))
        exact h1
      have HTw : Hid (Twin w w4 b r room v3 u4 N M) := by
        have hrb := hh4.blk
        refine ⟨HS4.out, ?_, hh4, ?_, ?_, ?_⟩
        · refine ⟨HH3.out.blk.turned ht4 (fun e => hbr e.symm), World.ownsRow.turned HH3.out.own ht4 (fun k hk e => own_blk_ne HH3.out.own HRH.out.blk (by decide) (by rw [hk, e])), fun x hx => (HH3.out.args x hx).turned ht4 (fun k hk e => arg_ne (HH3.out.args x hx) HRH.out.blk (by decide) (by rw [hk, e]))⟩
        · rintro k (rfl | hk)
          · rw [HB.out]; exact Nat.le_refl _
          · exact Nat.le_trans HS02.out.size (HN3.out k hk)
        · rintro k (rfl | hk)
          · rw [HRr.out]; exact HS1.out.size
          · exact Nat.le_trans HS3.out.size (hn4 k hk)
        · intro k hk hk2
          have h5 := hn4 k hk2
          have h6 := own_lt HH3.out.own hk
          omega
      have HM := Lib.hid hM; have HRk := Lib.hid hrk
      clear hbr hh4 hM ht4 hn4 hm4 hrk
      go_wp2_with fail
      go_ret2
      exact .inr ⟨b, r, v3, u4, N, M, rfl, HTw.out, HN.out, HM.out, HMp.out, HRk.out, h1, h2, hl3⟩
end Go.Proofs.Yteohhiefchoamaa

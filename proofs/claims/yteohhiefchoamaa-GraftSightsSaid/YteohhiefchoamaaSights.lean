/-
  The walk of GraftSights.
-/
import Derived.Test.YteohhiefchoamaaLeads
import Derived.Test.YteohhiefchoamaaAwake
namespace Go.Proofs.Yteohhiefchoamaa
open Go.RowKit

section
variable {w wr w' : World} {b r : Nat} {room : Int} {v u : Value} {N N' M M' : List NV}
theorem Twin.later (h : Twin w wr b r room v u N M) (ht : Same wr w') : Twin w w' b r room v u N M :=
  ⟨h.same.trans ht (fun _ h => h.elim), h.hp.same ht, h.rp.same ht, h.newh, h.newr, h.apart⟩
theorem Twin.atH (h : Twin w wr b r room v u N M) (hh : HeapAt w' b room v N') (ht : Turned (fun k => v.ownBlock = some k) wr w') : Twin w w' b r room v u N' M := by
  refine ⟨h.same.trans ht (fun k hk => .inr (h.newh k (.inr hk))), hh, ⟨h.rp.blk.turned ht (fun e => own_blk_ne h.hp.own h.rp.blk (by decide) e), World.ownsRow.turned h.rp.own ht (fun k hk e => h.apart k e hk), fun x hx => World.ownsRow.turned (h.rp.args x hx) ht (fun k hk e => own_own_ne (h.rp.args x hx) h.hp.own (by decide) k hk e)⟩, h.newh, h.newr, h.apart⟩
theorem Twin.atR (h : Twin w wr b r room v u N M) (hh : RHeap w' r room u M') (ht : Turned (fun k => u.ownBlock = some k) wr w') : Twin w w' b r room v u N M' := by
  refine ⟨h.same.trans ht (fun k hk => .inr (h.newr k (.inr hk))), ⟨h.hp.blk.turned ht (fun e => own_blk_ne h.rp.own h.hp.blk (by decide) e), World.ownsRow.turned h.hp.own ht (fun k hk e => h.apart k hk e), fun x hx => (h.hp.args x hx).turned ht (fun k hk e => arg_own_ne (h.hp.args x hx) h.rp.own k hk e)⟩, hh, h.newh, h.newr, h.apart⟩
end
/-- Both heaps, of the same nodes; and the sight. -/
structure SiI (w wr : World) (b r : Nat) (v u : Value) (q n : Nat) : Prop where
  ex : ∃ N M, Twin w wr b r 4000 v u N M ∧ M.map (·.1) = N.map (·.1) ∧ Ranked (N.map (·.1)) ∧ (∀ x ∈ N.map (·.1), NodeOk x) ∧ N.length = n
  sight : Blk wr q 56 #[.pointer (some ⟨b, 0, none⟩)]
theorem SiI.later {w wr w' : World} {b r : Nat} {v u : Value} {q n : Nat} (h : SiI w wr b r v u q n) (ht : Same wr w') : SiI w w' b r v u q n := by
  obtain ⟨N, M, h1, h2⟩ := h.ex
  exact ⟨⟨N, M, h1.later ht, h2⟩, h.sight.turned ht (fun h => h)⟩
/-- What the calls on both answer. -/
theorem SiI.head {w wr : World} {b r : Nat} {v u : Value} {q n : Nat} (h : SiI w wr b r v u q n) (a : Int) : ∃ (s : Int) (f : Bool), (∀ W, Same wr W → Calls Try.prog 20 #[sv (some ⟨b, 0, none⟩), .int .i64 a] W fun e w' => e = .returned (.tuple #[.int .i64 s, .bool f]) ∧ Same W w') ∧ (∀ W, Same wr W → Calls Try.prog 21 #[.pointer (some ⟨r, 0, none⟩), .int .i64 a] W fun e w' => e = .returned (.tuple #[.int .i64 s, .bool f]) ∧ Same W w') := by
  obtain ⟨N, M, h1, h2, h3, h4, h5⟩ := h.ex
  refine ⟨(headF (N.map (·.1)) a).1, (headF (N.map (·.1)) a).2, fun W hW => head_any W b 4000 v N (h1.later hW).hp h3 (fun x hx => by have := (h4 x.1 (List.mem_map_of_mem hx)).a6; omega) a, fun W hW => ?_⟩
  have := rhead_any W r 4000 u (M.map (·.1)) (h1.later hW).rp.rhp (by rw [h2]; exact h3) (by rw [h2]; exact h4) a
  rwa [h2] at this
theorem SiI.arg {w wr : World} {b r : Nat} {v u : Value} {q n : Nat} (h : SiI w wr b r v u q n) (a k : Int) : ∃ s : Int, (∀ W, Same wr W → Calls Try.prog 22 #[sv (some ⟨b, 0, none⟩), .int .i64 a, .int .i64 k] W fun e w' => e = .returned (.int .i64 s) ∧ Same W w') ∧ (∀ W, Same wr W → Calls Try.prog 23 #[.pointer (some ⟨r, 0, none⟩), .int .i64 a, .int .i64 k] W fun e w' => e = .returned (.int .i64 s) ∧ Same W w') := by
  obtain ⟨N, M, h1, h2, h3, h4, h5⟩ := h.ex
  refine ⟨argF (N.map (·.1)) a k, fun W hW => arg_any W b 4000 v N (h1.later hW).hp h3 (fun x hx => by have := (h4 x.1 (List.mem_map_of_mem hx)).a6; omega) a k, fun W hW => ?_⟩
  have := rarg_any W r 4000 u (M.map (·.1)) (h1.later hW).rp.rhp (by rw [h2]; exact h3) (by rw [h2]; exact fun x hx => (h4 x hx).a6) a k
  rwa [h2] at this

set_option maxRecDepth 100000 in
set_option maxHeartbeats 8000000 in
theorem sights_law (w : World) (lv : Value) (K : List Nd) (hK : NdRd w lv K) (hKa : ∀ x ∈ K, x.args.length ≤ 17592186044416) (at_ tz n : Int) :
    Calls Try.prog 4 #[lv, .int .i64 at_, .int .i64 tz, .int .i64 n] w fun e w' => e = .returned (.bool true) ∧ Same w w' := by
  have HK := Lib.hid hK; have HKa := Lib.hid hKa
  obtain ⟨KA, kc, rfl, _⟩ := hK
  clear hKa
  go_enter Try.func4, Try.ntmps4
  go_wp2_with fail
  refine (awake_any _).mono ?_
  rintro e w0 ⟨rfl, hs0⟩
  have HS0 := Lib.hid hs0
  clear hs0
  go_wp2_with fail
  refine (made_any w0 4000 _ K (HK.out.same HS0.out) HKa.out).mono ?_
  rintro e w2 (⟨rfl, hs2⟩ | ⟨b, r, v, u, N, M, rfl, hTw, hN, hM, hmp, hrk, _, _, hKl⟩)
  · have HS2 : Hid (Same w w2) := HS0.out.trans hs2 (fun _ h => h.elim)
    clear hs2
    go_wp2_with fail
    all_goals go_ret
    all_goals exact ⟨rfl, HS2.out⟩
  · have hKl4 : K.length ≤ 4000 := by omega
    have HT2 : Hid (Twin w w2 b r 4000 v u N M ∧ M.map (·.1) = N.map (·.1) ∧ Ranked (N.map (·.1)) ∧ (∀ x ∈ N.map (·.1), NodeOk x) ∧ N.length = K.length) := by
      refine ⟨⟨HS0.out.trans hTw.same (fun _ h => h.elim), hTw.hp, hTw.rp, fun k hk => Nat.le_trans HS0.out.size (hTw.newh k hk), fun k hk => Nat.le_trans HS0.out.size (hTw.newr k hk), hTw.apart⟩, by rw [hM, hN], by rw [hN]; exact hrk, by rw [hN]; exact fun x hx => NodeOk.of (hmp x hx), ?_⟩
      rw [← hN, List.length_map]
    clear hTw hN hM hmp hrk hKl
    go_wp2_with fail
    refine (of_any _ _).mono ?_
    rintro e w3 ⟨rfl, hs3⟩
    obtain ⟨q, hq⟩ : ∃ q, q = w3.heap.size := ⟨_, rfl⟩
    obtain ⟨w4, hw4⟩ : ∃ w4, w4 = w3.alloc (.cells #[.pointer (some ⟨b, 0, none⟩)] 56) := ⟨_, rfl⟩
    have HI4 : Hid (SiI w w4 b r v u q K.length) := by
      obtain ⟨h1, h2⟩ := HT2.out
      rw [hw4, hq]
      exact ⟨⟨N, M, h1.later (hs3.alloc _), h2⟩, Blk.new w3 56 _⟩
    clear hs3
    go_wp2_with fail
    rw [← hq, ← hw4]
    clear hq hw4
    go_loopw [13] (fun i wr => ∃ k : Nat, k ≤ 2 ∧ i = .int .i64 k ∧ Hid (SiI w wr b r v u q K.length)) (fun i _ => 2 - (intOf i).toNat)
    case atStart => exact ⟨0, by omega, rfl, HI4.out⟩
    case round =>
      obtain ⟨k, hk, rfl, HV⟩ := hrel
      rename World => w5
      by_cases hlt : k < 2
      · have hk2 : (k : Int) < 2 := by omega
        go_wp2_with fail
        go_loopw [14] (fun av wr => ∃ m : Nat, m ≤ K.length + 4 ∧ av = .int .i64 ((m : Int) - 2) ∧ Hid (SiI w wr b r v u q K.length)) (fun av _ => ((K.length : Int) + 2 - intOf av).toNat)
        case atStart => exact ⟨0, by omega, rfl, HV.out⟩
        case round =>
          obtain ⟨m, hm, rfl, HV⟩ := hrel
          rename World => w6
          by_cases hlm : m < K.length + 4
          · have hm1 : (m : Int) - 2 < (K.length : Int) + 2 := by omega
            have q0 := HV.out.sight.cell 0
            simp at q0
            have hql := HV.out.sight.lt
            obtain ⟨s, fb, hA, hB⟩ := HV.out.head ((m : Int) - 2)
            have HA := Lib.hid hA; have HB := Lib.hid hB
            clear hA hB
            go_wp2_with fail
            refine (HA.out _ (Turned.refl _ _)).mono ?_
            rintro e w7 ⟨rfl, hs7⟩
            have HS7 := Lib.hid hs7
            clear hs7
            go_wp2_with fail
            refine (HB.out _ HS7.out).mono ?_
            rintro e w8 ⟨rfl, hs8⟩
            have HI8 := Lib.hid (HV.out.later (HS7.out.trans hs8 (fun _ h => h.elim)))
            clear hs8 q0 hql
            go_wp2_with fail
            clear HV HA HB HS7
            go_loopw [19] (fun kv wr => ∃ j : Nat, j ≤ 9 ∧ kv = .int .i64 ((j : Int) - 1) ∧ Hid (SiI w wr b r v u q K.length)) (fun kv _ => (8 - intOf kv).toNat)
            case atStart => exact ⟨0, by omega, rfl, HI8.out⟩
            case round =>
              obtain ⟨j, hj, rfl, HV⟩ := hrel
              rename World => w9
              by_cases hlj : j < 9
              · have hj1 : (j : Int) - 1 < 8 := by omega
                have q0 := HV.out.sight.cell 0
                simp at q0
                have hql := HV.out.sight.lt
                obtain ⟨s2, hA, hB⟩ := HV.out.arg ((m : Int) - 2) ((j : Int) - 1)
                have HA := Lib.hid hA; have HB := Lib.hid hB
                clear hA hB
                go_wp2_with fail
                refine (HA.out _ (Turned.refl _ _)).mono ?_
                rintro e w10 ⟨rfl, hs10⟩
                have HS10 := Lib.hid hs10
                clear hs10
                go_wp2_with fail
                refine (HB.out _ HS10.out).mono ?_
                rintro e w11 ⟨rfl, hs11⟩
                have HI11 := Lib.hid (HV.out.later (HS10.out.trans hs11 (fun _ h => h.elim)))
                clear hs11 q0 hql
                go_wp2_with fail
                go_roundw
                case rel => exact ⟨j + 1, by omega, by congr 1; omega, HI11.out⟩
                case measure => simp [intOf]; omega
              · have hjj : j = 9 := by omega
                subst hjj
                rw [show ((9 : Nat) : Int) - 1 = 8 from rfl]
                go_wp2_with fail
                go_roundw
                case rel => exact ⟨m + 1, by omega, by congr 1; omega, HV.out⟩
                case measure => simp [intOf]; omega
          · have hmm : m = K.length + 4 := by omega
            subst hmm
            rw [show ((K.length + 4 : Nat) : Int) - 2 = (K.length : Int) + 2 from by omega]
            have q0 := HV.out.sight.cell 0
            simp at q0
            have hql := HV.out.sight.lt
            obtain ⟨s2, hA, hB⟩ := HV.out.arg at_ n
            have HA := Lib.hid hA; have HB := Lib.hid hB
            clear hA hB
            go_wp2_with fail
            refine (HA.out _ (Turned.refl _ _)).mono ?_
            rintro e w10 ⟨rfl, hs10⟩
            have HS10 := Lib.hid hs10
            clear hs10
            go_wp2_with fail
            refine (HB.out _ HS10.out).mono ?_
            rintro e w11 ⟨rfl, hs11⟩
            have HI11 := Lib.hid (HV.out.later (HS10.out.trans hs11 (fun _ h => h.elim)))
            clear hs11 q0 hql HV HA HB HS10
            go_wp2_with fail
            obtain ⟨N1, M1, h1, h2, h3, h4, h5⟩ := HI11.out.ex
            have HT1 := Lib.hid h1; have HM1 := Lib.hid h2; have HRk1 := Lib.hid h3; have HOk1 := Lib.hid h4; have HNl1 := Lib.hid h5
            have HSg1 := Lib.hid HI11.out.sight
            clear h1 h2 h3 h4 h5
            refine (point_any _ b 4000 v N1 HT1.out.hp HRk1.out HOk1.out (by rw [HNl1.out]; exact hKl4) at_ tz).mono ?_
            rintro e w12 ⟨rfl, N2, hN2, hN2m, ht2⟩
            have HT2' := Lib.hid (HT1.out.atH hN2 ht2)
            have HN2 := Lib.hid hN2m
            have HSg2 : Hid (Blk w12 q 56 #[.pointer (some ⟨b, 0, none⟩)]) := HSg1.out.turned ht2 (fun e => own_blk_ne HT1.out.hp.own HSg1.out (by decide) e)
            clear hN2 hN2m ht2
            have hrp := rpoint_any w12 r 4000 u M1 HT2'.out.rp (by rw [HM1.out]; exact HRk1.out) (by rw [HM1.out]; exact HOk1.out) (by have h6 := congrArg List.length HM1.out; simp only [List.length_map] at h6; rw [h6, HNl1.out]; exact hKl4) at_ tz
            have HRP := Lib.hid hrp
            clear hrp
            obtain ⟨pr, hpr⟩ : ∃ pr, pr = pointR (N1.map (·.1)) at_ tz := ⟨_, rfl⟩
            have HPr := Lib.hid hpr
            rw [← hpr]
            clear hpr
            go_wp2_with fail
            refine HRP.out.mono ?_
            rintro e w13 ⟨rfl, M2, hM2, hM2m, ht3⟩
            have HT3 := Lib.hid (HT2'.out.atR hM2 ht3)
            have HM2 := Lib.hid hM2m
            have HSg3 : Hid (Blk w13 q 56 #[.pointer (some ⟨b, 0, none⟩)]) := HSg2.out.turned ht3 (fun e => own_blk_ne HT2'.out.rp.own HSg2.out (by decide) e)
            clear hM2 hM2m ht3
            rw [HM1.out, ← HPr.out]
            go_wp2_with fail
            have HM3 : Hid (M2.map (·.1) = N2.map (·.1) ∧ Ranked (N2.map (·.1)) ∧ (∀ x ∈ N2.map (·.1), NodeOk x) ∧ N2.length = K.length) := by
              obtain ⟨g1, g2, g3⟩ := point_keeps HRk1.out HOk1.out at_ tz
              refine ⟨by rw [HM2.out, HM1.out, HN2.out], by rw [HN2.out]; exact g1, by rw [HN2.out]; exact g2, ?_⟩
              have h6 := congrArg List.length HN2.out
              rw [List.length_map, g3, List.length_map, HNl1.out] at h6
              exact h6
            refine (mark_any _ b 4000 v N2 HT3.out.hp tz n).mono ?_
            rintro e w14 ⟨rfl, N3, hN3, hN3m, ht4⟩
            have HT4 := Lib.hid (HT3.out.atH hN3 ht4)
            have HN3 := Lib.hid hN3m
            have HSg4 : Hid (Blk w14 q 56 #[.pointer (some ⟨b, 0, none⟩)]) := HSg3.out.turned ht4 (fun e => own_blk_ne HT3.out.hp.own HSg3.out (by decide) e)
            clear hN3 hN3m ht4
            have HMk := Lib.hid (rmark_any w14 r 4000 u M2 HT4.out.rp tz n)
            obtain ⟨mr, hmr⟩ : ∃ mr, mr = markR (N2.map (·.1)) tz n := ⟨_, rfl⟩
            have HMr := Lib.hid hmr
            rw [← hmr]
            clear hmr
            go_wp2_with fail
            refine HMk.out.mono ?_
            rintro e w15 ⟨rfl, M3, hM3, hM3m, ht5⟩
            have HI15 : Hid (SiI w w15 b r v u q K.length) := by
              obtain ⟨g1, g2, g3⟩ := mark_keeps HM3.out.2.1 HM3.out.2.2.1 tz n
              refine ⟨⟨N3, M3, HT4.out.atR hM3 ht5, by rw [hM3m, HM3.out.1, HN3.out], by rw [HN3.out]; exact g1, by rw [HN3.out]; exact g2, ?_⟩, HSg4.out.turned ht5 (fun e => own_blk_ne HT4.out.rp.own HSg4.out (by decide) e)⟩
              have h6 := congrArg List.length HN3.out
              rw [List.length_map, g3, List.length_map, HM3.out.2.2.2] at h6
              exact h6
            clear hM3 hM3m ht5
            rw [HM3.out.1, ← HMr.out]
            go_wp2_with fail
            go_roundw
            case rel => exact ⟨k + 1, by omega, by go_num, HI15.out⟩
            case measure => simp [intOf]; omega
      · have hkk : k = 2 := by omega
        subst hkk
        have HSm : Hid (Same w w5) := by obtain ⟨_, _, h1, _⟩ := HV.out.ex; exact h1.same
        go_wp2_with fail
        go_ret
        exact ⟨rfl, HSm.out⟩
end Go.Proofs.Yteohhiefchoamaa

/-
  The walks of the document's Leads, Head and Arg.
-/
import Derived.Test.YteohhiefchoamaaPoints
import Derived.BigQuiet
namespace Go.Proofs.Yteohhiefchoamaa
open Go.RowKit

noncomputable def leadsF (K : List Nd) (a : Int) (p : List Int) : Int := if 0 ≤ a ∧ a < K.length then leadF K (resF K a.toNat) p else -1
theorem argF_neg (K : List Nd) (n : Int) : argF K (-1) n = -1 := by
  unfold argF ndF
  rw [if_neg (by omega)]
theorem leadF_neg (K : List Nd) : ∀ p : List Int, leadF K (-1) p = -1
  | [] => rfl
  | n :: p => by
    show leadF K (argF K (-1) n) p = -1
    rw [argF_neg]
    exact leadF_neg K p
theorem leadF_cons (K : List Nd) (a n : Int) (p : List Int) : leadF K a (n :: p) = leadF K (argF K a n) p := rfl
theorem ndF_res {K : List Nd} {c : Nat} {nd : Nd} (hc : Res K c c) (hx : K[c]? = some nd) : ndF K c = some nd := by
  have hl := hc.from_lt
  unfold ndF
  rw [if_pos (by omega), Int.toNat_natCast, resF_eq hc, hx]
theorem argF_out {K : List Nd} {c : Nat} {nd : Nd} {n : Int} (hc : Res K c c) (hx : K[c]? = some nd) (hn : n < 0 ∨ (nd.args.length : Int) ≤ n) : argF K c n = -1 := by
  unfold argF
  rw [ndF_res hc hx]
  simp only
  by_cases h0 : 0 ≤ n
  · rw [if_pos h0, List.getElem?_eq_none (by omega)]
  · rw [if_neg h0]
theorem argF_at {K : List Nd} {c m t : Nat} {nd : Nd} (hc : Res K c c) (hx : K[c]? = some nd) (hm : nd.args[m]? = some (t : Int)) : argF K c m = resF K t := by
  unfold argF
  rw [ndF_res hc hx]
  simp only
  rw [if_pos (by omega), Int.toNat_natCast, hm]
  rfl
theorem Res.self {K : List Nd} {a c : Nat} (h : Res K a c) : Res K c c := by
  obtain ⟨hl, hp⟩ := h.lt
  exact .here hl hp

set_option maxHeartbeats 4000000 in
theorem rleads_any (w : World) (r : Nat) (room : Int) (u : Value) (K : List Nd) (h : RHp w r room u K) (hr : Ranked K) (ha6 : ∀ x ∈ K, x.args.length ≤ 6) (a : Int) (pv : Value) (p : List Int) (hR : Rd w pv p) (hl : p.length ≤ 17592186044416) :
    Calls Try.prog 58 #[.pointer (some ⟨r, 0, none⟩), .int .i64 a, pv] w fun e w' => e = .returned (.int .i64 (leadsF K a p)) ∧ Same w w' := by
  have H := Lib.hid h; have HR := Lib.hid hr; have HA6 := Lib.hid ha6; have HP := Lib.hid hR
  obtain ⟨pA, pc, rfl, _⟩ := hR
  by_cases ha : 0 ≤ a ∧ a < (K.length : Int)
  · obtain ⟨j, rfl⟩ : ∃ j : Nat, a = (j : Int) := ⟨a.toNat, by omega⟩
    have hj : j < K.length := by omega
    obtain ⟨c0, hc0⟩ := hr.res j hj
    have HE : Hid (leadsF K j p = leadF K c0 p) := by unfold Hid leadsF; rw [if_pos ha, Int.toNat_natCast, resF_eq hc0]
    have HC0 := Lib.hid hc0.self; have HJ := Lib.hid hj
    have HRs : Hid (Calls Try.prog 57 #[.pointer (some ⟨r, 0, none⟩), .int .i64 j] w fun e w' => e = .returned (.tuple #[.int .i64 c0, .int .i64 0]) ∧ w = w') := by
      have h1 := rresolve_some w r room u K h hr j hj
      rwa [resF_eq hc0] at h1
    clear h hr ha6 ha hc0 hj
    go_enter Try.func58, Try.ntmps58
    go_wp2_with fail
    refine HRs.out.mono ?_
    rintro e w1 ⟨rfl, rfl⟩
    go_wp2_with fail
    go_loopw [1, 8] (fun av iv wr => ∃ m c : Nat, m ≤ p.length ∧ iv = .int .i64 m ∧ av = .int .i64 c ∧ Hid (Same w wr ∧ Res K c c ∧ leadF K c (p.drop m) = leadF K c0 p)) (fun _ iv _ => p.length - (intOf iv).toNat)
    case atStart => exact ⟨0, c0, Nat.zero_le _, rfl, rfl, Turned.refl _ _, HC0.out, rfl⟩
    case round =>
      obtain ⟨m, c, hm, rfl, rfl, HV⟩ := hrel
      rename World => w2
      by_cases hlt : m < p.length
      · have hcl := HV.out.2.1.from_lt
        have hx0 : K[c]? = some (K[c]'hcl) := List.getElem?_eq_getElem hcl
        have hla := HA6.out (K[c]'hcl) (List.getElem_mem _)
        obtain ⟨⟨sy, ar, mk, po, tt⟩, hx⟩ : ∃ x, x = K[c]'hcl := ⟨_, rfl⟩
        rw [← hx] at hx0 hla
        simp only at hla
        obtain ⟨bl, off, c', aA, ac, e, d0, d1, d2, d3, d4, hRa, _⟩ := H.out.rd.get HV.out.1 c _ hx0
        have hb1 := (H.out.same HV.out.1).blk.cell 1
        rw [e] at hb1
        simp at hb1
        simp only at d0 d1 d2 d3 d4 hRa
        obtain ⟨A2, c2, e2, hA⟩ := HP.out.same_ HV.out.1
        injection e2 with e3 _ e4
        subst e3; subst e4
        obtain ⟨pbl, poff, rfl, hpc⟩ := hA (by omega)
        have hd := hpc m hlt
        have hdr : p.drop m = p[m] :: p.drop (m + 1) := List.drop_eq_getElem_cons hlt
        obtain ⟨n, hn⟩ : ∃ n, n = p[m] := ⟨_, rfl⟩
        rw [← hn] at hd hdr
        have HX := Lib.hid hx0; have HRa := Lib.hid hRa; have HDr := Lib.hid hdr
        have HV2 : Hid (Same w w2 ∧ Res K c c ∧ leadF K (argF K c n) (p.drop (m + 1)) = leadF K c0 p) := ⟨HV.out.1, HV.out.2.1, by rw [← leadF_cons, ← HDr.out]; exact HV.out.2.2⟩
        obtain ⟨an, han⟩ : ∃ an, an = ar.length := ⟨_, rfl⟩
        have HAn := Lib.hid han
        rw [← han] at d1 hla
        have hc0 : (0 : Int) ≤ c := by omega
        have hc1 : (c : Int) < K.length := by omega
        have hm0 : (0 : Int) ≤ m := by omega
        have hm1 : (m : Int) < p.length := by omega
        have HCl := Lib.hid hcl
        clear hx0 hx hcl hRa e hA hpc hn hdr han HV
        have HS3 : Hid (Same w (w2.alloc (.cells #[.int .i64 sy, .slice aA an ac, .int .i64 mk, .bool po, .int .i64 tt] 53))) := HV2.out.1.alloc _
        have hpl := World.block_lt_of_cell? _ _ hd
        go_upto_region 8 with fail
        have HB3 : Hid (Blk (w2.alloc (.cells #[.int .i64 sy, .slice aA an ac, .int .i64 mk, .bool po, .int .i64 tt] 53)) w2.heap.size 53 #[.int .i64 sy, .slice aA an ac, .int .i64 mk, .bool po, .int .i64 tt]) := Blk.new w2 53 _
        have hd3 : (w2.alloc (.cells #[.int .i64 sy, .slice aA an ac, .int .i64 mk, .bool po, .int .i64 tt] 53)).cell? ⟨pbl, poff + m, none⟩ = some (.int .i64 n) := (((Turned.refl (fun _ => False) w2).alloc _).cell (p := ⟨pbl, poff + m, none⟩) hpl (fun h => h)).trans hd
        obtain ⟨w3, hw3⟩ : ∃ w3, w3 = w2.alloc (.cells #[.int .i64 sy, .slice aA an ac, .int .i64 mk, .bool po, .int .i64 tt] 53) := ⟨_, rfl⟩
        obtain ⟨nb, hnb0⟩ : ∃ nb, nb = w2.heap.size := ⟨_, rfl⟩
        rw [← hw3] at HS3 HB3 hd3 ⊢
        rw [← hnb0] at HB3 ⊢
        clear hw3 hnb0 hpl hd d0 d1 d2 d3 d4 hb1
        obtain ⟨n0, n1, n2, n3, n4⟩ := HB3.out.five
        clear n0 n2 n3 n4
        have hnl := HB3.out.lt
        by_cases hn0 : n < 0
        · have HEn : Hid (leadsF K j p = -1) := by
            rw [HE.out, ← HV2.out.2.2, argF_out HV2.out.2.1 HX.out (.inl hn0)]
            exact leadF_neg K _
          have hnb : decide (n < 0) = true := decide_eq_true hn0
          go_quiet (fail)
          go_wp2_with fail
          go_ret
          exact ⟨by rw [HEn.out]; rfl, HS3.out.drewN _⟩
        · have hnb : decide (n < 0) = false := decide_eq_false hn0
          obtain ⟨q, rfl⟩ : ∃ q : Nat, n = (q : Int) := ⟨n.toNat, by omega⟩
          by_cases hq : an ≤ q
          · have HEn : Hid (leadsF K j p = -1) := by
              rw [HE.out, ← HV2.out.2.2, argF_out HV2.out.2.1 HX.out (.inr (by simp only; rw [← HAn.out]; omega))]
              exact leadF_neg K _
            have hnb2 : decide ((q : Int) ≥ (an : Int)) = true := decide_eq_true (by omega)
            have hnb3 : decide (an ≤ q) = true := decide_eq_true hq
            go_quiet (fail)
            go_wp2_with fail
            go_ret
            exact ⟨by rw [HEn.out]; rfl, HS3.out.drewN _⟩
          · have hql : q < ar.length := by rw [← HAn.out]; omega
            have hpo : po = false := by
              obtain ⟨hl2, hp2⟩ := HV2.out.2.1.lt
              have h5 := HX.out
              rw [List.getElem?_eq_getElem hl2] at h5
              injection h5 with h5
              rw [h5] at hp2
              exact hp2
            obtain ⟨t, ht, htl⟩ := args_in HR.out HX.out hpo (ar[q]) (List.getElem_mem _)
            obtain ⟨A5, c5, e5, hA5⟩ := HRa.out.same_ HS3.out
            injection e5 with e6 e8 e7
            clear e8
            subst e6; subst e7
            obtain ⟨abl, aoff, rfl, hac⟩ := hA5 (by omega)
            have ha := hac q hql
            rw [ht] at ha
            have hnb2 : decide ((q : Int) ≥ (an : Int)) = false := decide_eq_false (by omega)
            have hnb3 : decide (an ≤ q) = false := decide_eq_false hq
            have HArg : Hid (argF K c q = resF K t) := argF_at HV2.out.2.1 HX.out (by rw [List.getElem?_eq_getElem hql, ht])
            obtain ⟨c2, hc2⟩ := HR.out.res t htl
            have HC2 := Lib.hid hc2
            have HTl := Lib.hid htl
            have HN : Hid (Res K c2 c2 ∧ leadF K (c2 : Int) (p.drop (m + 1)) = leadF K c0 p) := ⟨hc2.self, by rw [← HV2.out.2.2, HArg.out, resF_eq hc2]⟩
            have hq0 : (0 : Int) ≤ q := by omega
            have hq1 : (q : Int) < an := by omega
            have HSn : Hid (∀ n, Same w (w3.drewN n)) := fun n => HS3.out.drewN n
            have HRv : Hid (∀ W, Same w W → Calls Try.prog 57 #[.pointer (some ⟨r, 0, none⟩), .int .i64 t] W fun e w' => e = .returned (.tuple #[.int .i64 c2, .int .i64 0]) ∧ w' = W) := fun W hW => by
              have h1 := rresolve_some W r room u K (H.out.same hW) HR.out t HTl.out
              rw [resF_eq HC2.out] at h1
              exact h1.mono fun _ _ h => ⟨h.1, h.2.symm⟩
            clear hql hpo ht htl hA5 hac hc2 hq hn0
            go_quiet (fail)
            obtain ⟨w4, hw4⟩ : ∃ w4, w4 = w3.drewN nq := ⟨_, rfl⟩
            have HS4 : Hid (Same w w4) := by rw [hw4]; exact HS3.out.drewN nq
            have n1' : w4.cell? ⟨nb, 1, none⟩ = some (.slice (some ⟨abl, aoff, none⟩) an ac) := by rw [hw4]; exact n1
            have hd4 : w4.cell? ⟨pbl, poff + m, none⟩ = some (.int .i64 q) := by rw [hw4]; exact hd3
            have ha4 : w4.cell? ⟨abl, aoff + q, none⟩ = some (.int .i64 t) := by rw [hw4]; exact ha
            have hnl4 : nb < w4.heap.size := by rw [hw4]; exact hnl
            rw [← hw4]
            clear hw4 n1 hd3 ha hnl HSn
            go_wp2_with fail
            go_quiet ((go_at_call 57; exact Calls.quiet_of_same (HRv.out _ (by exact HS4.out.drewN _))))
            go_wp2_with fail
            go_roundw
            case rel => exact ⟨m + 1, c2, by omega, by go_num, rfl, HS4.out.drewN _, HN.out⟩
            case measure => simp [intOf]; omega
      · have hmm : m = p.length := by omega
        subst hmm
        have HEn : Hid (leadsF K j p = c) := by
          rw [HE.out, ← HV.out.2.2, List.drop_length]; rfl
        go_wp2_with fail
        go_ret
        exact ⟨by rw [HEn.out]; rfl, HV.out.1⟩
  · have HE : Hid (leadsF K a p = -1) := by unfold Hid leadsF; rw [if_neg ha]
    have ha2 : a < 0 ∨ (K.length : Int) ≤ a := by omega
    clear h ha
    go_enter Try.func58, Try.ntmps58
    go_wp2_with fail
    refine (rresolve_bad _ r room u K H.out a ha2).mono ?_
    rintro e w1 ⟨rfl, rfl⟩
    go_wp2_with fail
    go_ret
    exact ⟨by rw [HE.out]; rfl, Turned.refl _ _⟩

theorem leadsF_one {K : List Nd} (hr : Ranked K) (a n : Int) : leadsF K a [n] = argF K a n := by
  unfold leadsF
  by_cases ha : 0 ≤ a ∧ a < (K.length : Int)
  · rw [if_pos ha]
    obtain ⟨c, hc⟩ := hr.res a.toNat (by omega)
    show argF K (resF K a.toNat) n = argF K a n
    rw [resF_eq hc]
    have e : ndF K c = ndF K a := by
      obtain ⟨hl, _⟩ := hc.lt
      unfold ndF
      rw [if_pos (by omega), if_pos ha, Int.toNat_natCast, resF_eq hc, resF_eq hc.self]
    unfold argF
    rw [e]
  · rw [if_neg ha]
    unfold argF ndF
    rw [if_neg ha]

theorem rarg_any (w : World) (r : Nat) (room : Int) (u : Value) (K : List Nd) (h : RHp w r room u K) (hr : Ranked K) (ha6 : ∀ x ∈ K, x.args.length ≤ 6) (a n : Int) :
    Calls Try.prog 23 #[.pointer (some ⟨r, 0, none⟩), .int .i64 a, .int .i64 n] w fun e w' => e = .returned (.int .i64 (argF K a n)) ∧ Same w w' := by
  have H := Lib.hid h; have HR := Lib.hid hr; have HA6 := Lib.hid ha6
  have HS0 : Hid (Same w (w.alloc (.cells #[.int .i64 n] 3))) := (Turned.refl _ _).alloc _
  clear h hr ha6
  go_enter Try.func23, Try.ntmps23
  go_wp2_with fail
  refine (rleads_any _ r room u K (H.out.same HS0.out) HR.out HA6.out a _ [n] (rd_lit (P := [n]) (Blk.new w 3 _)) (by simp)).mono ?_
  rintro e w1 ⟨rfl, hs1⟩
  rw [leadsF_one HR.out]
  have HS1 : Hid (Same w w1) := HS0.out.trans hs1 (fun _ h => h.elim)
  clear hs1
  go_wp2_with fail
  go_ret
  exact ⟨rfl, HS1.out⟩

set_option maxHeartbeats 1000000 in
theorem rhead_any (w : World) (r : Nat) (room : Int) (u : Value) (K : List Nd) (h : RHp w r room u K) (hr : Ranked K) (hok : ∀ x ∈ K, NodeOk x) (a : Int) :
    Calls Try.prog 21 #[.pointer (some ⟨r, 0, none⟩), .int .i64 a] w fun e w' => e = .returned (.tuple #[.int .i64 (headF K a).1, .bool (headF K a).2]) ∧ Same w w' := by
  have H := Lib.hid h; have HR := Lib.hid hr; have HOk := Lib.hid hok
  by_cases ha : 0 ≤ a ∧ a < (K.length : Int)
  · obtain ⟨j, rfl⟩ : ∃ j : Nat, a = (j : Int) := ⟨a.toNat, by omega⟩
    have hj : j < K.length := by omega
    obtain ⟨c, hc⟩ := hr.res j hj
    obtain ⟨hcl, _⟩ := hc.lt
    have hx0 : K[c]? = some (K[c]'hcl) := List.getElem?_eq_getElem hcl
    have hnok := hok (K[c]'hcl) (List.getElem_mem _)
    have HE : Hid (headF K j = ((K[c]'hcl).sym, (K[c]'hcl).mark != 0)) := by
      unfold Hid headF ndF
      rw [if_pos ha, Int.toNat_natCast, resF_eq hc, hx0]
    have HRs : Hid (Calls Try.prog 57 #[.pointer (some ⟨r, 0, none⟩), .int .i64 j] w fun e w' => e = .returned (.tuple #[.int .i64 c, .int .i64 0]) ∧ w = w') := by
      have h1 := rresolve_some w r room u K h hr j hj
      rwa [resF_eq hc] at h1
    obtain ⟨⟨sy, ar, mk, po, tt⟩, hx⟩ : ∃ x, x = K[c]'hcl := ⟨_, rfl⟩
    rw [← hx] at hx0 hnok HE
    obtain ⟨bl, off, c', aA, ac, e, d0, d1, d2, d3, d4, hRa, _⟩ := h.rd.get (Turned.refl _ w) c _ hx0
    have hb1 := h.blk.cell 1
    rw [e] at hb1
    simp at hb1
    simp only at d0 d2
    have hmk : 0 ≤ mk := hnok.mk0
    have hc0 : (0 : Int) ≤ c := by omega
    have hc1 : (c : Int) < K.length := by omega
    clear h hr hok ha hx0 hnok hx d1 d3 d4 hRa e hj
    have HE2 : Hid (headF K j = (sy, decide (mk > 0))) := by
      rw [HE.out]
      show (sy, mk != 0) = (sy, decide (mk > 0))
      by_cases h0 : mk = 0
      · subst h0; rfl
      · have h1 : (mk != 0) = true := by simpa using h0
        have h2 : decide (mk > 0) = true := decide_eq_true (by omega)
        rw [h1, h2]
    rw [HE2.out]
    go_enter Try.func21, Try.ntmps21
    go_wp2_with fail
    refine HRs.out.mono ?_
    rintro e w1 ⟨rfl, rfl⟩
    go_wp2_with fail
    go_quiet (fail)
    go_wp2_with fail
    go_ret2
    exact ⟨rfl, (Turned.refl _ _).drewN _⟩
  · have HE : Hid (headF K a = (-1, false)) := by unfold Hid headF ndF; rw [if_neg ha]
    have ha2 : a < 0 ∨ (K.length : Int) ≤ a := by omega
    clear h ha
    rw [HE.out]
    go_enter Try.func21, Try.ntmps21
    go_wp2_with fail
    refine (rresolve_bad _ r room u K H.out a ha2).mono ?_
    rintro e w1 ⟨rfl, rfl⟩
    go_wp2_with fail
    go_ret2
    exact ⟨rfl, Turned.refl _ _⟩
end Go.Proofs.Yteohhiefchoamaa

/-
  The walk of GraftBack.
-/
import Derived.Test.YteohhiefchoamaaRTerm
import Derived.Test.YteohhiefchoamaaFault
namespace Go.Proofs.Yteohhiefchoamaa
open Go.RowKit

theorem closed_load (L : List Sym) (t : List Int) : (closedB L t = true → loadBad L 4000 0 t = none) ∧ (closedB L t = false → loadBad L 4000 0 t ≠ none) := by
  constructor
  · intro h
    unfold closedB at h
    rw [Bool.and_eq_true, List.all_eq_true, decide_eq_true_eq] at h
    obtain ⟨h1, h2⟩ := h
    have h3 := (checkP_zero h2).1
    unfold loadBad
    rw [if_neg (by rw [h2]; simp), if_neg, if_neg (by simp; omega)]
    rw [List.any_eq_true]
    rintro ⟨x, hx, hn⟩
    have := h1 x hx
    simp at this hn
    omega
  · intro h h2
    unfold closedB at h
    unfold loadBad at h2
    by_cases hc : checkP L t = 0
    · rw [if_neg (by rw [hc]; simp)] at h2
      by_cases hn : t.any (fun n => decide (n < 0)) = true
      · rw [if_pos hn] at h2; cases h2
      · rw [hc] at h
        simp at h hn
        obtain ⟨x, hx, hx2⟩ := h
        have := hn x hx
        omega
    · rw [if_pos hc] at h2; cases h2
theorem closed_laid {L : List Sym} {t : List Int} (h : closedB L t = true) : (∀ n ∈ t, 0 ≤ n) ∧ t.length ≤ 2000 ∧ 0 < t.length ∧ Well L 1 t := by
  unfold closedB at h
  rw [Bool.and_eq_true, List.all_eq_true, decide_eq_true_eq] at h
  obtain ⟨h1, h2⟩ := h
  obtain ⟨h3, _, h5⟩ := checkP_zero h2
  refine ⟨fun n hn => by simpa using h1 n hn, h3, ?_, h5⟩
  cases t with
  | nil => simp [Well] at h5
  | cons _ _ => simp
theorem syms_all {t : List Int} (h : ∀ n ∈ t, 0 ≤ n) : (syms (t.map fun n => (n, (0 : Int)))) = t.length := by
  unfold syms
  rw [List.filter_eq_self.2]
  · simp
  · intro x hx
    obtain ⟨n, hn, rfl⟩ := List.mem_map.1 hx
    simpa using h n hn
theorem ranked_nds {L : List Sym} {t : List Int} (h : ∀ n ∈ t, 0 ≤ n) : Ranked (ndsF L t) := by
  have := ranked_lay L ranked_nil (t.map fun n => (n, (0 : Int))) (by
    intro x hx hn
    obtain ⟨n, hn2, rfl⟩ := List.mem_map.1 hx
    have := h n hn2
    simp at hn
    omega)
  simpa [ndsF] using this
theorem nds_args {L : List Sym} (hL : ∀ x ∈ L, 0 ≤ x.arity ∧ x.arity ≤ 6) (base : Nat) : ∀ P : List (Int × Int), ∀ x ∈ (layF L base P).2, x.args.length ≤ 6
  | [], x, hx => by simp [layF] at hx
  | (n, h) :: r, x, hx => by
    by_cases hn : n < 0
    · rw [layF_cons_neg L base hn] at hx
      exact nds_args hL base r x hx
    · rw [layF_cons_pos L base hn] at hx
      rcases List.mem_append.1 hx with h1 | h1
      · exact nds_args hL base r x h1
      · obtain rfl : x = _ := by simpa using h1
        have := arN_le hL n
        simp
        omega

set_option maxRecDepth 100000 in
set_option maxHeartbeats 8000000 in
theorem back_law (w : World) (vX vt : Value) (X : List Sym) (t : List Int) (hX : SymRd w vX X) (hs : ∀ x ∈ X, x.name.size ≤ maxLen) (hl : X.length ≤ 17592186044416) (hR : Rd w vt t) (htl : t.length ≤ 17592186044416) :
    Calls Try.prog 5 #[vX, vt] w fun e w' => e = .returned (.bool true) ∧ Same w w' := by
  have HX := Lib.hid hX; have HSz := Lib.hid hs; have HL := Lib.hid hl; have HR := Lib.hid hR; have HTl := Lib.hid htl
  obtain ⟨XA, xc, rfl, _⟩ := hX
  obtain ⟨tA, tc, rfl, _⟩ := hR
  clear hs
  go_enter Try.func5, Try.ntmps5
  go_wp2_with fail
  refine (awake_any _).mono ?_
  rintro e w0 ⟨rfl, hs0⟩
  have HS0 := Lib.hid hs0
  clear hs0
  go_wp2_with fail
  refine (signature_any _ _ X (HX.out.same HS0.out) HSz.out HL.out).mono ?_
  rintro e w1 ⟨bs, bm, vs, u, rfl, hsg, hown, hs1, hn1, _⟩
  have HAr := Lib.hid (sigL_ar X)
  obtain ⟨L, hLe⟩ : ∃ L, L = sigL X := ⟨_, rfl⟩
  rw [← hLe] at hsg hown HAr
  have HSg := Lib.hid hsg; have HOw := Lib.hid (SymRd.of_own hown)
  obtain ⟨ua, uc, rfl, _, _⟩ := own_shape hown
  have HS1 : Hid (Same w w1) := HS0.out.trans hs1 (fun _ h => h.elim)
  clear hsg hown hs1 hn1 hLe
  go_wp2_with fail
  refine (hnew_ok 4000 (by decide) (by decide) _).mono ?_
  rintro e w2 ⟨rfl, hh2, hs2⟩
  have HS2 : Hid (SH w w2 bs bm vs L w1.heap.size 4000 (.slice none 0 0) []) := ⟨HS1.out.trans hs2 (fun _ h => h.elim), HSg.out.turned hs2 (fun _ _ h => h), hh2, fun k hk => by
    rcases hk with rfl | hk
    · exact HS1.out.size
    · simp [Value.ownBlock] at hk⟩
  have HOw2 := Lib.hid (HOw.out.same hs2)
  obtain ⟨b, hb⟩ : ∃ b, b = w1.heap.size := ⟨_, rfl⟩
  rw [← hb] at HS2 ⊢
  clear hh2 hs2 hb
  go_wp2_with fail
  refine (closed_any _ _ L HOw2.out HAr.out _ t (HR.out.same_ HS2.out.same) HTl.out).mono ?_
  rintro e w3 ⟨rfl, hs3⟩
  have HS3 := Lib.hid (HS2.out.later hs3)
  have HLd : Hid (Calls Try.prog 15 _ _ _) := load_any w3 bs bm vs L HS3.out.sig HAr.out b 4000 _ [] HS3.out.hp (by decide) (.slice tA t.length tc) t (by
    obtain ⟨A, c, e, h1⟩ := HR.out.same_ HS3.out.same
    refine ⟨A, c, e, fun h0 => ?_⟩
    obtain ⟨bl, off, e1, hc⟩ := h1 h0
    refine ⟨bl, off, e1, fun hf => ?_, hc⟩
    obtain ⟨A', c', e', h1'⟩ := HR.out
    obtain ⟨bl', off', e1', hc'⟩ := h1' h0
    have h2 := World.block_lt_of_cell? _ _ (hc' 0 h0)
    have h3 := HS3.out.new _ hf
    rw [e1] at e; rw [e1'] at e'
    have h4 := e.symm.trans e'
    injection h4 with h4
    injection h4 with h4
    injection h4 with h4
    simp only at h2
    omega) HTl.out (by simp)
  clear hs3
  cases hcl : closedB L t with
  | false =>
    have hlb := (closed_load L t).2 hcl
    clear hcl
    go_wp2_with fail
    refine HLd.out.mono ?_
    rintro e w4 (⟨c, y, ev, he, rfl, ⟨q4, rfl, _, _⟩, hs4⟩ | ⟨v4, M4, a4, he, _⟩)
    rotate_left
    · exact absurd he hlb
    have HS4 := Lib.hid (HS3.out.later hs4)
    clear hs4 he HLd hlb
    go_wp2_with fail
    refine (used_any _ b 4000 _ [] HS4.out.hp).mono ?_
    rintro e w5 ⟨rfl, rfl⟩
    go_wp2_with fail
    all_goals go_ret
    all_goals exact ⟨rfl, HS4.out.same⟩
  | true =>
    have HCl := Lib.hid (closed_laid hcl)
    have hlb := (closed_load L t).1 hcl
    clear hcl
    go_wp2_with fail
    refine HLd.out.mono ?_
    rintro e w4 (⟨c, y, ev, he, _⟩ | ⟨v4, M4, a4, _, ha4, rfl, hh4, hM4, ht4, hv4⟩)
    · exact absurd (hlb.symm.trans he) (by simp)
    rw [List.nil_append] at hh4
    have HM4 : Hid (M4.map (·.1) = ndsF L t) := hM4
    have HS4 := Lib.hid (HS3.out.step hh4 ht4 hv4)
    obtain ⟨q, hq1, hq2, hq3⟩ := stF_step L t HCl.out.1 0 HCl.out.2.2.1
    have hst : stF L t 0 = [a4] := by unfold stF; rw [List.drop_zero]; exact ha4
    rw [hst] at hq1
    obtain ⟨rfl, _⟩ : a4 = (q : Int) ∧ _ := by simpa using hq1
    have HSt := Lib.hid hst
    have hMl : M4.length = t.length := by
      have h1 := congrArg List.length HM4.out
      rw [List.length_map] at h1
      rw [h1]; unfold ndsF; rw [layF_syms, syms_all HCl.out.1]
    have HMl := Lib.hid hMl
    have HMa : Hid (∀ x ∈ M4, x.1.args.length ≤ 17592186044416) := by
      intro x hx
      have h1 : x.1 ∈ ndsF L t := by rw [← HM4.out]; exact List.mem_map_of_mem hx
      have := nds_args HAr.out 0 _ _ h1
      omega
    clear hlb ha4 hh4 hM4 ht4 hv4 HLd hq1 hq2 hq3 hst hMl
    go_wp2_with fail
    refine (told_any w4 b 4000 v4 M4 HS4.out.hp (by rw [HMl.out]; have := HCl.out.2.1; omega) HMa.out).mono ?_
    rintro e w5 ⟨u5, K, rfl, hT5, hK⟩
    have HKl : Hid (K.length = t.length) := by
      have h1 := congrArg List.length hK
      simp only [List.length_map] at h1
      exact h1.trans HMl.out
    have HT5 := Lib.hid hT5
    have HK5 : Hid (NdRd w5 u5 (ndsF L t)) := by have h1 := hT5.rd; rwa [hK, HM4.out] at h1
    obtain ⟨ka, kc, rfl, _, _⟩ := own_shape hT5.own
    have hkl := HKl.out
    rw [hkl] at HK5 ⊢
    have HS5 := Lib.hid (HS4.out.later hT5.same)
    clear hT5 hK hkl
    go_wp2_with fail
    refine (rterm_any _ w5.heap.size 0 _ L t ⟨by exact Blk.new w5 72 _, by exact HK5.out.same ((Turned.refl _ _).alloc _)⟩ (ranked_nds HCl.out.1) HCl.out.1 q HSt.out HCl.out.2.1).mono ?_
    rintro e w6 ⟨v6, rfl, hR6, hs6⟩
    have HS6 := Lib.hid (HS5.out.later (((Turned.refl _ _).alloc _).trans hs6 (fun _ h => h.elim)))
    have HR6 := Lib.hid hR6
    clear hR6 hs6
    go_wp2_with fail
    refine (sameInts_eq _ _ _ t (HR.out.same_ HS6.out.same) HR6.out HTl.out).mono ?_
    rintro e w7 ⟨rfl, hs7⟩
    have HS7 := Lib.hid (HS6.out.later hs7)
    clear hs7
    go_wp2_with fail
    all_goals go_ret
    all_goals exact ⟨rfl, HS7.out.same⟩
end Go.Proofs.Yteohhiefchoamaa

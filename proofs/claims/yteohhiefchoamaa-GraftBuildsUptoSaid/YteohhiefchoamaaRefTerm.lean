/-
  The walks of the document's Arity, arity, Check, Closed.
-/
import Derived.Test.YteohhiefchoamaaRefSig
import Derived.Test.YteohhiefchoamaaTerm
namespace Go.Proofs.Yteohhiefchoamaa
open Go.RowKit

theorem SymRd.same {w w' : World} {v : Value} {L : List Sym} (h : SymRd w v L) (ht : Same w w') : SymRd w' v L := by
  obtain ⟨A, c, rfl, h1⟩ := h
  refine ⟨A, c, rfl, fun h0 => ?_⟩
  obtain ⟨bl, off, rfl, hc⟩ := h1 h0
  refine ⟨bl, off, rfl, fun k hk => ?_⟩
  obtain ⟨e0, e1, e2⟩ := hc k hk
  have l0 := World.block_lt_of_cell? _ _ e0
  exact ⟨(ht.cell l0 (fun h => h)).trans e0, (ht.cell (p := ⟨bl, off + k * 3 + 1, none⟩) l0 (fun h => h)).trans e1, (ht.cell (p := ⟨bl, off + k * 3 + 2, none⟩) l0 (fun h => h)).trans e2⟩

theorem rArity_in (w : World) (v : Value) (L : List Sym) (h : SymRd w v L) (k : Nat) (hk : k < L.length) :
    Calls Try.prog 90 #[v, .int .i64 k] w fun e w' => e = .returned (.int .i64 L[k].arity) ∧ w = w' := by
  obtain ⟨A, c, rfl, hA⟩ := h
  obtain ⟨bl, off, rfl, hc⟩ := hA (by omega)
  obtain ⟨d0, d1, d2⟩ := hc k hk
  obtain ⟨a, ha⟩ : ∃ a, a = L[k].arity := ⟨_, rfl⟩
  rw [← ha] at d1 ⊢
  have hk0 : (0 : Int) ≤ k := by omega
  have hk1 : (k : Int) < L.length := by omega
  have hk2 : ¬ (k : Int) < 0 := by omega
  have hk3 : ¬ (k : Int) ≥ L.length := by omega
  clear hc hA d0 d2 ha
  go_enter Try.func90, Try.ntmps90
  go_wp2_with fail
  go_ret
  exact ⟨rfl, rfl⟩
theorem rArity_out (w : World) (v : Value) (L : List Sym) (h : SymRd w v L) (n : Int) (hn : n < 0 ∨ (L.length : Int) ≤ n) :
    Calls Try.prog 90 #[v, .int .i64 n] w fun e w' => e = .returned (.int .i64 (-1)) ∧ w = w' := by
  obtain ⟨A, c, rfl, hA⟩ := h
  clear hA
  by_cases h0 : n < 0
  · clear hn
    go_enter Try.func90, Try.ntmps90
    go_wp2_with fail
    go_ret
    exact ⟨rfl, rfl⟩
  · have h1 : n ≥ (L.length : Int) := by omega
    clear hn
    go_enter Try.func90, Try.ntmps90
    go_wp2_with fail
    go_ret
    exact ⟨rfl, rfl⟩
theorem rarity_any (w : World) (v : Value) (L : List Sym) (h : SymRd w v L) (hL : ∀ x ∈ L, 0 ≤ x.arity ∧ x.arity ≤ 6) (n : Int) :
    Calls Try.prog 81 #[v, .int .i64 n] w fun e w' => e = .returned (.int .i64 (arN L n)) ∧ w = w' := by
  by_cases hn : n < 0 ∨ (L.length : Int) ≤ n
  · have e0 : arN L n = 0 := by
      unfold arN
      by_cases h0 : n < 0
      · rw [if_pos h0]
      · rw [if_neg h0, List.getElem?_eq_none (by omega)]; rfl
    rw [e0]
    have HC := Lib.hid (rArity_out w v L h n hn)
    clear hn e0 h
    go_enter Try.func81, Try.ntmps81
    go_wp2_with fail
    refine HC.out.mono ?_
    rintro e w1 ⟨rfl, rfl⟩
    go_wp2_with fail
    go_ret
    exact ⟨rfl, rfl⟩
  · obtain ⟨k, rfl⟩ : ∃ k : Nat, n = (k : Int) := ⟨n.toNat, by omega⟩
    have hk : k < L.length := by omega
    have ha := hL L[k] (List.getElem_mem _)
    obtain ⟨q, hq⟩ : ∃ q : Nat, L[k].arity = (q : Int) := ⟨L[k].arity.toNat, by omega⟩
    have e0 : arN L (k : Int) = q := by rw [arN_at (List.getElem?_eq_getElem hk), hq]; simp
    have hC := rArity_in w v L h k hk
    rw [hq] at hC
    rw [e0]
    have HC := Lib.hid hC
    have hq0 : ¬ (q : Int) < 0 := by omega
    clear hn e0 h ha hq hC
    go_enter Try.func81, Try.ntmps81
    go_wp2_with fail
    refine HC.out.mono ?_
    rintro e w1 ⟨rfl, rfl⟩
    go_wp2_with fail
    go_ret
    exact ⟨rfl, rfl⟩

set_option maxHeartbeats 4000000 in
theorem rcheck_any (w : World) (v : Value) (L : List Sym) (h : SymRd w v L) (hL : ∀ x ∈ L, 0 ≤ x.arity ∧ x.arity ≤ 6) (tv : Value) (t : List Int) (hR : Rd w tv t) (hlen : t.length ≤ 17592186044416) :
    Calls Try.prog 63 #[v, tv] w fun e w' => e = .returned (.int .i64 (checkP L t)) ∧ Same w w' := by
  have HS := Lib.hid h; have HL := Lib.hid hL; have HR := Lib.hid hR
  obtain ⟨A, c, rfl, hA⟩ := hR
  obtain ⟨LA, lc, rfl, hLA⟩ := h
  clear hL hA hLA
  by_cases hlong : 2000 < t.length
  · have hl1 : (t.length : Int) > 2000 := by omega
    have he : checkP L t = 20 := by unfold checkP; rw [if_pos hlong]
    rw [he]
    clear he hlong
    go_enter Try.func63, Try.ntmps63
    go_wp2_with fail
    go_ret
    exact ⟨rfl, Turned.refl _ _⟩
  · have hl1 : ¬ (t.length : Int) > 2000 := by omega
    have HC : Hid (checkP L t = if badT L t ≠ 0 then badT L t else if endF L 1 t = t.length then 0 else 23) := by unfold checkP; rw [if_neg hlong]; rfl
    go_enter Try.func63, Try.ntmps63
    go_wp2_with fail
    go_loopw [5] (fun i wr => ∃ k : Nat, k ≤ t.length ∧ i = .int .i64 k ∧ Hid ((∀ n ∈ t.take k, badN L n = 0) ∧ Same w wr)) (fun i _ => t.length - (intOf i).toNat)
    case atStart => exact ⟨0, Nat.zero_le _, rfl, by simp, Turned.refl _ _⟩
    case round =>
      obtain ⟨k, hk, rfl, HV⟩ := hrel
      by_cases hlt : k < t.length
      · obtain ⟨A2, c2, ea, hA⟩ := HR.out.same_ HV.out.2
        injection ea with e1 _ e2
        subst e1; subst e2
        obtain ⟨bl, off, rfl, hc⟩ := hA (by omega)
        have hd := hc k hlt
        have hdr : t = t.take k ++ t[k] :: t.drop (k + 1) := by rw [← List.drop_eq_getElem_cons hlt, List.take_append_drop]
        have htk : t.take (k + 1) = t.take k ++ [t[k]] := List.take_succ_eq_append_getElem hlt
        obtain ⟨x, hx⟩ : ∃ x, x = t[k] := ⟨_, rfl⟩
        rw [← hx] at hd hdr htk
        have HB : Hid (badN L x ≠ 0 → checkP L t = badN L x) := by
          intro hb
          have h1 : badT L t = badN L x := by
            rw [hdr, badT_split _ _ HV.out.1, badT, if_neg hb]
          rw [HC.out, h1, if_pos hb]
        have HG : Hid (badN L x = 0 → ∀ n ∈ t.take (k + 1), badN L n = 0) := by
          intro hb n hn
          rw [htk, List.mem_append] at hn
          rcases hn with h | h
          · exact HV.out.1 n h
          · obtain rfl : n = x := by simpa using h
            exact hb
        have HW := Lib.hid HV.out.2
        clear hc hA hx hdr htk HV
        have hk0 : (0 : Int) ≤ k := by omega
        have hk1 : (k : Int) < t.length := by omega
        by_cases hbig : (L.length : Int) ≤ x
        · have he : Hid (checkP L t = 21) := by
            have hb : badN L x = 21 := by unfold badN; rw [if_pos hbig]
            rw [HB.out (by rw [hb]; decide)]; exact hb
          have hge : x ≥ (L.length : Int) := hbig
          go_wp2_with fail
          go_ret
          exact ⟨by rw [he.out]; rfl, HW.out⟩
        · have hge : ¬ x ≥ (L.length : Int) := by omega
          by_cases h99 : x < -99
          · have he : Hid (checkP L t = 22) := by
              have hb : badN L x = 22 := by unfold badN; rw [if_neg hbig, if_pos h99]
              rw [HB.out (by rw [hb]; decide)]; exact hb
            go_wp2_with fail
            go_ret
            exact ⟨by rw [he.out]; rfl, HW.out⟩
          · have HG2 : Hid (∀ n ∈ t.take (k + 1), badN L n = 0) := HG.out (by unfold badN; rw [if_neg hbig, if_neg h99])
            go_wp2_with fail
            exact ⟨⟨k + 1, by omega, by go_num, HG2.out, HW.out⟩, by simp [intOf]; omega⟩
      · have hkk : k = t.length := by omega
        subst hkk
        have hall : ∀ n ∈ t, badN L n = 0 := by have := HV.out.1; rwa [List.take_length] at this
        have hb0 : badT L t = 0 := badT_zero.2 hall
        have HC2 : Hid (checkP L t = if endF L 1 t = t.length then 0 else 23) := by rw [HC.out, hb0]; rfl
        have HW := Lib.hid HV.out.2
        clear hall hb0 HV
        go_wp2_with fail
        go_loopw [6, 7] (fun o i wr => ∃ k o' : Nat, k ≤ t.length ∧ o' ≤ 1 + 6 * k ∧ i = .int .i64 k ∧ o = .int .i64 o' ∧ Hid ((Well L 1 t ↔ Well L o' (t.drop k)) ∧ Same w wr)) (fun _ i _ => t.length - (intOf i).toNat)
        case atStart => exact ⟨0, 1, Nat.zero_le _, by omega, rfl, rfl, by simp, HW.out⟩
        case round =>
          obtain ⟨k, o', hk, ho, rfl, rfl, HV⟩ := hrel
          have ho9 : (o' : Int) ≤ 100000000000000 := by omega
          by_cases hlt : k < t.length
          · have hdr : t.drop k = t[k] :: t.drop (k + 1) := List.drop_eq_getElem_cons hlt
            by_cases h0 : o' = 0
            · subst h0
              have he : Hid (checkP L t = 23) := by
                unfold Hid
                rw [HC2.out, if_neg]
                intro h1
                have h2 := HV.out.1.1 ((endF_well L t 1).1 h1)
                rw [hdr] at h2
                exact absurd h2.1 (by omega)
              have HS2 := Lib.hid HV.out.2
              clear HV hdr
              go_wp2_with fail
              go_ret
              exact ⟨by rw [he.out]; rfl, HS2.out⟩
            · have ho1 : ((o' : Int) == 0) = false := by rw [beq_eq_false_iff_ne]; omega
              obtain ⟨A2, c2, ea, hA⟩ := HR.out.same_ HV.out.2
              injection ea with e1 _ e2
              subst e1; subst e2
              obtain ⟨bl, off, rfl, hc⟩ := hA (by omega)
              have hd := hc k hlt
              obtain ⟨x, hx⟩ : ∃ x, x = t[k] := ⟨_, rfl⟩
              rw [← hx] at hd hdr
              have h6 := arN_le HL.out x
              have HE : Hid (Well L 1 t ↔ Well L (o' - 1 + arN L x) (t.drop (k + 1))) := by
                unfold Hid
                rw [HV.out.1, hdr]
                exact ⟨fun h => h.2, fun h => ⟨by omega, h⟩⟩
              have HW2 := Lib.hid HV.out.2
              obtain ⟨q, hq⟩ : ∃ q, q = arN L x := ⟨_, rfl⟩
              have HAr : Hid (∀ W, Same w W → Calls Try.prog 81 #[.slice LA L.length lc, .int .i64 x] W fun e w' => e = .returned (.int .i64 q) ∧ W = w') := by
                intro W hW; rw [hq]; exact rarity_any W _ L (HS.out.same hW) HL.out x
              rw [← hq] at HE h6
              clear hc hA hx hdr hq HV
              have hk0 : (0 : Int) ≤ k := by omega
              have hk1 : (k : Int) < t.length := by omega
              go_wp2_with fail
              refine (HAr.out _ HW2.out).mono ?_
              rintro e w1 ⟨rfl, rfl⟩
              go_wp2_with fail
              go_roundw
              case rel => exact ⟨k + 1, o' - 1 + q, by omega, by omega, by go_num, by go_num, HE.out, HW2.out⟩
              case measure => simp [intOf]; omega
          · have hkk : k = t.length := by omega
            subst hkk
            have hw0 : Hid (Well L 1 t ↔ o' = 0) := by unfold Hid; rw [HV.out.1, List.drop_length]; rfl
            have HS2 := Lib.hid HV.out.2
            clear HV
            by_cases h0 : o' = 0
            · have he : Hid (checkP L t = 0) := by
                unfold Hid; rw [HC2.out, if_pos ((endF_well L t 1).2 (hw0.out.2 h0))]
              subst h0
              go_wp2_with fail
              go_ret
              exact ⟨by rw [he.out]; rfl, HS2.out⟩
            · have he : Hid (checkP L t = 23) := by
                unfold Hid; rw [HC2.out, if_neg (fun h1 => h0 (hw0.out.1 ((endF_well L t 1).1 h1)))]
              have ho1 : ((o' : Int) == 0) = false := by rw [beq_eq_false_iff_ne]; omega
              go_wp2_with fail
              go_ret
              exact ⟨by rw [he.out]; rfl, HS2.out⟩

/-- A term without a variable. -/
def closedB (L : List Sym) (t : List Int) : Bool := t.all (fun n => decide (0 ≤ n)) && decide (checkP L t = 0)
set_option maxHeartbeats 1000000 in
theorem closed_any (w : World) (v : Value) (L : List Sym) (h : SymRd w v L) (hL : ∀ x ∈ L, 0 ≤ x.arity ∧ x.arity ≤ 6) (tv : Value) (t : List Int) (hR : Rd w tv t) (hlen : t.length ≤ 17592186044416) :
    Calls Try.prog 29 #[v, tv] w fun e w' => e = .returned (.bool (closedB L t)) ∧ Same w w' := by
  have HS := Lib.hid h; have HL := Lib.hid hL; have HR := Lib.hid hR; have HLen := Lib.hid hlen
  obtain ⟨A, c, rfl, hA⟩ := hR
  obtain ⟨LA, lc, rfl, hLA⟩ := h
  clear hL hA hLA
  go_enter Try.func29, Try.ntmps29
  go_wp2_with fail
  go_loopw [5] (fun i wr => ∃ k : Nat, k ≤ t.length ∧ i = .int .i64 k ∧ Hid ((∀ n ∈ t.take k, ¬ n < 0) ∧ Same w wr)) (fun i _ => t.length - (intOf i).toNat)
  case atStart => exact ⟨0, Nat.zero_le _, rfl, by simp, Turned.refl _ _⟩
  case round =>
    obtain ⟨k, hk, rfl, HV⟩ := hrel
    by_cases hlt : k < t.length
    · obtain ⟨A2, c2, ea, hA⟩ := HR.out.same_ HV.out.2
      injection ea with e1 _ e2
      subst e1; subst e2
      obtain ⟨bl, off, rfl, hc⟩ := hA (by omega)
      have hd := hc k hlt
      have htk : t.take (k + 1) = t.take k ++ [t[k]] := List.take_succ_eq_append_getElem hlt
      have hmem : t[k] ∈ t := List.getElem_mem _
      obtain ⟨x, hx⟩ : ∃ x, x = t[k] := ⟨_, rfl⟩
      rw [← hx] at hd htk hmem
      have HW := Lib.hid HV.out.2
      have HO := Lib.hid HV.out.1
      have HTk := Lib.hid htk; have HMem := Lib.hid hmem
      clear hc hA hx htk HV hmem
      have hk0 : (0 : Int) ≤ k := by omega
      have hk1 : (k : Int) < t.length := by omega
      by_cases hneg : x < 0
      · have he : Hid (closedB L t = false) := by
          unfold Hid closedB
          rw [Bool.and_eq_false_iff]
          left
          rw [List.all_eq_false]
          exact ⟨x, HMem.out, by simpa using hneg⟩
        go_wp2_with fail
        go_ret
        exact ⟨by rw [he.out]; rfl, HW.out⟩
      · have HG : Hid (∀ n ∈ t.take (k + 1), ¬ n < 0) := by
          intro n hn
          rw [HTk.out, List.mem_append] at hn
          rcases hn with h | h
          · exact HO.out n h
          · obtain rfl : n = x := by simpa using h
            exact hneg
        go_wp2_with fail
        exact ⟨⟨k + 1, by omega, by go_num, HG.out, HW.out⟩, by simp [intOf]; omega⟩
    · have hkk : k = t.length := by omega
      subst hkk
      have hall : ∀ n ∈ t, ¬ n < 0 := by have := HV.out.1; rwa [List.take_length] at this
      have he : Hid (closedB L t = (checkP L t == 0)) := by
        unfold Hid closedB
        have : t.all (fun n => decide (0 ≤ n)) = true := by
          rw [List.all_eq_true]; intro n hn; have := hall n hn; simpa using this
        rw [this, Bool.true_and]
        by_cases h : checkP L t = 0 <;> simp [h]
      have HW := Lib.hid HV.out.2
      clear hall HV
      go_wp2_with fail
      refine (rcheck_any wr _ L (HS.out.same HW.out) HL.out _ t (HR.out.same_ HW.out) HLen.out).mono ?_
      rintro e w1 ⟨rfl, hs1⟩
      have HS1 : Hid (Same w w1) := HW.out.trans hs1 (fun _ h => h.elim)
      clear hs1
      go_wp2_with fail
      go_ret
      exact ⟨by rw [he.out]; rfl, HS1.out⟩
end Go.Proofs.Yteohhiefchoamaa

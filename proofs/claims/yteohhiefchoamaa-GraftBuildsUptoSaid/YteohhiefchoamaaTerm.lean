/-
  The walks of term.arity, isVariable, end, Check.
-/
import Derived.Test.YteohhiefchoamaaLay2
namespace Go.Proofs.Yteohhiefchoamaa
open Go.RowKit

theorem arity_neg (w : World) (p : Option Addr) (n : Int) (hn : n < 0) : Calls Try.prog 89 #[.pointer p, .int .i64 n] w fun e w' => e = .returned (.int .i64 0) ∧ Same w w' := by
  go_enter Try.func89, Try.ntmps89
  go_wp2_with fail
  go_ret
  exact ⟨rfl, Turned.refl _ _⟩
theorem arity_pos (w : World) (bs bm : Nat) (vs : Value) (L : List Sym) (hs : SigAt w bs bm vs L) (hL : ∀ x ∈ L, 0 ≤ x.arity ∧ x.arity ≤ 6) (n : Nat) (hn : n < L.length) :
    Calls Try.prog 89 #[.pointer (some ⟨bs, 0, none⟩), .int .i64 n] w fun e w' => e = .returned (.int .i64 (arN L n)) ∧ Same w w' := by
  obtain ⟨x, hx⟩ : ∃ x, L[n]? = some x := ⟨L[n], List.getElem?_eq_getElem hn⟩
  have hxa := hL x (List.mem_of_getElem? hx)
  have har := arN_at hx
  obtain ⟨q, hq⟩ : ∃ q : Nat, x.arity = (q : Int) := ⟨x.arity.toNat, by omega⟩
  have har2 : arN L (n : Int) = q := by rw [har, hq]; simp
  rw [har2]
  have hval := sig_at w bs bm vs L hs n x hx
  rw [hq] at hval
  have HV := Lib.hid hval
  have hn0 : ¬ (n : Int) < 0 := by omega
  clear hx hxa har hq har2 hval hL hs
  go_enter Try.func89, Try.ntmps89
  go_wp2_with fail
  refine HV.out.mono ?_
  rintro e w1 ⟨rfl, hs1⟩
  have HS := Lib.hid hs1
  clear hs1
  go_wp2_with fail
  go_ret
  exact ⟨rfl, HS.out.alloc _⟩
theorem arity_any (w : World) (bs bm : Nat) (vs : Value) (L : List Sym) (hs : SigAt w bs bm vs L) (hL : ∀ x ∈ L, 0 ≤ x.arity ∧ x.arity ≤ 6) (n : Int) (hn : n < L.length) :
    Calls Try.prog 89 #[.pointer (some ⟨bs, 0, none⟩), .int .i64 n] w fun e w' => e = .returned (.int .i64 (arN L n)) ∧ Same w w' := by
  by_cases h : n < 0
  · have : arN L n = 0 := by unfold arN; rw [if_pos h]
    rw [this]; exact arity_neg w _ n h
  · obtain ⟨p, rfl⟩ : ∃ p : Nat, n = (p : Int) := ⟨n.toNat, by omega⟩
    exact arity_pos w bs bm vs L hs hL p (by omega)

/-- Where the thing ends that is wanted. -/
def endF (L : List Sym) : Nat → List Int → Nat
  | 0, _ => 0
  | _ + 1, [] => 1
  | w + 1, n :: r => 1 + endF L (w + arN L n) r
theorem endF_well (L : List Sym) : ∀ (l : List Int) (w : Nat), endF L w l = l.length ↔ Well L w l
  | [], 0 => by simp [endF, Well]
  | [], w + 1 => by simp [endF, Well]
  | n :: r, 0 => by simp [endF, Well]
  | n :: r, w + 1 => by
    have ih := endF_well L r (w + arN L n)
    simp only [endF, Well, List.length_cons, Nat.add_sub_cancel]
    constructor
    · intro h; exact ⟨by omega, ih.1 (by omega)⟩
    · intro h; have := ih.2 h.2; omega
theorem arN_le {L : List Sym} (hL : ∀ x ∈ L, 0 ≤ x.arity ∧ x.arity ≤ 6) (n : Int) : arN L n ≤ 6 := by
  unfold arN
  by_cases h : n < 0
  · rw [if_pos h]; omega
  · rw [if_neg h]
    cases hx : L[n.toNat]? with
    | none => simp
    | some x => have := hL x (List.mem_of_getElem? hx); simp; omega

set_option maxHeartbeats 2000000 in
theorem end_any (w : World) (bs bm : Nat) (vs : Value) (L : List Sym) (hs : SigAt w bs bm vs L) (hL : ∀ x ∈ L, 0 ≤ x.arity ∧ x.arity ≤ 6) (tv : Value) (t : List Int) (hR : Rd w tv t) (hS : ∀ n ∈ t, n < L.length) (hlen : t.length ≤ 2000) :
    Calls Try.prog 79 #[.pointer (some ⟨bs, 0, none⟩), tv, .int .i64 0] w fun e w' => e = .returned (.int .i64 (endF L 1 t)) ∧ Same w w' := by
  have HS := Lib.hid hs; have HL := Lib.hid hL; have HR := Lib.hid hR; have HSy := Lib.hid hS
  obtain ⟨A, c, rfl, hA⟩ := hR
  clear hs hL hS hA
  go_enter Try.func79, Try.ntmps79
  go_wp2_with fail
  go_loopw [2, 7] (fun a o wr => ∃ k o' : Nat, k ≤ t.length ∧ o' ≤ 1 + 6 * k ∧ a = .int .i64 k ∧ o = .int .i64 o' ∧ Hid (endF L 1 t = k + endF L o' (t.drop k) ∧ Same w wr)) (fun a _ _ => t.length - (intOf a).toNat)
  case atStart => exact ⟨0, 1, Nat.zero_le _, by omega, rfl, rfl, by simp, Turned.refl _ _⟩
  case round =>
    obtain ⟨k, o', hk, ho, rfl, rfl, HV⟩ := hrel
    by_cases h0 : o' = 0
    · subst h0
      have he : Hid (endF L 1 t = k) := by rw [HV.out.1]; simp [endF, Hid]
      have HS2 := Lib.hid HV.out.2
      clear HV
      go_wp2_with fail
      go_ret
      exact ⟨by rw [he.out]; rfl, HS2.out⟩
    · have ho1 : (0 : Int) < o' := by omega
      by_cases hlt : k < t.length
      · obtain ⟨A2, c2, ea, hA⟩ := HR.out.same_ HV.out.2
        injection ea with e1 _ e2
        subst e1; subst e2
        obtain ⟨bl, off, rfl, hc⟩ := hA (by omega)
        have hd := hc k hlt
        have hdr : t.drop k = t[k] :: t.drop (k + 1) := List.drop_eq_getElem_cons hlt
        have HX := Lib.hid (HSy.out t[k] (List.getElem_mem _))
        obtain ⟨x, hx⟩ : ∃ x, x = t[k] := ⟨_, rfl⟩
        rw [← hx] at hd hdr HX
        have HDr := Lib.hid hdr
        have h6 := arN_le HL.out x
        have HE : Hid (endF L 1 t = (k + 1) + endF L (o' - 1 + arN L x) (t.drop (k + 1))) := by
          obtain ⟨o2, rfl⟩ : ∃ o2, o' = o2 + 1 := ⟨o' - 1, by omega⟩
          have h1 := HV.out.1
          rw [HDr.out] at h1
          simp only [endF] at h1
          unfold Hid
          rw [h1, Nat.add_sub_cancel]; omega
        have HW := Lib.hid HV.out.2
        obtain ⟨q, hq⟩ : ∃ q, q = arN L x := ⟨_, rfl⟩
        have HAr : Hid (∀ W, SigAt W bs bm vs L → Calls Try.prog 89 #[.pointer (some ⟨bs, 0, none⟩), .int .i64 x] W fun e w' => e = .returned (.int .i64 q) ∧ Same W w') := by
          intro W hW; rw [hq]; exact arity_any W bs bm vs L hW HL.out x HX.out
        rw [← hq] at HE h6
        clear hc hA hx hdr hq HV
        have hk0 : (0 : Int) ≤ k := by omega
        have hk1 : (k : Int) < t.length := by omega
        have hk2 : ((k : Int) == t.length) = false := by rw [beq_eq_false_iff_ne]; omega
        go_wp2_with fail
        refine (HAr.out _ (HS.out.turned HW.out (fun _ _ h => h))).mono ?_
        rintro e w1 ⟨rfl, hs1⟩
        have HS3 : Hid (Same w w1) := HW.out.trans hs1 (fun _ h => h.elim)
        clear hs1
        go_wp2_with fail
        go_roundw
        case rel => exact ⟨k + 1, o' - 1 + q, by omega, by omega, by go_num, by go_num, HE.out, HS3.out⟩
        case measure => simp [intOf]; omega
      · have hkk : k = t.length := by omega
        subst hkk
        have he : Hid (endF L 1 t = t.length + 1) := by
          rw [HV.out.1, List.drop_length]
          obtain ⟨o2, rfl⟩ : ∃ o2, o' = o2 + 1 := ⟨o' - 1, by omega⟩
          simp [endF, Hid]
        have HS2 := Lib.hid HV.out.2
        clear HV
        go_wp2_with fail
        go_ret
        exact ⟨by rw [he.out]; rfl, HS2.out⟩
theorem isvar_neg (w : World) (n : Int) (hn : n < 0) : Calls Try.prog 78 #[.int .i64 n] w fun e w' => e = .returned (.bool (decide (-99 ≤ n))) ∧ w = w' := by
  by_cases h9 : -99 ≤ n
  · have hd : decide (-99 ≤ n) = true := decide_eq_true h9
    rw [hd]
    clear hd
    have h10 : n ≥ -99 := h9
    go_enter Try.func78, Try.ntmps78
    go_wp2_with fail
    go_ret
    exact ⟨rfl, rfl⟩
  · have hd : decide (-99 ≤ n) = false := decide_eq_false h9
    rw [hd]
    clear hd
    have h10 : ¬ n ≥ -99 := h9
    go_enter Try.func78, Try.ntmps78
    go_wp2_with fail
    go_ret
    exact ⟨rfl, rfl⟩

/-- What is wrong with a number of a term. -/
def badN (L : List Sym) (n : Int) : Int := if (L.length : Int) ≤ n then 21 else if n < -99 then 22 else 0
def badT (L : List Sym) : List Int → Int
  | [] => 0
  | n :: r => if badN L n = 0 then badT L r else badN L n
/-- What is wrong with a term. -/
def checkP (L : List Sym) (t : List Int) : Int :=
  if 2000 < t.length then 20 else if badT L t ≠ 0 then badT L t else if endF L 1 t = t.length then 0 else 23
theorem badT_zero {L : List Sym} : ∀ {t : List Int}, badT L t = 0 ↔ ∀ n ∈ t, badN L n = 0
  | [] => by simp [badT]
  | n :: r => by
    have ih := badT_zero (L := L) (t := r)
    unfold badT
    by_cases h : badN L n = 0
    · rw [if_pos h]; simp [h, ih]
    · rw [if_neg h]; simp [h]
theorem badT_split {L : List Sym} : ∀ (l r : List Int), (∀ n ∈ l, badN L n = 0) → badT L (l ++ r) = badT L r
  | [], r, _ => rfl
  | n :: l, r, h => by
    rw [List.cons_append, badT, if_pos (h n (by simp))]
    exact badT_split l r (fun m hm => h m (by simp [hm]))

set_option maxRecDepth 100000 in
set_option maxHeartbeats 4000000 in
theorem check_any (w : World) (bs bm : Nat) (vs : Value) (L : List Sym) (hs : SigAt w bs bm vs L) (hL : ∀ x ∈ L, 0 ≤ x.arity ∧ x.arity ≤ 6) (tv : Value) (t : List Int) (hR : Rd w tv t) (hlen : t.length ≤ 17592186044416) :
    Calls Try.prog 53 #[.pointer (some ⟨bs, 0, none⟩), tv] w fun e w' => e = .returned (.int .i64 (checkP L t)) ∧ Same w w' := by
  have HS := Lib.hid hs; have HL := Lib.hid hL; have HR := Lib.hid hR
  obtain ⟨A, c, rfl, hA⟩ := hR
  have hfew := hs.few
  clear hs hL hA
  by_cases hlong : 2000 < t.length
  · have hl1 : (t.length : Int) > 2000 := by omega
    have he : checkP L t = 20 := by unfold checkP; rw [if_pos hlong]
    rw [he]
    clear he hlong
    go_enter Try.func53, Try.ntmps53
    go_wp2_with fail
    go_ret
    exact ⟨rfl, Turned.refl _ _⟩
  · have hl1 : ¬ (t.length : Int) > 2000 := by omega
    have HC : Hid (checkP L t = if badT L t ≠ 0 then badT L t else if endF L 1 t = t.length then 0 else 23) := by unfold checkP; rw [if_neg hlong]; rfl
    go_enter Try.func53, Try.ntmps53
    go_wp2_with fail
    go_loopw [16] (fun i wr => ∃ k : Nat, k ≤ t.length ∧ i = .int .i64 k ∧ Hid ((∀ n ∈ t.take k, badN L n = 0) ∧ Same w wr)) (fun i _ => t.length - (intOf i).toNat)
    case atStart => exact ⟨0, Nat.zero_le _, rfl, by simp, Turned.refl _ _⟩
    case round =>
      obtain ⟨k, hk, rfl, HV⟩ := hrel
      have HSig := Lib.hid (HS.out.turned HV.out.2 (fun _ _ h => h))
      by_cases hlt : k < t.length
      · obtain ⟨A2, c2, ea, hA⟩ := HR.out.same_ HV.out.2
        injection ea with e1 _ e2
        subst e1; subst e2
        obtain ⟨bl, off, rfl, hc⟩ := hA (by omega)
        have hd := hc k hlt
        have hdr : t = t.take k ++ t[k] :: t.drop (k + 1) := by rw [← List.drop_eq_getElem_cons hlt, List.take_append_drop]
        have htk : t.take (k + 1) = t.take k ++ [t[k]] := List.take_succ_eq_append_getElem hlt
        obtain ⟨x, hx⟩ : ∃ x, x = t[k] := ⟨_, rfl⟩
        rw [← hx] at hd hdr htk
        have HB : Hid (badN L x ≠ 0 → checkP L t = badN L x) := by
          intro hb
          have h1 : badT L t = badN L x := by
            rw [hdr, badT_split _ _ HV.out.1, badT, if_neg hb]
          rw [HC.out, h1, if_pos hb]
        have HG : Hid (badN L x = 0 → ∀ n ∈ t.take (k + 1), badN L n = 0) := by
          intro hb n hn
          rw [htk, List.mem_append] at hn
          rcases hn with h | h
          · exact HV.out.1 n h
          · obtain rfl : n = x := by simpa using h
            exact hb
        have HW := Lib.hid HV.out.2
        clear hc hA hx hdr htk HV
        have hk0 : (0 : Int) ≤ k := by omega
        have hk1 : (k : Int) < t.length := by omega
        by_cases hbig : (L.length : Int) ≤ x
        · have he : Hid (checkP L t = 21) := by
            have hb : badN L x = 21 := by unfold badN; rw [if_pos hbig]
            rw [HB.out (by rw [hb]; decide)]; exact hb
          have hge : x ≥ (L.length : Int) := hbig
          go_wp2_with fail
          refine (len_any _ bs bm vs L HSig.out).mono ?_
          rintro e w1 ⟨rfl, rfl⟩
          go_wp2_with fail
          go_ret
          exact ⟨by rw [he.out]; rfl, HW.out⟩
        · have hge : ¬ x ≥ (L.length : Int) := by omega
          by_cases hneg : x < 0
          · by_cases h99 : -99 ≤ x
            · have hdec : decide (-99 ≤ x) = true := decide_eq_true h99
              have hb : badN L x = 0 := by unfold badN; rw [if_neg hbig, if_neg (by omega)]
              have HG2 := Lib.hid (HG.out hb)
              clear hb
              go_wp2_with fail
              refine (len_any _ bs bm vs L HSig.out).mono ?_
              rintro e w1 ⟨rfl, rfl⟩
              go_wp2_with fail
              refine (isvar_neg _ x hneg).mono ?_
              rintro e w2 ⟨rfl, rfl⟩
              rw [hdec]
              go_wp2_with fail
              exact ⟨⟨k + 1, by omega, by go_num, HG2.out, HW.out⟩, by simp [intOf]; omega⟩
            · have hdec : decide (-99 ≤ x) = false := decide_eq_false h99
              have hb : badN L x = 22 := by unfold badN; rw [if_neg hbig, if_pos (by omega)]
              have he : Hid (checkP L t = 22) := by rw [HB.out (by rw [hb]; decide)]; exact hb
              clear hb
              go_wp2_with fail
              refine (len_any _ bs bm vs L HSig.out).mono ?_
              rintro e w1 ⟨rfl, rfl⟩
              go_wp2_with fail
              refine (isvar_neg _ x hneg).mono ?_
              rintro e w2 ⟨rfl, rfl⟩
              rw [hdec]
              go_wp2_with fail
              go_ret
              exact ⟨by rw [he.out]; rfl, HW.out⟩
          · have hb : badN L x = 0 := by unfold badN; rw [if_neg hbig, if_neg (by omega)]
            have HG2 := Lib.hid (HG.out hb)
            clear hb
            go_wp2_with fail
            refine (len_any _ bs bm vs L HSig.out).mono ?_
            rintro e w1 ⟨rfl, rfl⟩
            go_wp2_with fail
            exact ⟨⟨k + 1, by omega, by go_num, HG2.out, HW.out⟩, by simp [intOf]; omega⟩
      · have hkk : k = t.length := by omega
        subst hkk
        have hall : ∀ n ∈ t, badN L n = 0 := by have := HV.out.1; rwa [List.take_length] at this
        have hb0 : badT L t = 0 := badT_zero.2 hall
        have HC2 : Hid (checkP L t = if endF L 1 t = t.length then 0 else 23) := by rw [HC.out, hb0]; rfl
        have HSy : Hid (∀ n ∈ t, n < L.length) := by
          intro n hn
          have h1 := hall n hn
          unfold badN at h1
          by_cases h2 : (L.length : Int) ≤ n
          · rw [if_pos h2] at h1; cases h1
          · omega
        have HW := Lib.hid HV.out.2
        have HRw := Lib.hid (HR.out.same_ HV.out.2)
        clear hall hb0 HV
        by_cases h0 : t.length = 0
        · have he : Hid (checkP L t = 23) := by
            obtain rfl : t = [] := List.eq_nil_of_length_eq_zero h0
            rw [HC2.out]; rfl
          rw [h0]
          clear h0
          go_wp2_with fail
          go_ret
          exact ⟨by rw [he.out]; rfl, HW.out⟩
        · have hz : ((t.length : Int) == 0) = false := by rw [beq_eq_false_iff_ne]; omega
          clear h0
          obtain ⟨q, hq⟩ : ∃ q, q = endF L 1 t := ⟨_, rfl⟩
          have HEn : Hid (Calls Try.prog 79 #[.pointer (some ⟨bs, 0, none⟩), .slice A t.length c, .int .i64 0] wr fun e w' => e = .returned (.int .i64 q) ∧ Same wr w') := by
            rw [hq]; exact end_any wr bs bm vs L HSig.out HL.out _ t HRw.out HSy.out (by omega)
          rw [← hq] at HC2
          clear hq
          by_cases hqe : q = t.length
          · have he : Hid (checkP L t = 0) := by unfold Hid; rw [HC2.out, if_pos hqe]
            have hqI : ((q : Int) == t.length) = true := by rw [beq_iff_eq]; omega
            go_wp2_with fail
            refine HEn.out.mono ?_
            rintro e w1 ⟨rfl, hs1⟩
            have HS1 : Hid (Same w w1) := HW.out.trans hs1 (fun _ h => h.elim)
            clear hs1 hqe
            go_wp2_with fail
            go_ret
            exact ⟨by rw [he.out]; rfl, HS1.out⟩
          · have he : Hid (checkP L t = 23) := by unfold Hid; rw [HC2.out, if_neg hqe]
            have hqI : ((q : Int) == t.length) = false := by rw [beq_eq_false_iff_ne]; omega
            go_wp2_with fail
            refine HEn.out.mono ?_
            rintro e w1 ⟨rfl, hs1⟩
            have HS1 : Hid (Same w w1) := HW.out.trans hs1 (fun _ h => h.elim)
            clear hs1 hqe
            go_wp2_with fail
            go_ret
            exact ⟨by rw [he.out]; rfl, HS1.out⟩
end Go.Proofs.Yteohhiefchoamaa

/-
  The reference's small functions.
-/
import Derived.Test.YtoncebnbdjpclaaSame
namespace Go.Proofs.Ytoncebnbdjpclaa
open Go.RowKit

theorem small_any (n : Nat) (w : World) : Calls Try.prog 25 #[.int .u8 n] w fun e w' => e = .returned (.bool (smallN n)) ∧ w = w' := by
  go_enter Try.func25, Try.ntmps25
  go_wp2
  all_goals
    go_ret
    exact ⟨ret_bool (by rw [Bool.eq_iff_iff]; simp [smallN]; omega), rfl⟩
theorem great_any (n : Nat) (w : World) : Calls Try.prog 26 #[.int .u8 n] w fun e w' => e = .returned (.bool (greatN n)) ∧ w = w' := by
  go_enter Try.func26, Try.ntmps26
  go_wp2
  all_goals
    go_ret
    exact ⟨ret_bool (by rw [Bool.eq_iff_iff]; simp [greatN]; omega), rfl⟩
theorem digit_any (n : Nat) (w : World) : Calls Try.prog 27 #[.int .u8 n] w fun e w' => e = .returned (.bool (digitN n)) ∧ w = w' := by
  go_enter Try.func27, Try.ntmps27
  go_wp2
  all_goals
    go_ret
    exact ⟨ret_bool (by rw [Bool.eq_iff_iff]; simp [digitN]; omega), rfl⟩
theorem blank_any (n : Nat) (w : World) : Calls Try.prog 18 #[.int .u8 n] w fun e w' => e = .returned (.bool (blankN n)) ∧ w = w' := by
  go_enter Try.func18, Try.ntmps18
  go_wp2
  all_goals
    go_ret
    exact ⟨ret_bool (by rw [Bool.eq_iff_iff]; simp [blankN]; omega), rfl⟩
set_option maxHeartbeats 1000000 in
theorem mark_any (n : Nat) (w : World) : Calls Try.prog 28 #[.int .u8 n] w fun e w' => e = .returned (.int .i64 (markN n)) ∧ w = w' := by
  by_cases h0 : n = 40
  · subst h0; go_enter Try.func28, Try.ntmps28; go_wp2; go_ret; exact ⟨rfl, rfl⟩
  by_cases h1 : n = 41
  · subst h1; go_enter Try.func28, Try.ntmps28; go_wp2; go_ret; exact ⟨rfl, rfl⟩
  by_cases h2 : n = 44
  · subst h2; go_enter Try.func28, Try.ntmps28; go_wp2; go_ret; exact ⟨rfl, rfl⟩
  by_cases h3 : n = 59
  · subst h3; go_enter Try.func28, Try.ntmps28; go_wp2; go_ret; exact ⟨rfl, rfl⟩
  by_cases h4 : n = 47
  · subst h4; go_enter Try.func28, Try.ntmps28; go_wp2; go_ret; exact ⟨rfl, rfl⟩
  by_cases h5 : n = 46
  · subst h5; go_enter Try.func28, Try.ntmps28; go_wp2; go_ret; exact ⟨rfl, rfl⟩
  by_cases h6 : n = 58
  · subst h6; go_enter Try.func28, Try.ntmps28; go_wp2; go_ret; exact ⟨rfl, rfl⟩
  by_cases h7 : n = 42
  · subst h7; go_enter Try.func28, Try.ntmps28; go_wp2; go_ret; exact ⟨rfl, rfl⟩
  have hm : markN n = 0 := by unfold markN; rw [if_neg h0, if_neg h1, if_neg h2, if_neg h3, if_neg h4, if_neg h5, if_neg h6, if_neg h7]
  rw [hm]
  have g0 : ¬ (n : Int) = 40 := by omega
  have g1 : ¬ (n : Int) = 41 := by omega
  have g2 : ¬ (n : Int) = 44 := by omega
  have g3 : ¬ (n : Int) = 59 := by omega
  have g4 : ¬ (n : Int) = 47 := by omega
  have g5 : ¬ (n : Int) = 46 := by omega
  have g6 : ¬ (n : Int) = 58 := by omega
  have g7 : ¬ (n : Int) = 42 := by omega
  clear h0 h1 h2 h3 h4 h5 h6 h7 hm
  go_enter Try.func28, Try.ntmps28
  go_wp2
  go_ret
  exact ⟨rfl, rfl⟩

set_option maxHeartbeats 1000000 in
theorem rgoes_any (kind : Nat) (n : Nat) (w : World) : Calls Try.prog 29 #[.int .i64 kind, .int .u8 n] w fun e w' => e = .returned (.bool (goesN kind n)) ∧ w = w' := by
  obtain ⟨q, hq⟩ : ∃ q, q = goesN kind n := ⟨_, rfl⟩
  rw [← hq]
  rcases (by omega : kind = 1 ∨ kind = 2 ∨ kind = 3 ∨ (kind ≠ 1 ∧ kind ≠ 2 ∧ kind ≠ 3)) with rfl | rfl | rfl | ⟨n1, n2, n3⟩
  · have HQ : Hid (q = (digitN n || smallN n)) := by unfold Hid; rw [hq]; simp [goesN, Bool.or_comm]
    clear hq
    go_enter Try.func29, Try.ntmps29
    go_wp2_with fail
    refine (digit_any n _).mono ?_
    rintro e w1 ⟨rfl, rfl⟩
    go_wp2_with fail
    refine (small_any n _).mono ?_
    rintro e w1 ⟨rfl, rfl⟩
    go_wp2_with fail
    refine (great_any n _).mono ?_
    rintro e w1 ⟨rfl, rfl⟩
    go_wp2_with fail
    all_goals
      go_ret
      exact ⟨ret_bool (by rw [HQ.out]; simp_all), rfl⟩
  · have HQ : Hid (q = (digitN n || smallN n || greatN n)) := by unfold Hid; rw [hq]; simp [goesN]; cases greatN n <;> cases smallN n <;> cases digitN n <;> rfl
    clear hq
    go_enter Try.func29, Try.ntmps29
    go_wp2_with fail
    refine (digit_any n _).mono ?_
    rintro e w1 ⟨rfl, rfl⟩
    go_wp2_with fail
    refine (small_any n _).mono ?_
    rintro e w1 ⟨rfl, rfl⟩
    go_wp2_with fail
    refine (great_any n _).mono ?_
    rintro e w1 ⟨rfl, rfl⟩
    go_wp2_with fail
    all_goals
      go_ret
      exact ⟨ret_bool (by rw [HQ.out]; simp_all), rfl⟩
  · have HQ : Hid (q = digitN n) := by unfold Hid; rw [hq]; simp [goesN]
    clear hq
    go_enter Try.func29, Try.ntmps29
    go_wp2_with fail
    refine (digit_any n _).mono ?_
    rintro e w1 ⟨rfl, rfl⟩
    go_wp2_with fail
    refine (small_any n _).mono ?_
    rintro e w1 ⟨rfl, rfl⟩
    go_wp2_with fail
    refine (great_any n _).mono ?_
    rintro e w1 ⟨rfl, rfl⟩
    go_wp2_with fail
    all_goals
      go_ret
      exact ⟨ret_bool (by rw [HQ.out]), rfl⟩
  · have HQ : Hid (q = false) := by unfold Hid; rw [hq]; simp [goesN, n1, n2, n3]
    clear hq
    have m1 : ¬ (kind : Int) = 1 := by omega
    have m2 : ¬ (kind : Int) = 2 := by omega
    have m3 : ¬ (kind : Int) = 3 := by omega
    go_enter Try.func29, Try.ntmps29
    go_wp2_with fail
    refine (digit_any n _).mono ?_
    rintro e w1 ⟨rfl, rfl⟩
    go_wp2_with fail
    refine (small_any n _).mono ?_
    rintro e w1 ⟨rfl, rfl⟩
    go_wp2_with fail
    refine (great_any n _).mono ?_
    rintro e w1 ⟨rfl, rfl⟩
    go_wp2_with fail
    all_goals
      go_ret
      exact ⟨ret_bool (by rw [HQ.out]), rfl⟩

set_option maxHeartbeats 2000000 in
theorem rbegins_any (s : ByteArray) (l : List UInt8) (hs : s.data.toList = l) (p : Nat) (hp : p < s.size) (hsz : s.size ≤ 20000) (w : World) :
    Calls Try.prog 19 #[.string s, .int .i64 p] w fun e w' => e = .returned (.int .i64 (kindAt (l.drop p))) ∧ Same w w' := by
  have hsl : s.size = l.length := by rw [← hs, Lib.size_eq]
  obtain ⟨hpl, hbyte⟩ := byte_at hs p hp
  have hd : l.drop p = l[p] :: l.drop (p + 1) := List.drop_eq_getElem_cons hpl
  rw [hd]
  obtain ⟨b, hb⟩ : ∃ b, b = l[p] := ⟨_, rfl⟩
  rw [← hb] at hbyte ⊢
  have hpI : (p : Int) < s.size := by omega
  have hp0 : (0 : Int) ≤ p := by omega
  obtain ⟨K, hK⟩ : ∃ K, K = kindAt (b :: l.drop (p + 1)) := ⟨_, rfl⟩
  rw [← hK]
  rw [kindAt_cons] at hK
  have HK := Lib.hid hK
  have HSL := Lib.hid hsl
  have HS := Lib.hid hs
  clear hK hd hb hs hsl
  have hw1 : IntKind.i64.wrap ((p : Int) + 1) = (p : Int) + 1 := wrap_small _ (by omega) (by omega)
  go_enter Try.func19, Try.ntmps19
  go_wp2_with fail
  refine (small_any _ _).mono ?_
  rintro e w1 ⟨rfl, rfl⟩
  cases h1 : smallN b.toNat
  · have k1 := HK.out
    rw [if_neg (by rw [h1]; decide)] at k1
    clear h1
    go_wp2_with fail
    refine (great_any _ _).mono ?_
    rintro e w1 ⟨rfl, rfl⟩
    cases h2 : greatN b.toNat
    · rw [if_neg (by rw [h2]; decide)] at k1
      clear h2
      go_wp2_with fail
      refine (digit_any _ _).mono ?_
      rintro e w1 ⟨rfl, rfl⟩
      cases h3 : digitN b.toNat
      · rw [if_neg (by rw [h3]; decide)] at k1
        clear h3
        have K1 := Lib.hid k1
        clear k1
        by_cases c1 : b.toNat = 45
        · have c1I : (b.toNat : Int) = 45 := by omega
          by_cases c2 : p + 1 < s.size
          · obtain ⟨hpl2, hbyte2⟩ := byte_at HS.out (p + 1) c2
            have hh : (l.drop (p + 1)).head? = some l[p + 1] := by rw [List.drop_eq_getElem_cons hpl2]; rfl
            obtain ⟨x, hx⟩ : ∃ x, x = l[p + 1] := ⟨_, rfl⟩
            rw [← hx] at hh hbyte2
            have c2I : (p : Int) + 1 < s.size := by omega
            have hxI : (0 : Int) ≤ (p : Int) + 1 := by omega
            have hix : ∀ W, (Instr.index 9 (.string s) (.int .i64 ((p : Int) + 1))).run Try.prog W = .ok (.int .u8 x.toNat) W := by
              intro W
              rw [run_index_string W 9 s .i64 _ Try.underlying9, dif_pos (by omega)]
              have e2 : ((p : Int) + 1).toNat = p + 1 := by omega
              simp only [e2, hbyte2]
            by_cases c3 : x = 62
            · have hK8 : K = 8 := by rw [K1.out, if_pos ⟨c1, by rw [hh, c3]⟩]
              have c3I : (x.toNat : Int) = 62 := by rw [c3]; rfl
              subst hK8
              clear hbyte2 hh hx
              go_wp2_with fail
              go_ret
              exact ⟨rfl, Turned.refl _ _⟩
            · have hKm : K = markN b.toNat := by rw [K1.out, if_neg (by rintro ⟨_, h⟩; rw [hh] at h; exact c3 (Option.some.inj h))]
              have c3I : ¬ (x.toNat : Int) = 62 := fun h => c3 (UInt8.toNat_inj.1 (by show x.toNat = 62; omega))
              clear hbyte2 hh hx
              go_wp2_with fail
              refine (mark_any 45 _).mono ?_
              rintro e w1 ⟨rfl, rfl⟩
              go_wp2_with fail
              go_ret
              exact ⟨by rw [hKm, c1]; rfl, Turned.refl _ _⟩
          · have hKm : K = markN b.toNat := by
              rw [K1.out, if_neg]
              rintro ⟨_, h⟩
              rw [List.drop_of_length_le (by have := HSL.out; omega)] at h
              cases h
            have c2I : ¬ (p : Int) + 1 < s.size := by omega
            go_wp2_with fail
            refine (mark_any 45 _).mono ?_
            rintro e w1 ⟨rfl, rfl⟩
            go_wp2_with fail
            go_ret
            exact ⟨by rw [hKm, c1]; rfl, Turned.refl _ _⟩
        · have hKm : K = markN b.toNat := by rw [K1.out, if_neg (fun h => c1 h.1)]
          have c1I : ¬ (b.toNat : Int) = 45 := by omega
          go_wp2_with fail
          refine (mark_any _ _).mono ?_
          rintro e w1 ⟨rfl, rfl⟩
          go_wp2_with fail
          go_ret
          exact ⟨by rw [hKm]; rfl, Turned.refl _ _⟩
      · rw [if_pos h3] at k1
        clear h3
        subst k1
        go_wp2_with fail
        go_ret
        exact ⟨rfl, Turned.refl _ _⟩
    · rw [if_pos h2] at k1
      clear h2
      subst k1
      go_wp2_with fail
      go_ret
      exact ⟨rfl, Turned.refl _ _⟩
  · have k1 := HK.out
    rw [if_pos h1] at k1
    clear h1
    subst k1
    go_wp2_with fail
    go_ret
    exact ⟨rfl, Turned.refl _ _⟩

set_option maxHeartbeats 2000000 in
theorem rlength_any (s : ByteArray) (l : List UInt8) (hs : s.data.toList = l) (p : Nat) (hp : p < s.size) (hsz : s.size ≤ 20000) (K : Nat) (w : World) :
    Calls Try.prog 20 #[.string s, .int .i64 p, .int .i64 K] w fun e w' => e = .returned (.int .i64 (lenAt K (l.drop p))) ∧ Same w w' := by
  have hsl : s.size = l.length := by rw [← hs, Lib.size_eq]
  obtain ⟨hpl, _⟩ := byte_at hs p hp
  have hd : l.drop p = l[p] :: l.drop (p + 1) := List.drop_eq_getElem_cons hpl
  rw [hd]
  obtain ⟨r, hr⟩ : ∃ r, r = l.drop (p + 1) := ⟨_, rfl⟩
  rw [← hr]
  by_cases h8 : K = 8
  · subst h8
    clear hd hs hsl
    go_enter Try.func20, Try.ntmps20
    go_wp2
    go_ret
    exact ⟨rfl, Turned.refl _ _⟩
  · have h8B : ((K : Int) == 8) = false := by rw [beq_eq_false_iff_ne]; omega
    obtain ⟨T, hT⟩ : ∃ T, T = (r.takeWhile fun b => goesN K b.toNat).length := ⟨_, rfl⟩
    have hL : lenAt K (l[p] :: r) = T + 1 := by simp only [lenAt, if_neg h8, List.tail_cons]; omega
    rw [hL]
    have hrl : r.length + p + 1 = s.size := by rw [hr, List.length_drop]; omega
    have HT := Lib.hid hT; have HR := Lib.hid hr; have HS := Lib.hid hs
    have hTl : T ≤ r.length := by rw [hT]; exact (List.takeWhile_sublist _).length_le
    have HB := Lib.hid (And.intro hrl (And.intro hTl (And.intro hsz hsl)))
    have hT2 : T ≤ 20000 := by omega
    clear hL hT hs hd hr hrl hTl hsl
    go_enter Try.func20, Try.ntmps20
    go_wp2_with fail
    go_loopw [7] (fun i wr => ∃ n : Nat, n ≤ T ∧ i = .int .i64 ((n + 1 : Nat) : Int) ∧ wr = w) (fun i _ => T + 1 - (intOf i).toNat)
    case atStart => exact ⟨0, by omega, rfl, rfl⟩
    case round =>
      obtain ⟨n, hn, rfl, hw⟩ := hrel
      subst hw
      rw [show ((n + 1 : Nat) : Int) = (n : Int) + 1 from by omega]
      have hwr : IntKind.i64.wrap ((p : Int) + ((n : Int) + 1)) = (p : Int) + ((n : Int) + 1) := wrap_small _ (by omega) (by omega)
      have hwr2 : IntKind.i64.wrap ((n : Int) + 1 + 1) = (n : Int) + 1 + 1 := wrap_small _ (by omega) (by omega)
      by_cases hlt : p + (n + 1) < s.size
      · have hltI : (p : Int) + ((n : Int) + 1) < s.size := by omega
        obtain ⟨hpl2, hbyte2⟩ := byte_at HS.out (p + (n + 1)) hlt
        have hj : n < r.length := by have := HB.out.1; omega
        have hx : l[p + (n + 1)] = r[n] := by
          have h1 : r[n]? = l[p + 1 + n]? := by rw [HR.out, List.getElem?_drop]
          rw [List.getElem?_eq_getElem hj, show p + 1 + n = p + (n + 1) from by omega, List.getElem?_eq_getElem hpl2] at h1
          exact (Option.some.inj h1).symm
        have htw := take_while_at (fun b : UInt8 => goesN K b.toNat) r n hj (by have := HT.out; omega)
        rw [← HT.out] at htw
        rw [hx] at hbyte2
        obtain ⟨x, hxx⟩ : ∃ x, x = r[n] := ⟨_, rfl⟩
        rw [← hxx] at hbyte2 htw
        have htw2 : (goesN K x.toNat = true → n + 1 ≤ T) ∧ (goesN K x.toNat = false → T = n) := htw
        have HTW := Lib.hid htw2
        have hix : ∀ W, (Instr.index 9 (.string s) (.int .i64 ((p : Int) + ((n : Int) + 1)))).run Try.prog W = .ok (.int .u8 x.toNat) W := by
          intro W
          rw [run_index_string W 9 s .i64 _ Try.underlying9, dif_pos (by omega)]
          have e2 : ((p : Int) + ((n : Int) + 1)).toNat = p + (n + 1) := by omega
          simp only [e2, hbyte2]
        clear htw htw2 hx hbyte2 hxx
        go_wp2_with fail
        refine (rgoes_any _ _ _).mono ?_
        rintro e w1 ⟨rfl, rfl⟩
        cases hq : goesN K x.toNat
        · have h1 := HTW.out.2 hq
          subst h1
          clear hq
          go_wp2_with fail
          go_ret
          exact ⟨rfl, Turned.refl _ _⟩
        · have h1 := HTW.out.1 hq
          clear hq
          go_wp2_with fail
          exact ⟨⟨n + 1, h1, by go_num, trivial⟩, by simp [intOf]; omega⟩
      · have hltI : ¬ (p : Int) + ((n : Int) + 1) < s.size := by omega
        have hTn : T = n := by have := HB.out; omega
        subst hTn
        go_wp2_with fail
        go_ret
        exact ⟨rfl, Turned.refl _ _⟩
end Go.Proofs.Ytoncebnbdjpclaa

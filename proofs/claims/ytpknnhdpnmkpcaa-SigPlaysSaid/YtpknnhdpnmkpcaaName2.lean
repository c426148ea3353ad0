/-
  The walks of the tests on variables' names and of the document's tests: whatever the string, the answer is the plain function's; nothing is written.
-/
import Derived.Test.YtpknnhdpnmkpcaaName
namespace Go.Proofs.Ytpknnhdpnmkpcaa
open Go.RowKit

def genL (F R : UInt8 → Bool) (l : List UInt8) : Bool :=
  match l with
  | [] => false
  | c :: r => decide ((c :: r).length ≤ 12) && F c && (c :: r).all R
def okL (F R : UInt8 → Bool) (l : List UInt8) : Bool :=
  match l with
  | [] => true
  | c :: r => F c && r.all R
def nameR (c : UInt8) : Bool := smallB c || digitB c
def varR (c : UInt8) : Bool := smallB c || (greatB c || digitB c)
theorem isNameB_gen (s : ByteArray) : isNameB s = genL smallB nameR s.data.toList := rfl
def isVarB (s : ByteArray) : Bool := genL greatB varR s.data.toList
theorem name_sub (c : UInt8) (h : smallB c = true) : nameR c = true := by simp [nameR, h]
theorem var_sub (c : UInt8) (h : greatB c = true) : varR c = true := by simp [varR, h]

section
variable (F R : UInt8 → Bool) (s : ByteArray)
theorem gen_zero (h : s.size = 0) : genL F R s.data.toList = false := by
  have hl : s.data.toList.length = 0 := by simpa using h
  rw [List.eq_nil_of_length_eq_zero hl]; rfl
theorem gen_long (h : 12 < s.size) : genL F R s.data.toList = false := by
  obtain ⟨r, hr⟩ := list_cons s (by omega)
  have hl : (s[0] :: r).length = s.size := by rw [← hr]; simp
  rw [hr]; simp only [genL]
  rw [decide_eq_false (by omega)]; rfl
theorem gen_first (h : 0 < s.size) (h1 : F s[0] = false) : genL F R s.data.toList = false := by
  obtain ⟨r, hr⟩ := list_cons s h
  rw [hr]; simp only [genL]; rw [h1]; simp
theorem gen_rest (h : 0 < s.size) (h2 : s.size ≤ 12) (h1 : F s[0] = true) : genL F R s.data.toList = s.data.toList.all R := by
  obtain ⟨r, hr⟩ := list_cons s h
  have hl : (s[0] :: r).length = s.size := by rw [← hr]; simp
  rw [hr]; simp only [genL]; rw [h1, decide_eq_true (by omega)]; simp
theorem all_snoc (k : Nat) (h : k < s.size) : (s.data.toList.take (k + 1)).all R = ((s.data.toList.take k).all R && R s[k]) := by
  rw [take_snoc s k h]; simp
theorem all_false (k : Nat) (h : k < s.size) (h1 : R s[k] = false) : s.data.toList.all R = false := by
  have := all_snoc R s k h
  rw [h1] at this
  rw [← List.take_append_drop (k + 1) s.data.toList]
  rw [List.all_append, this]; simp
theorem all_true (k : Nat) (h : k < s.size) (h0 : (s.data.toList.take k).all R = true) (h1 : R s[k] = true) : (s.data.toList.take (k + 1)).all R = true := by
  rw [all_snoc R s k h, h0, h1]; rfl
theorem gen_ok (h : 0 < s.size) (h2 : s.size ≤ 12) (hs : ∀ c, F c = true → R c = true) : genL F R s.data.toList = okL F R s.data.toList := by
  obtain ⟨r, hr⟩ := list_cons s h
  have hl : (s[0] :: r).length = s.size := by rw [← hr]; simp
  rw [hr]; simp only [genL, okL]
  rw [decide_eq_true (by omega)]
  cases hf : F s[0]
  · simp
  · simp [hs _ hf]
theorem ok_first (h : 0 < s.size) (h1 : F s[0] = true) : okL F R (s.data.toList.take 1) = true := by
  obtain ⟨r, hr⟩ := list_cons s h
  rw [hr]; simp [okL, h1]
theorem ok_first_false (h : 0 < s.size) (h1 : F s[0] = false) : okL F R s.data.toList = false := by
  obtain ⟨r, hr⟩ := list_cons s h
  rw [hr]; simp [okL, h1]
theorem ok_next (k : Nat) (hk : 0 < k) (h : k < s.size) (h0 : okL F R (s.data.toList.take k) = true) (h1 : R s[k] = true) : okL F R (s.data.toList.take (k + 1)) = true := by
  rw [take_snoc s k h]
  obtain ⟨r, hr⟩ := list_cons s (by omega)
  obtain ⟨j, rfl⟩ : ∃ j, k = j + 1 := ⟨k - 1, by omega⟩
  rw [hr] at h0 ⊢
  simp only [List.take_succ_cons, okL, List.cons_append, List.all_append, Bool.and_eq_true] at h0 ⊢
  exact ⟨h0.1, h0.2, by simpa using h1⟩
theorem ok_next_false (k : Nat) (hk : 0 < k) (h : k < s.size) (h1 : R s[k] = false) : okL F R s.data.toList = false := by
  obtain ⟨r, hr⟩ := list_cons s (by omega)
  have hl : (s[0] :: r).length = s.size := by rw [← hr]; simp
  have hk' : s[k] = s.data.toList[k]'(by simpa using h) := rfl
  have hm : s[k] ∈ r := by
    rw [hk']
    have : s.data.toList[k]'(by simpa using h) = (s[0] :: r)[k]'(by omega) := by congr 1
    rw [this]
    obtain ⟨j, rfl⟩ : ∃ j, k = j + 1 := ⟨k - 1, by omega⟩
    simp
  rw [hr]
  simp only [okL]
  have : r.all R = false := by
    rw [List.all_eq_false]; exact ⟨_, hm, by simp [h1]⟩
  rw [this]; simp
end

theorem great_any (c : UInt8) (w : World) : Calls Try.prog 23 #[.int .u8 c.toNat] w fun e w' => e = .returned (.bool (greatB c)) ∧ w = w' := by
  by_cases h : 65 ≤ (c.toNat : Int)
  · have HN : Hid (greatB c = decide ((c.toNat : Int) ≤ 90)) := by unfold greatB; rw [decide_eq_true h, Bool.true_and]; exact rfl
    go_enter Try.func23, Try.ntmps23
    go_wp2
    all_goals go_ret
    all_goals exact ⟨ret_bool HN.out.symm, rfl⟩
  · have HN : Hid (greatB c = false) := by unfold greatB; rw [decide_eq_false h]; rfl
    go_enter Try.func23, Try.ntmps23
    go_wp2
    all_goals go_ret
    all_goals exact ⟨ret_bool HN.out.symm, rfl⟩

theorem rsmall_any (c : UInt8) (w : World) : Calls Try.prog 24 #[.int .u8 c.toNat] w fun e w' => e = .returned (.bool (smallB c)) ∧ w = w' := by
  by_cases h : 97 ≤ (c.toNat : Int)
  · have HN : Hid (smallB c = decide ((c.toNat : Int) ≤ 122)) := by unfold smallB; rw [decide_eq_true h, Bool.true_and]; exact rfl
    go_enter Try.func24, Try.ntmps24
    go_wp2
    all_goals go_ret
    all_goals exact ⟨ret_bool HN.out.symm, rfl⟩
  · have HN : Hid (smallB c = false) := by unfold smallB; rw [decide_eq_false h]; rfl
    go_enter Try.func24, Try.ntmps24
    go_wp2
    all_goals go_ret
    all_goals exact ⟨ret_bool HN.out.symm, rfl⟩

theorem rdigit_any (c : UInt8) (w : World) : Calls Try.prog 25 #[.int .u8 c.toNat] w fun e w' => e = .returned (.bool (digitB c)) ∧ w = w' := by
  by_cases h : 48 ≤ (c.toNat : Int)
  · have HN : Hid (digitB c = decide ((c.toNat : Int) ≤ 57)) := by unfold digitB; rw [decide_eq_true h, Bool.true_and]; exact rfl
    go_enter Try.func25, Try.ntmps25
    go_wp2
    all_goals go_ret
    all_goals exact ⟨ret_bool HN.out.symm, rfl⟩
  · have HN : Hid (digitB c = false) := by unfold digitB; rw [decide_eq_false h]; rfl
    go_enter Try.func25, Try.ntmps25
    go_wp2
    all_goals go_ret
    all_goals exact ⟨ret_bool HN.out.symm, rfl⟩

theorem rgreat_any (c : UInt8) (w : World) : Calls Try.prog 26 #[.int .u8 c.toNat] w fun e w' => e = .returned (.bool (greatB c)) ∧ w = w' := by
  by_cases h : 65 ≤ (c.toNat : Int)
  · have HN : Hid (greatB c = decide ((c.toNat : Int) ≤ 90)) := by unfold greatB; rw [decide_eq_true h, Bool.true_and]; exact rfl
    go_enter Try.func26, Try.ntmps26
    go_wp2
    all_goals go_ret
    all_goals exact ⟨ret_bool HN.out.symm, rfl⟩
  · have HN : Hid (greatB c = false) := by unfold greatB; rw [decide_eq_false h]; rfl
    go_enter Try.func26, Try.ntmps26
    go_wp2
    all_goals go_ret
    all_goals exact ⟨ret_bool HN.out.symm, rfl⟩

theorem isVar_any (s : ByteArray) (w : World) (hs : s.size ≤ maxLen) : Calls Try.prog 14 #[.string s] w fun e w' => e = .returned (.bool (isVarB s)) ∧ w = w' := by
  unfold maxLen at hs
  by_cases hz : s.size = 0
  · have HN : Hid (isVarB s = false) := gen_zero _ _ s hz
    have h0 : ((s.size : Int) == 0) = true := by simp [hz]
    clear hz
    go_enter Try.func14, Try.ntmps14
    go_wp2_with fail
    all_goals go_ret
    all_goals exact ⟨ret_bool HN.out.symm, rfl⟩
  · have h0 : ((s.size : Int) == 0) = false := by rw [beq_eq_false_iff_ne]; omega
    have hz : 0 < s.size := by omega
    by_cases hl : 12 < s.size
    · have HN : Hid (isVarB s = false) := gen_long _ _ s hl
      have hl' : (12 : Int) < s.size := by omega
      go_enter Try.func14, Try.ntmps14
      go_wp2_with fail
      all_goals go_ret
      all_goals exact ⟨ret_bool HN.out.symm, rfl⟩
    · have hl : (s.size : Int) ≤ 12 := by omega
      cases h1 : greatB s[0]
      · have HN : Hid (isVarB s = false) := gen_first _ _ s hz h1
        go_enter Try.func14, Try.ntmps14
        go_wp2_with (first | (go_at_call 21; refine (small_any _ _).mono ?_; rintro e w' ⟨rfl, rfl⟩) | (go_at_call 22; refine (digit_any _ _).mono ?_; rintro e w' ⟨rfl, rfl⟩) | (go_at_call 23; refine (great_any _ _).mono ?_; rintro e w' ⟨rfl, rfl⟩))
        all_goals go_ret
        all_goals exact ⟨ret_bool HN.out.symm, rfl⟩
      · have HN : Hid (isVarB s = s.data.toList.all varR) := gen_rest _ _ s hz (by omega) h1
        go_enter Try.func14, Try.ntmps14
        go_wp2_with (first | (go_at_call 21; refine (small_any _ _).mono ?_; rintro e w' ⟨rfl, rfl⟩) | (go_at_call 22; refine (digit_any _ _).mono ?_; rintro e w' ⟨rfl, rfl⟩) | (go_at_call 23; refine (great_any _ _).mono ?_; rintro e w' ⟨rfl, rfl⟩))
        clear h1
        go_loop [20] (fun i => ∃ k : Nat, k ≤ s.size ∧ i = .int .i64 k ∧ Hid ((s.data.toList.take k).all varR = true)) (fun i => s.size - (intOf i).toNat)
        case atStart => exact ⟨0, Nat.zero_le _, rfl, rfl⟩
        case round =>
          obtain ⟨k, hk, rfl, HR⟩ := hrel
          by_cases hlt : k < s.size
          · cases hv : varR s[k]
            · have HF : Hid (s.data.toList.all varR = false) := all_false _ s k hlt hv
              unfold varR at hv
              simp only [Bool.or_eq_false_iff] at hv
              obtain ⟨h1, h2, h3⟩ := hv
              go_wp2_with (first | (go_at_call 21; refine (small_any _ _).mono ?_; rintro e w' ⟨rfl, rfl⟩) | (go_at_call 22; refine (digit_any _ _).mono ?_; rintro e w' ⟨rfl, rfl⟩) | (go_at_call 23; refine (great_any _ _).mono ?_; rintro e w' ⟨rfl, rfl⟩))
              all_goals go_ret
              all_goals exact ⟨ret_bool (HN.out.trans HF.out).symm, rfl⟩
            · have HT : Hid ((s.data.toList.take (k + 1)).all varR = true) := all_true _ s k hlt HR.out hv
              unfold varR at hv
              simp only [Bool.or_eq_true] at hv
              rcases hv with h1 | h1 | h1
              · go_wp2_with (first | (go_at_call 21; refine (small_any _ _).mono ?_; rintro e w' ⟨rfl, rfl⟩) | (go_at_call 22; refine (digit_any _ _).mono ?_; rintro e w' ⟨rfl, rfl⟩) | (go_at_call 23; refine (great_any _ _).mono ?_; rintro e w' ⟨rfl, rfl⟩))
                all_goals
                  go_round
                  case rel => exact ⟨k + 1, by omega, by go_num, HT.out⟩
                  case measure => simp [intOf]; omega
              · cases h2 : smallB s[k]
                all_goals
                  go_wp2_with (first | (go_at_call 21; refine (small_any _ _).mono ?_; rintro e w' ⟨rfl, rfl⟩) | (go_at_call 22; refine (digit_any _ _).mono ?_; rintro e w' ⟨rfl, rfl⟩) | (go_at_call 23; refine (great_any _ _).mono ?_; rintro e w' ⟨rfl, rfl⟩))
                  all_goals
                    go_round
                    case rel => exact ⟨k + 1, by omega, by go_num, HT.out⟩
                    case measure => simp [intOf]; omega
              · cases h2 : smallB s[k] <;> cases h3 : greatB s[k]
                all_goals
                  go_wp2_with (first | (go_at_call 21; refine (small_any _ _).mono ?_; rintro e w' ⟨rfl, rfl⟩) | (go_at_call 22; refine (digit_any _ _).mono ?_; rintro e w' ⟨rfl, rfl⟩) | (go_at_call 23; refine (great_any _ _).mono ?_; rintro e w' ⟨rfl, rfl⟩))
                  all_goals
                    go_round
                    case rel => exact ⟨k + 1, by omega, by go_num, HT.out⟩
                    case measure => simp [intOf]; omega
          · have HT : Hid (s.data.toList.all varR = true) := by
              have := HR.out; rwa [List.take_of_length_le (by simp; omega)] at this
            go_wp2
            all_goals go_ret
            all_goals exact ⟨ret_bool (HN.out.trans HT.out).symm, rfl⟩

set_option maxHeartbeats 2000000 in
theorem risName_any (s : ByteArray) (w : World) (hs : s.size ≤ maxLen) : Calls Try.prog 15 #[.string s] w fun e w' => e = .returned (.bool (isNameB s)) ∧ w = w' := by
  unfold maxLen at hs
  by_cases hz : s.size = 0
  · have HN : Hid (isNameB s = false) := gen_zero _ _ s hz
    have h0 : (s.size : Int) < 1 := by omega
    clear hz
    go_enter Try.func15, Try.ntmps15
    go_wp2_with fail
    all_goals go_ret
    all_goals exact ⟨ret_bool HN.out.symm, rfl⟩
  · have h0 : ¬ (s.size : Int) < 1 := by omega
    have hz : 0 < s.size := by omega
    by_cases hl : 12 < s.size
    · have HN : Hid (isNameB s = false) := gen_long _ _ s hl
      have hl' : (12 : Int) < s.size := by omega
      go_enter Try.func15, Try.ntmps15
      go_wp2_with fail
      all_goals go_ret
      all_goals exact ⟨ret_bool HN.out.symm, rfl⟩
    · have hl : (s.size : Int) ≤ 12 := by omega
      have HN : Hid (isNameB s = okL smallB nameR s.data.toList) := gen_ok _ _ s hz (by omega) name_sub
      go_enter Try.func15, Try.ntmps15
      go_wp2_with (first | (go_at_call 24; refine (rsmall_any _ _).mono ?_; rintro e w' ⟨rfl, rfl⟩) | (go_at_call 25; refine (rdigit_any _ _).mono ?_; rintro e w' ⟨rfl, rfl⟩) | (go_at_call 26; refine (rgreat_any _ _).mono ?_; rintro e w' ⟨rfl, rfl⟩))
      go_loop [3] (fun i => ∃ k : Nat, k ≤ s.size ∧ i = .int .i64 k ∧ Hid (okL smallB nameR (s.data.toList.take k) = true)) (fun i => s.size - (intOf i).toNat)
      case atStart => exact ⟨0, Nat.zero_le _, rfl, rfl⟩
      case round =>
        obtain ⟨k, hk, rfl, HR⟩ := hrel
        by_cases hlt : k < s.size
        · by_cases hk0 : k = 0
          · subst hk0
            cases hv : smallB s[0]
            · have HF : Hid (okL smallB nameR s.data.toList = false) := ok_first_false _ _ s hz hv
              go_wp2_with (first | (go_at_call 24; refine (rsmall_any _ _).mono ?_; rintro e w' ⟨rfl, rfl⟩) | (go_at_call 25; refine (rdigit_any _ _).mono ?_; rintro e w' ⟨rfl, rfl⟩) | (go_at_call 26; refine (rgreat_any _ _).mono ?_; rintro e w' ⟨rfl, rfl⟩))
              all_goals go_ret
              all_goals exact ⟨ret_bool (HN.out.trans HF.out).symm, rfl⟩
            · have HT : Hid (okL smallB nameR (s.data.toList.take 1) = true) := ok_first _ _ s hz hv
              go_wp2_with (first | (go_at_call 24; refine (rsmall_any _ _).mono ?_; rintro e w' ⟨rfl, rfl⟩) | (go_at_call 25; refine (rdigit_any _ _).mono ?_; rintro e w' ⟨rfl, rfl⟩) | (go_at_call 26; refine (rgreat_any _ _).mono ?_; rintro e w' ⟨rfl, rfl⟩))
              all_goals
                go_round
                case rel => exact ⟨1, by omega, by go_num, HT.out⟩
                case measure => simp [intOf]; omega
          · have hk1 : ((k : Int) == 0) = false := by rw [beq_eq_false_iff_ne]; omega
            cases hv : nameR s[k]
            · have HF : Hid (okL smallB nameR s.data.toList = false) := ok_next_false _ _ s k (by omega) hlt hv
              cases h1 : smallB s[k] <;> cases h2 : digitB s[k]
              all_goals first | (exfalso; simp [nameR, h1, h2] at hv; done) | skip
              all_goals
                clear hv
                go_wp2_with (first | (go_at_call 24; refine (rsmall_any _ _).mono ?_; rintro e w' ⟨rfl, rfl⟩) | (go_at_call 25; refine (rdigit_any _ _).mono ?_; rintro e w' ⟨rfl, rfl⟩) | (go_at_call 26; refine (rgreat_any _ _).mono ?_; rintro e w' ⟨rfl, rfl⟩))
                all_goals go_ret
                all_goals exact ⟨ret_bool (HN.out.trans HF.out).symm, rfl⟩
            · have HT : Hid (okL smallB nameR (s.data.toList.take (k + 1)) = true) := ok_next _ _ s k (by omega) hlt HR.out hv
              cases h1 : smallB s[k] <;> cases h2 : digitB s[k]
              all_goals first | (exfalso; simp [nameR, h1, h2] at hv; done) | skip
              all_goals
                clear hv
                go_wp2_with (first | (go_at_call 24; refine (rsmall_any _ _).mono ?_; rintro e w' ⟨rfl, rfl⟩) | (go_at_call 25; refine (rdigit_any _ _).mono ?_; rintro e w' ⟨rfl, rfl⟩) | (go_at_call 26; refine (rgreat_any _ _).mono ?_; rintro e w' ⟨rfl, rfl⟩))
                all_goals
                  go_round
                  case rel => exact ⟨k + 1, by omega, by go_num, HT.out⟩
                  case measure => simp [intOf]; omega
        · have HT : Hid (okL smallB nameR s.data.toList = true) := by
            have := HR.out; rwa [List.take_of_length_le (by simp; omega)] at this
          go_wp2
          all_goals go_ret
          all_goals exact ⟨ret_bool (HN.out.trans HT.out).symm, rfl⟩

set_option maxHeartbeats 2000000 in
theorem risVar_any (s : ByteArray) (w : World) (hs : s.size ≤ maxLen) : Calls Try.prog 16 #[.string s] w fun e w' => e = .returned (.bool (isVarB s)) ∧ w = w' := by
  unfold maxLen at hs
  by_cases hz : s.size = 0
  · have HN : Hid (isVarB s = false) := gen_zero _ _ s hz
    have h0 : (s.size : Int) < 1 := by omega
    clear hz
    go_enter Try.func16, Try.ntmps16
    go_wp2_with fail
    all_goals go_ret
    all_goals exact ⟨ret_bool HN.out.symm, rfl⟩
  · have h0 : ¬ (s.size : Int) < 1 := by omega
    have hz : 0 < s.size := by omega
    by_cases hl : 12 < s.size
    · have HN : Hid (isVarB s = false) := gen_long _ _ s hl
      have hl' : (12 : Int) < s.size := by omega
      go_enter Try.func16, Try.ntmps16
      go_wp2_with fail
      all_goals go_ret
      all_goals exact ⟨ret_bool HN.out.symm, rfl⟩
    · have hl : (s.size : Int) ≤ 12 := by omega
      have HN : Hid (isVarB s = okL greatB varR s.data.toList) := gen_ok _ _ s hz (by omega) var_sub
      go_enter Try.func16, Try.ntmps16
      go_wp2_with (first | (go_at_call 24; refine (rsmall_any _ _).mono ?_; rintro e w' ⟨rfl, rfl⟩) | (go_at_call 25; refine (rdigit_any _ _).mono ?_; rintro e w' ⟨rfl, rfl⟩) | (go_at_call 26; refine (rgreat_any _ _).mono ?_; rintro e w' ⟨rfl, rfl⟩))
      go_loop [3] (fun i => ∃ k : Nat, k ≤ s.size ∧ i = .int .i64 k ∧ Hid (okL greatB varR (s.data.toList.take k) = true)) (fun i => s.size - (intOf i).toNat)
      case atStart => exact ⟨0, Nat.zero_le _, rfl, rfl⟩
      case round =>
        obtain ⟨k, hk, rfl, HR⟩ := hrel
        by_cases hlt : k < s.size
        · by_cases hk0 : k = 0
          · subst hk0
            cases hv : greatB s[0]
            · have HF : Hid (okL greatB varR s.data.toList = false) := ok_first_false _ _ s hz hv
              go_wp2_with (first | (go_at_call 24; refine (rsmall_any _ _).mono ?_; rintro e w' ⟨rfl, rfl⟩) | (go_at_call 25; refine (rdigit_any _ _).mono ?_; rintro e w' ⟨rfl, rfl⟩) | (go_at_call 26; refine (rgreat_any _ _).mono ?_; rintro e w' ⟨rfl, rfl⟩))
              all_goals go_ret
              all_goals exact ⟨ret_bool (HN.out.trans HF.out).symm, rfl⟩
            · have HT : Hid (okL greatB varR (s.data.toList.take 1) = true) := ok_first _ _ s hz hv
              go_wp2_with (first | (go_at_call 24; refine (rsmall_any _ _).mono ?_; rintro e w' ⟨rfl, rfl⟩) | (go_at_call 25; refine (rdigit_any _ _).mono ?_; rintro e w' ⟨rfl, rfl⟩) | (go_at_call 26; refine (rgreat_any _ _).mono ?_; rintro e w' ⟨rfl, rfl⟩))
              all_goals
                go_round
                case rel => exact ⟨1, by omega, by go_num, HT.out⟩
                case measure => simp [intOf]; omega
          · have hk1 : ((k : Int) == 0) = false := by rw [beq_eq_false_iff_ne]; omega
            cases hv : varR s[k]
            · have HF : Hid (okL greatB varR s.data.toList = false) := ok_next_false _ _ s k (by omega) hlt hv
              cases h1 : smallB s[k] <;> cases h2 : digitB s[k] <;> cases h3 : greatB s[k]
              all_goals first | (exfalso; simp [varR, h1, h2, h3] at hv; done) | skip
              all_goals
                clear hv
                go_wp2_with (first | (go_at_call 24; refine (rsmall_any _ _).mono ?_; rintro e w' ⟨rfl, rfl⟩) | (go_at_call 25; refine (rdigit_any _ _).mono ?_; rintro e w' ⟨rfl, rfl⟩) | (go_at_call 26; refine (rgreat_any _ _).mono ?_; rintro e w' ⟨rfl, rfl⟩))
                all_goals go_ret
                all_goals exact ⟨ret_bool (HN.out.trans HF.out).symm, rfl⟩
            · have HT : Hid (okL greatB varR (s.data.toList.take (k + 1)) = true) := ok_next _ _ s k (by omega) hlt HR.out hv
              cases h1 : smallB s[k] <;> cases h2 : digitB s[k] <;> cases h3 : greatB s[k]
              all_goals first | (exfalso; simp [varR, h1, h2, h3] at hv; done) | skip
              all_goals
                clear hv
                go_wp2_with (first | (go_at_call 24; refine (rsmall_any _ _).mono ?_; rintro e w' ⟨rfl, rfl⟩) | (go_at_call 25; refine (rdigit_any _ _).mono ?_; rintro e w' ⟨rfl, rfl⟩) | (go_at_call 26; refine (rgreat_any _ _).mono ?_; rintro e w' ⟨rfl, rfl⟩))
                all_goals
                  go_round
                  case rel => exact ⟨k + 1, by omega, by go_num, HT.out⟩
                  case measure => simp [intOf]; omega
        · have HT : Hid (okL greatB varR s.data.toList = true) := by
            have := HR.out; rwa [List.take_of_length_le (by simp; omega)] at this
          go_wp2
          all_goals go_ret
          all_goals exact ⟨ret_bool (HN.out.trans HT.out).symm, rfl⟩

end Go.Proofs.Ytpknnhdpnmkpcaa

/-
  The walks of the tests on names: whatever the string, the answer is the plain function's; nothing is written.
-/
import Derived.Test.YtpknnhdpnmkpcaaRows
import Derived.WalkKit
import Derived.Lib.Hide
namespace Go.Proofs.Ytpknnhdpnmkpcaa
open Go.RowKit

theorem ret_bool {a b : Bool} (h : a = b) : Ending.returned (.bool a) = .returned (.bool b) := by rw [h]

def smallB (c : UInt8) : Bool := decide (97 ≤ (c.toNat : Int)) && decide ((c.toNat : Int) ≤ 122)
def greatB (c : UInt8) : Bool := decide (65 ≤ (c.toNat : Int)) && decide ((c.toNat : Int) ≤ 90)
def digitB (c : UInt8) : Bool := decide (48 ≤ (c.toNat : Int)) && decide ((c.toNat : Int) ≤ 57)
def restN (l : List UInt8) : Bool := l.all fun c => smallB c || digitB c
def isNameL (l : List UInt8) : Bool :=
  match l with
  | [] => false
  | c :: r => decide ((c :: r).length ≤ 12) && smallB c && restN (c :: r)
def isNameB (s : ByteArray) : Bool := isNameL s.data.toList

theorem take_snoc (s : ByteArray) (k : Nat) (h : k < s.size) : s.data.toList.take (k + 1) = s.data.toList.take k ++ [s[k]] := by
  rw [List.take_succ_eq_append_getElem (by simpa using h)]; rfl
theorem restN_snoc (s : ByteArray) (k : Nat) (h : k < s.size) : restN (s.data.toList.take (k + 1)) = (restN (s.data.toList.take k) && (smallB s[k] || digitB s[k])) := by
  rw [take_snoc s k h]; simp [restN]
theorem list_cons (s : ByteArray) (h : 0 < s.size) : ∃ r, s.data.toList = s[0] :: r := by
  have hl : s.data.toList.length = s.size := by simp
  cases e : s.data.toList with
  | nil => rw [e] at hl; simp at hl; omega
  | cons c r =>
    refine ⟨r, ?_⟩
    have : s[0] = s.data.toList[0]'(by simpa using h) := rfl
    rw [this]; simp [e]
theorem isNameB_zero (s : ByteArray) (h : s.size = 0) : isNameB s = false := by
  have hl : s.data.toList.length = 0 := by simpa using h
  unfold isNameB; rw [List.eq_nil_of_length_eq_zero hl]; rfl
theorem isNameB_long (s : ByteArray) (h : 12 < s.size) : isNameB s = false := by
  obtain ⟨r, hr⟩ := list_cons s (by omega)
  have hl : (s[0] :: r).length = s.size := by rw [← hr]; simp
  unfold isNameB; rw [hr]; simp only [isNameL]
  rw [decide_eq_false (by omega)]; rfl
theorem isNameB_first (s : ByteArray) (h : 0 < s.size) (h1 : smallB s[0] = false) : isNameB s = false := by
  obtain ⟨r, hr⟩ := list_cons s h
  unfold isNameB; rw [hr]; simp only [isNameL]; rw [h1]; simp
theorem isNameB_rest (s : ByteArray) (h : 0 < s.size) (h2 : s.size ≤ 12) (h1 : smallB s[0] = true) : isNameB s = restN s.data.toList := by
  obtain ⟨r, hr⟩ := list_cons s h
  have hl : (s[0] :: r).length = s.size := by rw [← hr]; simp
  unfold isNameB; rw [hr]; simp only [isNameL]; rw [h1, decide_eq_true (by omega)]; simp
theorem restN_false (s : ByteArray) (k : Nat) (h : k < s.size) (h1 : smallB s[k] = false) (h2 : digitB s[k] = false) : restN s.data.toList = false := by
  have := restN_snoc s k h
  rw [h1, h2] at this
  rw [← List.take_append_drop (k + 1) s.data.toList]
  unfold restN at *
  rw [List.all_append, this]; simp
theorem restN_true (s : ByteArray) (k : Nat) (h : k < s.size) (h0 : restN (s.data.toList.take k) = true) (h1 : smallB s[k] = true ∨ digitB s[k] = true) : restN (s.data.toList.take (k + 1)) = true := by
  rw [restN_snoc s k h, h0]; rcases h1 with h1 | h1 <;> simp [h1]

theorem small_any (c : UInt8) (w : World) : Calls Try.prog 21 #[.int .u8 c.toNat] w fun e w' => e = .returned (.bool (smallB c)) ∧ w = w' := by
  by_cases h : 97 ≤ (c.toNat : Int)
  · have HN : Hid (smallB c = decide ((c.toNat : Int) ≤ 122)) := by unfold smallB; rw [decide_eq_true h, Bool.true_and]; exact rfl
    go_enter Try.func21, Try.ntmps21
    go_wp2
    all_goals go_ret
    all_goals exact ⟨ret_bool HN.out.symm, rfl⟩
  · have HN : Hid (smallB c = false) := by unfold smallB; rw [decide_eq_false h]; rfl
    go_enter Try.func21, Try.ntmps21
    go_wp2
    all_goals go_ret
    all_goals exact ⟨ret_bool HN.out.symm, rfl⟩
theorem digit_any (c : UInt8) (w : World) : Calls Try.prog 22 #[.int .u8 c.toNat] w fun e w' => e = .returned (.bool (digitB c)) ∧ w = w' := by
  by_cases h : 48 ≤ (c.toNat : Int)
  · have HN : Hid (digitB c = decide ((c.toNat : Int) ≤ 57)) := by unfold digitB; rw [decide_eq_true h, Bool.true_and]; exact rfl
    go_enter Try.func22, Try.ntmps22
    go_wp2
    all_goals go_ret
    all_goals exact ⟨ret_bool HN.out.symm, rfl⟩
  · have HN : Hid (digitB c = false) := by unfold digitB; rw [decide_eq_false h]; rfl
    go_enter Try.func22, Try.ntmps22
    go_wp2
    all_goals go_ret
    all_goals exact ⟨ret_bool HN.out.symm, rfl⟩


theorem isName_any (s : ByteArray) (w : World) (hs : s.size ≤ maxLen) : Calls Try.prog 13 #[.string s] w fun e w' => e = .returned (.bool (isNameB s)) ∧ w = w' := by
  unfold maxLen at hs
  by_cases hz : s.size = 0
  · have HN := Lib.hid (isNameB_zero s hz)
    have h0 : ((s.size : Int) == 0) = true := by simp [hz]
    clear hz
    go_enter Try.func13, Try.ntmps13
    go_wp2_with fail
    all_goals go_ret
    all_goals exact ⟨ret_bool HN.out.symm, rfl⟩
  · have h0 : ((s.size : Int) == 0) = false := by rw [beq_eq_false_iff_ne]; omega
    have hz : 0 < s.size := by omega
    by_cases hl : 12 < s.size
    · have HN := Lib.hid (isNameB_long s hl)
      have hl' : (12 : Int) < s.size := by omega
      go_enter Try.func13, Try.ntmps13
      go_wp2_with fail
      all_goals go_ret
      all_goals exact ⟨ret_bool HN.out.symm, rfl⟩
    · have hl : (s.size : Int) ≤ 12 := by omega
      cases h1 : smallB s[0]
      · have HN := Lib.hid (isNameB_first s hz h1)
        go_enter Try.func13, Try.ntmps13
        go_wp2_with (first | (go_at_call 21; refine (small_any _ _).mono ?_; rintro e w' ⟨rfl, rfl⟩))
        all_goals go_ret
        all_goals exact ⟨ret_bool HN.out.symm, rfl⟩
      · have HN := Lib.hid (isNameB_rest s hz (by omega) h1)
        go_enter Try.func13, Try.ntmps13
        go_wp2_with (first | (go_at_call 21; refine (small_any _ _).mono ?_; rintro e w' ⟨rfl, rfl⟩))
        clear h1
        go_loop [20] (fun i => ∃ k : Nat, k ≤ s.size ∧ i = .int .i64 k ∧ Hid (restN (s.data.toList.take k) = true)) (fun i => s.size - (intOf i).toNat)
        case atStart => exact ⟨0, Nat.zero_le _, rfl, rfl⟩
        case round =>
          obtain ⟨k, hk, rfl, HR⟩ := hrel
          by_cases hlt : k < s.size
          · cases h1 : smallB s[k]
            · cases h2 : digitB s[k]
              · have HF := Lib.hid (restN_false s k hlt h1 h2)
                go_wp2_with (first | (go_at_call 21; refine (small_any _ _).mono ?_; rintro e w' ⟨rfl, rfl⟩) | (go_at_call 22; refine (digit_any _ _).mono ?_; rintro e w' ⟨rfl, rfl⟩))
                all_goals go_ret
                all_goals exact ⟨ret_bool (HN.out.trans HF.out).symm, rfl⟩
              · have HT := Lib.hid (restN_true s k hlt HR.out (.inr h2))
                go_wp2_with (first | (go_at_call 21; refine (small_any _ _).mono ?_; rintro e w' ⟨rfl, rfl⟩) | (go_at_call 22; refine (digit_any _ _).mono ?_; rintro e w' ⟨rfl, rfl⟩))
                all_goals
                  go_round
                  case rel => exact ⟨k + 1, by omega, by go_num, HT.out⟩
                  case measure => simp [intOf]; omega
            · have HT := Lib.hid (restN_true s k hlt HR.out (.inl h1))
              go_wp2_with (first | (go_at_call 21; refine (small_any _ _).mono ?_; rintro e w' ⟨rfl, rfl⟩) | (go_at_call 22; refine (digit_any _ _).mono ?_; rintro e w' ⟨rfl, rfl⟩))
              all_goals
                go_round
                case rel => exact ⟨k + 1, by omega, by go_num, HT.out⟩
                case measure => simp [intOf]; omega
          · have HT : Hid (restN s.data.toList = true) := by
              have := HR.out; rwa [List.take_of_length_le (by simp; omega)] at this
            go_wp2
            all_goals go_ret
            all_goals exact ⟨ret_bool (HN.out.trans HT.out).symm, rfl⟩

end Go.Proofs.Ytpknnhdpnmkpcaa

/-
  What the scanner computes, in plain Lean: over a list of bytes.
-/
import Derived.Test.YtoncebnbdjpclaaStr
namespace Go.Proofs.Ytoncebnbdjpclaa
open Go.RowKit

def smallN (n : Nat) : Bool := decide (97 ≤ n ∧ n ≤ 122)
def greatN (n : Nat) : Bool := decide (65 ≤ n ∧ n ≤ 90)
def digitN (n : Nat) : Bool := decide (48 ≤ n ∧ n ≤ 57)
def blankN (n : Nat) : Bool := decide (n = 9 ∨ n = 10 ∨ n = 13 ∨ n = 32)
def markN (n : Nat) : Nat := if n = 40 then 4 else if n = 41 then 5 else if n = 44 then 6 else if n = 59 then 7 else if n = 47 then 9 else if n = 46 then 10 else if n = 58 then 11 else if n = 42 then 12 else 0
def kindAt : List UInt8 → Nat
  | [] => 0
  | b :: r => if smallN b.toNat = true then 1 else if greatN b.toNat = true then 2 else if digitN b.toNat = true then 3 else if b.toNat = 45 ∧ r.head? = some 62 then 8 else markN b.toNat
def goesN (kind n : Nat) : Bool := (kind = 2 && greatN n) || ((kind = 1 || kind = 2) && smallN n) || ((kind = 1 || kind = 2 || kind = 3) && digitN n)
def lenAt (kind : Nat) (l : List UInt8) : Nat := if kind = 8 then 2 else 1 + (l.tail.takeWhile fun b => goesN kind b.toNat).length
def wrongN (kind n first : Nat) : Nat := if kind = 1 ∨ kind = 2 then (if 12 < n then 32 else 0) else if kind = 3 then (if 9 < n ∨ (1 < n ∧ first = 48) then 33 else 0) else 0

set_option maxHeartbeats 2000000 in
set_option maxRecDepth 1000000 in
theorem containsRune_blank (c : Int) (h0 : 0 ≤ c) (h1 : c ≤ 2147483647) (w : World) :
    Calls Try.prog 14 #[.string ⟨#[9, 10, 13, 32]⟩, .int .i32 c] w fun e w' => e = .returned (.bool (decide (c < 128) && blankN c.toNat)) ∧ Same w w' := by
  by_cases hc : c < 128
  · have hk : decide (0 ≤ Lib.indexByte [9, 10, 13, 32] c.toNat.toUInt8) = blankN c.toNat := by
      have : ∀ n : Fin 128, decide (0 ≤ Lib.indexByte [9, 10, 13, 32] n.val.toUInt8) = blankN n.val := by decide
      exact this ⟨c.toNat, by omega⟩
    obtain ⟨k, hkk⟩ : ∃ k, k = Lib.indexByte [9, 10, 13, 32] c.toNat.toUInt8 := ⟨_, rfl⟩
    rw [← hkk] at hk
    have HK := Lib.hid hk
    have HKK := Lib.hid hkk
    clear hk hkk
    go_enter Try.func14, Try.ntmps14
    go_wp2_with fail
    refine (indexRune_ascii _ _ _ h0 hc).mono ?_
    rintro e w1 ⟨rfl, hw⟩
    rw [hw]
    have e1 : Lib.indexByte (ByteArray.mk #[9, 10, 13, 32]).data.toList c.toNat.toUInt8 = k := HKK.out.symm
    rw [e1]
    go_wp2_with fail
    go_ret
    exact ⟨ret_bool (by simp only [hc, decide_true, Bool.true_and]; exact HK.out), Turned.refl _ _⟩
  · go_enter Try.func14, Try.ntmps14
    go_wp2_with fail
    refine (indexRune_high _ _ _ (by omega) h1 (by decide) (by decide) (by decide)).mono ?_
    rintro e w1 ⟨rfl, hs⟩
    go_wp2_with fail
    go_ret
    exact ⟨ret_bool (by rw [decide_eq_false (by omega : ¬ c < 128)]; rfl), hs⟩

set_option maxHeartbeats 2000000 in
set_option maxRecDepth 1000000 in
theorem goes_any (kind : Nat) (hk : kind ≤ 13) (c : Int) (h0 : 0 ≤ c) (w : World) :
    Calls Try.prog 24 #[.int .i64 kind, .int .i32 c] w fun e w' => e = .returned (.bool (goesN kind c.toNat)) ∧ w = w' := by
  have hkI : (kind : Int) ≤ 13 := by omega
  have e97 : decide (97 ≤ c.toNat ∧ c.toNat ≤ 122) = decide (97 ≤ c ∧ c ≤ 122) := by rw [decide_eq_decide]; omega
  have e65 : decide (65 ≤ c.toNat ∧ c.toNat ≤ 90) = decide (65 ≤ c ∧ c ≤ 90) := by rw [decide_eq_decide]; omega
  have e48 : decide (48 ≤ c.toNat ∧ c.toNat ≤ 57) = decide (48 ≤ c ∧ c ≤ 57) := by rw [decide_eq_decide]; omega
  have E : goesN kind c.toNat = ((kind = 2 && decide (65 ≤ c ∧ c ≤ 90)) || ((kind = 1 || kind = 2) && decide (97 ≤ c ∧ c ≤ 122)) || ((kind = 1 || kind = 2 || kind = 3) && decide (48 ≤ c ∧ c ≤ 57))) := by
    unfold goesN smallN greatN digitN; rw [e97, e65, e48]
  rw [E]
  clear E e97 e65 e48
  rcases (by omega : kind = 1 ∨ kind = 2 ∨ kind = 3 ∨ (kind ≠ 1 ∧ kind ≠ 2 ∧ kind ≠ 3)) with rfl | rfl | rfl | ⟨n1, n2, n3⟩
  · go_enter Try.func24, Try.ntmps24
    go_wp2
    all_goals
      go_ret
      refine ⟨ret_bool ?_, rfl⟩
      first | (simp; done) | (rw [Bool.eq_iff_iff]; simp; omega)
  · go_enter Try.func24, Try.ntmps24
    go_wp2
    all_goals
      go_ret
      refine ⟨ret_bool ?_, rfl⟩
      first | (simp; done) | (rw [Bool.eq_iff_iff]; simp; omega)
  · go_enter Try.func24, Try.ntmps24
    go_wp2
    all_goals
      go_ret
      refine ⟨ret_bool ?_, rfl⟩
      first | (simp; done) | (rw [Bool.eq_iff_iff]; simp; omega)
  · have m1 : ¬ (kind : Int) = 1 := by omega
    have m2 : ¬ (kind : Int) = 2 := by omega
    have m3 : ¬ (kind : Int) = 3 := by omega
    go_enter Try.func24, Try.ntmps24
    go_wp2
    all_goals
      go_ret
      refine ⟨ret_bool ?_, rfl⟩
      first | (simp [n1, n2, n3]; done) | (rw [Bool.eq_iff_iff]; simp; omega)

set_option maxHeartbeats 2000000 in
theorem wrong_any (kind : Nat) (hk : kind ≤ 13) (s : ByteArray) (b : UInt8) (r : List UInt8) (hs : s.data.toList = b :: r) (w : World) :
    Calls Try.prog 17 #[.int .i64 kind, .string s] w fun e w' => e = .returned (.int .i64 (wrongN kind s.size b.toNat)) ∧ w = w' := by
  have hsz : s.size = r.length + 1 := by rw [Lib.size_eq, hs]; rfl
  have h0 : 0 < s.size := by omega
  have hb : s[0]'h0 = b := by
    have h1 : s.data.toList[0]? = some b := by rw [hs]; rfl
    have h2 : s.data.toList[0]? = some (s[0]'h0) := by
      rw [List.getElem?_eq_getElem (by rw [hs]; simp)]; rfl
    rw [h2] at h1; exact Option.some.inj h1
  have h0I : (0 : Int) < s.size := by omega
  obtain ⟨n, hn⟩ : ∃ n, n = wrongN kind s.size b.toNat := ⟨_, rfl⟩
  rw [← hn]
  have HN := Lib.hid hn
  clear hn
  rcases (by omega : kind = 1 ∨ kind = 2 ∨ kind = 3 ∨ (kind ≠ 1 ∧ kind ≠ 2 ∧ kind ≠ 3)) with rfl | rfl | rfl | ⟨n1, n2, n3⟩
  · clear hsz
    go_enter Try.func17, Try.ntmps17
    go_wp2
    all_goals
      go_ret
      have e := HN.out
      simp only [wrongN, true_or, if_true] at e
      first | rw [if_pos (by omega)] at e | rw [if_neg (by omega)] at e
      subst e
      exact ⟨rfl, rfl⟩
  · clear hsz
    go_enter Try.func17, Try.ntmps17
    go_wp2
    all_goals
      go_ret
      have e := HN.out
      simp only [wrongN, or_true, if_true] at e
      first | rw [if_pos (by omega)] at e | rw [if_neg (by omega)] at e
      subst e
      exact ⟨rfl, rfl⟩
  · have e := HN.out
    unfold wrongN at e
    rw [if_neg (by decide), if_pos rfl] at e
    clear hsz
    by_cases c1 : (9 : Int) < s.size
    · rw [if_pos (by omega)] at e
      subst e
      go_enter Try.func17, Try.ntmps17
      go_wp2
      all_goals
        go_ret
        exact ⟨rfl, rfl⟩
    · by_cases c3 : (1 : Int) < s.size
      · by_cases c2 : b.toNat = 48
        · rw [if_pos (by omega)] at e
          subst e
          go_enter Try.func17, Try.ntmps17
          go_wp2
          all_goals
            go_ret
            exact ⟨rfl, rfl⟩
        · rw [if_neg (by omega)] at e
          subst e
          have c2' : ¬ (b.toNat : Int) = 48 := by omega
          go_enter Try.func17, Try.ntmps17
          go_wp2
          all_goals
            go_ret
            exact ⟨rfl, rfl⟩
      · rw [if_neg (by omega)] at e
        subst e
        go_enter Try.func17, Try.ntmps17
        go_wp2
        all_goals
          go_ret
          exact ⟨rfl, rfl⟩
  · have m1 : ¬ (kind : Int) = 1 := by omega
    have m2 : ¬ (kind : Int) = 2 := by omega
    have m3 : ¬ (kind : Int) = 3 := by omega
    have e := HN.out
    unfold wrongN at e
    rw [if_neg (by omega), if_neg (by omega)] at e
    subst e
    clear hsz
    go_enter Try.func17, Try.ntmps17
    go_wp2
    all_goals
      go_ret
      exact ⟨rfl, rfl⟩

theorem indexByte_marks (c : Int) (h0 : 0 ≤ c) (h1 : c < 128) : ∃ k : Int, Lib.indexByte [40, 41, 44, 59, 47, 46, 58, 42] c.toNat.toUInt8 = k ∧ ((k = -1 ∧ markN c.toNat = 0) ∨ (k = 0 ∧ c.toNat = 40 ∧ markN c.toNat = 4) ∨ (k = 1 ∧ c.toNat = 41 ∧ markN c.toNat = 5) ∨ (k = 2 ∧ c.toNat = 44 ∧ markN c.toNat = 6) ∨ (k = 3 ∧ c.toNat = 59 ∧ markN c.toNat = 7) ∨ (k = 4 ∧ c.toNat = 47 ∧ markN c.toNat = 9) ∨ (k = 5 ∧ c.toNat = 46 ∧ markN c.toNat = 10) ∨ (k = 6 ∧ c.toNat = 58 ∧ markN c.toNat = 11) ∨ (k = 7 ∧ c.toNat = 42 ∧ markN c.toNat = 12)) := by
  have : ∀ n : Fin 128, (fun k : Int => (k = -1 ∧ markN n.val = 0) ∨ (k = 0 ∧ n.val = 40 ∧ markN n.val = 4) ∨ (k = 1 ∧ n.val = 41 ∧ markN n.val = 5) ∨ (k = 2 ∧ n.val = 44 ∧ markN n.val = 6) ∨ (k = 3 ∧ n.val = 59 ∧ markN n.val = 7) ∨ (k = 4 ∧ n.val = 47 ∧ markN n.val = 9) ∨ (k = 5 ∧ n.val = 46 ∧ markN n.val = 10) ∨ (k = 6 ∧ n.val = 58 ∧ markN n.val = 11) ∨ (k = 7 ∧ n.val = 42 ∧ markN n.val = 12)) (Lib.indexByte [40, 41, 44, 59, 47, 46, 58, 42] n.val.toUInt8) := by decide +kernel
  exact ⟨_, rfl, this ⟨c.toNat, by omega⟩⟩

set_option maxHeartbeats 1000000 in
theorem kinds_any (w : World) : Calls Try.prog 23 #[] w fun e w' => e = .returned (.agg #[.int .i64 4, .int .i64 5, .int .i64 6, .int .i64 7, .int .i64 9, .int .i64 10, .int .i64 11, .int .i64 12]) ∧ Same w w' := by
  go_enter Try.func23, Try.ntmps23
  go_wp2
  refine bodyPost_ret (v := .agg #[.int .i64 4, .int .i64 5, .int .i64 6, .int .i64 7, .int .i64 9, .int .i64 10, .int .i64 11, .int .i64 12]) ?_ rfl ⟨rfl, ?_⟩
  · simp [results, Try.results23, go_sem]
  · exact (Turned.refl _ _).alloc _

theorem kinds_ix0 (W : World) : (Instr.index 53 (.agg #[.int .i64 4, .int .i64 5, .int .i64 6, .int .i64 7, .int .i64 9, .int .i64 10, .int .i64 11, .int .i64 12]) (.int .i64 0)).run Try.prog W = .ok (.int .i64 4) W := by
  simp [Instr.index, run_underlying Try.underlying53, asIntOf, go_sem]
theorem kinds_ix1 (W : World) : (Instr.index 53 (.agg #[.int .i64 4, .int .i64 5, .int .i64 6, .int .i64 7, .int .i64 9, .int .i64 10, .int .i64 11, .int .i64 12]) (.int .i64 1)).run Try.prog W = .ok (.int .i64 5) W := by
  simp [Instr.index, run_underlying Try.underlying53, asIntOf, go_sem]
theorem kinds_ix2 (W : World) : (Instr.index 53 (.agg #[.int .i64 4, .int .i64 5, .int .i64 6, .int .i64 7, .int .i64 9, .int .i64 10, .int .i64 11, .int .i64 12]) (.int .i64 2)).run Try.prog W = .ok (.int .i64 6) W := by
  simp [Instr.index, run_underlying Try.underlying53, asIntOf, go_sem]
theorem kinds_ix3 (W : World) : (Instr.index 53 (.agg #[.int .i64 4, .int .i64 5, .int .i64 6, .int .i64 7, .int .i64 9, .int .i64 10, .int .i64 11, .int .i64 12]) (.int .i64 3)).run Try.prog W = .ok (.int .i64 7) W := by
  simp [Instr.index, run_underlying Try.underlying53, asIntOf, go_sem]
theorem kinds_ix4 (W : World) : (Instr.index 53 (.agg #[.int .i64 4, .int .i64 5, .int .i64 6, .int .i64 7, .int .i64 9, .int .i64 10, .int .i64 11, .int .i64 12]) (.int .i64 4)).run Try.prog W = .ok (.int .i64 9) W := by
  simp [Instr.index, run_underlying Try.underlying53, asIntOf, go_sem]
theorem kinds_ix5 (W : World) : (Instr.index 53 (.agg #[.int .i64 4, .int .i64 5, .int .i64 6, .int .i64 7, .int .i64 9, .int .i64 10, .int .i64 11, .int .i64 12]) (.int .i64 5)).run Try.prog W = .ok (.int .i64 10) W := by
  simp [Instr.index, run_underlying Try.underlying53, asIntOf, go_sem]
theorem kinds_ix6 (W : World) : (Instr.index 53 (.agg #[.int .i64 4, .int .i64 5, .int .i64 6, .int .i64 7, .int .i64 9, .int .i64 10, .int .i64 11, .int .i64 12]) (.int .i64 6)).run Try.prog W = .ok (.int .i64 11) W := by
  simp [Instr.index, run_underlying Try.underlying53, asIntOf, go_sem]
theorem kinds_ix7 (W : World) : (Instr.index 53 (.agg #[.int .i64 4, .int .i64 5, .int .i64 6, .int .i64 7, .int .i64 9, .int .i64 10, .int .i64 11, .int .i64 12]) (.int .i64 7)).run Try.prog W = .ok (.int .i64 12) W := by
  simp [Instr.index, run_underlying Try.underlying53, asIntOf, go_sem]

set_option maxHeartbeats 4000000 in
set_option maxRecDepth 1000000 in
theorem begins_any (s : ByteArray) (b : UInt8) (r : List UInt8) (hs : s.data.toList = b :: r) (c : Int) (hc : (b.toNat < 128 ∧ c = b.toNat) ∨ (128 ≤ b.toNat ∧ 128 ≤ c)) (h1 : c ≤ 2147483647) (w : World) :
    Calls Try.prog 15 #[.int .i32 c, .string s] w fun e w' => e = .returned (.int .i64 (kindAt (b :: r))) ∧ Same w w' := by
  obtain ⟨n, hn⟩ : ∃ n, n = kindAt (b :: r) := ⟨_, rfl⟩
  rw [← hn]
  by_cases q1 : smallN b.toNat = true
  · have hh : (b.toNat < 128 ∧ c = b.toNat) ∧ 97 ≤ b.toNat ∧ b.toNat ≤ 122 := by simp [smallN] at q1; omega
    have : n = 1 := by rw [hn]; simp [kindAt, q1]
    subst this
    have g1 : 97 ≤ c := by omega
    have g2 : c ≤ 122 := by omega
    clear hs hc hn
    go_enter Try.func15, Try.ntmps15
    go_wp2
    go_ret
    exact ⟨rfl, Turned.refl _ _⟩
  · by_cases q2 : greatN b.toNat = true
    · have hh : (b.toNat < 128 ∧ c = b.toNat) ∧ 65 ≤ b.toNat ∧ b.toNat ≤ 90 := by simp [greatN] at q2; omega
      have : n = 2 := by rw [hn]; simp [kindAt, q1, q2]
      subst this
      have g1 : 65 ≤ c := by omega
      have g2 : c ≤ 90 := by omega
      clear hs hc hn
      go_enter Try.func15, Try.ntmps15
      go_wp2
      all_goals
        go_ret
        exact ⟨rfl, Turned.refl _ _⟩
    · by_cases q3 : digitN b.toNat = true
      · have hh : (b.toNat < 128 ∧ c = b.toNat) ∧ 48 ≤ b.toNat ∧ b.toNat ≤ 57 := by simp [digitN] at q3; omega
        have : n = 3 := by rw [hn]; simp [kindAt, q1, q2, q3]
        subst this
        have g1 : 48 ≤ c := by omega
        have g2 : c ≤ 57 := by omega
        clear hs hc hn
        go_enter Try.func15, Try.ntmps15
        go_wp2
        all_goals
          go_ret
          exact ⟨rfl, Turned.refl _ _⟩
      · have hp : Lib.hasPrefix s.data.toList [45, 62] = decide (b.toNat = 45 ∧ r.head? = some 62) := by
          rw [hs]
          have e1 : (b.toNat = 45) ↔ (45 == b) = true := by
            rw [beq_iff_eq]
            exact ⟨fun h => (UInt8.toNat_inj.1 h).symm, fun h => by rw [← h]; rfl⟩
          cases r with
          | nil =>
            show ((45 == b) && false) = _
            simp
          | cons x y =>
            show ((45 == b) && ((62 == x) && true)) = _
            rw [Bool.eq_iff_iff, decide_eq_true_eq, e1]
            rw [Bool.and_true, Bool.and_eq_true, List.head?_cons]
            constructor
            · rintro ⟨h1, h2⟩; exact ⟨h1, by rw [← eq_of_beq h2]⟩
            · rintro ⟨h1, h2⟩; exact ⟨h1, by rw [Option.some.inj h2]; rfl⟩
        obtain ⟨q, hq⟩ : ∃ q, q = Lib.hasPrefix s.data.toList [45, 62] := ⟨_, rfl⟩
        rw [← hq] at hp
        have HQ := Lib.hid hq
        have g1 : ¬ (97 ≤ c ∧ c ≤ 122) := by simp [smallN] at q1; omega
        have g2 : ¬ (65 ≤ c ∧ c ≤ 90) := by simp [greatN] at q2; omega
        have g3 : ¬ (48 ≤ c ∧ c ≤ 57) := by simp [digitN] at q3; omega
        have hk : n = if b.toNat = 45 ∧ r.head? = some 62 then 8 else markN b.toNat := by rw [hn]; simp only [kindAt, if_neg q1, if_neg q2, if_neg q3]
        clear hq hn q1 q2 q3
        cases hqq : q
        · rw [hqq] at hp
          rw [if_neg (by simpa using hp.symm)] at hk
          have e2 : Lib.hasPrefix s.data.toList (ByteArray.mk #[45, 62]).data.toList = false := by rw [← hqq]; exact HQ.out.symm
          clear hp hs
          by_cases hc8 : c < 128
          · have hcb : c.toNat = b.toNat := by omega
            obtain ⟨k, hk1, hk2⟩ := indexByte_marks c (by omega) hc8
            rw [hcb, ← hk] at hk2
            have hk1' : Lib.indexByte (ByteArray.mk #[40, 41, 44, 59, 47, 46, 58, 42]).data.toList c.toNat.toUInt8 = k := hk1
            clear hk1 hk
            have HK := Lib.hid hk2
            clear hk2
            rcases HK.out with ⟨rfl, rfl⟩ | ⟨rfl, hcc, rfl⟩ | ⟨rfl, hcc, rfl⟩ | ⟨rfl, hcc, rfl⟩ | ⟨rfl, hcc, rfl⟩ | ⟨rfl, hcc, rfl⟩ | ⟨rfl, hcc, rfl⟩ | ⟨rfl, hcc, rfl⟩ | ⟨rfl, hcc, rfl⟩
            · go_enter Try.func15, Try.ntmps15
              go_wp2_with fail
              all_goals
                refine (hasPrefix_any s ⟨#[45, 62]⟩ _).mono ?_
                rintro e w1 ⟨rfl, hw⟩
                rw [hw, e2]
                go_wp2_with fail
                refine (indexRune_ascii _ _ _ (by omega) (by omega)).mono ?_
                rintro e w2 ⟨rfl, hw⟩
                rw [hw, hk1']
                go_wp2
                go_ret
                exact ⟨rfl, Turned.refl _ _⟩
            all_goals
              have hci : c = ((b.toNat : Nat) : Int) := by omega
              rw [hcc] at hci
              simp only [Int.cast_ofNat_Int] at hci
              subst hci
              clear hcc hcb HK g1 g2 g3 hc
              go_enter Try.func15, Try.ntmps15
              go_wp2_with fail
              refine (hasPrefix_any s ⟨#[45, 62]⟩ _).mono ?_
              rintro e w1 ⟨rfl, hw⟩
              rw [hw, e2]
              go_wp2_with fail
              refine (indexRune_ascii _ _ _ (by omega) (by omega)).mono ?_
              rintro e w2 ⟨rfl, hw⟩
              rw [hw, hk1']
              go_wp2_with fail
              refine (kinds_any _).mono ?_
              rintro e w3 ⟨rfl, hs3⟩
              have x0 := kinds_ix0 w3; have x1 := kinds_ix1 w3; have x2 := kinds_ix2 w3; have x3 := kinds_ix3 w3; have x4 := kinds_ix4 w3; have x5 := kinds_ix5 w3; have x6 := kinds_ix6 w3; have x7 := kinds_ix7 w3
              go_wp2_with fail
              go_ret
              exact ⟨rfl, hs3⟩
          · have hb8 : 128 ≤ b.toNat := by omega
            have hk0 : n = 0 := by
              rw [hk]; unfold markN
              rw [if_neg (by omega), if_neg (by omega), if_neg (by omega), if_neg (by omega), if_neg (by omega), if_neg (by omega), if_neg (by omega), if_neg (by omega)]
            subst hk0
            clear hk
            go_enter Try.func15, Try.ntmps15
            go_wp2_with fail
            all_goals
              refine (hasPrefix_any s ⟨#[45, 62]⟩ _).mono ?_
              rintro e w1 ⟨rfl, hw⟩
              rw [hw, e2]
              go_wp2_with fail
              refine (indexRune_high _ _ _ (by omega) h1 (by decide) (by decide) (by decide)).mono ?_
              rintro e w2 ⟨rfl, hs⟩
              go_wp2
              go_ret
              exact ⟨rfl, hs⟩
        · rw [hqq] at hp
          rw [if_pos (by simpa using hp.symm)] at hk
          subst hk
          have e2 : Lib.hasPrefix s.data.toList (ByteArray.mk #[45, 62]).data.toList = true := by rw [← hqq]; exact HQ.out.symm
          clear hp hs hc
          go_enter Try.func15, Try.ntmps15
          go_wp2_with fail
          all_goals
            refine (hasPrefix_any s ⟨#[45, 62]⟩ _).mono ?_
            rintro e w1 ⟨rfl, hw⟩
            rw [hw, e2]
            go_wp2_with fail
            go_ret
            exact ⟨rfl, Turned.refl _ _⟩
end Go.Proofs.Ytoncebnbdjpclaa

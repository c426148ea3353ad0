/-
  Two texts with a line feed between, in plain Lean.
-/
import Derived.Test.YtoncebnbdjpclaaScan
namespace Go.Proofs.Ytoncebnbdjpclaa

def joinR (R M : List Tok × Option (Nat × Nat)) : List Tok × Option (Nat × Nat) :=
  match R.2 with
  | some e => (R.1, some e)
  | none => (R.1 ++ M.1, M.2)
theorem joinR_cons (t : Tok) (R M : List Tok × Option (Nat × Nat)) : joinR (t :: R.1, R.2) M = (t :: (joinR R M).1, (joinR R M).2) := by
  unfold joinR
  cases R.2 <;> rfl
theorem takeWhile_stop {α : Type} (f : α → Bool) (x : α) (m : List α) (h : f x = false) : ∀ r : List α, (r ++ x :: m).takeWhile f = r.takeWhile f
  | [] => by simp [h]
  | y :: r => by
    by_cases hy : f y = true
    · simp only [List.cons_append, List.takeWhile_cons, hy, if_true]; rw [takeWhile_stop f x m h r]
    · simp [hy]
theorem kindAt_join (b : UInt8) (r m : List UInt8) : kindAt (b :: (r ++ 10 :: m)) = kindAt (b :: r) := by
  rw [kindAt_cons, kindAt_cons]
  have h : ((r ++ 10 :: m).head? = some 62) ↔ (r.head? = some 62) := by
    cases r with
    | nil => simp
    | cons x y => simp
  simp only [h]
theorem lenAt_join (K : Nat) (b : UInt8) (r m : List UInt8) : lenAt K (b :: (r ++ 10 :: m)) = lenAt K (b :: r) := by
  unfold lenAt
  simp only [List.tail_cons]
  have h10 : goesN K (10 : UInt8).toNat = false := by
    show goesN K 10 = false
    have h1 : smallN 10 = false := by decide
    have h2 : greatN 10 = false := by decide
    have h3 : digitN 10 = false := by decide
    simp [goesN, h1, h2, h3]
  rw [takeWhile_stop (fun x : UInt8 => goesN K x.toNat) 10 m h10 r]
theorem scan_join (m : List UInt8) : ∀ (l : List UInt8) (off : Nat) (c : Bool) (k : Nat), k ≤ l.length → scanL off c k (l ++ 10 :: m) = joinR (scanL off c k l) (scanL (off + l.length + 1) false 0 m)
  | [], off, c, k, hk => by
    obtain rfl : k = 0 := by simpa using hk
    have e : scanL off c 0 ((10 : UInt8) :: m) = scanL (off + 1) false 0 m := by
      cases c
      · simp only [scanL, Nat.lt_irrefl, if_false, Bool.false_eq_true]
        rw [if_neg (by decide), if_pos (by decide)]
      · simp only [scanL, Nat.lt_irrefl, if_false, if_true]
        rfl
    rw [List.nil_append, e]
    rfl
  | b :: r, off, c, k, hk => by
    have ih := fun off c k h => scan_join m r off c k h
    rw [List.cons_append]
    have hoff : off + (b :: r).length + 1 = off + 1 + r.length + 1 := by simp only [List.length_cons]; omega
    rw [hoff]
    generalize hM : scanL (off + 1 + r.length + 1) false 0 m = M at *
    by_cases h0 : 0 < k
    · have e1 : scanL off c k (b :: (r ++ 10 :: m)) = scanL (off + 1) c (k - 1) (r ++ 10 :: m) := by simp only [scanL]; rw [if_pos h0]
      have e2 : scanL off c k (b :: r) = scanL (off + 1) c (k - 1) r := by simp only [scanL]; rw [if_pos h0]
      rw [e1, e2, ih _ _ _ (by simp at hk; omega), hM]
    · obtain rfl : k = 0 := by omega
      cases c
      · by_cases h37 : b.toNat = 37
        · have e1 : scanL off false 0 (b :: (r ++ 10 :: m)) = scanL (off + 1) true 0 (r ++ 10 :: m) := by simp only [scanL, Nat.lt_irrefl, if_false, Bool.false_eq_true]; rw [if_pos h37]
          have e2 : scanL off false 0 (b :: r) = scanL (off + 1) true 0 r := by simp only [scanL, Nat.lt_irrefl, if_false, Bool.false_eq_true]; rw [if_pos h37]
          rw [e1, e2, ih _ _ _ (Nat.zero_le _), hM]
        · by_cases hb : blankN b.toNat = true
          · have e1 : scanL off false 0 (b :: (r ++ 10 :: m)) = scanL (off + 1) false 0 (r ++ 10 :: m) := by simp only [scanL, Nat.lt_irrefl, if_false, Bool.false_eq_true]; rw [if_neg h37, if_pos hb]
            have e2 : scanL off false 0 (b :: r) = scanL (off + 1) false 0 r := by simp only [scanL, Nat.lt_irrefl, if_false, Bool.false_eq_true]; rw [if_neg h37, if_pos hb]
            rw [e1, e2, ih _ _ _ (Nat.zero_le _), hM]
          · have hk1 := kindAt_join b r m
            have hl1 := lenAt_join (kindAt (b :: r)) b r m
            by_cases hK : kindAt (b :: r) = 0
            · have e1 : scanL off false 0 (b :: (r ++ 10 :: m)) = ([], some (31, off)) := by simp only [scanL, Nat.lt_irrefl, if_false, Bool.false_eq_true]; rw [if_neg h37, if_neg hb, hk1, if_pos hK]
              have e2 : scanL off false 0 (b :: r) = ([], some (31, off)) := by simp only [scanL, Nat.lt_irrefl, if_false, Bool.false_eq_true]; rw [if_neg h37, if_neg hb, if_pos hK]
              rw [e1, e2]; rfl
            · by_cases hw : wrongN (kindAt (b :: r)) (lenAt (kindAt (b :: r)) (b :: r)) b.toNat ≠ 0
              · have e1 : scanL off false 0 (b :: (r ++ 10 :: m)) = ([], some (wrongN (kindAt (b :: r)) (lenAt (kindAt (b :: r)) (b :: r)) b.toNat, off)) := by simp only [scanL, Nat.lt_irrefl, if_false, Bool.false_eq_true]; rw [if_neg h37, if_neg hb, hk1, if_neg hK, hl1, if_pos hw]
                have e2 : scanL off false 0 (b :: r) = ([], some (wrongN (kindAt (b :: r)) (lenAt (kindAt (b :: r)) (b :: r)) b.toNat, off)) := by simp only [scanL, Nat.lt_irrefl, if_false, Bool.false_eq_true]; rw [if_neg h37, if_neg hb, if_neg hK, if_pos hw]
                rw [e1, e2]; rfl
              · obtain ⟨l1, l2, _⟩ := lenAt_in hK
                have ht : (b :: (r ++ 10 :: m)).take (lenAt (kindAt (b :: r)) (b :: r)) = (b :: r).take (lenAt (kindAt (b :: r)) (b :: r)) := by
                  rw [← List.cons_append, List.take_append_of_le_length (by simp only [List.length_cons]; exact l2)]
                have e1 : scanL off false 0 (b :: (r ++ 10 :: m)) = (⟨kindAt (b :: r), off, ⟨((b :: r).take (lenAt (kindAt (b :: r)) (b :: r))).toArray⟩⟩ :: (scanL (off + 1) false (lenAt (kindAt (b :: r)) (b :: r) - 1) (r ++ 10 :: m)).1, (scanL (off + 1) false (lenAt (kindAt (b :: r)) (b :: r) - 1) (r ++ 10 :: m)).2) := by
                  simp only [scanL, Nat.lt_irrefl, if_false, Bool.false_eq_true]; rw [if_neg h37, if_neg hb, hk1, if_neg hK, hl1, if_neg hw, ht]
                have e2 : scanL off false 0 (b :: r) = (⟨kindAt (b :: r), off, ⟨((b :: r).take (lenAt (kindAt (b :: r)) (b :: r))).toArray⟩⟩ :: (scanL (off + 1) false (lenAt (kindAt (b :: r)) (b :: r) - 1) r).1, (scanL (off + 1) false (lenAt (kindAt (b :: r)) (b :: r) - 1) r).2) := by
                  simp only [scanL, Nat.lt_irrefl, if_false, Bool.false_eq_true]; rw [if_neg h37, if_neg hb, if_neg hK, if_neg hw]
                rw [e1, e2, ih _ _ _ (by omega), hM, joinR_cons]
      · have e1 : scanL off true 0 (b :: (r ++ 10 :: m)) = scanL (off + 1) (b != 10) 0 (r ++ 10 :: m) := by simp only [scanL, Nat.lt_irrefl, if_false, if_true]
        have e2 : scanL off true 0 (b :: r) = scanL (off + 1) (b != 10) 0 r := by simp only [scanL, Nat.lt_irrefl, if_false, if_true]
        rw [e1, e2, ih _ _ _ (Nat.zero_le _), hM]
def shiftT (d : Nat) (t : Tok) : Tok := ⟨t.kind, t.place + d, t.text⟩
def shiftR (d : Nat) (R : List Tok × Option (Nat × Nat)) : List Tok × Option (Nat × Nat) := (R.1.map (shiftT d), R.2.map fun e => (e.1, e.2 + d))
theorem scan_shift (d : Nat) : ∀ (l : List UInt8) (off : Nat) (c : Bool) (k : Nat), scanL (off + d) c k l = shiftR d (scanL off c k l)
  | [], off, c, k => rfl
  | b :: r, off, c, k => by
    have ih := fun c k => scan_shift d r (off + 1) c k
    have ho : off + d + 1 = off + 1 + d := by omega
    simp only [scanL, ho, ih]
    repeat' split
    all_goals rfl
/-- What the scanner says of two texts with a line feed between. -/
theorem scanAll_join (a b : List UInt8) (ha : a.length ≤ 20000) (hb : b.length ≤ 20000) (hab : a.length + 1 + b.length ≤ 20000) :
    (∃ e, (scanAll a).2 = some e ∧ (scanAll (a ++ 10 :: b)).2 = some e) ∨
    ((scanAll a).2 = none ∧ ∃ e, (scanAll b).2 = some e ∧ (scanAll (a ++ 10 :: b)).2 = some (e.1, e.2 + (a.length + 1))) ∨
    ((scanAll a).2 = none ∧ (scanAll b).2 = none ∧ (scanAll (a ++ 10 :: b)).2 = none ∧ ∃ A t, (scanAll a).1 = A ++ [t] ∧ (scanAll (a ++ 10 :: b)).1 = A ++ (scanAll b).1.map (shiftT (a.length + 1))) := by
  have hz : (a ++ 10 :: b).length = a.length + 1 + b.length := by simp; omega
  have hj := scan_join b a 0 false 0 (Nat.zero_le _)
  rw [show 0 + a.length + 1 = 0 + (a.length + 1) from by omega, scan_shift] at hj
  have eA : scanAll a = match (scanL 0 false 0 a).2 with | some e => ([], some e) | none => ((scanL 0 false 0 a).1 ++ [⟨13, a.length, ⟨#[]⟩⟩], none) := by unfold scanAll; rw [if_neg (by omega)]; rfl
  have eB : scanAll b = match (scanL 0 false 0 b).2 with | some e => ([], some e) | none => ((scanL 0 false 0 b).1 ++ [⟨13, b.length, ⟨#[]⟩⟩], none) := by unfold scanAll; rw [if_neg (by omega)]; rfl
  have eZ : scanAll (a ++ 10 :: b) = match (scanL 0 false 0 (a ++ 10 :: b)).2 with | some e => ([], some e) | none => ((scanL 0 false 0 (a ++ 10 :: b)).1 ++ [⟨13, (a ++ 10 :: b).length, ⟨#[]⟩⟩], none) := by unfold scanAll; rw [if_neg (by omega)]; rfl
  rw [hj, hz] at eZ
  generalize scanL 0 false 0 a = RA at *
  generalize scanL 0 false 0 b = RB at *
  obtain ⟨A1, A2⟩ := RA
  obtain ⟨B1, B2⟩ := RB
  cases A2 with
  | some e =>
    refine .inl ⟨e, by rw [eA], ?_⟩
    rw [eZ]; rfl
  | none =>
    cases B2 with
    | some e => exact .inr (.inl ⟨by rw [eA], e, by rw [eB], by rw [eZ]; rfl⟩)
    | none =>
      refine .inr (.inr ⟨by rw [eA], by rw [eB], by rw [eZ]; rfl, A1, ⟨13, a.length, ⟨#[]⟩⟩, by rw [eA], ?_⟩)
      rw [eZ, eB]
      simp only [joinR, shiftR, List.map_append, List.map_cons, List.map_nil, shiftT, Option.map_none, List.append_assoc]
      rw [show a.length + 1 + b.length = b.length + (a.length + 1) from by omega]
end Go.Proofs.Ytoncebnbdjpclaa

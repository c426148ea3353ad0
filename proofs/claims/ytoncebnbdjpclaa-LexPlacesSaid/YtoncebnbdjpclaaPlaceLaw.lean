/-
  Where tokens stand, and what a text of tokens with blanks between says, in plain Lean.
-/
import Derived.Test.YtoncebnbdjpclaaJoinLaw
namespace Go.Proofs.Ytoncebnbdjpclaa

/-- Does a piece of a text say nothing? If so: whether it ends within a comment. -/
def silS (c : Bool) : List UInt8 → Option Bool
  | [] => some c
  | b :: r => if (!(if b.toNat = 37 then true else if b.toNat = 10 then false else c)) && !(blankN b.toNat) then none else silS (if b.toNat = 37 then true else if b.toNat = 10 then false else c) r
theorem silS_snoc (b : UInt8) : ∀ (l : List UInt8) (c c1 : Bool), silS c l = some c1 → silS c (l ++ [b]) = if (!(if b.toNat = 37 then true else if b.toNat = 10 then false else c1)) && !(blankN b.toNat) then none else some (if b.toNat = 37 then true else if b.toNat = 10 then false else c1)
  | [], c, c1, h => by
    obtain rfl : c = c1 := Option.some.inj h
    rfl
  | x :: r, c, c1, h => by
    rw [List.cons_append]
    have e : ∀ l, silS c (x :: l) = if ((!(if x.toNat = 37 then true else if x.toNat = 10 then false else c)) && !(blankN x.toNat)) = true then none else silS (if x.toNat = 37 then true else if x.toNat = 10 then false else c) l := fun l => rfl
    rw [e] at h ⊢
    by_cases hx : ((!(if x.toNat = 37 then true else if x.toNat = 10 then false else c)) && !(blankN x.toNat)) = true
    · rw [if_pos hx] at h; cases h
    · rw [if_neg hx] at h ⊢
      exact silS_snoc b r _ c1 h
theorem takeWhile_all {α : Type} (f : α → Bool) : ∀ l : List α, (∀ x ∈ l, f x = true) → l.takeWhile f = l
  | [], _ => rfl
  | x :: r, h => by
    rw [List.takeWhile_cons, if_pos (h x (by simp)), takeWhile_all f r (fun y hy => h y (by simp [hy]))]
theorem scan_over (y : List UInt8) (c : Bool) : ∀ (x : List UInt8) (off : Nat), scanL off c x.length (x ++ y) = scanL (off + x.length) c 0 y
  | [], off => rfl
  | b :: r, off => by
    have e : scanL off c (b :: r).length ((b :: r) ++ y) = scanL (off + 1) c r.length (r ++ y) := by
      rw [List.cons_append]
      simp only [scanL, List.length_cons]
      rw [if_pos (by omega)]
      rfl
    rw [e, scan_over y c r (off + 1)]
    congr 1
    simp only [List.length_cons]; omega

/-- Tokens of a text, one behind the other, and nothing said between. -/
def Chain (l : List UInt8) (p : Nat) : List Tok → Prop
  | [] => p ≤ l.length ∧ ∃ c, silS false (l.drop p) = some c
  | t :: T => p ≤ t.place ∧ 1 ≤ t.text.size ∧ t.place + t.text.size ≤ l.length ∧ t.text = ⟨((l.drop t.place).take t.text.size).toArray⟩ ∧ (∃ c, silS false ((l.drop p).take (t.place - p)) = some c) ∧ Chain l (t.place + t.text.size) T
/-- A token that is one. -/
def Good (t : Tok) : Prop := ∃ b r, t.kind = kindAt (b :: r) ∧ kindAt (b :: r) ≠ 0 ∧ wrongN (kindAt (b :: r)) (lenAt (kindAt (b :: r)) (b :: r)) b.toNat = 0 ∧ t.text.data.toList = (b :: r).take (lenAt (kindAt (b :: r)) (b :: r))

theorem scan_chain (l : List UInt8) : ∀ (d p q : Nat) (c : Bool) (T : List Tok), l.length - p = d → p ≤ l.length → q ≤ p → silS false ((l.drop q).take (p - q)) = some c → scanL p c 0 (l.drop p) = (T, none) → Chain l q T ∧ ∀ t ∈ T, Good t := by
  intro d
  induction d using Nat.strongRecOn with
  | ind d ih =>
    intro p q c T hd hp hq hs hT
    by_cases hlt : p < l.length
    · have hdrop : l.drop p = l[p] :: l.drop (p + 1) := List.drop_eq_getElem_cons hlt
      obtain ⟨b, hb⟩ : ∃ b, b = l[p] := ⟨_, rfl⟩
      rw [← hb] at hdrop
      have hext : (l.drop q).take (p + 1 - q) = (l.drop q).take (p - q) ++ [b] := by
        rw [show p + 1 - q = (p - q) + 1 from by omega, List.take_succ_eq_append_getElem (by rw [List.length_drop]; omega)]
        rw [List.getElem_drop, hb]
        congr 2
        simp only [show q + (p - q) = p from by omega]
      have hsn := silS_snoc b _ _ _ hs
      rw [← hext] at hsn
      rw [hdrop] at hT
      cases c
      · by_cases h37 : b.toNat = 37
        · simp only [scanL, Nat.lt_irrefl, if_false, Bool.false_eq_true] at hT
          rw [if_pos h37] at hT
          simp only [h37, if_true] at hsn
          exact ih _ (by omega) (p + 1) q true T rfl (by omega) (by omega) hsn hT
        · by_cases hbl : blankN b.toNat = true
          · simp only [scanL, Nat.lt_irrefl, if_false, Bool.false_eq_true] at hT
            rw [if_neg h37, if_pos hbl] at hT
            rw [hbl] at hsn
            have e : (if b.toNat = 37 then true else if b.toNat = 10 then false else false) = false := by rw [if_neg h37]; split <;> rfl
            rw [e] at hsn
            exact ih _ (by omega) (p + 1) q false T rfl (by omega) (by omega) hsn hT
          · simp only [scanL, Nat.lt_irrefl, if_false, Bool.false_eq_true] at hT
            rw [if_neg h37, if_neg hbl] at hT
            by_cases hK : kindAt (b :: l.drop (p + 1)) = 0
            · rw [if_pos hK] at hT; cases hT
            · rw [if_neg hK] at hT
              obtain ⟨n1, n2, _⟩ := lenAt_in hK
              by_cases hw : wrongN (kindAt (b :: l.drop (p + 1))) (lenAt (kindAt (b :: l.drop (p + 1))) (b :: l.drop (p + 1))) b.toNat ≠ 0
              · rw [if_pos hw] at hT; cases hT
              · rw [if_neg hw] at hT
                have hw0 : wrongN (kindAt (b :: l.drop (p + 1))) (lenAt (kindAt (b :: l.drop (p + 1))) (b :: l.drop (p + 1))) b.toNat = 0 := by omega
                obtain ⟨K, hKe⟩ : ∃ K, K = kindAt (b :: l.drop (p + 1)) := ⟨_, rfl⟩
                obtain ⟨n, hn⟩ : ∃ n, n = lenAt K (b :: l.drop (p + 1)) := ⟨_, rfl⟩
                rw [← hKe, ← hn] at hT n1 n2
                have hdl : (l.drop (p + 1)).length = l.length - (p + 1) := List.length_drop
                have hsk := scan_skip l false (n - 1) (p + 1) 0 (by omega)
                simp only [Nat.add_zero] at hsk
                rw [show p + 1 + (n - 1) = p + n from by omega] at hsk
                rw [hsk] at hT
                cases T with
                | nil => exact absurd (congrArg Prod.fst hT) (by simp)
                | cons t T' =>
                  have h1 := congrArg Prod.fst hT
                  have h2 := congrArg Prod.snd hT
                  simp only [List.cons.injEq] at h1 h2
                  obtain ⟨ht, hT'⟩ := h1
                  have htl : ((b :: l.drop (p + 1)).take n).length = n := by rw [List.length_take, List.length_cons]; omega
                  have hts : t.text.size = n := by
                    rw [← ht]
                    show ((b :: l.drop (p + 1)).take n).toArray.size = n
                    simpa using htl
                  have htp : t.place = p := by rw [← ht]
                  have hih := ih _ (by omega) (p + n) (p + n) false T' rfl (by omega) (Nat.le_refl _) (by rw [Nat.sub_self, List.take_zero]; rfl) (Prod.ext hT' h2)
                  refine ⟨⟨by omega, by omega, by omega, ?_, ⟨false, by rw [htp]; exact hs⟩, by rw [htp, hts]; exact hih.1⟩, ?_⟩
                  · rw [hts, htp, hdrop, ← ht]
                  · intro t2 ht2
                    rcases List.mem_cons.1 ht2 with rfl | h
                    · refine ⟨b, l.drop (p + 1), by rw [← ht]; exact hKe, hK, hw0, ?_⟩
                      rw [← hKe, ← hn, ← ht]
                    · exact hih.2 t2 h
      · simp only [scanL, Nat.lt_irrefl, if_false, if_true] at hT
        by_cases h10 : b.toNat = 10
        · have e1 : (b != 10) = false := by
            have : b = 10 := UInt8.toNat_inj.1 (show b.toNat = (10 : UInt8).toNat from h10)
            simp [this]
          rw [e1] at hT
          simp only [h10] at hsn
          exact ih _ (by omega) (p + 1) q false T rfl (by omega) (by omega) hsn hT
        · have e1 : (b != 10) = true := by
            have : b ≠ 10 := fun h => h10 (by rw [h]; rfl)
            simpa using this
          rw [e1] at hT
          have e : (if b.toNat = 37 then true else if b.toNat = 10 then false else true) = true := by rw [if_neg h10]; split <;> rfl
          rw [e] at hsn
          exact ih _ (by omega) (p + 1) q true T rfl (by omega) (by omega) hsn hT
    · have hpe : p = l.length := by omega
      rw [List.drop_of_length_le (by omega)] at hT
      obtain rfl : T = [] := (congrArg Prod.fst hT).symm
      refine ⟨⟨by omega, c, ?_⟩, fun t h => by cases h⟩
      rw [← hs, List.take_of_length_le (by rw [List.length_drop]; omega)]

theorem kindAt_good {b : UInt8} {r : List UInt8} (h : kindAt (b :: r) ≠ 0) (m : List UInt8) : ∃ r', (b :: r).take (lenAt (kindAt (b :: r)) (b :: r)) = b :: r' ∧ kindAt (b :: (r' ++ 32 :: m)) = kindAt (b :: r) ∧ lenAt (kindAt (b :: r)) (b :: (r' ++ 32 :: m)) = lenAt (kindAt (b :: r)) (b :: r) := by
  obtain ⟨n1, n2, _⟩ := lenAt_in h
  refine ⟨r.take (lenAt (kindAt (b :: r)) (b :: r) - 1), ?_, ?_, ?_⟩
  · obtain ⟨n, hn⟩ : ∃ n, lenAt (kindAt (b :: r)) (b :: r) = n + 1 := ⟨_, (Nat.succ_pred_eq_of_pos n1).symm⟩
    rw [hn]; rfl
  · by_cases h45 : b.toNat = 45
    · have hk : kindAt (b :: r) = if r.head? = some 62 then 8 else 0 := by
        rw [kindAt_cons, h45]
        rw [if_neg (by decide), if_neg (by decide), if_neg (by decide)]
        by_cases h62 : r.head? = some 62
        · rw [if_pos ⟨rfl, h62⟩, if_pos h62]
        · rw [if_neg (fun hh => h62 hh.2), if_neg h62]; rfl
      by_cases h62 : r.head? = some 62
      · rw [if_pos h62] at hk
        have hl : lenAt (kindAt (b :: r)) (b :: r) = 2 := by rw [hk]; rfl
        rw [hl, hk]
        cases r with
        | nil => cases h62
        | cons x y =>
          obtain rfl : x = 62 := by simpa using h62
          rw [kindAt_cons, h45, if_neg (by decide), if_neg (by decide), if_neg (by decide), if_pos ⟨rfl, rfl⟩]
      · rw [if_neg h62] at hk; exact absurd hk h
    · rw [kindAt_cons, kindAt_cons]
      have e1 : ∀ x : List UInt8, ¬ (b.toNat = 45 ∧ x.head? = some 62) := fun x hh => h45 hh.1
      simp only [e1, if_false]
  · by_cases h8 : kindAt (b :: r) = 8
    · rw [h8]; rfl
    · unfold lenAt
      rw [if_neg h8, if_neg h8]
      simp only [List.tail_cons]
      have h32 : goesN (kindAt (b :: r)) (32 : UInt8).toNat = false := by
        show goesN _ 32 = false
        have h1 : smallN 32 = false := by decide
        have h2 : greatN 32 = false := by decide
        have h3 : digitN 32 = false := by decide
        simp [goesN, h1, h2, h3]
      rw [takeWhile_stop (fun x : UInt8 => goesN (kindAt (b :: r)) x.toNat) 32 m h32]
      congr 2
      have hT : 1 + (r.takeWhile fun x => goesN (kindAt (b :: r)) x.toNat).length - 1 = (r.takeWhile fun x => goesN (kindAt (b :: r)) x.toNat).length := by omega
      rw [hT]
      have hpre : r.take (r.takeWhile fun x => goesN (kindAt (b :: r)) x.toNat).length = r.takeWhile fun x => goesN (kindAt (b :: r)) x.toNat := by
        have := List.takeWhile_prefix (fun x : UInt8 => goesN (kindAt (b :: r)) x.toNat) (l := r)
        exact (List.prefix_iff_eq_take.1 this).symm
      rw [hpre]
      have hall : ∀ x ∈ (r.takeWhile fun x => goesN (kindAt (b :: r)) x.toNat), goesN (kindAt (b :: r)) x.toNat = true := fun x hx => List.all_eq_true.1 List.all_takeWhile x hx
      exact takeWhile_all _ _ hall

/-- The tokens' texts, a blank behind each. -/
def apartL (T : List Tok) : List UInt8 := T.flatMap fun t => t.text.data.toList ++ [32]
def alike (t u : Tok) : Prop := t.kind = u.kind ∧ t.text = u.text
theorem scan_apart (m : List UInt8) : ∀ (T : List Tok) (off : Nat), (∀ t ∈ T, Good t) → ∃ T', scanL off false 0 (apartL T ++ m) = (T' ++ (scanL (off + (apartL T).length) false 0 m).1, (scanL (off + (apartL T).length) false 0 m).2) ∧ T'.length = T.length ∧ ∀ i (h : i < T.length) (h' : i < T'.length), alike T'[i] T[i]
  | [], off, _ => ⟨[], rfl, rfl, fun i h => by simp at h⟩
  | t :: T, off, hg => by
    obtain ⟨b, r, hk, hK, hw, htx⟩ := hg t (by simp)
    have hap : apartL (t :: T) ++ m = t.text.data.toList ++ 32 :: (apartL T ++ m) := by simp [apartL]
    obtain ⟨r', h1, h2, h3⟩ := kindAt_good hK (apartL T ++ m)
    obtain ⟨n1, n2, _⟩ := lenAt_in hK
    rw [hap, htx, h1, List.cons_append]
    obtain ⟨T', e1, e2, e3⟩ := scan_apart m T (off + lenAt (kindAt (b :: r)) (b :: r) + 1) (fun t h => hg t (by simp [h]))
    have hr' : r'.length + 1 = lenAt (kindAt (b :: r)) (b :: r) := by
      have := congrArg List.length h1
      rw [List.length_take, List.length_cons, List.length_cons] at this
      omega
    have h37 : ¬ b.toNat = 37 := by
      intro h
      apply hK
      rw [kindAt_cons, h, if_neg (by decide), if_neg (by decide), if_neg (by decide), if_neg (by rintro ⟨h, _⟩; cases h)]; rfl
    have hbl : ¬ blankN b.toNat = true := by
      intro h
      apply hK
      have hh : b.toNat = 9 ∨ b.toNat = 10 ∨ b.toNat = 13 ∨ b.toNat = 32 := by simpa [blankN] using h
      rw [kindAt_cons]
      rcases hh with h | h | h | h <;> rw [h, if_neg (by decide), if_neg (by decide), if_neg (by decide), if_neg (by rintro ⟨h, _⟩; cases h)] <;> rfl
    have e0 : scanL off false 0 (b :: (r' ++ 32 :: (apartL T ++ m))) = (⟨kindAt (b :: r), off, ⟨((b :: (r' ++ 32 :: (apartL T ++ m))).take (lenAt (kindAt (b :: r)) (b :: r))).toArray⟩⟩ :: (scanL (off + 1) false (lenAt (kindAt (b :: r)) (b :: r) - 1) (r' ++ 32 :: (apartL T ++ m))).1, (scanL (off + 1) false (lenAt (kindAt (b :: r)) (b :: r) - 1) (r' ++ 32 :: (apartL T ++ m))).2) := by
      simp only [scanL, Nat.lt_irrefl, if_false, Bool.false_eq_true]
      rw [if_neg h37, if_neg hbl, h2, if_neg hK, h3, if_neg (by omega)]
    have hn : lenAt (kindAt (b :: r)) (b :: r) - 1 = r'.length := by omega
    have ho := scan_over (32 :: (apartL T ++ m)) false r' (off + 1)
    have h32 : scanL (off + 1 + r'.length) false 0 (32 :: (apartL T ++ m)) = scanL (off + 1 + r'.length + 1) false 0 (apartL T ++ m) := by
      simp only [scanL, Nat.lt_irrefl, if_false, Bool.false_eq_true]
      rw [if_neg (by decide), if_pos (by decide)]
    rw [hn, ho, h32, show off + 1 + r'.length + 1 = off + lenAt (kindAt (b :: r)) (b :: r) + 1 from by omega, e1] at e0
    have hlen : off + lenAt (kindAt (b :: r)) (b :: r) + 1 + (apartL T).length = off + (apartL (t :: T)).length := by
      have : (apartL (t :: T)).length = t.text.data.toList.length + 1 + (apartL T).length := by simp [apartL]; omega
      rw [this, htx, h1, List.length_cons]; omega
    rw [hlen] at e0
    refine ⟨⟨kindAt (b :: r), off, ⟨((b :: (r' ++ 32 :: (apartL T ++ m))).take (lenAt (kindAt (b :: r)) (b :: r))).toArray⟩⟩ :: T', e0, by simp [e2], fun i h h' => ?_⟩
    cases i with
    | zero =>
      refine ⟨hk.symm, ?_⟩
      show (⟨((b :: (r' ++ 32 :: (apartL T ++ m))).take (lenAt (kindAt (b :: r)) (b :: r))).toArray⟩ : ByteArray) = t.text
      apply ByteArray.ext
      apply Array.toList_inj.1
      show ((b :: (r' ++ 32 :: (apartL T ++ m))).take (lenAt (kindAt (b :: r)) (b :: r))) = t.text.data.toList
      rw [htx, h1, ← hr', List.take_succ_cons, List.take_left]
    | succ i => exact e3 i (by simpa using h) (by simpa using h')
end Go.Proofs.Ytoncebnbdjpclaa

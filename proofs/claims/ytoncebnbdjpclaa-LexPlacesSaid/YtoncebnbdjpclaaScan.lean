/-
  What Scan gives, and the walk of lex.Scan.
-/
import Derived.Test.YtoncebnbdjpclaaLen
import Derived.Test.YtoncebnbdjpclaaApp
namespace Go.Proofs.Ytoncebnbdjpclaa
open Go.RowKit

theorem info40 : (Try.prog.info? 40).map (fun i => (i.zero, i.size, i.bytes)) = some (some (.agg #[.int .i64 0, .int .i64 0, .string ⟨#[]⟩]), 3, 32) := by kernel_rfl
structure Tok where
  kind : Nat
  place : Nat
  text : ByteArray
def scanL (off : Nat) (c : Bool) (k : Nat) : List UInt8 → List Tok × Option (Nat × Nat)
  | [] => ([], none)
  | b :: r =>
    if 0 < k then scanL (off + 1) c (k - 1) r
    else if c = true then scanL (off + 1) (b != 10) 0 r
    else if b.toNat = 37 then scanL (off + 1) true 0 r
    else if blankN b.toNat = true then scanL (off + 1) false 0 r
    else if kindAt (b :: r) = 0 then ([], some (31, off))
    else if wrongN (kindAt (b :: r)) (lenAt (kindAt (b :: r)) (b :: r)) b.toNat ≠ 0 then ([], some (wrongN (kindAt (b :: r)) (lenAt (kindAt (b :: r)) (b :: r)) b.toNat, off))
    else (⟨kindAt (b :: r), off, ⟨((b :: r).take (lenAt (kindAt (b :: r)) (b :: r))).toArray⟩⟩ :: (scanL (off + 1) false (lenAt (kindAt (b :: r)) (b :: r) - 1) r).1, (scanL (off + 1) false (lenAt (kindAt (b :: r)) (b :: r) - 1) r).2)
def scanAll (l : List UInt8) : List Tok × Option (Nat × Nat) :=
  if 20000 < l.length then ([], some (30, 0))
  else match (scanL 0 false 0 l).2 with
    | some e => ([], some e)
    | none => ((scanL 0 false 0 l).1 ++ [⟨13, l.length, ⟨#[]⟩⟩], none)

def tcells (t : Tok) : List Value := [.int .i64 t.kind, .int .i64 t.place, .string t.text]
def tall (T : List Tok) : List Value := T.flatMap tcells
theorem tall_snoc (T : List Tok) (t : Tok) : tall (T ++ [t]) = tall T ++ tcells t := by simp [tall]
theorem tall_length (T : List Tok) : (tall T).length = T.length * 3 := by
  induction T with
  | nil => rfl
  | cons x r ih => simp only [tall, List.flatMap_cons, List.length_append, List.length_cons] at *; rw [ih]; simp [tcells]; omega
def ErrAt (w : World) (ev : Value) : Option (Nat × Nat) → Prop
  | none => ev = .nilIface
  | some x => ∃ g, ev = .iface 30 (.pointer (some ⟨g, 0, none⟩)) ∧ Blk w g 35 #[.int .i64 x.1, .int .i64 x.2, .nilIface]

theorem kindAt_cons (b : UInt8) (r : List UInt8) : kindAt (b :: r) = if smallN b.toNat = true then 1 else if greatN b.toNat = true then 2 else if digitN b.toNat = true then 3 else if b.toNat = 45 ∧ r.head? = some 62 then 8 else markN b.toNat := rfl
theorem markN_pos (n : Nat) : (markN n = 0 ∨ n < 128) ∧ markN n ≤ 13 ∧ markN n ≠ 8 := by
  unfold markN
  repeat' split
  all_goals omega
theorem kindAt_pos {b : UInt8} {r : List UInt8} (h : kindAt (b :: r) ≠ 0) : b.toNat < 128 ∧ kindAt (b :: r) ≤ 13 ∧ (kindAt (b :: r) = 8 → r.head? = some 62) := by
  rw [kindAt_cons] at *
  have hm := markN_pos b.toNat
  by_cases h1 : smallN b.toNat = true
  · simp only [if_pos h1]
    simp [smallN] at h1; omega
  · simp only [if_neg h1] at *
    by_cases h2 : greatN b.toNat = true
    · simp only [if_pos h2]
      simp [greatN] at h2; omega
    · simp only [if_neg h2] at *
      by_cases h3 : digitN b.toNat = true
      · simp only [if_pos h3]
        simp [digitN] at h3; omega
      · simp only [if_neg h3] at *
        by_cases h4 : b.toNat = 45 ∧ r.head? = some 62
        · simp only [if_pos h4]
          exact ⟨by omega, by omega, fun _ => h4.2⟩
        · simp only [if_neg h4] at *
          refine ⟨by omega, by omega, fun h => absurd h hm.2.2⟩
theorem takeWhile_at {α : Type} (f : α → Bool) : ∀ (r : List α) (j : Nat) (h : j < r.length), j < (r.takeWhile f).length → f r[j] = true
  | x :: r, j, h, hj => by
    by_cases hx : f x = true
    · simp [hx] at hj
      cases j with
      | zero => exact hx
      | succ j => exact takeWhile_at f r j (by simpa using h) (by omega)
    · simp [hx] at hj
/-- A token's bytes lie in the text, and none is a part of a greater rune. -/
theorem lenAt_in {b : UInt8} {r : List UInt8} (h : kindAt (b :: r) ≠ 0) : 1 ≤ lenAt (kindAt (b :: r)) (b :: r) ∧ lenAt (kindAt (b :: r)) (b :: r) ≤ r.length + 1 ∧ ∀ j (hj : j < (b :: r).length), j < lenAt (kindAt (b :: r)) (b :: r) → ((b :: r)[j]).toNat < 128 := by
  obtain ⟨hb, _, hk8⟩ := kindAt_pos h
  by_cases h8 : kindAt (b :: r) = 8
  · have hr := hk8 h8
    rw [h8]
    cases r with
    | nil => simp at hr
    | cons x y =>
      obtain rfl : x = 62 := by simpa using hr
      refine ⟨by simp [lenAt], by simp [lenAt], fun j hj hjl => ?_⟩
      rcases (by simp [lenAt] at hjl; omega : j = 0 ∨ j = 1) with rfl | rfl
      · exact hb
      · show (62 : UInt8).toNat < 128; decide
  · have hl : lenAt (kindAt (b :: r)) (b :: r) = (r.takeWhile fun x => goesN (kindAt (b :: r)) x.toNat).length + 1 := by
      simp only [lenAt, if_neg h8, List.tail_cons]; omega
    have hle : (r.takeWhile fun x => goesN (kindAt (b :: r)) x.toNat).length ≤ r.length := (List.takeWhile_sublist _).length_le
    rw [hl]
    refine ⟨by omega, by omega, fun j hj hjl => ?_⟩
    cases j with
    | zero => exact hb
    | succ j =>
      have h1 := takeWhile_at (fun x : UInt8 => goesN (kindAt (b :: r)) x.toNat) r j (by simpa using hj) (by omega)
      show (r[j]).toNat < 128
      by_cases hc : (r[j]'(by simpa using hj)).toNat < 128
      · exact hc
      · have h2 := goes_high (kindAt (b :: r)) (r[j]'(by simpa using hj)).toNat (by omega)
        rw [h2] at h1; cases h1

/-- Over bytes of a greater rune, within a comment. -/
theorem scan_comment (l : List UInt8) : ∀ (n p : Nat), (∀ j (hj : j < l.length), p ≤ j → j < p + n → l[j] ≠ 10) → p + n ≤ l.length → scanL p true 0 (l.drop p) = scanL (p + n) true 0 (l.drop (p + n))
  | 0, p, _, _ => rfl
  | n + 1, p, h, hl => by
    have hp : p < l.length := by omega
    rw [List.drop_eq_getElem_cons hp]
    simp only [scanL, Nat.lt_irrefl, if_false, if_true]
    have hb : (l[p] != 10) = true := by simpa using h p hp (Nat.le_refl _) (by omega)
    rw [hb, scan_comment l n (p + 1) (fun j hj h1 h2 => h j hj (by omega) (by omega)) (by omega)]
    rw [show p + 1 + n = p + (n + 1) from by omega]
theorem scan_skip (l : List UInt8) (c : Bool) : ∀ (n p k : Nat), p + n ≤ l.length → scanL p c (n + k) (l.drop p) = scanL (p + n) c k (l.drop (p + n))
  | 0, p, k, _ => by simp
  | n + 1, p, k, hl => by
    have hp : p < l.length := by omega
    rw [List.drop_eq_getElem_cons hp]
    have : scanL p c (n + 1 + k) (l[p] :: l.drop (p + 1)) = scanL (p + 1) c (n + k) (l.drop (p + 1)) := by
      simp only [scanL]
      rw [if_pos (by omega), show n + 1 + k - 1 = n + k from by omega]
    rw [this, scan_skip l c n (p + 1) k (by omega), show p + 1 + n = p + (n + 1) from by omega]
theorem extract_take (s : ByteArray) (l : List UInt8) (hs : s.data.toList = l) (p n : Nat) : s.extract p (p + n) = ⟨((l.drop p).take n).toArray⟩ := by
  subst hs
  apply ByteArray.ext
  apply Array.toList_inj.1
  rw [ByteArray.data_extract, Array.toList_extract]
  simp [List.take_drop]
theorem extract_drop (s : ByteArray) (l : List UInt8) (hs : s.data.toList = l) (p : Nat) : (s.extract p s.size).data.toList = l.drop p := by
  subst hs
  rw [ByteArray.data_extract, Array.toList_extract, List.extract]
  rw [List.take_of_length_le (by rw [List.length_drop, ← Lib.size_eq]; omega)]
theorem own_iter {w : World} {N : Nat} {s : ByteArray} {p q : Nat} {base : Nat} {e : TypeId} {size n : Nat} {v : Value} {xs : List Value} (h : w.ownsRow base e size v n xs) (hi : w.heap[N]? = some (.stringIter s p)) : (w.iterAt N s q).ownsRow base e size v n xs := by
  refine ⟨h.1, ?_⟩
  rcases h.2 with h0 | ⟨g, cap, cur, rfl, hb, hg, rest⟩
  · exact .inl h0
  · refine .inr ⟨g, cap, cur, rfl, hb, ?_, rest⟩
    rw [Lib.iterAt_other w N g s q (by rintro rfl; rw [hi] at hg; cases hg)]
    exact hg

/-- Where the scanner stands. -/
structure SInv (w wr : World) (s : ByteArray) (l : List UInt8) (pos nx : Nat) (cm : Bool) (o : Value) (m : Nat) (acc : List Tok) : Prop where
  it : wr.heap[w.heap.size]? = some (.stringIter s pos)
  same : Same w wr
  own : wr.ownsRow 0 40 3 o acc.length (tall acc)
  new : ∀ k, o.ownBlock = some k → w.heap.size ≤ k
  eq : scanL 0 false 0 l = (acc ++ (scanL pos cm (nx - pos) (l.drop pos)).1, (scanL pos cm (nx - pos) (l.drop pos)).2)
  asc : ∀ j (h : j < l.length), pos ≤ j → j < nx → (l[j]).toNat < 128
  le : acc.length ≤ pos
  len : m = acc.length
theorem SInv.next {w wr : World} {s : ByteArray} {l : List UInt8} {pos nx : Nat} {cm : Bool} {o : Value} {m : Nat} {acc : List Tok} (h : SInv w wr s l pos nx cm o m acc) (wd nx' : Nat) (cm' : Bool)
    (he : scanL pos cm (nx - pos) (l.drop pos) = scanL (pos + wd) cm' (nx' - (pos + wd)) (l.drop (pos + wd))) (ha : nx' = nx ∨ nx' ≤ pos + wd) : SInv w (wr.iterAt w.heap.size s (pos + wd)) s l (pos + wd) nx' cm' o m acc :=
  ⟨Lib.iterAt_heap wr _ s pos _ h.it, iter_turned s _ h.same (Nat.le_refl _), own_iter h.own h.it, h.new, by rw [h.eq, he], fun j hj h1 h2 => by
    rcases ha with rfl | ha
    · exact h.asc j hj (by omega) h2
    · omega, by have := h.le; omega, h.len⟩

theorem SInv.later {w wr w' : World} {s : ByteArray} {l : List UInt8} {pos nx : Nat} {cm : Bool} {o : Value} {m : Nat} {acc : List Tok} (h : SInv w wr s l pos nx cm o m acc) (ht : Same wr w') : SInv w w' s l pos nx cm o m acc :=
  ⟨(ht.block _ (Array.getElem?_eq_some_iff.1 h.it).1 (fun h => h)).trans h.it, h.same.trans ht (fun _ h => h.elim), World.ownsRow.turned h.own ht (fun _ _ h => h), h.new, h.eq, h.asc, h.le, h.len⟩
theorem SInv.iterPos {w wr : World} {s : ByteArray} {l : List UInt8} {pos nx : Nat} {cm : Bool} {o : Value} {m : Nat} {acc : List Tok} (h : SInv w wr s l pos nx cm o m acc) : wr.iterPos w.heap.size = pos := by
  simp [World.iterPos, h.it]

theorem SInv.token {w w5 w' : World} {s : ByteArray} {l : List UInt8} {p nx m0 : Nat} {v v' : Value} {acc : List Tok} {t : Tok} {o : Obj} (hit : w5.heap[w.heap.size]? = some (.stringIter s p)) (hsame : Same w w5) (ho : w5.ownsRow 0 40 3 v m0 (tall acc)) (hnew : ∀ k, v.ownBlock = some k → w.heap.size ≤ k)
    (hg : (w5.alloc o).grownBy w' v.ownBlock) (ho' : w'.ownsRow 0 40 3 v' (acc.length + 1) (tall acc ++ tcells t)) (hat : v'.ownBlock = v.ownBlock ∨ v'.ownBlock = some (w5.heap.size + 1))
    (eq : scanL 0 false 0 l = ((acc ++ [t]) ++ (scanL p false (nx - p) (l.drop p)).1, (scanL p false (nx - p) (l.drop p)).2)) (asc : ∀ j (h : j < l.length), p ≤ j → j < nx → (l[j]).toNat < 128) (le : acc.length + 1 ≤ p) :
    SInv w w' s l p nx false v' (acc.length + 1) (acc ++ [t]) := by
  have hlt : w.heap.size < w5.heap.size := (Array.getElem?_eq_some_iff.1 hit).1
  have hne : some w.heap.size ≠ v.ownBlock := by
    intro e
    rcases ho.2 with ⟨rfl, _⟩ | ⟨g, cap, cur, rfl, _, hh, _⟩
    · simp [Value.ownBlock] at e
    · obtain rfl : w.heap.size = g := by simpa [Value.ownBlock] using e
      rw [hit] at hh; cases hh
  refine ⟨?_, (hsame.alloc o).grown hg (fun k hk => .inr (hnew k hk)), by rw [List.length_append, tall_snoc]; exact ho', fun k hk => ?_, eq, asc, by rw [List.length_append]; exact le, by rw [List.length_append]; rfl⟩
  · exact (hg.block _ (by simp; omega) hne).trans ((Below.heap_alloc w5 o _ hlt).trans hit)
  · rcases hat with e | e
    · exact hnew k (by rw [← e]; exact hk)
    · rw [e] at hk
      obtain rfl : w5.heap.size + 1 = k := by simpa using hk
      omega

set_option maxRecDepth 100000 in
set_option maxHeartbeats 4000000 in
theorem scan_any (w : World) (s : ByteArray) (l : List UInt8) (hs : s.data.toList = l) (h63 : s.size ≤ 9223372036854775807) :
    Calls Try.prog 9 #[.string s] w fun e w' => ∃ v ev, e = .returned (.tuple #[v, ev]) ∧ Same w w' ∧ w'.ownsRow 0 40 3 v (scanAll l).1.length (tall (scanAll l).1) ∧ ErrAt w' ev (scanAll l).2 ∧ ∀ k, v.ownBlock = some k → w.heap.size ≤ k := by
  have hsz : s.size = l.length := by rw [← hs, Lib.size_eq]
  have HSZ := Lib.hid hsz
  have HS := Lib.hid hs
  by_cases hbig : (20000 : Int) < s.size
  · have hE : scanAll l = ([], some (30, 0)) := by unfold scanAll; rw [if_pos (by omega)]
    have HE := Lib.hid hE
    clear hs hsz hE
    go_enter Try.func9, Try.ntmps9
    go_wp2
    go_ret2
    rw [HE.out]
    refine ⟨_, _, rfl, (Turned.refl _ _).alloc _, World.ownsRow_nil _ _ _ _, ⟨_, rfl, Blk.new w 35 _⟩, fun k hk => by simp [Value.ownBlock] at hk⟩
  · obtain ⟨i0, hi0, hz0, hz1, hz2⟩ := info_parts info40
    have HI := Lib.hid (And.intro hi0 (And.intro hz0 (And.intro hz1 hz2)))
    clear hi0 hz0 hz1 hz2
    have hsmall : s.size ≤ 20000 := by omega
    have hEall : Hid (scanAll l = match (scanL 0 false 0 l).2 with
        | some e => ([], some e)
        | none => ((scanL 0 false 0 l).1 ++ [⟨13, l.length, ⟨#[]⟩⟩], none)) := by unfold Hid scanAll; rw [if_neg (by omega)]
    clear hs hsz
    obtain ⟨i0, hi0, hz0, hz1, hz2⟩ := info_parts info40
    have HI := Lib.hid (And.intro hi0 (And.intro hz0 (And.intro hz1 hz2)))
    clear hi0 hz0 hz1 hz2
    go_enter Try.func9, Try.ntmps9
    go_wp2_with fail
    go_loopw [4, 5, 6] (fun o c n wr => ∃ (pos nx m : Nat) (cm : Bool) (a : Option Addr) (cap : Nat), o = .slice a m cap ∧ c = .bool cm ∧ n = .int .i64 nx ∧ pos ≤ s.size ∧ nx ≤ s.size ∧ Hid (∃ acc, SInv w wr s l pos nx cm (.slice a m cap) m acc)) (fun _ _ _ wr => s.size - wr.iterPos w.heap.size)
    case atStart => exact ⟨0, 0, 0, false, none, 0, rfl, rfl, rfl, by omega, by omega, [], World.iter_heap w s 0, (Turned.refl _ _).alloc _, World.ownsRow_nil _ _ _ _, fun k hk => by simp [Value.ownBlock] at hk, rfl, fun j _ _ h => by omega, Nat.le_refl _, rfl⟩
    case round =>
      obtain ⟨pos, nx, m, cm, a, cap, rfl, rfl, rfl, hpos, hnx, HV⟩ := hrel
      obtain ⟨acc, hV⟩ := HV.out
      have HV2 := Lib.hid hV
      have hk := hV.it
      have hml := hV.len
      subst hml
      have hle := hV.le
      clear HV hV
      by_cases hp : pos < s.size
      · have hnext : ∀ ty, (Instr.next (.pointer (some ⟨w.heap.size, 0, none⟩)) true ty).run Try.prog wr = _ := fun ty => Lib.run_next_any_at wr w.heap.size s pos ty hk hp
        have HK := Lib.hid (Lib.iterAt_heap wr w.heap.size s pos (pos + (Utf8.decode s pos).2) hk)
        have hmu : wr.iterPos w.heap.size = pos := by simp [World.iterPos, hk]
        have hmu2 : Hid ((wr.iterAt w.heap.size s (pos + (Utf8.decode s pos).2)).iterPos w.heap.size = pos + (Utf8.decode s pos).2) := by have := HK.out; unfold Hid; simp [World.iterPos, this]
        have HR := Lib.hid (rune_at s pos hp)
        have HW := Lib.hid (decode_wide s pos hp)
        have HLe := Lib.hid (decode_le s pos)
        obtain ⟨hpl, hbyte⟩ := byte_at HS.out pos hp
        rw [hbyte] at HR
        have hdrop : l.drop pos = l[pos] :: l.drop (pos + 1) := List.drop_eq_getElem_cons hpl
        have HNX : Hid (∀ nx' cm', scanL pos cm (nx - pos) (l.drop pos) = scanL (pos + (Utf8.decode s pos).2) cm' (nx' - (pos + (Utf8.decode s pos).2)) (l.drop (pos + (Utf8.decode s pos).2)) → (nx' = nx ∨ nx' ≤ pos + (Utf8.decode s pos).2) → SInv w (wr.iterAt w.heap.size s (pos + (Utf8.decode s pos).2)) s l (pos + (Utf8.decode s pos).2) nx' cm' (.slice a acc.length cap) acc.length acc) := fun nx' cm' h1 h2 => HV2.out.next _ nx' cm' h1 h2
        have HWb : Hid (1 ≤ (Utf8.decode s pos).2 ∧ pos + (Utf8.decode s pos).2 ≤ s.size ∧ ∀ j (hj : j < l.length), pos < j → j < pos + (Utf8.decode s pos).2 → 128 ≤ (l[j]).toNat) := ⟨HW.out.1, HW.out.2.1, fun j hj h1 h2 => by
          obtain ⟨hj', hh⟩ := HW.out.2.2 j h1 h2
          obtain ⟨_, e⟩ := byte_at HS.out j hj'
          rw [e] at hh; exact hh⟩
        have HO1 : Hid ((wr.iterAt w.heap.size s (pos + (Utf8.decode s pos).2)).ownsRow 0 40 3 (.slice a acc.length cap) acc.length (tall acc)) := own_iter HV2.out.own HV2.out.it
        have HSame : Hid (Same w (wr.iterAt w.heap.size s (pos + (Utf8.decode s pos).2))) := iter_turned s _ HV2.out.same (Nat.le_refl _)
        generalize wr.iterAt w.heap.size s (pos + (Utf8.decode s pos).2) = W1 at hnext HK HNX hmu2 HSame HO1
        generalize (Utf8.decode s pos).1 = c at hnext HR HLe
        generalize (Utf8.decode s pos).2 = wd at HR HK HWb hmu2 HNX
        obtain ⟨b, hb⟩ : ∃ b, b = l[pos] := ⟨_, rfl⟩
        rw [← hb] at HR hdrop
        have HB := Lib.hid hb
        have HD := Lib.hid hdrop
        clear hk hbyte HW hb hdrop
        have hc0 : (0 : Int) ≤ (c : Int) := by omega
        have hposI : (pos : Int) < s.size := by omega
        have HASC : Hid (b.toNat < 128 → wd = 1 ∧ c = b.toNat) := fun h => by
          rcases HR.out with h1 | h1
          · exact ⟨h1.2.2, h1.2.1⟩
          · omega
        have HHI : Hid (128 ≤ b.toNat → 128 ≤ c) := fun h => by
          rcases HR.out with h1 | h1
          · omega
          · exact h1.2
        by_cases hpn : pos < nx
        · have hpnI : (pos : Int) < nx := by omega
          have hN : Hid (SInv w W1 s l (pos + wd) nx cm (.slice a acc.length cap) acc.length acc) := by
            have h1 : b.toNat < 128 := by have := HV2.out.asc pos hpl (Nat.le_refl _) hpn; rwa [← HB.out] at this
            obtain ⟨rfl, _⟩ := HASC.out h1
            refine HNX.out nx cm ?_ (.inl rfl)
            rw [HD.out]
            simp only [scanL]
            rw [if_pos (by omega), show nx - pos - 1 = nx - (pos + 1) from by omega]
          go_wp2_with fail
          exact ⟨⟨pos + wd, nx, _, cm, a, cap, rfl, rfl, rfl, HWb.out.2.1, hnx, acc, hN.out⟩, by have := HWb.out.1; rw [hmu, hmu2.out]; omega⟩
        · have hpnI : ¬ (pos : Int) < nx := by omega
          have hz : nx - pos = 0 := by omega
          cases hcm : cm
          · subst hcm
            by_cases h37 : c = 37
            · subst h37
              have hN : Hid (SInv w W1 s l (pos + wd) nx true (.slice a acc.length cap) acc.length acc) := by
                have h1 : b.toNat < 128 := by
                  rcases HR.out with h1 | h1
                  · exact h1.1
                  · omega
                obtain ⟨rfl, hcb⟩ := HASC.out h1
                refine HNX.out nx true ?_ (.inl rfl)
                rw [HD.out, hz]
                simp only [scanL, Nat.lt_irrefl, if_false, Bool.false_eq_true]
                rw [if_pos (by omega), show nx - (pos + 1) = 0 from by omega]
              go_wp2_with fail
              exact ⟨⟨pos + wd, nx, _, true, a, cap, rfl, rfl, rfl, HWb.out.2.1, hnx, acc, hN.out⟩, by have := HWb.out.1; rw [hmu, hmu2.out]; omega⟩
            · have h37I : ¬ (c : Int) = 37 := by omega
              have hb37 : ¬ b.toNat = 37 := fun h => h37 (by have := (HASC.out (by omega)).2; omega)
              have hbl : (decide ((c : Int) < 128) && blankN (c : Int).toNat) = blankN b.toNat := by
                rw [Int.toNat_natCast]
                by_cases h1 : b.toNat < 128
                · rw [(HASC.out h1).2, decide_eq_true (by omega)]; rfl
                · have := HHI.out (by omega)
                  rw [decide_eq_false (by omega)]
                  symm; simp [blankN]; omega
              have HBL := Lib.hid hbl
              have Hb37 := Lib.hid hb37
              clear hbl hb37
              go_wp2_with fail
              refine (containsRune_blank _ hc0 (by have := HLe.out; omega) _).mono ?_
              rintro e w2 ⟨rfl, hs2⟩
              rw [HBL.out]
              have HS2 := Lib.hid hs2
              clear hs2
              cases hq : blankN b.toNat
              · have HQ := Lib.hid hq
                clear hq
                have hx : (s.extract pos s.size).data.toList = b :: l.drop (pos + 1) := by rw [extract_drop s l HS.out, HD.out]
                have HX := Lib.hid hx
                obtain ⟨K, hK⟩ : ∃ K, K = kindAt (b :: l.drop (pos + 1)) := ⟨_, rfl⟩
                have HKK := Lib.hid hK
                have hKp : K ≠ 0 → b.toNat < 128 ∧ K ≤ 13 := fun h => by
                  have := kindAt_pos (b := b) (r := l.drop (pos + 1)) (by rw [← hK]; exact h)
                  rw [hK]; exact ⟨this.1, this.2.1⟩
                have HKp := Lib.hid hKp
                clear hx hK hKp
                go_wp2_with fail
                refine (begins_any _ b (l.drop (pos + 1)) HX.out _ ?hc (by have := HLe.out; omega) _).mono ?_
                case hc =>
                  rcases HR.out with h1 | h1
                  · exact .inl ⟨h1.1, by rw [h1.2.1]⟩
                  · exact .inr ⟨h1.1, by omega⟩
                rintro e w3 ⟨rfl, hs3⟩
                rw [← HKK.out]
                have HS3 := Lib.hid (HS2.out.trans hs3 (fun _ h => h.elim))
                clear hs3
                by_cases hK0 : K = 0
                · subst hK0
                  have hE : Hid (scanAll l = ([], some (31, pos))) := by
                    have h0 := HV2.out.eq
                    rw [HD.out, hz] at h0
                    simp only [scanL, Nat.lt_irrefl, if_false, Bool.false_eq_true] at h0
                    rw [if_neg Hb37.out, if_neg (by rw [HQ.out]; decide), if_pos HKK.out.symm] at h0
                    unfold Hid; rw [hEall.out, h0]
                  go_wp2_with fail
                  go_ret2
                  rw [hE.out]
                  exact ⟨_, _, rfl, (HSame.out.trans HS3.out (fun _ h => h.elim)).alloc _, World.ownsRow_nil _ _ _ _, ⟨_, rfl, Blk.new w3 35 _⟩, fun k hk => by simp [Value.ownBlock] at hk⟩
                · have hK0I : ¬ (K : Int) = 0 := by omega
                  have hK0B : ((K : Int) == 0) = false := by rw [beq_eq_false_iff_ne]; omega
                  have hKK := HKp.out hK0
                  have HLN := lenAt_in (b := b) (r := l.drop (pos + 1)) (by rw [← HKK.out]; exact hK0)
                  rw [← HKK.out] at HLN
                  obtain ⟨n, hn⟩ : ∃ n, n = lenAt K (b :: l.drop (pos + 1)) := ⟨_, rfl⟩
                  rw [← hn] at HLN
                  have HN := Lib.hid hn
                  obtain ⟨hn1, hn2, hn3⟩ := HLN
                  have HN3 := Lib.hid hn3
                  have hpn2 : pos + n ≤ s.size := by
                    have : s.size = l.length := HSZ.out
                    rw [List.length_drop] at hn2; omega
                  have hw1 : IntKind.i64.wrap ((pos : Int) + n) = (pos : Int) + n := wrap_small _ (by omega) (by omega)
                  clear hn hn3 hn2
                  go_wp2_with fail
                  refine (length_any K hKK.2 _ b (l.drop (pos + 1)) HX.out hKK.1 _).mono ?_
                  rintro e w4 ⟨rfl, hs4⟩
                  rw [← HN.out]
                  have HS4 := Lib.hid (HS3.out.trans hs4 (fun _ h => h.elim))
                  clear hs4
                  go_wp2_with fail
                  have htx : (s.extract pos (pos + n)).data.toList = b :: (l.drop (pos + 1)).take (n - 1) := by
                    rw [extract_take s l HS.out, HD.out, show n = n - 1 + 1 from by omega, List.take_succ_cons]
                    rfl
                  have htz : (s.extract pos (pos + n)).size = n := by rw [ByteArray.size_extract]; omega
                  refine (wrong_any K hKK.2 _ b _ htx _).mono ?_
                  rintro e w5 ⟨rfl, hw5⟩
                  rw [htz]
                  have hs5 : Same w4 w5 := by rw [← hw5]; exact (Turned.refl _ _).alloc _
                  have hb5 : Blk w5 w4.heap.size 40 #[.int .i64 K, .int .i64 pos, .string (s.extract pos (pos + n))] := by rw [← hw5]; exact Blk.new w4 40 _
                  have HS5 := Lib.hid (HS4.out.trans hs5 (fun _ h => h.elim))
                  have q0 := hb5.cell 0
                  have q1 := hb5.cell 1
                  have q2 := hb5.cell 2
                  simp at q0 q1 q2
                  have hlt5 := hb5.lt
                  clear hw5 hs5 hb5 htx
                  obtain ⟨C, hC⟩ : ∃ C, C = wrongN K n b.toNat := ⟨_, rfl⟩
                  rw [← hC]
                  have HC := Lib.hid hC
                  clear hC
                  by_cases hC0 : C = 0
                  · subst hC0
                    have HO : Hid (w5.ownsRow 0 40 3 (.slice a acc.length cap) acc.length (tall acc)) := World.ownsRow.turned HO1.out HS5.out (fun _ _ h => h)
                    go_wp2_with (at_builtin; go_loud (refine wpList_append_src _ rfl _ _ 25 rfl 40 i0 _ 3 32 Try.underlying25 HI.out.1 HI.out.2.1 HI.out.2.2.1 HI.out.2.2.2 rfl (by omega) (.slice a acc.length cap) acc.length (tall acc) rfl (by exact HO.out.alloc _) (some ⟨w5.heap.size, 0, none⟩) 1 1 [.int .i64 K, .int .i64 pos, .string (s.extract pos (pos + n))] rfl rfl (by exact src_new w5 [.int .i64 K, .int .i64 pos, .string (s.extract pos (pos + n))] 40) ?k4 ?k5 ?k6 ?_))
                    case k4 => simp [Value.oneCell']
                    case k5 => unfold maxLen; omega
                    case k6 => omega
                    intro a' c' w' ho' hg' hat'
                    have HN2 : Hid (SInv w w' s l (pos + 1) (pos + n) false (.slice a' (acc.length + 1) c') (acc.length + 1) (acc ++ [⟨K, pos, s.extract pos (pos + n)⟩])) := by
                      obtain ⟨hwd1, _⟩ := HASC.out hKK.1
                      refine SInv.token ?_ (HSame.out.trans HS5.out (fun _ h => h.elim)) HO.out HV2.out.new hg' ho' hat' ?_ ?_ (by omega)
                      · have h1 := HK.out
                        rw [hwd1] at h1
                        exact (HS5.out.block _ (Array.getElem?_eq_some_iff.1 h1).1 (fun h => h)).trans h1
                      · have h0 := HV2.out.eq
                        rw [HD.out, hz] at h0
                        simp only [scanL, Nat.lt_irrefl, if_false, Bool.false_eq_true] at h0
                        rw [if_neg Hb37.out, if_neg (by rw [HQ.out]; decide), if_neg (by rw [← HKK.out]; exact hK0), ← HKK.out, ← HN.out, ← HC.out, if_neg (by decide)] at h0
                        rw [h0, extract_take s l HS.out, HD.out, show pos + n - (pos + 1) = n - 1 from by omega, List.append_assoc]
                        rfl
                      · intro j hj h1 h2
                        have h3 := HN3.out (j - pos) (by have : s.size = l.length := HSZ.out; simp; omega) (by omega)
                        have h4 : l[j]? = (b :: l.drop (pos + 1))[j - pos]? := by
                          rw [← HD.out, List.getElem?_drop, show pos + (j - pos) = j from by omega]
                        rw [List.getElem?_eq_getElem hj, List.getElem?_eq_getElem (by have : s.size = l.length := HSZ.out; simp; omega)] at h4
                        rw [Option.some.inj h4]
                        exact h3
                    have hq5 : w5.cell? ⟨w4.heap.size, 2, none⟩ = some (.string (s.extract pos (pos + n))) := q2
                    have q2' : w'.cell? ⟨w4.heap.size, 2, none⟩ = some (.string (s.extract pos (pos + n))) := by
                      have h1 : some w4.heap.size ≠ (Value.slice a acc.length cap).ownBlock := by
                        intro e
                        have := HO1.out.lt w4.heap.size e.symm
                        have := HS4.out.size
                        omega
                      exact (hg'.cell_far ⟨w4.heap.size, 2, none⟩ (by simp; omega) h1).trans ((World.cell?_alloc_lt w5 _ ⟨w4.heap.size, 2, none⟩ hlt5).trans hq5)
                    clear ho' hg' hat' q0 q1 q2 hq5
                    go_wp2_with fail
                    exact ⟨⟨pos + 1, pos + n, _, false, a', c', rfl, rfl, by go_num, by omega, hpn2, acc ++ [⟨K, pos, s.extract pos (pos + n)⟩], HN2.out⟩, by rw [hmu, HN2.out.iterPos]; omega⟩
                  · have hE : Hid (scanAll l = ([], some (C, pos))) := by
                      have h0 := HV2.out.eq
                      rw [HD.out, hz] at h0
                      simp only [scanL, Nat.lt_irrefl, if_false, Bool.false_eq_true] at h0
                      rw [if_neg Hb37.out, if_neg (by rw [HQ.out]; decide), if_neg (by rw [← HKK.out]; exact hK0), ← HKK.out, ← HN.out, ← HC.out, if_pos hC0] at h0
                      unfold Hid; rw [hEall.out, h0]
                    have hC0B : ((C : Int) == 0) = false := by rw [beq_eq_false_iff_ne]; omega
                    go_wp2_with fail
                    go_ret2
                    rw [hE.out]
                    exact ⟨_, _, rfl, (HSame.out.trans HS5.out (fun _ h => h.elim)).alloc _, World.ownsRow_nil _ _ _ _, ⟨_, rfl, Blk.new w5 35 _⟩, fun k hk => by simp [Value.ownBlock] at hk⟩
              · have hN : Hid (SInv w W1 s l (pos + wd) nx false (.slice a acc.length cap) acc.length acc) := by
                  have h1 : b.toNat < 128 := by simp [blankN] at hq; omega
                  obtain ⟨rfl, hcb⟩ := HASC.out h1
                  refine HNX.out nx false ?_ (.inl rfl)
                  rw [HD.out, hz]
                  simp only [scanL, Nat.lt_irrefl, if_false, Bool.false_eq_true]
                  rw [if_neg Hb37.out, if_pos hq, show nx - (pos + 1) = 0 from by omega]
                have hN2 := Lib.hid (hN.out.later HS2.out)
                go_wp2_with fail
                exact ⟨⟨pos + wd, nx, _, false, a, cap, rfl, rfl, rfl, HWb.out.2.1, hnx, acc, hN2.out⟩, by have := HWb.out.1; rw [hmu, hN2.out.iterPos]; omega⟩
          · subst hcm
            have hcI : ((c : Int) != 10) = (c != 10) := by rw [Bool.eq_iff_iff]; simp; omega
            have hN : Hid (SInv w W1 s l (pos + wd) nx ((c : Int) != 10) (.slice a acc.length cap) acc.length acc) := by
              rw [hcI]
              refine HNX.out nx (c != 10) ?_ (.inl rfl)
              rw [hz]
              by_cases h1 : b.toNat < 128
              · obtain ⟨rfl, hcb⟩ := HASC.out h1
                rw [HD.out]
                simp only [scanL, Nat.lt_irrefl, if_false, if_true]
                rw [show nx - (pos + 1) = 0 from by omega]
                congr 1
                by_cases h10 : b = 10
                · rw [hcb, h10]; rfl
                · have h10' : c ≠ 10 := fun h => h10 (UInt8.toNat_inj.1 (by rw [← hcb, h]; rfl))
                  have e1 : (b != 10) = true := by simpa using h10
                  have e2 : (c != 10) = true := by simpa using h10'
                  rw [e1, e2]
              · have h2 := HHI.out (by omega)
                have h3 : (c != 10) = true := by simp; omega
                have hsl : s.size = l.length := HSZ.out
                have h4 := HWb.out.2.1
                rw [h3, scan_comment l wd pos ?_ (by omega), show nx - (pos + wd) = 0 from by omega]
                intro j hj hj1 hj2 he
                by_cases hje : j = pos
                · subst hje
                  rw [← HB.out] at he
                  rw [he] at h1
                  exact h1 (by decide)
                · have h5 := HWb.out.2.2 j hj (by omega) hj2
                  rw [he] at h5
                  exact absurd h5 (by decide)
            clear hcI
            go_wp2_with fail
            exact ⟨⟨pos + wd, nx, _, _, a, cap, rfl, rfl, rfl, HWb.out.2.1, hnx, acc, hN.out⟩, by have := HWb.out.1; rw [hmu, hmu2.out]; omega⟩
      · have hnext : ∀ ty, (Instr.next (.pointer (some ⟨w.heap.size, 0, none⟩)) true ty).run Try.prog wr = _ := fun ty => Lib.run_next_end_at wr w.heap.size s pos ty hk hp
        have hpe : pos = s.size := by omega
        clear hk
        have HO : Hid (wr.ownsRow 0 40 3 (.slice a acc.length cap) acc.length (tall acc)) := HV2.out.own
        go_wp2_with (at_builtin; go_loud (refine wpList_append_src _ rfl _ _ 25 rfl 40 i0 _ 3 32 Try.underlying25 HI.out.1 HI.out.2.1 HI.out.2.2.1 HI.out.2.2.2 rfl (by omega) (.slice a acc.length cap) acc.length (tall acc) rfl (by exact HO.out.alloc _) (some ⟨wr.heap.size, 0, none⟩) 1 1 [.int .i64 13, .int .i64 s.size, .string ⟨#[]⟩] rfl rfl (by exact src_new wr [.int .i64 13, .int .i64 s.size, .string ⟨#[]⟩] 40) ?g4 ?g5 ?g6 ?_))
        case g4 => simp [Value.oneCell']
        case g5 => unfold maxLen; omega
        case g6 => omega
        intro a' c' w' ho' hg' hat'
        have HH : Hid (Same w w' ∧ w'.ownsRow 0 40 3 (.slice a' (acc.length + 1) c') (scanAll l).1.length (tall (scanAll l).1) ∧ (scanAll l).2 = none ∧ ∀ k, (Value.slice a' (acc.length + 1) c').ownBlock = some k → w.heap.size ≤ k) := by
          have hd : l.drop pos = [] := List.drop_of_length_le (by have : s.size = l.length := HSZ.out; omega)
          have h0 := HV2.out.eq
          rw [hd] at h0
          simp only [scanL, List.append_nil] at h0
          have h1 : scanAll l = (acc ++ [⟨13, l.length, ⟨#[]⟩⟩], none) := by rw [hEall.out, h0]
          have hsl : s.size = l.length := HSZ.out
          refine ⟨?_, ?_, by rw [h1], fun k hk => ?_⟩
          · exact (HV2.out.same.alloc _).grown hg' (fun k hk => .inr (HV2.out.new k hk))
          · rw [h1]
            show w'.ownsRow 0 40 3 _ (acc ++ [_]).length (tall (acc ++ [_]))
            rw [tall_snoc, List.length_append]
            rw [hsl] at ho'
            exact ho'
          · rcases hat' with e | e
            · exact HV2.out.new k (by rw [← e]; exact hk)
            · rw [e] at hk
              have h2 := HV2.out.same.size
              simp at hk; omega
        clear ho' hg' hat'
        go_wp2_with fail
        go_ret2
        refine ⟨_, _, rfl, HH.out.1, HH.out.2.1, ?_, HH.out.2.2.2⟩
        rw [HH.out.2.2.1]
        rfl
end Go.Proofs.Ytoncebnbdjpclaa

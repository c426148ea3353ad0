/-
  The walk of LexScans.
-/
import Derived.Test.YtoncebnbdjpclaaRScan
import Derived.Test.YtoncebnbdjpclaaAwake
import Derived.Laws.OwnMore
namespace Go.Proofs.Ytoncebnbdjpclaa
open Go.RowKit

theorem scanL_le : ∀ (l : List UInt8) (off : Nat) (c : Bool) (k : Nat), (scanL off c k l).1.length ≤ l.length
  | [], off, c, k => Nat.le_refl _
  | b :: r, off, c, k => by
    have ih := scanL_le r
    simp only [scanL]
    repeat' split
    all_goals simp only [List.length_cons, List.length_nil]
    all_goals first | omega | (have := ih (off + 1) c (k - 1); omega) | (have := ih (off + 1) (b != 10) 0; omega) | (have := ih (off + 1) true 0; omega) | (have := ih (off + 1) false 0; omega) | (have := ih (off + 1) false (lenAt (kindAt (b :: r)) (b :: r) - 1); omega)
theorem scanAll_le (l : List UInt8) : (scanAll l).1.length ≤ 20001 := by
  unfold scanAll
  split
  · simp
  · rename_i h
    have := scanL_le l 0 false 0
    split
    · simp
    · simp; omega

/-- A row that is being written over: nothing but it has turned. -/
structure Over (w0 wr : World) (A : Option Nat) (v : Value) (n : Nat) : Prop where
  own : ∃ xs, wr.ownsRow 0 40 3 v n xs
  ht : Turned (fun k => A = some k) w0 wr
  at_ : ∀ k, v.ownBlock = some k → A = some k ∨ w0.heap.size ≤ k
theorem Over.store {w0 wr : World} {A : Option Nat} {g c n : Nat} (h : Over w0 wr A (.slice (some ⟨g, 0, none⟩) n c) n) (i : Nat) (x y z : Value) :
    Over w0 (((wr.setCell ⟨g, i, none⟩ x).setCell ⟨g, i + 1, none⟩ y).setCell ⟨g, i + 2, none⟩ z) A (.slice (some ⟨g, 0, none⟩) n c) n := by
  obtain ⟨xs, ho⟩ := h.own
  have hg := h.at_ g rfl
  refine ⟨⟨_, (((ho.stored i x).1.stored (i + 1) y).1.stored (i + 2) z).1⟩, ?_, h.at_⟩
  exact ((h.ht.setCell (p := ⟨g, i, none⟩) hg x).setCell (p := ⟨g, i + 1, none⟩) hg y).setCell (p := ⟨g, i + 2, none⟩) hg z
theorem Over.app {w0 wr w' : World} {A : Option Nat} {v v' : Value} {n m : Nat} {xs ys : List Value} (h : Over w0 wr A v n) (_ho : wr.ownsRow 0 40 3 v n xs) (o : Obj) (hg : (wr.alloc o).grownBy w' v.ownBlock) (ho' : w'.ownsRow 0 40 3 v' m ys) (hat : v'.ownBlock = v.ownBlock ∨ v'.ownBlock = some (wr.heap.size + 1)) : Over w0 w' A v' m := by
  refine ⟨⟨_, ho'⟩, (h.ht.alloc o).grown hg (fun k hk => h.at_ k hk), fun k hk => ?_⟩
  rcases hat with e | e
  · exact h.at_ k (by rw [← e]; exact hk)
  · rw [e] at hk
    obtain rfl : wr.heap.size + 1 = k := by simpa using hk
    have := h.ht.size
    exact .inr (by omega)

theorem TRd.turned {w w' : World} {v : Value} {T : List Tok} {S : Nat → Prop} (h : TRd w v T) (ht : Turned S w w') (hS : ∀ k, v.ownBlock = some k → ¬ S k) : TRd w' v T := by
  obtain ⟨A, c, rfl, h1⟩ := h
  refine ⟨A, c, rfl, fun h0 => ?_⟩
  obtain ⟨g, rfl, hc⟩ := h1 h0
  refine ⟨g, rfl, fun k hk => ?_⟩
  obtain ⟨c0, c1, c2⟩ := hc k hk
  have hb := World.block_lt_of_cell? w _ c0
  have hn := hS g rfl
  exact ⟨(ht.cell (p := ⟨g, k * 3, none⟩) hb hn).trans c0, (ht.cell (p := ⟨g, k * 3 + 1, none⟩) hb hn).trans c1, (ht.cell (p := ⟨g, k * 3 + 2, none⟩) hb hn).trans c2⟩

set_option maxRecDepth 100000 in
set_option maxHeartbeats 4000000 in
theorem scanned_any (w : World) (s : ByteArray) (h63 : s.size ≤ 9223372036854775807) : Calls Try.prog 8 #[.string s] w fun e w' => e = .returned (.bool true) ∧ Same w w' := by
  obtain ⟨l, hl⟩ : ∃ l, s.data.toList = l := ⟨_, rfl⟩
  obtain ⟨i0, hi0, hz0, hz1, hz2⟩ := info_parts info40
  have HI := Lib.hid (And.intro hi0 (And.intro hz0 (And.intro hz1 hz2)))
  have HL := Lib.hid hl
  have HLe := Lib.hid (scanAll_le l)
  clear hi0 hz0 hz1 hz2 hl
  go_enter Try.func8, Try.ntmps8
  go_wp2_with fail
  refine (scan_any _ s l HL.out h63).mono ?_
  rintro e w1 ⟨v1, e1, rfl, hs1, ho1, he1, hn1⟩
  have HS1 := Lib.hid hs1; have HO1 := Lib.hid ho1; have HE1 := Lib.hid he1; have HN1 := Lib.hid hn1
  clear hs1 ho1 he1 hn1
  go_wp2_with fail
  refine (scan_any _ s l HL.out h63).mono ?_
  rintro e w2 ⟨v2, e2, rfl, hs2, ho2, _, hn2⟩
  have HS2 := Lib.hid (HS1.out.trans hs2 (fun _ h => h.elim)); have HO2 := Lib.hid ho2; have HN2 := Lib.hid hn2
  have HO12 := Lib.hid (World.ownsRow.turned HO1.out hs2 (fun _ _ h => h)); have HE12 := Lib.hid (HE1.out.same hs2)
  have HSz := Lib.hid hs2.size
  clear hs2 ho2 hn2 HE1
  go_wp2_with fail
  refine (rscan_any _ s l HL.out).mono ?_
  rintro e w3 ⟨v3, e3, rfl, hs3, ho3, hw3, hn3⟩
  have HS3 := Lib.hid (HS2.out.trans hs3 (fun _ h => h.elim)); have HO3 := Lib.hid ho3; have HN3 := Lib.hid hn3; have HW3 := Lib.hid hw3
  have HO13 := Lib.hid (World.ownsRow.turned HO12.out hs3 (fun _ _ h => h)); have HE13 := Lib.hid (HE12.out.same hs3)
  have HO23 := Lib.hid (World.ownsRow.turned HO2.out hs3 (fun _ _ h => h))
  have HSz3 := Lib.hid hs3.size
  clear hs3 ho3 hw3 hn3 HE12 HO12
  obtain ⟨n, hn⟩ : ∃ n, n = (scanAll l).1.length := ⟨_, rfl⟩
  have hn2 : n ≤ 20001 := by have := HLe.out; omega
  go_wp2_with fail
  refine (tokens_any _ v1 v3 (scanAll l).1 (TRd.of_own HO13.out) (TRd.of_own HO3.out) (by omega)).mono ?_
  rintro e w4 ⟨rfl, hs4⟩
  have HS4 := Lib.hid (HS3.out.trans hs4 (fun _ h => h.elim))
  have HO14 := Lib.hid (World.ownsRow.turned HO13.out hs4 (fun _ _ h => h)); have HE14 := Lib.hid (HE13.out.same hs4)
  have HT24 := Lib.hid ((TRd.of_own HO23.out).same hs4); have HT34 := Lib.hid ((TRd.of_own HO3.out).same hs4)
  have HW4 := Lib.hid (HW3.out.turned hs4 (fun _ _ _ h => h))
  have HSz4 := Lib.hid hs4.size
  clear hs4
  rw [← hn] at HO14
  have HNn := Lib.hid hn
  clear hn
  obtain ⟨a1, c1, rfl, _, _⟩ := own_shape HO14.out
  have HOv : Hid (Over w4 w4 (Value.slice a1 n c1).ownBlock (.slice a1 n c1) n) := ⟨⟨_, HO14.out⟩, Turned.refl _ _, fun k hk => .inl hk⟩
  go_wp2_with fail
  go_loopw [10] (fun i wr => ∃ k : Nat, k ≤ n ∧ i = .int .i64 k ∧ Hid (Over w4 wr (Value.slice a1 n c1).ownBlock (.slice a1 n c1) n)) (fun i _ => n - (intOf i).toNat)
  case atStart => exact ⟨0, Nat.zero_le _, rfl, HOv.out⟩
  case round =>
    obtain ⟨k, hk, rfl, HV⟩ := hrel
    by_cases hlt : k < n
    · have hkI : (k : Int) < n := by omega
      obtain ⟨xs, ho⟩ := HV.out.own
      obtain ⟨g, cap, hv, _, hg⟩ := ho.form (by omega)
      obtain ⟨rfl, rfl⟩ : a1 = some ⟨g, 0, none⟩ ∧ c1 = cap := by simpa using hv
      have hxl : xs.length = n * 3 := ho.1
      have q0 := ho.cells (g := g) rfl (k * 3) _ (List.getElem?_eq_getElem (by omega))
      have q1 := ho.cells (g := g) rfl (k * 3 + 1) _ (List.getElem?_eq_getElem (by omega))
      have q2 := ho.cells (g := g) rfl (k * 3 + 2) _ (List.getElem?_eq_getElem (by omega))
      simp only [Addr.add_lit, Nat.zero_add] at q0 q1 q2
      have f0 := ho.frozenAt (k * 3)
      have f1 := ho.frozenAt (k * 3 + 1)
      have f2 := ho.frozenAt (k * 3 + 2)
      have HV2 : Hid (∀ x y z, Over w4 (((wr.setCell ⟨g, k * 3, none⟩ x).setCell ⟨g, k * 3 + 1, none⟩ y).setCell ⟨g, k * 3 + 2, none⟩ z) (Value.slice (some ⟨g, 0, none⟩) n c1).ownBlock (.slice (some ⟨g, 0, none⟩) n c1) n) := fun x y z => HV.out.store (k * 3) x y z
      clear hv
      go_wp2_with fail
      exact ⟨⟨k + 1, by omega, by go_num, HV2.out _ _ _⟩, by simp [intOf]; omega⟩
    · go_wp2_with fail
      go_loopw [3, 11] (fun v i w2 => ∃ (k m : Nat) (a2 : Option Addr) (c2 : Nat), k ≤ 9 ∧ i = .int .i64 k ∧ v = .slice a2 m c2 ∧ m ≤ 20001 + k ∧ Hid (Over w4 w2 (Value.slice a1 n c1).ownBlock (.slice a2 m c2) m)) (fun _ i _ => 9 - (intOf i).toNat)
      case atStart => exact ⟨0, n, a1, c1, by omega, rfl, rfl, by omega, HV.out⟩
      case round =>
        obtain ⟨j, m, a2, c2, hj, rfl, rfl, hm, HU⟩ := hrel
        by_cases hlt2 : j < 9
        · have hjI : (j : Int) < 9 := by omega
          obtain ⟨xs, ho⟩ := HU.out.own
          have HO := Lib.hid ho
          clear ho
          go_wp2_with (at_builtin; go_loud (refine wpList_append_src _ rfl _ _ 25 rfl 40 i0 _ 3 32 Try.underlying25 HI.out.1 HI.out.2.1 HI.out.2.2.1 HI.out.2.2.2 rfl (by omega) (.slice a2 m c2) m xs rfl (by exact HO.out.alloc _) (some ⟨wr.heap.size, 0, none⟩) 1 1 [.int .i64 (-2), .int .i64 0, .string ⟨#[]⟩] rfl rfl (by exact src_new wr [.int .i64 (-2), .int .i64 0, .string ⟨#[]⟩] 40) (by simp [Value.oneCell']) (by unfold maxLen; omega) (by omega) ?_))
          intro a' c' w' ho' hg' hat'
          have HH := Lib.hid (HU.out.app HO.out _ hg' ho' hat')
          clear ho' hg' hat'
          go_wp2_with fail
          exact ⟨⟨j + 1, m + 1, a', c', by omega, by go_num, rfl, by omega, HH.out⟩, by simp [intOf]; omega⟩
        · have hjI : ¬ (j : Int) < 9 := by omega
          have hA : Hid (∀ k, (Value.slice a1 n c1).ownBlock = some k → k < w1.heap.size) := fun k hk => (HO1.out.lt k hk).2
          have HT2 : Hid (TRd wr v2 (scanAll l).1) := HT24.out.turned HU.out.ht (fun k hk hs => by have := hA.out k hs; have := HN2.out k hk; omega)
          have HT3 : Hid (TRd wr v3 (scanAll l).1) := HT34.out.turned HU.out.ht (fun k hk hs => by have := hA.out k hs; have := HN3.out k hk; have := HSz.out; omega)
          have HE : Hid (ErrAt wr e1 (scanAll l).2) := HE14.out.turned HU.out.ht (fun k cs hb hs => own_blk_ne HO14.out hb (by decide) hs)
          have HW : Hid (WRow wr e3 (scanAll l).2) := HW4.out.turned HU.out.ht (fun k cs hb hs => own_blk_ne HO14.out hb (by decide) hs)
          have HSf : Hid (Same w wr) := HS4.out.trans HU.out.ht (fun k hk => .inr (HN1.out k hk))
          go_wp2_with fail
          refine (tokens_any _ v2 v3 (scanAll l).1 HT2.out HT3.out (by have := HLe.out; omega)).mono ?_
          rintro e w5 ⟨rfl, hs5⟩
          have HE5 := Lib.hid (HE.out.same hs5); have HW5 := Lib.hid (HW.out.turned hs5 (fun _ _ _ h => h))
          have HS5 := Lib.hid (HSf.out.trans hs5 (fun _ h => h.elim))
          clear hs5
          go_wp2_with fail
          refine (same_any _ e1 e3 _ HE5.out HW5.out).mono ?_
          rintro e w6 ⟨rfl, hs6⟩
          have HS6 := Lib.hid (HS5.out.trans hs6 (fun _ h => h.elim))
          clear hs6
          go_wp2_with fail
          go_ret
          exact ⟨rfl, HS6.out⟩

set_option maxHeartbeats 2000000 in
theorem scans_law (w : World) (s t : ByteArray) (h1 : s.size ≤ 9223372036854775807) (h2 : t.size ≤ 9223372036854775807) : Calls Try.prog 4 #[.string s, .string t] w fun e w' => e = .returned (.bool true) ∧ Below w.heap.size w w' := by
  go_enter Try.func4, Try.ntmps4
  go_wp2_with fail
  refine (awake_any _).mono ?_
  rintro e w1 ⟨rfl, hs1⟩
  have HS1 := Lib.hid hs1
  clear hs1
  go_wp2_with fail
  refine (scanned_any _ s h1).mono ?_
  rintro e w2 ⟨rfl, hs2⟩
  have HS2 := Lib.hid (HS1.out.trans hs2 (fun _ h => h.elim))
  clear hs2
  go_wp2_with fail
  refine (scanned_any _ t h2).mono ?_
  rintro e w3 ⟨rfl, hs3⟩
  have HS3 := Lib.hid (HS2.out.trans hs3 (fun _ h => h.elim))
  clear hs3
  go_wp2_with fail
  refine (scanned_any _ s h1).mono ?_
  rintro e w4 ⟨rfl, hs4⟩
  have HS4 := Lib.hid (HS3.out.trans hs4 (fun _ h => h.elim))
  clear hs4
  go_wp2_with fail
  go_ret
  exact ⟨rfl, HS4.out.below (Nat.le_refl _) (fun _ h => h.elim)⟩
end Go.Proofs.Ytoncebnbdjpclaa

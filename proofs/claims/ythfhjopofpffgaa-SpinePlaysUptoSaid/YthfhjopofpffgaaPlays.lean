/-
  The walk of SpinePlays.
-/
import Derived.Test.YthfhjopofpffgaaDo1
import Derived.Test.YthfhjopofpffgaaDo2
import Derived.Test.YthfhjopofpffgaaDo3
import Derived.Test.YthfhjopofpffgaaDo4
import Derived.Test.YthfhjopofpffgaaScript
namespace Go.Proofs.Ythfhjopofpffgaa
open Go.RowKit

theorem cut_last {F : List FV} {X : List Fr} (h : F.map (·.1) = X) (h0 : X ≠ []) : ∃ F0 x X0, F = F0 ++ [x] ∧ X = X0 ++ [x.1] := by
  subst h
  have hF : F ≠ [] := by intro e; subst e; simp at h0
  exact ⟨F.dropLast, F.getLast hF, (F.dropLast).map (·.1), (List.dropLast_concat_getLast hF).symm, by
    have := congrArg (List.map (·.1)) (List.dropLast_concat_getLast hF)
    rw [← this, List.map_append]; rfl⟩

theorem do_any (w : World) (b r : Nat) (v u : Value) (F G : List FV) (X : List Fr) (B : Nat) (kind : Int) (two : Bool) (f : Fr) (pv lv : Value) (L : List Int)
    (h : Pair w b v F r u G X) (hB : ∀ k, pown b v F r u G k → B ≤ k) (hBw : B ≤ w.heap.size) (hp : ROld w B pv f.path) (hl : ROld w B lv L) (hs1 : f.path.length ≤ 4194304) (hs2 : X.length ≤ 4194304) (hs3 : (flatF X).length ≤ 4194304) (hs4 : L.length ≤ 4194304) :
    Calls Try.prog 25 #[.pointer (some ⟨b, 0, none⟩), .pointer (some ⟨r, 0, none⟩), opval kind two f pv lv] w fun e w' => ∃ X', e = .returned (.bool true) ∧ Did w w' b v F r u G X' ∧ Okay X X' f := by
  by_cases k1 : kind = 1
  · subst k1
    exact (do_push h hB hBw hp hl hs1 hs2).mono fun e w' ⟨h1, h2⟩ => ⟨_, h1, h2, by simp, by rw [flatF_snoc_le]; omega⟩
  by_cases k5 : kind = 5
  · subst k5; exact do_path h hB hBw hp hl hs1 hs2 hs3
  by_cases k6 : kind = 6
  · subst k6; exact do_nodes h hB hBw hp hl hs1 hs2 hs3
  by_cases k7 : kind = 7
  · subst k7; exact do_frames h hB hBw hp hl hs1 hs2 hs3
  by_cases k8 : kind = 8
  · subst k8; exact do_move h hB hBw hp hl hs1 hs2 hs4
  by_cases k9 : kind = 9
  · subst k9; exact do_len h hB hBw hp hl hs1 hs2
  by_cases kk : kind = 2 ∨ kind = 3 ∨ kind = 4
  · by_cases hX : X = []
    · subst hX
      have hF : F = [] := by have := h.fx; simpa using this
      have hG : G = [] := by have := h.gx; simpa using this
      subst hF; subst hG
      rcases kk with rfl | rfl | rfl
      · exact do_pop0 h hB hBw hp hl hs1 hs2
      · exact do_top0 h hB hBw hp hl hs1 hs2
      · exact do_turn0 h hB hBw hp hl hs1 hs2
    · obtain ⟨F0, x, X0, rfl, rfl⟩ := cut_last h.fx hX
      obtain ⟨G0, y, X1, rfl, e1⟩ := cut_last h.gx hX
      have hx3 : x.1.path.length ≤ 4194304 := by rw [flatF_snoc_le] at hs3; omega
      have hx2 : X0.length ≤ 4194304 := by simp at hs2; omega
      rcases kk with rfl | rfl | rfl
      · exact do_pop h hB hBw hp hl hs1 hx2 hx3
      · exact do_top h hB hBw hp hl hs1 hx2 hx3
      · exact do_turn1 h hB hBw hp hl hs1 hx2
  · have ne : ∀ n : Int, kind ≠ n → (kind == n) = false := fun n h => by rw [beq_eq_false_iff_ne]; exact h
    exact do_none h hB hBw hp hl hs1 hs2 (ne 1 k1) (ne 2 (fun e => kk (.inl e))) (ne 3 (fun e => kk (.inr (.inl e)))) (ne 4 (fun e => kk (.inr (.inr e)))) (ne 5 k5) (ne 6 k6) (ne 7 k7) (ne 8 k8) (ne 9 k9)

/-- The two pairs of spines of the law. -/
structure Two (w wr : World) (ba ra bb rb : Nat) (n m : Nat) : Prop where
  same : Same w wr
  ex : ∃ v F u G X v' F' u' G' X', Pair wr ba v F ra u G X ∧ Pair wr bb v' F' rb u' G' X' ∧ (∀ k, pown ba v F ra u G k → w.heap.size ≤ k ∧ ¬ pown bb v' F' rb u' G' k) ∧ (∀ k, pown bb v' F' rb u' G' k → w.heap.size ≤ k) ∧
    X.length ≤ n ∧ X'.length ≤ n ∧ (flatF X).length ≤ m ∧ (flatF X').length ≤ m
theorem Two.did {w wr w' : World} {ba ra bb rb n m : Nat} {v u v' u' : Value} {F G F' G' : List FV} {X X' Y : List Fr} {f : Fr} (hs : Same w wr) (_p1 : Pair wr ba v F ra u G X) (p2 : Pair wr bb v' F' rb u' G' X') (d : ∀ k, pown ba v F ra u G k → w.heap.size ≤ k ∧ ¬ pown bb v' F' rb u' G' k) (d2 : ∀ k, pown bb v' F' rb u' G' k → w.heap.size ≤ k)
    (b1 : X.length ≤ n) (b2 : X'.length ≤ n) (b3 : (flatF X).length ≤ m) (b4 : (flatF X').length ≤ m) (h : Did wr w' ba v F ra u G Y) (ho : Okay X Y f) : Two w w' ba ra bb rb (n + 1) (m + f.path.length) := by
  obtain ⟨v2, F2, u2, G2, hp, ht, hn⟩ := h
  have hq := p2.turned ht (fun k hk hk2 => (d k hk2).2 hk)
  refine ⟨hs.trans ht (fun i hi => .inr (d i hi).1), v2, F2, u2, G2, Y, v', F', u', G', X', hp, hq, fun k hk => ?_, d2, ?_, by omega, ?_, by omega⟩
  · rcases hn k hk with h1 | h1
    · exact d k h1
    · refine ⟨Nat.le_trans hs.size h1, fun h2 => ?_⟩
      have := p2.lt k h2
      omega
  · have := ho.1; omega
  · have := ho.2; omega
theorem Two.swap {w wr : World} {ba ra bb rb n m : Nat} (h : Two w wr ba ra bb rb n m) : Two w wr bb rb ba ra n m := by
  obtain ⟨hs, v, F, u, G, X, v', F', u', G', X', p1, p2, d, d2, b1, b2, b3, b4⟩ := h
  exact ⟨hs, v', F', u', G', X', v, F, u, G, X, p2, p1, fun k hk => ⟨d2 k hk, fun h => (d k h).2 hk⟩, fun k hk => (d k hk).1, b2, b1, b4, b3⟩

set_option maxRecDepth 100000 in
set_option maxHeartbeats 4000000 in
/-- A call of the law's 'do' on the first pair. -/
theorem do_two (w wr : World) (ba ra bb rb n m : Nat) (h : Two w wr ba ra bb rb n m) (o : OpD) (pv lv : Value) (hp : ROld wr w.heap.size pv o.f.path) (hl : ROld wr w.heap.size lv o.l) (hn : n ≤ 4194304) (hm : m ≤ 4194304) (h1 : o.f.path.length ≤ 4194304) (h2 : o.l.length ≤ 4194304) :
    Calls Try.prog 25 #[.pointer (some ⟨ba, 0, none⟩), .pointer (some ⟨ra, 0, none⟩), opval o.kind o.two o.f pv lv] wr fun e w' => e = .returned (.bool true) ∧ Two w w' ba ra bb rb (n + 1) (m + o.f.path.length) := by
  obtain ⟨hs, v, F, u, G, X, v', F', u', G', X', p1, p2, d, d2, b1, b2, b3, b4⟩ := h
  exact (do_any wr ba ra v u F G X w.heap.size o.kind o.two o.f pv lv o.l p1 (fun k hk => (d k hk).1) hs.size hp hl h1 (by omega) (by omega) h2).mono fun e w' ⟨Y, he, hd, ho⟩ => ⟨he, Two.did hs p1 p2 d d2 b1 b2 b3 b4 hd ho⟩

set_option maxRecDepth 100000 in
set_option maxHeartbeats 4000000 in
theorem plays_law (w : World) (root other : Int) (sv : Value) (O : List OpD) (hO : OOld w w.heap.size sv O) (hl : O.length ≤ 1048576) (hP : sumP O ≤ 1048576) (hL : ∀ o ∈ O, o.l.length ≤ 1048576) :
    Calls Try.prog 7 #[.int .i64 root, .int .i64 other, sv] w fun e w' => e = .returned (.bool true) ∧ Below w.heap.size w w' := by
  have HO := Lib.hid hO; have HL := Lib.hid hL
  obtain ⟨A, c, rfl, hA⟩ := hO
  clear hA hL
  go_enter Try.func7, Try.ntmps7
  go_wp2_with fail
  refine (awake_any _).mono ?_
  rintro e w1 ⟨rfl, h1⟩
  have H1 := Lib.hid h1
  have HO1 := Lib.hid ((HO.out.keep (h1.mono (fun _ h => h.elim))).more h1.size)
  clear h1
  go_wp2_with fail
  refine (new_si root _).mono ?_
  rintro e w2 ⟨ba, va, rfl, hS2⟩
  have HS2 := Lib.hid hS2
  clear hS2
  go_wp2_with fail
  refine (new_si other _).mono ?_
  rintro e w3 ⟨bb, vb, rfl, hS3⟩
  have HS3 := Lib.hid hS3
  clear hS3
  go_wp2_with fail
  refine (rnew_any root _).mono ?_
  rintro e w4 ⟨ra, ua, rfl, hR4, ht4, hn4⟩
  have HR4 := Lib.hid hR4; have HT4 := Lib.hid ht4; have HN4 := Lib.hid hn4
  clear hR4 ht4 hn4
  go_wp2_with fail
  refine (rnew_any other _).mono ?_
  rintro e w5 ⟨rb, ub, rfl, hR5, ht5, hn5⟩
  have HT : Hid (Two w1 w5 ba ra bb rb 1 0) := by
    have nob : ∀ x : Fr, ∀ k, ¬ pblocks [(x, Value.slice none 0 0)] k := by
      rintro x k ⟨y, hy, hk⟩
      obtain rfl : y = _ := by simpa using hy
      simp [Value.ownBlock] at hk
    have s25 : Same w2 w5 := (HS3.out.same.trans HT4.out (fun _ h => h.elim)).trans ht5 (fun _ h => h.elim)
    have s35 : Same w3 w5 := HT4.out.trans ht5 (fun _ h => h.elim)
    have lA : ∀ k, foot ba va k → k < w2.heap.size := foot_lt HS2.out.sp
    have lB : ∀ k, foot bb vb k → k < w3.heap.size := foot_lt HS3.out.sp
    have lR : ∀ k, foot ra ua k → k < w4.heap.size := HR4.out.flt
    have z2 := HS2.out.same.size
    have z3 := HS3.out.same.size
    have z4 := HT4.out.size
    have ap : ∀ x : FV, Apart [x] := fun x => List.pairwise_singleton _ _
    refine ⟨(HS2.out.same.trans s25 (fun _ h => h.elim)), va, _, ua, _, _, vb, _, ub, _, _, ⟨HS2.out.sp.same s25, HR4.out.same ht5, rfl, rfl, fun k hk hk2 => ?_, ap _, fun k hk => (nob _ k hk).elim⟩, ⟨HS3.out.sp.same s35, hR5, rfl, rfl, fun k hk hk2 => ?_, ap _, fun k hk => (nob _ k hk).elim⟩, ?_, ?_, by simp, by simp, by simp [flatF, rootFr], by simp [flatF, rootFr]⟩
    · have := lA k hk; have := HN4.out k hk2; omega
    · have := lB k hk; have := hn5 k hk2; omega
    · rintro k (hk | hk | hk | hk)
      · have h0 := lA k hk
        refine ⟨HS2.out.hi k hk, ?_⟩
        rintro (h | h | h | h)
        · have := HS3.out.hi k h; omega
        · exact nob _ k h
        · have := hn5 k h; omega
        · exact nob _ k h
      · exact (nob _ k hk).elim
      · have h0 := lR k hk
        have h00 := HN4.out k hk
        refine ⟨by omega, ?_⟩
        rintro (h | h | h | h)
        · have := lB k h; omega
        · exact nob _ k h
        · have := hn5 k h; omega
        · exact nob _ k h
      · exact (nob _ k hk).elim
    · rintro k (hk | hk | hk | hk)
      · have := HS3.out.hi k hk; omega
      · exact (nob _ k hk).elim
      · have := hn5 k hk; omega
      · exact (nob _ k hk).elim
  clear hR5 ht5 hn5
  go_wp2_with fail
  go_loopw [12] (fun i wr => ∃ k : Nat, k ≤ O.length ∧ i = .int .i64 k ∧ Hid (Two w1 wr ba ra bb rb (k + 1) (sumP (O.take k)))) (fun i _ => O.length - (intOf i).toNat)
  case atStart => exact ⟨0, Nat.zero_le _, rfl, HT.out⟩
  case round =>
    obtain ⟨k, hk, rfl, HV⟩ := hrel
    by_cases hlt : k < O.length
    · obtain ⟨A2, c2, ea, hA⟩ := HO1.out.keep (HV.out.same.mono (fun _ h => h.elim))
      injection ea with e1 _ e2
      subst e1; subst e2
      obtain ⟨bl, off, rfl, hbl, hc⟩ := hA (by omega)
      obtain ⟨c0, c1, c2, c3, c4, pv, lv, c5, hRp, c6, hRl⟩ := hc k hlt
      have hsm : Hid (sumP (O.take (k + 1)) = sumP (O.take k) + O[k].f.path.length) := sumP_take O k hlt
      have hsl : Hid (sumP (O.take (k + 1)) ≤ 1048576) := Nat.le_trans (sumP_take_le O _) hP
      have hll := HL.out O[k] (List.getElem_mem _)
      obtain ⟨o, ho⟩ : ∃ o, o = O[k] := ⟨_, rfl⟩
      rw [← ho] at c0 c1 c2 c3 c4 hRp hRl hsm hll
      have HRp := Lib.hid hRp; have HRl := Lib.hid hRl; have HLL := Lib.hid hll
      obtain ⟨pA, pc, rfl, _⟩ := hRp
      obtain ⟨lA, lc, rfl, _⟩ := hRl
      have hfp : Hid (o.f.path.length ≤ 1048576) := by have h1 := hsm.out; have h2 := hsl.out; unfold Hid; omega
      clear hc hA ho hll
      have hk0 : (0 : Int) ≤ k := by omega
      have hk1 : (k : Int) < O.length := by omega
      cases htw : o.two with
      | false =>
        rw [htw] at c1
        go_wp2_with fail
        refine (show Calls Try.prog 25 #[.pointer (some ⟨ba, 0, none⟩), .pointer (some ⟨ra, 0, none⟩), opval o.kind false o.f (.slice pA o.f.path.length pc) (.slice lA o.l.length lc)] wr _ from ((htw ▸ do_two w1 wr ba ra bb rb (k + 1) (sumP (O.take k)) HV.out o _ _ HRp.out HRl.out (by omega) (by have := hsm.out; have := hsl.out; omega) (by have := hfp.out; omega) (by have := HLL.out; omega)).mono ?_))
        rintro e w6 ⟨rfl, h6⟩
        rw [← hsm.out] at h6
        have H6 := Lib.hid h6
        clear h6
        go_wp2_with fail
        go_roundw
        case rel => exact ⟨k + 1, by omega, by go_num, H6.out⟩
        case measure => simp [intOf]; omega
      | true =>
        rw [htw] at c1
        go_wp2_with fail
        refine (show Calls Try.prog 25 #[.pointer (some ⟨bb, 0, none⟩), .pointer (some ⟨rb, 0, none⟩), opval o.kind true o.f (.slice pA o.f.path.length pc) (.slice lA o.l.length lc)] wr _ from ((htw ▸ do_two w1 wr bb rb ba ra (k + 1) (sumP (O.take k)) HV.out.swap o _ _ HRp.out HRl.out (by omega) (by have := hsm.out; have := hsl.out; omega) (by have := hfp.out; omega) (by have := HLL.out; omega)).mono ?_))
        rintro e w6 ⟨rfl, h6⟩
        rw [← hsm.out] at h6
        have H6 := Lib.hid h6.swap
        clear h6
        go_wp2_with fail
        go_roundw
        case rel => exact ⟨k + 1, by omega, by go_num, H6.out⟩
        case measure => simp [intOf]; omega
    · have hkk : k = O.length := by omega
      subst hkk
      have hts : Hid (sumP (O.take O.length) ≤ 1048576) := Nat.le_trans (sumP_take_le O _) hP
      go_wp2_with fail
      refine (show Calls Try.prog 25 #[.pointer (some ⟨ba, 0, none⟩), .pointer (some ⟨ra, 0, none⟩), opval 7 false fzero (.slice none 0 0) (.slice none 0 0)] wr _ from ((do_two w1 wr ba ra bb rb _ _ HV.out ⟨7, false, fzero, []⟩ _ _ ⟨none, 0, rfl, fun h => by simp [fzero] at h⟩ ⟨none, 0, rfl, fun h => by simp at h⟩ (by omega) (by have := hts.out; omega) (by simp [fzero]) (by simp)).mono ?_))
      rintro e w6 ⟨rfl, h6⟩
      have H6 := Lib.hid h6.swap
      clear h6
      go_wp2_with fail
      refine (show Calls Try.prog 25 #[.pointer (some ⟨bb, 0, none⟩), .pointer (some ⟨rb, 0, none⟩), opval 7 false fzero (.slice none 0 0) (.slice none 0 0)] w6 _ from ((do_two w1 w6 bb rb ba ra _ _ H6.out ⟨7, false, fzero, []⟩ _ _ ⟨none, 0, rfl, fun h => by simp [fzero] at h⟩ ⟨none, 0, rfl, fun h => by simp at h⟩ (by omega) (by have := hts.out; simp [fzero]; omega) (by simp [fzero]) (by simp)).mono ?_))
      rintro e w7 ⟨rfl, h7⟩
      have H7 : Hid (Same w w7) := H1.out.trans h7.same (fun _ h => h.elim)
      clear h7
      go_wp2_with fail
      go_ret
      exact ⟨rfl, H7.out.below (Nat.le_refl _) (fun _ h => h.elim)⟩
end Go.Proofs.Ythfhjopofpffgaa

/-
  The walk of SpineBack.
-/
import Derived.Test.YthfhjopofpffgaaAwake
namespace Go.Proofs.Ythfhjopofpffgaa
open Go.RowKit

/-- The frames of a spine, the last one apart. -/
theorem split_last {F : List FV} {Y : List Fr} {y : Fr} (h : F.map (·.1) = Y ++ [y]) : ∃ G pv, F = G ++ [(y, pv)] ∧ G.map (·.1) = Y := by
  have hne : F ≠ [] := by rintro rfl; simp at h
  obtain ⟨G, x, rfl⟩ : ∃ G x, F = G ++ [x] := ⟨F.dropLast, F.getLast hne, (List.dropLast_concat_getLast hne).symm⟩
  rw [List.map_append] at h
  have := List.append_inj' h rfl
  obtain ⟨f, pv⟩ := x
  obtain rfl : f = y := by simpa using this.2
  exact ⟨G, pv, rfl, this.1⟩

theorem ROld.more {w : World} {B B' : Nat} {pv : Value} {p : List Int} (h : ROld w B pv p) (hB : B ≤ B') : ROld w B' pv p := by
  obtain ⟨A, c, e, h2⟩ := h
  refine ⟨A, c, e, fun h0 => ?_⟩
  obtain ⟨bl, off, e1, hb, hc⟩ := h2 h0
  exact ⟨bl, off, e1, Nat.lt_of_lt_of_le hb hB, hc⟩
theorem FOld.more {w : World} {B B' : Nat} {v : Value} {X : List Fr} (h : FOld w B v X) (hB : B ≤ B') : FOld w B' v X := by
  obtain ⟨A, c, e, h2⟩ := h
  refine ⟨A, c, e, fun h0 => ?_⟩
  obtain ⟨bl, off, e1, hb, hc⟩ := h2 h0
  refine ⟨bl, off, e1, Nat.lt_of_lt_of_le hb hB, fun k hk => ?_⟩
  obtain ⟨c0, c1, c2, pv, c3, hR⟩ := hc k hk
  exact ⟨c0, c1, c2, pv, c3, hR.more hB⟩

/-- What a round holds once both answers are in: two frames in blocks of their own, the list that came in, the spine. -/
structure RB (w1 w : World) (b : Nat) (v : Value) (G : List FV) (x : Fr) (l : Value) (X : List Fr) (gf gg : Nat) (va vb : Value) : Prop where
  si : SI w1 w b v G
  old : FOld w w1.heap.size l X
  bf : Blk w gf 25 #[.int .i64 x.node, .bool x.whole, .int .i64 x.next, va]
  bg : Blk w gg 25 #[.int .i64 x.node, .bool x.whole, .int .i64 x.next, vb]
  ra : Rd w va x.path
  rb : Rd w vb x.path
theorem RB.same {w1 w w' : World} {b : Nat} {v : Value} {G : List FV} {x : Fr} {l : Value} {X : List Fr} {gf gg : Nat} {va vb : Value} (h : RB w1 w b v G x l X gf gg va vb) (ht : Same w w') : RB w1 w' b v G x l X gf gg va vb :=
  ⟨h.si.later ht, h.old.same ht, h.bf.turned ht (fun h => h), h.bg.turned ht (fun h => h), h.ra.same ht, h.rb.same ht⟩
theorem FOld.at_ {w : World} {B : Nat} {A : Option Addr} {c : Nat} {X : List Fr} (h : FOld w B (.slice A X.length c) X) (j : Nat) (hj : j < X.length) : ∃ bl off, A = some ⟨bl, off, none⟩ ∧ w.cell? ⟨bl, off + j * 4, none⟩ = some (.int .i64 X[j].node) ∧ w.cell? ⟨bl, off + j * 4 + 1, none⟩ = some (.bool X[j].whole) ∧
    w.cell? ⟨bl, off + j * 4 + 2, none⟩ = some (.int .i64 X[j].next) ∧ ∃ pv, w.cell? ⟨bl, off + j * 4 + 3, none⟩ = some pv ∧ ROld w B pv X[j].path := by
  obtain ⟨A', c', e, h2⟩ := h
  injection e with e1 _ e2
  subst e1; subst e2
  obtain ⟨bl, off, e1, hb, hc⟩ := h2 (by omega)
  obtain ⟨c0, c1, c2, pv, c3, hR⟩ := hc j hj
  exact ⟨bl, off, e1, c0, c1, c2, pv, c3, hR⟩
theorem RB.start {w1 w4 w6 : World} {b : Nat} {v v6 : Value} {G : List FV} {x : Fr} {l : Value} {X : List Fr} {va pv : Value} {o : Array Value} (h5 : SI w1 (w4.alloc (.cells o 25)) b v (G ++ [(x, pv)])) (h6 : SI w1 w6 b v6 G) (ht : Turned (fun k => k = b) (w4.alloc (.cells o 25)) w6)
    (ho : o = #[.int .i64 x.node, .bool x.whole, .int .i64 x.next, va]) (hX : FOld w1 w1.heap.size l X) {q : Nat} (hva : va = .slice (some ⟨q, 0, none⟩) x.path.length x.path.length) (hB : Blk w4 q 3 (intVals x.path).toArray) :
    RB w1 (w6.alloc (.cells #[.int .i64 x.node, .bool x.whole, .int .i64 x.next, pv] 25)) b v6 G x l X w4.heap.size w6.heap.size va pv := by
  have hs : Same w6 (w6.alloc (.cells #[.int .i64 x.node, .bool x.whole, .int .i64 x.next, pv] 25)) := (Turned.refl _ _).alloc _
  have hF : Blk (w4.alloc (.cells o 25)) w4.heap.size 25 #[.int .i64 x.node, .bool x.whole, .int .i64 x.next, va] := by rw [ho]; exact Blk.new w4 25 _
  have hp := h5.sp.paths (x, pv) (by simp)
  have hB4 : Blk (w4.alloc (.cells o 25)) q 3 (intVals x.path).toArray := hB.alloc _
  refine ⟨h6.later hs, (hX.same h6.same).same hs, (hF.turned ht (fun e => Blk.ne_ hF h5.sp.blk (by decide) e)).turned hs (fun h => h), Blk.new w6 25 _, ?_, ?_⟩
  · rw [hva]
    exact (PAt.rd (.inr ⟨q, rfl, hB4.turned ht (fun e => Blk.ne_ hB4 h5.sp.blk (by decide) e)⟩)).same hs
  · exact ((hp.turned ht (fun k hk e => pat_foot hp h5.sp.blk h5.sp.own k hk (.inl e))).rd).same hs

set_option maxRecDepth 100000 in
set_option maxHeartbeats 4000000 in
theorem back_any (w : World) (root : Int) (v : Value) (X : List Fr) (hX : FOld w w.heap.size v X) (hl : (X.length + 1) * 48 ≤ 140737488355328) (hL : ∀ x ∈ X, x.path.length ≤ 17592186044416) :
    Calls Try.prog 4 #[.int .i64 root, v] w fun e w' => e = .returned (.bool true) ∧ Below w.heap.size w w' := by
  have HX := Lib.hid hX; have HL := Lib.hid hL
  obtain ⟨A, c, rfl, hA⟩ := hX
  clear hA hL
  go_enter Try.func4, Try.ntmps4
  go_wp2_with fail
  refine (awake_any _).mono ?_
  rintro e w1 ⟨rfl, h1⟩
  have H1 := Lib.hid h1
  have HX1 := Lib.hid ((HX.out.same h1).more h1.size)
  clear h1
  go_wp2_with fail
  refine (filled_any _ root _ X HX1.out hl HL.out).mono ?_
  rintro e w2 ⟨b, v2, F2, rfl, hS2, hF2⟩
  have HS2 := Lib.hid hS2; have HF2 := Lib.hid hF2
  have hlen : Hid (F2.length = X.length + 1) := by
    have := congrArg List.length hF2
    simp at this
    exact this
  clear hS2 hF2
  go_wp2_with (first | (go_at_call 15; refine (len_any _ b v2 F2 HS2.out.sp).mono ?_; rintro e w' ⟨rfl, rfl⟩; rw [hlen.out]))
  have HS : Hid (∃ v' F, SI w1 w2 b v' F ∧ F.map (·.1) = rootFr root :: X.take X.length) := ⟨v2, F2, HS2.out, by rw [List.take_length]; exact HF2.out⟩
  clear HS2 HF2 hlen
  go_loopw [7] (fun i wr => ∃ k : Nat, k ≤ X.length ∧ i = .int .i64 ((k : Int) - 1) ∧ Hid (∃ v' F, SI w1 wr b v' F ∧ F.map (·.1) = rootFr root :: X.take k)) (fun i _ => (intOf i + 1).toNat)
  case atStart => exact ⟨X.length, Nat.le_refl _, rfl, HS⟩
  case round =>
    clear HS
    obtain ⟨k, hk, rfl, HV⟩ := hrel
    obtain ⟨v3, F, hS, hF⟩ := HV.out
    clear HV
    by_cases hk0 : 0 < k
    · obtain ⟨j, rfl⟩ : ∃ j, k = j + 1 := ⟨k - 1, by omega⟩
      have ej : ((j + 1 : Nat) : Int) - 1 = j := by omega
      rw [ej]
      clear ej hk0
      have hj : j < X.length := by omega
      rw [List.take_succ_eq_append_getElem hj, ← List.cons_append] at hF
      obtain ⟨G, pv, rfl, hG⟩ := split_last hF
      have HS := Lib.hid hS; have HG := Lib.hid hG
      have hGl : Hid (G.length = j + 1) := by
        have := congrArg List.length hG
        simp at this
        unfold Hid; omega
      have hGb : Hid (G.length ≤ 140737488355328) := by have := hGl.out; unfold Hid; omega
      have HLj := Lib.hid (HL.out X[j] (List.getElem_mem _))
      clear hF hS hG
      obtain ⟨x, hx⟩ : ∃ x, x = X[j] := ⟨_, rfl⟩
      have HXj := Lib.hid hx
      rw [← hx] at HS HLj
      clear hx
      obtain ⟨pA, pc, hpv, _⟩ := (HS.out.sp.paths (x, pv) (by simp)).rd
      simp only at hpv
      subst hpv
      have hj0 : (0 : Int) ≤ j := by omega
      have hj1 : (j : Int) < X.length := by omega
      go_wp2_with fail
      refine (top_any _ b v3 G (x, _) HS.out.sp hGb.out HLj.out).mono ?_
      rintro e w4 ⟨q, rfl, hs4, hB4, hq4⟩
      have HS4 := Lib.hid (HS.out.later hs4)
      have HB4 := Lib.hid hB4
      have HS5 := Lib.hid (HS4.out.later (w' := w4.alloc (.cells #[.int .i64 x.node, .bool x.whole, .int .i64 x.next, .slice (some ⟨q, 0, none⟩) x.path.length x.path.length] 25)) ((Turned.refl _ _).alloc _))
      clear hs4 hB4 hq4 HS
      go_wp2_with fail
      refine (pop_some _ b v3 G (x, _) HS5.out.sp hGb.out).mono ?_
      rintro e w6 ⟨v6, rfl, hsp6, ht6, hv6⟩
      have HS6 := Lib.hid (HS5.out.pop hsp6 ht6 hv6)
      have HR := Lib.hid (RB.start HS5.out HS6.out ht6 rfl HX1.out rfl HB4.out)
      clear hsp6 ht6 hv6 HS5 HS4 HS6 HB4
      go_wp2_with fail
      obtain ⟨w7, hw7⟩ : ∃ w7, w7 = w6.alloc (.cells #[.int .i64 x.node, .bool x.whole, .int .i64 x.next, .slice pA x.path.length pc] 25) := ⟨_, rfl⟩
      rw [← hw7] at HR ⊢
      clear hw7
      obtain ⟨f0, f1, f2, f3⟩ := HR.out.bf.four
      obtain ⟨bl, off, rfl, d0, d1, d2, pl, d3, hRl⟩ := HR.out.old.at_ j hj
      rw [← HXj.out] at d0 d1 d2 hRl
      have HRl := Lib.hid hRl.rd
      have HK := Lib.hid (show x.path.length ≤ 140737488355328 by have := HLj.out; omega)
      clear hRl
      go_region_law ((go_simp; go_at_call 17; refine (sameFrame_any _ x _ pl (by exact HR.out.ra) (by exact HRl.out) HK.out).mono ?_; rintro e w8 ⟨rfl, hs8⟩; have HR8 := Lib.hid (HR.out.same ((Turned.refl _ w7).drew.trans hs8 (fun _ h => h.elim))); clear hs8))
      all_goals
        clear f0 f1 f2 f3 d0 d1 d2 d3 HRl HR
        obtain ⟨g0, g1, g2, g3⟩ := HR8.out.bg.four
        obtain ⟨bl', off', ea, d0, d1, d2, pl', d3, hRl⟩ := HR8.out.old.at_ j hj
        injection ea with ea
        injection ea with e1 e2
        subst e1; subst e2
        rw [← HXj.out] at d0 d1 d2 hRl
        have HRl := Lib.hid hRl.rd
        clear hRl
        go_wp2_with fail
        go_region_law ((go_simp; go_at_call 17; refine (sameFrame_any _ x _ pl' (by exact HR8.out.rb) (by exact HRl.out) HK.out).mono ?_; rintro e w9 ⟨rfl, hs9⟩; have HR9 := Lib.hid (HR8.out.same ((Turned.refl _ w8).drew.trans hs9 (fun _ h => h.elim))); clear hs9))
        all_goals
          clear g0 g1 g2 g3 d0 d1 d2 d3 HRl HR8
          go_wp2_with (first | (go_at_call 15; refine (len_any _ b _ G HR9.out.si.sp).mono ?_; rintro e w' ⟨rfl, rfl⟩; rw [hGl.out]))
          all_goals
            go_roundw
            case rel => exact ⟨j, by omega, by go_num, _, G, HR9.out.si, HG.out⟩
            case measure => simp [intOf]
    · have hk00 : k = 0 := by omega
      subst hk00
      have e0 : ((0 : Nat) : Int) - 1 = -1 := by omega
      rw [e0]
      clear e0 hk hk0
      rw [List.take_zero] at hF
      obtain ⟨G, pv, rfl, hG⟩ := split_last (Y := []) hF
      obtain rfl : G = [] := by simpa using hG
      obtain ⟨pA, pc, hpv, _⟩ := (hS.sp.paths (rootFr root, pv) (by simp)).rd
      simp only at hpv
      subst hpv
      have HS := Lib.hid hS
      clear hF hS hG
      go_wp2_with fail
      refine (pop_some _ b v3 [] (rootFr root, _) HS.out.sp (by simp)).mono ?_
      rintro e w6 ⟨v6, rfl, hsp6, ht6, hv6⟩
      have HS6 := Lib.hid (HS.out.pop hsp6 ht6 hv6)
      have hp := HS.out.sp.paths (rootFr root, .slice pA (rootFr root).path.length pc) (by simp)
      have HP := Lib.hid (((hp.turned ht6 (fun k hk e => pat_foot hp HS.out.sp.blk HS.out.sp.own k hk (.inl e))).rd).same (w' := w6.alloc (.cells #[.int .i64 root, .bool true, .int .i64 0, .slice pA (rootFr root).path.length pc] 25)) ((Turned.refl _ _).alloc _))
      have HS7 := Lib.hid (HS6.out.later (w' := w6.alloc (.cells #[.int .i64 root, .bool true, .int .i64 0, .slice pA (rootFr root).path.length pc] 25)) ((Turned.refl _ _).alloc _))
      clear hsp6 ht6 hv6 HS6 HS hp
      go_wp2_with fail
      refine (sameFrame_any _ (rootFr root) _ _ HP.out ⟨none, 0, rfl, fun h => by simp [rootFr] at h⟩ (by simp [rootFr])).mono ?_
      rintro e w8 ⟨rfl, hs8⟩
      have HS8 := Lib.hid (HS7.out.later hs8)
      clear hs8 HS7 HP
      go_wp2_with fail
      refine (pop_none _ b _ HS8.out.sp).mono ?_
      rintro e w9 ⟨rfl, hs9⟩
      have HS9 := Lib.hid ((HS8.out.later hs9).later (w' := w9.alloc (.cells #[.int .i64 0, .bool false, .int .i64 0, .slice none 0 0] 25)) ((Turned.refl _ _).alloc _))
      clear hs9 HS8
      go_wp2_with fail
      refine (top_zero _ b _ HS9.out.sp).mono ?_
      rintro e w10 ⟨rfl, hs10⟩
      have HS10 := Lib.hid ((HS9.out.later hs10).later (w' := w10.alloc (.cells #[.int .i64 0, .bool false, .int .i64 0, .slice none 0 0] 25)) ((Turned.refl _ _).alloc _))
      clear hs10 HS9
      go_wp2_with fail
      refine (turn_none _ b _ HS10.out.sp fzero (.slice none 0 0)).mono ?_
      rintro e w11 ⟨rfl, hs11⟩
      have HS11 := Lib.hid (HS10.out.later hs11)
      clear hs11 HS10
      go_wp2_with fail
      refine (push_any _ b _ [] HS11.out.sp ⟨3, false, 0, []⟩ (.slice none 0 0) ⟨none, 0, rfl, fun h => by simp at h⟩ (by decide) (by decide)).mono ?_
      rintro e w12 ⟨v12, pv12, rfl, h12, ht12, hv12, hq12⟩
      have HS12 := Lib.hid (HS11.out.push h12 ht12 hv12 hq12)
      clear h12 ht12 hv12 hq12 HS11
      go_wp2_with (first | (go_at_call 15; refine (len_any _ b _ _ HS12.out.sp).mono ?_; rintro e w' ⟨rfl, rfl⟩))
      all_goals go_ret
      all_goals exact ⟨rfl, (H1.out.trans HS12.out.same (fun _ h => h.elim)).below (Nat.le_refl _) (fun _ h => h.elim)⟩
end Go.Proofs.Ythfhjopofpffgaa

/-
  The law's 'do': the calls 2 and 3.
-/
import Derived.Test.YthfhjopofpffgaaDo
import Derived.Test.YthfhjopofpffgaaBulk
namespace Go.Proofs.Ythfhjopofpffgaa
open Go.RowKit
theorem Did.pop2 {w w' : World} {b r : Nat} {v u v' u' : Value} {F G : List FV} {x y : FV} {X0 : List Fr} (h : Pair w b v (F ++ [x]) r u (G ++ [y]) (X0 ++ [x.1])) (hs : SpAt w' b v' F) (hr : RAt w' r u' G) (ht : Turned (pown b v (F ++ [x]) r u (G ++ [y])) w w') (hv : v'.ownBlock = v.ownBlock) (hu : u'.ownBlock = u.ownBlock) :
    Did w w' b v (F ++ [x]) r u (G ++ [y]) X0 := by
  have hx := h.fx
  have hy := h.gx
  simp only [List.map_append, List.map_cons, List.map_nil] at hx hy
  have f1 : ∀ k, foot b v' k → foot b v k := fun k hk => by rcases hk with h | h; exact .inl h; exact .inr (by rw [← hv]; exact h)
  have f2 : ∀ k, foot r u' k → foot r u k := fun k hk => by rcases hk with h | h; exact .inl h; exact .inr (by rw [← hu]; exact h)
  have p1 : ∀ k, pblocks F k → pblocks (F ++ [x]) k := fun k hk => (pblocks_snoc F x k).2 (.inl hk)
  have p2 : ∀ k, pblocks G k → pblocks (G ++ [y]) k := fun k hk => (pblocks_snoc G y k).2 (.inl hk)
  refine ⟨v', F, u', G, ⟨hs, hr, List.append_inj_left' hx rfl, List.append_inj_left' hy rfl, fun k h1 h2 => h.sep k (f1 k h1) (f2 k h2), h.ap.init.1, fun k h1 h2 => h.pg k (p1 k h1) (p2 k h2)⟩, ht, ?_⟩
  rintro k (hk | hk | hk | hk)
  · exact .inl (.inl (f1 k hk))
  · exact .inl (.inr (.inl (p1 k hk)))
  · exact .inl (.inr (.inr (.inl (f2 k hk))))
  · exact .inl (.inr (.inr (.inr (p2 k hk))))
theorem set4_turned (w : World) (g : Nat) (a b c d : Value) : Turned (fun k => k = g) w ((((w.setCell ⟨g, 0, none⟩ a).setCell ⟨g, 1, none⟩ b).setCell ⟨g, 2, none⟩ c).setCell ⟨g, 3, none⟩ d) :=
  ((((Turned.refl (fun k => k = g) w).setCell (p := ⟨g, 0, none⟩) (.inl rfl) a).setCell (p := ⟨g, 1, none⟩) (.inl rfl) b).setCell (p := ⟨g, 2, none⟩) (.inl rfl) c).setCell (p := ⟨g, 3, none⟩) (.inl rfl) d
theorem set4_blk {w : World} {g : Nat} {t : TypeId} {e f h i : Value} (hb : Blk w g t #[e, f, h, i]) (a b c d : Value) : Blk ((((w.setCell ⟨g, 0, none⟩ a).setCell ⟨g, 1, none⟩ b).setCell ⟨g, 2, none⟩ c).setCell ⟨g, 3, none⟩ d) g t #[a, b, c, d] := (((hb.set_ 0 a).set_ 1 b).set_ 2 c).set_ 3 d
section
variable {w : World} {b r : Nat} {v u : Value} {F G : List FV} {X : List Fr} {B : Nat} {kind : Int} {two : Bool} {f : Fr} {pv lv : Value} {L : List Int}

set_option maxRecDepth 100000 in
set_option maxHeartbeats 4000000 in
theorem do_top {x y : FV} {X0 : List Fr} (h : Pair w b v (F ++ [x]) r u (G ++ [y]) (X0 ++ [x.1])) (hB : ∀ k, pown b v (F ++ [x]) r u (G ++ [y]) k → B ≤ k) (hBw : B ≤ w.heap.size) (hp : ROld w B pv f.path) (hl : ROld w B lv L) (hs1 : f.path.length ≤ 4194304) (hs2 : X0.length ≤ 4194304) (hs3 : x.1.path.length ≤ 4194304) :
    Calls Try.prog 25 #[.pointer (some ⟨b, 0, none⟩), .pointer (some ⟨r, 0, none⟩), opval 3 two f pv lv] w fun e w' => ∃ X', e = .returned (.bool true) ∧ Did w w' b v (F ++ [x]) r u (G ++ [y]) X' ∧ Okay (X0 ++ [x.1]) X' f := by
  have H := Lib.hid h; have HB := Lib.hid hB; have HP := Lib.hid hp; have HL := Lib.hid hl; have HBW := Lib.hid hBw
  have HFl : Hid (F.length = X0.length) := by have := congrArg List.length h.fx; simpa [Hid] using this
  have HGl : Hid (G.length = X0.length) := by have := congrArg List.length h.gx; simpa [Hid] using this
  have HXY : Hid (y.1 = x.1) := by
    have h1 := h.gx
    simp only [List.map_append, List.map_cons, List.map_nil] at h1
    have h2 := List.append_inj_right' h1 rfl
    simpa [Hid] using h2
  have HR : Hid (Rd ((w.alloc (.cells (opcells 3 two f pv lv) 49)).alloc (.cells #[.int .i64 f.node, .bool f.whole, .int .i64 f.next, pv] 25)) pv f.path) := hp.rd.turned (S := fun _ => False) (((Turned.refl _ _).alloc _).alloc _) (fun _ _ h => h)
  obtain ⟨pA, pc, rfl, _⟩ := HP.out
  obtain ⟨lA, lc, rfl, _⟩ := HL.out
  clear h hB hBw hp hl
  go_enter Try.func25, Try.ntmps25
  go_wp2_with fail
  refine (lent_any _ _ f.path HR.out (by omega)).mono ?_
  rintro e w1 ⟨tv, g, rfl, hT, hs, hg⟩
  have hg2 : w.heap.size + 2 ≤ g := by simpa using hg
  obtain ⟨tc, rfl, _, _⟩ := (show LentAt w1 tv f.path g from hT)
  have hst := DoAt.start HBW.out HP.out HL.out hs hT hg2
  have HD := Lib.hid hst.1; have HS0 := Lib.hid hst.2
  have HPr := Lib.hid (H.out.same hst.2)
  obtain ⟨p0, p1, p2, p3⟩ := hst.1.fb.four
  obtain ⟨o0, o1, o2, o3, o4, o5, o6⟩ := hst.1.ob.seven
  have hfl := hst.1.fb.lt
  have hob1 : Blk w1 (w.heap.size + 1) 25 #[.int .i64 f.node, .bool f.whole, .int .i64 f.next, .slice pA f.path.length pc] := by
    have h := (Blk.new (w.alloc (.cells (opcells 3 two f (.slice pA f.path.length pc) (.slice lA L.length lc)) 49)) 25 #[.int .i64 f.node, .bool f.whole, .int .i64 f.next, .slice pA f.path.length pc]).turned hs (fun h => h)
    simpa using h
  have q3 := hob1.four.2.2.2
  have qf := fun i => hob1.frozen i
  have hlt1 := hob1.lt
  clear hst hs hT hg hob1
  obtain ⟨w2, hw2⟩ : ∃ w2, w2 = w1.setCell ⟨w.heap.size + 1, 3, none⟩ (.slice (some ⟨g, 0, none⟩) f.path.length tc) := ⟨_, rfl⟩
  rw [← hw2] at HD HS0 HPr p0 p1 p2 p3 o0 o1 o2 o3 o4 o5 o6 hfl
  have HW2 := Lib.hid hw2
  clear hw2
  have HPO : Hid (∀ k, pown b v (F ++ [x]) r u (G ++ [y]) k → B ≤ k ∧ k < w.heap.size) := fun k hk => ⟨HB.out k hk, H.out.lt k hk⟩
  go_wp2_with (first | rw [← HW2.out])
  refine (top_any _ b v F x HPr.out.sp (by have := HFl.out; omega) (by omega)).mono ?_
  rintro e w3 ⟨q3, rfl, hs3', hB3, hq3⟩
  have HS3 : Hid (Same w w3) := HS0.out.trans hs3' (fun _ h => h.elim)
  have HP3 := Lib.hid (HPr.out.same hs3')
  have HD3 := Lib.hid (HD.out.same hs3')
  have HQ3 : Hid (Blk w3 q3 3 (intVals x.1.path).toArray ∧ w.heap.size ≤ q3) := ⟨hB3, Nat.le_trans HS0.out.size hq3⟩
  clear hs3' hB3 hq3
  obtain ⟨x, px⟩ := x
  obtain ⟨y, py⟩ := y
  simp only at HXY hs3 HQ3
  obtain rfl : y = x := HXY.out
  go_wp2_with fail
  refine (rtop_any _ r u G (y, py) (by exact HP3.out.rs.same ((Turned.refl _ _).alloc _)) (by have := HGl.out; omega) (by simp only; omega)).mono ?_
  rintro e w4 ⟨q4, rfl, ho4, hs4, hn4⟩
  obtain ⟨qa4, qc4, rfl, _, _⟩ := own_shape ho4
  have hsA : Same w3 w4 := ((Turned.refl _ _).alloc _).trans hs4 (fun _ h => h.elim)
  have hA4 : Blk w4 w3.heap.size 25 #[.int .i64 y.node, .bool y.whole, .int .i64 y.next, .slice (some ⟨q3, 0, none⟩) y.path.length y.path.length] := (Blk.new w3 25 _).turned hs4 (fun h => h)
  have HA4 := Lib.hid hA4
  have HO4 := Lib.hid (show RowAt w4 (.slice qa4 y.path.length qc4) y.path from ho4)
  have HS4 : Hid (Same w w4) := HS3.out.trans hsA (fun _ h => h.elim)
  have HP4 := Lib.hid (HP3.out.same hsA)
  have HD4 := Lib.hid (HD3.out.same hsA)
  have HQ4 : Hid (Blk w4 q3 3 (intVals y.path).toArray ∧ w.heap.size ≤ q3) := ⟨HQ3.out.1.turned hsA (fun h => h), HQ3.out.2⟩
  obtain ⟨a0, a1, a2, a3⟩ := hA4.four
  have af := fun i => hA4.frozen i
  have al := hA4.lt
  obtain ⟨o0, o1, o2, o3, o4, o5, o6⟩ := HD4.out.ob.seven
  have ol := HD4.out.ob.lt
  clear hA4 ho4 hs4 hn4 hsA
  have HA5 : Hid (Rd (w4.alloc (Obj.cells #[.int .i64 y.node, .bool y.whole, .int .i64 y.next, .slice qa4 y.path.length qc4] 25)) (.slice (some ⟨q3, 0, none⟩) y.path.length y.path.length) y.path) := PAt.rd (.inr ⟨q3, rfl, HQ4.out.1.alloc _⟩)
  have HB5 : Hid (Rd (w4.alloc (Obj.cells #[.int .i64 y.node, .bool y.whole, .int .i64 y.next, .slice qa4 y.path.length qc4] 25)) (.slice qa4 y.path.length qc4) y.path) := (HO4.out.same ((Turned.refl _ _).alloc _)).rd
  go_wp2_with fail
  refine (sameFrame_any _ y _ _ HA5.out HB5.out (by omega)).mono ?_
  rintro e w6 ⟨rfl, hs6⟩
  have hs46 : Same w4 w6 := ((Turned.refl _ _).alloc _).trans hs6 (fun _ h => h.elim)
  have hA6 := HA4.out.turned hs46 (fun h => h)
  obtain ⟨a0, a1, a2, a3⟩ := hA6.four
  have HQ6 : Hid (RowAt w6 (.slice (some ⟨q3, 0, none⟩) y.path.length y.path.length) y.path) := PAt.row (.inr ⟨q3, rfl, HQ4.out.1.turned hs46 (fun h => h)⟩) (by omega)
  have HS6 : Hid (Same w w6) := HS4.out.trans hs46 (fun _ h => h.elim)
  clear hs6 hs46 hA6
  go_wp2_with fail
  refine (spoil_any _ _ y.path.length _ HQ6.out (by omega)).mono ?_
  rintro e w7 ⟨rfl, ht7⟩
  have HS7 : Hid (Same w w7) := HS6.out.trans ht7 (fun i hi => .inr (by
    obtain rfl : q3 = i := by simpa [Value.ownBlock] using hi
    exact HQ4.out.2))
  clear ht7
  go_wp2_with fail
  go_ret
  exact ⟨rfl, _, Did.same H.out HS7.out, Okay.refl _ _⟩

set_option maxRecDepth 100000 in
set_option maxHeartbeats 4000000 in
theorem do_pop {x y : FV} {X0 : List Fr} (h : Pair w b v (F ++ [x]) r u (G ++ [y]) (X0 ++ [x.1])) (hB : ∀ k, pown b v (F ++ [x]) r u (G ++ [y]) k → B ≤ k) (hBw : B ≤ w.heap.size) (hp : ROld w B pv f.path) (hl : ROld w B lv L) (hs1 : f.path.length ≤ 4194304) (hs2 : X0.length ≤ 4194304) (hs3 : x.1.path.length ≤ 4194304) :
    Calls Try.prog 25 #[.pointer (some ⟨b, 0, none⟩), .pointer (some ⟨r, 0, none⟩), opval 2 two f pv lv] w fun e w' => ∃ X', e = .returned (.bool true) ∧ Did w w' b v (F ++ [x]) r u (G ++ [y]) X' ∧ Okay (X0 ++ [x.1]) X' f := by
  have H := Lib.hid h; have HB := Lib.hid hB; have HP := Lib.hid hp; have HL := Lib.hid hl; have HBW := Lib.hid hBw
  have HFl : Hid (F.length = X0.length) := by have := congrArg List.length h.fx; simpa [Hid] using this
  have HGl : Hid (G.length = X0.length) := by have := congrArg List.length h.gx; simpa [Hid] using this
  have HXY : Hid (y.1 = x.1) := by
    have h1 := h.gx
    simp only [List.map_append, List.map_cons, List.map_nil] at h1
    have h2 := List.append_inj_right' h1 rfl
    simpa [Hid] using h2
  have HR : Hid (Rd ((w.alloc (.cells (opcells 2 two f pv lv) 49)).alloc (.cells #[.int .i64 f.node, .bool f.whole, .int .i64 f.next, pv] 25)) pv f.path) := hp.rd.turned (S := fun _ => False) (((Turned.refl _ _).alloc _).alloc _) (fun _ _ h => h)
  obtain ⟨pA, pc, rfl, _⟩ := HP.out
  obtain ⟨lA, lc, rfl, _⟩ := HL.out
  clear h hB hBw hp hl
  go_enter Try.func25, Try.ntmps25
  go_wp2_with fail
  refine (lent_any _ _ f.path HR.out (by omega)).mono ?_
  rintro e w1 ⟨tv, g, rfl, hT, hs, hg⟩
  have hg2 : w.heap.size + 2 ≤ g := by simpa using hg
  obtain ⟨tc, rfl, _, _⟩ := (show LentAt w1 tv f.path g from hT)
  have hst := DoAt.start HBW.out HP.out HL.out hs hT hg2
  have HD := Lib.hid hst.1; have HS0 := Lib.hid hst.2
  have HPr := Lib.hid (H.out.same hst.2)
  obtain ⟨p0, p1, p2, p3⟩ := hst.1.fb.four
  obtain ⟨o0, o1, o2, o3, o4, o5, o6⟩ := hst.1.ob.seven
  have hfl := hst.1.fb.lt
  have hob1 : Blk w1 (w.heap.size + 1) 25 #[.int .i64 f.node, .bool f.whole, .int .i64 f.next, .slice pA f.path.length pc] := by
    have h := (Blk.new (w.alloc (.cells (opcells 2 two f (.slice pA f.path.length pc) (.slice lA L.length lc)) 49)) 25 #[.int .i64 f.node, .bool f.whole, .int .i64 f.next, .slice pA f.path.length pc]).turned hs (fun h => h)
    simpa using h
  have q3 := hob1.four.2.2.2
  have qf := fun i => hob1.frozen i
  have hlt1 := hob1.lt
  clear hst hs hT hg hob1
  obtain ⟨w2, hw2⟩ : ∃ w2, w2 = w1.setCell ⟨w.heap.size + 1, 3, none⟩ (.slice (some ⟨g, 0, none⟩) f.path.length tc) := ⟨_, rfl⟩
  rw [← hw2] at HD HS0 HPr p0 p1 p2 p3 o0 o1 o2 o3 o4 o5 o6 hfl
  have HW2 := Lib.hid hw2
  clear hw2
  have HPO : Hid (∀ k, pown b v (F ++ [x]) r u (G ++ [y]) k → B ≤ k ∧ k < w.heap.size) := fun k hk => ⟨HB.out k hk, H.out.lt k hk⟩
  go_wp2_with (first | rw [← HW2.out])
  refine (top_any _ b v F x HPr.out.sp (by have := HFl.out; omega) (by omega)).mono ?_
  rintro e w3 ⟨q3, rfl, hs3', hB3, hq3⟩
  have HS3 : Hid (Same w w3) := HS0.out.trans hs3' (fun _ h => h.elim)
  have HP3 := Lib.hid (HPr.out.same hs3')
  have HD3 := Lib.hid (HD.out.same hs3')
  have HQ3 : Hid (Blk w3 q3 3 (intVals x.1.path).toArray ∧ w.heap.size ≤ q3) := ⟨hB3, Nat.le_trans HS0.out.size hq3⟩
  clear hs3' hB3 hq3
  obtain ⟨x, px⟩ := x
  obtain ⟨y, py⟩ := y
  simp only at HXY hs3 HQ3
  obtain rfl : y = x := HXY.out
  go_wp2_with fail
  refine (rtop_any _ r u G (y, py) (by exact HP3.out.rs.same ((Turned.refl _ _).alloc _)) (by have := HGl.out; omega) (by simp only; omega)).mono ?_
  rintro e w4 ⟨q4, rfl, ho4, hs4, hn4⟩
  obtain ⟨qa4, qc4, rfl, _, _⟩ := own_shape ho4
  have hsA : Same w3 w4 := ((Turned.refl _ _).alloc _).trans hs4 (fun _ h => h.elim)
  have hA4 : Blk w4 w3.heap.size 25 #[.int .i64 y.node, .bool y.whole, .int .i64 y.next, .slice (some ⟨q3, 0, none⟩) y.path.length y.path.length] := (Blk.new w3 25 _).turned hs4 (fun h => h)
  have HA4 := Lib.hid hA4
  have HO4 := Lib.hid (show RowAt w4 (.slice qa4 y.path.length qc4) y.path from ho4)
  have HS4 : Hid (Same w w4) := HS3.out.trans hsA (fun _ h => h.elim)
  have HP4 := Lib.hid (HP3.out.same hsA)
  have HD4 := Lib.hid (HD3.out.same hsA)
  have HQ4 : Hid (Blk w4 q3 3 (intVals y.path).toArray ∧ w.heap.size ≤ q3) := ⟨HQ3.out.1.turned hsA (fun h => h), HQ3.out.2⟩
  obtain ⟨a0, a1, a2, a3⟩ := hA4.four
  have af := fun i => hA4.frozen i
  have al := hA4.lt
  obtain ⟨o0, o1, o2, o3, o4, o5, o6⟩ := HD4.out.ob.seven
  have ol := HD4.out.ob.lt
  clear hA4 ho4 hs4 hn4 hsA
  have HP5 := Lib.hid (HP4.out.same (w' := w4.alloc (Obj.cells #[.int .i64 y.node, .bool y.whole, .int .i64 y.next, .slice qa4 y.path.length qc4] 25)) ((Turned.refl _ _).alloc _))
  have HA5 := Lib.hid (HA4.out.alloc (Obj.cells #[.int .i64 y.node, .bool y.whole, .int .i64 y.next, .slice qa4 y.path.length qc4] 25))
  have HB5 := Lib.hid (Blk.new w4 25 #[.int .i64 y.node, .bool y.whole, .int .i64 y.next, .slice qa4 y.path.length qc4])
  have HS5 : Hid (Same w (w4.alloc (Obj.cells #[.int .i64 y.node, .bool y.whole, .int .i64 y.next, .slice qa4 y.path.length qc4] 25))) := HS4.out.alloc _
  have HW34 : Hid (w.heap.size ≤ w3.heap.size ∧ w3.heap.size < w4.heap.size) := ⟨HS3.out.size, al⟩
  go_wp2_with fail
  refine (pop_some _ b v F (y, px) HP5.out.sp (by have := HFl.out; omega)).mono ?_
  rintro e w6 ⟨v6, rfl, h6, ht6, hv6⟩
  have hbw : b < w.heap.size := (HPO.out b (.inl (.inl rfl))).2
  have hrw : r < w.heap.size := (HPO.out r (.inr (.inr (.inl (.inl rfl))))).2
  have HP0 := Lib.hid (HP5.out.sp.paths (y, px) (by simp))
  have hpx6 : PAt w6 px y.path := HP0.out.turned ht6 (fun k hk e => pat_foot HP0.out HP5.out.sp.blk HP5.out.sp.own k hk (.inl e))
  have HPX : Hid (∀ k, px.ownBlock = some k → pblocks (F ++ [(y, px)]) k) := fun k hk => ⟨(y, px), by simp, hk⟩
  have HPX6 := Lib.hid hpx6
  have hro := PAt.row hpx6 (by omega)
  obtain ⟨pxa, pxc, rfl, _, _⟩ := own_shape hro
  have hR6 := HP5.out.rs.turned ht6 (fun k hk hf => HP5.out.sep k (.inl hf) hk) (fun k hk hf => (HP5.out.fp k (.inl hf)).2 hk)
  have hA6 := HA5.out.turned ht6 (fun e => by have := HW34.out; omega)
  have hB6 := HB5.out.turned ht6 (fun e => by have := HW34.out; omega)
  have HR6 := Lib.hid hR6; have HA6 := Lib.hid hA6; have HB6 := Lib.hid hB6; have H6 := Lib.hid h6; have HV6 := Lib.hid hv6
  have HT6 : Hid (Turned (pown b v (F ++ [(y, .slice pxa y.path.length pxc)]) r u (G ++ [(y, py)])) w w6) := (HS5.out.mono (fun _ h => h.elim)).trans ht6 (fun i hi => .inl (.inl (.inl hi)))
  obtain ⟨a0, a1, a2, a3⟩ := hA6.four
  have af := fun i => hA6.frozen i
  have al := hA6.lt
  have bl6 := hB6.lt
  have HF6 : Hid (∀ k, foot b v6 k ∨ pblocks F k → k < w.heap.size) := fun k hk => (HPO.out k (by
    rcases hk with (e | e) | e
    · exact .inl (.inl e)
    · exact .inl (.inr (by rw [← HV6.out]; exact e))
    · exact .inr (.inl ((pblocks_snoc F _ k).2 (.inl e))))).2
  have HG6 : Hid (∀ k, foot r u k ∨ pblocks (G ++ [(y, py)]) k → k < w.heap.size) := fun k hk => (HPO.out k (.inr (.inr hk))).2
  clear h6 ht6 hv6 hpx6 hro hR6 hA6 hB6
  obtain ⟨wa, hwa⟩ : ∃ wa, wa = ((((w6.setCell ⟨w3.heap.size, 0, none⟩ (.int .i64 y.node)).setCell ⟨w3.heap.size, 1, none⟩ (.bool y.whole)).setCell ⟨w3.heap.size, 2, none⟩ (.int .i64 y.next)).setCell ⟨w3.heap.size, 3, none⟩ (.slice pxa y.path.length pxc)) := ⟨_, rfl⟩
  have ta : Turned (fun k => k = w3.heap.size) w6 wa := by rw [hwa]; exact set4_turned _ _ _ _ _ _
  have hAa : Blk wa w3.heap.size 25 #[.int .i64 y.node, .bool y.whole, .int .i64 y.next, .slice pxa y.path.length pxc] := by rw [hwa]; exact set4_blk HA6.out _ _ _ _
  have HAa := Lib.hid hAa
  have HBa := Lib.hid (HB6.out.turned ta (fun e => by have := HW34.out; omega))
  have HRa := Lib.hid (HR6.out.turned ta (fun k hk e => by have := HG6.out k (.inl hk); have := HW34.out; omega) (fun k hk e => by have := HG6.out k (.inr hk); have := HW34.out; omega))
  have HSa := Lib.hid (H6.out.turned ta (fun k hk e => by have := HF6.out k (.inl hk); have := HW34.out; omega) (fun k hk e => by have := HF6.out k (.inr hk); have := HW34.out; omega))
  have HTa := Lib.hid (HT6.out.trans ta (fun i hi => .inr (by subst hi; exact HW34.out.1)))
  have HPXa : Hid (PAt wa (.slice pxa y.path.length pxc) y.path) := HPX6.out.turned ta (fun k hk e => by have := (HPO.out k (.inr (.inl (HPX.out k hk)))).2; have := HW34.out; omega)
  have HWa := Lib.hid hwa
  clear ta hAa hwa
  go_wp2_with (first | rw [← HWa.out])
  refine (rpop_any _ r u G (y, py) HRa.out (by have := HGl.out; omega) (by simp only; omega)).mono ?_
  rintro e w7 ⟨q7, u7, rfl, h7, ho7, ht7, hu7, hn7⟩
  obtain ⟨qa7, qc7, rfl, _, _⟩ := own_shape ho7
  have hA7 := HAa.out.turned ht7 (fun e => by have := HW34.out; omega)
  have hB7 := HBa.out.turned ht7 (fun e => by have := HW34.out; omega)
  have HS7 := Lib.hid (HSa.out.turned ht7 (fun k hk e => by
    rcases hk with hk | hk
    · exact H.out.sep k (.inl hk) (.inl e)
    · exact H.out.sep k (.inr (by rw [← HV6.out]; exact hk)) (.inl e)) (fun k hk e => (H.out.rp k (.inl e)).1 ((pblocks_snoc F _ k).2 (.inl hk))))
  have HPX7 : Hid (PAt w7 (.slice pxa y.path.length pxc) y.path) := HPXa.out.turned ht7 (fun k hk e => (H.out.rp k (.inl e)).1 (HPX.out k hk))
  have HT7 := Lib.hid (HTa.out.trans ht7 (fun i hi => .inl (.inr (.inr (.inl (.inl hi))))))
  have HA7 := Lib.hid hA7; have HB7 := Lib.hid hB7; have H7 := Lib.hid h7; have HU7 := Lib.hid hu7
  have HO7 : Hid (RowAt w7 (.slice qa7 y.path.length qc7) y.path ∧ ∀ k, (Value.slice qa7 y.path.length qc7).ownBlock = some k → w4.heap.size < k) := ⟨ho7, fun k hk => by have h1 := hn7 k hk; have h2 := HBa.out.lt; omega⟩
  obtain ⟨a0, a1, a2, a3⟩ := hA7.four
  obtain ⟨b0, b1, b2, b3⟩ := hB7.four
  have bf := fun i => hB7.frozen i
  have al7 := hA7.lt
  have bl7 := hB7.lt
  have HG7 : Hid (∀ k, foot r u7 k ∨ pblocks G k → k < w.heap.size) := fun k hk => (HPO.out k (by
    rcases hk with (e | e) | e
    · exact .inr (.inr (.inl (.inl e)))
    · exact .inr (.inr (.inl (.inr (by rw [← HU7.out]; exact e))))
    · exact .inr (.inr (.inr ((pblocks_snoc G _ k).2 (.inl e)))))).2
  clear h7 ho7 ht7 hu7 hn7 hA7 hB7
  obtain ⟨wb, hwb⟩ : ∃ wb, wb = ((((w7.setCell ⟨w4.heap.size, 0, none⟩ (.int .i64 y.node)).setCell ⟨w4.heap.size, 1, none⟩ (.bool y.whole)).setCell ⟨w4.heap.size, 2, none⟩ (.int .i64 y.next)).setCell ⟨w4.heap.size, 3, none⟩ (.slice qa7 y.path.length qc7)) := ⟨_, rfl⟩
  have tb : Turned (fun k => k = w4.heap.size) w7 wb := by rw [hwb]; exact set4_turned _ _ _ _ _ _
  have hBb : Blk wb w4.heap.size 25 #[.int .i64 y.node, .bool y.whole, .int .i64 y.next, .slice qa7 y.path.length qc7] := by rw [hwb]; exact set4_blk HB7.out _ _ _ _
  have hAb := HA7.out.turned tb (fun e => by have := HW34.out; omega)
  have HAb := Lib.hid hAb
  obtain ⟨a0b, a1b, a2b, a3b⟩ := hAb.four
  obtain ⟨b0b, b1b, b2b, b3b⟩ := hBb.four
  have HRb := Lib.hid (H7.out.turned tb (fun k hk e => by have := HG7.out k (.inl hk); have := HW34.out; omega) (fun k hk e => by have := HG7.out k (.inr hk); have := HW34.out; omega))
  have HSb := Lib.hid (HS7.out.turned tb (fun k hk e => by have := HF6.out k (.inl hk); have := HW34.out; omega) (fun k hk e => by have := HF6.out k (.inr hk); have := HW34.out; omega))
  have HTb := Lib.hid (HT7.out.trans tb (fun i hi => .inr (by have := HW34.out; omega)))
  have HPXb : Hid (PAt wb (.slice pxa y.path.length pxc) y.path) := HPX7.out.turned tb (fun k hk e => by have := (HPO.out k (.inr (.inl (HPX.out k hk)))).2; have := HW34.out; omega)
  have HOb : Hid (Rd wb (.slice qa7 y.path.length qc7) y.path) := (HO7.out.1.turned tb (fun k hk e => by have := HO7.out.2 k hk; omega)).rd
  have HWb := Lib.hid hwb
  clear tb hBb hAb hwb
  go_wp2_with (first | rw [← HWb.out])
  refine (sameFrame_any _ y _ _ HPXb.out.rd HOb.out (by omega)).mono ?_
  rintro e w8 ⟨rfl, hs8⟩
  have hA8 := HAb.out.turned hs8 (fun h => h)
  obtain ⟨a0, a1, a2, a3⟩ := hA8.four
  have HPX8 : Hid (PAt w8 (.slice pxa y.path.length pxc) y.path) := HPXb.out.turned hs8 (fun _ _ h => h)
  have HS8 := Lib.hid (HSb.out.same hs8)
  have HR8 := Lib.hid (HRb.out.same hs8)
  have HT8 := Lib.hid (HTb.out.trans hs8 (fun _ h => h.elim))
  clear hs8 hA8
  go_wp2_with fail
  refine (spoil_any _ _ y.path.length _ (HPX8.out.row (by omega)) (by omega)).mono ?_
  rintro e w9 ⟨rfl, ht9⟩
  have HS9 := Lib.hid (HS8.out.turned ht9 (fun k hk e => by
    have h1 := HPX.out k e
    rcases hk with hk | hk
    · exact (H.out.fp k (.inl hk)).1 h1
    · exact (H.out.fp k (.inr (by rw [← HV6.out]; exact hk))).1 h1) (fun k ⟨z, hz, hk⟩ e => H.out.ap.init.2 z hz k hk e))
  have HR9 := Lib.hid (HR8.out.turned ht9 (fun k hk e => by
    have h1 := HPX.out k e
    rcases hk with hk | hk
    · exact (H.out.rp k (.inl hk)).1 h1
    · exact (H.out.rp k (.inr (by rw [← HU7.out]; exact hk))).1 h1) (fun k hk e => H.out.pg k (HPX.out k e) ((pblocks_snoc G _ k).2 (.inl hk))))
  have HT9 := Lib.hid (HT8.out.trans ht9 (fun i hi => .inl (.inr (.inl (HPX.out i hi)))))
  clear ht9
  go_wp2_with fail
  go_ret
  exact ⟨rfl, X0, Did.pop2 H.out HS9.out HR9.out HT9.out HV6.out HU7.out, by simp; omega, by rw [flatF_snoc_le]; omega⟩
set_option maxRecDepth 100000 in
set_option maxHeartbeats 4000000 in
theorem do_top0 (h : Pair w b v [] r u [] X) (hB : ∀ k, pown b v [] r u [] k → B ≤ k) (hBw : B ≤ w.heap.size) (hp : ROld w B pv f.path) (hl : ROld w B lv L) (hs1 : f.path.length ≤ 4194304) (_hs2 : X.length ≤ 4194304) :
    Calls Try.prog 25 #[.pointer (some ⟨b, 0, none⟩), .pointer (some ⟨r, 0, none⟩), opval 3 two f pv lv] w fun e w' => ∃ X', e = .returned (.bool true) ∧ Did w w' b v [] r u [] X' ∧ Okay X X' f := by
  have H := Lib.hid h; have HB := Lib.hid hB; have HP := Lib.hid hp; have HL := Lib.hid hl; have HBW := Lib.hid hBw
  have HR : Hid (Rd ((w.alloc (.cells (opcells 3 two f pv lv) 49)).alloc (.cells #[.int .i64 f.node, .bool f.whole, .int .i64 f.next, pv] 25)) pv f.path) := hp.rd.turned (S := fun _ => False) (((Turned.refl _ _).alloc _).alloc _) (fun _ _ h => h)
  obtain ⟨pA, pc, rfl, _⟩ := HP.out
  obtain ⟨lA, lc, rfl, _⟩ := HL.out
  clear h hB hBw hp hl
  go_enter Try.func25, Try.ntmps25
  go_wp2_with fail
  refine (lent_any _ _ f.path HR.out (by omega)).mono ?_
  rintro e w1 ⟨tv, g, rfl, hT, hs, hg⟩
  have hg2 : w.heap.size + 2 ≤ g := by simpa using hg
  obtain ⟨tc, rfl, _, _⟩ := (show LentAt w1 tv f.path g from hT)
  have hst := DoAt.start HBW.out HP.out HL.out hs hT hg2
  have HD := Lib.hid hst.1; have HS0 := Lib.hid hst.2
  have HPr := Lib.hid (H.out.same hst.2)
  obtain ⟨p0, p1, p2, p3⟩ := hst.1.fb.four
  obtain ⟨o0, o1, o2, o3, o4, o5, o6⟩ := hst.1.ob.seven
  have hfl := hst.1.fb.lt
  have hob1 : Blk w1 (w.heap.size + 1) 25 #[.int .i64 f.node, .bool f.whole, .int .i64 f.next, .slice pA f.path.length pc] := by
    have h := (Blk.new (w.alloc (.cells (opcells 3 two f (.slice pA f.path.length pc) (.slice lA L.length lc)) 49)) 25 #[.int .i64 f.node, .bool f.whole, .int .i64 f.next, .slice pA f.path.length pc]).turned hs (fun h => h)
    simpa using h
  have q3 := hob1.four.2.2.2
  have qf := fun i => hob1.frozen i
  have hlt1 := hob1.lt
  clear hst hs hT hg hob1
  obtain ⟨w2, hw2⟩ : ∃ w2, w2 = w1.setCell ⟨w.heap.size + 1, 3, none⟩ (.slice (some ⟨g, 0, none⟩) f.path.length tc) := ⟨_, rfl⟩
  rw [← hw2] at HD HS0 HPr p0 p1 p2 p3 o0 o1 o2 o3 o4 o5 o6 hfl
  have HW2 := Lib.hid hw2
  clear hw2
  have HPO : Hid (∀ k, pown b v [] r u [] k → B ≤ k ∧ k < w.heap.size) := fun k hk => ⟨HB.out k hk, H.out.lt k hk⟩
  go_wp2_with (first | rw [← HW2.out])
  refine (top_zero _ b v HPr.out.sp).mono ?_
  rintro e w3 ⟨rfl, hs3'⟩
  have HS3 : Hid (Same w w3) := HS0.out.trans hs3' (fun _ h => h.elim)
  have HP3 := Lib.hid (HPr.out.same hs3')
  have HD3 := Lib.hid (HD.out.same hs3')
  clear hs3'
  go_wp2_with fail
  refine (rtop_zero _ r u (by exact HP3.out.rs.same ((Turned.refl _ _).alloc _))).mono ?_
  rintro e w4 ⟨rfl, hs4⟩
  have hsA : Same w3 w4 := ((Turned.refl _ _).alloc _).trans hs4 (fun _ h => h.elim)
  have hA4 : Blk w4 w3.heap.size 25 #[.int .i64 0, .bool false, .int .i64 0, .slice none 0 0] := (Blk.new w3 25 _).turned hs4 (fun h => h)
  have HA4 := Lib.hid hA4
  have HS4 : Hid (Same w w4) := HS3.out.trans hsA (fun _ h => h.elim)
  have HP4 := Lib.hid (HP3.out.same hsA)
  have HD4 := Lib.hid (HD3.out.same hsA)
  obtain ⟨a0, a1, a2, a3⟩ := hA4.four
  have af := fun i => hA4.frozen i
  have al := hA4.lt
  obtain ⟨o0, o1, o2, o3, o4, o5, o6⟩ := HD4.out.ob.seven
  have ol := HD4.out.ob.lt
  clear hA4 hs4 hsA
  have HAz := Lib.hid (HA4.out.alloc (Obj.cells #[.int .i64 0, .bool false, .int .i64 0, .slice none 0 0] 25))
  have HSz : Hid (Same w (w4.alloc (Obj.cells #[.int .i64 0, .bool false, .int .i64 0, .slice none 0 0] 25))) := HS4.out.alloc _
  go_wp2_with fail
  refine (sameFrame_any _ fzero _ _ (PAt.rd (.inl ⟨rfl, rfl⟩)) (PAt.rd (.inl ⟨rfl, rfl⟩)) (by simp [fzero])).mono ?_
  rintro e w8 ⟨rfl, hs8⟩
  have hA8 := HAz.out.turned hs8 (fun h => h)
  obtain ⟨a0, a1, a2, a3⟩ := hA8.four
  have HS8 : Hid (Same w w8) := HSz.out.trans hs8 (fun _ h => h.elim)
  clear hs8 hA8
  go_wp2_with fail
  refine (spoil_any _ _ 0 [] (World.ownsRow_nil _ _ _ _) (by omega)).mono ?_
  rintro e w9 ⟨rfl, ht9⟩
  have HS9 : Hid (Same w w9) := HS8.out.trans ht9 (fun i hi => by simp [Value.ownBlock] at hi)
  clear ht9
  go_wp2_with fail
  go_ret
  first | exact ⟨rfl, X, Did.same H.out HS9.out, Okay.refl _ _⟩ | exact ⟨X, rfl, Did.same H.out HS9.out, Okay.refl _ _⟩

set_option maxRecDepth 100000 in
set_option maxHeartbeats 4000000 in
theorem do_pop0 (h : Pair w b v [] r u [] X) (hB : ∀ k, pown b v [] r u [] k → B ≤ k) (hBw : B ≤ w.heap.size) (hp : ROld w B pv f.path) (hl : ROld w B lv L) (hs1 : f.path.length ≤ 4194304) (_hs2 : X.length ≤ 4194304) :
    Calls Try.prog 25 #[.pointer (some ⟨b, 0, none⟩), .pointer (some ⟨r, 0, none⟩), opval 2 two f pv lv] w fun e w' => ∃ X', e = .returned (.bool true) ∧ Did w w' b v [] r u [] X' ∧ Okay X X' f := by
  have H := Lib.hid h; have HB := Lib.hid hB; have HP := Lib.hid hp; have HL := Lib.hid hl; have HBW := Lib.hid hBw
  have HR : Hid (Rd ((w.alloc (.cells (opcells 2 two f pv lv) 49)).alloc (.cells #[.int .i64 f.node, .bool f.whole, .int .i64 f.next, pv] 25)) pv f.path) := hp.rd.turned (S := fun _ => False) (((Turned.refl _ _).alloc _).alloc _) (fun _ _ h => h)
  obtain ⟨pA, pc, rfl, _⟩ := HP.out
  obtain ⟨lA, lc, rfl, _⟩ := HL.out
  clear h hB hBw hp hl
  go_enter Try.func25, Try.ntmps25
  go_wp2_with fail
  refine (lent_any _ _ f.path HR.out (by omega)).mono ?_
  rintro e w1 ⟨tv, g, rfl, hT, hs, hg⟩
  have hg2 : w.heap.size + 2 ≤ g := by simpa using hg
  obtain ⟨tc, rfl, _, _⟩ := (show LentAt w1 tv f.path g from hT)
  have hst := DoAt.start HBW.out HP.out HL.out hs hT hg2
  have HD := Lib.hid hst.1; have HS0 := Lib.hid hst.2
  have HPr := Lib.hid (H.out.same hst.2)
  obtain ⟨p0, p1, p2, p3⟩ := hst.1.fb.four
  obtain ⟨o0, o1, o2, o3, o4, o5, o6⟩ := hst.1.ob.seven
  have hfl := hst.1.fb.lt
  have hob1 : Blk w1 (w.heap.size + 1) 25 #[.int .i64 f.node, .bool f.whole, .int .i64 f.next, .slice pA f.path.length pc] := by
    have h := (Blk.new (w.alloc (.cells (opcells 2 two f (.slice pA f.path.length pc) (.slice lA L.length lc)) 49)) 25 #[.int .i64 f.node, .bool f.whole, .int .i64 f.next, .slice pA f.path.length pc]).turned hs (fun h => h)
    simpa using h
  have q3 := hob1.four.2.2.2
  have qf := fun i => hob1.frozen i
  have hlt1 := hob1.lt
  clear hst hs hT hg hob1
  obtain ⟨w2, hw2⟩ : ∃ w2, w2 = w1.setCell ⟨w.heap.size + 1, 3, none⟩ (.slice (some ⟨g, 0, none⟩) f.path.length tc) := ⟨_, rfl⟩
  rw [← hw2] at HD HS0 HPr p0 p1 p2 p3 o0 o1 o2 o3 o4 o5 o6 hfl
  have HW2 := Lib.hid hw2
  clear hw2
  have HPO : Hid (∀ k, pown b v [] r u [] k → B ≤ k ∧ k < w.heap.size) := fun k hk => ⟨HB.out k hk, H.out.lt k hk⟩
  go_wp2_with (first | rw [← HW2.out])
  refine (top_zero _ b v HPr.out.sp).mono ?_
  rintro e w3 ⟨rfl, hs3'⟩
  have HS3 : Hid (Same w w3) := HS0.out.trans hs3' (fun _ h => h.elim)
  have HP3 := Lib.hid (HPr.out.same hs3')
  have HD3 := Lib.hid (HD.out.same hs3')
  clear hs3'
  go_wp2_with fail
  refine (rtop_zero _ r u (by exact HP3.out.rs.same ((Turned.refl _ _).alloc _))).mono ?_
  rintro e w4 ⟨rfl, hs4⟩
  have hsA : Same w3 w4 := ((Turned.refl _ _).alloc _).trans hs4 (fun _ h => h.elim)
  have hA4 : Blk w4 w3.heap.size 25 #[.int .i64 0, .bool false, .int .i64 0, .slice none 0 0] := (Blk.new w3 25 _).turned hs4 (fun h => h)
  have HA4 := Lib.hid hA4
  have HS4 : Hid (Same w w4) := HS3.out.trans hsA (fun _ h => h.elim)
  have HP4 := Lib.hid (HP3.out.same hsA)
  have HD4 := Lib.hid (HD3.out.same hsA)
  obtain ⟨a0, a1, a2, a3⟩ := hA4.four
  have af := fun i => hA4.frozen i
  have al := hA4.lt
  obtain ⟨o0, o1, o2, o3, o4, o5, o6⟩ := HD4.out.ob.seven
  have ol := HD4.out.ob.lt
  clear hA4 hs4 hsA
  have HP5 := Lib.hid (HP4.out.same (w' := w4.alloc (Obj.cells #[.int .i64 0, .bool false, .int .i64 0, .slice none 0 0] 25)) ((Turned.refl _ _).alloc _))
  have HA5 := Lib.hid (HA4.out.alloc (Obj.cells #[.int .i64 0, .bool false, .int .i64 0, .slice none 0 0] 25))
  have HB5 := Lib.hid (Blk.new w4 25 #[.int .i64 0, .bool false, .int .i64 0, .slice none 0 0])
  have HS5 : Hid (Same w (w4.alloc (Obj.cells #[.int .i64 0, .bool false, .int .i64 0, .slice none 0 0] 25))) := HS4.out.alloc _
  have HW34 : Hid (w.heap.size ≤ w3.heap.size ∧ w3.heap.size < w4.heap.size) := ⟨HS3.out.size, al⟩
  go_wp2_with fail
  refine (pop_none _ b v HP5.out.sp).mono ?_
  rintro e w6 ⟨rfl, hs6⟩
  have hA6 := HA5.out.turned hs6 (fun h => h)
  have hB6 := HB5.out.turned hs6 (fun h => h)
  have HR6 := Lib.hid (HP5.out.rs.same hs6)
  have HA6 := Lib.hid hA6; have HB6 := Lib.hid hB6
  have HS6 : Hid (Same w w6) := HS5.out.trans hs6 (fun _ h => h.elim)
  have HRl : Hid (∀ k, foot r u k → k < w.heap.size) := fun k hk => (HPO.out k (.inr (.inr (.inl hk)))).2
  obtain ⟨a0, a1, a2, a3⟩ := hA6.four
  have af := fun i => hA6.frozen i
  have al := hA6.lt
  have bl6 := hB6.lt
  clear hs6 hA6 hB6
  obtain ⟨wa, hwa⟩ : ∃ wa, wa = ((((w6.setCell ⟨w3.heap.size, 0, none⟩ (.int .i64 fzero.node)).setCell ⟨w3.heap.size, 1, none⟩ (.bool fzero.whole)).setCell ⟨w3.heap.size, 2, none⟩ (.int .i64 fzero.next)).setCell ⟨w3.heap.size, 3, none⟩ (.slice none 0 0)) := ⟨_, rfl⟩
  have ta : Turned (fun k => k = w3.heap.size) w6 wa := by rw [hwa]; exact set4_turned _ _ _ _ _ _
  have hAa : Blk wa w3.heap.size 25 #[.int .i64 fzero.node, .bool fzero.whole, .int .i64 fzero.next, .slice none 0 0] := by rw [hwa]; exact set4_blk HA6.out _ _ _ _
  have HAa := Lib.hid hAa
  have HBa := Lib.hid (HB6.out.turned ta (fun e => by have := HW34.out; omega))
  have HRa := Lib.hid (HR6.out.turned ta (fun k hk e => by have := HRl.out k hk; have := HW34.out; omega) (fun k ⟨z, hz, hk⟩ e => by simp at hz))
  have HTa : Hid (Same w wa) := HS6.out.trans ta (fun i hi => .inr (by subst hi; exact HW34.out.1))
  have HWa := Lib.hid hwa
  clear ta hAa hwa
  go_wp2_with (first | rw [← HWa.out])
  refine (rpop_none _ r u HRa.out).mono ?_
  rintro e w7 ⟨rfl, hs7⟩
  have hA7 := HAa.out.turned hs7 (fun h => h)
  have hB7 := HBa.out.turned hs7 (fun h => h)
  have HA7 := Lib.hid hA7; have HB7 := Lib.hid hB7
  have HT7 : Hid (Same w w7) := HTa.out.trans hs7 (fun _ h => h.elim)
  obtain ⟨a0, a1, a2, a3⟩ := hA7.four
  obtain ⟨b0, b1, b2, b3⟩ := hB7.four
  have bf := fun i => hB7.frozen i
  have al7 := hA7.lt
  have bl7 := hB7.lt
  clear hs7 hA7 hB7
  obtain ⟨wb, hwb⟩ : ∃ wb, wb = ((((w7.setCell ⟨w4.heap.size, 0, none⟩ (.int .i64 fzero.node)).setCell ⟨w4.heap.size, 1, none⟩ (.bool fzero.whole)).setCell ⟨w4.heap.size, 2, none⟩ (.int .i64 fzero.next)).setCell ⟨w4.heap.size, 3, none⟩ (.slice none 0 0)) := ⟨_, rfl⟩
  have tb : Turned (fun k => k = w4.heap.size) w7 wb := by rw [hwb]; exact set4_turned _ _ _ _ _ _
  have hBb : Blk wb w4.heap.size 25 #[.int .i64 fzero.node, .bool fzero.whole, .int .i64 fzero.next, .slice none 0 0] := by rw [hwb]; exact set4_blk HB7.out _ _ _ _
  have hAb := HA7.out.turned tb (fun e => by have := HW34.out; omega)
  have HAz := Lib.hid hAb
  obtain ⟨a0b, a1b, a2b, a3b⟩ := hAb.four
  obtain ⟨b0b, b1b, b2b, b3b⟩ := hBb.four
  have HSz : Hid (Same w wb) := HT7.out.trans tb (fun i hi => .inr (by have := HW34.out; omega))
  have HWb := Lib.hid hwb
  clear tb hBb hAb hwb
  go_wp2_with (first | rw [← HWb.out])
  refine (sameFrame_any _ fzero _ _ (PAt.rd (.inl ⟨rfl, rfl⟩)) (PAt.rd (.inl ⟨rfl, rfl⟩)) (by simp [fzero])).mono ?_
  rintro e w8 ⟨rfl, hs8⟩
  have hA8 := HAz.out.turned hs8 (fun h => h)
  obtain ⟨a0, a1, a2, a3⟩ := hA8.four
  have HS8 : Hid (Same w w8) := HSz.out.trans hs8 (fun _ h => h.elim)
  clear hs8 hA8
  go_wp2_with fail
  refine (spoil_any _ _ 0 [] (World.ownsRow_nil _ _ _ _) (by omega)).mono ?_
  rintro e w9 ⟨rfl, ht9⟩
  have HS9 : Hid (Same w w9) := HS8.out.trans ht9 (fun i hi => by simp [Value.ownBlock] at hi)
  clear ht9
  go_wp2_with fail
  go_ret
  first | exact ⟨rfl, X, Did.same H.out HS9.out, Okay.refl _ _⟩ | exact ⟨X, rfl, Did.same H.out HS9.out, Okay.refl _ _⟩

end
end Go.Proofs.Ythfhjopofpffgaa

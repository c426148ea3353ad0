/-
  The law's 'do': the calls 4 and 8.
-/
import Derived.Test.YthfhjopofpffgaaDo
namespace Go.Proofs.Ythfhjopofpffgaa
open Go.RowKit
section
variable {w : World} {b r : Nat} {v u : Value} {F G : List FV} {X : List Fr} {B : Nat} {kind : Int} {two : Bool} {f : Fr} {pv lv : Value} {L : List Int}

set_option maxRecDepth 100000 in
set_option maxHeartbeats 4000000 in
theorem do_turn0 (h : Pair w b v [] r u [] X) (hB : ∀ k, pown b v [] r u [] k → B ≤ k) (hBw : B ≤ w.heap.size) (hp : ROld w B pv f.path) (hl : ROld w B lv L) (hs1 : f.path.length ≤ 4194304) (_hs2 : X.length ≤ 4194304) :
    Calls Try.prog 25 #[.pointer (some ⟨b, 0, none⟩), .pointer (some ⟨r, 0, none⟩), opval 4 two f pv lv] w fun e w' => ∃ X', e = .returned (.bool true) ∧ Did w w' b v [] r u [] X' ∧ Okay X X' f := by
  have H := Lib.hid h; have HB := Lib.hid hB; have HP := Lib.hid hp; have HL := Lib.hid hl; have HBW := Lib.hid hBw
  have HR : Hid (Rd ((w.alloc (.cells (opcells 4 two f pv lv) 49)).alloc (.cells #[.int .i64 f.node, .bool f.whole, .int .i64 f.next, pv] 25)) pv f.path) := hp.rd.turned (S := fun _ => False) (((Turned.refl _ _).alloc _).alloc _) (fun _ _ h => h)
  obtain ⟨pA, pc, rfl, _⟩ := HP.out
  obtain ⟨lA, lc, rfl, _⟩ := HL.out
  clear h hB hBw hp hl
  go_enter Try.func25, Try.ntmps25
  go_wp2_with fail
  refine (lent_any _ _ f.path HR.out (by omega)).mono ?_
  rintro e w1 ⟨tv, g, rfl, hT, hs, hg⟩
  have hg2 : w.heap.size + 2 ≤ g := by simpa using hg
  obtain ⟨tc, rfl, _, _⟩ := (show LentAt w1 tv f.path g from hT)
  have hst := DoAt.start HBW.out HP.out HL.out hs hT hg2
  have HD := Lib.hid hst.1; have HS0 := Lib.hid hst.2
  have HPr := Lib.hid (H.out.same hst.2)
  obtain ⟨p0, p1, p2, p3⟩ := hst.1.fb.four
  obtain ⟨o0, o1, o2, o3, o4, o5, o6⟩ := hst.1.ob.seven
  have hfl := hst.1.fb.lt
  have hob1 : Blk w1 (w.heap.size + 1) 25 #[.int .i64 f.node, .bool f.whole, .int .i64 f.next, .slice pA f.path.length pc] := by
    have h := (Blk.new (w.alloc (.cells (opcells 4 two f (.slice pA f.path.length pc) (.slice lA L.length lc)) 49)) 25 #[.int .i64 f.node, .bool f.whole, .int .i64 f.next, .slice pA f.path.length pc]).turned hs (fun h => h)
    simpa using h
  have q3 := hob1.four.2.2.2
  have qf := fun i => hob1.frozen i
  have hlt1 := hob1.lt
  clear hst hs hT hg hob1
  obtain ⟨w2, hw2⟩ : ∃ w2, w2 = w1.setCell ⟨w.heap.size + 1, 3, none⟩ (.slice (some ⟨g, 0, none⟩) f.path.length tc) := ⟨_, rfl⟩
  rw [← hw2] at HD HS0 HPr p0 p1 p2 p3 o0 o1 o2 o3 o4 o5 o6 hfl
  have HW2 := Lib.hid hw2
  clear hw2
  have HPO : Hid (∀ k, pown b v [] r u [] k → B ≤ k ∧ k < w.heap.size) := fun k hk => ⟨HB.out k hk, H.out.lt k hk⟩
  go_wp2_with (first | rw [← HW2.out])
  refine (turn_none _ b v HPr.out.sp f _).mono ?_
  rintro e w3 ⟨rfl, ht3⟩
  have HD3 := Lib.hid (HD.out.same ht3)
  have HP3 := Lib.hid (HPr.out.same ht3)
  have HS3 : Hid (Same w w3) := HS0.out.trans ht3 (fun _ h => h.elim)
  obtain ⟨p0, p1, p2, p3⟩ := HD3.out.fb.four
  obtain ⟨o0, o1, o2, o3, o4, o5, o6⟩ := HD3.out.ob.seven
  clear ht3
  go_wp2_with fail
  refine (rturn_none _ r u HP3.out.rs f _).mono ?_
  rintro e w4 ⟨rfl, ht4⟩
  have HD4 := Lib.hid (HD3.out.same ht4)
  have HS4 : Hid (Same w w4) := HS3.out.trans ht4 (fun _ h => h.elim)
  obtain ⟨p0, p1, p2, p3⟩ := HD4.out.fb.four
  obtain ⟨o0, o1, o2, o3, o4, o5, o6⟩ := HD4.out.ob.seven
  clear ht4
  go_wp2_with fail
  refine (held_any _ _ _ f.path g HD4.out.lent (HD4.out.rp.rds (fun k hk => by have := HBW.out; omega)) (by omega)).mono ?_
  rintro e w5 ⟨rfl, ht5⟩
  have HS5 : Hid (Same w w5) := HS4.out.trans ht5 (fun i hi => .inr (by omega))
  clear ht5
  go_wp2_with fail
  go_ret
  exact ⟨X, rfl, Did.same H.out HS5.out, Okay.refl _ _⟩

set_option maxRecDepth 100000 in
set_option maxHeartbeats 4000000 in
theorem do_turn1 {x y : FV} {X0 : List Fr} (h : Pair w b v (F ++ [x]) r u (G ++ [y]) (X0 ++ [x.1])) (hB : ∀ k, pown b v (F ++ [x]) r u (G ++ [y]) k → B ≤ k) (hBw : B ≤ w.heap.size) (hp : ROld w B pv f.path) (hl : ROld w B lv L) (hs1 : f.path.length ≤ 4194304) (hs2 : X0.length ≤ 4194304) :
    Calls Try.prog 25 #[.pointer (some ⟨b, 0, none⟩), .pointer (some ⟨r, 0, none⟩), opval 4 two f pv lv] w fun e w' => ∃ X', e = .returned (.bool true) ∧ Did w w' b v (F ++ [x]) r u (G ++ [y]) X' ∧ Okay (X0 ++ [x.1]) X' f := by
  have H := Lib.hid h; have HB := Lib.hid hB; have HP := Lib.hid hp; have HL := Lib.hid hl; have HBW := Lib.hid hBw
  have HFl : Hid (F.length = X0.length) := by have := congrArg List.length h.fx; simpa [Hid] using this
  have HGl : Hid (G.length = X0.length) := by have := congrArg List.length h.gx; simpa [Hid] using this
  have HR : Hid (Rd ((w.alloc (.cells (opcells 4 two f pv lv) 49)).alloc (.cells #[.int .i64 f.node, .bool f.whole, .int .i64 f.next, pv] 25)) pv f.path) := hp.rd.turned (S := fun _ => False) (((Turned.refl _ _).alloc _).alloc _) (fun _ _ h => h)
  obtain ⟨pA, pc, rfl, _⟩ := HP.out
  obtain ⟨lA, lc, rfl, _⟩ := HL.out
  clear h hB hBw hp hl
  go_enter Try.func25, Try.ntmps25
  go_wp2_with fail
  refine (lent_any _ _ f.path HR.out (by omega)).mono ?_
  rintro e w1 ⟨tv, g, rfl, hT, hs, hg⟩
  have hg2 : w.heap.size + 2 ≤ g := by simpa using hg
  obtain ⟨tc, rfl, _, _⟩ := (show LentAt w1 tv f.path g from hT)
  have hst := DoAt.start HBW.out HP.out HL.out hs hT hg2
  have HD := Lib.hid hst.1; have HS0 := Lib.hid hst.2
  have HPr := Lib.hid (H.out.same hst.2)
  obtain ⟨p0, p1, p2, p3⟩ := hst.1.fb.four
  obtain ⟨o0, o1, o2, o3, o4, o5, o6⟩ := hst.1.ob.seven
  have hfl := hst.1.fb.lt
  have hob1 : Blk w1 (w.heap.size + 1) 25 #[.int .i64 f.node, .bool f.whole, .int .i64 f.next, .slice pA f.path.length pc] := by
    have h := (Blk.new (w.alloc (.cells (opcells 4 two f (.slice pA f.path.length pc) (.slice lA L.length lc)) 49)) 25 #[.int .i64 f.node, .bool f.whole, .int .i64 f.next, .slice pA f.path.length pc]).turned hs (fun h => h)
    simpa using h
  have q3 := hob1.four.2.2.2
  have qf := fun i => hob1.frozen i
  have hlt1 := hob1.lt
  clear hst hs hT hg hob1
  obtain ⟨w2, hw2⟩ : ∃ w2, w2 = w1.setCell ⟨w.heap.size + 1, 3, none⟩ (.slice (some ⟨g, 0, none⟩) f.path.length tc) := ⟨_, rfl⟩
  rw [← hw2] at HD HS0 HPr p0 p1 p2 p3 o0 o1 o2 o3 o4 o5 o6 hfl
  have HW2 := Lib.hid hw2
  clear hw2
  have HPO : Hid (∀ k, pown b v (F ++ [x]) r u (G ++ [y]) k → B ≤ k ∧ k < w.heap.size) := fun k hk => ⟨HB.out k hk, H.out.lt k hk⟩
  go_wp2_with (first | rw [← HW2.out])
  refine (turn_any _ b v F x HPr.out.sp (by have := HFl.out; omega) f _ HD.out.lent.rd (by omega)).mono ?_
  rintro e w3 ⟨pv3, rfl, h3, ht3, hq3⟩
  have HD3 := Lib.hid (HD.out.keep ht3 (fun k hk => (HPO.out k (.inl hk)).imp id .inl))
  have HR3 := Lib.hid (HPr.out.rs.turned ht3 (fun k hk hf => HPr.out.sep k hf hk) (fun k hk hf => (HPr.out.fp k hf).2 hk))
  have HU3 : Hid (SpAt w3 b v (F ++ [(f, pv3)]) ∧ Turned (foot b v) w2 w3 ∧ ∃ g, pv3 = .slice (some ⟨g, 0, none⟩) f.path.length f.path.length ∧ w2.heap.size ≤ g) := ⟨h3, ht3, hq3⟩
  obtain ⟨p0, p1, p2, p3⟩ := HD3.out.fb.four
  obtain ⟨o0, o1, o2, o3, o4, o5, o6⟩ := HD3.out.ob.seven
  clear h3 ht3 hq3
  go_wp2_with fail
  refine (rturn_any _ r u G y HR3.out (by have := HGl.out; omega) f _ HD3.out.rp.rd (by omega)).mono ?_
  rintro e w4 ⟨pu4, rfl, h4, ht4, hq4⟩
  have HD4 := Lib.hid (HD3.out.keep ht4 (fun k hk => (HPO.out k (.inr (.inr (.inl hk)))).imp id .inl))
  have HDid := Lib.hid (Did.turn HPr.out HU3.out.1 HU3.out.2.1 HU3.out.2.2 (Turned.refl _ _) h4 ht4 hq4)
  obtain ⟨p0, p1, p2, p3⟩ := HD4.out.fb.four
  obtain ⟨o0, o1, o2, o3, o4, o5, o6⟩ := HD4.out.ob.seven
  clear h4 ht4 hq4
  go_wp2_with fail
  refine (held_any _ _ _ f.path g HD4.out.lent (HD4.out.rp.rds (fun k hk => by have := HBW.out; omega)) (by omega)).mono ?_
  rintro e w5 ⟨rfl, ht5⟩
  have HFin := Lib.hid (HDid.out.held HS0.out ht5 (by omega) HD.out.lent.lt (fun k hk => (HPO.out k hk).2))
  clear ht5
  go_wp2_with fail
  go_ret
  exact ⟨X0 ++ [f], rfl, HFin.out, by simp, by rw [flatF_snoc_le, flatF_snoc_le]; omega⟩

set_option maxRecDepth 100000 in
set_option maxHeartbeats 4000000 in
theorem do_move (h : Pair w b v F r u G X) (hB : ∀ k, pown b v F r u G k → B ≤ k) (hBw : B ≤ w.heap.size) (hp : ROld w B pv f.path) (hl : ROld w B lv L) (hs1 : f.path.length ≤ 4194304) (hs2 : X.length ≤ 4194304) (hs3 : L.length ≤ 4194304) :
    Calls Try.prog 25 #[.pointer (some ⟨b, 0, none⟩), .pointer (some ⟨r, 0, none⟩), opval 8 two f pv lv] w fun e w' => ∃ X', e = .returned (.bool true) ∧ Did w w' b v F r u G X' ∧ Okay X X' f := by
  have H := Lib.hid h; have HB := Lib.hid hB; have HP := Lib.hid hp; have HL := Lib.hid hl; have HBW := Lib.hid hBw
  have HFl : Hid (F.length = X.length) := by rw [← h.fx]; simp [Hid]
  have HGl : Hid (G.length = X.length) := by rw [← h.gx]; simp [Hid]
  have HR : Hid (Rd ((w.alloc (.cells (opcells 8 two f pv lv) 49)).alloc (.cells #[.int .i64 f.node, .bool f.whole, .int .i64 f.next, pv] 25)) pv f.path) := hp.rd.turned (S := fun _ => False) (((Turned.refl _ _).alloc _).alloc _) (fun _ _ h => h)
  obtain ⟨pA, pc, rfl, _⟩ := HP.out
  obtain ⟨lA, lc, rfl, _⟩ := HL.out
  clear h hB hBw hp hl
  go_enter Try.func25, Try.ntmps25
  go_wp2_with fail
  refine (lent_any _ _ f.path HR.out (by omega)).mono ?_
  rintro e w1 ⟨tv, g, rfl, hT, hs, hg⟩
  have hg2 : w.heap.size + 2 ≤ g := by simpa using hg
  obtain ⟨tc, rfl, _, _⟩ := (show LentAt w1 tv f.path g from hT)
  have hst := DoAt.start HBW.out HP.out HL.out hs hT hg2
  have HD := Lib.hid hst.1; have HS0 := Lib.hid hst.2
  have HPr := Lib.hid (H.out.same hst.2)
  obtain ⟨p0, p1, p2, p3⟩ := hst.1.fb.four
  obtain ⟨o0, o1, o2, o3, o4, o5, o6⟩ := hst.1.ob.seven
  have hfl := hst.1.fb.lt
  have hob1 : Blk w1 (w.heap.size + 1) 25 #[.int .i64 f.node, .bool f.whole, .int .i64 f.next, .slice pA f.path.length pc] := by
    have h := (Blk.new (w.alloc (.cells (opcells 8 two f (.slice pA f.path.length pc) (.slice lA L.length lc)) 49)) 25 #[.int .i64 f.node, .bool f.whole, .int .i64 f.next, .slice pA f.path.length pc]).turned hs (fun h => h)
    simpa using h
  have q3 := hob1.four.2.2.2
  have qf := fun i => hob1.frozen i
  have hlt1 := hob1.lt
  clear hst hs hT hg hob1
  obtain ⟨w2, hw2⟩ : ∃ w2, w2 = w1.setCell ⟨w.heap.size + 1, 3, none⟩ (.slice (some ⟨g, 0, none⟩) f.path.length tc) := ⟨_, rfl⟩
  rw [← hw2] at HD HS0 HPr p0 p1 p2 p3 o0 o1 o2 o3 o4 o5 o6 hfl
  have HW2 := Lib.hid hw2
  clear hw2
  have HPO : Hid (∀ k, pown b v F r u G k → B ≤ k ∧ k < w.heap.size) := fun k hk => ⟨HB.out k hk, H.out.lt k hk⟩
  go_wp2_with (first | rw [← HW2.out])
  refine (lent_any _ _ L HD.out.rl.rd (by omega)).mono ?_
  rintro e w3 ⟨tv, g3, rfl, hT3, hs3, hg3⟩
  obtain ⟨tc3, rfl, _, _⟩ := (show LentAt w3 tv L g3 from hT3)
  have HD3 := Lib.hid (HD.out.same hs3)
  have HP3 := Lib.hid (HPr.out.same hs3)
  have HS3 : Hid (Same w w3) := HS0.out.trans hs3 (fun _ h => h.elim)
  have HT3 := Lib.hid hT3
  have HG3 : Hid (g < g3 ∧ w.heap.size ≤ g3) := by
    have h1 := HD.out.lent.lt
    have h2 := HS0.out.size
    exact ⟨by omega, by omega⟩
  obtain ⟨p0, p1, p2, p3⟩ := HD3.out.fb.four
  obtain ⟨o0, o1, o2, o3, o4, o5, o6⟩ := HD3.out.ob.seven
  clear hT3 hs3 hg3
  go_wp2_with fail
  refine (move_c _ b v F HP3.out.sp _ L (HT3.out.rd.rds (fun k hk hf => by
    obtain rfl : g3 = k := by simpa [Value.ownBlock] using hk
    have h1 := (HPO.out _ (.inl hf)).2
    have h2 := HG3.out.2
    omega)) (by omega) (by have := HFl.out; omega)).mono ?_
  rintro e w4 ⟨rfl, ht4, hm4⟩
  have HD4 := Lib.hid (HD3.out.keep ht4 (fun k hk => (HPO.out k (.inl hk)).imp id .inl))
  have HR4 := Lib.hid (HP3.out.rs.turned ht4 (fun k hk hf => HP3.out.sep k hf hk) (fun k hk hf => (HP3.out.fp k hf).2 hk))
  have HM4 := Lib.hid hm4; have HTu4 := Lib.hid ht4
  have HT4 := Lib.hid (HT3.out.turned ht4 (fun hf => by
    have h1 := (HPO.out _ (.inl hf)).2
    have h2 := HG3.out.2
    omega))
  have HX : Hid (mvC G.length L = mvC F.length L) := by rw [HGl.out, HFl.out]; rfl
  obtain ⟨p0, p1, p2, p3⟩ := HD4.out.fb.four
  obtain ⟨o0, o1, o2, o3, o4, o5, o6⟩ := HD4.out.ob.seven
  clear ht4 hm4
  go_wp2_with fail
  refine (rmove_c _ r u G HR4.out _ L (HD4.out.rl.rds (fun k hk => (HPO.out k (.inr (.inr (.inl hk)))).1)) (by omega) (by have := HGl.out; omega)).mono ?_
  rintro e w5 ⟨rfl, ht5, hm5⟩
  rw [HX.out] at hm5 ⊢
  have HD5 := Lib.hid (HD4.out.keep ht5 (fun k hk => (HPO.out k (.inr (.inr (.inl hk)))).imp id .inl))
  have HT5 := Lib.hid (HT4.out.turned ht5 (fun hf => by
    have h1 := (HPO.out _ (.inr (.inr (.inl hf)))).2
    have h2 := HG3.out.2
    omega))
  have HDid : Hid (∃ X', Did w3 w5 b v F r u G X' ∧ Okay X X' f) := by
    rcases HM4.out with ⟨e4, h4⟩ | ⟨e4, h4⟩ <;> rcases hm5 with ⟨e5, h5⟩ | ⟨e5, h5⟩
    · exact ⟨_, Did.move HP3.out h4 HTu4.out (Turned.refl _ _) h5 ht5, by simp [mvF], by rw [flatF_mvF]; omega⟩
    · exact absurd e4 e5
    · exact absurd e5 e4
    · exact ⟨X, Did.both HP3.out h4 HTu4.out (Turned.refl _ _) h5 ht5 HP3.out.fx HP3.out.gx HP3.out.ap (fun _ hk => .inl hk) (fun _ hk => .inl hk) (fun _ hk => .inl hk) (fun _ hk => .inl hk), Okay.refl _ _⟩
  obtain ⟨p0, p1, p2, p3⟩ := HD5.out.fb.four
  obtain ⟨o0, o1, o2, o3, o4, o5, o6⟩ := HD5.out.ob.seven
  clear ht5 hm5
  go_wp2_with fail
  refine (held_any _ _ _ L g3 HT5.out (HD5.out.rl.rds (fun k hk => by have := HBW.out; have := HG3.out; omega)) (by omega)).mono ?_
  rintro e w6 ⟨rfl, ht6⟩
  obtain ⟨X', hd, hok⟩ := HDid.out
  have HFin := Lib.hid (hd.held HS3.out ht6 HG3.out.2 HT3.out.lt (fun k hk => (HPO.out k hk).2))
  have HOk := Lib.hid hok
  clear ht6 hd hok
  go_wp2_with fail
  go_ret
  exact ⟨X', rfl, HFin.out, HOk.out⟩
end
end Go.Proofs.Ythfhjopofpffgaa

/-
  The law's 'do': the calls 5, 6, 9, and what is none.
-/
import Derived.Test.YthfhjopofpffgaaDo
import Derived.BigQuiet
import Derived.Test.YthfhjopofpffgaaBulk
namespace Go.Proofs.Ythfhjopofpffgaa
open Go.RowKit
section
variable {w : World} {b r : Nat} {v u : Value} {F G : List FV} {X : List Fr} {B : Nat} {kind : Int} {two : Bool} {f : Fr} {pv lv : Value} {L : List Int}

set_option maxRecDepth 100000 in
set_option maxHeartbeats 4000000 in
theorem do_path (h : Pair w b v F r u G X) (hB : ∀ k, pown b v F r u G k → B ≤ k) (hBw : B ≤ w.heap.size) (hp : ROld w B pv f.path) (hl : ROld w B lv L) (hs1 : f.path.length ≤ 4194304) (hs2 : X.length ≤ 4194304) (hs3 : (flatF X).length ≤ 4194304) :
    Calls Try.prog 25 #[.pointer (some ⟨b, 0, none⟩), .pointer (some ⟨r, 0, none⟩), opval 5 two f pv lv] w fun e w' => ∃ X', e = .returned (.bool true) ∧ Did w w' b v F r u G X' ∧ Okay X X' f := by
  have H := Lib.hid h; have HB := Lib.hid hB; have HP := Lib.hid hp; have HL := Lib.hid hl; have HBW := Lib.hid hBw
  have HFl : Hid (F.length = X.length) := by rw [← h.fx]; simp [Hid]
  have HGl : Hid (G.length = X.length) := by rw [← h.gx]; simp [Hid]
  have HR : Hid (Rd ((w.alloc (.cells (opcells 5 two f pv lv) 49)).alloc (.cells #[.int .i64 f.node, .bool f.whole, .int .i64 f.next, pv] 25)) pv f.path) := hp.rd.turned (S := fun _ => False) (((Turned.refl _ _).alloc _).alloc _) (fun _ _ h => h)
  obtain ⟨pA, pc, rfl, _⟩ := HP.out
  obtain ⟨lA, lc, rfl, _⟩ := HL.out
  clear h hB hBw hp hl
  go_enter Try.func25, Try.ntmps25
  go_wp2_with fail
  refine (lent_any _ _ f.path HR.out (by omega)).mono ?_
  rintro e w1 ⟨tv, g, rfl, hT, hs, hg⟩
  have hg2 : w.heap.size + 2 ≤ g := by simpa using hg
  obtain ⟨tc, rfl, _, _⟩ := (show LentAt w1 tv f.path g from hT)
  have hst := DoAt.start HBW.out HP.out HL.out hs hT hg2
  have HD := Lib.hid hst.1; have HS0 := Lib.hid hst.2
  have HPr := Lib.hid (H.out.same hst.2)
  obtain ⟨p0, p1, p2, p3⟩ := hst.1.fb.four
  obtain ⟨o0, o1, o2, o3, o4, o5, o6⟩ := hst.1.ob.seven
  have hfl := hst.1.fb.lt
  have hob1 : Blk w1 (w.heap.size + 1) 25 #[.int .i64 f.node, .bool f.whole, .int .i64 f.next, .slice pA f.path.length pc] := by
    have h := (Blk.new (w.alloc (.cells (opcells 5 two f (.slice pA f.path.length pc) (.slice lA L.length lc)) 49)) 25 #[.int .i64 f.node, .bool f.whole, .int .i64 f.next, .slice pA f.path.length pc]).turned hs (fun h => h)
    simpa using h
  have q3 := hob1.four.2.2.2
  have qf := fun i => hob1.frozen i
  have hlt1 := hob1.lt
  clear hst hs hT hg hob1
  obtain ⟨w2, hw2⟩ : ∃ w2, w2 = w1.setCell ⟨w.heap.size + 1, 3, none⟩ (.slice (some ⟨g, 0, none⟩) f.path.length tc) := ⟨_, rfl⟩
  rw [← hw2] at HD HS0 HPr p0 p1 p2 p3 o0 o1 o2 o3 o4 o5 o6 hfl
  have HW2 := Lib.hid hw2
  clear hw2
  have HPO : Hid (∀ k, pown b v F r u G k → B ≤ k ∧ k < w.heap.size) := fun k hk => ⟨HB.out k hk, H.out.lt k hk⟩
  go_wp2_with (first | rw [← HW2.out])
  have HFF : Hid (flat G = flat F) := (flat_map G X H.out.gx).trans (flat_map F X H.out.fx).symm
  have HLL : Hid ((flat F).length ≤ 4194304) := by rw [flat_map F X H.out.fx]; exact hs3
  refine (path_any _ b v F HPr.out.sp (by have := HFl.out; omega) (fun x hx => by have h1 := path_le_flat x.1 (show x.1 ∈ X from H.out.fx ▸ List.mem_map_of_mem hx); omega) (by have := HLL.out; omega)).mono ?_
  rintro e w3 ⟨lv3, rfl, hs3', ho3, hn3⟩
  have HD3 := Lib.hid (HD.out.same hs3')
  have HP3 := Lib.hid (HPr.out.same hs3')
  have HS3 : Hid (Same w w3) := HS0.out.trans hs3' (fun _ h => h.elim)
  have HO3 := Lib.hid (show RowAt w3 lv3 (flat F) from ho3)
  have HN3 : Hid (∀ k, lv3.ownBlock = some k → w.heap.size ≤ k) := fun k hk => Nat.le_trans HS0.out.size (hn3 k hk)
  clear hs3' ho3 hn3
  go_wp2_with fail
  refine (rpath_any _ r u G HP3.out.rs (by have := HGl.out; omega) (by rw [HFF.out]; have := HLL.out; omega)).mono ?_
  rintro e w4 ⟨rv4, rfl, hg4⟩
  rw [HFF.out] at hg4
  have HS4 : Hid (Same w w4) := HS3.out.trans hg4.same (fun _ h => h.elim)
  have HO4 := Lib.hid (HO3.out.same hg4.same)
  have HG4 := Lib.hid hg4
  clear hg4
  go_wp2_with fail
  refine (sameInts_any _ _ _ (flat F) HO4.out.rd HG4.out.row.rd (by have := HLL.out; omega)).mono ?_
  rintro e w5 ⟨rfl, n5, rfl⟩
  go_wp2_with fail
  refine (spoil_any _ lv3 (flat F).length _ (World.ownsRow.turned HO4.out ((Turned.refl (fun _ => False) w4).drewN n5) (fun _ _ h => h)) (by have := HLL.out; omega)).mono ?_
  rintro e w6 ⟨rfl, ht6⟩
  have HS6 : Hid (Same w w6) := (HS4.out.drewN n5).trans ht6 (fun i hi => .inr (HN3.out i hi))
  clear ht6
  go_wp2_with fail
  go_ret
  exact ⟨X, rfl, Did.same H.out HS6.out, Okay.refl _ _⟩

set_option maxRecDepth 100000 in
set_option maxHeartbeats 4000000 in
theorem do_nodes (h : Pair w b v F r u G X) (hB : ∀ k, pown b v F r u G k → B ≤ k) (hBw : B ≤ w.heap.size) (hp : ROld w B pv f.path) (hl : ROld w B lv L) (hs1 : f.path.length ≤ 4194304) (hs2 : X.length ≤ 4194304) (hs3 : (flatF X).length ≤ 4194304) :
    Calls Try.prog 25 #[.pointer (some ⟨b, 0, none⟩), .pointer (some ⟨r, 0, none⟩), opval 6 two f pv lv] w fun e w' => ∃ X', e = .returned (.bool true) ∧ Did w w' b v F r u G X' ∧ Okay X X' f := by
  have H := Lib.hid h; have HB := Lib.hid hB; have HP := Lib.hid hp; have HL := Lib.hid hl; have HBW := Lib.hid hBw
  have HFl : Hid (F.length = X.length) := by rw [← h.fx]; simp [Hid]
  have HGl : Hid (G.length = X.length) := by rw [← h.gx]; simp [Hid]
  have HR : Hid (Rd ((w.alloc (.cells (opcells 6 two f pv lv) 49)).alloc (.cells #[.int .i64 f.node, .bool f.whole, .int .i64 f.next, pv] 25)) pv f.path) := hp.rd.turned (S := fun _ => False) (((Turned.refl _ _).alloc _).alloc _) (fun _ _ h => h)
  obtain ⟨pA, pc, rfl, _⟩ := HP.out
  obtain ⟨lA, lc, rfl, _⟩ := HL.out
  clear h hB hBw hp hl
  go_enter Try.func25, Try.ntmps25
  go_wp2_with fail
  refine (lent_any _ _ f.path HR.out (by omega)).mono ?_
  rintro e w1 ⟨tv, g, rfl, hT, hs, hg⟩
  have hg2 : w.heap.size + 2 ≤ g := by simpa using hg
  obtain ⟨tc, rfl, _, _⟩ := (show LentAt w1 tv f.path g from hT)
  have hst := DoAt.start HBW.out HP.out HL.out hs hT hg2
  have HD := Lib.hid hst.1; have HS0 := Lib.hid hst.2
  have HPr := Lib.hid (H.out.same hst.2)
  obtain ⟨p0, p1, p2, p3⟩ := hst.1.fb.four
  obtain ⟨o0, o1, o2, o3, o4, o5, o6⟩ := hst.1.ob.seven
  have hfl := hst.1.fb.lt
  have hob1 : Blk w1 (w.heap.size + 1) 25 #[.int .i64 f.node, .bool f.whole, .int .i64 f.next, .slice pA f.path.length pc] := by
    have h := (Blk.new (w.alloc (.cells (opcells 6 two f (.slice pA f.path.length pc) (.slice lA L.length lc)) 49)) 25 #[.int .i64 f.node, .bool f.whole, .int .i64 f.next, .slice pA f.path.length pc]).turned hs (fun h => h)
    simpa using h
  have q3 := hob1.four.2.2.2
  have qf := fun i => hob1.frozen i
  have hlt1 := hob1.lt
  clear hst hs hT hg hob1
  obtain ⟨w2, hw2⟩ : ∃ w2, w2 = w1.setCell ⟨w.heap.size + 1, 3, none⟩ (.slice (some ⟨g, 0, none⟩) f.path.length tc) := ⟨_, rfl⟩
  rw [← hw2] at HD HS0 HPr p0 p1 p2 p3 o0 o1 o2 o3 o4 o5 o6 hfl
  have HW2 := Lib.hid hw2
  clear hw2
  have HPO : Hid (∀ k, pown b v F r u G k → B ≤ k ∧ k < w.heap.size) := fun k hk => ⟨HB.out k hk, H.out.lt k hk⟩
  go_wp2_with (first | rw [← HW2.out])
  have HFF : Hid (nodesOf G = nodesOf F) := by show nodesOf G = nodesOf F; have e : G.map (·.1) = F.map (·.1) := H.out.gx.trans H.out.fx.symm; have := congrArg (List.map Fr.node) e; simpa [nodesOf, List.map_map, Function.comp_def] using this
  have HLL : Hid ((nodesOf F).length ≤ 4194304) := by show (nodesOf F).length ≤ 4194304; have := HFl.out; simp [nodesOf]; omega
  refine (nodes_any _ b v F HPr.out.sp (by have := HFl.out; omega) (fun x hx => by have h1 := path_le_flat x.1 (show x.1 ∈ X from H.out.fx ▸ List.mem_map_of_mem hx); omega)).mono ?_
  rintro e w3 ⟨lv3, rfl, hs3', ho3, hn3⟩
  have HD3 := Lib.hid (HD.out.same hs3')
  have HP3 := Lib.hid (HPr.out.same hs3')
  have HS3 : Hid (Same w w3) := HS0.out.trans hs3' (fun _ h => h.elim)
  have HO3 := Lib.hid (show RowAt w3 lv3 (nodesOf F) from ho3)
  have HN3 : Hid (∀ k, lv3.ownBlock = some k → w.heap.size ≤ k) := fun k hk => Nat.le_trans HS0.out.size (hn3 k hk)
  clear hs3' ho3 hn3
  go_wp2_with fail
  refine (rnodes_any _ r u G HP3.out.rs (by have := HGl.out; omega)).mono ?_
  rintro e w4 ⟨rv4, rfl, hg4⟩
  rw [HFF.out] at hg4
  have HS4 : Hid (Same w w4) := HS3.out.trans hg4.same (fun _ h => h.elim)
  have HO4 := Lib.hid (HO3.out.same hg4.same)
  have HG4 := Lib.hid hg4
  clear hg4
  go_wp2_with fail
  refine (sameInts_any _ _ _ (nodesOf F) HO4.out.rd HG4.out.row.rd (by have := HLL.out; omega)).mono ?_
  rintro e w5 ⟨rfl, n5, rfl⟩
  go_wp2_with fail
  refine (spoil_any _ lv3 (nodesOf F).length _ (World.ownsRow.turned HO4.out ((Turned.refl (fun _ => False) w4).drewN n5) (fun _ _ h => h)) (by have := HLL.out; omega)).mono ?_
  rintro e w6 ⟨rfl, ht6⟩
  have HS6 : Hid (Same w w6) := (HS4.out.drewN n5).trans ht6 (fun i hi => .inr (HN3.out i hi))
  clear ht6
  go_wp2_with fail
  go_ret
  exact ⟨X, rfl, Did.same H.out HS6.out, Okay.refl _ _⟩

set_option maxRecDepth 100000 in
set_option maxHeartbeats 4000000 in
theorem do_len (h : Pair w b v F r u G X) (hB : ∀ k, pown b v F r u G k → B ≤ k) (hBw : B ≤ w.heap.size) (hp : ROld w B pv f.path) (hl : ROld w B lv L) (hs1 : f.path.length ≤ 4194304) (_hs2 : X.length ≤ 4194304) :
    Calls Try.prog 25 #[.pointer (some ⟨b, 0, none⟩), .pointer (some ⟨r, 0, none⟩), opval 9 two f pv lv] w fun e w' => ∃ X', e = .returned (.bool true) ∧ Did w w' b v F r u G X' ∧ Okay X X' f := by
  have H := Lib.hid h; have HB := Lib.hid hB; have HP := Lib.hid hp; have HL := Lib.hid hl; have HBW := Lib.hid hBw
  have HFl : Hid (F.length = X.length) := by rw [← h.fx]; simp [Hid]
  have HGl : Hid (G.length = X.length) := by rw [← h.gx]; simp [Hid]
  have HR : Hid (Rd ((w.alloc (.cells (opcells 9 two f pv lv) 49)).alloc (.cells #[.int .i64 f.node, .bool f.whole, .int .i64 f.next, pv] 25)) pv f.path) := hp.rd.turned (S := fun _ => False) (((Turned.refl _ _).alloc _).alloc _) (fun _ _ h => h)
  obtain ⟨pA, pc, rfl, _⟩ := HP.out
  obtain ⟨lA, lc, rfl, _⟩ := HL.out
  clear h hB hBw hp hl
  go_enter Try.func25, Try.ntmps25
  go_wp2_with fail
  refine (lent_any _ _ f.path HR.out (by omega)).mono ?_
  rintro e w1 ⟨tv, g, rfl, hT, hs, hg⟩
  have hg2 : w.heap.size + 2 ≤ g := by simpa using hg
  obtain ⟨tc, rfl, _, _⟩ := (show LentAt w1 tv f.path g from hT)
  have hst := DoAt.start HBW.out HP.out HL.out hs hT hg2
  have HD := Lib.hid hst.1; have HS0 := Lib.hid hst.2
  have HPr := Lib.hid (H.out.same hst.2)
  obtain ⟨p0, p1, p2, p3⟩ := hst.1.fb.four
  obtain ⟨o0, o1, o2, o3, o4, o5, o6⟩ := hst.1.ob.seven
  have hfl := hst.1.fb.lt
  have hob1 : Blk w1 (w.heap.size + 1) 25 #[.int .i64 f.node, .bool f.whole, .int .i64 f.next, .slice pA f.path.length pc] := by
    have h := (Blk.new (w.alloc (.cells (opcells 9 two f (.slice pA f.path.length pc) (.slice lA L.length lc)) 49)) 25 #[.int .i64 f.node, .bool f.whole, .int .i64 f.next, .slice pA f.path.length pc]).turned hs (fun h => h)
    simpa using h
  have q3 := hob1.four.2.2.2
  have qf := fun i => hob1.frozen i
  have hlt1 := hob1.lt
  clear hst hs hT hg hob1
  obtain ⟨w2, hw2⟩ : ∃ w2, w2 = w1.setCell ⟨w.heap.size + 1, 3, none⟩ (.slice (some ⟨g, 0, none⟩) f.path.length tc) := ⟨_, rfl⟩
  rw [← hw2] at HD HS0 HPr p0 p1 p2 p3 o0 o1 o2 o3 o4 o5 o6 hfl
  have HW2 := Lib.hid hw2
  clear hw2
  have HPO : Hid (∀ k, pown b v F r u G k → B ≤ k ∧ k < w.heap.size) := fun k hk => ⟨HB.out k hk, H.out.lt k hk⟩
  obtain ⟨ra, rc, hru, c0⟩ := r_head HPr.out.rs
  have hrl := HPr.out.rs.blk.lt
  have hFG : (G.length : Int) = F.length := by have := HFl.out; have := HGl.out; omega
  have hFG2 : ((F.length : Int) == (G.length : Int)) = true := by rw [beq_iff_eq]; omega
  clear hru
  go_wp2_with (first | rw [← HW2.out])
  go_quiet ((go_at_call 15; exact Calls.quiet_of_same ((len_any _ b v F (by exact HPr.out.sp.same ((Turned.refl _ _).drewN _))).mono (fun _ _ h => ⟨h.1, h.2.symm⟩))))
  go_wp2_with fail
  go_ret
  exact ⟨X, rfl, Did.same H.out (HS0.out.drewN _), Okay.refl _ _⟩

set_option maxRecDepth 100000 in
set_option maxHeartbeats 4000000 in
theorem do_none (h : Pair w b v F r u G X) (hB : ∀ k, pown b v F r u G k → B ≤ k) (hBw : B ≤ w.heap.size) (hp : ROld w B pv f.path) (hl : ROld w B lv L) (hs1 : f.path.length ≤ 4194304) (_hs2 : X.length ≤ 4194304) (h1 : (kind == 1) = false) (h2 : (kind == 2) = false) (h3 : (kind == 3) = false) (h4 : (kind == 4) = false) (h5 : (kind == 5) = false) (h6 : (kind == 6) = false) (h7 : (kind == 7) = false) (h8 : (kind == 8) = false) (h9 : (kind == 9) = false) :
    Calls Try.prog 25 #[.pointer (some ⟨b, 0, none⟩), .pointer (some ⟨r, 0, none⟩), opval kind two f pv lv] w fun e w' => ∃ X', e = .returned (.bool true) ∧ Did w w' b v F r u G X' ∧ Okay X X' f := by
  have H := Lib.hid h; have HB := Lib.hid hB; have HP := Lib.hid hp; have HL := Lib.hid hl; have HBW := Lib.hid hBw
  have HFl : Hid (F.length = X.length) := by rw [← h.fx]; simp [Hid]
  have HGl : Hid (G.length = X.length) := by rw [← h.gx]; simp [Hid]
  have HR : Hid (Rd ((w.alloc (.cells (opcells kind two f pv lv) 49)).alloc (.cells #[.int .i64 f.node, .bool f.whole, .int .i64 f.next, pv] 25)) pv f.path) := hp.rd.turned (S := fun _ => False) (((Turned.refl _ _).alloc _).alloc _) (fun _ _ h => h)
  obtain ⟨pA, pc, rfl, _⟩ := HP.out
  obtain ⟨lA, lc, rfl, _⟩ := HL.out
  clear h hB hBw hp hl
  go_enter Try.func25, Try.ntmps25
  go_wp2_with fail
  refine (lent_any _ _ f.path HR.out (by omega)).mono ?_
  rintro e w1 ⟨tv, g, rfl, hT, hs, hg⟩
  have hg2 : w.heap.size + 2 ≤ g := by simpa using hg
  obtain ⟨tc, rfl, _, _⟩ := (show LentAt w1 tv f.path g from hT)
  have hst := DoAt.start HBW.out HP.out HL.out hs hT hg2
  have HD := Lib.hid hst.1; have HS0 := Lib.hid hst.2
  have HPr := Lib.hid (H.out.same hst.2)
  obtain ⟨p0, p1, p2, p3⟩ := hst.1.fb.four
  obtain ⟨o0, o1, o2, o3, o4, o5, o6⟩ := hst.1.ob.seven
  have hfl := hst.1.fb.lt
  have hob1 : Blk w1 (w.heap.size + 1) 25 #[.int .i64 f.node, .bool f.whole, .int .i64 f.next, .slice pA f.path.length pc] := by
    have h := (Blk.new (w.alloc (.cells (opcells kind two f (.slice pA f.path.length pc) (.slice lA L.length lc)) 49)) 25 #[.int .i64 f.node, .bool f.whole, .int .i64 f.next, .slice pA f.path.length pc]).turned hs (fun h => h)
    simpa using h
  have q3 := hob1.four.2.2.2
  have qf := fun i => hob1.frozen i
  have hlt1 := hob1.lt
  clear hst hs hT hg hob1
  obtain ⟨w2, hw2⟩ : ∃ w2, w2 = w1.setCell ⟨w.heap.size + 1, 3, none⟩ (.slice (some ⟨g, 0, none⟩) f.path.length tc) := ⟨_, rfl⟩
  rw [← hw2] at HD HS0 HPr p0 p1 p2 p3 o0 o1 o2 o3 o4 o5 o6 hfl
  have HW2 := Lib.hid hw2
  clear hw2
  have HPO : Hid (∀ k, pown b v F r u G k → B ≤ k ∧ k < w.heap.size) := fun k hk => ⟨HB.out k hk, H.out.lt k hk⟩
  go_wp2_with (first | rw [← HW2.out])
  go_ret
  exact ⟨X, rfl, Did.same H.out HS0.out, Okay.refl _ _⟩
end
end Go.Proofs.Ythfhjopofpffgaa

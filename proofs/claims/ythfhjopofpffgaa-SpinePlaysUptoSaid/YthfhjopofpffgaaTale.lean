/-
  The tale: the walks of its three steps.
-/
import Derived.Test.YthfhjopofpffgaaTurn
import Derived.Test.YthfhjopofpffgaaApp
namespace Go.Proofs.Ythfhjopofpffgaa
open Go.RowKit

theorem Blk.three {w : World} {g : Nat} {t : TypeId} {a b c : Value} (h : Blk w g t #[a, b, c]) : w.cell? ⟨g, 0, none⟩ = some a ∧ w.cell? ⟨g, 1, none⟩ = some b ∧ w.cell? ⟨g, 2, none⟩ = some c :=
  ⟨(h.cell 0).trans rfl, (h.cell 1).trans rfl, (h.cell 2).trans rfl⟩

/-- Behind an append onto a row that a block of another type leads to, and the store of the new slice. -/
theorem tale_after {w w4 : World} {T t e size n m c c' : Nat} {cs : Array Value} {a a' : Option Addr} {xs ys : List Value} {o : Obj} (j : Nat)
    (hT : Blk w T t cs) (hte : e ≠ t) (hown : w.ownsRow 0 e size (.slice a n c) n xs) (hown4 : w4.ownsRow 0 e size (.slice a' (n + m) c') (n + m) ys) (hg : (w.alloc o).drew.grownBy w4 (Value.slice a n c).ownBlock)
    (hat : (Value.slice a' (n + m) c').ownBlock = (Value.slice a n c).ownBlock ∨ (Value.slice a' (n + m) c').ownBlock = some (w.alloc o).drew.heap.size) (u : Value) :
    Blk (w4.setCell ⟨T, j, none⟩ u) T t (cs.setIfInBounds j u) ∧ (w4.setCell ⟨T, j, none⟩ u).ownsRow 0 e size (.slice a' (n + m) c') (n + m) ys ∧
      Turned (fun k => k = T ∨ (Value.slice a n c).ownBlock = some k) w (w4.setCell ⟨T, j, none⟩ u) ∧ ((Value.slice a' (n + m) c').ownBlock = (Value.slice a n c).ownBlock ∨ ∃ k, (Value.slice a' (n + m) c').ownBlock = some k ∧ w.heap.size ≤ k) := by
  have hne := own_blk_ne hown hT hte
  have hT4 : Blk w4 T t cs := ((hT.alloc o).drew).grown hg hne.symm
  have hset : Turned (fun k => k = T) w4 (w4.setCell ⟨T, j, none⟩ u) := Turned.setCell (S := fun k => k = T) (Turned.refl _ w4) (p := ⟨T, j, none⟩) (.inl rfl) u
  have ht4 : Turned (fun k => k = T ∨ (Value.slice a n c).ownBlock = some k) w w4 := (((Turned.refl _ _).alloc o).drew).grown hg (fun k hk => .inl (.inr hk))
  refine ⟨hT4.set_ j u, World.ownsRow.turned hown4 hset (fun k hk e1 => own_blk_ne hown4 hT4 hte (by rw [hk, e1])), ht4.trans hset (fun i hi => .inl (.inl hi)), ?_⟩
  rcases hat with h | h
  · exact .inl h
  · exact .inr ⟨_, h, by show w.heap.size ≤ (w.alloc o).heap.size; simp⟩

/-- .. without a block that the element was laid in. -/
theorem tale_after0 {w w4 : World} {T t e size n m c c' : Nat} {cs : Array Value} {a a' : Option Addr} {xs ys : List Value} (j : Nat)
    (hT : Blk w T t cs) (hte : e ≠ t) (hown : w.ownsRow 0 e size (.slice a n c) n xs) (hown4 : w4.ownsRow 0 e size (.slice a' (n + m) c') (n + m) ys) (hg : w.drew.grownBy w4 (Value.slice a n c).ownBlock)
    (hat : (Value.slice a' (n + m) c').ownBlock = (Value.slice a n c).ownBlock ∨ (Value.slice a' (n + m) c').ownBlock = some w.drew.heap.size) (u : Value) :
    Blk (w4.setCell ⟨T, j, none⟩ u) T t (cs.setIfInBounds j u) ∧ (w4.setCell ⟨T, j, none⟩ u).ownsRow 0 e size (.slice a' (n + m) c') (n + m) ys ∧
      Turned (fun k => k = T ∨ (Value.slice a n c).ownBlock = some k) w (w4.setCell ⟨T, j, none⟩ u) ∧ ((Value.slice a' (n + m) c').ownBlock = (Value.slice a n c).ownBlock ∨ ∃ k, (Value.slice a' (n + m) c').ownBlock = some k ∧ w.heap.size ≤ k) := by
  have hne := own_blk_ne hown hT hte
  have hT4 : Blk w4 T t cs := hT.drew.grown hg hne.symm
  have hset : Turned (fun k => k = T) w4 (w4.setCell ⟨T, j, none⟩ u) := Turned.setCell (S := fun k => k = T) (Turned.refl _ w4) (p := ⟨T, j, none⟩) (.inl rfl) u
  have ht4 : Turned (fun k => k = T ∨ (Value.slice a n c).ownBlock = some k) w w4 := ((Turned.refl _ _).drew).grown hg (fun k hk => .inl (.inr hk))
  refine ⟨hT4.set_ j u, World.ownsRow.turned hown4 hset (fun k hk e1 => own_blk_ne hown4 hT4 hte (by rw [hk, e1])), ht4.trans hset (fun i hi => .inl (.inl hi)), ?_⟩
  rcases hat with h | h
  · exact .inl h
  · exact .inr ⟨_, h, Nat.le_refl _⟩

set_option maxHeartbeats 1000000 in
theorem step_any (w : World) (T : Nat) (v u1 u2 : Value) (P : List Int) (hT : Blk w T 53 #[v, u1, u2]) (ho : w.ownsRow 0 3 1 v P.length (intVals P)) (f : Fr) (pv : Value) (hR : Rd w pv f.path)
    (hb : (P.length + f.path.length) * 8 ≤ 140737488355328) :
    Calls Try.prog 27 #[.pointer (some ⟨T, 0, none⟩), fval f pv] w fun e w' => ∃ v', e = .returned (.tuple #[]) ∧ Blk w' T 53 #[v', u1, u2] ∧ w'.ownsRow 0 3 1 v' (P ++ f.path).length (intVals (P ++ f.path)) ∧
      Turned (fun k => k = T ∨ v.ownBlock = some k) w w' ∧ (v'.ownBlock = v.ownBlock ∨ ∃ k, v'.ownBlock = some k ∧ w.heap.size ≤ k) := by
  obtain ⟨a, c, rfl, h1, h2⟩ := own_shape ho
  obtain ⟨c0, c1, c2⟩ := hT.three
  have hlt := hT.lt
  have hf := fun i => hT.frozen i
  obtain ⟨i0, hi0, hz0, hz1, hz2⟩ := info_parts Try.info3
  have HI : Hid (Try.prog.info? 3 = some i0 ∧ i0.zero = some (.int .i64 0) ∧ i0.size = 1 ∧ i0.bytes = 8) := ⟨hi0, hz0, hz1, hz2⟩
  clear hi0 hz0 hz1 hz2
  have hne : (Value.slice a P.length c).ownBlock ≠ some T := own_blk_ne ho hT (by decide)
  have HNE := Lib.hid hne
  obtain ⟨pA, pc, rfl, hsrc⟩ := hR
  have HT := Lib.hid hT; have HO := Lib.hid ho
  clear hne hT ho
  obtain ⟨w1, hw1⟩ : ∃ w1, w1 = w.alloc (.cells #[.int .i64 f.node, .bool f.whole, .int .i64 f.next, .slice pA f.path.length pc] 25) := ⟨_, rfl⟩
  have ht1 : Same w w1 := by rw [hw1]; exact (Turned.refl _ _).alloc _
  have HT1 := Lib.hid (HT.out.turned ht1 (fun h => h)); have HO1 := Lib.hid (World.ownsRow.turned HO.out ht1 (fun _ _ h => h))
  have k0 : w1.cell? ⟨T, 0, none⟩ = some (.slice a P.length c) := (ht1.cell (p := ⟨T, 0, none⟩) hlt (fun h => h)).trans c0
  have kf : w1.frozen? ⟨T, 0, none⟩ = false := (ht1.frozen (p := ⟨T, 0, none⟩) hlt (fun h => h)).trans (hf 0)
  have hB : Blk w1 w.heap.size 25 #[.int .i64 f.node, .bool f.whole, .int .i64 f.next, .slice pA f.path.length pc] := by rw [hw1]; exact Blk.new w 25 _
  obtain ⟨b0, b1, b2, b3⟩ := hB.four
  have hlt1 : T < w1.heap.size := HT1.out.lt
  have HT01 := Lib.hid ht1
  have HS : Hid (0 < f.path.length → ∃ ad, pA = some ad ∧ ∀ j u, (intVals f.path)[j]? = some u → w1.cell? (ad.add j) = some u) := by
    intro h0
    obtain ⟨bl, off, rfl, hc⟩ := hsrc h0
    refine ⟨_, rfl, fun j u hu => ?_⟩
    simp only [intVals, List.getElem?_map, Option.map_eq_some_iff] at hu
    obtain ⟨n, hn, rfl⟩ := hu
    obtain ⟨hj, rfl⟩ := List.getElem?_eq_some_iff.1 hn
    rw [Addr.add_lit]
    have := hc j hj
    exact (ht1.cell (p := ⟨bl, off + j, none⟩) (World.block_lt_of_cell? w _ this) (fun h => h)).trans this
  clear hsrc
  have hc1 : ∀ i, w1.cell? ⟨T, i, none⟩ = w.cell? ⟨T, i, none⟩ := fun i => ht1.cell (p := ⟨T, i, none⟩) hlt (fun h => h)
  clear ht1 hf hB c0 c1 c2 hc1
  show Calls Try.prog 27 #[.pointer (some ⟨T, 0, none⟩), .agg #[.int .i64 f.node, .bool f.whole, .int .i64 f.next, .slice pA f.path.length pc]] w _
  go_enter Try.func27, Try.ntmps27
  go_wp2
  rw [← hw1]
  clear hw1 hlt
  go_region_law ((refine step_append_src _ (by rfl) _ _ 23 (by rfl) 3 i0 _ 1 8 Try.underlying23 HI.out.1 HI.out.2.1 HI.out.2.2.1 HI.out.2.2.2 rfl (by omega) (.slice a P.length c) P.length (intVals P) (by rfl) (by exact HO1.out) pA f.path.length pc (intVals f.path) (by rfl) (by simp [intVals]) (by exact HS.out) (by intro u hu; simp [intVals] at hu; obtain ⟨n, _, rfl⟩ := hu; rfl) (by unfold maxLen; omega) (by omega) ?_; intro a4 c4 w4 hown4 hgrow4 hat4; have q0 : w4.cell? ⟨T, 0, none⟩ = some (.slice a P.length c) := (hgrow4.cell_far ⟨T, 0, none⟩ (by exact hlt1) HNE.out.symm).trans k0; have qf : w4.frozen? ⟨T, 0, none⟩ = false := (hgrow4.frozen_far ⟨T, 0, none⟩ (by exact hlt1) HNE.out.symm).trans kf))
  all_goals
    have A := Lib.hid (tale_after0 0 HT1.out (by decide) HO1.out hown4 hgrow4 hat4 (.slice a4 (P.length + f.path.length) c4))
    clear hown4 hgrow4 hat4 q0 qf
    go_wp2
    go_end0
    refine ⟨_, rfl, A.out.1, by have h := A.out.2.1; rw [intVals, List.map_append, List.length_append]; exact h, (HT01.out.mono (fun _ h => h.elim)).trans A.out.2.2.1 (fun i hi => .inl hi), ?_⟩; rcases A.out.2.2.2 with h | ⟨k, h, hk⟩; exact .inl h; exact .inr ⟨k, h, Nat.le_trans HT01.out.size hk⟩

set_option maxHeartbeats 1000000 in
theorem node_any (w : World) (T : Nat) (v u0 u2 : Value) (P : List Int) (hT : Blk w T 53 #[u0, v, u2]) (ho : w.ownsRow 0 3 1 v P.length (intVals P)) (f : Fr) (pv : Value) (hR : Rd w pv f.path)
    (hb : (P.length + 1) * 8 ≤ 140737488355328) :
    Calls Try.prog 31 #[.pointer (some ⟨T, 0, none⟩), fval f pv] w fun e w' => ∃ v', e = .returned (.tuple #[]) ∧ Blk w' T 53 #[u0, v', u2] ∧ w'.ownsRow 0 3 1 v' (P ++ [f.node]).length (intVals (P ++ [f.node])) ∧
      Turned (fun k => k = T ∨ v.ownBlock = some k) w w' ∧ (v'.ownBlock = v.ownBlock ∨ ∃ k, v'.ownBlock = some k ∧ w.heap.size ≤ k) := by
  obtain ⟨a, c, rfl, h1, h2⟩ := own_shape ho
  obtain ⟨c0, c1, c2⟩ := hT.three
  have hlt := hT.lt
  have hf := fun i => hT.frozen i
  obtain ⟨i0, hi0, hz0, hz1, hz2⟩ := info_parts Try.info3
  have HI : Hid (Try.prog.info? 3 = some i0 ∧ i0.zero = some (.int .i64 0) ∧ i0.size = 1 ∧ i0.bytes = 8) := ⟨hi0, hz0, hz1, hz2⟩
  clear hi0 hz0 hz1 hz2
  have hne : (Value.slice a P.length c).ownBlock ≠ some T := own_blk_ne ho hT (by decide)
  have HNE := Lib.hid hne
  obtain ⟨pA, pc, rfl, hsrc⟩ := hR
  have HT := Lib.hid hT; have HO := Lib.hid ho
  clear hne hT ho
  obtain ⟨w1, hw1⟩ : ∃ w1, w1 = w.alloc (.cells #[.int .i64 f.node, .bool f.whole, .int .i64 f.next, .slice pA f.path.length pc] 25) := ⟨_, rfl⟩
  have ht1 : Same w w1 := by rw [hw1]; exact (Turned.refl _ _).alloc _
  have HT1 := Lib.hid (HT.out.turned ht1 (fun h => h)); have HO1 := Lib.hid (World.ownsRow.turned HO.out ht1 (fun _ _ h => h))
  have k1 : w1.cell? ⟨T, 1, none⟩ = some (.slice a P.length c) := (ht1.cell (p := ⟨T, 1, none⟩) hlt (fun h => h)).trans c1
  have kf : w1.frozen? ⟨T, 1, none⟩ = false := (ht1.frozen (p := ⟨T, 1, none⟩) hlt (fun h => h)).trans (hf 1)
  have hB : Blk w1 w.heap.size 25 #[.int .i64 f.node, .bool f.whole, .int .i64 f.next, .slice pA f.path.length pc] := by rw [hw1]; exact Blk.new w 25 _
  obtain ⟨b0, b1, b2, b3⟩ := hB.four
  have hlt1 : T < w1.heap.size := HT1.out.lt
  have HT01 := Lib.hid ht1
  clear hsrc
  have hc1 : ∀ i, w1.cell? ⟨T, i, none⟩ = w.cell? ⟨T, i, none⟩ := fun i => ht1.cell (p := ⟨T, i, none⟩) hlt (fun h => h)
  clear ht1 hf hB c0 c1 c2 hc1
  show Calls Try.prog 31 #[.pointer (some ⟨T, 0, none⟩), .agg #[.int .i64 f.node, .bool f.whole, .int .i64 f.next, .slice pA f.path.length pc]] w _
  go_enter Try.func31, Try.ntmps31
  go_wp2
  rw [← hw1]
  clear hw1 hlt
  go_region_law ((refine step_append_src _ (by rfl) _ _ 23 (by rfl) 3 i0 _ 1 8 Try.underlying23 HI.out.1 HI.out.2.1 HI.out.2.2.1 HI.out.2.2.2 rfl (by omega) (.slice a P.length c) P.length (intVals P) (by rfl) (by exact HO1.out.alloc _) (some ⟨w1.heap.size, 0, none⟩) 1 1 [.int .i64 f.node] (by rfl) rfl (by exact src_new w1 [.int .i64 f.node] 3) (by simp [Value.oneCell']) (by unfold maxLen; omega) (by omega) ?_; intro a4 c4 w4 hown4 hgrow4 hat4; have q0 : w4.cell? ⟨T, 1, none⟩ = some (.slice a P.length c) := ((hgrow4.cell_far ⟨T, 1, none⟩ (by simp; omega) HNE.out.symm).trans (World.cell?_alloc_lt w1 _ ⟨T, 1, none⟩ hlt1)).trans k1; have qf : w4.frozen? ⟨T, 1, none⟩ = false := ((hgrow4.frozen_far ⟨T, 1, none⟩ (by simp; omega) HNE.out.symm).trans (World.frozen?_alloc_past _ T 1 hlt1)).trans kf))
  all_goals
    have A := Lib.hid (tale_after 1 HT1.out (by decide) HO1.out hown4 hgrow4 hat4 (.slice a4 (P.length + 1) c4))
    clear hown4 hgrow4 hat4 q0 qf
    go_wp2
    go_end0
    refine ⟨_, rfl, A.out.1, by have h := A.out.2.1; rw [intVals, List.map_append, List.length_append]; exact h, (HT01.out.mono (fun _ h => h.elim)).trans A.out.2.2.1 (fun i hi => .inl hi), ?_⟩; rcases A.out.2.2.2 with h | ⟨k, h, hk⟩; exact .inl h; exact .inr ⟨k, h, Nat.le_trans HT01.out.size hk⟩

set_option maxHeartbeats 1000000 in
theorem frame_any (w : World) (T : Nat) (v u0 u1 : Value) (F : List FV) (hT : Blk w T 53 #[u0, u1, v]) (ho : w.ownsRow 0 25 4 v F.length (fall F)) (f : Fr) (pv : Value) (hR : Rd w pv f.path)
    (hb : (F.length + 1) * 48 ≤ 140737488355328) :
    Calls Try.prog 30 #[.pointer (some ⟨T, 0, none⟩), fval f pv] w fun e w' => ∃ v', e = .returned (.tuple #[]) ∧ Blk w' T 53 #[u0, u1, v'] ∧ w'.ownsRow 0 25 4 v' (F ++ [(f, pv)]).length (fall (F ++ [(f, pv)])) ∧
      Turned (fun k => k = T ∨ v.ownBlock = some k) w w' ∧ (v'.ownBlock = v.ownBlock ∨ ∃ k, v'.ownBlock = some k ∧ w.heap.size ≤ k) := by
  obtain ⟨a, c, rfl, h1, h2⟩ := own_shape ho
  obtain ⟨c0, c1, c2⟩ := hT.three
  have hlt := hT.lt
  have hf := fun i => hT.frozen i
  obtain ⟨i0, hi0, hz0, hz1, hz2⟩ := info_parts Try.info25
  have HI : Hid (Try.prog.info? 25 = some i0 ∧ i0.zero = some (.agg #[.int .i64 0, .bool false, .int .i64 0, .slice none 0 0]) ∧ i0.size = 4 ∧ i0.bytes = 48) := ⟨hi0, hz0, hz1, hz2⟩
  clear hi0 hz0 hz1 hz2
  have hne : (Value.slice a F.length c).ownBlock ≠ some T := own_blk_ne ho hT (by decide)
  have HNE := Lib.hid hne
  obtain ⟨pA, pc, rfl, hsrc⟩ := hR
  have HT := Lib.hid hT; have HO := Lib.hid ho
  clear hne hT ho
  obtain ⟨w1, hw1⟩ : ∃ w1, w1 = w.alloc (.cells #[.int .i64 f.node, .bool f.whole, .int .i64 f.next, .slice pA f.path.length pc] 25) := ⟨_, rfl⟩
  have ht1 : Same w w1 := by rw [hw1]; exact (Turned.refl _ _).alloc _
  have HT1 := Lib.hid (HT.out.turned ht1 (fun h => h)); have HO1 := Lib.hid (World.ownsRow.turned HO.out ht1 (fun _ _ h => h))
  have k2 : w1.cell? ⟨T, 2, none⟩ = some (.slice a F.length c) := (ht1.cell (p := ⟨T, 2, none⟩) hlt (fun h => h)).trans c2
  have kf : w1.frozen? ⟨T, 2, none⟩ = false := (ht1.frozen (p := ⟨T, 2, none⟩) hlt (fun h => h)).trans (hf 2)
  have hB : Blk w1 w.heap.size 25 #[.int .i64 f.node, .bool f.whole, .int .i64 f.next, .slice pA f.path.length pc] := by rw [hw1]; exact Blk.new w 25 _
  obtain ⟨b0, b1, b2, b3⟩ := hB.four
  have hlt1 : T < w1.heap.size := HT1.out.lt
  have HT01 := Lib.hid ht1
  clear hsrc
  have hc1 : ∀ i, w1.cell? ⟨T, i, none⟩ = w.cell? ⟨T, i, none⟩ := fun i => ht1.cell (p := ⟨T, i, none⟩) hlt (fun h => h)
  clear ht1 hf hB c0 c1 c2 hc1
  show Calls Try.prog 30 #[.pointer (some ⟨T, 0, none⟩), .agg #[.int .i64 f.node, .bool f.whole, .int .i64 f.next, .slice pA f.path.length pc]] w _
  go_enter Try.func30, Try.ntmps30
  go_wp2
  rw [← hw1]
  clear hw1 hlt
  go_region_law ((refine step_append_src _ (by rfl) _ _ 22 (by rfl) 25 i0 _ 4 48 Try.underlying22 HI.out.1 HI.out.2.1 HI.out.2.2.1 HI.out.2.2.2 rfl (by omega) (.slice a F.length c) F.length (fall F) (by rfl) (by exact HO1.out.alloc _) (some ⟨w1.heap.size, 0, none⟩) 1 1 (fcells f (.slice pA f.path.length pc)) (by rfl) rfl (by exact src_new w1 (fcells f (.slice pA f.path.length pc)) 25) (by simp [fcells, Value.oneCell']) (by unfold maxLen; omega) (by omega) ?_; intro a4 c4 w4 hown4 hgrow4 hat4; have q0 : w4.cell? ⟨T, 2, none⟩ = some (.slice a F.length c) := ((hgrow4.cell_far ⟨T, 2, none⟩ (by simp; omega) HNE.out.symm).trans (World.cell?_alloc_lt w1 _ ⟨T, 2, none⟩ hlt1)).trans k2; have qf : w4.frozen? ⟨T, 2, none⟩ = false := ((hgrow4.frozen_far ⟨T, 2, none⟩ (by simp; omega) HNE.out.symm).trans (World.frozen?_alloc_past _ T 2 hlt1)).trans kf))
  all_goals
    have A := Lib.hid (tale_after 2 HT1.out (by decide) HO1.out hown4 hgrow4 hat4 (.slice a4 (F.length + 1) c4))
    clear hown4 hgrow4 hat4 q0 qf
    go_wp2
    go_end0
    refine ⟨_, rfl, A.out.1, by have h := A.out.2.1; rw [fall_snoc, List.length_append]; exact h, (HT01.out.mono (fun _ h => h.elim)).trans A.out.2.2.1 (fun i hi => .inl hi), ?_⟩; rcases A.out.2.2.2 with h | ⟨k, h, hk⟩; exact .inl h; exact .inr ⟨k, h, Nat.le_trans HT01.out.size hk⟩

end Go.Proofs.Ythfhjopofpffgaa

/-
  The walks of the reference's Top, Pop, Turn.
-/
import Derived.Test.YthfhjopofpffgaaRef3
import Derived.Laws.Runes
namespace Go.Proofs.Ythfhjopofpffgaa
open Go.RowKit

/-- The cells of the last frame. -/
theorem last_cells {w : World} {g c : Nat} {F : List FV} {x : FV} (h : w.ownsRow 0 25 4 (.slice (some ⟨g, 0, none⟩) (F ++ [x]).length c) (F ++ [x]).length (fall (F ++ [x]))) :
    w.cell? ⟨g, F.length * 4, none⟩ = some (.int .i64 x.1.node) ∧ w.cell? ⟨g, F.length * 4 + 1, none⟩ = some (.bool x.1.whole) ∧ w.cell? ⟨g, F.length * 4 + 2, none⟩ = some (.int .i64 x.1.next) ∧ w.cell? ⟨g, F.length * 4 + 3, none⟩ = some x.2 := by
  have hc := h.cells (g := g) rfl
  obtain ⟨e0, e1, e2, e3⟩ := fall_at (F ++ [x]) F.length (by simp)
  simp only [List.getElem_append_right (Nat.le_refl _), Nat.sub_self, List.getElem_cons_zero] at e0 e1 e2 e3
  have d0 := hc _ _ e0
  have d1 := hc _ _ e1
  have d2 := hc _ _ e2
  have d3 := hc _ _ e3
  simp only [Addr.add_lit, Nat.zero_add] at d0 d1 d2 d3
  exact ⟨d0, d1, d2, d3⟩

set_option maxHeartbeats 2000000 in
theorem rtop_any (w : World) (b : Nat) (v : Value) (F : List FV) (x : FV) (h : RAt w b v (F ++ [x])) (hF : F.length ≤ 17592186044) (hl : x.1.path.length ≤ 17592186044) :
    Calls Try.prog 35 #[.pointer (some ⟨b, 0, none⟩)] w fun e w' => ∃ q, e = .returned (.tuple #[fval x.1 q, .int .i64 0]) ∧ RowAt w' q x.1.path ∧ Same w w' ∧ ∀ k, q.ownBlock = some k → w.heap.size ≤ k := by
  have hown := h.own
  obtain ⟨a, c, rfl, h1, h2⟩ := own_shape h.own
  obtain ⟨g, cap, hv, _, hg⟩ := hown.form (by simp)
  obtain ⟨rfl, rfl⟩ : a = some ⟨g, 0, none⟩ ∧ c = cap := by simpa using hv
  clear hv
  have c0 := h.blk.cell 0
  simp at c0
  obtain ⟨d0, d1, d2, d3⟩ := last_cells hown
  have hP := (h.paths x (by simp)).rd
  have HP := Lib.hid (hP.turned (w' := w.alloc (.cells #[.int .i64 0, .bool false, .int .i64 0, .slice none 0 0] 25)) (S := fun _ => False) ((Turned.refl _ _).alloc _) (fun _ _ h => h))
  obtain ⟨pA, pc, hpv, _⟩ := hP
  obtain ⟨f, pv⟩ := x
  simp only at hpv d0 d1 d2 d3 hl HP
  subst hpv
  have hlt := h.blk.lt
  have H := Lib.hid h
  have hnz : (((F.length : Int) + 1) == 0) = false := by rw [beq_eq_false_iff_ne]; omega
  have hi1 : (F.length : Int) < (F.length : Int) + 1 := by omega
  clear h hown h1
  have hw1 : IntKind.i64.wrap ((F.length : Int) + 1 - 1) = F.length := by rw [show (F.length : Int) + 1 - 1 = F.length from by omega]; exact wrap_small _ (by omega) (by omega)
  have hw2 : IntKind.i64.wrap (F.length : Int) = F.length := wrap_small _ (by omega) (by omega)
  go_enter Try.func35, Try.ntmps35
  go_wp2_with fail
  go_region_law (first | ((go_simp; go_at_call 42; refine (rown_any _ f (.slice pA f.path.length pc) (by exact HP.out) hl).mono ?_; rintro e w2 ⟨q, rfl, hB, hs, hq⟩; obtain ⟨qa, qc, rfl, _, _⟩ := own_shape hB; have hR : Blk w2 w.heap.size 25 #[.int .i64 0, .bool false, .int .i64 0, .slice none 0 0] := ((Blk.new w 25 _).drew).turned hs (fun h => h); obtain ⟨r0, r1, r2, r3⟩ := hR.four; have hf := fun i => hR.frozen i; have HR := Lib.hid hR; have HS := Lib.hid hs; have HB := Lib.hid hB; have HQ := Lib.hid hq; have hlt2 := hR.lt; clear hR hs hB hq)))
  all_goals
    have HQ2 : Hid (∀ k, (Value.slice qa f.path.length qc).ownBlock = some k → w.heap.size + 1 ≤ k) := fun k hk => by have := HQ.out k hk; simp at this; omega
    have E : ∀ n1 n2 n3 n4 : Value, Hid (Blk ((((w2.setCell ⟨w.heap.size, 0, none⟩ n1).setCell ⟨w.heap.size, 1, none⟩ n2).setCell ⟨w.heap.size, 2, none⟩ n3).setCell ⟨w.heap.size, 3, none⟩ n4) w.heap.size 25 #[n1, n2, n3, n4] ∧
        RowAt ((((w2.setCell ⟨w.heap.size, 0, none⟩ n1).setCell ⟨w.heap.size, 1, none⟩ n2).setCell ⟨w.heap.size, 2, none⟩ n3).setCell ⟨w.heap.size, 3, none⟩ n4) (.slice qa f.path.length qc) f.path ∧
        Same w ((((w2.setCell ⟨w.heap.size, 0, none⟩ n1).setCell ⟨w.heap.size, 1, none⟩ n2).setCell ⟨w.heap.size, 2, none⟩ n3).setCell ⟨w.heap.size, 3, none⟩ n4)) := by
      intro n1 n2 n3 n4
      have ht : Turned (fun k => k = w.heap.size) w2 ((((w2.setCell ⟨w.heap.size, 0, none⟩ n1).setCell ⟨w.heap.size, 1, none⟩ n2).setCell ⟨w.heap.size, 2, none⟩ n3).setCell ⟨w.heap.size, 3, none⟩ n4) :=
        ((((Turned.refl (fun k => k = w.heap.size) w2).setCell (p := ⟨w.heap.size, 0, none⟩) (.inl rfl) n1).setCell (p := ⟨w.heap.size, 1, none⟩) (.inl rfl) n2).setCell (p := ⟨w.heap.size, 2, none⟩) (.inl rfl) n3).setCell (p := ⟨w.heap.size, 3, none⟩) (.inl rfl) n4
      refine ⟨(((HR.out.set_ 0 n1).set_ 1 n2).set_ 2 n3).set_ 3 n4, HB.out.turned ht (fun k hk e => by have := HQ2.out k hk; omega), ?_⟩
      have h0 : Same w w2 := (((Turned.refl _ _).alloc _).drew).trans HS.out (fun _ h => h.elim)
      exact h0.trans ht (fun i hi => .inr (by omega))
    go_wp2
    have E' := E (.int .i64 f.node) (.bool f.whole) (.int .i64 f.next) (.slice qa f.path.length qc)
    exact bodyPost_ret (results_frame2 rfl _ rfl E'.out.1) rfl ⟨_, rfl, E'.out.2.1, E'.out.2.2, fun k hk => by have := HQ2.out k hk; omega⟩

theorem rtop_zero (w : World) (b : Nat) (v : Value) (h : RAt w b v []) :
    Calls Try.prog 35 #[.pointer (some ⟨b, 0, none⟩)] w fun e w' => e = .returned (.tuple #[fval fzero (.slice none 0 0), .int .i64 140]) ∧ Same w w' := by
  obtain ⟨a, c, rfl, h1, h2⟩ := own_shape h.own
  have c0 := h.blk.cell 0
  simp at c0
  have hlt := h.blk.lt
  clear h
  go_enter Try.func35, Try.ntmps35
  go_wp2_with fail
  exact bodyPost_ret (results_frame2 rfl _ rfl (Blk.new w 25 _)) rfl ⟨rfl, (Turned.refl _ _).alloc _⟩

theorem RAt.flt {w : World} {b : Nat} {v : Value} {F : List FV} (h : RAt w b v F) : ∀ k, foot b v k → k < w.heap.size := by
  rintro k (rfl | hk)
  · exact h.blk.lt
  · exact (h.own.lt k hk).2
theorem RAt.plt {w : World} {b : Nat} {v : Value} {F : List FV} (h : RAt w b v F) : ∀ k, pblocks F k → k < w.heap.size := by
  rintro k ⟨x, hx, hk⟩
  exact row_lt (h.paths x hx) k hk
theorem rpop_after {w : World} {b g c : Nat} {F : List FV} {x : FV} (h : RAt w b (.slice (some ⟨g, 0, none⟩) (F ++ [x]).length c) (F ++ [x])) :
    RAt (w.setCell ⟨b, 0, none⟩ (.slice (some ⟨g, 0, none⟩) F.length c)) b (.slice (some ⟨g, 0, none⟩) F.length c) F := by
  have hgb : g ≠ b := fun e => own_blk_ne h.own h.blk (by decide) (by rw [e]; rfl)
  have hset : Turned (fun k => k = b) w (w.setCell ⟨b, 0, none⟩ (.slice (some ⟨g, 0, none⟩) F.length c)) := Turned.setCell (S := fun k => k = b) (Turned.refl _ w) (p := ⟨b, 0, none⟩) (.inl rfl) _
  refine ⟨(h.blk.set_ 0 _).trans rfl, ?_, ?_⟩
  · have ho := h.own
    rw [fall_snoc, List.length_append] at ho
    exact World.ownsRow.turned (own_shrink ho (fall_length F)) hset (fun k hk e => hgb (by simp [Value.ownBlock] at hk; omega))
  · intro y hy
    have hp := h.paths y (by simp [hy])
    exact hp.turned hset (fun k hk e => row_foot hp h.blk (by decide) h.own k hk (.inl e))

set_option maxHeartbeats 2000000 in
theorem rpop_any (w : World) (b : Nat) (v : Value) (F : List FV) (x : FV) (h : RAt w b v (F ++ [x])) (hF : F.length ≤ 17592186044) (hl : x.1.path.length ≤ 17592186044) :
    Calls Try.prog 36 #[.pointer (some ⟨b, 0, none⟩)] w fun e w' => ∃ q v', e = .returned (.tuple #[fval x.1 q, .int .i64 0]) ∧ RAt w' b v' F ∧ RowAt w' q x.1.path ∧ Turned (fun k => k = b) w w' ∧ v'.ownBlock = v.ownBlock ∧ ∀ k, q.ownBlock = some k → w.heap.size ≤ k := by
  have hown := h.own
  obtain ⟨a, c, rfl, h1, h2⟩ := own_shape h.own
  obtain ⟨g, cap, hv, _, hg⟩ := hown.form (by simp)
  obtain ⟨rfl, rfl⟩ : a = some ⟨g, 0, none⟩ ∧ c = cap := by simpa using hv
  clear hv
  have hlt := h.blk.lt
  have H := Lib.hid h
  have hcl : F.length + 1 ≤ c := by simpa using h1
  have hcl2 : F.length ≤ c := by omega
  clear h hown h1
  go_enter Try.func36, Try.ntmps36
  go_wp2_with fail
  refine (rtop_any _ b _ F x (by exact H.out.same ((Turned.refl _ _).alloc _)) hF hl).mono ?_
  rintro e w1 ⟨q, rfl, hR, hs, hn⟩
  obtain ⟨f, pv⟩ := x
  obtain ⟨qa, qc, rfl, _, _⟩ := own_shape hR
  have H1 := Lib.hid (H.out.same (((Turned.refl _ _).alloc _).trans hs (fun _ h => h.elim)))
  have c1 : w1.cell? ⟨b, 0, none⟩ = some (.slice (some ⟨g, 0, none⟩) (F.length + 1) c) := ((H1.out.blk.cell 0).trans rfl).trans (by simp)
  have hlt1 := H1.out.blk.lt
  have hf1 := fun i => H1.out.blk.frozen i
  have hB1 : Blk w1 w.heap.size 25 #[.int .i64 0, .bool false, .int .i64 0, .slice none 0 0] := (Blk.new w 25 _).turned hs (fun h => h)
  obtain ⟨r0, r1, r2, r3⟩ := hB1.four
  have hg1 := fun i => hB1.frozen i
  have hltg := hB1.lt
  have HB1 := Lib.hid hB1; have HR1 := Lib.hid hR; have HS1 := Lib.hid hs
  have HN1 : Hid (∀ k, (Value.slice qa f.path.length qc).ownBlock = some k → w.heap.size + 1 ≤ k) := fun k hk => by have := hn k hk; simp at this; omega
  clear hB1 hR hs hn
  have hw1 : IntKind.i64.wrap ((F.length : Int) + 1 - 1) = F.length := by rw [show (F.length : Int) + 1 - 1 = F.length from by omega]; exact wrap_small _ (by omega) (by omega)
  have hw2 : IntKind.i64.wrap (F.length : Int) = F.length := wrap_small _ (by omega) (by omega)
  go_wp2_with fail
  go_region_law (fail)
  all_goals
    have E : ∀ (n1 n2 n3 n4 : Value) (o : Obj), Hid (Blk (((((((w1.setCell ⟨b, 0, none⟩ (.slice (some ⟨g, 0, none⟩) F.length c)).setCell ⟨w.heap.size, 0, none⟩ n1).setCell ⟨w.heap.size, 1, none⟩ n2).setCell ⟨w.heap.size, 2, none⟩ n3).setCell ⟨w.heap.size, 3, none⟩ n4).alloc o).drew) w.heap.size 25 #[n1, n2, n3, n4] ∧
        RAt (((((((w1.setCell ⟨b, 0, none⟩ (.slice (some ⟨g, 0, none⟩) F.length c)).setCell ⟨w.heap.size, 0, none⟩ n1).setCell ⟨w.heap.size, 1, none⟩ n2).setCell ⟨w.heap.size, 2, none⟩ n3).setCell ⟨w.heap.size, 3, none⟩ n4).alloc o).drew) b (.slice (some ⟨g, 0, none⟩) F.length c) F ∧
        RowAt (((((((w1.setCell ⟨b, 0, none⟩ (.slice (some ⟨g, 0, none⟩) F.length c)).setCell ⟨w.heap.size, 0, none⟩ n1).setCell ⟨w.heap.size, 1, none⟩ n2).setCell ⟨w.heap.size, 2, none⟩ n3).setCell ⟨w.heap.size, 3, none⟩ n4).alloc o).drew) (.slice qa f.path.length qc) f.path ∧
        Turned (fun k => k = b) w (((((((w1.setCell ⟨b, 0, none⟩ (.slice (some ⟨g, 0, none⟩) F.length c)).setCell ⟨w.heap.size, 0, none⟩ n1).setCell ⟨w.heap.size, 1, none⟩ n2).setCell ⟨w.heap.size, 2, none⟩ n3).setCell ⟨w.heap.size, 3, none⟩ n4).alloc o).drew)) := by
      intro n1 n2 n3 n4 o
      have t1 : Turned (fun k => k = b) w1 (w1.setCell ⟨b, 0, none⟩ (.slice (some ⟨g, 0, none⟩) F.length c)) := (Turned.refl (fun k => k = b) w1).setCell (p := ⟨b, 0, none⟩) (.inl rfl) _
      have t2 : Turned (fun k => k = w.heap.size) (w1.setCell ⟨b, 0, none⟩ (.slice (some ⟨g, 0, none⟩) F.length c)) (((((((w1.setCell ⟨b, 0, none⟩ (.slice (some ⟨g, 0, none⟩) F.length c)).setCell ⟨w.heap.size, 0, none⟩ n1).setCell ⟨w.heap.size, 1, none⟩ n2).setCell ⟨w.heap.size, 2, none⟩ n3).setCell ⟨w.heap.size, 3, none⟩ n4).alloc o).drew) :=
        ((((((Turned.refl (fun k => k = w.heap.size) _).setCell (p := ⟨w.heap.size, 0, none⟩) (.inl rfl) n1).setCell (p := ⟨w.heap.size, 1, none⟩) (.inl rfl) n2).setCell (p := ⟨w.heap.size, 2, none⟩) (.inl rfl) n3).setCell (p := ⟨w.heap.size, 3, none⟩) (.inl rfl) n4).alloc o).drew
      have hbw : b ≠ w.heap.size := by omega
      refine ⟨?_, ?_, ?_, ?_⟩
      · exact ((((((HB1.out.far (p := ⟨b, 0, none⟩) hbw.symm _).set_ 0 n1).set_ 1 n2).set_ 2 n3).set_ 3 n4).alloc o).drew
      · exact (rpop_after H1.out).turned t2 (fun k hk e => by have := H.out.flt k hk; omega) (fun k ⟨y, hy, hk⟩ e => by have := H.out.plt k ⟨y, by simp [hy], hk⟩; omega)
      · exact (HR1.out.turned t1 (fun k hk e => by have := HN1.out k hk; omega)).turned t2 (fun k hk e => by have := HN1.out k hk; omega)
      · have h0 : Same w w1 := ((Turned.refl _ _).alloc _).trans HS1.out (fun _ h => h.elim)
        exact ((h0.mono (T := fun k => k = b) (fun _ h => h.elim)).trans t1 (fun i hi => .inl hi)).trans t2 (fun i hi => .inr (by omega))
    go_wp2
    have E' := E (.int .i64 f.node) (.bool f.whole) (.int .i64 f.next) (.slice qa f.path.length qc) (Obj.cells #[Value.int IntKind.i64 f.node, Value.bool f.whole, Value.int IntKind.i64 f.next, Value.slice qa f.path.length qc] 25)
    exact bodyPost_ret (results_frame2 rfl _ rfl E'.out.1) rfl ⟨_, rfl, _, E'.out.2.1, E'.out.2.2.1, E'.out.2.2.2, rfl, fun k hk => by have := HN1.out k hk; omega⟩

set_option maxHeartbeats 1000000 in
theorem rpop_none (w : World) (b : Nat) (v : Value) (h : RAt w b v []) :
    Calls Try.prog 36 #[.pointer (some ⟨b, 0, none⟩)] w fun e w' => e = .returned (.tuple #[fval fzero (.slice none 0 0), .int .i64 140]) ∧ Same w w' := by
  have H := Lib.hid h
  clear h
  go_enter Try.func36, Try.ntmps36
  go_wp2_with fail
  refine (rtop_zero _ b _ (by exact H.out.same ((Turned.refl _ _).alloc _))).mono ?_
  rintro e w1 ⟨rfl, hs⟩
  have hB1 : Blk w1 w.heap.size 25 #[.int .i64 0, .bool false, .int .i64 0, .slice none 0 0] := (Blk.new w 25 _).turned hs (fun h => h)
  obtain ⟨r0, r1, r2, r3⟩ := hB1.four
  have hg1 := fun i => hB1.frozen i
  have hltg := hB1.lt
  have HB1 := Lib.hid hB1; have HS1 := Lib.hid hs
  clear hB1 hs
  go_wp2_with fail
  have E : ∀ (n1 n2 n3 n4 : Value) (o : Obj), Hid (Blk (((((w1.setCell ⟨w.heap.size, 0, none⟩ n1).setCell ⟨w.heap.size, 1, none⟩ n2).setCell ⟨w.heap.size, 2, none⟩ n3).setCell ⟨w.heap.size, 3, none⟩ n4).alloc o) w.heap.size 25 #[n1, n2, n3, n4] ∧
      Same w (((((w1.setCell ⟨w.heap.size, 0, none⟩ n1).setCell ⟨w.heap.size, 1, none⟩ n2).setCell ⟨w.heap.size, 2, none⟩ n3).setCell ⟨w.heap.size, 3, none⟩ n4).alloc o)) := by
    intro n1 n2 n3 n4 o
    have h0 : Same w w1 := ((Turned.refl _ _).alloc _).trans HS1.out (fun _ h => h.elim)
    exact ⟨((((HB1.out.set_ 0 n1).set_ 1 n2).set_ 2 n3).set_ 3 n4).alloc o, ((((h0.setCell (p := ⟨w.heap.size, 0, none⟩) (.inr (Nat.le_refl _)) n1).setCell (p := ⟨w.heap.size, 1, none⟩) (.inr (Nat.le_refl _)) n2).setCell (p := ⟨w.heap.size, 2, none⟩) (.inr (Nat.le_refl _)) n3).setCell (p := ⟨w.heap.size, 3, none⟩) (.inr (Nat.le_refl _)) n4).alloc o⟩
  have E' := E (.int .i64 0) (.bool false) (.int .i64 0) (.slice none 0 0) (Obj.cells #[Value.int IntKind.i64 0, Value.bool false, Value.int IntKind.i64 0, Value.slice none 0 0] 25)
  exact bodyPost_ret (results_frame2 rfl _ rfl E'.out.1) rfl ⟨rfl, E'.out.2⟩
end Go.Proofs.Ythfhjopofpffgaa

/-
  The walks of top, Pop, Top, Turn.
-/
import Derived.Test.YthfhjopofpffgaaSpine
namespace Go.Proofs.Ythfhjopofpffgaa
open Go.RowKit

theorem top_some (w : World) (b : Nat) (v : Value) (F : List FV) (x : FV) (h : SpAt w b v (F ++ [x])) (hF : F.length ≤ 140737488355328) :
    Calls Try.prog 29 #[.pointer (some ⟨b, 0, none⟩)] w fun e w' => e = .returned (.tuple #[.int .i64 F.length, .int .i64 0]) ∧ w = w' := by
  obtain ⟨a, c, rfl, h1, h2⟩ := own_shape h.own
  have c0 := h.blk.cell 0
  simp at c0
  have hl : (((F.length : Int) + 1) == 0) = false := by rw [beq_eq_false_iff_ne]; omega
  clear h
  go_enter Try.func29, Try.ntmps29
  go_wp2
  all_goals go_ret2
  all_goals refine ⟨?_, rfl⟩
  all_goals simp
theorem top_none (w : World) (b : Nat) (v : Value) (h : SpAt w b v []) :
    Calls Try.prog 29 #[.pointer (some ⟨b, 0, none⟩)] w fun e w' => e = .returned (.tuple #[.int .i64 0, .int .i64 140]) ∧ w = w' := by
  obtain ⟨a, c, rfl, h1, h2⟩ := own_shape h.own
  have c0 := h.blk.cell 0
  simp at c0
  clear h
  go_enter Try.func29, Try.ntmps29
  go_wp2
  all_goals go_ret2
  all_goals exact ⟨rfl, rfl⟩

theorem own_shrink {w : World} {e : TypeId} {size g n m c : Nat} {xs ys : List Value} (h : w.ownsRow 0 e size (.slice (some ⟨g, 0, none⟩) (n + m) c) (n + m) (xs ++ ys)) (hl : xs.length = n * size) :
    w.ownsRow 0 e size (.slice (some ⟨g, 0, none⟩) n c) n xs := by
  rcases h.2 with ⟨h0, _⟩ | ⟨g', cap, cur, hv, hb, hh, h1, h2, h3, h4⟩
  · cases h0
  · injection hv with hv _ hc
    injection hv with hv
    injection hv with hv
    subst hv; subst hc
    refine ⟨hl, .inr ⟨g, c, cur, rfl, hb, hh, by omega, h2, h3, ?_⟩⟩
    have e : (cur.toList.take ((n + m) * size)).take (n * size) = cur.toList.take (n * size) := by
      rw [List.take_take, Nat.min_eq_left (Nat.mul_le_mul_right _ (Nat.le_add_right _ _))]
    rw [← e, h4, List.take_append_of_le_length (Nat.le_of_eq hl.symm), List.take_of_length_le (Nat.le_of_eq hl)]

def fzero : Fr := ⟨0, false, 0, []⟩

theorem pop_after {w : World} {b g c : Nat} {F : List FV} {x : FV} (h : SpAt w b (.slice (some ⟨g, 0, none⟩) (F ++ [x]).length c) (F ++ [x])) (hgb : g ≠ b) :
    SpAt (w.setCell ⟨b, 0, none⟩ (.slice (some ⟨g, 0, none⟩) F.length c)) b (.slice (some ⟨g, 0, none⟩) F.length c) F := by
  have hset : Turned (fun k => k = b) w (w.setCell ⟨b, 0, none⟩ (.slice (some ⟨g, 0, none⟩) F.length c)) := Turned.setCell (S := fun k => k = b) (Turned.refl _ w) (p := ⟨b, 0, none⟩) (.inl rfl) _
  refine ⟨(h.blk.set_ 0 _).trans rfl, ?_, ?_⟩
  · have ho := h.own
    rw [fall_snoc, List.length_append] at ho
    exact World.ownsRow.turned (own_shrink ho (fall_length F)) hset (fun k hk e => hgb (by simp [Value.ownBlock] at hk; omega))
  · intro y hy
    have hp := h.paths y (by simp [hy])
    exact hp.turned hset (fun k hk e => pat_foot hp h.blk h.own k hk (.inl e))

set_option maxHeartbeats 1000000 in
theorem pop_some (w : World) (b : Nat) (v : Value) (F : List FV) (x : FV) (h : SpAt w b v (F ++ [x])) (hF : F.length ≤ 140737488355328) :
    Calls Try.prog 14 #[.pointer (some ⟨b, 0, none⟩)] w fun e w' => ∃ v', e = .returned (.tuple #[fval x.1 x.2, .int .i64 0]) ∧ SpAt w' b v' F ∧ Turned (fun k => k = b) w w' ∧ v'.ownBlock = v.ownBlock := by
  have hown := h.own
  obtain ⟨a, c, rfl, h1, h2⟩ := own_shape h.own
  obtain ⟨g, cap, hv, _, hg⟩ := hown.form (by simp)
  obtain ⟨rfl, rfl⟩ : a = some ⟨g, 0, none⟩ ∧ c = cap := by simpa using hv
  clear hv
  have c0 := h.blk.cell 0
  simp at c0
  have hc := hown.cells (g := g) rfl
  obtain ⟨e0, e1, e2, e3⟩ := fall_at (F ++ [x]) F.length (by simp)
  simp only [List.getElem_append_right (Nat.le_refl _), Nat.sub_self, List.getElem_cons_zero] at e0 e1 e2 e3
  have d0 := hc _ _ e0
  have d1 := hc _ _ e1
  have d2 := hc _ _ e2
  have d3 := hc _ _ e3
  simp only [Addr.add_lit, Nat.zero_add] at d0 d1 d2 d3
  obtain ⟨pA, pc, hpv, _⟩ := (h.paths x (by simp)).rd
  obtain ⟨⟨node, whole, next, path⟩, pv⟩ := x
  simp only at hpv d0 d1 d2 d3
  subst hpv
  have hlt := h.blk.lt
  have hf0 := fun i => h.blk.frozen i
  have hgb : Hid (g ≠ b) := fun e => own_blk_ne hown h.blk (by decide) (by rw [e]; rfl)
  have H := Lib.hid h
  have hcl : F.length + 1 ≤ c := by simpa using h1
  clear h hc e0 e1 e2 e3 hown h1
  go_enter Try.func14, Try.ntmps14
  go_wp2_with fail
  refine (top_some _ b _ F _ (by exact H.out.same ((Turned.refl _ _).alloc _)) hF).mono ?_
  rintro e w1 ⟨rfl, rfl⟩
  go_wp2_with fail
  have hB : ∀ u fv o, Blk (((w.setCell ⟨b, 0, none⟩ u).alloc (Obj.cells fv 25)).alloc o) w.heap.size 25 fv := by
    intro u fv o
    have hb := (Blk.new (w.setCell ⟨b, 0, none⟩ u) 25 fv).alloc o
    have hs : (w.setCell ⟨b, 0, none⟩ u).heap.size = w.heap.size := by simp [World.setCell]
    rwa [hs] at hb
  refine bodyPost_ret (results_frame2 rfl _ rfl (hB _ _ _)) rfl ⟨.slice (some ⟨g, 0, none⟩) F.length c, rfl, ?_, ((Turned.setCell (S := fun k => k = b) (Turned.refl _ w) (p := ⟨b, 0, none⟩) (.inl rfl) _).alloc _).alloc _, rfl⟩
  exact (pop_after H.out hgb.out).same (((Turned.refl _ _).alloc _).alloc _)
theorem pop_none (w : World) (b : Nat) (v : Value) (h : SpAt w b v []) :
    Calls Try.prog 14 #[.pointer (some ⟨b, 0, none⟩)] w fun e w' => e = .returned (.tuple #[fval fzero (.slice none 0 0), .int .i64 140]) ∧ Same w w' := by
  have H := Lib.hid h
  clear h
  go_enter Try.func14, Try.ntmps14
  go_wp2_with fail
  refine (top_none _ b _ (by exact H.out.same ((Turned.refl _ _).alloc _))).mono ?_
  rintro e w1 ⟨rfl, rfl⟩
  go_wp2_with fail
  refine bodyPost_ret (results_frame2 rfl _ rfl (Blk.new w 25 _)) rfl ⟨rfl, (Turned.refl _ _).alloc _⟩

set_option maxHeartbeats 1000000 in
theorem top_any (w : World) (b : Nat) (v : Value) (F : List FV) (x : FV) (h : SpAt w b v (F ++ [x])) (hF : F.length ≤ 140737488355328) (hl : x.1.path.length ≤ 17592186044416) :
    Calls Try.prog 16 #[.pointer (some ⟨b, 0, none⟩)] w fun e w' => ∃ q, e = .returned (.tuple #[fval x.1 (.slice (some ⟨q, 0, none⟩) x.1.path.length x.1.path.length), .int .i64 0]) ∧ Same w w' ∧ Blk w' q 3 (intVals x.1.path).toArray ∧ w.heap.size ≤ q := by
  have hown := h.own
  obtain ⟨a, c, rfl, h1, h2⟩ := own_shape h.own
  obtain ⟨g, cap, hv, _, hg⟩ := hown.form (by simp)
  obtain ⟨rfl, rfl⟩ : a = some ⟨g, 0, none⟩ ∧ c = cap := by simpa using hv
  clear hv
  have c0 := h.blk.cell 0
  simp at c0
  have hc := hown.cells (g := g) rfl
  obtain ⟨e0, e1, e2, e3⟩ := fall_at (F ++ [x]) F.length (by simp)
  simp only [List.getElem_append_right (Nat.le_refl _), Nat.sub_self, List.getElem_cons_zero] at e0 e1 e2 e3
  have d0 := hc _ _ e0
  have d1 := hc _ _ e1
  have d2 := hc _ _ e2
  have d3 := hc _ _ e3
  simp only [Addr.add_lit, Nat.zero_add] at d0 d1 d2 d3
  have hP := (h.paths x (by simp)).rd
  have HP := Lib.hid (hP.turned (w' := w.alloc (.cells #[.int .i64 0, .bool false, .int .i64 0, .slice none 0 0] 25)) (S := fun _ => False) ((Turned.refl _ _).alloc _) (fun _ _ h => h))
  obtain ⟨pA, pc, hpv, _⟩ := hP
  obtain ⟨f, pv⟩ := x
  simp only at hpv d0 d1 d2 d3 hl HP
  subst hpv
  have hlt := h.blk.lt
  have H := Lib.hid h
  clear h hc e0 e1 e2 e3 hown h1
  go_enter Try.func16, Try.ntmps16
  go_wp2_with fail
  refine (top_some _ b _ F _ (by exact H.out.same ((Turned.refl _ _).alloc _)) hF).mono ?_
  rintro e w1 ⟨rfl, rfl⟩
  go_wp2_with fail
  refine (own_any _ f _ (by exact HP.out) hl).mono ?_
  rintro e w2 ⟨q, rfl, hB, hs, hq⟩
  have hR : Blk w2 w.heap.size 25 #[.int .i64 0, .bool false, .int .i64 0, .slice none 0 0] := (Blk.new w 25 _).turned hs (fun h => h)
  obtain ⟨r0, r1, r2, r3⟩ := hR.four
  have hf := fun i => hR.frozen i
  have HR := Lib.hid hR; have HS := Lib.hid hs; have HB := Lib.hid hB; have HQ := Lib.hid hq
  have hlt2 := hR.lt
  clear hR hs hB hq
  go_wp2_with fail
  have HQ2 : w.heap.size < q := by have := HQ.out; simp at this; omega
  have E : ∀ n1 n2 n3 n4 : Value, Hid (Blk ((((w2.setCell ⟨w.heap.size, 0, none⟩ n1).setCell ⟨w.heap.size, 1, none⟩ n2).setCell ⟨w.heap.size, 2, none⟩ n3).setCell ⟨w.heap.size, 3, none⟩ n4) w.heap.size 25 #[n1, n2, n3, n4] ∧
      Blk ((((w2.setCell ⟨w.heap.size, 0, none⟩ n1).setCell ⟨w.heap.size, 1, none⟩ n2).setCell ⟨w.heap.size, 2, none⟩ n3).setCell ⟨w.heap.size, 3, none⟩ n4) q 3 (intVals f.path).toArray ∧
      Same w ((((w2.setCell ⟨w.heap.size, 0, none⟩ n1).setCell ⟨w.heap.size, 1, none⟩ n2).setCell ⟨w.heap.size, 2, none⟩ n3).setCell ⟨w.heap.size, 3, none⟩ n4)) := by
    intro n1 n2 n3 n4
    refine ⟨(((HR.out.set_ 0 n1).set_ 1 n2).set_ 2 n3).set_ 3 n4, (((HB.out.far (p := ⟨w.heap.size, 0, none⟩) (by simp; omega) n1).far (p := ⟨w.heap.size, 1, none⟩) (by simp; omega) n2).far (p := ⟨w.heap.size, 2, none⟩) (by simp; omega) n3).far (p := ⟨w.heap.size, 3, none⟩) (by simp; omega) n4, ?_⟩
    have h0 : Same w w2 := ((Turned.refl _ _).alloc _).trans HS.out (fun _ h => h.elim)
    exact (((h0.setCell (p := ⟨w.heap.size, 0, none⟩) (.inr (Nat.le_refl _)) n1).setCell (p := ⟨w.heap.size, 1, none⟩) (.inr (Nat.le_refl _)) n2).setCell (p := ⟨w.heap.size, 2, none⟩) (.inr (Nat.le_refl _)) n3).setCell (p := ⟨w.heap.size, 3, none⟩) (.inr (Nat.le_refl _)) n4
  have E' := E (.int .i64 f.node) (.bool f.whole) (.int .i64 f.next) (.slice (some ⟨q, 0, none⟩) f.path.length f.path.length)
  exact bodyPost_ret (results_frame2 rfl _ rfl E'.out.1) rfl ⟨q, rfl, E'.out.2.2, E'.out.2.1, by omega⟩
theorem top_zero (w : World) (b : Nat) (v : Value) (h : SpAt w b v []) :
    Calls Try.prog 16 #[.pointer (some ⟨b, 0, none⟩)] w fun e w' => e = .returned (.tuple #[fval fzero (.slice none 0 0), .int .i64 140]) ∧ Same w w' := by
  have H := Lib.hid h
  clear h
  go_enter Try.func16, Try.ntmps16
  go_wp2_with fail
  refine (top_none _ b _ (by exact H.out.same ((Turned.refl _ _).alloc _))).mono ?_
  rintro e w1 ⟨rfl, rfl⟩
  go_wp2_with fail
  exact bodyPost_ret (results_frame2 rfl _ rfl (Blk.new w 25 _)) rfl ⟨rfl, (Turned.refl _ _).alloc _⟩
end Go.Proofs.Ythfhjopofpffgaa

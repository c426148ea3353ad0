/-
  The walk of Turn.
-/
import Derived.Test.YthfhjopofpffgaaSpine2
namespace Go.Proofs.Ythfhjopofpffgaa
open Go.RowKit

theorem fall_set (F : List FV) (x y : FV) : ((((fall (F ++ [x])).set (F.length * 4) (.int .i64 y.1.node)).set (F.length * 4 + 1) (.bool y.1.whole)).set (F.length * 4 + 2) (.int .i64 y.1.next)).set (F.length * 4 + 3) y.2 = fall (F ++ [y]) := by
  rw [fall_snoc, fall_snoc, ← fall_length F]
  rw [List.set_append_right _ _ (Nat.le_refl _), List.set_append_right _ _ (by omega), List.set_append_right _ _ (by omega), List.set_append_right _ _ (by omega)]
  congr 1
  simp [fcells, show (fall F).length + 1 - (fall F).length = 1 from by omega, show (fall F).length + 2 - (fall F).length = 2 from by omega, show (fall F).length + 3 - (fall F).length = 3 from by omega]

theorem turn_after {w w3 : World} {b g c q : Nat} {F : List FV} {x : FV} {f : Fr} (h : SpAt w b (.slice (some ⟨g, 0, none⟩) (F ++ [x]).length c) (F ++ [x])) (hw : Same w w3) (hB : Blk w3 q 3 (intVals f.path).toArray) :
    SpAt ((((w3.setCell ⟨g, F.length * 4, none⟩ (.int .i64 f.node)).setCell ⟨g, F.length * 4 + 1, none⟩ (.bool f.whole)).setCell ⟨g, F.length * 4 + 2, none⟩ (.int .i64 f.next)).setCell ⟨g, F.length * 4 + 3, none⟩ (.slice (some ⟨q, 0, none⟩) f.path.length f.path.length))
        b (.slice (some ⟨g, 0, none⟩) (F ++ [x]).length c) (F ++ [(f, .slice (some ⟨q, 0, none⟩) f.path.length f.path.length)]) ∧
      Turned (fun k => k = g) w ((((w3.setCell ⟨g, F.length * 4, none⟩ (.int .i64 f.node)).setCell ⟨g, F.length * 4 + 1, none⟩ (.bool f.whole)).setCell ⟨g, F.length * 4 + 2, none⟩ (.int .i64 f.next)).setCell ⟨g, F.length * 4 + 3, none⟩ (.slice (some ⟨q, 0, none⟩) f.path.length f.path.length)) := by
  have h3 := h.same hw
  have hT : ∀ n1 n2 n3 n4, Turned (fun k => k = g) w3 ((((w3.setCell ⟨g, F.length * 4, none⟩ n1).setCell ⟨g, F.length * 4 + 1, none⟩ n2).setCell ⟨g, F.length * 4 + 2, none⟩ n3).setCell ⟨g, F.length * 4 + 3, none⟩ n4) := by
    intro n1 n2 n3 n4
    exact ((((Turned.refl (fun k => k = g) w3).setCell (p := ⟨g, F.length * 4, none⟩) (.inl rfl) n1).setCell (p := ⟨g, F.length * 4 + 1, none⟩) (.inl rfl) n2).setCell (p := ⟨g, F.length * 4 + 2, none⟩) (.inl rfl) n3).setCell (p := ⟨g, F.length * 4 + 3, none⟩) (.inl rfl) n4
  have hgb : b ≠ g := fun e => own_blk_ne h3.own h3.blk (by decide) (by rw [e]; rfl)
  have hqg : q ≠ g := fun e => own_blk_ne h3.own hB (by decide) (by rw [e]; rfl)
  refine ⟨⟨h3.blk.turned (hT _ _ _ _) hgb, ?_, ?_⟩, (hw.mono (fun _ h => h.elim)).trans (hT _ _ _ _) (fun i hi => .inl hi)⟩
  · have ho := ((((h3.own.stored (F.length * 4) (.int .i64 f.node)).1.stored (F.length * 4 + 1) (.bool f.whole)).1.stored (F.length * 4 + 2) (.int .i64 f.next)).1.stored (F.length * 4 + 3) (.slice (some ⟨q, 0, none⟩) f.path.length f.path.length)).1
    rw [fall_set F x (f, .slice (some ⟨q, 0, none⟩) f.path.length f.path.length)] at ho
    simpa using ho
  · intro y hy
    rw [List.mem_append] at hy
    rcases hy with hy | hy
    · have hp := h3.paths y (by simp [hy])
      exact hp.turned (hT _ _ _ _) (fun k hk e => pat_foot hp h3.blk h3.own k hk (.inr (by rw [e]; rfl)))
    · obtain rfl : y = _ := by simpa using hy
      exact .inr ⟨q, rfl, hB.turned (hT _ _ _ _) hqg⟩

set_option maxHeartbeats 1000000 in
theorem turn_any (w : World) (b : Nat) (v : Value) (F : List FV) (x : FV) (h : SpAt w b v (F ++ [x])) (hF : F.length ≤ 140737488355328) (f : Fr) (pv : Value) (hR : Rd w pv f.path) (hl : f.path.length ≤ 17592186044416) :
    Calls Try.prog 18 #[.pointer (some ⟨b, 0, none⟩), fval f pv] w fun e w' => ∃ pv', e = .returned (.int .i64 0) ∧ SpAt w' b v (F ++ [(f, pv')]) ∧ Turned (foot b v) w w' ∧ ∃ q, pv' = .slice (some ⟨q, 0, none⟩) f.path.length f.path.length ∧ w.heap.size ≤ q := by
  have hown := h.own
  obtain ⟨a, c, rfl, h1, h2⟩ := own_shape h.own
  obtain ⟨g, cap, hv, _, hg⟩ := hown.form (by simp)
  obtain ⟨rfl, rfl⟩ : a = some ⟨g, 0, none⟩ ∧ c = cap := by simpa using hv
  clear hv
  have c0 := h.blk.cell 0
  simp at c0
  have hlt := h.blk.lt
  have H := Lib.hid h
  have HR := Lib.hid (hR.turned (w' := w.alloc (.cells #[.int .i64 f.node, .bool f.whole, .int .i64 f.next, pv] 25)) (S := fun _ => False) ((Turned.refl _ _).alloc _) (fun _ _ h => h))
  clear h hR hown h1
  have hi1 : (F.length : Int) < (F.length : Int) + 1 := by omega
  show Calls Try.prog 18 #[.pointer (some ⟨b, 0, none⟩), .agg #[.int .i64 f.node, .bool f.whole, .int .i64 f.next, pv]] w _
  go_enter Try.func18, Try.ntmps18
  go_wp2_with fail
  refine (top_some _ b _ F _ (by exact H.out.same ((Turned.refl _ _).alloc _)) hF).mono ?_
  rintro e w1 ⟨rfl, rfl⟩
  go_wp2_with fail
  go_region_law (first | ((go_simp; go_at_call 28; refine (own_any _ f pv (by exact HR.out) hl).mono ?_; rintro e w3 ⟨q, rfl, hB3, hs3, hq3⟩; have HS3 : Hid (Same w w3) := ((((Turned.refl _ w).alloc _).drew).trans hs3 (fun _ h => h.elim)); have HB3 := Lib.hid hB3; have HQ3 := Lib.hid hq3; have HSp := Lib.hid (H.out.same HS3.out); have k0 : w3.cell? ⟨b, 0, none⟩ = some (.slice (some ⟨g, 0, none⟩) (F.length + 1) c) := ((HSp.out.blk.cell 0).trans rfl).trans (by simp); have hc3 := HSp.out.own.cells (g := g) rfl; obtain ⟨e0, e1, e2, e3⟩ := fall_at (F ++ [x]) F.length (by simp); have d0 := hc3 _ _ e0; have d1 := hc3 _ _ e1; have d2 := hc3 _ _ e2; have d3 := hc3 _ _ e3; simp only [Addr.add_lit, Nat.zero_add, List.getElem_append_right (Nat.le_refl _), Nat.sub_self, List.getElem_cons_zero] at d0 d1 d2 d3; have kf : ∀ j, w3.frozen? ⟨g, j, none⟩ = false := fun j => HSp.out.own.frozenAt j; clear hs3 hB3 hq3 hc3 e0 e1 e2 e3)))
  all_goals
    have A := Lib.hid (turn_after H.out HS3.out HB3.out)
    have hq : w.heap.size ≤ q := by have := HQ3.out; simp at this; omega
    go_wp2
    go_ret
    exact ⟨_, rfl, A.out.1, A.out.2.mono (fun k hk => .inr (by rw [hk]; rfl)), q, rfl, hq⟩
theorem turn_none (w : World) (b : Nat) (v : Value) (h : SpAt w b v []) (f : Fr) (pv : Value) :
    Calls Try.prog 18 #[.pointer (some ⟨b, 0, none⟩), fval f pv] w fun e w' => e = .returned (.int .i64 140) ∧ Same w w' := by
  have H := Lib.hid h
  clear h
  show Calls Try.prog 18 #[.pointer (some ⟨b, 0, none⟩), .agg #[.int .i64 f.node, .bool f.whole, .int .i64 f.next, pv]] w _
  go_enter Try.func18, Try.ntmps18
  go_wp2_with fail
  refine (top_none _ b _ (by exact H.out.same ((Turned.refl _ _).alloc _))).mono ?_
  rintro e w1 ⟨rfl, rfl⟩
  go_wp2_with fail
  go_ret
  exact ⟨rfl, (Turned.refl _ _).alloc _⟩
end Go.Proofs.Ythfhjopofpffgaa

/-
  The walk of the reference's Turn.
-/
import Derived.Test.YthfhjopofpffgaaRef4
namespace Go.Proofs.Ythfhjopofpffgaa
open Go.RowKit

theorem rturn_after {w w3 : World} {b g c : Nat} {F : List FV} {x : FV} {f : Fr} {pv : Value} (h : RAt w b (.slice (some ⟨g, 0, none⟩) (F ++ [x]).length c) (F ++ [x])) (hw : Same w w3) (hB : RowAt w3 pv f.path) :
    RAt ((((w3.setCell ⟨g, F.length * 4, none⟩ (.int .i64 f.node)).setCell ⟨g, F.length * 4 + 1, none⟩ (.bool f.whole)).setCell ⟨g, F.length * 4 + 2, none⟩ (.int .i64 f.next)).setCell ⟨g, F.length * 4 + 3, none⟩ pv)
        b (.slice (some ⟨g, 0, none⟩) (F ++ [x]).length c) (F ++ [(f, pv)]) ∧
      Turned (fun k => k = g) w ((((w3.setCell ⟨g, F.length * 4, none⟩ (.int .i64 f.node)).setCell ⟨g, F.length * 4 + 1, none⟩ (.bool f.whole)).setCell ⟨g, F.length * 4 + 2, none⟩ (.int .i64 f.next)).setCell ⟨g, F.length * 4 + 3, none⟩ pv) := by
  have h3 := h.same hw
  have hT : ∀ n1 n2 n3 n4, Turned (fun k => k = g) w3 ((((w3.setCell ⟨g, F.length * 4, none⟩ n1).setCell ⟨g, F.length * 4 + 1, none⟩ n2).setCell ⟨g, F.length * 4 + 2, none⟩ n3).setCell ⟨g, F.length * 4 + 3, none⟩ n4) := by
    intro n1 n2 n3 n4
    exact ((((Turned.refl (fun k => k = g) w3).setCell (p := ⟨g, F.length * 4, none⟩) (.inl rfl) n1).setCell (p := ⟨g, F.length * 4 + 1, none⟩) (.inl rfl) n2).setCell (p := ⟨g, F.length * 4 + 2, none⟩) (.inl rfl) n3).setCell (p := ⟨g, F.length * 4 + 3, none⟩) (.inl rfl) n4
  have hgb : b ≠ g := fun e => own_blk_ne h3.own h3.blk (by decide) (by rw [e]; rfl)
  refine ⟨⟨h3.blk.turned (hT _ _ _ _) hgb, ?_, ?_⟩, (hw.mono (fun _ h => h.elim)).trans (hT _ _ _ _) (fun i hi => .inl hi)⟩
  · have ho := ((((h3.own.stored (F.length * 4) (.int .i64 f.node)).1.stored (F.length * 4 + 1) (.bool f.whole)).1.stored (F.length * 4 + 2) (.int .i64 f.next)).1.stored (F.length * 4 + 3) pv).1
    rw [fall_set F x (f, pv)] at ho
    simpa using ho
  · intro y hy
    rw [List.mem_append] at hy
    rcases hy with hy | hy
    · have hp := h3.paths y (by simp [hy])
      exact hp.turned (hT _ _ _ _) (fun k hk e => row_foot hp h3.blk (by decide) h3.own k hk (.inr (by rw [e]; rfl)))
    · obtain rfl : y = _ := by simpa using hy
      exact hB.turned (hT _ _ _ _) (fun k hk e => own_own_ne hB h3.own (by decide) k hk (by rw [e]; rfl))

set_option maxHeartbeats 2000000 in
theorem rturn_any (w : World) (b : Nat) (v : Value) (F : List FV) (x : FV) (h : RAt w b v (F ++ [x])) (hF : F.length ≤ 17592186044) (f : Fr) (pv : Value) (hR : Rd w pv f.path) (hl : f.path.length ≤ 17592186044) :
    Calls Try.prog 38 #[.pointer (some ⟨b, 0, none⟩), fval f pv] w fun e w' => ∃ pv', e = .returned (.int .i64 0) ∧ RAt w' b v (F ++ [(f, pv')]) ∧ Turned (foot b v) w w' ∧ ∀ k, pv'.ownBlock = some k → w.heap.size ≤ k := by
  have hown := h.own
  obtain ⟨a, c, rfl, h1, h2⟩ := own_shape h.own
  obtain ⟨g, cap, hv, _, hg⟩ := hown.form (by simp)
  obtain ⟨rfl, rfl⟩ : a = some ⟨g, 0, none⟩ ∧ c = cap := by simpa using hv
  clear hv
  have c0 := h.blk.cell 0
  simp at c0
  have hlt := h.blk.lt
  have H := Lib.hid h
  have HR := Lib.hid (hR.turned (w' := w.alloc (.cells #[.int .i64 f.node, .bool f.whole, .int .i64 f.next, pv] 25)) (S := fun _ => False) ((Turned.refl _ _).alloc _) (fun _ _ h => h))
  clear h hR hown h1
  have hi1 : (F.length : Int) < (F.length : Int) + 1 := by omega
  have hnz : (((F.length : Int) + 1) == 0) = false := by rw [beq_eq_false_iff_ne]; omega
  have hw1 : IntKind.i64.wrap ((F.length : Int) + 1 - 1) = F.length := by rw [show (F.length : Int) + 1 - 1 = F.length from by omega]; exact wrap_small _ (by omega) (by omega)
  have hw2 : IntKind.i64.wrap (F.length : Int) = F.length := wrap_small _ (by omega) (by omega)
  show Calls Try.prog 38 #[.pointer (some ⟨b, 0, none⟩), .agg #[.int .i64 f.node, .bool f.whole, .int .i64 f.next, pv]] w _
  go_enter Try.func38, Try.ntmps38
  go_wp2_with fail
  go_region_law (first | ((go_simp; go_at_call 42; refine (rown_any _ f pv (by exact HR.out) hl).mono ?_; rintro e w3 ⟨q, rfl, hB3, hs3, hq3⟩; obtain ⟨qa, qc, rfl, _, _⟩ := own_shape hB3; have HS3 : Hid (Same w w3) := ((((Turned.refl _ w).alloc _).drew).trans hs3 (fun _ h => h.elim)); have HB3 := Lib.hid hB3; have HQ3 := Lib.hid hq3; have HSp := Lib.hid (H.out.same HS3.out); have k0 : w3.cell? ⟨b, 0, none⟩ = some (.slice (some ⟨g, 0, none⟩) (F.length + 1) c) := ((HSp.out.blk.cell 0).trans rfl).trans (by simp); obtain ⟨d0, d1, d2, d3⟩ := last_cells HSp.out.own; have kf : ∀ j, w3.frozen? ⟨g, j, none⟩ = false := fun j => HSp.out.own.frozenAt j; clear hs3 hB3 hq3)))
  all_goals
    have A := Lib.hid (rturn_after H.out HS3.out HB3.out)
    have hq : Hid (∀ k, (Value.slice qa f.path.length qc).ownBlock = some k → w.heap.size ≤ k) := fun k hk => by have := HQ3.out k hk; simp at this; omega
    go_wp2
    go_ret
    exact ⟨_, rfl, A.out.1, A.out.2.mono (fun k hk => .inr (by rw [hk]; rfl)), hq.out⟩
theorem rturn_none (w : World) (b : Nat) (v : Value) (h : RAt w b v []) (f : Fr) (pv : Value) :
    Calls Try.prog 38 #[.pointer (some ⟨b, 0, none⟩), fval f pv] w fun e w' => e = .returned (.int .i64 140) ∧ Same w w' := by
  obtain ⟨a, c, rfl, h1, h2⟩ := own_shape h.own
  have c0 := h.blk.cell 0
  simp at c0
  have hlt := h.blk.lt
  clear h
  show Calls Try.prog 38 #[.pointer (some ⟨b, 0, none⟩), .agg #[.int .i64 f.node, .bool f.whole, .int .i64 f.next, pv]] w _
  go_enter Try.func38, Try.ntmps38
  go_wp2_with fail
  go_ret
  exact ⟨rfl, (Turned.refl _ _).alloc _⟩
end Go.Proofs.Ythfhjopofpffgaa

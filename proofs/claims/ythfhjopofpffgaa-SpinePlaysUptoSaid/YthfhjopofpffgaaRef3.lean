/-
  The walks of the reference's Push, Top, Pop, Turn.
-/
import Derived.Test.YthfhjopofpffgaaRef2
namespace Go.Proofs.Ythfhjopofpffgaa
open Go.RowKit

theorem rpush_after {w w3 w4 : World} {b g cap c : Nat} {a : Option Addr} {F : List FV} {f : Fr} {pv : Value} {o : Obj}
    (h : RAt w b (.slice a F.length c) F) (hw3 : Same w w3) (hB : RowAt w3 pv f.path)
    (hown : w4.ownsRow 0 25 4 (.slice (some ⟨g, 0, none⟩) (F.length + 1) cap) (F.length + 1) (fall F ++ fcells f pv))
    (hgrow : (w3.alloc o).grownBy w4 (Value.slice a F.length c).ownBlock) (hat : (Value.slice a F.length c).ownBlock = some g ∨ g = w3.heap.size + 1) :
    RAt (w4.setCell ⟨b, 0, none⟩ (.slice (some ⟨g, 0, none⟩) (F.length + 1) cap)) b (.slice (some ⟨g, 0, none⟩) (F.length + 1) cap) (F ++ [(f, pv)]) ∧
      Turned (foot b (.slice a F.length c)) w (w4.setCell ⟨b, 0, none⟩ (.slice (some ⟨g, 0, none⟩) (F.length + 1) cap)) ∧
      ((Value.slice (some ⟨g, 0, none⟩) (F.length + 1) cap).ownBlock = (Value.slice a F.length c).ownBlock ∨ ∃ k, (Value.slice (some ⟨g, 0, none⟩) (F.length + 1) cap).ownBlock = some k ∧ w.heap.size ≤ k) := by
  have h3 := h.same hw3
  have hne := own_blk_ne h3.own h3.blk (by decide)
  have hB4 : Blk w4 b 61 #[.slice a F.length c] := (h3.blk.alloc o).grown hgrow hne.symm
  have hgb : g ≠ b := by
    intro e; subst e
    exact own_blk_ne hown hB4 (by decide) rfl
  have hT4 : Turned (foot b (.slice a F.length c)) w w4 := ((hw3.mono (fun _ h => h.elim)).alloc o).grown hgrow (fun k hk => .inl (.inr hk))
  have hT34 : Turned (fun k => (Value.slice a F.length c).ownBlock = some k) w3 w4 := ((Turned.refl _ _).alloc o).grown hgrow (fun k hk => .inl hk)
  have hset : ∀ u, Turned (fun k => k = b) w4 (w4.setCell ⟨b, 0, none⟩ u) := fun u => Turned.setCell (S := fun k => k = b) (Turned.refl _ w4) (p := ⟨b, 0, none⟩) (.inl rfl) u
  have hq4 : RowAt w4 pv f.path := hB.turned hT34 (fun k hk e => own_own_ne hB h3.own (by decide) k hk e)
  refine ⟨⟨(hB4.set_ 0 _).trans rfl, ?_, ?_⟩, hT4.setCell (.inl (.inl rfl)) _, ?_⟩
  · rw [fall_snoc, List.length_append]
    exact World.ownsRow.turned hown (hset _) (fun k hk e => hgb (by simp [Value.ownBlock] at hk; omega))
  · intro x hx
    rw [List.mem_append] at hx
    rcases hx with hx | hx
    · have hp := h3.paths x hx
      have hnf := row_foot hp h3.blk (by decide) h3.own
      exact (hp.turned hT34 (fun k hk e => hnf k hk (.inr e))).turned (hset _) (fun k hk e => hnf k hk (.inl e))
    · obtain rfl : x = _ := by simpa using hx
      exact hq4.turned (hset _) (fun k hk e => own_blk_ne hq4 hB4 (by decide) (by rw [hk, e]))
  · rcases hat with h | h
    · exact .inl h.symm
    · exact .inr ⟨g, rfl, by have := hw3.size; omega⟩

set_option maxHeartbeats 1000000 in
theorem rpush_any (w : World) (b : Nat) (v : Value) (F : List FV) (h : RAt w b v F) (f : Fr) (pv : Value) (hR : Rd w pv f.path) (hl : f.path.length ≤ 17592186044) (hF : (F.length + 1) * 48 ≤ 140737488355328) :
    Calls Try.prog 33 #[.pointer (some ⟨b, 0, none⟩), fval f pv] w fun e w' => ∃ v' pv', e = .returned (.tuple #[]) ∧ RAt w' b v' (F ++ [(f, pv')]) ∧ Turned (foot b v) w w' ∧ (v'.ownBlock = v.ownBlock ∨ ∃ k, v'.ownBlock = some k ∧ w.heap.size ≤ k) ∧ ∀ k, pv'.ownBlock = some k → w.heap.size ≤ k := by
  obtain ⟨a, c, rfl, h1, h2⟩ := own_shape h.own
  have c0 := h.blk.cell 0
  simp at c0
  have hlt := h.blk.lt
  have H := Lib.hid h
  clear h
  have HR := Lib.hid (hR.turned (w' := w.alloc (.cells #[.int .i64 f.node, .bool f.whole, .int .i64 f.next, pv] 25)) (S := fun _ => False) ((Turned.refl _ _).alloc _) (fun _ _ h => h))
  clear hR
  show Calls Try.prog 33 #[.pointer (some ⟨b, 0, none⟩), .agg #[.int .i64 f.node, .bool f.whole, .int .i64 f.next, pv]] w _
  go_enter Try.func33, Try.ntmps33
  go_wp2
  obtain ⟨i0, hi0, hz0, hz1, hz2⟩ := info_parts Try.info25
  have HI : Hid (Try.prog.info? 25 = some i0 ∧ i0.zero = some (.agg #[.int .i64 0, .bool false, .int .i64 0, .slice none 0 0]) ∧ i0.size = 4 ∧ i0.bytes = 48) := ⟨hi0, hz0, hz1, hz2⟩
  clear hi0 hz0 hz1 hz2
  have hne : (Value.slice a F.length c).ownBlock ≠ some b := own_blk_ne H.out.own H.out.blk (by decide)
  have HNE := Lib.hid hne
  clear hne
  go_region_law (first | ((refine step_append_lies _ (by rfl) _ _ _ (by rfl) 0 25 i0 _ 4 48 Try.underlying22 HI.out.1 HI.out.2.1 HI.out.2.2.1 HI.out.2.2.2 rfl (by omega) (.slice a F.length c) F.length (fall F) (by rfl) (HOW.out.alloc _) ⟨w3.heap.size, 0, none⟩ 1 1 (fcells f (.slice qa f.path.length qc)) (by rfl) (by rfl) (World.news_of_block (cs := #[.int .i64 f.node, .bool f.whole, .int .i64 f.next, .slice qa f.path.length qc]) (t := 25) (fr := (0, 0)) (heap_alloc_new w3 _)) (by simp [fcells, Value.oneCell']) (by omega) (by unfold maxLen; omega) (by omega) (by simp) (w3.heap.size + 1) (by simp) ?_; intro g cap w4 hown4 hgrow4 hat4 hlt4; have k4 : w4.cell? ⟨b, 0, none⟩ = some (.slice a F.length c) := ((hgrow4.cell_far ⟨b, 0, none⟩ (by simp; omega) HNE.out.symm).trans (World.cell?_alloc_lt w3 _ ⟨b, 0, none⟩ h3lt)).trans k0; have kf : w4.frozen? ⟨b, 0, none⟩ = false := ((hgrow4.frozen_far ⟨b, 0, none⟩ (by simp; omega) HNE.out.symm).trans (World.frozen?_alloc_past _ b 0 h3lt)).trans kf3)) | ((go_simp; go_at_call 42; refine (rown_any _ f pv (by exact HR.out) hl).mono ?_; rintro e w3 ⟨q, rfl, hB3, hs3, hq3⟩; obtain ⟨qa, qc, rfl, _, _⟩ := own_shape hB3; have HS3 : Hid (Same w w3) := ((((Turned.refl _ w).alloc _).drew).trans hs3 (fun _ h => h.elim)); have HB3 := Lib.hid hB3; have HQ3 := Lib.hid hq3; have HSp := Lib.hid (H.out.same HS3.out); have k0 : w3.cell? ⟨b, 0, none⟩ = some (.slice a F.length c) := (HSp.out.blk.cell 0).trans rfl; have kf3 : w3.frozen? ⟨b, 0, none⟩ = false := HSp.out.blk.frozen 0; have h3lt : b < w3.heap.size := HSp.out.blk.lt; have HOW := Lib.hid HSp.out.own; clear hs3 hB3 hq3)))
  all_goals
    have A := Lib.hid (rpush_after H.out HS3.out HB3.out hown4 hgrow4 hat4)
    have hq : Hid (∀ k, (Value.slice qa f.path.length qc).ownBlock = some k → w.heap.size ≤ k) := fun k hk => by have := HQ3.out k hk; simp at this; omega
    clear hown4 hgrow4 hat4 k4 kf hlt4
    go_wp2
    go_end0
    exact ⟨_, _, rfl, A.out.1, A.out.2.1, A.out.2.2, hq.out⟩
end Go.Proofs.Ythfhjopofpffgaa

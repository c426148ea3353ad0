/-
  The walks of Copied, Own, and of the reference's Push, Top, Pop, Turn.
-/
import Derived.Test.YthfhjopofpffgaaLent
namespace Go.Proofs.Ythfhjopofpffgaa
open Go.RowKit

set_option maxHeartbeats 1000000 in
theorem copied_any (w : World) (v : Value) (p : List Int) (hR : Rd w v p) (hl : p.length ≤ 17592186044) :
    Calls Try.prog 43 #[v] w fun e w' => ∃ q, e = .returned q ∧ RowAt w' q p ∧ Same w w' ∧ ∀ k, q.ownBlock = some k → w.heap.size ≤ k := by
  obtain ⟨A, c, rfl, hA⟩ := hR
  have HS : Hid (Rd (w.alloc (.cells #[] 3)) (.slice A p.length c) p) := Rd.turned (w := w) (S := fun _ => False) ⟨A, c, rfl, hA⟩ ((Turned.refl _ _).alloc _) (fun _ _ h => h)
  clear hA
  obtain ⟨i0, hi0, hz0, hz1, hz2⟩ := info_parts Try.info3
  have HI : Hid (Try.prog.info? 3 = some i0 ∧ i0.zero = some (.int .i64 0) ∧ i0.size = 1 ∧ i0.bytes = 8) := ⟨hi0, hz0, hz1, hz2⟩
  clear hi0 hz0 hz1 hz2
  go_enter Try.func43, Try.ntmps43
  go_wp2_with (at_builtin; go_loud (refine wpList_append_src _ rfl _ _ 23 rfl 3 i0 _ 1 8 Try.underlying23 HI.out.1 HI.out.2.1 HI.out.2.2.1 HI.out.2.2.2 rfl (by omega) (.slice (some ⟨w.heap.size, 0, none⟩) 0 0) 0 [] rfl (by exact empty_row) A p.length c (intVals p) rfl (by simp [intVals]) (rd_src HS.out) (ints_one p) (by unfold maxLen; omega) (by omega) ?_))
  intro a1 c1 w1 ho1 hg1 hat1
  have HO1 : Hid (RowAt w1 (.slice a1 p.length c1) p) := by simpa [Hid, RowAt] using ho1
  have HT1 : Hid (Same w w1) := by
    have h1 : Turned (fun k => k = w.heap.size) w w1 := ((Turned.refl _ w).alloc _).grown hg1 (fun k hk => .inl (by simpa [Value.ownBlock] using hk.symm))
    exact Below.same_ (h1.below (Nat.le_refl _) (fun i hi => by omega))
  have HA1 : Hid (∀ k, (Value.slice a1 p.length c1).ownBlock = some k → w.heap.size ≤ k) := by
    intro k hk
    rcases hat1 with h | h
    · have h2 := hk.symm.trans h
      have : k = w.heap.size := by simpa [Value.ownBlock] using h2
      omega
    · have h2 := hk.symm.trans h
      have : k = (w.alloc (.cells #[] 3)).heap.size := by simpa using h2
      rw [this]; simp
  clear ho1 hg1 hat1
  go_wp2_with fail
  go_ret
  exact ⟨_, rfl, HO1.out, HT1.out, HA1.out⟩

theorem row_lt {w : World} {pv : Value} {p : List Int} (h : RowAt w pv p) : ∀ k, pv.ownBlock = some k → k < w.heap.size := fun k hk => (World.ownsRow.lt h k hk).2

set_option maxHeartbeats 1000000 in
theorem rown_any (w : World) (f : Fr) (pv : Value) (hR : Rd w pv f.path) (hl : f.path.length ≤ 17592186044) :
    Calls Try.prog 42 #[fval f pv] w fun e w' => ∃ q, e = .returned (fval f q) ∧ RowAt w' q f.path ∧ Same w w' ∧ ∀ k, q.ownBlock = some k → w.heap.size ≤ k := by
  obtain ⟨A, c, rfl, hA⟩ := hR
  have HR : Hid (Rd ((w.alloc (.cells #[.int .i64 f.node, .bool f.whole, .int .i64 f.next, .slice A f.path.length c] 25)).alloc (.cells #[.int .i64 0, .bool false, .int .i64 0, .slice none 0 0] 25)) (.slice A f.path.length c) f.path) := Rd.turned (w := w) (S := fun _ => False) ⟨A, c, rfl, hA⟩ (((Turned.refl _ _).alloc _).alloc _) (fun _ _ h => h)
  clear hA
  show Calls Try.prog 42 #[.agg #[.int .i64 f.node, .bool f.whole, .int .i64 f.next, .slice A f.path.length c]] w _
  go_enter Try.func42, Try.ntmps42
  go_wp2_with fail
  refine (copied_any _ _ f.path HR.out hl).mono ?_
  rintro e w1 ⟨q, rfl, ho, hs, hn⟩
  obtain ⟨qa, qc, rfl, _, _⟩ := own_shape ho
  have hB1 : Blk w1 w.heap.size 25 #[.int .i64 f.node, .bool f.whole, .int .i64 f.next, .slice A f.path.length c] := ((Blk.new w 25 _).alloc _).turned hs (fun h => h)
  have hB2 : Blk w1 (w.heap.size + 1) 25 #[.int .i64 0, .bool false, .int .i64 0, .slice none 0 0] := by
    have h := (Blk.new (w.alloc (Obj.cells #[Value.int IntKind.i64 f.node, Value.bool f.whole, Value.int IntKind.i64 f.next, Value.slice A f.path.length c] 25)) 25 #[.int .i64 0, .bool false, .int .i64 0, .slice none 0 0])
    have h2 := h.turned hs (fun h => h)
    simpa using h2
  obtain ⟨p0, p1, p2, p3⟩ := hB1.four
  obtain ⟨q0, q1, q2, q3⟩ := hB2.four
  have hf1 := fun i => hB1.frozen i
  have hf2 := fun i => hB2.frozen i
  have hlt4 : w.heap.size + 1 < w1.heap.size := hB2.lt
  have HB2 := Lib.hid hB2; have HO := Lib.hid ho
  have HN : Hid (∀ k, (Value.slice qa f.path.length qc).ownBlock = some k → w.heap.size + 2 ≤ k) := fun k hk => by have := hn k hk; simp at this; omega
  have HS : Hid (Same w w1) := (((Turned.refl _ _).alloc _).alloc _).trans hs (fun _ h => h.elim)
  clear hB1 hB2 ho hs hn
  have E5 : ∀ n1 n2 n3 n4 u : Value, Hid (Blk (((((w1.setCell ⟨w.heap.size, 3, none⟩ u).setCell ⟨w.heap.size + 1, 0, none⟩ n1).setCell ⟨w.heap.size + 1, 1, none⟩ n2).setCell ⟨w.heap.size + 1, 2, none⟩ n3).setCell ⟨w.heap.size + 1, 3, none⟩ n4) (w.heap.size + 1) 25 #[n1, n2, n3, n4] ∧
      RowAt (((((w1.setCell ⟨w.heap.size, 3, none⟩ u).setCell ⟨w.heap.size + 1, 0, none⟩ n1).setCell ⟨w.heap.size + 1, 1, none⟩ n2).setCell ⟨w.heap.size + 1, 2, none⟩ n3).setCell ⟨w.heap.size + 1, 3, none⟩ n4) (.slice qa f.path.length qc) f.path ∧
      Same w (((((w1.setCell ⟨w.heap.size, 3, none⟩ u).setCell ⟨w.heap.size + 1, 0, none⟩ n1).setCell ⟨w.heap.size + 1, 1, none⟩ n2).setCell ⟨w.heap.size + 1, 2, none⟩ n3).setCell ⟨w.heap.size + 1, 3, none⟩ n4)) := by
    intro n1 n2 n3 n4 u
    have ht : Turned (fun k => k = w.heap.size ∨ k = w.heap.size + 1) w1 (((((w1.setCell ⟨w.heap.size, 3, none⟩ u).setCell ⟨w.heap.size + 1, 0, none⟩ n1).setCell ⟨w.heap.size + 1, 1, none⟩ n2).setCell ⟨w.heap.size + 1, 2, none⟩ n3).setCell ⟨w.heap.size + 1, 3, none⟩ n4) :=
      (((((Turned.refl (fun k => k = w.heap.size ∨ k = w.heap.size + 1) w1).setCell (p := ⟨w.heap.size, 3, none⟩) (.inl (.inl rfl)) u).setCell (p := ⟨w.heap.size + 1, 0, none⟩) (.inl (.inr rfl)) n1).setCell (p := ⟨w.heap.size + 1, 1, none⟩) (.inl (.inr rfl)) n2).setCell (p := ⟨w.heap.size + 1, 2, none⟩) (.inl (.inr rfl)) n3).setCell (p := ⟨w.heap.size + 1, 3, none⟩) (.inl (.inr rfl)) n4
    refine ⟨?_, ?_, ?_⟩
    · exact ((((HB2.out.far (p := ⟨w.heap.size, 3, none⟩) (by simp) u).set_ 0 n1).set_ 1 n2).set_ 2 n3).set_ 3 n4
    · exact HO.out.turned ht (fun k hk hs => by have := HN.out k hk; rcases hs with h | h <;> omega)
    · exact HS.out.trans ht (fun i hi => by rcases hi with h | h <;> (right; omega))
  go_wp2
  have E6 := (E5 (.int .i64 f.node) (.bool f.whole) (.int .i64 f.next) (.slice qa f.path.length qc) (.slice qa f.path.length qc)).out
  exact bodyPost_ret (results_frame rfl _ rfl E6.1) rfl ⟨_, rfl, E6.2.1, E6.2.2, fun k hk => by have := HN.out k hk; omega⟩
end Go.Proofs.Ythfhjopofpffgaa

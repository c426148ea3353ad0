/-
  The walk of GraftNone: nil signatures and heaps.
-/
import Derived.Test.YteohhiefchoamaaFault
import Derived.Laws.StructEq
namespace Go.Proofs.Yteohhiefchoamaa
open Go.RowKit

theorem stood80 : Try.prog.stoodInHeld 80 = false := by kernel_rfl
theorem fields80 : Try.prog.underlying 80 = some (.struct (Try.prog.fieldsOf 80)) := by kernel_rfl
def Z0 : List Sym := [⟨⟨#[122]⟩, 0, false⟩]
theorem sigL_Z0 : sigL Z0 = Z0 := by rfl

theorem FaultV.blk {w w' : World} {ev : Value} {c a y : Int} (h : FaultV w w' ev c a y) : ∃ q, ev = .iface 104 (.pointer (some ⟨q, 0, none⟩)) ∧ Blk w' q 106 #[.int .i64 c, .int .i64 a, whyV y] ∧ w.heap.size ≤ q := h

set_option maxRecDepth 100000 in
set_option maxHeartbeats 8000000 in
theorem none_law (w : World) : Calls Try.prog 7 #[] w fun e w' => e = .returned (.bool true) ∧ Same w w' := by
  go_enter Try.func7, Try.ntmps7
  go_wp2_with fail
  refine (awake_any _).mono ?_
  rintro e w0 ⟨rfl, hs0⟩
  have HS0 := Lib.hid hs0
  have hX : SymRd (w0.alloc (.cells #[.string ⟨#[122]⟩, .int .i64 0, .bool false] 84)) (.slice (some ⟨w0.heap.size, 0, none⟩) 1 1) Z0 := by
    have hB := Blk.new w0 84 #[.string ⟨#[122]⟩, .int .i64 0, .bool false]
    refine ⟨_, _, rfl, fun _ => ⟨w0.heap.size, 0, rfl, fun k hk => ?_⟩⟩
    obtain rfl : k = 0 := by simp [Z0] at hk; omega
    exact ⟨(hB.cell _).trans rfl, (hB.cell _).trans rfl, (hB.cell _).trans rfl⟩
  have HX := Lib.hid hX
  clear hX hs0
  go_wp2_with fail
  refine (signature_any _ _ Z0 HX.out (by intro x hx; simp [Z0] at hx; subst hx; unfold maxLen; decide) (by decide)).mono ?_
  rintro e w1 ⟨bs, bm, vs, u, rfl, hsg, _, hs1, hn1, _⟩
  rw [sigL_Z0] at hsg
  have HS1 : Hid (Same w w1) := (HS0.out.alloc _).trans hs1 (fun _ h => h.elim)
  clear hsg hs1 hn1
  go_wp2_with fail
  refine (hnew_ok 3 (by decide) (by decide) _).mono ?_
  rintro e w2 ⟨rfl, hh2, hs2⟩
  have HH2 := Lib.hid hh2
  have HS2 : Hid (Same w w2) := HS1.out.trans hs2 (fun _ h => h.elim)
  obtain ⟨b, hb⟩ : ∃ b, b = w1.heap.size := ⟨_, rfl⟩
  rw [← hb] at HH2 ⊢
  clear hh2 hs2 hb
  go_wp2_with fail
  refine (load_nil1 _ _ _).mono ?_
  rintro e w3 ⟨ev3, rfl, ⟨q3, rfl, hB3, hq3⟩, hs3⟩
  have HS3 : Hid (Same w2 w3) := ((Turned.refl _ _).alloc _).trans hs3 (fun _ h => h.elim)
  have HB3 := Lib.hid hB3
  have hP3 : w2.heap.size ≤ q3 := by simp at hq3; omega
  have HQ3 : Hid (w.heap.size ≤ q3) := by have := HS2.out.size; simp at hq3; unfold Hid; omega
  clear hB3 hq3 hs3
  go_wp2_with fail
  refine (load_nil2 _ _ _).mono ?_
  rintro e w4 ⟨ev4, rfl, ⟨q4, rfl, hB4, hq4⟩, hs4⟩
  have HS34 : Hid (Same w3 w4) := ((Turned.refl _ _).alloc _).trans hs4 (fun _ h => h.elim)
  have HB4 := Lib.hid hB4
  have HQ4 : Hid (q3 < q4) := by have := HB3.out.lt; simp at hq4; unfold Hid; omega
  clear hB4 hq4 hs4
  go_wp2_with fail
  refine (build_nil1 _ _ _ _ _ _ _ _).mono ?_
  rintro e w5 ⟨ev5, rfl, ⟨q5, rfl, hB5, hq5⟩, hs5⟩
  have HS45 := Lib.hid hs5
  have HB5 := Lib.hid hB5
  have HQ5 : Hid (q4 < q5) := by have := HB4.out.lt; unfold Hid; omega
  clear hB5 hq5 hs5
  go_wp2_with fail
  refine (build_nil2 _ _ _ _ _ _ _ _).mono ?_
  rintro e w6 ⟨ev6, rfl, ⟨q6, rfl, hB6, hq6⟩, hs6⟩
  have HB6 := Lib.hid hB6
  have HQ6 : Hid (q5 < q6) := by have := HB5.out.lt; unfold Hid; omega
  have HC5 := Lib.hid (HB5.out.turned hs6 (fun h => h))
  have HC4 := Lib.hid ((HB4.out.turned HS45.out (fun h => h)).turned hs6 (fun h => h))
  have HC3 := Lib.hid (((HB3.out.turned HS34.out (fun h => h)).turned HS45.out (fun h => h)).turned hs6 (fun h => h))
  have HS26 : Hid (Same w2 w6) := ((HS3.out.trans HS34.out (fun _ h => h.elim)).trans HS45.out (fun _ h => h.elim)).trans hs6 (fun _ h => h.elim)
  clear hB6 hq6 hs6
  go_wp2_with fail
  refine (fault_any _ q3 1 0 0 (HC3.out.alloc _)).mono ?_
  rintro e w7 ⟨rfl, ht7⟩
  have HF7 : Hid (Turned (fun k => k = q3) w6 w7 ∧ Blk w7 w6.heap.size 80 #[.int .i64 1, .int .i64 0, .int .i64 0, .bool false, .int .i64 0, .int .i64 0]) := ⟨((Turned.refl _ _).alloc _).trans ht7 (fun i hi => .inl hi), (Blk.new w6 80 _).turned ht7 (fun e => by have := HC3.out.lt; omega)⟩
  clear ht7
  go_wp2_with fail
  refine (fault_any _ q4 1 0 0 ((HC4.out.turned HF7.out.1 (fun e => by have := HQ4.out; omega)).alloc _)).mono ?_
  rintro e w8 ⟨rfl, ht8⟩
  have HF8 : Hid (Turned (fun k => k = q4) w7 w8 ∧ Blk w8 w7.heap.size 80 #[.int .i64 1, .int .i64 0, .int .i64 0, .bool false, .int .i64 0, .int .i64 0]) := ⟨((Turned.refl _ _).alloc _).trans ht8 (fun i hi => .inl hi), (Blk.new w7 80 _).turned ht8 (fun e => by have := HC4.out.lt; have := HF7.out.1.size; omega)⟩
  clear ht8
  go_wp2_with fail
  refine (fault_any _ q5 1 0 0 (((HC5.out.turned HF7.out.1 (fun e => by have := HQ4.out; have := HQ5.out; omega)).turned HF8.out.1 (fun e => by have := HQ5.out; omega)).alloc _)).mono ?_
  rintro e w9 ⟨rfl, ht9⟩
  have HF9 : Hid (Turned (fun k => k = q5) w8 w9 ∧ Blk w9 w8.heap.size 80 #[.int .i64 1, .int .i64 0, .int .i64 0, .bool false, .int .i64 0, .int .i64 0]) := ⟨((Turned.refl _ _).alloc _).trans ht9 (fun i hi => .inl hi), (Blk.new w8 80 _).turned ht9 (fun e => by have := HC5.out.lt; have := HF7.out.1.size; have := HF8.out.1.size; omega)⟩
  clear ht9
  go_wp2_with fail
  refine (fault_any _ q6 1 0 0 ((((HB6.out.turned HF7.out.1 (fun e => by have := HQ4.out; have := HQ5.out; have := HQ6.out; omega)).turned HF8.out.1 (fun e => by have := HQ5.out; have := HQ6.out; omega)).turned HF9.out.1 (fun e => by have := HQ6.out; omega)).alloc _)).mono ?_
  rintro e w10 ⟨rfl, ht10⟩
  have HF10 : Hid (Turned (fun k => k = q6) w9 w10 ∧ Blk w10 w9.heap.size 80 #[.int .i64 1, .int .i64 0, .int .i64 0, .bool false, .int .i64 0, .int .i64 0]) := ⟨((Turned.refl _ _).alloc _).trans ht10 (fun i hi => .inl hi), (Blk.new w9 80 _).turned ht10 (fun e => by have := HB6.out.lt; have := HF7.out.1.size; have := HF8.out.1.size; have := HF9.out.1.size; omega)⟩
  clear ht10
  go_wp2_with fail
  refine (of_any _ _).mono ?_
  rintro e w11 ⟨rfl, hs11⟩
  have z7 := HF7.out.1.size
  have z8 := HF8.out.1.size
  have z9 := HF9.out.1.size
  have z10 := HF10.out.1.size
  have l3 := HC3.out.lt
  have l4 := HC4.out.lt
  have l5 := HC5.out.lt
  have l6 := HB6.out.lt
  have l7 := HF7.out.2.lt
  have l8 := HF8.out.2.lt
  have l9 := HF9.out.2.lt
  have l10 := HF10.out.2.lt
  have HE : Hid (Same w10 w11 ∧ Blk w11 w6.heap.size 80 #[.int .i64 1, .int .i64 0, .int .i64 0, .bool false, .int .i64 0, .int .i64 0] ∧ Blk w11 w7.heap.size 80 #[.int .i64 1, .int .i64 0, .int .i64 0, .bool false, .int .i64 0, .int .i64 0] ∧ Blk w11 w8.heap.size 80 #[.int .i64 1, .int .i64 0, .int .i64 0, .bool false, .int .i64 0, .int .i64 0] ∧ Blk w11 w9.heap.size 80 #[.int .i64 1, .int .i64 0, .int .i64 0, .bool false, .int .i64 0, .int .i64 0] ∧ Blk w11 w10.heap.size 80 #[.int .i64 1, .int .i64 0, .int .i64 0, .bool false, .int .i64 0, .int .i64 0]) := by
    have hsA : Same w10 w11 := ((Turned.refl _ _).alloc _).trans hs11 (fun _ h => h.elim)
    refine ⟨hsA, ?_, ?_, ?_, ?_, ?_⟩
    · exact (((HF7.out.2.turned HF8.out.1 (by omega)).turned HF9.out.1 (by omega)).turned HF10.out.1 (by omega)).turned hsA (fun h => h)
    · exact ((HF8.out.2.turned HF9.out.1 (by omega)).turned HF10.out.1 (by omega)).turned hsA (fun h => h)
    · exact (HF9.out.2.turned HF10.out.1 (by omega)).turned hsA (fun h => h)
    · exact HF10.out.2.turned hsA (fun h => h)
    · exact (Blk.new w10 80 _).turned hs11 (fun h => h)
  clear hs11 z7 z8 z9 z10 l3 l4 l5 l6 l7 l8 l9 l10
  go_wp2_with fail
  refine (head_none w11 none 0 (fun W _ => (resolve_nil W 0).mono fun _ _ ⟨h1, h2⟩ => ⟨⟨1, by decide, h1⟩, h2⟩)).mono ?_
  rintro e w12 ⟨rfl, hs12⟩
  obtain ⟨hsA, B6, B7, B8, B9, B10⟩ := HE.out
  obtain ⟨a0, a1, a2, a3, a4, a5⟩ := (B6.turned hs12 (fun h => h)).six
  obtain ⟨b0, b1, b2, b3, b4, b5⟩ := (B7.turned hs12 (fun h => h)).six
  obtain ⟨c0, c1, c2, c3, c4, c5⟩ := (B8.turned hs12 (fun h => h)).six
  obtain ⟨d0, d1, d2, d3, d4, d5⟩ := (B9.turned hs12 (fun h => h)).six
  obtain ⟨e0, e1, e2, e3, e4, e5⟩ := (B10.turned hs12 (fun h => h)).six
  have HT : Hid (Turned (fun k => k = q3 ∨ k = q4 ∨ k = q5 ∨ k = q6) w6 w12) := by
    have h7 := HF7.out.1; have h8 := HF8.out.1; have h9 := HF9.out.1; have h10 := HF10.out.1
    refine (((((h7.mono (fun i hi => .inl hi)).trans h8 ?_).trans h9 ?_).trans h10 ?_).trans hsA (fun _ h => h.elim)).trans hs12 (fun _ h => h.elim) <;> intro i hi <;> exact .inl (by omega)
  have HP3 : Hid (w2.heap.size ≤ q3) := hP3
  clear hsA B6 B7 B8 B9 B10 hs12 HE HF7 HF8 HF9 HF10
  go_wp2_with fail
  refine (of_any _ _).mono ?_
  rintro e w13 ⟨rfl, hs13⟩
  have HS13 := Lib.hid hs13
  clear hs13
  go_wp2_with fail
  refine (arg_none w13 none 0 0 (fun W _ => (resolve_nil W 0).mono fun _ _ ⟨h1, h2⟩ => ⟨⟨1, by decide, h1⟩, h2⟩)).mono ?_
  rintro e w14 ⟨rfl, hs14⟩
  have HS14 : Hid (Same w12 w14) := HS13.out.trans hs14 (fun _ h => h.elim)
  have hh14 : HeapAt w14 b 3 (.slice none 0 0) [] := by
    refine HeapAt.same (HH2.out.turned (S := fun k => k = q3 ∨ k = q4 ∨ k = q5 ∨ k = q6) (w' := w12) ((HS26.out.mono (fun _ h => h.elim)).trans HT.out (fun i hi => .inl hi)) ?_ ?_) HS14.out
    · have := HP3.out; have := HQ4.out; have := HQ5.out; have := HQ6.out; have := HH2.out.blk.lt
      rintro k (rfl | hk)
      · omega
      · simp [Value.ownBlock] at hk
    · rintro k ⟨x, hx, _⟩
      exact absurd hx (by simp)
  have HS : Hid (Same w w14) := by
    refine ((HS2.out.trans HS26.out (fun _ h => h.elim)).trans HT.out ?_).trans HS14.out (fun _ h => h.elim)
    have := HQ3.out; have := HQ4.out; have := HQ5.out; have := HQ6.out
    intro i hi; right; omega
  have HU := Lib.hid hh14
  clear hs14 hh14
  go_wp2_with fail
  refine (used_any _ b 3 _ [] HU.out).mono ?_
  rintro e w15 ⟨rfl, rfl⟩
  go_wp2_with fail
  all_goals go_ret
  all_goals exact ⟨rfl, HS.out⟩
end Go.Proofs.Yteohhiefchoamaa

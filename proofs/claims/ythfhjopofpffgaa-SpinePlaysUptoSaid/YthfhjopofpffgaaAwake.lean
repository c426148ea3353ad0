/-
  The walk of awake: the document's first calls.
-/
import Derived.Test.YthfhjopofpffgaaFill
namespace Go.Proofs.Ythfhjopofpffgaa
open Go.RowKit

theorem rd_lit {w : World} {g : Nat} {P : List Int} (h : Blk w g 3 (intVals P).toArray) : Rd w (.slice (some ⟨g, 0, none⟩) P.length P.length) P := PAt.rd (.inr ⟨g, rfl, h⟩)

set_option maxHeartbeats 2000000 in
theorem awake_any (w : World) : Calls Try.prog 9 #[] w fun e w' => e = .returned (.bool true) ∧ Same w w' := by
  go_enter Try.func9, Try.ntmps9
  go_wp2_with fail
  refine (new_si 7 _).mono ?_
  rintro e w1 ⟨b, v1, rfl, h1⟩
  have H1 := Lib.hid h1
  clear h1
  go_wp2_with (first | (go_at_call 15; refine (len_any _ b v1 _ H1.out.sp).mono ?_; rintro e w' ⟨rfl, rfl⟩))
  have R1 : Hid (Rd (w1.alloc (.cells #[.int .i64 1, .int .i64 0] 3)) (.slice (some ⟨w1.heap.size, 0, none⟩) 2 2) [1, 0]) := rd_lit (P := [1, 0]) (Blk.new w1 3 _)
  have S1 := Lib.hid (H1.out.later (w' := w1.alloc (.cells #[.int .i64 1, .int .i64 0] 3)) ((Turned.refl _ _).alloc _))
  refine (push_any _ b v1 _ S1.out.sp ⟨4, false, 0, [1, 0]⟩ _ R1.out (by decide) (by decide)).mono ?_
  rintro e w2 ⟨v2, pv2, rfl, h2, ht2, hv2, hq2⟩
  have H2 := Lib.hid (S1.out.push h2 ht2 hv2 hq2)
  clear h2 ht2 hv2 hq2
  go_wp2_with fail
  have R2 : Hid (Rd (w2.alloc (.cells #[.int .i64 2] 3)) (.slice (some ⟨w2.heap.size, 0, none⟩) 1 1) [2]) := rd_lit (P := [2]) (Blk.new w2 3 _)
  have S2 := Lib.hid (H2.out.later (w' := w2.alloc (.cells #[.int .i64 2] 3)) ((Turned.refl _ _).alloc _))
  refine (push_any _ b v2 _ S2.out.sp ⟨2, true, 3, [2]⟩ _ R2.out (by decide) (by simp)).mono ?_
  rintro e w3 ⟨v3, pv3, rfl, h3, ht3, hv3, hq3⟩
  have H3 := Lib.hid (S2.out.push h3 ht3 hv3 hq3)
  clear h3 ht3 hv3 hq3
  go_wp2_with fail
  refine (path_any _ b v3 _ H3.out.sp (by simp) (by intro x hx; simp at hx; rcases hx with rfl | rfl | rfl <;> simp [rootFr]) (by simp [flat, rootFr])).mono ?_
  rintro e w4 ⟨p, rfl, hs4, ho4, hp4⟩
  obtain ⟨a4, c4, rfl, _, _⟩ := own_shape ho4
  obtain ⟨g4, cap4, hv4, _, _⟩ := ho4.form (by simp [flat, rootFr])
  obtain ⟨rfl, rfl⟩ : a4 = some ⟨g4, 0, none⟩ ∧ c4 = cap4 := by simpa using hv4
  have k0 := ho4.cells (g := g4) rfl 0 (.int .i64 1) (by simp [flat, rootFr, intVals])
  have k2 := ho4.cells (g := g4) rfl 2 (.int .i64 2) (by simp [flat, rootFr, intVals])
  have hlen : Hid ((flat ([(rootFr 7, Value.slice none 0 0)] ++ [({ node := 4, whole := false, next := 0, path := [1, 0] }, pv2)] ++ [({ node := 2, whole := true, next := 3, path := [2] }, pv3)])).length = 3) := by simp [flat, rootFr, Hid]
  rw [hlen.out]
  simp only [Addr.add_lit, Nat.zero_add] at k0 k2
  have H4 := Lib.hid (H3.out.later hs4)
  clear hs4 ho4 hp4 hv4
  go_wp2_with fail
  have TA := top_any _ b v3 _ (⟨2, true, 3, [2]⟩, pv3) H4.out.sp (by simp) (by simp)
  refine TA.mono ?_
  clear TA
  rintro e w5 ⟨q, rfl, hs5, hB5, hq5⟩
  have l4 := World.block_lt_of_cell? _ _ k0
  simp only at l4
  have k0' := (hs5.cell (p := ⟨g4, 0, none⟩) l4 (fun h => h)).trans k0
  have k2' := (hs5.cell (p := ⟨g4, 2, none⟩) l4 (fun h => h)).trans k2
  have l5 := Nat.lt_of_lt_of_le l4 hs5.size
  have H5 := Lib.hid (H4.out.later hs5)
  have H6 := Lib.hid (H5.out.later (w' := w5.alloc (.cells #[.int .i64 2, .bool true, .int .i64 3, .slice (some ⟨q, 0, none⟩) 1 1] 25)) ((Turned.refl _ _).alloc _))
  clear hs5 hB5 hq5 k0 k2 l4
  go_wp2_with (first | (go_at_call 15; refine (len_any _ b v3 _ H6.out.sp).mono ?_; rintro e w' ⟨rfl, rfl⟩))
  all_goals go_ret
  all_goals exact ⟨rfl, H6.out.same⟩
end Go.Proofs.Ythfhjopofpffgaa

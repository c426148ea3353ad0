/-
  The law's step: all; of a kind.
-/
import Derived.Test.YtpknnhdpnmkpcaaPr
import Derived.Deep.RegionLaw
import Derived.BigQuiet
namespace Go.Proofs.Ytpknnhdpnmkpcaa
open Go.RowKit

section
variable {w : World} {b bm r : Nat} {v u : Value} {L : List Sym} {o : OpD}

theorem Did.of_below_ {w w0 w1 : World} {b bm r : Nat} {v u : Value} {L : List Sym} (h : Pr w b bm v r u L) (hs : Same w w0) (hb : Below w0.heap.size w0 w1) : Did w w1 b bm v r u :=
  Did.of_below h ((Turned.below hs (Nat.le_refl _) (fun _ h => h.elim)).trans (hb.mono hs.size))

set_option maxRecDepth 100000 in
set_option maxHeartbeats 4000000 in
theorem step_of (h : Pr w b bm v r u L) (hk : o.kind = 5) :
    Calls Try.prog 18 #[.pointer (some ⟨b, 0, none⟩), .pointer (some ⟨r, 0, none⟩), o.val] w fun e w' => e = .returned (.bool true) ∧ Did w w' b bm v r u := by
  have H := Lib.hid h
  obtain ⟨on, kind, n, x⟩ := o
  simp only at hk
  subst hk
  obtain ⟨W0, hW0⟩ : ∃ W0, W0 = w.alloc (.cells (OpD.mk on 5 n x).cells 46) := ⟨_, rfl⟩
  have X0 : Blk W0 w.heap.size 46 (OpD.mk on 5 n x).cells := by rw [hW0]; exact Blk.new w 46 _
  have S0 : Hid (Same w W0) := by rw [hW0]; exact (Turned.refl _ _).alloc _
  have H0 := Lib.hid (h.same S0.out)
  have y5 : W0.cell? ⟨w.heap.size, 5, none⟩ = some (.bool x.defd) := (X0.cell 5).trans rfl
  have r0 : W0.cell? ⟨r, 0, none⟩ = some u := (H0.out.ref.blk.cell 0).trans rfl
  obtain ⟨ra, rc, rfl, _, _⟩ := own_shape h.ref.own
  clear h X0
  unfold OpD.val
  unfold OpD.cells at hW0
  go_enter Try.func18, Try.ntmps18
  go_wp2_with fail
  rw [← hW0]
  clear hW0
  go_region_law ((go_simp; go_at_call 29; refine (numbers_any _ b bm v _ L (H0.out.same ((Turned.refl _ W0).drew)).sig (SymRd.of_own (H0.out.same ((Turned.refl _ W0).drew)).ref.own) _).mono ?_; rintro e w1 ⟨rfl, hb1⟩; have D := Lib.hid (Did.of_below_ H.out (S0.out.drew) hb1); clear hb1))
  all_goals
    go_wp2_with fail
    go_ret
    exact ⟨rfl, D.out⟩

set_option maxRecDepth 100000 in
set_option maxHeartbeats 4000000 in
theorem step_all (h : Pr w b bm v r u L) (hk : o.kind = 4) (hn : I64 o.n) :
    Calls Try.prog 18 #[.pointer (some ⟨b, 0, none⟩), .pointer (some ⟨r, 0, none⟩), o.val] w fun e w' => e = .returned (.bool true) ∧ Did w w' b bm v r u := by
  have H := Lib.hid h
  obtain ⟨on, kind, n, x⟩ := o
  simp only at hk hn
  subst hk
  obtain ⟨W0, hW0⟩ : ∃ W0, W0 = w.alloc (.cells (OpD.mk on 4 n x).cells 46) := ⟨_, rfl⟩
  have X0 : Blk W0 w.heap.size 46 (OpD.mk on 4 n x).cells := by rw [hW0]; exact Blk.new w 46 _
  have S0 : Hid (Same w W0) := by rw [hW0]; exact (Turned.refl _ _).alloc _
  have H0 := Lib.hid (h.same S0.out)
  have y2 : W0.cell? ⟨w.heap.size, 2, none⟩ = some (.int .i64 n) := (X0.cell 2).trans rfl
  have r0 : W0.cell? ⟨r, 0, none⟩ = some u := (H0.out.ref.blk.cell 0).trans rfl
  obtain ⟨ra, rc, rfl, _, _⟩ := own_shape h.ref.own
  obtain ⟨p, hp⟩ : ∃ p, p = pickI n 70 := ⟨_, rfl⟩
  have hp2 := pick70 n hn
  rw [← hp] at hp2
  have HP : Hid (∀ W, Calls Try.prog 17 #[.int .i64 n, .int .i64 70] W fun e w' => e = .returned (.int .i64 p) ∧ w' = W) := fun W => by rw [hp]; exact pick_any W n 70 hn (.inr rfl)
  obtain ⟨hp3, hp4⟩ := hp2
  clear h X0 hn hp
  unfold OpD.val
  unfold OpD.cells at hW0
  go_enter Try.func18, Try.ntmps18
  go_wp2_with fail
  rw [← hW0]
  clear hW0
  go_region_law (first | (go_simp; go_at_call 17; refine (HP.out _).mono ?_; rintro e w1 ⟨rfl, rfl⟩) | (go_simp; go_at_call 20; refine (ranged_any _ b bm v _ L (H0.out.same ((Turned.refl _ W0).drew)).sig (SymRd.of_own (H0.out.same ((Turned.refl _ W0).drew)).ref.own) _).mono ?_; rintro e w1 ⟨rfl, hb1⟩; have D := Lib.hid (Did.of_below_ H.out (S0.out.drew) hb1); clear hb1))
  all_goals
    go_wp2_with fail
    go_ret
    exact ⟨rfl, D.out⟩
end
end Go.Proofs.Ytpknnhdpnmkpcaa

/-
  The law's step: the symbol of a number.
-/
import Derived.Test.YtpknnhdpnmkpcaaPr
import Derived.Test.YtpknnhdpnmkpcaaSymEq
import Derived.Deep.RegionLaw
import Derived.BigQuiet
namespace Go.Proofs.Ytpknnhdpnmkpcaa
open Go.RowKit

section
variable {w : World} {b bm r : Nat} {v u : Value} {L : List Sym} {o : OpD}

set_option maxRecDepth 100000 in
set_option maxHeartbeats 4000000 in
theorem step_at (h : Pr w b bm v r u L) (hk : o.kind = 2) :
    Calls Try.prog 18 #[.pointer (some ⟨b, 0, none⟩), .pointer (some ⟨r, 0, none⟩), o.val] w fun e w' => e = .returned (.bool true) ∧ Did w w' b bm v r u := by
  have H := Lib.hid h
  obtain ⟨on, kind, n, x⟩ := o
  simp only at hk
  subst hk
  obtain ⟨W0, hW0⟩ : ∃ W0, W0 = w.alloc (.cells (OpD.mk on 2 n x).cells 46) := ⟨_, rfl⟩
  have X0 : Blk W0 w.heap.size 46 (OpD.mk on 2 n x).cells := by rw [hW0]; exact Blk.new w 46 _
  have S0 : Hid (Same w W0) := by rw [hW0]; exact (Turned.refl _ _).alloc _
  have H0 := Lib.hid (h.same S0.out)
  have HX := Lib.hid X0
  have hown := h.ref.own
  obtain ⟨ra, rc, rfl, _, _⟩ := own_shape h.ref.own
  clear h X0 hown
  unfold OpD.val
  unfold OpD.cells at hW0
  have h64 := H.out.sig.few
  by_cases hn : n < 0 ∨ L.length ≤ n
  · have HA := Lib.hid (at_none W0 b bm v L H0.out.sig n hn)
    by_cases h0 : n < 0
    · go_enter Try.func18, Try.ntmps18
      go_wp2_with fail
      rw [← hW0]
      clear hW0
      refine HA.out.mono ?_
      rintro e w1 ⟨rfl, t1⟩
      have X1 : Blk w1 w.heap.size 46 (OpD.mk on 2 n x).cells := HX.out.turned t1 (fun hf => hf)
      have y2 : w1.cell? ⟨w.heap.size, 2, none⟩ = some (.int .i64 n) := (X1.cell 2).trans rfl
      have yl := X1.lt
      have HT : Hid (∀ (o : Obj) (m m2 : Nat), Did w (((w1.alloc o).drewN m).drewN m2) b bm v r (.slice ra L.length rc)) := fun o m m2 => Did.of_same H.out ((((S0.out.trans t1 (fun _ h => h.elim)).alloc o).drewN m).drewN m2)
      clear X1 t1 HA hn
      unfold Sym.zero Sym.val
      go_wp2_with fail
      go_quiet (fail)
      go_wp2_with fail
      go_ret
      exact ⟨rfl, HT.out _ _ 0⟩
    · have hn2 : (L.length : Int) ≤ n := by omega
      have hn3 : decide ((L.length : Int) ≤ n) = true := decide_eq_true hn2
      go_enter Try.func18, Try.ntmps18
      go_wp2_with fail
      rw [← hW0]
      clear hW0
      refine HA.out.mono ?_
      rintro e w1 ⟨rfl, t1⟩
      have X1 : Blk w1 w.heap.size 46 (OpD.mk on 2 n x).cells := HX.out.turned t1 (fun hf => hf)
      have y2 : w1.cell? ⟨w.heap.size, 2, none⟩ = some (.int .i64 n) := (X1.cell 2).trans rfl
      have yl := X1.lt
      have R1 := (H0.out.same t1).ref.blk
      have r0 : w1.cell? ⟨r, 0, none⟩ = some (.slice ra L.length rc) := (R1.cell 0).trans rfl
      have rl := R1.lt
      have HT : Hid (∀ (o : Obj) (m m2 : Nat), Did w (((w1.alloc o).drewN m).drewN m2) b bm v r (.slice ra L.length rc)) := fun o m m2 => Did.of_same H.out ((((S0.out.trans t1 (fun _ h => h.elim)).alloc o).drewN m).drewN m2)
      clear X1 t1 HA hn R1
      unfold Sym.zero Sym.val
      go_wp2_with fail
      go_quiet (fail)
      go_wp2_with fail
      go_ret
      exact ⟨rfl, HT.out _ _ 0⟩
  · obtain ⟨k, rfl⟩ : ∃ k : Nat, n = k := ⟨n.toNat, by omega⟩
    have hlt : k < L.length := by omega
    have HA := Lib.hid (at_some W0 b bm v L H0.out.sig k hlt)
    obtain ⟨g, cap, hv, _, hg⟩ := H.out.ref.own.form (by omega)
    obtain ⟨rfl, rfl⟩ : ra = some ⟨g, 0, none⟩ ∧ rc = cap := by simpa using hv
    have hc := H.out.ref.own.cells (g := g) rfl
    obtain ⟨e0, e1, e2⟩ := symCells_at L k hlt
    have q0 := hc _ _ e0
    have q1 := hc _ _ e1
    have q2 := hc _ _ e2
    simp only [Addr.add_lit, Nat.zero_add] at q0 q1 q2
    obtain ⟨y, hy⟩ : ∃ y, y = L[k] := ⟨_, rfl⟩
    rw [← hy] at HA q0 q1 q2
    have hn0 : (0 : Int) ≤ k := by omega
    have hn1 : (k : Int) < L.length := by omega
    have hn2 : decide (L.length ≤ k) = false := decide_eq_false (by omega)
    clear hv hc e0 e1 e2 hy hn
    go_enter Try.func18, Try.ntmps18
    go_wp2_with fail
    rw [← hW0]
    clear hW0
    refine HA.out.mono ?_
    rintro e w1 ⟨rfl, t1⟩
    have X1 : Blk w1 w.heap.size 46 (OpD.mk on 2 k x).cells := HX.out.turned t1 (fun hf => hf)
    have y2 : w1.cell? ⟨w.heap.size, 2, none⟩ = some (.int .i64 k) := (X1.cell 2).trans rfl
    have yl := X1.lt
    have R1 := (H0.out.same t1).ref.blk
    have r0 : w1.cell? ⟨r, 0, none⟩ = some (.slice (some ⟨g, 0, none⟩) L.length rc) := (R1.cell 0).trans rfl
    have rl := R1.lt
    have t01 := S0.out.trans t1 (fun _ h => h.elim)
    have d0 := (t01.cell (p := ⟨g, k * 3, none⟩) hg (fun h => h)).trans q0
    have d1 := (t01.cell (p := ⟨g, k * 3 + 1, none⟩) hg (fun h => h)).trans q1
    have d2 := (t01.cell (p := ⟨g, k * 3 + 2, none⟩) hg (fun h => h)).trans q2
    have gl : g < w1.heap.size := Nat.lt_of_lt_of_le hg t01.size
    have HT : Hid (∀ (o : Obj) (m m2 : Nat), Did w (((w1.alloc o).drewN m).drewN m2) b bm v r (.slice (some ⟨g, 0, none⟩) L.length rc)) := fun o m m2 => Did.of_same H.out (((t01.alloc o).drewN m).drewN m2)
    clear X1 t1 HA R1 q0 q1 q2 t01 hg
    unfold Sym.val
    go_wp2_with fail
    go_quiet (fail)
    go_wp2_with fail
    go_quiet (fail)
    go_wp2_with fail
    go_ret
    exact ⟨rfl, HT.out _ _ _⟩
end
end Go.Proofs.Ytpknnhdpnmkpcaa

/-
  The law's step: add; of a number; find.
-/
import Derived.Test.YtpknnhdpnmkpcaaPr
import Derived.Deep.RegionLaw
import Derived.BigQuiet
namespace Go.Proofs.Ytpknnhdpnmkpcaa
open Go.RowKit

section
variable {w : World} {b bm r : Nat} {v u : Value} {L : List Sym} {o : OpD}

set_option maxRecDepth 100000 in
set_option maxHeartbeats 4000000 in
theorem step_add (h : Pr w b bm v r u L) (hs : o.x.name.size ≤ maxLen) (hk : o.kind = 1) :
    Calls Try.prog 18 #[.pointer (some ⟨b, 0, none⟩), .pointer (some ⟨r, 0, none⟩), o.val] w fun e w' => e = .returned (.bool true) ∧ Did w w' b bm v r u := by
  have H := Lib.hid h
  obtain ⟨on, kind, n, x⟩ := o
  simp only at hk hs
  subst hk
  obtain ⟨W0, hW0⟩ : ∃ W0, W0 = w.alloc (.cells (OpD.mk on 1 n x).cells 46) := ⟨_, rfl⟩
  have X0 : Blk W0 w.heap.size 46 (OpD.mk on 1 n x).cells := by rw [hW0]; exact Blk.new w 46 _
  have S0 : Hid (Same w W0) := by rw [hW0]; exact (Turned.refl _ _).alloc _
  have H0 := Lib.hid (h.same S0.out)
  have x1 : W0.cell? ⟨w.heap.size, 1, none⟩ = some (.int .i64 1) := (X0.cell 1).trans rfl
  have x3 : W0.cell? ⟨w.heap.size, 3, none⟩ = some (.string x.name) := (X0.cell 3).trans rfl
  have x4 : W0.cell? ⟨w.heap.size, 4, none⟩ = some (.int .i64 x.arity) := (X0.cell 4).trans rfl
  have x5 : W0.cell? ⟨w.heap.size, 5, none⟩ = some (.bool x.defd) := (X0.cell 5).trans rfl
  have HX := Lib.hid X0
  clear h X0
  unfold OpD.val
  unfold OpD.cells at hW0
  by_cases hE : addErr L x = 0
  · go_enter Try.func18, Try.ntmps18
    go_wp2_with fail
    rw [← hW0]
    clear hW0
    refine (add_ok _ b bm v L H0.out.sig x hs hE).mono ?_
    rintro e w1 ⟨v', rfl, h1, t1, n1⟩
    have X1 : Blk w1 w.heap.size 46 (OpD.mk on 1 n x).cells := HX.out.turned t1 (fun hf => by have := foot_lt H.out.sig _ hf; omega)
    have y3 : w1.cell? ⟨w.heap.size, 3, none⟩ = some (.string x.name) := (X1.cell 3).trans rfl
    have y4 : w1.cell? ⟨w.heap.size, 4, none⟩ = some (.int .i64 x.arity) := (X1.cell 4).trans rfl
    have y5 : w1.cell? ⟨w.heap.size, 5, none⟩ = some (.bool x.defd) := (X1.cell 5).trans rfl
    have R1 := Lib.hid (H0.out.ref.turned_ t1 (fun k hk hf => H.out.apart k hf hk))
    have H1 := Lib.hid h1; have T1 := Lib.hid t1; have N1 := Lib.hid n1; have HE := Lib.hid hE; have HS := Lib.hid hs
    clear h1 t1 n1 X1 x1 x3 x4 x5
    go_wp2_with fail
    refine (radd_any _ r u L R1.out x HS.out H.out.sig.few).mono ?_
    rintro e w2 ⟨u', rfl, h2, t2, n2⟩
    rw [if_pos HE.out, HE.out]
    have D := Lib.hid (Did.add H.out S0.out HS.out HE.out H1.out T1.out N1.out h2 t2 n2)
    clear h2 t2 n2 hE
    go_wp2_with fail
    go_ret
    exact ⟨rfl, D.out⟩
  · go_enter Try.func18, Try.ntmps18
    go_wp2_with fail
    rw [← hW0]
    clear hW0
    refine (add_bad _ b bm v L H0.out.sig x hs hE).mono ?_
    rintro e w1 ⟨rfl, t1⟩
    have X1 : Blk w1 w.heap.size 46 (OpD.mk on 1 n x).cells := HX.out.turned t1 (fun hf => hf)
    have y3 : w1.cell? ⟨w.heap.size, 3, none⟩ = some (.string x.name) := (X1.cell 3).trans rfl
    have y4 : w1.cell? ⟨w.heap.size, 4, none⟩ = some (.int .i64 x.arity) := (X1.cell 4).trans rfl
    have y5 : w1.cell? ⟨w.heap.size, 5, none⟩ = some (.bool x.defd) := (X1.cell 5).trans rfl
    have H1 := Lib.hid (H0.out.same t1)
    have T1 := Lib.hid t1; have HE := Lib.hid hE; have HS := Lib.hid hs
    clear t1 X1 x1 x3 x4 x5 hE
    have hbeq : (addErr L x == addErr L x) = true := by simp
    obtain ⟨er, her⟩ : ∃ er, er = addErr L x := ⟨_, rfl⟩
    have HR := Lib.hid her
    rw [← her]
    clear her hbeq
    go_wp2_with fail
    refine (radd_any _ r u L H1.out.ref x HS.out H.out.sig.few).mono ?_
    rintro e w2 ⟨u', rfl, h2, t2, n2⟩
    rw [if_neg HE.out, ← HR.out]
    have D := Lib.hid (Did.of_bad H.out S0.out HE.out H1.out T1.out h2 t2 n2)
    clear h2 t2 n2
    go_wp2_with fail
    go_ret
    exact ⟨by simp, D.out⟩
end
end Go.Proofs.Ytpknnhdpnmkpcaa

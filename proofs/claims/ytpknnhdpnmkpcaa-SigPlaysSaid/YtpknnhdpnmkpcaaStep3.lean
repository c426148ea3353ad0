/-
  The law's step: find; length; whatever else.
-/
import Derived.Test.YtpknnhdpnmkpcaaPr
import Derived.Deep.RegionLaw
import Derived.BigQuiet
namespace Go.Proofs.Ytpknnhdpnmkpcaa
open Go.RowKit

section
variable {w : World} {b bm r : Nat} {v u : Value} {L : List Sym} {o : OpD}

set_option maxRecDepth 100000 in
set_option maxHeartbeats 4000000 in
theorem step_find (h : Pr w b bm v r u L) (hs : o.x.name.size ≤ maxLen) (hk : o.kind = 3) :
    Calls Try.prog 18 #[.pointer (some ⟨b, 0, none⟩), .pointer (some ⟨r, 0, none⟩), o.val] w fun e w' => e = .returned (.bool true) ∧ Did w w' b bm v r u := by
  have H := Lib.hid h
  obtain ⟨on, kind, n, x⟩ := o
  simp only at hk hs
  subst hk
  obtain ⟨W0, hW0⟩ : ∃ W0, W0 = w.alloc (.cells (OpD.mk on 3 n x).cells 46) := ⟨_, rfl⟩
  have X0 : Blk W0 w.heap.size 46 (OpD.mk on 3 n x).cells := by rw [hW0]; exact Blk.new w 46 _
  have S0 : Hid (Same w W0) := by rw [hW0]; exact (Turned.refl _ _).alloc _
  have H0 := Lib.hid (h.same S0.out)
  have y3 : W0.cell? ⟨w.heap.size, 3, none⟩ = some (.string x.name) := (X0.cell 3).trans rfl
  have r0 : W0.cell? ⟨r, 0, none⟩ = some u := (H0.out.ref.blk.cell 0).trans rfl
  obtain ⟨ra, rc, rfl, _, _⟩ := own_shape h.ref.own
  clear h X0
  unfold OpD.val
  unfold OpD.cells at hW0
  have h64 := H.out.sig.few
  have HF : Hid (∀ W, Same W0 W → Calls Try.prog 28 #[.slice ra L.length rc, .string x.name] W fun e w' => e = .returned (.int .i64 (findI L x.name)) ∧ w' = W) := fun W hW => rfind_any W _ L (SymRd.of_own (World.ownsRow.turned H0.out.ref.own hW (fun _ _ h => h))) x.name (by omega)
  have HT : Hid (∀ (m m2 : Nat), Did w ((W0.drewN m).drewN m2) b bm v r (.slice ra L.length rc)) := fun m m2 => Did.of_same H.out ((S0.out.drewN m).drewN m2)
  cases hf : findL L x.name with
  | none =>
    have hfi : findI L x.name = -1 := by unfold findI; rw [hf]
    have HA := Lib.hid (find_none W0 b bm v L H0.out.sig x.name hs hf)
    rw [hfi] at HF
    clear hf hfi
    go_enter Try.func18, Try.ntmps18
    go_wp2_with fail
    rw [← hW0]
    clear hW0
    refine HA.out.mono ?_
    rintro e w1 ⟨rfl, rfl⟩
    go_wp2_with fail
    go_quiet ((go_at_call 28; exact Calls.quiet_of_same (HF.out _ ((Turned.refl _ _).drewN _))))
    go_wp2_with fail
    go_ret
    exact ⟨rfl, HT.out _ 0⟩
  | some i =>
    have hfi : findI L x.name = i := by unfold findI; rw [hf]
    have HA := Lib.hid (find_some W0 b bm v L H0.out.sig x.name hs i hf)
    rw [hfi] at HF
    clear hf hfi
    go_enter Try.func18, Try.ntmps18
    go_wp2_with fail
    rw [← hW0]
    clear hW0
    refine HA.out.mono ?_
    rintro e w1 ⟨rfl, rfl⟩
    go_wp2_with fail
    go_quiet ((go_at_call 28; exact Calls.quiet_of_same (HF.out _ ((Turned.refl _ _).drewN _))))
    go_wp2_with fail
    go_ret
    exact ⟨rfl, HT.out _ 0⟩

set_option maxRecDepth 100000 in
set_option maxHeartbeats 4000000 in
theorem step_len (h : Pr w b bm v r u L) (hk : o.kind = 7) :
    Calls Try.prog 18 #[.pointer (some ⟨b, 0, none⟩), .pointer (some ⟨r, 0, none⟩), o.val] w fun e w' => e = .returned (.bool true) ∧ Did w w' b bm v r u := by
  have H := Lib.hid h
  obtain ⟨on, kind, n, x⟩ := o
  simp only at hk
  subst hk
  obtain ⟨W0, hW0⟩ : ∃ W0, W0 = w.alloc (.cells (OpD.mk on 7 n x).cells 46) := ⟨_, rfl⟩
  have S0 : Hid (Same w W0) := by rw [hW0]; exact (Turned.refl _ _).alloc _
  have H0 := Lib.hid (h.same S0.out)
  have r0 : W0.cell? ⟨r, 0, none⟩ = some u := (H0.out.ref.blk.cell 0).trans rfl
  obtain ⟨ra, rc, rfl, _, _⟩ := own_shape h.ref.own
  clear h
  unfold OpD.val
  unfold OpD.cells at hW0
  have HF : Hid (∀ W, Same W0 W → Calls Try.prog 10 #[.pointer (some ⟨b, 0, none⟩)] W fun e w' => e = .returned (.int .i64 L.length) ∧ w' = W) := fun W hW => (len_any W b bm v L (H0.out.same hW).sig).mono fun e w' ⟨h1, h2⟩ => ⟨h1, h2.symm⟩
  have HT : Hid (∀ (m m2 : Nat), Did w ((W0.drewN m).drewN m2) b bm v r (.slice ra L.length rc)) := fun m m2 => Did.of_same H.out ((S0.out.drewN m).drewN m2)
  go_enter Try.func18, Try.ntmps18
  go_wp2_with fail
  rw [← hW0]
  clear hW0
  go_quiet ((go_at_call 10; exact Calls.quiet_of_same (HF.out _ ((Turned.refl _ _).drewN _))))
  go_wp2_with fail
  go_ret
  exact ⟨rfl, HT.out _ 0⟩

set_option maxRecDepth 100000 in
set_option maxHeartbeats 4000000 in
theorem step_none (h : Pr w b bm v r u L) (k1 : (o.kind == 1) = false) (k2 : (o.kind == 2) = false) (k3 : (o.kind == 3) = false) (k4 : (o.kind == 4) = false) (k5 : (o.kind == 5) = false) (k7 : (o.kind == 7) = false) :
    Calls Try.prog 18 #[.pointer (some ⟨b, 0, none⟩), .pointer (some ⟨r, 0, none⟩), o.val] w fun e w' => e = .returned (.bool true) ∧ Did w w' b bm v r u := by
  have H := Lib.hid h
  obtain ⟨on, kind, n, x⟩ := o
  simp only at k1 k2 k3 k4 k5 k7
  clear h
  unfold OpD.val
  go_enter Try.func18, Try.ntmps18
  go_wp2_with fail
  go_ret
  exact ⟨rfl, Did.of_same H.out ((Turned.refl _ _).alloc _)⟩
end
end Go.Proofs.Ytpknnhdpnmkpcaa

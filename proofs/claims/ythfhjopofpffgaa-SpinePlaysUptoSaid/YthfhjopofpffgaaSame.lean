/-
  The walks of SameInts, SameFrame, SameFrames, where the two are alike.
-/
import Derived.Test.YthfhjopofpffgaaEach
namespace Go.Proofs.Ythfhjopofpffgaa
open Go.RowKit

set_option maxHeartbeats 1000000 in
theorem sameInts_any (w : World) (va vb : Value) (P : List Int) (ha : Rd w va P) (hb : Rd w vb P) (hl : P.length ≤ 140737488355328) :
    Calls Try.prog 13 #[va, vb] w fun e w' => e = .returned (.bool true) ∧ ∃ n, w' = w.drewN n := by
  obtain ⟨A, ca, rfl, hA⟩ := ha
  obtain ⟨B, cb, rfl, hB⟩ := hb
  have HA := Lib.hid hA; have HB := Lib.hid hB
  clear hA hB
  go_enter Try.func13, Try.ntmps13
  go_wp2_with fail
  go_loopw [5] (fun i wr => ∃ k : Nat, k ≤ P.length ∧ i = .int .i64 k ∧ ∃ n, wr = w.drewN n) (fun i _ => P.length - (intOf i).toNat)
  case atStart => exact ⟨0, Nat.zero_le _, rfl, 0, rfl⟩
  case round =>
    obtain ⟨k, hk, rfl, n, rfl⟩ := hrel
    by_cases hlt : k < P.length
    · obtain ⟨bl, off, rfl, hc⟩ := HA.out (by omega)
      obtain ⟨bl2, off2, rfl, hc2⟩ := HB.out (by omega)
      have d := hc k hlt
      have d2 := hc2 k hlt
      obtain ⟨x, hx⟩ : ∃ x, x = P[k] := ⟨_, rfl⟩
      rw [← hx] at d d2
      clear hc hc2 hx
      have hk0 : (0 : Int) ≤ k := by omega
      have hk1 : (k : Int) < P.length := by omega
      go_wp2_with fail
      go_quiet (fail)
      go_wp2_with fail
      go_roundw
      case rel => exact ⟨k + 1, by omega, by go_num, _, rfl⟩
      case measure => simp [intOf]; omega
    · go_wp2_with fail
      go_ret
      exact ⟨rfl, n, rfl⟩

theorem Rd.same {w w' : World} {pv : Value} {p : List Int} (h : Rd w pv p) (ht : Same w w') : Rd w' pv p := h.turned ht (fun _ _ h => h)
theorem same_drewN {w w' : World} (h : Same w w') (n : Nat) : Same w (w'.drewN n) := h.drewN n

set_option maxHeartbeats 1000000 in
theorem sameFrame_any (w : World) (f : Fr) (va vb : Value) (ha : Rd w va f.path) (hb : Rd w vb f.path) (hl : f.path.length ≤ 140737488355328) :
    Calls Try.prog 17 #[fval f va, fval f vb] w fun e w' => e = .returned (.bool true) ∧ Same w w' := by
  have hs : Same w ((w.alloc (.cells #[.int .i64 f.node, .bool f.whole, .int .i64 f.next, va] 25)).alloc (.cells #[.int .i64 f.node, .bool f.whole, .int .i64 f.next, vb] 25)) := ((Turned.refl _ _).alloc _).alloc _
  have HA := Lib.hid (ha.same hs); have HB := Lib.hid (hb.same hs); have HS := Lib.hid hs
  clear ha hb hs
  show Calls Try.prog 17 #[.agg #[.int .i64 f.node, .bool f.whole, .int .i64 f.next, va], .agg #[.int .i64 f.node, .bool f.whole, .int .i64 f.next, vb]] w _
  go_enter Try.func17, Try.ntmps17
  cases hw : f.whole
  all_goals
    rw [hw] at HA HB HS
    go_wp2_with (first | (go_at_call 13; refine (sameInts_any _ _ _ f.path HA.out HB.out hl).mono ?_; rintro e w' ⟨rfl, n, rfl⟩))
    go_ret
    exact ⟨rfl, HS.out.drewN n⟩

/-- A slice value that reads as a list of frames. -/
def FRd (w : World) (v : Value) (X : List Fr) : Prop :=
  ∃ A c, v = .slice A X.length c ∧ (0 < X.length → ∃ bl off, A = some ⟨bl, off, none⟩ ∧ ∀ k (h : k < X.length), w.cell? ⟨bl, off + k * 4, none⟩ = some (.int .i64 X[k].node) ∧ w.cell? ⟨bl, off + k * 4 + 1, none⟩ = some (.bool X[k].whole) ∧ w.cell? ⟨bl, off + k * 4 + 2, none⟩ = some (.int .i64 X[k].next) ∧
    ∃ pv, w.cell? ⟨bl, off + k * 4 + 3, none⟩ = some pv ∧ Rd w pv X[k].path)
theorem FRd.same {w w' : World} {v : Value} {X : List Fr} (h : FRd w v X) (ht : Same w w') : FRd w' v X := by
  obtain ⟨A, c, rfl, hA⟩ := h
  refine ⟨A, c, rfl, fun h0 => ?_⟩
  obtain ⟨bl, off, rfl, hc⟩ := hA h0
  refine ⟨bl, off, rfl, fun k hk => ?_⟩
  obtain ⟨c0, c1, c2, pv, c3, hR⟩ := hc k hk
  have hb := World.block_lt_of_cell? w _ c0
  exact ⟨(ht.cell (p := ⟨bl, off + k * 4, none⟩) hb (fun h => h)).trans c0, (ht.cell (p := ⟨bl, off + k * 4 + 1, none⟩) hb (fun h => h)).trans c1, (ht.cell (p := ⟨bl, off + k * 4 + 2, none⟩) hb (fun h => h)).trans c2, pv, (ht.cell (p := ⟨bl, off + k * 4 + 3, none⟩) hb (fun h => h)).trans c3, hR.same ht⟩
/-- Out of a row of the call's own. -/
theorem FRd.of_own {w : World} {v : Value} {F : List FV} (h : w.ownsRow 0 25 4 v F.length (fall F)) (hp : ∀ x ∈ F, Rd w x.2 x.1.path) : FRd w v (F.map (·.1)) := by
  obtain ⟨a, c, rfl, _, _⟩ := own_shape h
  refine ⟨a, c, by simp, fun h0 => ?_⟩
  rw [List.length_map] at h0
  obtain ⟨g, cap, hv, _, hg⟩ := h.form h0
  obtain ⟨rfl, rfl⟩ : a = some ⟨g, 0, none⟩ ∧ c = cap := by simpa using hv
  refine ⟨g, 0, rfl, fun k hk => ?_⟩
  rw [List.length_map] at hk
  have hc := h.cells (g := g) rfl
  obtain ⟨e0, e1, e2, e3⟩ := fall_at F k hk
  have d0 := hc _ _ e0
  have d1 := hc _ _ e1
  have d2 := hc _ _ e2
  have d3 := hc _ _ e3
  simp only [Addr.add_lit, Nat.zero_add] at d0 d1 d2 d3
  simp only [List.getElem_map, Nat.zero_add]
  exact ⟨d0, d1, d2, _, d3, hp _ (List.getElem_mem _)⟩

set_option maxHeartbeats 2000000 in
theorem sameFrames_any (w : World) (va vb : Value) (X : List Fr) (ha : FRd w va X) (hb : FRd w vb X) (hl : X.length ≤ 140737488355328) (hL : ∀ x ∈ X, x.path.length ≤ 140737488355328) :
    Calls Try.prog 22 #[va, vb] w fun e w' => e = .returned (.bool true) ∧ Same w w' := by
  have HA := Lib.hid ha; have HB := Lib.hid hb; have HL := Lib.hid hL
  obtain ⟨A, ca, rfl, hA⟩ := ha
  obtain ⟨B, cb, rfl, hB⟩ := hb
  clear hA hB hL
  go_enter Try.func22, Try.ntmps22
  go_wp2_with fail
  go_loopw [5] (fun i wr => ∃ k : Nat, k ≤ X.length ∧ i = .int .i64 k ∧ Hid (Same w wr)) (fun i _ => X.length - (intOf i).toNat)
  case atStart => exact ⟨0, Nat.zero_le _, rfl, Turned.refl _ _⟩
  case round =>
    obtain ⟨k, hk, rfl, HS⟩ := hrel
    by_cases hlt : k < X.length
    · obtain ⟨A2, ca2, ea, hA⟩ := HA.out.same HS.out
      injection ea with e1 _ e2
      subst e1; subst e2
      obtain ⟨B2, cb2, eb, hB⟩ := HB.out.same HS.out
      injection eb with e1 _ e2
      subst e1; subst e2
      obtain ⟨bl, off, rfl, hc⟩ := hA (by omega)
      obtain ⟨bl2, off2, rfl, hc2⟩ := hB (by omega)
      obtain ⟨d0, d1, d2, pa, d3, ra⟩ := hc k hlt
      obtain ⟨e0, e1, e2, pb, e3, rb⟩ := hc2 k hlt
      have hK := HL.out X[k] (List.getElem_mem _)
      obtain ⟨x, hx⟩ : ∃ x, x = X[k] := ⟨_, rfl⟩
      rw [← hx] at d0 d1 d2 ra e0 e1 e2 rb hK
      have RA := Lib.hid ra; have RB := Lib.hid rb; have HK := Lib.hid hK
      clear hc hc2 hx hA hB ra rb hK
      have hk0 : (0 : Int) ≤ k := by omega
      have hk1 : (k : Int) < X.length := by omega
      go_wp2_with fail
      go_region_law ((go_simp; go_at_call 17; refine (sameFrame_any _ x pa pb (by exact RA.out) (by exact RB.out) HK.out).mono ?_; rintro e w2 ⟨rfl, hs2⟩; have HS2 := Lib.hid (HS.out.drew.trans hs2 (fun _ h => h.elim)); clear hs2))
      all_goals
        go_wp2_with fail
        go_roundw
        case rel => exact ⟨k + 1, by omega, by go_num, HS2⟩
        case measure => simp [intOf]; omega
    · go_wp2_with fail
      go_ret
      exact ⟨rfl, HS.out⟩
end Go.Proofs.Ythfhjopofpffgaa

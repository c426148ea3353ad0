/-
  Nodes as a call reads them; the walks of SameInts, SameNode, SameNodes on lists that are alike.
-/
import Derived.Test.YteohhiefchoamaaTold
namespace Go.Proofs.Yteohhiefchoamaa
open Go.RowKit

/-- A slice of nodes, as a call reads it. -/
def NdRd (w : World) (v : Value) (K : List Nd) : Prop :=
  ∃ A c, v = .slice A K.length c ∧ (0 < K.length → ∃ bl off, A = some ⟨bl, off, none⟩ ∧ ∀ k (h : k < K.length), ∃ av, w.cell? ⟨bl, off + k * 5, none⟩ = some (.int .i64 K[k].sym) ∧ w.cell? ⟨bl, off + k * 5 + 1, none⟩ = some av ∧ w.cell? ⟨bl, off + k * 5 + 2, none⟩ = some (.int .i64 K[k].mark) ∧ w.cell? ⟨bl, off + k * 5 + 3, none⟩ = some (.bool K[k].points) ∧ w.cell? ⟨bl, off + k * 5 + 4, none⟩ = some (.int .i64 K[k].to) ∧ Rd w av K[k].args)
theorem NdRd.same {w w' : World} {v : Value} {K : List Nd} (h : NdRd w v K) (ht : Same w w') : NdRd w' v K := by
  obtain ⟨A, c, rfl, h1⟩ := h
  refine ⟨A, c, rfl, fun h0 => ?_⟩
  obtain ⟨bl, off, rfl, hc⟩ := h1 h0
  refine ⟨bl, off, rfl, fun k hk => ?_⟩
  obtain ⟨av, e0, e1, e2, e3, e4, hR⟩ := hc k hk
  have l0 : bl < w.heap.size := World.block_lt_of_cell? _ _ e0
  exact ⟨av, (ht.cell (p := ⟨bl, off + k * 5, none⟩) l0 (fun h => h)).trans e0, (ht.cell (p := ⟨bl, off + k * 5 + 1, none⟩) l0 (fun h => h)).trans e1, (ht.cell (p := ⟨bl, off + k * 5 + 2, none⟩) l0 (fun h => h)).trans e2, (ht.cell (p := ⟨bl, off + k * 5 + 3, none⟩) l0 (fun h => h)).trans e3, (ht.cell (p := ⟨bl, off + k * 5 + 4, none⟩) l0 (fun h => h)).trans e4, hR.same_ ht⟩
theorem NdRd.take {w : World} {A : Option Addr} {c : Nat} {K : List Nd} (h : NdRd w (.slice A K.length c) K) (n : Nat) (hn : n ≤ K.length) (c' : Nat) : NdRd w (.slice A n c') (K.take n) := by
  obtain ⟨A', c2, e, h1⟩ := h
  injection e with e1 _ _
  subst e1
  have hl : (K.take n).length = n := by simp; omega
  refine ⟨A, c', by rw [hl], fun h0 => ?_⟩
  obtain ⟨bl, off, rfl, hc⟩ := h1 (by omega)
  refine ⟨bl, off, rfl, fun k hk => ?_⟩
  have := hc k (by omega)
  simpa [List.getElem_take] using this
theorem own_ndrd {w : World} {u : Value} {K : List NV} (ho : w.ownsRow 0 53 5 u K.length (nall K)) (ha : ∀ x ∈ K, ArgAt w x.2 x.1.args) : NdRd w u (K.map (·.1)) := by
  obtain ⟨a, c, rfl, _, _⟩ := own_shape ho
  refine ⟨a, c, by simp, fun h0 => ?_⟩
  rw [List.length_map] at h0
  have hH : ∀ k (hk : k < K.length), ∃ g, a = some ⟨g, 0, none⟩ ∧ w.cell? ⟨g, k * 5, none⟩ = some (.int .i64 K[k].1.sym) ∧ w.cell? ⟨g, k * 5 + 1, none⟩ = some K[k].2 ∧ w.cell? ⟨g, k * 5 + 2, none⟩ = some (.int .i64 K[k].1.mark) ∧ w.cell? ⟨g, k * 5 + 3, none⟩ = some (.bool K[k].1.points) ∧ w.cell? ⟨g, k * 5 + 4, none⟩ = some (.int .i64 K[k].1.to) := by
    intro k hk
    obtain ⟨g, cap, hv, _, hg⟩ := ho.form (by omega)
    obtain ⟨rfl, rfl⟩ : a = some ⟨g, 0, none⟩ ∧ c = cap := by simpa using hv
    have hc := ho.cells (g := g) rfl
    obtain ⟨e0, e1, e2, e3, e4⟩ := nall_at K k hk
    have d0 := hc _ _ e0
    have d1 := hc _ _ e1
    have d2 := hc _ _ e2
    have d3 := hc _ _ e3
    have d4 := hc _ _ e4
    simp only [Addr.add_lit, Nat.zero_add] at d0 d1 d2 d3 d4
    exact ⟨g, rfl, d0, d1, d2, d3, d4⟩
  obtain ⟨g, rfl, _⟩ := hH 0 h0
  refine ⟨g, 0, rfl, fun k hk => ?_⟩
  rw [List.length_map] at hk
  obtain ⟨g', e, d0, d1, d2, d3, d4⟩ := hH k hk
  injection e with e
  injection e with e1
  subst e1
  simp only [Nat.zero_add, List.getElem_map]
  exact ⟨K[k].2, d0, d1, d2, d3, d4, (ha K[k] (List.getElem_mem _)).rd⟩
theorem ToldI.rd {w wr : World} {u : Value} {K : List NV} (h : ToldI w wr u K) : NdRd wr u (K.map (·.1)) := own_ndrd h.own h.args

set_option maxHeartbeats 1000000 in
theorem sameInts_eq (w : World) (v1 v2 : Value) (p : List Int) (h1 : Rd w v1 p) (h2 : Rd w v2 p) (hl : p.length ≤ 17592186044416) :
    Calls Try.prog 31 #[v1, v2] w fun e w' => e = .returned (.bool true) ∧ Same w w' := by
  have HA := Lib.hid h1; have HB := Lib.hid h2
  obtain ⟨A, c, rfl, hA⟩ := h1
  obtain ⟨B, d, rfl, hB⟩ := h2
  clear hA hB
  go_enter Try.func31, Try.ntmps31
  go_wp2_with fail
  go_loopw [5] (fun i wr => ∃ k : Nat, k ≤ p.length ∧ i = .int .i64 k ∧ Hid (Same w wr)) (fun i _ => p.length - (intOf i).toNat)
  case atStart => exact ⟨0, Nat.zero_le _, rfl, Turned.refl _ _⟩
  case round =>
    obtain ⟨k, hk, rfl, HV⟩ := hrel
    by_cases hlt : k < p.length
    · obtain ⟨A', c', e, hA⟩ := HA.out.same_ HV.out
      injection e with e1 _ e2
      subst e1; subst e2
      obtain ⟨B', d', e, hB⟩ := HB.out.same_ HV.out
      injection e with e1 _ e2
      subst e1; subst e2
      obtain ⟨bl, off, rfl, hc⟩ := hA (by omega)
      obtain ⟨bl', off', rfl, hc'⟩ := hB (by omega)
      have d0 := hc k hlt
      have d1 := hc' k hlt
      obtain ⟨x, hx⟩ : ∃ x, x = p[k] := ⟨_, rfl⟩
      rw [← hx] at d0 d1
      clear hc hc' hx hA hB
      have hk0 : (0 : Int) ≤ k := by omega
      have hk1 : (k : Int) < p.length := by omega
      go_wp2_with fail
      go_quiet (fail)
      go_wp2_with fail
      go_roundw
      case rel => exact ⟨k + 1, by omega, by go_num, HV.out.drewN _⟩
      case measure => simp [intOf]; omega
    · have hkk : k = p.length := by omega
      subst hkk
      go_wp2_with fail
      go_ret
      exact ⟨rfl, HV.out⟩
theorem sameNode_eq (w : World) (x : Nd) (v1 v2 : Value) (h1 : Rd w v1 x.args) (h2 : Rd w v2 x.args) (hl : x.args.length ≤ 17592186044416) :
    Calls Try.prog 54 #[nval x v1, nval x v2] w fun e w' => e = .returned (.bool true) ∧ Same w w' := by
  obtain ⟨sy, ar, mk, po, tt⟩ := x
  simp only at h1 h2 hl
  have H1 := Lib.hid h1; have H2 := Lib.hid h2
  obtain ⟨A, c, rfl, hA⟩ := h1
  obtain ⟨B, d, rfl, hB⟩ := h2
  clear hA hB
  show Calls Try.prog 54 #[.agg #[.int .i64 sy, .slice A ar.length c, .int .i64 mk, .bool po, .int .i64 tt], .agg #[.int .i64 sy, .slice B ar.length d, .int .i64 mk, .bool po, .int .i64 tt]] w _
  go_enter Try.func54, Try.ntmps54
  go_wp2_with fail
  have HS2 : Same w ((w.alloc (.cells #[.int .i64 sy, .slice A ar.length c, .int .i64 mk, .bool po, .int .i64 tt] 53)).alloc (.cells #[.int .i64 sy, .slice B ar.length d, .int .i64 mk, .bool po, .int .i64 tt] 53)) := ((Turned.refl _ _).alloc _).alloc _
  refine (sameInts_eq _ _ _ ar (by exact H1.out.same_ HS2) (by exact H2.out.same_ HS2) hl).mono ?_
  rintro e w1 ⟨rfl, hs1⟩
  have HS3 := Lib.hid (HS2.trans hs1 (fun _ h => h.elim))
  clear hs1 HS2
  go_wp2_with fail
  go_ret
  exact ⟨rfl, HS3.out⟩

set_option maxHeartbeats 1000000 in
theorem sameNodes_eq (w : World) (v1 v2 : Value) (K : List Nd) (h1 : NdRd w v1 K) (h2 : NdRd w v2 K) (hl : K.length ≤ 17592186044416) (hl2 : ∀ x ∈ K, x.args.length ≤ 17592186044416) :
    Calls Try.prog 17 #[v1, v2] w fun e w' => e = .returned (.bool true) ∧ Same w w' := by
  have H1 := Lib.hid h1; have H2 := Lib.hid h2; have HL2 := Lib.hid hl2
  obtain ⟨A, c, rfl, hA⟩ := h1
  obtain ⟨B, d, rfl, hB⟩ := h2
  clear hA hB hl2
  go_enter Try.func17, Try.ntmps17
  go_wp2_with fail
  go_loopw [5] (fun i wr => ∃ k : Nat, k ≤ K.length ∧ i = .int .i64 k ∧ Hid (Same w wr)) (fun i _ => K.length - (intOf i).toNat)
  case atStart => exact ⟨0, Nat.zero_le _, rfl, Turned.refl _ _⟩
  case round =>
    obtain ⟨k, hk, rfl, HV⟩ := hrel
    by_cases hlt : k < K.length
    · obtain ⟨A', c', e, hA⟩ := H1.out.same HV.out
      injection e with e1 _ e2
      subst e1; subst e2
      obtain ⟨B', d', e, hB⟩ := H2.out.same HV.out
      injection e with e1 _ e2
      subst e1; subst e2
      obtain ⟨bl, off, rfl, hc⟩ := hA (by omega)
      obtain ⟨bl', off', rfl, hc'⟩ := hB (by omega)
      obtain ⟨av, a0, a1, a2, a3, a4, hRa⟩ := hc k hlt
      obtain ⟨bv, b0, b1, b2, b3, b4, hRb⟩ := hc' k hlt
      have hla := HL2.out K[k] (List.getElem_mem _)
      obtain ⟨⟨sy, ar, mk, po, tt⟩, hx⟩ : ∃ x, x = K[k] := ⟨_, rfl⟩
      rw [← hx] at a0 a2 a3 a4 b0 b2 b3 b4 hRa hRb hla
      simp only at a0 a2 a3 a4 b0 b2 b3 b4 hRa hRb hla
      have HRa := Lib.hid hRa; have HRb := Lib.hid hRb
      clear hc hc' hx hA hB hRa hRb
      have hk0 : (0 : Int) ≤ k := by omega
      have hk1 : (k : Int) < K.length := by omega
      have hD : ∀ n, Same wr (wr.drewN n) := fun n => (Turned.refl _ _).drewN n
      have HD := Lib.hid hD
      clear hD
      go_wp2_with fail
      go_region_law ((go_simp; go_at_call 54; refine (sameNode_eq _ ⟨sy, ar, mk, po, tt⟩ av bv (by exact HRa.out.same_ (HD.out 1)) (by exact HRb.out.same_ (HD.out 1)) hla).mono ?_; rintro e w1 ⟨rfl, hs1⟩; have HS1 : Hid (Same w w1) := (HV.out.trans (HD.out 1) (fun _ h => h.elim)).trans hs1 (fun _ h => h.elim); clear hs1))
      all_goals
        go_wp2_with fail
        go_roundw
        case rel => exact ⟨k + 1, by omega, by go_num, HS1.out⟩
        case measure => simp [intOf]; omega
    · have hkk : k = K.length := by omega
      subst hkk
      go_wp2_with fail
      go_ret
      exact ⟨rfl, HV.out⟩
end Go.Proofs.Yteohhiefchoamaa

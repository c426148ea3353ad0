/-
  The walks of the law's Same, of the reference's Same, of awake.
-/
import Derived.Test.YtoncebnbdjpclaaScan
namespace Go.Proofs.Ytoncebnbdjpclaa
open Go.RowKit

theorem ErrAt.same {w w' : World} {ev : Value} {E : Option (Nat × Nat)} (h : ErrAt w ev E) (ht : Same w w') : ErrAt w' ev E := by
  cases E with
  | none => exact h
  | some x =>
    obtain ⟨g, e, hb⟩ := h
    exact ⟨g, e, hb.turned ht (fun h => h)⟩
/-- A list of what is wrong: none, or one. -/
def WRow (w : World) (v : Value) : Option (Nat × Nat) → Prop
  | none => ∃ a c, v = .slice a 0 c
  | some x => ∃ g c, v = .slice (some ⟨g, 0, none⟩) 1 c ∧ Blk w g 37 #[.int .i64 x.1, .int .i64 x.2]
theorem WRow.turned {w w' : World} {v : Value} {E : Option (Nat × Nat)} {S : Nat → Prop} (h : WRow w v E) (ht : Turned S w w') (hS : ∀ k cs, Blk w k 37 cs → ¬ S k) : WRow w' v E := by
  cases E with
  | none => exact h
  | some x =>
    obtain ⟨g, c, e, hb⟩ := h
    exact ⟨g, c, e, hb.turned ht (hS g _ hb)⟩
theorem ErrAt.turned {w w' : World} {v : Value} {E : Option (Nat × Nat)} {S : Nat → Prop} (h : ErrAt w v E) (ht : Turned S w w') (hS : ∀ k cs, Blk w k 35 cs → ¬ S k) : ErrAt w' v E := by
  cases E with
  | none => exact h
  | some x =>
    obtain ⟨g, e, hb⟩ := h
    exact ⟨g, e, hb.turned ht (hS g _ hb)⟩

theorem assert30_yes (W : World) (v : Value) : (Instr.typeAssert (.iface 30 v) 27 30 true).run Try.prog W = .ok (.tuple #[v, .bool true]) W := by kernel_rfl
theorem assert30_nil (W : World) : (Instr.typeAssert .nilIface 27 30 true).run Try.prog W = .ok (.tuple #[.pointer none, .bool false]) W := by kernel_rfl

set_option maxRecDepth 100000 in
set_option maxHeartbeats 4000000 in
theorem same_any (w : World) (ev v : Value) (E : Option (Nat × Nat)) (he : ErrAt w ev E) (hv : WRow w v E) :
    Calls Try.prog 10 #[ev, v] w fun e w' => e = .returned (.bool true) ∧ Same w w' := by
  cases E with
  | none =>
    obtain ⟨a, c, rfl⟩ := hv
    obtain rfl : ev = .nilIface := he
    go_enter Try.func10, Try.ntmps10
    go_wp2_with fail
    go_loopw [0, 5] (fun x i wr => x = .nilIface ∧ i = .int .i64 0 ∧ Hid (Same w wr)) (fun _ _ _ => 0)
    case atStart => exact ⟨rfl, rfl, Turned.refl _ _⟩
    case round =>
      obtain ⟨rfl, rfl, HS⟩ := hrel
      go_wp2_with fail
      go_ret
      exact ⟨rfl, HS.out⟩
  | some x =>
    obtain ⟨c, p⟩ := x
    obtain ⟨b, cp, rfl, hvb⟩ := hv
    have v0 : w.cell? ⟨b, 0, none⟩ = some (.int .i64 c) := by simpa using hvb.cell 0
    have v1 : w.cell? ⟨b, 1, none⟩ = some (.int .i64 p) := by simpa using hvb.cell 1
    clear hvb
    obtain ⟨g, rfl, hg⟩ := he
    have HG := Lib.hid hg
    have HV := Lib.hid (And.intro v0 v1)
    clear v0 v1 hg
    go_enter Try.func10, Try.ntmps10
    go_wp2_with fail
    go_loopw [0, 5] (fun x i wr => ((x = .iface 30 (.pointer (some ⟨g, 0, none⟩)) ∧ i = .int .i64 0) ∨ (x = .nilIface ∧ i = .int .i64 1)) ∧ Hid (Same w wr)) (fun _ i _ => 1 - (intOf i).toNat)
    case atStart => exact ⟨.inl ⟨rfl, rfl⟩, Turned.refl _ _⟩
    case round =>
      obtain ⟨h, HS⟩ := hrel
      rcases h with ⟨rfl, rfl⟩ | ⟨rfl, rfl⟩
      · have v0 : wr.cell? ⟨b, 0, none⟩ = some (.int .i64 c) := (HS.out.cell (p := ⟨b, 0, none⟩) (World.block_lt_of_cell? w _ HV.out.1) (fun h => h)).trans HV.out.1
        have v1 : wr.cell? ⟨b, 1, none⟩ = some (.int .i64 p) := (HS.out.cell (p := ⟨b, 1, none⟩) (World.block_lt_of_cell? w _ HV.out.2) (fun h => h)).trans HV.out.2
        have hb := HG.out.turned HS.out (fun h => h)
        have q0 := hb.cell 0
        have q1 := hb.cell 1
        have q2 := hb.cell 2
        simp at q0 q1 q2
        have hpn : ((p : Int) == -1) = false := by rw [beq_eq_false_iff_ne]; omega
        have hpn2 : ¬ (p : Int) = -1 := by omega
        have ta := fun W => assert30_yes W (.pointer (some ⟨g, 0, none⟩))
        clear hb
        go_wp2_with fail
        go_quiet (fail)
        go_wp2_with fail
        exact ⟨⟨.inr ⟨rfl, rfl⟩, HS.out.drewN _⟩, by simp [intOf]⟩
      · go_wp2_with fail
        go_ret
        exact ⟨rfl, HS.out⟩
theorem tall_at : ∀ (T : List Tok) (i : Nat) (h : i < T.length), (tall T)[i * 3]? = some (.int .i64 T[i].kind) ∧ (tall T)[i * 3 + 1]? = some (.int .i64 T[i].place) ∧ (tall T)[i * 3 + 2]? = some (.string T[i].text)
  | [], i, h => by simp at h
  | x :: r, 0, h => by simp [tall, tcells]
  | x :: r, i + 1, h => by
    have ih := tall_at r i (by simpa using h)
    have e : ∀ (y : Tok) (q : List Tok), tall (y :: q) = .int .i64 y.kind :: .int .i64 y.place :: .string y.text :: tall q := fun y q => by simp [tall, tcells]
    rw [e, show (i + 1) * 3 = i * 3 + 1 + 1 + 1 from by omega]
    simp only [List.getElem?_cons_succ, List.getElem_cons_succ]
    exact ih
/-- A row of tokens, as it is read. -/
def TRd (w : World) (v : Value) (T : List Tok) : Prop :=
  ∃ A c, v = .slice A T.length c ∧ (0 < T.length → ∃ g, A = some ⟨g, 0, none⟩ ∧ ∀ k (h : k < T.length), w.cell? ⟨g, k * 3, none⟩ = some (.int .i64 T[k].kind) ∧ w.cell? ⟨g, k * 3 + 1, none⟩ = some (.int .i64 T[k].place) ∧ w.cell? ⟨g, k * 3 + 2, none⟩ = some (.string T[k].text))
theorem TRd.of_own {w : World} {v : Value} {T : List Tok} (h : w.ownsRow 0 40 3 v T.length (tall T)) : TRd w v T := by
  obtain ⟨a, c, rfl, _, _⟩ := own_shape h
  refine ⟨a, c, rfl, fun h0 => ?_⟩
  obtain ⟨g, cap, hv, _, hg⟩ := h.form h0
  obtain ⟨rfl, rfl⟩ : a = some ⟨g, 0, none⟩ ∧ c = cap := by simpa using hv
  refine ⟨g, rfl, fun k hk => ?_⟩
  have hc := h.cells (g := g) rfl
  obtain ⟨e0, e1, e2⟩ := tall_at T k hk
  have d0 := hc _ _ e0
  have d1 := hc _ _ e1
  have d2 := hc _ _ e2
  simp only [Addr.add_lit, Nat.zero_add] at d0 d1 d2
  exact ⟨d0, d1, d2⟩
theorem TRd.same {w w' : World} {v : Value} {T : List Tok} (h : TRd w v T) (ht : Same w w') : TRd w' v T := by
  obtain ⟨A, c, rfl, h1⟩ := h
  refine ⟨A, c, rfl, fun h0 => ?_⟩
  obtain ⟨g, rfl, hc⟩ := h1 h0
  refine ⟨g, rfl, fun k hk => ?_⟩
  obtain ⟨c0, c1, c2⟩ := hc k hk
  have hb := World.block_lt_of_cell? w _ c0
  exact ⟨(ht.cell (p := ⟨g, k * 3, none⟩) hb (fun h => h)).trans c0, (ht.cell (p := ⟨g, k * 3 + 1, none⟩) hb (fun h => h)).trans c1, (ht.cell (p := ⟨g, k * 3 + 2, none⟩) hb (fun h => h)).trans c2⟩

set_option maxHeartbeats 2000000 in
theorem tokens_any (w : World) (va vb : Value) (T : List Tok) (ha : TRd w va T) (hb : TRd w vb T) (hl : T.length ≤ 140737488355328) :
    Calls Try.prog 11 #[va, vb] w fun e w' => e = .returned (.bool true) ∧ Same w w' := by
  have HA := Lib.hid ha; have HB := Lib.hid hb
  obtain ⟨A, ca, rfl, hA⟩ := ha
  obtain ⟨B, cb, rfl, hB⟩ := hb
  clear hA hB
  go_enter Try.func11, Try.ntmps11
  go_wp2_with fail
  go_loopw [5] (fun i wr => ∃ k : Nat, k ≤ T.length ∧ i = .int .i64 k ∧ Hid (Same w wr)) (fun i _ => T.length - (intOf i).toNat)
  case atStart => exact ⟨0, Nat.zero_le _, rfl, Turned.refl _ _⟩
  case round =>
    obtain ⟨k, hk, rfl, HS⟩ := hrel
    by_cases hlt : k < T.length
    · obtain ⟨A2, ca2, ea, hA⟩ := HA.out.same HS.out
      injection ea with e1 _ e2
      subst e1; subst e2
      obtain ⟨B2, cb2, eb, hB⟩ := HB.out.same HS.out
      injection eb with e1 _ e2
      subst e1; subst e2
      obtain ⟨ga, rfl, hc⟩ := hA (by omega)
      obtain ⟨gb, rfl, hc2⟩ := hB (by omega)
      obtain ⟨d0, d1, d2⟩ := hc k hlt
      obtain ⟨e0, e1, e2⟩ := hc2 k hlt
      obtain ⟨x, hx⟩ : ∃ x, x = T[k] := ⟨_, rfl⟩
      rw [← hx] at d0 d1 d2 e0 e1 e2
      clear hc hc2 hx hA hB
      have hk0 : (0 : Int) ≤ k := by omega
      have hk1 : (k : Int) < T.length := by omega
      go_wp2_with fail
      go_quiet (fail)
      go_wp2_with fail
      exact ⟨⟨k + 1, by omega, by go_num, HS.out.drewN _⟩, by simp [intOf]; omega⟩
    · go_wp2_with fail
      go_ret
      exact ⟨rfl, HS.out⟩
end Go.Proofs.Ytoncebnbdjpclaa

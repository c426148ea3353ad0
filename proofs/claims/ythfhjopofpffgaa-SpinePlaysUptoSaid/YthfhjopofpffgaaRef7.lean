/-
  The walk of the reference's Move.
-/
import Derived.Test.YthfhjopofpffgaaRef6
namespace Go.Proofs.Ythfhjopofpffgaa
open Go.RowKit

theorem RAt.node_ {w : World} {b g c : Nat} {F : List FV} (h : RAt w b (.slice (some ⟨g, 0, none⟩) F.length c) F) (k : Nat) (hk : k < F.length) (a : Int) :
    RAt (w.setCell ⟨g, k * 4, none⟩ (.int .i64 a)) b (.slice (some ⟨g, 0, none⟩) F.length c) (F.set k (toNode F[k] a)) := by
  have ht : Turned (fun j => j = g) w (w.setCell ⟨g, k * 4, none⟩ (.int .i64 a)) := (Turned.refl (fun j => j = g) w).setCell (p := ⟨g, k * 4, none⟩) (.inl rfl) _
  refine ⟨h.blk.turned ht (fun e => own_blk_ne h.own h.blk (by decide) (by rw [e]; rfl)), ?_, fun x hx => ?_⟩
  · rw [fall_node F k hk a, List.length_set]
    exact (h.own.stored (k * 4) _).1
  · have : RowAt w x.2 x.1.path := by
      obtain ⟨i, hi, rfl⟩ := List.mem_iff_getElem.1 hx
      rw [List.getElem_set]
      split
      · exact h.paths F[k] (List.getElem_mem hk)
      · exact h.paths _ (List.getElem_mem _)
    exact this.turned ht (fun j hj e => row_foot this h.blk (by decide) h.own j hj (.inr (by rw [e]; rfl)))

set_option maxHeartbeats 4000000 in
theorem rmove_any (w : World) (b : Nat) (v : Value) (F : List FV) (h : RAt w b v F) (tv : Value) (T : List Int) (hT : RdS w (foot b v) tv T) (hl : T.length ≤ 17592186044) (hF : F.length ≤ 17592186044) :
    Calls Try.prog 41 #[.pointer (some ⟨b, 0, none⟩), tv] w fun e w' =>
      (e = .returned (.int .i64 1) ∧ T.length ≠ F.length ∧ Same w w') ∨ (e = .returned (.int .i64 141) ∧ T.length = F.length ∧ (∃ a ∈ T, a < 0) ∧ Same w w') ∨
      (e = .returned (.int .i64 0) ∧ T.length = F.length ∧ (∀ a ∈ T, 0 ≤ a) ∧ RAt w' b v (mv F.length F T) ∧ Turned (foot b v) w w') := by
  have H := Lib.hid h; have HT := Lib.hid hT
  obtain ⟨sa, sc, rfl, h1, h2⟩ := own_shape h.own
  obtain ⟨A, c, rfl, hA⟩ := hT
  have c0 := h.blk.cell 0
  simp at c0
  clear h hA
  by_cases hlen : T.length = F.length
  · rw [hlen]
    have HL := Lib.hid hlen
    clear hlen
    go_enter Try.func41, Try.ntmps41
    go_wp2_with fail
    go_loopw [5] (fun i wr => ∃ k : Nat, k ≤ F.length ∧ i = .int .i64 k ∧ Hid ((∀ j (h : j < T.length), j < k → 0 ≤ T[j]) ∧ Same w wr)) (fun i _ => F.length - (intOf i).toNat)
    case atStart => exact ⟨0, Nat.zero_le _, rfl, fun j _ h => absurd h (Nat.not_lt_zero _), Turned.refl _ _⟩
    case round =>
      obtain ⟨k, hk, rfl, HV⟩ := hrel
      by_cases hlt : k < F.length
      · have hkT : k < T.length := by rw [HL.out]; exact hlt
        obtain ⟨A2, c2, ea, hA⟩ := HT.out.same HV.out.2
        injection ea with e1 _ e2
        subst e1; subst e2
        obtain ⟨bl, off, rfl, _, hc⟩ := hA (by omega)
        have hd := hc k hkT
        obtain ⟨x, hx⟩ : ∃ x, x = T[k] := ⟨_, rfl⟩
        rw [← hx] at hd
        have HX := Lib.hid hx
        clear hc hA hx
        have hk0 : (0 : Int) ≤ k := by omega
        have hk1 : (k : Int) < F.length := by omega
        by_cases hx0 : x < 0
        · go_wp2_with fail
          go_ret
          exact .inl ⟨rfl, ⟨x, by rw [HX.out]; exact List.getElem_mem _, hx0⟩, HV.out.2⟩
        · go_wp2_with fail
          go_roundw
          case rel =>
            refine ⟨k + 1, by omega, by go_num, fun j h hj => ?_, HV.out.2⟩
            by_cases he : j = k
            · subst he; rw [← HX.out]; omega
            · exact HV.out.1 j h (by omega)
          case measure => simp [intOf]; omega
      · have hkk : k = F.length := by omega
        subst hkk
        have HP : Hid (∀ a ∈ T, 0 ≤ a) := by
          intro a ha
          obtain ⟨i, hi, rfl⟩ := List.mem_iff_getElem.1 ha
          exact HV.out.1 i hi (by rw [← HL.out]; exact hi)
        go_wp2_with fail
        go_loopw [6] (fun i wr => ∃ k : Nat, k ≤ F.length ∧ i = .int .i64 k ∧ Hid (RAt wr b (.slice sa F.length sc) (mv k F T) ∧ Turned (foot b (.slice sa F.length sc)) w wr)) (fun i _ => F.length - (intOf i).toNat)
        case atStart => exact ⟨0, Nat.zero_le _, rfl, by rw [mv_zero]; exact H.out.same HV.out.2, HV.out.2.mono (fun _ h => h.elim)⟩
        case round =>
          obtain ⟨k, hk, rfl, HW⟩ := hrel
          by_cases hlt : k < F.length
          · have hkT : k < T.length := by rw [HL.out]; exact hlt
            obtain ⟨A2, c2, ea, hA⟩ := HT.out.keep HW.out.2
            injection ea with e1 _ e2
            subst e1; subst e2
            obtain ⟨bl, off, rfl, _, hc⟩ := hA (by omega)
            have hd := hc k hkT
            have hml := mv_length k F T
            have hown := HW.out.1.own
            rw [hml] at hown
            obtain ⟨g, cap, hv, _, hg⟩ := hown.form (by omega)
            obtain ⟨rfl, rfl⟩ : sa = some ⟨g, 0, none⟩ ∧ sc = cap := by simpa using hv
            have q0 := HW.out.1.blk.cell 0
            simp at q0
            have hcell := hown.cells (g := g) rfl _ _ (fall_at (mv k F T) k (by omega)).1
            have hfz := hown.frozenAt (k * 4)
            simp only [Addr.add_lit, Nat.zero_add] at hcell
            have HW2 : Hid (∀ n u, RAt ((wr.drewN n).setCell ⟨g, k * 4, none⟩ (.int .i64 u)) b (.slice (some ⟨g, 0, none⟩) F.length sc) ((mv k F T).set k (toNode F[k] u)) ∧ Turned (foot b (.slice (some ⟨g, 0, none⟩) F.length sc)) w ((wr.drewN n).setCell ⟨g, k * 4, none⟩ (.int .i64 u))) := by
              intro n u
              have h1 := HW.out.1.same ((Turned.refl (fun _ => False) wr).drewN n)
              rw [← hml] at h1
              have h2 := h1.node_ k (by omega) u
              rw [mv_at k F T hlt, hml] at h2
              exact ⟨h2, (HW.out.2.drewN n).setCell (p := ⟨g, k * 4, none⟩) (.inl (.inr rfl)) _⟩
            have HW3 : Hid (∀ u, RAt ((wr.setCell ⟨g, k * 4, none⟩ (.int .i64 u)).drew) b (.slice (some ⟨g, 0, none⟩) F.length sc) ((mv k F T).set k (toNode F[k] u)) ∧ Turned (foot b (.slice (some ⟨g, 0, none⟩) F.length sc)) w ((wr.setCell ⟨g, k * 4, none⟩ (.int .i64 u)).drew)) := by
              intro u
              exact HW2.out 1 u
            obtain ⟨x, hx⟩ : ∃ x, x = T[k]'hkT := ⟨_, rfl⟩
            rw [← hx] at hd
            have HX := Lib.hid hx
            have HMS := Lib.hid (mv_succ k F T hlt hkT)
            obtain ⟨y, hy⟩ : ∃ y, wr.cell? ⟨g, k * 4, none⟩ = some (.int .i64 y) := ⟨_, hcell⟩
            clear hc hA hx hv hcell hown hml
            have hk0 : (0 : Int) ≤ k := by omega
            have hk1 : (k : Int) < F.length := by omega
            go_wp2_with fail
            go_region_law (fail)
            all_goals
              go_wp2_with fail
              refine ⟨⟨k + 1, by omega, by go_num, ?_⟩, by simp [intOf]; omega⟩
              rw [HMS.out, ← HX.out]; exact HW3.out x
          · have hkk : k = F.length := by omega
            subst hkk
            go_wp2_with fail
            go_ret
            exact .inr (.inr ⟨rfl, trivial, HP.out, HW.out.1, HW.out.2⟩)
  · have hlenI : (T.length : Int) ≠ F.length := by omega
    have hlenI2 : ((T.length : Int) == F.length) = false := by rw [beq_eq_false_iff_ne]; exact hlenI
    go_enter Try.func41, Try.ntmps41
    go_wp2_with fail
    go_ret
    exact .inl ⟨rfl, hlen, Turned.refl _ _⟩
end Go.Proofs.Ythfhjopofpffgaa

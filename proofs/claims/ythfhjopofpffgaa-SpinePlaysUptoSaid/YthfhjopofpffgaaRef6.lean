/-
  The walks of the reference's Path, Nodes.
-/
import Derived.Test.YthfhjopofpffgaaRef4
namespace Go.Proofs.Ythfhjopofpffgaa
open Go.RowKit

theorem r_row {w : World} {b : Nat} {v : Value} {F : List FV} (h : RAt w b v F) (k : Nat) (hk : k < F.length) : ∃ g c, v = .slice (some ⟨g, 0, none⟩) F.length c ∧ F.length ≤ c ∧ w.cell? ⟨b, 0, none⟩ = some (.slice (some ⟨g, 0, none⟩) F.length c) ∧
    w.cell? ⟨g, k * 4, none⟩ = some (.int .i64 F[k].1.node) ∧ w.cell? ⟨g, k * 4 + 1, none⟩ = some (.bool F[k].1.whole) ∧ w.cell? ⟨g, k * 4 + 2, none⟩ = some (.int .i64 F[k].1.next) ∧ w.cell? ⟨g, k * 4 + 3, none⟩ = some F[k].2 := by
  have hown := h.own
  obtain ⟨a, c, rfl, h1, h2⟩ := own_shape h.own
  obtain ⟨g, cap, hv, _, hg⟩ := hown.form (by omega)
  obtain ⟨rfl, rfl⟩ : a = some ⟨g, 0, none⟩ ∧ c = cap := by simpa using hv
  have hc := hown.cells (g := g) rfl
  obtain ⟨e0, e1, e2, e3⟩ := fall_at F k hk
  have d0 := hc _ _ e0
  have d1 := hc _ _ e1
  have d2 := hc _ _ e2
  have d3 := hc _ _ e3
  simp only [Addr.add_lit, Nat.zero_add] at d0 d1 d2 d3
  exact ⟨g, c, rfl, h1, (h.blk.cell 0).trans rfl, d0, d1, d2, d3⟩
theorem r_head {w : World} {b : Nat} {v : Value} {F : List FV} (h : RAt w b v F) : ∃ a c, v = .slice a F.length c ∧ w.cell? ⟨b, 0, none⟩ = some (.slice a F.length c) := by
  obtain ⟨a, c, rfl, h1, h2⟩ := own_shape h.own
  exact ⟨a, c, rfl, (h.blk.cell 0).trans rfl⟩

/-- A list of the call's own that grows: of what was there in w nothing has turned. -/
structure GI (w wr : World) (v : Value) (p : List Int) : Prop where
  row : RowAt wr v p
  same : Same w wr
  new : ∀ k, v.ownBlock = some k → w.heap.size ≤ k
theorem GI.nil (w : World) : GI w w (.slice none 0 0) [] := ⟨World.ownsRow_nil _ _ _ _, Turned.refl _ _, fun k hk => by simp [Value.ownBlock] at hk⟩
theorem GI.app {w wr w1 w' : World} {v v' : Value} {p q : List Int} (h : GI w wr v p) (hs : Same wr w1) (ho : w'.ownsRow 0 3 1 v' (p.length + q.length) (intVals p ++ intVals q)) (hg : w1.grownBy w' v.ownBlock)
    (hat : v'.ownBlock = v.ownBlock ∨ v'.ownBlock = some w1.heap.size) : GI w w' v' (p ++ q) := by
  have h1 : Same w w1 := h.same.trans hs (fun _ h => h.elim)
  refine ⟨?_, ?_, fun k hk => ?_⟩
  · unfold RowAt; rw [List.length_append, show intVals (p ++ q) = intVals p ++ intVals q from by simp [intVals]]; exact ho
  · exact h1.grown hg (fun k hk => .inr (h.new k hk))
  · rcases hat with h2 | h2
    · exact h.new k (h2.symm.trans hk)
    · have h3 := h2.symm.trans hk
      obtain rfl : w1.heap.size = k := by simpa using h3
      exact h1.size

set_option maxHeartbeats 2000000 in
theorem rpath_any (w : World) (b : Nat) (v : Value) (F : List FV) (h : RAt w b v F) (hF : F.length ≤ 17592186044) (hS : (flat F).length ≤ 17592186044) :
    Calls Try.prog 39 #[.pointer (some ⟨b, 0, none⟩)] w fun e w' => ∃ p, e = .returned p ∧ GI w w' p (flat F) := by
  have H := Lib.hid h
  have hbl := h.blk.lt
  clear h
  obtain ⟨i0, hi0, hz0, hz1, hz2⟩ := info_parts Try.info3
  have HI : Hid (Try.prog.info? 3 = some i0 ∧ i0.zero = some (.int .i64 0) ∧ i0.size = 1 ∧ i0.bytes = 8) := ⟨hi0, hz0, hz1, hz2⟩
  clear hi0 hz0 hz1 hz2
  go_enter Try.func39, Try.ntmps39
  go_wp2_with fail
  go_loopw [3, 4] (fun p i wr => ∃ k : Nat, k ≤ F.length ∧ i = .int .i64 k ∧ Hid (GI w wr p (flat (F.take k)))) (fun _ i _ => F.length - (intOf i).toNat)
  case atStart => exact ⟨0, Nat.zero_le _, rfl, GI.nil w⟩
  case round =>
    obtain ⟨k, hk, rfl, HG⟩ := hrel
    have HR := Lib.hid (H.out.same HG.out.same)
    by_cases hlt : k < F.length
    · obtain ⟨g, c, hv, hc, c0, d0, d1, d2, d3⟩ := r_row HR.out k hlt
      have hP := (HR.out.paths F[k] (List.getElem_mem _)).rd
      have hft : Hid (flat (F.take (k + 1)) = flat (F.take k) ++ F[k].1.path) := flat_snoc F k hlt
      have hsum : Hid ((flat (F.take k)).length + F[k].1.path.length ≤ 17592186044) := by
        have h2 := flat_le F (k + 1)
        rw [flat_snoc F k hlt, List.length_append] at h2
        unfold Hid; omega
      obtain ⟨x, hx⟩ : ∃ x, x = F[k] := ⟨_, rfl⟩
      rw [← hx] at d0 d1 d2 d3 hP hft hsum
      obtain ⟨f, pv⟩ := x
      simp only at d0 d1 d2 d3 hP hft hsum
      obtain ⟨A, pc2, rfl, hsrc⟩ := hP
      have HP : Hid (Rd wr (.slice A f.path.length pc2) f.path) := ⟨A, pc2, rfl, hsrc⟩
      obtain ⟨m, hm⟩ : ∃ m, m = (flat (F.take k)).length := ⟨_, rfl⟩
      have hrow := HG.out.row
      unfold RowAt at hrow
      rw [← hm] at hrow hsum
      obtain ⟨qa, qc, rfl, _, _⟩ := own_shape hrow
      have HRow := Lib.hid hrow; have HM := Lib.hid hm
      have hs' := hsum.out
      clear hx hsrc hv hrow hm d0 d1 d2
      have hk0 : (0 : Int) ≤ k := by omega
      have hk1 : (k : Int) < F.length := by omega
      go_wp2_with (at_builtin; go_loud (refine wpList_append_src _ rfl _ _ 23 rfl 3 i0 _ 1 8 Try.underlying23 HI.out.1 HI.out.2.1 HI.out.2.2.1 HI.out.2.2.2 rfl (by omega) (.slice qa m qc) m (intVals (flat (F.take k))) rfl (by exact HRow.out) A f.path.length pc2 (intVals f.path) rfl (by simp [intVals]) (rd_src HP.out) (ints_one _) (by unfold maxLen; omega) (by omega) ?_))
      intro a' c' w' ho' hg' hat'
      have HN : Hid (GI w w' (.slice a' (m + f.path.length) c') (flat (F.take (k + 1)))) := by
        rw [hft.out]
        exact HG.out.app (Turned.refl _ _) (by rw [← HM.out]; exact ho') hg' hat'
      clear ho' hg' hat' d3 c0
      go_wp2_with fail
      go_roundw
      case rel => exact ⟨k + 1, by omega, by go_num, HN.out⟩
      case measure => simp [intOf]; omega
    · obtain ⟨a, c, hv, c0⟩ := r_head HR.out
      have hkk : k = F.length := by omega
      have h1 := HG.out
      rw [hkk, List.take_length] at h1
      have HG2 := Lib.hid h1
      clear hv h1
      clear hkk
      go_wp2_with fail
      go_ret
      exact ⟨_, rfl, HG2.out⟩

set_option maxHeartbeats 2000000 in
theorem rnodes_any (w : World) (b : Nat) (v : Value) (F : List FV) (h : RAt w b v F) (hF : F.length ≤ 17592186044) :
    Calls Try.prog 40 #[.pointer (some ⟨b, 0, none⟩)] w fun e w' => ∃ p, e = .returned p ∧ GI w w' p (nodesOf F) := by
  have H := Lib.hid h
  have hbl := h.blk.lt
  clear h
  obtain ⟨i0, hi0, hz0, hz1, hz2⟩ := info_parts Try.info3
  have HI : Hid (Try.prog.info? 3 = some i0 ∧ i0.zero = some (.int .i64 0) ∧ i0.size = 1 ∧ i0.bytes = 8) := ⟨hi0, hz0, hz1, hz2⟩
  clear hi0 hz0 hz1 hz2
  go_enter Try.func40, Try.ntmps40
  go_wp2_with fail
  go_loopw [3, 4] (fun p i wr => ∃ k : Nat, k ≤ F.length ∧ i = .int .i64 k ∧ Hid (GI w wr p (nodesOf (F.take k)))) (fun _ i _ => F.length - (intOf i).toNat)
  case atStart => exact ⟨0, Nat.zero_le _, rfl, GI.nil w⟩
  case round =>
    obtain ⟨k, hk, rfl, HG⟩ := hrel
    have HR := Lib.hid (H.out.same HG.out.same)
    by_cases hlt : k < F.length
    · obtain ⟨g, c, hv, hc, c0, d0, d1, d2, d3⟩ := r_row HR.out k hlt
      have hft : Hid (nodesOf (F.take (k + 1)) = nodesOf (F.take k) ++ [F[k].1.node]) := nodes_snoc F k hlt
      obtain ⟨x, hx⟩ : ∃ x, x = F[k].1.node := ⟨_, rfl⟩
      rw [← hx] at d0 hft
      have hrow := HG.out.row
      unfold RowAt at hrow
      have hm : (nodesOf (F.take k)).length = k := by simp [nodesOf]; omega
      rw [hm] at hrow
      obtain ⟨qa, qc, rfl, _, _⟩ := own_shape hrow
      have HRow := Lib.hid hrow; have HM := Lib.hid hm
      clear hx hv hrow hm d1 d2 d3
      have hk0 : (0 : Int) ≤ k := by omega
      have hk1 : (k : Int) < F.length := by omega
      go_wp2_with (at_builtin; go_loud (refine wpList_append_src _ rfl _ _ 23 rfl 3 i0 _ 1 8 Try.underlying23 HI.out.1 HI.out.2.1 HI.out.2.2.1 HI.out.2.2.2 rfl (by omega) (.slice qa k qc) k (intVals (nodesOf (F.take k))) rfl (by exact World.ownsRow.alloc HRow.out _) (some ⟨wr.heap.size, 0, none⟩) 1 1 (intVals [x]) rfl (by simp [intVals]) (by exact fun _ => src_new wr (intVals [x]) 3 (by omega)) (ints_one _) (by unfold maxLen; omega) (by omega) ?_))
      intro a' c' w' ho' hg' hat'
      have HN : Hid (GI w w' (.slice a' (k + 1) c') (nodesOf (F.take (k + 1)))) := by
        rw [hft.out]
        exact HG.out.app ((Turned.refl _ _).alloc _) (by rw [HM.out]; exact ho') hg' (by simpa using hat')
      clear ho' hg' hat' d0 c0
      go_wp2_with fail
      go_roundw
      case rel => exact ⟨k + 1, by omega, by go_num, HN.out⟩
      case measure => simp [intOf]; omega
    · obtain ⟨a, c, hv, c0⟩ := r_head HR.out
      have hkk : k = F.length := by omega
      have h1 := HG.out
      rw [hkk, List.take_length] at h1
      have HG2 := Lib.hid h1
      clear hv h1
      clear hkk
      go_wp2_with fail
      go_ret
      exact ⟨_, rfl, HG2.out⟩
end Go.Proofs.Ythfhjopofpffgaa

/-
  The document's Of; two lists compared; the law's numbers.
-/
import Derived.Test.YtpknnhdpnmkpcaaOf
import Derived.Maps.AppendAt
namespace Go.Proofs.Ytpknnhdpnmkpcaa
open Go.RowKit

/-- A slice value that reads as a list of numbers. -/
def IRd (w : World) (v : Value) (l : List Nat) : Prop :=
  ∃ A c, v = .slice A l.length c ∧ (0 < l.length → ∃ bl off, A = some ⟨bl, off, none⟩ ∧ ∀ k (h : k < l.length), w.cell? ⟨bl, off + k, none⟩ = some (.int .i64 (l[k] : Int)))
theorem IRd.of_own {w : World} {v : Value} {l : List Nat} (h : w.ownsRow 0 3 1 v l.length (intN l)) : IRd w v l := by
  obtain ⟨a, c, rfl, _, _⟩ := own_shape h
  refine ⟨a, c, rfl, fun h0 => ?_⟩
  obtain ⟨g, cap, hv, _, hg⟩ := h.form h0
  obtain ⟨rfl, rfl⟩ : a = some ⟨g, 0, none⟩ ∧ c = cap := by simpa using hv
  refine ⟨g, 0, rfl, fun k hk => ?_⟩
  have hc := h.cells (g := g) rfl k (.int .i64 (l[k] : Int)) (by simp [intN, hk])
  simpa only [Addr.add_lit, Nat.zero_add] using hc

set_option maxHeartbeats 1000000 in
theorem sameInts_any (w : World) (va vb : Value) (l : List Nat) (ha : IRd w va l) (hb : IRd w vb l) (hl : l.length ≤ 64) :
    Calls Try.prog 34 #[va, vb] w fun e w' => e = .returned (.bool true) ∧ ∃ n, w' = w.drewN n := by
  obtain ⟨A, ca, rfl, hA⟩ := ha
  obtain ⟨B, cb, rfl, hB⟩ := hb
  have HA := Lib.hid hA; have HB := Lib.hid hB
  clear hA hB
  go_enter Try.func34, Try.ntmps34
  go_wp2_with fail
  go_loopw [5] (fun i wr => ∃ k : Nat, k ≤ l.length ∧ i = .int .i64 k ∧ ∃ n, wr = w.drewN n) (fun i _ => l.length - (intOf i).toNat)
  case atStart => exact ⟨0, Nat.zero_le _, rfl, 0, rfl⟩
  case round =>
    obtain ⟨k, hk, rfl, n, rfl⟩ := hrel
    by_cases hlt : k < l.length
    · obtain ⟨bl, off, rfl, hc⟩ := HA.out (by omega)
      obtain ⟨bl2, off2, rfl, hc2⟩ := HB.out (by omega)
      have d := hc k hlt
      have d2 := hc2 k hlt
      obtain ⟨x, hx⟩ : ∃ x : Int, x = (l[k] : Int) := ⟨_, rfl⟩
      rw [← hx] at d d2
      clear hc hc2 hx
      have hk0 : (0 : Int) ≤ k := by omega
      have hk1 : (k : Int) < l.length := by omega
      go_wp2_with fail
      go_quiet (fail)
      go_wp2_with fail
      go_roundw
      case rel => exact ⟨k + 1, by omega, by go_num, _, rfl⟩
      case measure => simp [intOf]; omega
    · go_wp2_with fail
      go_ret
      exact ⟨rfl, n, rfl⟩

/-- Between two rounds of the document's Of. -/
structure RO (w wr : World) (L : List Sym) (d : Bool) (k : Nat) (v : Value) : Prop where
  row : wr.ownsRow 0 3 1 v (ofP d (num L k)).length (intN (ofP d (num L k)))
  same : Same w wr
  fresh : Fresh w v
theorem RO.more {w wr w2 : World} {L : List Sym} {d : Bool} {k : Nat} {v v' : Value} {o : Obj} (h : RO w wr L d k v) (hx : (nthS L k).defd = d) (hown : w2.ownsRow 0 3 1 v' ((ofP d (num L k)).length + 1) (intN (ofP d (num L k)) ++ [.int .i64 (k : Int)]))
    (hg : (wr.alloc o).grownBy w2 v.ownBlock) (hat : v'.ownBlock = v.ownBlock ∨ v'.ownBlock = some (wr.alloc o).heap.size) : RO w w2 L d (k + 1) v' := by
  refine ⟨?_, (h.same.alloc o).grown hg (fun j hj => .inr (h.fresh j hj)), fun j hj => ?_⟩
  · rw [num_succ, ofP_snoc_yes hx, intN_snoc, List.length_append]; exact hown
  · rcases hat with e | e
    · exact h.fresh j (by rw [← e]; exact hj)
    · rw [e] at hj
      have : (wr.alloc o).heap.size = j := by simpa using hj
      have := h.same.size
      simp at *; omega
theorem RO.skip {w wr : World} {L : List Sym} {d : Bool} {k : Nat} {v : Value} (h : RO w wr L d k v) (hx : (nthS L k).defd ≠ d) : RO w wr L d (k + 1) v :=
  ⟨by rw [num_succ, ofP_snoc_no hx]; exact h.row, h.same, h.fresh⟩

set_option maxRecDepth 100000 in
set_option maxHeartbeats 2000000 in
theorem rof_any (w : World) (v : Value) (L : List Sym) (h : SymRd w v L) (hl : L.length ≤ 64) (d : Bool) :
    Calls Try.prog 33 #[v, .bool d] w fun e w' => ∃ u, e = .returned u ∧ w'.ownsRow 0 3 1 u (ofL L d).length (intN (ofL L d)) ∧ Same w w' ∧ Fresh w u := by
  obtain ⟨A, c, rfl, hA⟩ := h
  have HA := Lib.hid hA
  clear hA
  obtain ⟨i0, hi0, hz0, hz1, hz2⟩ := info_parts Try.info3
  have HI3 : Hid (Try.prog.info? 3 = some i0 ∧ i0.zero = some (.int .i64 0) ∧ i0.size = 1 ∧ i0.bytes = 8) := ⟨hi0, hz0, hz1, hz2⟩
  clear hi0 hz0 hz1 hz2
  go_enter Try.func33, Try.ntmps33
  go_wp2_with fail
  go_loopw [5, 6] (fun v i wr => ∃ k : Nat, k ≤ L.length ∧ i = .int .i64 k ∧ Hid (RO w wr L d k v)) (fun _ i _ => L.length - (intOf i).toNat)
  case atStart => exact ⟨0, Nat.zero_le _, rfl, World.ownsRow_nil _ _ _ _, Turned.refl _ _, fun k hk => by simp [Value.ownBlock] at hk⟩
  case round =>
    obtain ⟨k, hk, rfl, HV⟩ := hrel
    obtain ⟨ua, uc, rfl, _, _⟩ := own_shape HV.out.row
    by_cases hlt : k < L.length
    · obtain ⟨bl, off, rfl, hc⟩ := HA.out (by omega)
      obtain ⟨_, _, q2⟩ := hc k hlt
      have hbl := World.block_lt_of_cell? w _ q2
      have d2 := (HV.out.same.cell (p := ⟨bl, off + k * 3 + 2, none⟩) hbl (fun h => h)).trans q2
      have hn : Hid (nthS L k = L[k]) := by unfold Hid; simp [nthS, hlt]
      obtain ⟨x, hx⟩ : ∃ x, x = L[k] := ⟨_, rfl⟩
      rw [← hx] at d2 hn
      clear hc hx q2 hbl
      have hk0 : (0 : Int) ≤ k := by omega
      have hk1 : (k : Int) < L.length := by omega
      have hpl := ofP_le d (num L k)
      rw [num_length] at hpl
      by_cases hd : x.defd = d
      · subst hd
        go_wp2_with (first | (at_builtin; refine wpList_append_own_at _ rfl _ _ 61 rfl 0 3 i0 (.int .i64 0) 1 8 Try.underlying61 HI3.out.1 HI3.out.2.1 HI3.out.2.2.1 HI3.out.2.2.2 rfl (by decide) _ _ _ rfl (World.ownsRow.alloc HV.out.row _) ⟨wr.heap.size, 0, none⟩ 1 1 [.int .i64 k] rfl rfl (cell_one_new _ _ _) (by simp [Value.oneCell']) (by unfold maxLen; omega) (by omega) (by omega) ?_; intro v' w4 hown4 hgrow4 _ hat4))
        have HV4 := Lib.hid (HV.out.more (by rw [hn.out]) hown4 hgrow4 hat4)
        clear hown4 hgrow4 hat4
        go_roundw
        case rel => exact ⟨k + 1, by omega, by go_num, HV4⟩
        case measure => simp [intOf]; omega
      · have hd2 : (x.defd == d) = false := by simpa using hd
        have HV4 := Lib.hid (HV.out.skip (by rw [hn.out]; exact hd))
        go_wp2_with fail
        go_roundw
        case rel => exact ⟨k + 1, by omega, by go_num, HV4⟩
        case measure => simp [intOf]; omega
    · obtain rfl : k = L.length := by omega
      go_wp2_with fail
      go_ret
      exact ⟨_, rfl, HV.out.row, HV.out.same, HV.out.fresh⟩
end Go.Proofs.Ytpknnhdpnmkpcaa

/-
  The walk of spoil: the owner writes over a list that came out.
-/
import Derived.Test.YthfhjopofpffgaaRef4
namespace Go.Proofs.Ythfhjopofpffgaa
open Go.RowKit

set_option maxHeartbeats 2000000 in
theorem spoil_any (w : World) (v : Value) (n : Nat) (xs : List Value) (ho : w.ownsRow 0 3 1 v n xs) (hn : n ≤ 17592186044) :
    Calls Try.prog 37 #[v] w fun e w' => e = .returned (.tuple #[]) ∧ Turned (fun k => v.ownBlock = some k) w w' := by
  have HO := Lib.hid ho
  obtain ⟨a, c, rfl, h1, h2⟩ := own_shape ho
  clear ho
  obtain ⟨i0, hi0, hz0, hz1, hz2⟩ := info_parts Try.info3
  have HI : Hid (Try.prog.info? 3 = some i0 ∧ i0.zero = some (.int .i64 0) ∧ i0.size = 1 ∧ i0.bytes = 8) := ⟨hi0, hz0, hz1, hz2⟩
  clear hi0 hz0 hz1 hz2
  go_enter Try.func37, Try.ntmps37
  go_wp2_with fail
  go_loopw [2] (fun i wr => ∃ k : Nat, k ≤ n ∧ i = .int .i64 k ∧ Hid ((∃ xs, wr.ownsRow 0 3 1 (.slice a n c) n xs) ∧ Turned (fun k => (Value.slice a n c).ownBlock = some k) w wr)) (fun i _ => n - (intOf i).toNat)
  case atStart => exact ⟨0, Nat.zero_le _, rfl, ⟨xs, HO.out⟩, Turned.refl _ _⟩
  case round =>
    obtain ⟨k, hk, rfl, HV⟩ := hrel
    by_cases hlt : k < n
    · obtain ⟨⟨ys, hy⟩, ht⟩ := HV.out
      obtain ⟨g, cap, hv, _, hg⟩ := hy.form (by omega)
      obtain ⟨rfl, rfl⟩ : a = some ⟨g, 0, none⟩ ∧ c = cap := by simpa using hv
      have hyl : ys.length = n := by have := hy.1; omega
      have hcell := row_cell hy (j := k) (u := ys[k]) (by rw [List.getElem?_eq_getElem (by omega)])
      have hf : wr.frozen? ⟨g, k, none⟩ = false := hy.frozenAt k
      have HN : Hid (∀ u, (∃ xs, (wr.setCell ⟨g, k, none⟩ u).ownsRow 0 3 1 (.slice (some ⟨g, 0, none⟩) n c) n xs) ∧ Turned (fun k => (Value.slice (some ⟨g, 0, none⟩) n c).ownBlock = some k) w (wr.setCell ⟨g, k, none⟩ u)) :=
        fun u => ⟨⟨_, by simpa using (hy.stored k u).1⟩, ht.setCell (p := ⟨g, k, none⟩) (.inl rfl) u⟩
      obtain ⟨y, hye⟩ : ∃ y, wr.cell? ⟨g, k, none⟩ = some y := ⟨_, hcell⟩
      clear hy ht hv HV hcell hyl
      have hk0 : (0 : Int) ≤ k := by omega
      have hk1 : (k : Int) < n := by omega
      go_wp2_with fail
      go_roundw
      case rel => exact ⟨k + 1, by omega, by go_num, HN.out _⟩
      case measure => simp [intOf]; omega
    · obtain ⟨⟨ys, hy⟩, ht⟩ := HV.out
      have HY := Lib.hid hy; have HT := Lib.hid ht
      clear hy ht HV
      go_wp2_with (at_builtin; go_loud (refine wpList_append_src _ rfl _ _ 23 rfl 3 i0 _ 1 8 Try.underlying23 HI.out.1 HI.out.2.1 HI.out.2.2.1 HI.out.2.2.2 rfl (by omega) (.slice a n c) n ys rfl (by exact HY.out.alloc _) (some ⟨wr.heap.size, 0, none⟩) 2 2 (intVals [-6, -6]) rfl (by simp [intVals]) (by exact fun _ => src_new wr (intVals [-6, -6]) 3 (by omega)) (ints_one _) (by unfold maxLen; omega) (by omega) ?_))
      intro a1 c1 w1 ho1 hg1 hat1
      obtain ⟨g, cap, hv, _, hg⟩ := ho1.form (by omega)
      obtain ⟨rfl, rfl⟩ : a1 = some ⟨g, 0, none⟩ ∧ c1 = cap := by simpa using hv
      have hyl : (ys ++ intVals [-6, -6]).length = n + 2 := by have := ho1.1; omega
      have hcell := row_cell ho1 (j := n) (u := (ys ++ intVals [-6, -6])[n]) (by rw [List.getElem?_eq_getElem (by omega)])
      have hf : w1.frozen? ⟨g, n, none⟩ = false := ho1.frozenAt n
      have HT1 : Hid (∀ u, Turned (fun k => (Value.slice a n c).ownBlock = some k) w (w1.setCell ⟨g, n, none⟩ u)) := by
        intro u
        have h1 : Turned (fun k => (Value.slice a n c).ownBlock = some k) w w1 := (HT.out.alloc _).grown hg1 (fun k hk => .inl hk)
        refine h1.setCell (p := ⟨g, n, none⟩) ?_ u
        rcases hat1 with h | h
        · exact .inl (h.symm.trans rfl)
        · right
          have : g = (wr.alloc (.cells #[.int .i64 (-6), .int .i64 (-6)] 3)).heap.size := by simpa [Value.ownBlock] using h
          have := HT.out.size
          simp at *
          omega
      obtain ⟨y, hye⟩ : ∃ y, w1.cell? ⟨g, n, none⟩ = some y := ⟨_, hcell⟩
      clear ho1 hg1 hat1 hv hyl hcell hg
      have hn0 : (0 : Int) ≤ n := by omega
      have hn1 : (n : Int) < (n : Int) + 2 := by omega
      go_wp2_with fail
      go_end0
      exact ⟨rfl, HT1.out _⟩
end Go.Proofs.Ythfhjopofpffgaa

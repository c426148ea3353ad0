/-
  The library's functions on strings that the scanner calls: HasPrefix, IndexByte, IndexRune and ContainsRune in a text of ASCII at whatever rune.
-/
import Derived.Test.YtoncebnbdjpclaaMem
import Derived.Lib.Strings
import Derived.Lib.Slices
import Derived.Lib.Walk
import Derived.Lib.Bytealg
import Derived.Lib.OthersKept
import Derived.Laws.Runes
import Derived.WalkMore
import Derived.WalkSpells
import Derived.Laws.Strings3
import Derived.BigQuiet
import Derived.Deep.RegionLaw
import Derived.Deep.RegionHeld3
namespace Go.Proofs.Ytoncebnbdjpclaa
open Go.RowKit

set_option maxHeartbeats 1000000 in
theorem hasPrefix_any (s p : ByteArray) (w : World) :
    Calls Try.prog 22 #[.string s, .string p] w fun e w' => e = .returned (.bool (Lib.hasPrefix s.data.toList p.data.toList)) ∧ w' = w := by
  rw [← Lib.hasPrefix_of_take, ← Lib.size_eq, ← Lib.size_eq]
  go_enter Try.func22, Try.ntmps22
  go_wp2
  · rename_i h
    go_ret
    refine ⟨?_, rfl⟩
    show Ending.returned (Value.bool ((s.extract 0 p.size).toList == p.toList)) = _
    rw [Lib.extract_toList, Lib.toList_data]
    simp [h]
  · rename_i h
    go_ret
    refine ⟨?_, rfl⟩
    show Ending.returned (Value.bool false) = _
    simp [h]

set_option maxHeartbeats 1000000 in
set_option maxRecDepth 100000 in
theorem slIndexByte_any (s : ByteArray) (c : Int) (w : World) :
    Calls Try.prog 35 #[.string s, .int .u8 c] w fun e w' => e = .returned (.int .i64 (Lib.indexByte s.data.toList c.toNat.toUInt8)) ∧ w' = w := by
  go_enter Try.func35, Try.ntmps35
  go_wp2
  rw [run_callFunc_extern Try.func36 (by kernel_rfl) (by kernel_rfl) (by kernel_rfl) (e := Extern.BytealgIndexByte.indexByte) (by kernel_rfl), Lib.run_indexByteString]
  simp only [Result.andThen]
  rw [Oper.upon_value]
  go_wp2
  go_ret
  exact ⟨rfl, rfl⟩

set_option maxHeartbeats 1000000 in
theorem indexByte_any (s : ByteArray) (c : Int) (w : World) :
    Calls Try.prog 30 #[.string s, .int .u8 c] w fun e w' => e = .returned (.int .i64 (Lib.indexByte s.data.toList c.toNat.toUInt8)) ∧ w' = w := by
  go_enter Try.func30, Try.ntmps30
  go_wp2_with (go_at_call 35; refine (slIndexByte_any _ _ _).mono ?_; rintro e w' ⟨rfl, rfl⟩)
  go_ret
  exact ⟨rfl, rfl⟩

theorem validRune_any (r : Int) (w : World) :
    Calls Try.prog 31 #[.int .i32 r] w fun e w' => e = .returned (.bool (validRune r)) ∧ w = w' := by
  go_enter Try.func31, Try.ntmps31
  go_wp2
  all_goals (go_ret; refine ⟨?_, rfl⟩; unfold validRune; refine ret_bool ?_; first | exact (decide_eq_true (by omega)).symm | exact (decide_eq_false (by omega)).symm | exact decide_eq_decide.2 (by omega))

theorem indexByte_none (l : List UInt8) (c : UInt8) (h : ∀ b ∈ l, b ≠ c) : Lib.indexByte l c = -1 := by
  induction l with
  | nil => rfl
  | cons b r ih =>
    have hb : (b == c) = false := by simpa using h b (by simp)
    simp [Lib.indexByte, hb, ih (fun x hx => h x (by simp [hx]))]

set_option maxHeartbeats 2000000 in
set_option maxRecDepth 1000000 in
theorem indexRune_ascii (s : ByteArray) (r : Int) (w : World) (h0 : 0 ≤ r) (h1 : r < 128) :
    Calls Try.prog 21 #[.string s, .int .i32 r] w fun e w' => e = .returned (.int .i64 (Lib.indexByte s.data.toList r.toNat.toUInt8)) ∧ w' = w := by
  go_enter Try.func21, Try.ntmps21
  go_wp2_with (go_at_call 30; refine (indexByte_any _ _ _).mono ?_; rintro e w' ⟨rfl, hw⟩; rw [hw])
  go_ret
  exact ⟨rfl, rfl⟩

theorem indexByte_high (s : ByteArray) (a b : Nat) (hs : ∀ b ∈ s.data.toList, b.toNat < 128) (c : UInt8) (hc : 128 ≤ c.toNat) (w : World) :
    Calls Try.prog 30 #[.string (s.extract a b), .int .u8 c.toNat] w fun e w' => e = .returned (.int .i64 (-1)) ∧ w = w' := by
  refine (indexByte_any _ _ _).mono ?_
  rintro e w' ⟨rfl, rfl⟩
  rw [indexByte_none]
  · exact ⟨rfl, rfl⟩
  · intro x hx e
    have h1 := hs x (mem_extract hx)
    subst e
    simp at h1
    omega

set_option maxHeartbeats 2000000 in
set_option maxRecDepth 1000000 in
theorem indexRune_high (s : ByteArray) (r : Int) (w : World) (h1 : 128 ≤ r) (hr : r ≤ 2147483647) (hs : ∀ b ∈ s.data.toList, b.toNat < 128) (h4 : 4 ≤ s.size) (h8 : s.size ≤ 8) :
    Calls Try.prog 21 #[.string s, .int .i32 r] w fun e w' => e = .returned (.int .i64 (-1)) ∧ Same w w' := by
  by_cases he : r = 65533
  · subst he
    go_enter Try.func21, Try.ntmps21
    go_wp2_with fail
    go_loopw [5] (fun _ wr => ∃ pos : Nat, Hid (wr.heap[w.heap.size]? = some (.stringIter s pos) ∧ Same w wr)) (fun _ wr => s.size - wr.iterPos w.heap.size)
    case atStart => exact ⟨0, World.iter_heap w s 0, (Turned.refl _ _).alloc _⟩
    case round =>
      obtain ⟨pos, HP⟩ := hrel
      have hk := HP.out.1
      by_cases hp : pos < s.size
      · have ha : (s[pos]'hp).toNat < 128 := hs _ (by exact Array.getElem_mem_toList (xs := s.data) hp)
        have hnext : ∀ ty, (Instr.next (.pointer (some ⟨w.heap.size, 0, none⟩)) true ty).run Try.prog wr = _ := fun ty => Lib.run_next_ascii_at wr w.heap.size s pos ty hk hp ha
        have HK := Lib.hid (Lib.iterAt_heap wr w.heap.size s pos (pos + 1) hk)
        have HS : Hid (Same w (wr.iterAt w.heap.size s (pos + 1))) := ⟨HP.out.2.os, HP.out.2.tape, HP.out.2.output, by rw [Lib.iterAt_size]; exact HP.out.2.size, fun i hi _ => (Lib.iterAt_other wr w.heap.size i s (pos + 1) (by omega)).trans (HP.out.2.block i hi (fun h => h))⟩
        have hmu : wr.iterPos w.heap.size = pos := by simp [World.iterPos, hk]
        have hmu2 : Hid ((wr.iterAt w.heap.size s (pos + 1)).iterPos w.heap.size = pos + 1) := by have := HK.out; unfold Hid; simp [World.iterPos, this]
        generalize wr.iterAt w.heap.size s (pos + 1) = W1 at hnext HK HS hmu2
        obtain ⟨x, hx⟩ : ∃ x : Int, x = ((s[pos]'hp).toNat : Int) := ⟨_, rfl⟩
        rw [← hx] at hnext
        have hx0 : 0 ≤ x := by omega
        have hx1 : x < 128 := by omega
        clear hx hk HP
        go_wp2_with fail
        exact ⟨⟨pos + 1, HK.out, HS.out⟩, by rw [hmu, hmu2.out]; omega⟩
      · have hnext : ∀ ty, (Instr.next (.pointer (some ⟨w.heap.size, 0, none⟩)) true ty).run Try.prog wr = _ := fun ty => Lib.run_next_end_at wr w.heap.size s pos ty hk hp
        clear hk
        go_wp2_with fail
        go_ret
        exact ⟨rfl, HP.out.2⟩
  · have HV := validRune_any r
    by_cases hv : validRune r = true
    · go_enter Try.func21, Try.ntmps21
      go_wp2_with fail
      refine (validRune_any r _).mono ?_
      rintro e w1 ⟨rfl, rfl⟩
      rw [hv]
      obtain ⟨E, hE⟩ : ∃ E, Utf8.encode r = E := ⟨_, rfl⟩
      have hf := encode_facts r (by rw [validRune_eq]; exact hv) h1
      rw [hE] at hf
      obtain ⟨f1, f2, f3⟩ := hf
      have f3' := f3 (by omega)
      obtain ⟨m, hm⟩ : ∃ m, E.size = m + 1 := ⟨E.size - 1, by omega⟩
      have hmE : m < E.size := by omega
      have hms : m < s.size := by omega
      have hlast : 128 ≤ (E[m]'hmE).toNat := by
        have : E.size - 1 = m := by omega
        simp only [this] at f3'
        exact f3'
      have ha : (s[m]'hms).toNat < 128 := hs _ (by exact Array.getElem_mem_toList (xs := s.data) hms)
      have hmI : (E.size : Int) = (m : Int) + 1 := by omega
      have hmI2 : (m : Int) < s.size := by omega
      have hm0 : (0 : Int) ≤ m := by omega
      have hm4 : (m : Int) ≤ 3 := by omega
      clear f1 f2 f3 f3' hv
      go_wp2_with fail
      go_step3
      go_wp2_with fail
      go_loopw [9, 10] (fun i f wr => i = .int .i64 m ∧ f = .int .i64 0 ∧ wr = w) (fun _ _ _ => 0)
      case atStart => exact ⟨rfl, rfl, rfl⟩
      case round =>
        obtain ⟨rfl, rfl, hw⟩ := hrel
        subst hw
        have hmE2 : (m : Int) < E.size := by omega
        go_wp2_with fail
        clear hmI hm
        have HS := Lib.hid hs
        have hsl : ∀ W, (Instr.slice 9 (.string s) (some (.int .i64 ((m : Int) + 1))) none none).run Try.prog W = .ok (.string (s.extract (m + 1) s.size)) W := by
          intro W
          rw [run_slice_string_from_if W 9 s .i64 _ Try.underlying9, if_pos (by omega)]
          simp
        have hwr : IntKind.i64.wrap ((m : Int) + 1) = (m : Int) + 1 := wrap_small _ (by omega) (by omega)
        have hms1 : (m : Int) + 1 ≤ s.size := by omega
        have hms2 : (0 : Int) ≤ (m : Int) + 1 := by omega
        have hms3 : m + 1 ≤ s.size := by omega
        have HL := Lib.hid hlast
        go_step3
        go_wp2_with fail
        go_quiet (fail)
        go_wp2_with fail
        have hlt : (s[m]'hms).toNat < 128 := ha
        go_region_law ((go_simp; go_at_call 30; refine (indexByte_high s _ _ (by exact HS.out) _ (by exact HL.out) _).mono ?_; rintro e w7 ⟨rfl, hw7⟩; subst hw7))
        all_goals
          go_wp2_with fail
          simp (zetaDelta := true) only [Exit.noGoto, Exit.inBlock, Exit.then]
          go_ret
          exact ⟨rfl, (Turned.refl _ _).drewN _⟩
    · go_enter Try.func21, Try.ntmps21
      go_wp2_with fail
      refine (validRune_any r _).mono ?_
      rintro e w1 ⟨rfl, rfl⟩
      rw [Bool.not_eq_true] at hv
      rw [hv]
      go_wp2_with fail
      go_ret
      exact ⟨rfl, Turned.refl _ _⟩
end Go.Proofs.Ytoncebnbdjpclaa

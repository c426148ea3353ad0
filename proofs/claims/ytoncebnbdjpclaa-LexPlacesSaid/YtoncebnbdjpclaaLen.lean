/-
  How long a token is.
-/
import Derived.Test.YtoncebnbdjpclaaSpec
namespace Go.Proofs.Ytoncebnbdjpclaa
open Go.RowKit

theorem take_while_at {α : Type} (f : α → Bool) : ∀ (r : List α) (j : Nat) (h : j < r.length), j ≤ (r.takeWhile f).length → (f r[j] = true → j + 1 ≤ (r.takeWhile f).length) ∧ (f r[j] = false → (r.takeWhile f).length = j)
  | [], j, h, _ => by simp at h
  | x :: r, 0, h, _ => by
    constructor
    · intro hf
      have hf' : f x = true := hf
      simp [hf']
    · intro hf
      have hf' : f x = false := hf
      simp [hf']
  | x :: r, j + 1, h, hj => by
    by_cases hx : f x = true
    · have ih := take_while_at f r j (by simpa using h) (by simp [hx] at hj; omega)
      simp only [List.takeWhile_cons, hx, if_true, List.length_cons, List.getElem_cons_succ]
      exact ⟨fun hf => by have := ih.1 hf; omega, fun hf => by have := ih.2 hf; omega⟩
    · simp [hx] at hj

theorem byte_at {s : ByteArray} {l : List UInt8} (hs : s.data.toList = l) (i : Nat) (h : i < s.size) : ∃ h', s[i]'h = l[i]'h' := by
  subst hs
  exact ⟨h, rfl⟩
/-- A rune that is no letter of a byte's own stands over bytes of which none is one. -/
theorem decode_wide (s : ByteArray) (i : Nat) (h : i < s.size) : 1 ≤ (Utf8.decode s i).2 ∧ i + (Utf8.decode s i).2 ≤ s.size ∧ ∀ j, i < j → j < i + (Utf8.decode s i).2 → ∃ hj : j < s.size, 128 ≤ (s[j]'hj).toNat := by
  have hget : ∀ k, i + k < s.size → ∀ hk : i + k < s.size, s.get! (i + k) = s[i + k]'hk := by
    intro k _ hk
    simp [ByteArray.get!, getElem!_pos, hk]; rfl
  have key : ∀ n, (1 ≤ n ∧ ∀ k, 1 ≤ k → k < n → (i + k < s.size ∧ (s.get! (i + k)).toNat / 64 = 2)) → (1 ≤ n ∧ i + n ≤ s.size ∧ ∀ j, i < j → j < i + n → ∃ hj : j < s.size, 128 ≤ (s[j]'hj).toNat) := by
    intro n ⟨h1, h2⟩
    refine ⟨h1, ?_, fun j hij hjn => ?_⟩
    · by_cases hn : n = 1
      · omega
      · have := (h2 (n - 1) (by omega) (by omega)).1; omega
    · obtain ⟨k, rfl⟩ : ∃ k, j = i + k := ⟨j - i, by omega⟩
      obtain ⟨a, b⟩ := h2 k (by omega) (by omega)
      rw [hget k a a] at b
      exact ⟨a, by omega⟩
  apply key
  simp only [Utf8.decode]
  split
  · exact ⟨Nat.le_refl _, fun k h1 h2 => absurd h2 (by omega)⟩
  · split
    · rename_i hc
      simp only [Bool.and_eq_true, decide_eq_true_eq, beq_iff_eq] at hc
      split
      · refine ⟨by simp, fun k h1 h2 => ?_⟩
        obtain rfl : k = 1 := by simp at h2; omega
        exact hc.2
      · exact ⟨Nat.le_refl _, fun k h1 h2 => absurd h2 (by omega)⟩
    · split
      · rename_i hc
        simp only [Bool.and_eq_true, decide_eq_true_eq, beq_iff_eq] at hc
        split
        · refine ⟨by simp, fun k h1 h2 => ?_⟩
          rcases (by simp at h2; omega : k = 1 ∨ k = 2) with rfl | rfl
          · exact hc.1.2
          · exact hc.2
        · exact ⟨Nat.le_refl _, fun k h1 h2 => absurd h2 (by omega)⟩
      · split
        · rename_i hc
          simp only [Bool.and_eq_true, decide_eq_true_eq, beq_iff_eq] at hc
          split
          · refine ⟨by simp, fun k h1 h2 => ?_⟩
            rcases (by simp at h2; omega : k = 1 ∨ k = 2 ∨ k = 3) with rfl | rfl | rfl
            · exact hc.1.1.2
            · exact hc.1.2
            · exact hc.2
          · exact ⟨Nat.le_refl _, fun k h1 h2 => absurd h2 (by omega)⟩
        · exact ⟨Nat.le_refl _, fun k h1 h2 => absurd h2 (by omega)⟩

theorem goes_high (kind n : Nat) (h : 128 ≤ n) : goesN kind n = false := by
  have h1 : smallN n = false := by simp [smallN]; omega
  have h2 : greatN n = false := by simp [greatN]; omega
  have h3 : digitN n = false := by simp [digitN]; omega
  simp [goesN, h1, h2, h3]

/-- What a rune at a place is, told of its first byte. -/
theorem rune_at (s : ByteArray) (i : Nat) (h : i < s.size) : ((s[i]'h).toNat < 128 ∧ (Utf8.decode s i).1 = (s[i]'h).toNat ∧ (Utf8.decode s i).2 = 1) ∨ (128 ≤ (s[i]'h).toNat ∧ 128 ≤ (Utf8.decode s i).1) := by
  by_cases ha : (s[i]'h).toNat < 128
  · rw [decode_ascii s i h ha]; exact .inl ⟨ha, rfl, rfl⟩
  · exact .inr ⟨by omega, (decode_high s i h (by omega)).1⟩

theorem iter_turned {w wr : World} {N : Nat} (s : ByteArray) (p : Nat) (h : Same w wr) (hN : w.heap.size ≤ N) : Same w (wr.iterAt N s p) :=
  ⟨h.os, h.tape, h.output, by rw [Lib.iterAt_size]; exact h.size, fun i hi _ => (Lib.iterAt_other wr N i s p (by omega)).trans (h.block i hi (fun h => h))⟩

set_option maxHeartbeats 2000000 in
theorem length_any (kind : Nat) (hk : kind ≤ 13) (s : ByteArray) (b : UInt8) (r : List UInt8) (hs : s.data.toList = b :: r) (hb : b.toNat < 128) (w : World) :
    Calls Try.prog 16 #[.int .i64 kind, .string s] w fun e w' => e = .returned (.int .i64 (lenAt kind (b :: r))) ∧ Same w w' := by
  have HS := Lib.hid hs
  have hsz : Hid (s.size = r.length + 1) := by unfold Hid; rw [Lib.size_eq, hs]; rfl
  by_cases h8 : kind = 8
  · subst h8
    clear hs
    go_enter Try.func16, Try.ntmps16
    go_wp2
    go_ret
    exact ⟨rfl, Turned.refl _ _⟩
  · have h8B : ((kind : Int) == 8) = false := by rw [beq_eq_false_iff_ne]; omega
    obtain ⟨T, hT⟩ : ∃ T, T = (r.takeWhile fun b => goesN kind b.toNat).length := ⟨_, rfl⟩
    have hL : lenAt kind (b :: r) = T + 1 := by simp only [lenAt, if_neg h8, List.tail_cons]; omega
    rw [hL]
    have HT := Lib.hid hT
    have hTl : T ≤ r.length := by rw [hT]; exact (List.takeWhile_sublist _).length_le
    clear hL hT hs
    go_enter Try.func16, Try.ntmps16
    go_wp2_with fail
    go_loopw [5] (fun _ wr => ∃ pos : Nat, pos ≤ T + 1 ∧ Hid (wr.heap[w.heap.size]? = some (.stringIter s pos) ∧ Same w wr)) (fun _ wr => s.size - wr.iterPos w.heap.size)
    case atStart => exact ⟨0, by omega, World.iter_heap w s 0, (Turned.refl _ _).alloc _⟩
    case round =>
      obtain ⟨pos, hpT, HP⟩ := hrel
      have hk := HP.out.1
      by_cases hp : pos < s.size
      · have hnext : ∀ ty, (Instr.next (.pointer (some ⟨w.heap.size, 0, none⟩)) true ty).run Try.prog wr = _ := fun ty => Lib.run_next_any_at wr w.heap.size s pos ty hk hp
        have HK := Lib.hid (Lib.iterAt_heap wr w.heap.size s pos (pos + (Utf8.decode s pos).2) hk)
        have HS2 : Hid (Same w (wr.iterAt w.heap.size s (pos + (Utf8.decode s pos).2))) := iter_turned s _ HP.out.2 (Nat.le_refl _)
        have hmu : wr.iterPos w.heap.size = pos := by simp [World.iterPos, hk]
        have hmu2 : Hid ((wr.iterAt w.heap.size s (pos + (Utf8.decode s pos).2)).iterPos w.heap.size = pos + (Utf8.decode s pos).2) := by have := HK.out; unfold Hid; simp [World.iterPos, this]
        have hw1 : Hid (1 ≤ (Utf8.decode s pos).2) := (decode_wide s pos hp).1
        have HR := Lib.hid (rune_at s pos hp)
        have HLe := Lib.hid (decode_le s pos)
        obtain ⟨hpl, hbyte⟩ := byte_at HS.out pos hp
        rw [hbyte] at HR
        generalize wr.iterAt w.heap.size s (pos + (Utf8.decode s pos).2) = W1 at hnext HK HS2 hmu2
        generalize (Utf8.decode s pos).1 = c at hnext HR HLe
        generalize (Utf8.decode s pos).2 = wd at HR HK hw1 hmu2
        clear hk HP hbyte
        have hc0 : (0 : Int) ≤ (c : Int) := by omega
        by_cases hp0 : pos = 0
        · subst hp0
          have HR2 : Hid (wd = 1) := by
            rcases HR.out with h | h
            · exact h.2.2
            · exfalso; have := h.1; simp at this; omega
          go_wp2_with fail
          exact ⟨⟨0 + wd, by have := HR2.out; omega, HK.out, HS2.out⟩, by have := hw1.out; rw [hmu, hmu2.out]; omega⟩
        · obtain ⟨j, rfl⟩ : ∃ j, pos = j + 1 := ⟨pos - 1, by omega⟩
          have hj : j < r.length := by have := hsz.out; omega
          have hjI : (0 : Int) < (j : Int) + 1 := by omega
          have htw := take_while_at (fun b : UInt8 => goesN kind b.toNat) r j hj (by have := HT.out; omega)
          rw [← HT.out] at htw
          have hgo : goesN kind c = goesN kind r[j].toNat := by
            rcases HR.out with h | h
            · rw [h.2.1]; rfl
            · rw [goes_high _ _ h.2, goes_high _ _ (by simpa using h.1)]
          obtain ⟨q, hq⟩ : ∃ q, q = goesN kind c := ⟨_, rfl⟩
          have htw2 : (q = true → j + 1 ≤ T) ∧ (q = false → T = j) := by rw [hq, hgo]; exact htw
          have HQ := Lib.hid hq
          have HTW := Lib.hid htw2
          clear htw htw2 hgo hq
          cases q
          · have hTj := HTW.out.2 rfl
            subst hTj
            go_wp2_with fail
            refine (goes_any kind hk _ hc0 _).mono ?_
            rintro e w3 ⟨rfl, rfl⟩
            rw [Int.toNat_natCast, ← HQ.out]
            go_wp2_with fail
            go_ret
            exact ⟨rfl, HS2.out⟩
          · have hTj := HTW.out.1 rfl
            go_wp2_with fail
            refine (goes_any kind hk _ hc0 _).mono ?_
            rintro e w3 ⟨rfl, rfl⟩
            rw [Int.toNat_natCast, ← HQ.out]
            go_wp2_with fail
            have hwd : wd = 1 := by
              rcases HR.out with h | h
              · exact h.2.2
              · have h1 := HQ.out
                rw [goes_high _ _ h.2] at h1
                cases h1
            exact ⟨⟨j + 1 + wd, by omega, HK.out, HS2.out⟩, by rw [hmu, hmu2.out]; omega⟩
      · have hnext : ∀ ty, (Instr.next (.pointer (some ⟨w.heap.size, 0, none⟩)) true ty).run Try.prog wr = _ := fun ty => Lib.run_next_end_at wr w.heap.size s pos ty hk hp
        clear hk
        have he : s.size = T + 1 := by have := hsz.out; omega
        have heI : (s.size : Int) = (T : Int) + 1 := by omega
        go_wp2_with fail
        go_ret
        exact ⟨rfl, HP.out.2⟩
end Go.Proofs.Ytoncebnbdjpclaa

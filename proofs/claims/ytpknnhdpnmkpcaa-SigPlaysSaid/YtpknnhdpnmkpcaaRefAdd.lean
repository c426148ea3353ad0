/-
  The walk of the reference's Add.
-/
import Derived.Test.YtpknnhdpnmkpcaaRefSig
namespace Go.Proofs.Ytpknnhdpnmkpcaa
open Go.RowKit

def rfoot (r : Nat) (u : Value) : Nat → Prop := fun k => k = r ∨ u.ownBlock = some k
def addL (L : List Sym) (x : Sym) : List Sym := if addErr L x = 0 then L ++ [x] else L
theorem findI_neg {L : List Sym} {s : ByteArray} : findI L s ≥ 0 ↔ (findL L s).isSome = true := by
  unfold findI
  cases findL L s with
  | none => simp
  | some n => simp

theorem radd_after {w w1 w2 : World} {r g cap c : Nat} {a : Option Addr} {L : List Sym} {x : Sym} {o : Obj} (h : RSig w1 r (.slice a L.length c) L) (hw : Same w w1)
    (hown : w2.ownsRow 0 31 3 (.slice (some ⟨g, 0, none⟩) (L.length + 1) cap) (L.length + 1) (symCells L ++ x.cells)) (hgrow : ((w1.alloc o).drew).grownBy w2 (Value.slice a L.length c).ownBlock) (hat : (Value.slice a L.length c).ownBlock = some g ∨ g = w1.heap.size + 1) :
    RSig (w2.setCell ⟨r, 0, none⟩ (.slice (some ⟨g, 0, none⟩) (L.length + 1) cap)) r (.slice (some ⟨g, 0, none⟩) (L.length + 1) cap) (L ++ [x]) ∧ Turned (rfoot r (.slice a L.length c)) w (w2.setCell ⟨r, 0, none⟩ (.slice (some ⟨g, 0, none⟩) (L.length + 1) cap)) ∧
      ((Value.slice (some ⟨g, 0, none⟩) (L.length + 1) cap).ownBlock = (Value.slice a L.length c).ownBlock ∨ ∃ k, (Value.slice (some ⟨g, 0, none⟩) (L.length + 1) cap).ownBlock = some k ∧ w.heap.size ≤ k) := by
  have hne := own_blk_ne h.own h.blk (by decide)
  have hB2 : Blk w2 r 42 #[.slice a L.length c] := ((h.blk.alloc o).drew).grown hgrow hne.symm
  have hgb : g ≠ r := by
    intro e; subst e
    exact own_blk_ne hown hB2 (by decide) rfl
  have hT2 : Turned (rfoot r (.slice a L.length c)) w w2 := (((hw.mono (fun _ h => h.elim)).alloc o).drew).grown hgrow (fun k hk => .inl (.inr hk))
  refine ⟨⟨(hB2.set_ 0 _).trans rfl, ?_⟩, hT2.setCell (.inl (.inl rfl)) _, ?_⟩
  · rw [symCells_snoc, List.length_append]
    exact World.ownsRow.turned hown (S := fun k => k = r) (Turned.setCell (S := fun k => k = r) (Turned.refl _ w2) (p := ⟨r, 0, none⟩) (.inl rfl) _) (fun k hk e => hgb (by simp [Value.ownBlock] at hk; omega))
  · rcases hat with h | h
    · exact .inl h.symm
    · exact .inr ⟨g, rfl, by have := hw.size; omega⟩

set_option maxHeartbeats 2000000 in
theorem radd_any (w : World) (r : Nat) (u : Value) (L : List Sym) (h : RSig w r u L) (x : Sym) (hs : x.name.size ≤ maxLen) (hfew : L.length ≤ 64) :
    Calls Try.prog 27 #[.pointer (some ⟨r, 0, none⟩), x.val] w fun e w' => ∃ u', e = .returned (.tuple #[.int .i64 (if addErr L x = 0 then L.length else 0), .int .i64 (addErr L x)]) ∧ RSig w' r u' (addL L x) ∧ Turned (rfoot r u) w w' ∧
      (u'.ownBlock = u.ownBlock ∨ ∃ k, u'.ownBlock = some k ∧ w.heap.size ≤ k) := by
  obtain ⟨a, c, rfl, h1, h2⟩ := own_shape h.own
  have c0 := h.blk.cell 0
  simp at c0
  have hlt := h.blk.lt
  obtain ⟨s, ar, df⟩ := x
  have H := Lib.hid h
  have HFd : Hid (∀ W, Same w W → Calls Try.prog 28 #[.slice a L.length c, .string s] W fun e w' => e = .returned (.int .i64 (findI L s)) ∧ w' = W) := fun W hW => rfind_any W _ L (SymRd.of_own (World.ownsRow.turned H.out.own hW (fun _ _ h => h))) s (by omega)
  clear h
  simp only at hs
  show Calls Try.prog 27 #[.pointer (some ⟨r, 0, none⟩), .agg #[.string s, .int .i64 ar, .bool df]] w _
  have bad : ∀ k : Int, k ≠ 0 → addErr L ⟨s, ar, df⟩ = k → Hid ((if addErr L ⟨s, ar, df⟩ = 0 then (L.length : Int) else 0) = 0 ∧ addL L ⟨s, ar, df⟩ = L ∧ addErr L ⟨s, ar, df⟩ = k) := fun k hk he => ⟨by rw [if_neg (by omega)], by unfold addL; rw [if_neg (by omega)], he⟩
  cases hn : isNameB s
  · have HA := bad 10 (by decide) (by unfold addErr; rw [if_pos hn])
    rw [HA.out.1, HA.out.2.1, HA.out.2.2]
    go_enter Try.func27, Try.ntmps27
    go_wp2_with (first | (go_at_call 15; refine (risName_any s _ hs).mono ?_; rintro e w' ⟨rfl, rfl⟩; rw [hn]))
    go_ret2
    exact ⟨_, rfl, H.out.turned ((Turned.refl (fun _ => False) _).alloc _) (fun h => h) (fun _ _ h => h), (Turned.refl _ _).alloc _, .inl rfl⟩
  · by_cases har : ar < 0 ∨ 6 < ar
    · have HA := bad 11 (by decide) (by unfold addErr; rw [if_neg (by simp [hn]), if_pos har])
      rw [HA.out.1, HA.out.2.1, HA.out.2.2]
      by_cases h0 : ar < 0
      · clear har
        go_enter Try.func27, Try.ntmps27
        go_wp2_with (first | (go_at_call 15; refine (risName_any s _ hs).mono ?_; rintro e w' ⟨rfl, rfl⟩; rw [hn]))
        go_ret2
        exact ⟨_, rfl, H.out.turned ((Turned.refl (fun _ => False) _).alloc _) (fun h => h) (fun _ _ h => h), (Turned.refl _ _).alloc _, .inl rfl⟩
      · have h6 : ar > 6 := by omega
        clear har
        go_enter Try.func27, Try.ntmps27
        go_wp2_with (first | (go_at_call 15; refine (risName_any s _ hs).mono ?_; rintro e w' ⟨rfl, rfl⟩; rw [hn]))
        go_ret2
        exact ⟨_, rfl, H.out.turned ((Turned.refl (fun _ => False) _).alloc _) (fun h => h) (fun _ _ h => h), (Turned.refl _ _).alloc _, .inl rfl⟩
    · have ha1 : ¬ ar < 0 := by omega
      have ha2 : ¬ ar > 6 := by omega
      have HAr := Lib.hid har
      clear har
      by_cases hf : findI L s ≥ 0
      · have hf2 := findI_neg.1 hf
        have HA := bad 12 (by decide) (by unfold addErr; rw [if_neg (by simp [hn]), if_neg HAr.out, if_pos hf2])
        rw [HA.out.1, HA.out.2.1, HA.out.2.2]
        have hd : decide (findI L s ≥ 0) = true := decide_eq_true hf
        have hd2 : decide (0 ≤ findI L s) = true := decide_eq_true hf
        clear hf2
        go_enter Try.func27, Try.ntmps27
        go_wp2_with (first | (go_at_call 15; refine (risName_any s _ hs).mono ?_; rintro e w' ⟨rfl, rfl⟩; rw [hn]))
        go_quiet ((go_at_call 28; exact Calls.quiet_of_same (HFd.out _ (((Turned.refl _ _).alloc _).drewN _))))
        go_wp2_with fail
        go_ret2
        exact ⟨_, rfl, H.out.turned (((Turned.refl (fun _ => False) _).alloc _).drewN _) (fun h => h) (fun _ _ h => h), ((Turned.refl _ _).alloc _).drewN _, .inl rfl⟩
      · have hd : decide (findI L s ≥ 0) = false := decide_eq_false hf
        have hd2 : decide (0 ≤ findI L s) = false := decide_eq_false hf
        have hf2 : (findL L s).isSome = false := by
          cases hh : (findL L s).isSome with
          | true => exact absurd (findI_neg.2 hh) hf
          | false => rfl
        by_cases hl : L.length = 64
        · have HA := bad 13 (by decide) (by unfold addErr; rw [if_neg (by simp [hn]), if_neg HAr.out, if_neg (by simp [hf2]), if_pos hl])
          rw [HA.out.1, HA.out.2.1, HA.out.2.2]
          have hl1 : (L.length : Int) ≥ 64 := by omega
          clear hf2 hl
          go_enter Try.func27, Try.ntmps27
          go_wp2_with (first | (go_at_call 15; refine (risName_any s _ hs).mono ?_; rintro e w' ⟨rfl, rfl⟩; rw [hn]))
          go_quiet ((go_at_call 28; exact Calls.quiet_of_same (HFd.out _ (((Turned.refl _ _).alloc _).drewN _))))
          go_wp2_with fail
          go_ret2
          exact ⟨_, rfl, H.out.turned (((Turned.refl (fun _ => False) _).alloc _).drewN _) (fun h => h) (fun _ _ h => h), ((Turned.refl _ _).alloc _).drewN _, .inl rfl⟩
        · have hE : addErr L ⟨s, ar, df⟩ = 0 := by unfold addErr; rw [if_neg (by simp [hn]), if_neg HAr.out, if_neg (by simp [hf2]), if_neg hl]
          have hL2 : addL L ⟨s, ar, df⟩ = L ++ [⟨s, ar, df⟩] := by unfold addL; rw [if_pos hE]
          rw [hL2, hE, if_pos rfl]
          have hl1 : ¬ (L.length : Int) ≥ 64 := by omega
          have hl63 : L.length ≤ 63 := by omega
          clear hf2 hl hE hL2
          go_enter Try.func27, Try.ntmps27
          go_wp2_with (first | (go_at_call 15; refine (risName_any s _ hs).mono ?_; rintro e w' ⟨rfl, rfl⟩; rw [hn]))
          go_quiet ((go_at_call 28; exact Calls.quiet_of_same (HFd.out _ (((Turned.refl _ _).alloc _).drewN _))))
          obtain ⟨W0, hW⟩ : ∃ W0, W0 = (w.alloc (Obj.cells #[Value.string s, Value.int IntKind.i64 ar, Value.bool df] 31)).drewN nq := ⟨_, rfl⟩
          have X0 : Blk W0 w.heap.size 31 #[.string s, .int .i64 ar, .bool df] := by rw [hW]; exact (Blk.new w 31 _).drewN _
          have S0 : Same w W0 := by rw [hW]; exact ((Turned.refl _ _).alloc _).drewN _
          rw [← hW]
          have HR0 := Lib.hid (H.out.turned S0 (fun h => h) (fun _ _ h => h))
          have k0' : W0.cell? ⟨r, 0, none⟩ = some (.slice a L.length c) := (HR0.out.blk.cell 0).trans rfl
          have f0' := HR0.out.blk.frozen 0
          have l0' := HR0.out.blk.lt
          have x0 : W0.cell? ⟨w.heap.size, 0, none⟩ = some (.string s) := (X0.cell 0).trans rfl
          have x1 : W0.cell? ⟨w.heap.size, 1, none⟩ = some (.int .i64 ar) := (X0.cell 1).trans rfl
          have x2 : W0.cell? ⟨w.heap.size, 2, none⟩ = some (.bool df) := (X0.cell 2).trans rfl
          have xl := X0.lt
          have HS0 := Lib.hid S0
          clear hW X0 S0
          obtain ⟨i0, hi0, hz0, hz1, hz2⟩ := info_parts Try.info31
          have HI : Hid (Try.prog.info? 31 = some i0 ∧ i0.zero = some (.agg #[.string ⟨#[]⟩, .int .i64 0, .bool false]) ∧ i0.size = 3 ∧ i0.bytes = 32) := ⟨hi0, hz0, hz1, hz2⟩
          clear hi0 hz0 hz1 hz2
          have hne : (Value.slice a L.length c).ownBlock ≠ some r := own_blk_ne HR0.out.own HR0.out.blk (by decide)
          have HNE := Lib.hid hne
          clear hne
          go_wp2_with fail
          go_region_law ((refine step_append_lies _ (by rfl) _ _ _ (by rfl) 0 31 i0 _ 3 32 Try.underlying23 HI.out.1 HI.out.2.1 HI.out.2.2.1 HI.out.2.2.2 rfl (by omega) (.slice a L.length c) L.length (symCells L) (by rfl) ((HR0.out.own.alloc _).drew) ⟨W0.heap.size, 0, none⟩ 1 1 [.string s, .int .i64 ar, .bool df] (by rfl) (by rfl) (World.news_of_block (cs := #[.string s, .int .i64 ar, .bool df]) (t := 31) (fr := (0, 0)) (heap_alloc_new W0 _)) (by simp [Value.oneCell']) (by omega) (by unfold maxLen; omega) (by omega) (by simp) (W0.heap.size + 1) (by simp) ?_; intro g cap w2 hown2 hgrow2 hat2 hlt2; have k0 : w2.cell? ⟨r, 0, none⟩ = some (.slice a L.length c) := ((hgrow2.cell_far ⟨r, 0, none⟩ (by simp; omega) HNE.out.symm).trans (World.cell?_alloc_lt W0 _ ⟨r, 0, none⟩ l0')).trans k0'; have kf : w2.frozen? ⟨r, 0, none⟩ = false := ((hgrow2.frozen_far ⟨r, 0, none⟩ (by simp; omega) HNE.out.symm).trans (World.frozen?_alloc_past _ r 0 l0')).trans f0'))
          all_goals
            have A := Lib.hid (radd_after (x := ⟨s, ar, df⟩) HR0.out HS0.out hown2 hgrow2 hat2)
            have q0 : (w2.setCell ⟨r, 0, none⟩ (.slice (some ⟨g, 0, none⟩) (L.length + 1) cap)).cell? ⟨r, 0, none⟩ = some (.slice (some ⟨g, 0, none⟩) (L.length + 1) cap) := (A.out.1.blk.cell 0).trans rfl
            clear hown2 hgrow2 hat2 hlt2
            go_wp2_with fail
            go_ret2
            exact ⟨_, by simp, A.out.1, A.out.2.1, A.out.2.2⟩
end Go.Proofs.Ytpknnhdpnmkpcaa

/-
  The walk of (*Sig).Add where the symbol is taken.
-/
import Derived.Test.YtpknnhdpnmkpcaaWalk2
namespace Go.Proofs.Ytpknnhdpnmkpcaa
open Go.RowKit Go.Maps
open Go.WideMaps Go.WideElems

theorem addErr_zero {L : List Sym} {x : Sym} (h : addErr L x = 0) : isNameB x.name = true ∧ 0 ≤ x.arity ∧ x.arity ≤ 6 ∧ findL L x.name = none ∧ L.length ≠ 64 := by
  unfold addErr at h
  split at h
  · omega
  · rename_i h1
    split at h
    · omega
    · rename_i h2
      split at h
      · omega
      · rename_i h3
        split at h
        · omega
        · rename_i h4
          refine ⟨by simpa using h1, by omega, by omega, by simpa using h3, h4⟩

theorem findL_snoc_ne {L : List Sym} {x : Sym} {s : ByteArray} (h : x.name ≠ s) : findL (L ++ [x]) s = findL L s := by
  unfold findL
  rw [List.findIdx?_append]
  simp [h]
theorem findL_snoc_eq {L : List Sym} {x : Sym} (h : findL L x.name = none) : findL (L ++ [x]) x.name = some L.length := by
  unfold findL at *
  rw [List.findIdx?_append, h]
  simp
theorem tells_snoc {D : DataW Unit} {L : List Sym} {x : Sym} (hT : Tells D L) (hf : findL L x.name = none) : Tells (D.put (keyL x.name) (i64 L.length)) (L ++ [x]) := by
  refine ⟨hT.1.put _ _, fun s => ?_, fun s i h => ?_⟩
  · by_cases e : x.name = s
    · subst e
      rw [Maps.has_put_same hT.1 (by unfold keyL; simp [WideAt.IsKeyLit]), findL_snoc_eq hf]; rfl
    · rw [Maps.has_put_other (fun h => e (keyL_inj h).symm), findL_snoc_ne e, hT.2.1 s]
  · by_cases e : x.name = s
    · subst e
      rw [findL_snoc_eq hf] at h
      obtain rfl : L.length = i := by simpa using h
      exact Maps.atKey_put_same hT.1 (by unfold keyL; simp [WideAt.IsKeyLit]) _ _
    · rw [findL_snoc_ne e] at h
      rw [Maps.atKey_put_other (fun h => e (keyL_inj h).symm)]
      exact hT.2.2 s i h
theorem add_after {w w1 w2 : World} {b bm g cap c : Nat} {a : Option Addr} {L : List Sym} {x : Sym} {D : DataW Unit} {o : Obj}
    (hB : Blk w1 b 52 #[.slice a L.length c, .map (some bm)]) (hT1 : Turned (foot b bm (.slice a L.length c)) w w1) (hR : w1.ownsRow 0 31 3 (.slice a L.length c) L.length (symCells L))
    (hM : w1.ownsMap Try.prog 9 (plainElem (H := Unit) Try.prog 3) bm (L.length + 1) (D.put (keyL x.name) (i64 L.length))) (hT : Tells D L) (hf : findL L x.name = none) (h64 : L.length ≤ 64) (hl : L.length ≠ 64)
    (hown : w2.ownsRow 0 31 3 (.slice (some ⟨g, 0, none⟩) (L.length + 1) cap) (L.length + 1) (symCells L ++ x.cells)) (hgrow : (w1.alloc o).drew.grownBy w2 (Value.slice a L.length c).ownBlock)
    (hat : (Value.slice a L.length c).ownBlock = some g ∨ g = w1.heap.size + 1) :
    SigAt (w2.setCell ⟨b, 0, none⟩ (.slice (some ⟨g, 0, none⟩) (L.length + 1) cap)) b bm (.slice (some ⟨g, 0, none⟩) (L.length + 1) cap) (L ++ [x]) ∧
      Turned (foot b bm (.slice a L.length c)) w (w2.setCell ⟨b, 0, none⟩ (.slice (some ⟨g, 0, none⟩) (L.length + 1) cap)) ∧
      ((Value.slice (some ⟨g, 0, none⟩) (L.length + 1) cap).ownBlock = (Value.slice a L.length c).ownBlock ∨ ∃ k, (Value.slice (some ⟨g, 0, none⟩) (L.length + 1) cap).ownBlock = some k ∧ w.heap.size ≤ k) := by
  have hne := own_blk_ne hR hB (by decide)
  have hmb := blk_map_ne hB hM
  have hB2 : Blk w2 b 52 #[.slice a L.length c, .map (some bm)] := ((hB.alloc o).drew).grown hgrow hne.symm
  have hgb : g ≠ b := by
    intro e; subst e
    exact own_blk_ne hown hB2 (by decide) rfl
  have hM2 : w2.ownsMap Try.prog 9 (plainElem (H := Unit) Try.prog 3) bm (L.length + 1) (D.put (keyL x.name) (i64 L.length)) := ((hM.alloc o).drew).kept hgrow (fun e => own_map_ne hR hM e.symm)
  have hT2 : Turned (foot b bm (.slice a L.length c)) w w2 := ((hT1.alloc o).drew).grown hgrow (fun k hk => .inl (.inr (.inr hk)))
  refine ⟨⟨(hB2.set_ 0 _).trans rfl, ?_, ⟨_, by rw [List.length_append]; exact hM2.setCell (Ne.symm hmb) _, tells_snoc hT hf⟩, by simp; omega⟩, hT2.setCell (.inl (.inl rfl)) _, ?_⟩
  · rw [symCells_snoc, List.length_append]
    exact World.ownsRow.turned hown (S := fun k => k = b) (Turned.setCell (S := fun k => k = b) (Turned.refl _ w2) (p := ⟨b, 0, none⟩) (.inl rfl) _) (fun k hk e => hgb (by simp [Value.ownBlock] at hk; omega))
  · rcases hat with h | h
    · exact .inl h.symm
    · exact .inr ⟨g, rfl, by have := hT1.size; omega⟩

set_option maxHeartbeats 1000000 in
theorem add_ok (w : World) (b bm : Nat) (v : Value) (L : List Sym) (h : SigAt w b bm v L) (x : Sym) (hs : x.name.size ≤ maxLen) (hE : addErr L x = 0) :
    Calls Try.prog 9 #[.pointer (some ⟨b, 0, none⟩), x.val] w fun e w' => ∃ v', e = .returned (.tuple #[.int .i64 L.length, .int .i64 0]) ∧ SigAt w' b bm v' (L ++ [x]) ∧ Turned (foot b bm v) w w' ∧
      (v'.ownBlock = v.ownBlock ∨ ∃ k, v'.ownBlock = some k ∧ w.heap.size ≤ k) := by
  obtain ⟨hn, ha1, ha2, hf, hl⟩ := addErr_zero hE
  obtain ⟨D, hown, hT⟩ := h.map
  obtain ⟨a, c, rfl, h1, h2⟩ := own_shape h.own
  have c0 := h.blk.cell 0
  have c1 := h.blk.cell 1
  simp at c0 c1
  have hlt := h.blk.lt
  obtain ⟨s, ar, df⟩ := x
  obtain ⟨c', hc, hlook⟩ := look_all hown s hs
  have hmlt := hown.lt
  have hh : Maps.has D (keyL s) = (findL L s).isSome := hT.2.1 s
  simp only at hf
  rw [hh, hf] at hlook
  have hrun : ∀ (o : Obj) (n : Nat), (Instr.lookup 50 (.map (some bm)) (.string s) true).run Try.prog ((w.alloc o).drewN n) = .ok (.tuple #[.int .i64 c', .bool false]) ((w.alloc o).drewN n) :=
    fun o n => hlook _ (Below.heap_alloc w o bm hmlt)
  have HH := Lib.hid h
  have HF := Lib.hid hf
  have HT := Lib.hid hT
  have HO := Lib.hid hown
  have h64 := HH.out.few
  simp only at hn ha1 ha2
  have hl2 : ((L.length : Int) == 64) = false := by rw [beq_eq_false_iff_ne]; omega
  have hl64 := Lib.hid hl
  clear hlook hh hc hT hown hmlt h hE hl hf
  show Calls Try.prog 9 #[.pointer (some ⟨b, 0, none⟩), .agg #[.string s, .int .i64 ar, .bool df]] w _
  go_enter Try.func9, Try.ntmps9
  go_wp2
  go_quiet (fail)
  go_wp2_with (first | (go_at_call 13; refine (isName_any s _ hs).mono ?_; rintro e w' ⟨rfl, rfl⟩))
  obtain ⟨W0, hW⟩ : ∃ W0, W0 = (w.alloc (Obj.cells #[Value.string s, Value.int IntKind.i64 ar, Value.bool df] 31)).drewN nq := ⟨_, rfl⟩
  have B0 : Blk W0 b 52 #[.slice a L.length c, .map (some bm)] := by rw [hW]; exact (HH.out.blk.alloc _).drewN _
  have X0 : Blk W0 w.heap.size 31 #[.string s, .int .i64 ar, .bool df] := by rw [hW]; exact (Blk.new w 31 _).drewN _
  have T0 : Turned (foot b bm (.slice a L.length c)) w W0 := by rw [hW]; exact ((Turned.refl _ _).alloc _).drewN _
  have M0 : W0.ownsMap Try.prog 9 (plainElem (H := Unit) Try.prog 3) bm L.length D := by rw [hW]; exact HO.out.alloc _
  have R0 : W0.ownsRow 0 31 3 (.slice a L.length c) L.length (symCells L) := by rw [hW]; exact HH.out.own.alloc _
  rw [← hW]
  clear hW hrun
  have hwl : (Lit.int .i64 (L.length : Int)).wf = true := WalkArith.wf_i64 (by omega)
  obtain ⟨w1, hup, hown1, hg1⟩ := (M0.drew).update law9 Try.underlying50 (by unfold maxLen; omega) (key := .string s) (val := .int .i64 L.length) (keyOf_string_mk Try.underlying9 hs) (plainElem_int Try.underlying3 hwl)
  have b1 := B0.cell 1
  have x0 := X0.cell 0
  simp at b1 x0
  have B1 : Blk w1 b 52 #[.slice a L.length c, .map (some bm)] := B0.drew.grown hg1 (fun e => blk_map_ne B0 M0 (by simpa using e))
  have X1 : Blk w1 w.heap.size 31 #[.string s, .int .i64 ar, .bool df] := X0.drew.grown hg1 (fun e => blk_map_ne X0 M0 (by simpa using e))
  have R1 : w1.ownsRow 0 31 3 (.slice a L.length c) L.length (symCells L) := (R0.drew).kept hg1 (.inr (own_map_ne R0 M0))
  have T1 : Turned (foot b bm (.slice a L.length c)) w w1 := T0.drew.grown hg1 (fun k hk => .inl (.inr (.inl (by simpa using hk.symm))))
  have b10 := B1.cell 0
  have b11 := B1.cell 1
  have f10 := B1.frozen 0
  have x10 := X1.cell 0
  have x11 := X1.cell 1
  have x12 := X1.cell 2
  simp at b10 b11 x10 x11 x12
  have h1lt : b < w1.heap.size := B1.lt
  have x1lt : w.heap.size < w1.heap.size := X1.lt
  have HB := Lib.hid B1; have HX := Lib.hid X1; have HT1 := Lib.hid T1; have HR := Lib.hid R1; have HM1 := Lib.hid hown1
  clear B0 X0 T0 M0 R0 hown1 hg1 B1 X1 R1 T1
  go_region_held3 (fun w' => w'.cell? ⟨b, 1, none⟩ = some (.map (some bm)) ∧ w'.cell? ⟨w.heap.size, 0, none⟩ = some (.string s)) (go_keep) (fail)
  clear hup b1 x0
  go_wp2_with fail
  obtain ⟨i0, hi0, hz0, hz1, hz2⟩ := info_parts Try.info31
  have HI : Hid (Try.prog.info? 31 = some i0 ∧ i0.zero = some (.agg #[.string ⟨#[]⟩, .int .i64 0, .bool false]) ∧ i0.size = 3 ∧ i0.bytes = 32) := ⟨hi0, hz0, hz1, hz2⟩
  clear hi0 hz0 hz1 hz2
  clear ha1 ha2 hl2 hn
  have hne : (Value.slice a L.length c).ownBlock ≠ some b := own_blk_ne HR.out HB.out (by decide)
  have HNE := Lib.hid hne
  clear hne
  go_region_law ((refine step_append_lies _ (by rfl) _ _ _ (by rfl) 0 31 i0 _ 3 32 Try.underlying23 HI.out.1 HI.out.2.1 HI.out.2.2.1 HI.out.2.2.2 rfl (by omega) (.slice a L.length c) L.length (symCells L) (by rfl) ((HR.out.alloc _).drew) ⟨w1.heap.size, 0, none⟩ 1 1 [.string s, .int .i64 ar, .bool df] (by rfl) (by rfl) (World.news_of_block (cs := #[.string s, .int .i64 ar, .bool df]) (t := 31) (fr := (0, 0)) (heap_alloc_new w1 _)) (by simp [Value.oneCell']) (by omega) (by unfold maxLen; omega) (by omega) (by simp) (w1.heap.size + 1) (by simp) ?_; intro g cap w2 hown2 hgrow2 hat2 hlt2; have k0 : w2.cell? ⟨b, 0, none⟩ = some (.slice a L.length c) := ((hgrow2.cell_far ⟨b, 0, none⟩ (by simp; omega) HNE.out.symm).trans (World.cell?_alloc_lt w1 _ ⟨b, 0, none⟩ h1lt)).trans b10; have kf : w2.frozen? ⟨b, 0, none⟩ = false := ((hgrow2.frozen_far ⟨b, 0, none⟩ (by simp; omega) HNE.out.symm).trans (World.frozen?_alloc_past _ b 0 h1lt)).trans f10))
  all_goals
    have A := Lib.hid (add_after HB.out HT1.out HR.out (x := ⟨s, ar, df⟩) HM1.out HT.out HF.out h64 hl64.out hown2 hgrow2 hat2)
    clear hown2 hgrow2 hat2 k0 kf hlt2
    go_wp2
    go_ret2
    exact ⟨_, rfl, A.out.1, A.out.2.1, A.out.2.2⟩

end Go.Proofs.Ytpknnhdpnmkpcaa

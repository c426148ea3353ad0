/-
  The walks of under and Under.
-/
import Derived.Test.YteohhiefchoamaaReach
namespace Go.Proofs.Yteohhiefchoamaa
open Go.RowKit

theorem own_pop {w : World} {A : Option Addr} {n c : Nat} {F : List Int} {x : Int} (h : w.ownsRow 0 3 1 (.slice A (n + 1) c) (n + 1) (nInts (F ++ [x]))) (hn : F.length = n) :
    w.ownsRow 0 3 1 (.slice A n c) n (nInts F) ∧ ∃ g, A = some ⟨g, 0, none⟩ ∧ w.cell? ⟨g, n, none⟩ = some (.int .i64 x) ∧ n + 1 ≤ c := by
  rw [show nInts (F ++ [x]) = nInts F ++ nInts [x] from by simp [nInts]] at h
  obtain ⟨g, cap, hv, _, _⟩ := h.form (by omega)
  obtain ⟨rfl, rfl⟩ : A = some ⟨g, 0, none⟩ ∧ c = cap := by simpa using hv
  have hcap : n + 1 ≤ c := by
    obtain ⟨ax, cx, ex, h1, _⟩ := own_shape h
    have : c = cx := by injection ex
    omega
  have hln : (nInts F).length = n := by simp [nInts, hn]
  have top := row_cell h (j := n) (u := .int .i64 x) (by rw [List.getElem?_append_right (by omega), hln, Nat.sub_self]; rfl)
  exact ⟨own_shrink h (by rw [hln]; omega), g, rfl, top, hcap⟩
theorem list_pop {T : List Int} {n : Nat} (h : T.length = n + 1) : ∃ T' x, T = T' ++ [x] ∧ T'.length = n := by
  rcases List.eq_nil_or_concat T with e | ⟨F1, x, e⟩
  · rw [e] at h; simp at h
  · refine ⟨F1, x, by rw [e, List.concat_eq_append], ?_⟩
    rw [e] at h; simp at h; exact h
/-- A search in memory. -/
structure UndI (w wr : World) (gs : Nat) (tv : Value) (B : List Bool) (T : List Int) : Prop where
  same : Same w wr
  blk : Blk wr gs 4 (nBools B).toArray
  todo : wr.ownsRow 0 3 1 tv T.length (nInts T)
  nb : w.heap.size ≤ gs
  nt : ∀ k, tv.ownBlock = some k → w.heap.size ≤ k
theorem UndI.later {w wr w' : World} {gs : Nat} {tv : Value} {B : List Bool} {T : List Int} (h : UndI w wr gs tv B T) (ht : Same wr w') : UndI w w' gs tv B T :=
  ⟨h.same.trans ht (fun _ h => h.elim), h.blk.turned ht (fun h => h), World.ownsRow.same_ h.todo ht, h.nb, h.nt⟩
theorem UndI.set {w wr : World} {gs : Nat} {tv : Value} {B : List Bool} {T : List Int} (h : UndI w wr gs tv B T) (i : Nat) : UndI w (wr.setCell ⟨gs, i, none⟩ (.bool true)) gs tv (B.set i true) T := by
  have hset : Turned (fun k => k = gs) wr (wr.setCell ⟨gs, i, none⟩ (.bool true)) := Turned.setCell (S := fun k => k = gs) (Turned.refl _ wr) (p := ⟨gs, i, none⟩) (.inl rfl) _
  exact ⟨h.same.setCell (p := ⟨gs, i, none⟩) (.inr h.nb) _, nBools_set h.blk i true, World.ownsRow.turned h.todo hset (fun k hk e => own_blk_ne h.todo h.blk (by decide) (by rw [hk, e])), h.nb, h.nt⟩
theorem UndI.push {w wr w1 w2 : World} {gs : Nat} {tv tv2 : Value} {B : List Bool} {T xs : List Int} (h : UndI w wr gs tv B T) (hs : Same wr w1)
    (ho : w2.ownsRow 0 3 1 tv2 (T.length + xs.length) (nInts T ++ nInts xs)) (hg : w1.grownBy w2 tv.ownBlock) (hat : tv2.ownBlock = tv.ownBlock ∨ tv2.ownBlock = some w1.heap.size) : UndI w w2 gs tv2 B (T ++ xs) := by
  have h1 := h.later hs
  have ht : Turned (fun k => tv.ownBlock = some k) w1 w2 := (Turned.refl _ _).grown hg (fun k hk => .inl hk)
  refine ⟨h1.same.trans ht (fun k hk => .inr (h1.nt k hk)), h1.blk.turned ht (fun e => own_blk_ne h1.todo h1.blk (by decide) e), ?_, h.nb, fun k hk => ?_⟩
  · rw [List.length_append, show nInts (T ++ xs) = nInts T ++ nInts xs from by simp [nInts]]; exact ho
  · rcases hat with e | e
    · exact h.nt k (e.symm.trans hk)
    · have e2 := e.symm.trans hk
      obtain rfl : w1.heap.size = k := by simpa using e2
      exact h1.same.size
def UnderRes (K : List Nd) (f a : Nat) (e : Ending) : Prop := ∃ b : Bool, e = .returned (.bool b) ∧ (b = true ↔ Reach K f a)

set_option maxRecDepth 100000 in
set_option maxHeartbeats 8000000 in
theorem under_any (w : World) (b : Nat) (room : Int) (v : Value) (N : List NV) (h : HeapAt w b room v N) (hr : Ranked (N.map (·.1))) (hok : ∀ x ∈ N.map (·.1), NodeOk x) (hl : N.length ≤ 4000) (f a : Nat) (hf : f < N.length) :
    Calls Try.prog 60 #[.pointer (some ⟨b, 0, none⟩), .int .i64 f, .int .i64 a] w fun e w' => UnderRes (N.map (·.1)) f a e ∧ Same w w' := by
  have H := Lib.hid h; have HR := Lib.hid hr; have HOk := Lib.hid hok; have HF := Lib.hid hf
  obtain ⟨va, vc, rfl, _, _⟩ := own_shape h.own
  have hb1 : w.cell? ⟨b, 1, none⟩ = some (.slice va N.length vc) := (h.blk.cell 1).trans rfl
  obtain ⟨i0, hi0, hz0, hz1, hz2⟩ := info_parts info4
  obtain ⟨i1, hi1, hy0, hy1, hy2⟩ := info_parts info3
  have HI : Hid (Try.prog.info? 3 = some i1 ∧ i1.zero = some (.int .i64 0) ∧ i1.size = 1 ∧ i1.bytes = 8) := ⟨hi1, hy0, hy1, hy2⟩
  have hmk := fun W => run_make (P := Try.prog) W 116 4 i0 (.bool false) Try.underlying116 hi0 hz0 .i64 .i64 N.length N.length (by omega) (by omega) (by rw [hz2]; omega) (by omega)
  simp only [hz1, Int.toNat_natCast, Nat.mul_one] at hmk
  clear h hr hok hf hi0 hz0 hz1 hz2 hi1 hy0 hy1 hy2
  have HB0 : Hid (UndI w ((w.alloc (.cells (madeCells #[.bool false] N.length) 4)).alloc (.cells #[.int .i64 f] 3)) w.heap.size (.slice (some ⟨w.heap.size + 1, 0, none⟩) 1 1) (List.replicate N.length false) [(f : Int)]) := by
    have h1 := Blk.new w 4 (madeCells #[.bool false] N.length)
    have e : madeCells #[Value.bool false] N.length = (nBools (List.replicate N.length false)).toArray := by
      apply Array.ext'
      rw [toList_madeCells_one]
      simp [nBools]
    rw [e] at h1 ⊢
    have h2 := World.ownsRow_lit (base := 0) (e := 3) (size := 1) (w.alloc (.cells (nBools (List.replicate N.length false)).toArray 4)) #[.int .i64 f] 1 (Nat.zero_le _) (by unfold maxLen; omega) rfl
    rw [World.size_alloc] at h2
    exact ⟨((Turned.refl _ _).alloc _).alloc _, h1.alloc _, h2, Nat.le_refl _, fun k hk => by have h5 : w.heap.size + 1 = k := (by simpa [Value.ownBlock] using hk); omega⟩
  have HD0 : Hid (Dfs (N.map (·.1)) f (List.replicate N.length false) [(f : Int)]) := by
    have := Dfs.start (K := N.map (·.1)) (f := f) (by simpa using HF.out)
    rwa [List.length_map] at this
  have HW0 : Hid (wtL (List.replicate N.length false) (N.map (·.1)) ≤ 24000) := by
    have := wtL_le (List.replicate N.length false) (N.map (·.1)) (fun x hx => (HOk.out x hx).down6)
    rw [List.length_map] at this
    unfold Hid; omega
  obtain ⟨mc, hm⟩ : ∃ mc, mc = madeCells (Value.bool false).cells N.length := ⟨_, rfl⟩
  rw [← hm] at hmk
  have HM : Hid (mc = madeCells #[.bool false] N.length) := hm
  rw [← HM.out] at HB0
  clear hm
  go_enter Try.func60, Try.ntmps60
  go_wp2_with fail
  obtain ⟨gs, hgs⟩ : ∃ gs, gs = w.heap.size := ⟨_, rfl⟩
  rw [← hgs] at HB0 ⊢
  clear hgs hmk hb1
  go_loopw [8] (fun tv wr => ∃ s : Nat, s ≤ 30000 ∧ (∃ ta tc, tv = .slice ta s tc) ∧ Hid (∃ B T, UndI w wr gs tv B T ∧ T.length = s ∧ Dfs (N.map (·.1)) f B T ∧ B[a]? ≠ some true ∧ wtL B (N.map (·.1)) + s ≤ 30000)) (fun tv wr => wtW wr gs (N.map (·.1)) + (match tv with | .slice _ n _ => n | _ => 0))
  case atStart =>
    refine ⟨1, by omega, ⟨_, _, rfl⟩, _, _, HB0.out, rfl, HD0.out, fun h => ?_, by have := HW0.out; omega⟩
    have := List.eq_of_mem_replicate (List.mem_of_getElem? h)
    cases this
  case round =>
    obtain ⟨s, hs, ⟨ta, tc, rfl⟩, HV⟩ := hrel
    obtain ⟨B, T, hU, hTl, hD, hBa, hwt⟩ := HV.out
    cases s with
    | zero =>
      obtain rfl : T = [] := List.eq_nil_of_length_eq_zero hTl
      have HE : Hid (¬ Reach (N.map (·.1)) f a) := fun hr => hBa (hD.all hr)
      have HS := Lib.hid hU.same
      clear hU hTl hD hBa hwt HV
      go_wp2_with fail
      go_ret
      exact ⟨⟨false, rfl, by simpa using HE.out⟩, HS.out⟩
    | succ s =>
      obtain ⟨T1, x, rfl, hT1⟩ := list_pop hTl
      have htd := hU.todo
      rw [hTl] at htd
      obtain ⟨htd1, tg, rfl, htop, hcap⟩ := own_pop htd hT1
      obtain ⟨j, rfl, hj⟩ := hD.inn x (by simp)
      have HU1 : Hid (UndI w wr gs (.slice (some ⟨tg, 0, none⟩) s tc) B T1) := ⟨hU.same, hU.blk, by rw [hT1]; exact htd1, hU.nb, fun k hk => hU.nt k (by simpa [Value.ownBlock] using hk)⟩
      obtain ⟨bj, hbj⟩ : ∃ bj, B[j]? = some bj := ⟨B[j]'(by rw [hD.len]; exact hj), by simp⟩
      have hcell := nBools_at hU.blk hbj
      have hfr := fun i => hU.blk.frozen i
      have hgl := hU.blk.lt
      have HP : Hid (Dfs (N.map (·.1)) f B (T1 ++ [(j : Int)]) ∧ B[a]? ≠ some true ∧ wtL B (N.map (·.1)) + (s + 1) ≤ 30000 ∧ T1.length = s ∧ wtW wr gs (N.map (·.1)) = wtL B (N.map (·.1))) := ⟨hD, hBa, hwt, hT1, wtW_blk hU.blk⟩
      have HBj := Lib.hid hbj
      have hj' : j < N.length := by simpa using hj
      have HJ := Lib.hid hj'
      have hj0 : (0 : Int) ≤ j := by omega
      have hj1 : (j : Int) < N.length := by omega
      clear hU hTl hD hBa hwt htd htd1 hT1 hj hj' hbj HV
      by_cases hja : j = a
      · subst hja
        have HE : Hid (Reach (N.map (·.1)) f j) := HP.out.1.snd j (.inr (by simp))
        go_wp2_with fail
        go_ret
        exact ⟨⟨true, rfl, by simpa using HE.out⟩, HU1.out.same⟩
      · have hjb : ((j : Int) == (a : Int)) = false := by rw [beq_eq_false_iff_ne]; omega
        have HJa := Lib.hid hja
        clear hja
        cases bj with
        | true =>
          have HN : Hid (∃ B T, UndI w wr gs (.slice (some ⟨tg, 0, none⟩) s tc) B T ∧ T.length = s ∧ Dfs (N.map (·.1)) f B T ∧ B[a]? ≠ some true ∧ wtL B (N.map (·.1)) + s ≤ 30000) := ⟨B, T1, HU1.out, HP.out.2.2.2.1, HP.out.1.old HBj.out, HP.out.2.1, by have := HP.out.2.2.1; omega⟩
          go_wp2_with fail
          go_roundw
          case rel => exact ⟨s, by omega, ⟨_, _, rfl⟩, HN.out⟩
          case measure => simp
        | false =>
          have HU2 := Lib.hid (HU1.out.set j)
          have hH := H.out
          obtain ⟨hg, rfl, d0, d1, d2, d3, d4⟩ := hH.at_ j HJ.out
          have hArg := (hH.args (N[j]'HJ.out) (List.getElem_mem _)).rd
          have hKj : (N.map (·.1))[j]? = some (N[j]'HJ.out).1 := by rw [List.getElem?_map, List.getElem?_eq_getElem HJ.out]; rfl
          have hnok := HOk.out (N[j]'HJ.out).1 (List.mem_map_of_mem (List.getElem_mem _))
          obtain ⟨⟨⟨sy, ar, mk, po, tt⟩, av⟩, hx⟩ : ∃ x, x = N[j]'HJ.out := ⟨_, rfl⟩
          rw [← hx] at d1 d3 d4 hArg hKj hnok
          simp only at d1 d3 d4 hArg hKj hnok
          obtain ⟨aA, ac, rfl, hArc⟩ := hArg
          have HArg : Hid (Rd w (.slice aA ar.length ac) ar) := ⟨aA, ac, rfl, hArc⟩
          obtain ⟨an, han⟩ : ∃ an, an = ar.length := ⟨_, rfl⟩
          have HAn := Lib.hid han
          have hbw := hH.blk.lt
          have hgw := World.block_lt_of_cell? _ _ d1
          have hb1 : w.cell? ⟨b, 1, none⟩ = some (.slice (some ⟨hg, 0, none⟩) N.length vc) := (hH.blk.cell 1).trans rfl
          rw [← han] at d1
          have HC : Hid (∀ W, Same w W → W.cell? ⟨b, 1, none⟩ = some (.slice (some ⟨hg, 0, none⟩) N.length vc) ∧ W.cell? ⟨hg, j * 5 + 1, none⟩ = some (.slice aA an ac) ∧ W.cell? ⟨hg, j * 5 + 3, none⟩ = some (.bool po) ∧ W.cell? ⟨hg, j * 5 + 4, none⟩ = some (.int .i64 tt)) := fun W hW =>
            ⟨(hW.cell (p := ⟨b, 1, none⟩) hbw (fun h => h)).trans hb1, (hW.cell (p := ⟨hg, j * 5 + 1, none⟩) hgw (fun h => h)).trans d1, (hW.cell (p := ⟨hg, j * 5 + 3, none⟩) hgw (fun h => h)).trans d3, (hW.cell (p := ⟨hg, j * 5 + 4, none⟩) hgw (fun h => h)).trans d4⟩
          have HKj := Lib.hid hKj; have HNok := Lib.hid hnok
          have hda : an ≤ 6 := by rw [han]; exact hnok.a6
          have HIn : Hid (Under (N.map (·.1)).length (down ⟨sy, ar, mk, po, tt⟩)) := fun d hd => HR.out.inK _ (List.mem_of_getElem? hKj) d hd
          clear hH d0 d1 d2 d3 d4 hx hKj hnok hArc hb1 han hbw hgw
          have HTd : Hid ((wr.setCell ⟨gs, j, none⟩ (.bool true)).ownsRow 0 3 1 (.slice (some ⟨tg, 0, none⟩) s tc) s (nInts T1)) := by have h1 := HU2.out.todo; rwa [HP.out.2.2.2.1] at h1
          obtain ⟨k1, k2, k3, k4⟩ := HC.out _ HU2.out.same
          have HSz : Hid ((wr.setCell ⟨gs, j, none⟩ (.bool true)).heap.size = wr.heap.size) := by simp [Hid, World.setCell]
          go_upto_region 10 with fail
          go_wp2_with (at_builtin; go_loud (refine wpList_append_src _ rfl _ _ 26 rfl 3 i1 _ 1 8 Try.underlying26 HI.out.1 HI.out.2.1 HI.out.2.2.1 HI.out.2.2.2 rfl (by omega) (.slice (some ⟨tg, 0, none⟩) s tc) s (nInts T1) rfl (by exact HTd.out) aA an ac (nInts ar) rfl (by rw [HAn.out]; simp [nInts]) (by rw [HAn.out]; exact rd_src (HArg.out.same_ HU2.out.same)) (nInts_one _) (by unfold maxLen; omega) (by omega) ?_))
          intro a6 c6 w6 ho6 hg6 hat6
          have HU6 : Hid (UndI w w6 gs (.slice a6 (s + an) c6) (B.set j true) (T1 ++ ar)) := HU2.out.push (Turned.refl _ _) (by rw [HP.out.2.2.2.1, ← HAn.out]; exact ho6) hg6 (by rw [HSz.out]; exact hat6)
          have HL6 : Hid ((T1 ++ ar).length = s + an) := by rw [List.length_append, HP.out.2.2.2.1, ← HAn.out]; rfl
          have hwset := wtL_set B (N.map (·.1)) j _ HBj.out HKj.out
          have HWs : Hid (wtL (B.set j true) (N.map (·.1)) + (down ⟨sy, ar, mk, po, tt⟩).length = wtL B (N.map (·.1)) ∧ wtL B (N.map (·.1)) + (s + 1) ≤ 30000) := ⟨hwset, HP.out.2.2.1⟩
          have HBa : Hid ((B.set j true)[a]? ≠ some true) := by
            unfold Hid
            rw [List.getElem?_set_ne HJa.out]
            exact HP.out.2.1
          clear ho6 hg6 hat6 k1 k2 k3 k4 hwset hcell hfr hgl
          obtain ⟨k1, k2, k3, k4⟩ := HC.out _ HU6.out.same
          cases po with
          | false =>
            have HN : Hid ((∃ B T, UndI w w6 gs (.slice a6 (s + an) c6) B T ∧ T.length = s + an ∧ Dfs (N.map (·.1)) f B T ∧ B[a]? ≠ some true ∧ wtL B (N.map (·.1)) + (s + an) ≤ 30000) ∧ wtW w6 gs (N.map (·.1)) + (s + an) < wtW wr gs (N.map (·.1)) + (s + 1)) := by
              have h2 := HWs.out.2
              have h1 : wtL (B.set j true) (N.map (·.1)) + ar.length = wtL B (N.map (·.1)) := HWs.out.1
              have h3 := wtW_blk (K := N.map (·.1)) HU6.out.blk
              have h4 := HP.out.2.2.2.2
              have h5 := HAn.out
              exact ⟨⟨B.set j true, T1 ++ ar, HU6.out, HL6.out, HP.out.1.new HBj.out HKj.out HIn.out, HBa.out, by omega⟩, by omega⟩
            have hsd : s + an ≤ 30000 := by obtain ⟨⟨_, _, _, _, _, _, h⟩, _⟩ := HN.out; omega
            go_wp2_with fail
            go_roundw
            case rel => exact ⟨s + an, hsd, ⟨_, _, rfl⟩, HN.out.1⟩
            case measure => exact HN.out.2
          | true =>
            have HAz : Hid (ar = []) := HNok.out.pt rfl
            have HTd6 : Hid (w6.ownsRow 0 3 1 (.slice a6 (s + an) c6) (s + an) (nInts (T1 ++ ar))) := by have h1 := HU6.out.todo; rwa [HL6.out] at h1
            go_wp2_with (at_builtin; go_loud (refine wpList_append_src _ rfl _ _ 26 rfl 3 i1 _ 1 8 Try.underlying26 HI.out.1 HI.out.2.1 HI.out.2.2.1 HI.out.2.2.2 rfl (by omega) (.slice a6 (s + an) c6) (s + an) (nInts (T1 ++ ar)) rfl (by exact World.ownsRow.alloc HTd6.out _) (some ⟨w6.heap.size, 0, none⟩) 1 1 (nInts [tt]) rfl (by simp [nInts]) (by exact fun _ => src_new w6 (nInts [tt]) 3 (by omega)) (nInts_one _) (by unfold maxLen; omega) (by omega) ?_))
            intro a7 c7 w7 ho7 hg7 hat7
            have hs7 : s + an ≤ 29999 := by have := HWs.out.2; have := HAn.out; have := HAz.out; subst this; simp at *; omega
            have HN : Hid ((∃ B T, UndI w w7 gs (.slice a7 (s + an + 1) c7) B T ∧ T.length = s + an + 1 ∧ Dfs (N.map (·.1)) f B T ∧ B[a]? ≠ some true ∧ wtL B (N.map (·.1)) + (s + an + 1) ≤ 30000) ∧ wtW w7 gs (N.map (·.1)) + (s + an + 1) < wtW wr gs (N.map (·.1)) + (s + 1)) := by
              have hU7 : UndI w w7 gs (.slice a7 (s + an + 1) c7) (B.set j true) (T1 ++ ar ++ [tt]) := HU6.out.push (w1 := w6.alloc (.cells #[.int .i64 tt] 3)) ((Turned.refl _ _).alloc _) (by rw [HL6.out]; exact ho7) hg7 (by rw [World.size_alloc]; exact hat7)
              have h2 := HWs.out.2
              have h1 : wtL (B.set j true) (N.map (·.1)) + 1 = wtL B (N.map (·.1)) := HWs.out.1
              have h3 := wtW_blk (K := N.map (·.1)) hU7.blk
              have h4 := HP.out.2.2.2.2
              have h5 := HAn.out
              have h6 := HAz.out
              have h7 : an = 0 := by rw [h5, h6]; rfl
              refine ⟨⟨B.set j true, T1 ++ ar ++ [tt], hU7, by rw [List.length_append, HL6.out]; rfl, ?_, HBa.out, by omega⟩, by omega⟩
              rw [h6, List.append_nil]
              exact HP.out.1.new HBj.out HKj.out HIn.out
            clear ho7 hg7 hat7
            go_wp2_with fail
            go_roundw
            case rel => exact ⟨s + an + 1, by omega, ⟨_, _, rfl⟩, HN.out.1⟩
            case measure => exact HN.out.2
end Go.Proofs.Yteohhiefchoamaa

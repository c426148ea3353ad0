/-
  The walk of SpineMoves.
-/
import Derived.Test.YthfhjopofpffgaaMove
namespace Go.Proofs.Ythfhjopofpffgaa
open Go.RowKit

def neg (T : List Int) : Bool := T.any fun a => decide (a < 0)
theorem neg_iff (T : List Int) : neg T = true ↔ ∃ a ∈ T, a < 0 := by simp [neg]

/-- The law's own list of frames, and what it read after. -/
structure MG (w wr : World) (f n : Value) (G N : List FV) : Prop where
  own : wr.ownsRow 0 25 4 f G.length (fall G)
  ownp : ∀ x ∈ G, PAt wr x.2 x.1.path
  nown : wr.ownsRow 0 25 4 n N.length (fall N)
  nownp : ∀ x ∈ N, PAt wr x.2 x.1.path
  new : ∀ k, f.ownBlock = some k → w.heap.size ≤ k ∧ n.ownBlock ≠ some k
  same : Same w wr
theorem MG.later {w wr w' : World} {f n : Value} {G N : List FV} (h : MG w wr f n G N) (ht : Same wr w') : MG w w' f n G N :=
  ⟨World.ownsRow.turned h.own ht (fun _ _ h => h), fun x hx => (h.ownp x hx).turned ht (fun _ _ h => h), World.ownsRow.turned h.nown ht (fun _ _ h => h), fun x hx => (h.nownp x hx).turned ht (fun _ _ h => h), h.new, h.same.trans ht (fun _ h => h.elim)⟩
theorem pat_own_ne {w : World} {pv : Value} {p : List Int} {v : Value} {n b : Nat} {xs : List Value} (h : PAt w pv p) (ho : w.ownsRow b 25 4 v n xs) : ∀ k, pv.ownBlock = some k → v.ownBlock ≠ some k := by
  intro k hk hf
  rcases h with ⟨rfl, _⟩ | ⟨g, rfl, hg⟩
  · simp [Value.ownBlock] at hk
  · obtain rfl : g = k := by simpa [Value.ownBlock] using hk
    exact own_blk_ne ho hg (by decide) hf
theorem MG.node_ {w wr : World} {g c : Nat} {n : Value} {G N : List FV} (h : MG w wr (.slice (some ⟨g, 0, none⟩) G.length c) n G N) (k : Nat) (hk : k < G.length) (a : Int) :
    MG w (wr.setCell ⟨g, k * 4, none⟩ (.int .i64 a)) (.slice (some ⟨g, 0, none⟩) G.length c) n (G.set k (toNode G[k] a)) N := by
  have ht : Turned (fun j => j = g) wr (wr.setCell ⟨g, k * 4, none⟩ (.int .i64 a)) := (Turned.refl (fun j => j = g) wr).setCell (p := ⟨g, k * 4, none⟩) (.inl rfl) _
  refine ⟨?_, fun x hx => ?_, World.ownsRow.turned h.nown ht (fun j hj e => (h.new j (by rw [e]; rfl)).2 hj), fun x hx => (h.nownp x hx).turned ht (fun j hj e => pat_own_ne (h.nownp x hx) h.own j hj (by rw [e]; rfl)), h.new, h.same.trans ht (fun i hi => .inr (by rw [hi]; exact (h.new g rfl).1))⟩
  · rw [fall_node G k hk a, List.length_set]
    exact (h.own.stored (k * 4) _).1
  · have : PAt wr x.2 x.1.path := by
      obtain ⟨i, hi, rfl⟩ := List.mem_iff_getElem.1 hx
      rw [List.getElem_set]
      split
      · exact h.ownp G[k] (List.getElem_mem hk)
      · exact h.ownp _ (List.getElem_mem _)
    exact this.turned ht (fun j hj e => pat_own_ne this h.own j hj (by rw [e]; rfl))

set_option maxRecDepth 100000 in
set_option maxHeartbeats 4000000 in
theorem moves_law (w : World) (root : Int) (v : Value) (X : List Fr) (tv : Value) (T : List Int) (hX : FOld w w.heap.size v X) (hT : ROld w w.heap.size tv T) (hl : (X.length + 1) * 48 ≤ 140737488355328) (hL : ∀ x ∈ X, x.path.length ≤ 17592186044416) (hTl : T.length ≤ 17592186044416) :
    Calls Try.prog 6 #[.int .i64 root, v, tv] w fun e w' => e = .returned (.bool true) ∧ Below w.heap.size w w' := by
  have HX := Lib.hid hX
  have HT := Lib.hid hT
  have HL := Lib.hid hL
  obtain ⟨A, c, rfl, hA⟩ := hX
  obtain ⟨tA, tc, rfl, htA⟩ := hT
  clear hA htA hL
  go_enter Try.func6, Try.ntmps6
  go_wp2_with fail
  refine (awake_any _).mono ?_
  rintro e w1 ⟨rfl, h1⟩
  have H1 := Lib.hid h1
  have HX1 := Lib.hid ((HX.out.same h1).more H1.out.size)
  have HT1 := Lib.hid ((HT.out.keep (h1.mono (fun _ h => h.elim))).more H1.out.size)
  clear h1 HX HT
  go_wp2_with fail
  refine (filled_any _ root _ X HX1.out (by omega) HL.out).mono ?_
  rintro e w2 ⟨b, v2, F2, rfl, hS2, hF2⟩
  have HS2 := Lib.hid hS2
  have HW12 : Hid (w1.heap.size ≤ w2.heap.size) := hS2.same.size
  have HT2 := Lib.hid (HT1.out.keep (hS2.same.mono (fun _ h => h.elim)))
  obtain ⟨Y, hY⟩ : ∃ Y, Y = rootFr root :: X := ⟨_, rfl⟩
  rw [← hY] at hF2
  have hYl : Y.length = X.length + 1 := by rw [hY]; rfl
  have hYL : ∀ x ∈ Y, x.path.length ≤ 17592186044416 := by
    intro x hx; rw [hY] at hx
    rcases List.mem_cons.1 hx with e | hm
    · rw [e]; simp [rootFr]
    · exact HL.out _ hm
  have HF2 := Lib.hid hF2; have HYL := Lib.hid hYL; have HYl := Lib.hid hYl
  have hFl : Hid (F2.length = Y.length) := by
    have := congrArg List.length hF2
    simpa [Hid] using this
  have HL2 : Hid (∀ x ∈ F2, x.1.path.length ≤ 17592186044416) := by
    intro x hx
    exact HYL.out x.1 (by rw [← HF2.out]; exact List.mem_map_of_mem hx)
  have HB48 : Hid (F2.length * 48 ≤ 140737488355328) := by have := hFl.out; unfold Hid; omega
  have HTW := HT1
  clear hS2 hF2 hYL hYl hY HT1 HX1
  go_wp2_with fail
  refine (frames_any _ b v2 F2 HS2.out.sp HB48.out HL2.out).mono ?_
  rintro e w3 ⟨f3, G, rfl, hs3, hG3, ho3, hp3, hq3⟩
  have HS3 := Lib.hid (HS2.out.later hs3)
  have HT3 := Lib.hid (HT2.out.keep (hs3.mono (fun _ h => h.elim)))
  have HG3 := Lib.hid (hG3.trans HF2.out)
  have HO3 := Lib.hid ho3; have HQ3 : Hid (∀ x ∈ G, PAt w3 x.2 x.1.path) := fun x hx => (hq3 x hx).1
  have HP3 := Lib.hid hp3
  have hGl : Hid (G.length = Y.length) := by
    have := congrArg List.length hG3
    have h2 := hFl.out
    simp at this
    unfold Hid; omega
  have HFT : Hid (∀ k, f3.ownBlock = some k → ¬ foot b v2 k) := by
    intro k hk hf
    have h1 := hp3 k hk
    have h2 := foot_lt HS2.out.sp k hf
    omega
  obtain ⟨fa, fc, rfl, _, _⟩ := own_shape ho3
  clear hs3 hG3 ho3 hp3 hq3 HS2 HT2
  go_wp2_with fail
  refine (move_any _ b v2 F2 HS3.out.sp _ T w1.heap.size HT3.out HS3.out.hi (by omega) (by have := HB48.out; omega)).mono ?_
  rintro e w4 hm
  have hm2 : ∃ (ec : Int) (F4 : List FV), e = .returned (.int .i64 ec) ∧ SpAt w4 b v2 F4 ∧ Turned (foot b v2) w3 w4 ∧ F4.length = F2.length ∧ (∀ x ∈ F4, x.1.path.length ≤ 17592186044416) ∧
      ((ec = 0 ∧ T.length = Y.length ∧ neg T = false ∧ F4.map (·.1) = mvF Y T) ∨ (ec = (if T.length = Y.length then 141 else 1) ∧ (T.length = Y.length → neg T = true) ∧ F4.map (·.1) = Y)) := by
    rcases hm with ⟨he, hb, hs, ht⟩ | ⟨he, hlen, hb, hs, ht⟩
    · rw [hFl.out] at he hb
      exact ⟨_, F2, he, hs, ht.mono (fun _ h => h.elim), rfl, HL2.out, .inr ⟨rfl, fun h => (neg_iff T).2 (hb h), HF2.out⟩⟩
    · refine ⟨0, _, he, hs, ht, mv_length _ _ _, fun x hx => ?_, .inl ⟨rfl, hlen.trans hFl.out, ?_, mv_full F2 T Y HF2.out⟩⟩
      · obtain ⟨y, hy, _, e⟩ := mv_mem hx
        rw [e]; exact HL2.out y hy
      · rw [Bool.eq_false_iff]
        intro h
        obtain ⟨a, ha, h0⟩ := (neg_iff T).1 h
        have := hb a ha
        omega
  obtain ⟨ec, F4, rfl, hs4, ht4, hl4, hp4, hD⟩ := hm2
  have HD := Lib.hid hD
  have HS4 := Lib.hid hs4
  have HL4 := Lib.hid hp4
  have hF4l : Hid (F4.length = Y.length) := hl4.trans hFl.out
  have HB4 : Hid (F4.length * 48 ≤ 140737488355328) := by have := hF4l.out; have := hFl.out; have := HB48.out; unfold Hid; omega
  have HO4 := Lib.hid (World.ownsRow.turned HO3.out ht4 HFT.out)
  have HQ4 : Hid (∀ x ∈ G, PAt w4 x.2 x.1.path) := fun x hx => (HQ3.out x hx).turned ht4 (fun k hk hf => by
    have := HS3.out.sp
    rcases hf with rfl | hf
    · rcases HQ3.out x hx with ⟨e, _⟩ | ⟨g, e, hg⟩
      · rw [e] at hk; simp [Value.ownBlock] at hk
      · rw [e] at hk
        obtain rfl : g = k := by simpa [Value.ownBlock] using hk
        exact Blk.ne_ hg this.blk (by decide) rfl
    · exact pat_own_ne (HQ3.out x hx) this.own k hk hf)
  have HSW : Hid (Same w1 w4) := HS3.out.same.trans ht4 (fun i hi => .inr (HS3.out.hi i hi))
  have HT4 := Lib.hid (HT3.out.keep (ht4.mono (fun k hk => HS3.out.hi k hk)))
  have HB3 : Hid (∀ k, (Value.slice fa G.length fc).ownBlock = some k → w2.heap.size ≤ k ∧ k < w4.heap.size) := fun k hk => ⟨HP3.out k hk, (HO4.out.lt k hk).2⟩
  clear hm hs4 ht4 hl4 hp4 hD HO3 HQ3 HFT HT3
  go_wp2_with fail
  refine (frames_any _ b v2 F4 HS4.out HB4.out HL4.out).mono ?_
  rintro e w5 ⟨n5, N, rfl, hs5, hN5, ho5, hp5, hq5⟩
  obtain ⟨na, nc, rfl, _, _⟩ := own_shape ho5
  have hNl : N.length = Y.length := by
    have := congrArg List.length hN5
    have h2 := hF4l.out
    simp at this
    omega
  have HT5 := Lib.hid (HT4.out.keep (hs5.mono (fun _ h => h.elim)))
  have HM5 : Hid (MG w1 w5 (.slice fa G.length fc) (.slice na N.length nc) G N) := ⟨World.ownsRow.turned HO4.out hs5 (fun _ _ h => h), fun x hx => (HQ4.out x hx).turned hs5 (fun _ _ h => h), ho5, fun x hx => (hq5 x hx).1,
    fun k hk => ⟨by have := HW12.out; have := HP3.out k hk; omega, fun hn => by have := (HB3.out k hk).2; have := hp5 k hn; omega⟩, HSW.out.trans hs5 (fun _ h => h.elim)⟩
  have HN5 := Lib.hid hN5
  have hGl' : G.length = Y.length := hGl.out
  have hNlH := Lib.hid hNl
  rw [hNl, hGl'] at HM5
  rw [hNl, hGl']
  have hyx : (Y.length : Int) = (X.length : Int) + 1 := by have := HYl.out; omega
  clear hs5 hN5 ho5 hp5 hq5 HO4 HQ4 HT4 HB3 hNl hGl'
  go_wp2_with fail
  go_loopw [12, 13] (fun f i wr => ∃ k : Nat, k ≤ T.length ∧ i = .int .i64 k ∧ f = .bool (neg (T.take k)) ∧ Hid (Same w5 wr)) (fun _ i _ => T.length - (intOf i).toNat)
  case atStart => exact ⟨0, Nat.zero_le _, rfl, rfl, Turned.refl _ _⟩
  case round =>
    obtain ⟨k, hk, rfl, rfl, HV⟩ := hrel
    by_cases hlt : k < T.length
    · obtain ⟨A2, c2, ea, hA⟩ := HT5.out.keep (HV.out.mono (fun _ h => h.elim))
      injection ea with e1 _ e2
      subst e1; subst e2
      obtain ⟨bl, off, rfl, hbl, hc⟩ := hA (by omega)
      have hd := hc k hlt
      have HNg : Hid (neg (T.take (k + 1)) = (neg (T.take k) || decide (T[k] < 0))) := by
        unfold Hid neg
        rw [List.take_succ_eq_append_getElem hlt, List.any_append]
        simp
      obtain ⟨x, hx⟩ : ∃ x, x = T[k] := ⟨_, rfl⟩
      rw [← hx] at hd HNg
      clear hc hA hx
      have hk0 : (0 : Int) ≤ k := by omega
      have hk1 : (k : Int) < T.length := by omega
      obtain ⟨q, hq⟩ : ∃ q, q = neg (T.take k) := ⟨_, rfl⟩
      rw [← hq] at HNg ⊢
      clear hq
      cases q
      · by_cases hx0 : x < 0
        · go_wp2_with fail
          go_roundw
          case rel => exact ⟨k + 1, by omega, by go_num, by rw [HNg.out]; simp [hx0], HV.out⟩
          case measure => simp [intOf]; omega
        · go_wp2_with fail
          go_roundw
          case rel => exact ⟨k + 1, by omega, by go_num, by rw [HNg.out]; simp [hx0], HV.out⟩
          case measure => simp [intOf]; omega
      · go_wp2_with fail
        go_roundw
        case rel => exact ⟨k + 1, by omega, by go_num, by rw [HNg.out]; simp, HV.out⟩
        case measure => simp [intOf]; omega
    · have hkk : k = T.length := by omega
      subst hkk
      have htl : neg (T.take T.length) = neg T := by rw [List.take_length]
      rw [htl]
      clear htl
      have HM6 := Lib.hid (HM5.out.later HV.out)
      have HT6 := Lib.hid (HT5.out.keep (HV.out.mono (fun _ h => h.elim)))
      have hN := HN5.out
      rcases HD.out with ⟨rfl, hT, hng, hF4⟩ | ⟨he, hng, hF4⟩
      · rw [hng]
        have hTI : (T.length : Int) = (X.length : Int) + 1 := by omega
        have HF4 := Lib.hid (hN.trans hF4)
        clear hN hF4 hng
        go_wp2_with fail
        go_loopw [15] (fun i wr => ∃ k : Nat, k ≤ Y.length ∧ i = .int .i64 k ∧ Hid (MG w1 wr (.slice fa Y.length fc) (.slice na Y.length nc) (mv k G T) N)) (fun i _ => Y.length - (intOf i).toNat)
        case atStart => exact ⟨0, Nat.zero_le _, rfl, by rw [mv_zero]; exact HM6.out⟩
        case round =>
          obtain ⟨k, hk, rfl, HW⟩ := hrel
          by_cases hlt : k < Y.length
          · have hkT : k < T.length := by omega
            obtain ⟨A2, c2, ea, hA⟩ := HTW.out.keep (HW.out.same.mono (fun _ h => h.elim))
            injection ea with e1 _ e2
            subst e1; subst e2
            obtain ⟨bl, off, rfl, hbl, hc⟩ := hA (by omega)
            have hd := hc k hkT
            have hml : (mv k G T).length = Y.length := (mv_length k G T).trans hGl.out
            have hown := HW.out.own
            rw [hml] at hown
            obtain ⟨g, cap, hv, _, hg⟩ := hown.form (by omega)
            obtain ⟨rfl, rfl⟩ : fa = some ⟨g, 0, none⟩ ∧ fc = cap := by simpa using hv
            have hcell := hown.cells (g := g) rfl _ _ (fall_at (mv k G T) k (by omega)).1
            have hfz := hown.frozenAt (k * 4)
            simp only [Addr.add_lit, Nat.zero_add] at hcell
            have hGk : k < G.length := by have := hGl.out; omega
            have HW2 : Hid (∀ u, MG w1 (wr.setCell ⟨g, k * 4, none⟩ (.int .i64 u)) (.slice (some ⟨g, 0, none⟩) Y.length fc) (.slice na Y.length nc) ((mv k G T).set k (toNode G[k] u)) N) := by
              intro u
              have h1 := HW.out
              rw [← hml] at h1
              have h2 := h1.node_ k (by omega) u
              rw [mv_at k G T hGk, hml] at h2
              exact h2
            obtain ⟨x, hx⟩ : ∃ x, x = T[k]'hkT := ⟨_, rfl⟩
            rw [← hx] at hd
            have HX := Lib.hid hx
            obtain ⟨y, hy⟩ : ∃ y, wr.cell? ⟨g, k * 4, none⟩ = some (.int .i64 y) := ⟨_, hcell⟩
            clear hc hA hx hv hcell hown hml
            have hk0 : (0 : Int) ≤ k := by omega
            have hk1 : (k : Int) < Y.length := by omega
            have hk2 : (k : Int) < T.length := by omega
            have hk3 : (k : Int) < (X.length : Int) + 1 := by omega
            go_wp2_with fail
            exact ⟨⟨k + 1, by omega, by go_num, by rw [mv_succ k G T hGk hkT, ← HX.out]; exact HW2.out x⟩, by simp [intOf]; omega⟩
          · have hkk : k = Y.length := by omega
            subst hkk
            have h1 := HW.out
            rw [← hGl.out] at h1
            have hG9 : Hid ((mv G.length G T).map (·.1) = mvF Y T) := mv_full G T Y HG3.out
            have h9l : (mvF Y T).length = Y.length := by simp [mvF]
            have hpl : ∀ x ∈ mvF Y T, x.path.length ≤ 17592186044416 := by
              intro x hx
              rw [← HN5.out.symm.trans HF4.out] at hx
              obtain ⟨y, hy, rfl⟩ := List.mem_map.1 hx
              exact HL4.out y hy
            have HPL := Lib.hid hpl
            have HA : Hid (FRd wr (.slice fa Y.length fc) (mvF Y T)) := by
              have := FRd.of_own HW.out.own (fun x hx => PAt.rd (HW.out.ownp x hx))
              rw [← hGl.out] at this
              rw [hG9.out] at this
              rw [hGl.out] at this
              exact this
            have HB : Hid (FRd wr (.slice na Y.length nc) (mvF Y T)) := by
              have := FRd.of_own HW.out.nown (fun x hx => PAt.rd (HW.out.nownp x hx))
              rw [HF4.out] at this
              exact this
            clear h1 hpl
            go_wp2_with fail
            refine (sameFrames_any _ _ _ (mvF Y T) HA.out HB.out (by omega) (fun x hx => by have := HPL.out x hx; omega)).mono ?_
            rintro e w7 ⟨rfl, hs7⟩
            go_wp2_with fail
            all_goals go_ret
            all_goals exact ⟨rfl, (H1.out.trans (HW.out.same.trans hs7 (fun _ h => h.elim)) (fun _ h => h.elim)).below (Nat.le_refl _) (fun _ h => h.elim)⟩
      · have HFG : Hid (N.map (·.1) = Y) := hN.trans hF4
        have HA : Hid (FRd wr (.slice fa Y.length fc) Y) := by
          have := FRd.of_own HM6.out.own (fun x hx => PAt.rd (HM6.out.ownp x hx))
          rw [HG3.out] at this
          exact this
        have HB : Hid (FRd wr (.slice na Y.length nc) Y) := by
          have := FRd.of_own HM6.out.nown (fun x hx => PAt.rd (HM6.out.nownp x hx))
          rw [HFG.out] at this
          exact this
        by_cases hT : T.length = Y.length
        · rw [if_pos hT] at he
          subst he
          rw [hng hT]
          have hTI : (T.length : Int) = (X.length : Int) + 1 := by omega
          clear hng
          go_wp2_with fail
          all_goals
            refine (sameFrames_any _ _ _ Y HA.out HB.out (by omega) (fun x hx => by have := HYL.out x hx; omega)).mono ?_
            rintro e w7 ⟨rfl, hs7⟩
            go_wp2_with fail
          all_goals go_ret
          all_goals exact ⟨rfl, (H1.out.trans (HM6.out.same.trans hs7 (fun _ h => h.elim)) (fun _ h => h.elim)).below (Nat.le_refl _) (fun _ h => h.elim)⟩
        · rw [if_neg hT] at he
          subst he
          have hTI : (T.length : Int) ≠ (X.length : Int) + 1 := by omega
          clear hng
          go_wp2_with fail
          all_goals
            refine (sameFrames_any _ _ _ Y HA.out HB.out (by omega) (fun x hx => by have := HYL.out x hx; omega)).mono ?_
            rintro e w7 ⟨rfl, hs7⟩
            go_wp2_with fail
          all_goals go_ret
          all_goals exact ⟨by first | rfl | exact ret_bool (by simpa using hTI), (H1.out.trans (HM6.out.same.trans hs7 (fun _ h => h.elim)) (fun _ h => h.elim)).below (Nat.le_refl _) (fun _ h => h.elim)⟩
end Go.Proofs.Ythfhjopofpffgaa

/-
  The walk of Move.
-/
import Derived.Test.YthfhjopofpffgaaFrames
import Derived.Laws.OwnMore
namespace Go.Proofs.Ythfhjopofpffgaa
open Go.RowKit

def toNode (x : FV) (a : Int) : FV := ({ x.1 with node := a }, x.2)
/-- The first k frames have their new addresses. -/
def mv (k : Nat) (F : List FV) (T : List Int) : List FV := F.mapIdx fun i x => if i < k then toNode x (T.getD i 0) else x
theorem mv_zero (F : List FV) (T : List Int) : mv 0 F T = F := by
  unfold mv; simp only [Nat.not_lt_zero, if_false]; apply List.ext_getElem <;> simp
theorem mv_length (k : Nat) (F : List FV) (T : List Int) : (mv k F T).length = F.length := by simp [mv]
theorem mv_succ (k : Nat) (F : List FV) (T : List Int) (h : k < F.length) (hT : k < T.length) : mv (k + 1) F T = (mv k F T).set k (toNode F[k] T[k]) := by
  apply List.ext_getElem
  · simp [mv]
  · intro i h1 h2
    simp only [mv, List.getElem_mapIdx, List.getElem_set]
    by_cases he : k = i
    · subst he; simp [hT]
    · rw [if_neg he]
      by_cases hlt : i < k
      · rw [if_pos (by omega), if_pos hlt]
      · rw [if_neg (by omega), if_neg hlt]
theorem mv_at (k : Nat) (F : List FV) (T : List Int) (h : k < F.length) : (mv k F T)[k]'(by rw [mv_length]; exact h) = F[k] := by
  simp [mv]
theorem mv_mem {k : Nat} {F : List FV} {T : List Int} {x : FV} (h : x ∈ mv k F T) : ∃ y ∈ F, x.2 = y.2 ∧ x.1.path = y.1.path := by
  unfold mv at h
  rw [List.mem_mapIdx] at h
  obtain ⟨i, hi, rfl⟩ := h
  refine ⟨F[i], List.getElem_mem _, ?_, ?_⟩ <;> split <;> rfl
theorem fall_node : ∀ (F : List FV) (k : Nat) (h : k < F.length) (a : Int), fall (F.set k (toNode F[k] a)) = (fall F).set (k * 4) (.int .i64 a)
  | [], k, h, a => by simp at h
  | x :: r, 0, h, a => rfl
  | x :: r, k + 1, h, a => by
    have ih := fall_node r k (by simpa using h) a
    have e : ∀ (y : FV) (q : List FV), fall (y :: q) = .int .i64 y.1.node :: .bool y.1.whole :: .int .i64 y.1.next :: y.2 :: fall q := fun y q => by simp [fall, fcells]
    rw [List.getElem_cons_succ, List.set_cons_succ, e, e, ih, show (k + 1) * 4 = k * 4 + 1 + 1 + 1 + 1 from by omega]
    simp only [List.set_cons_succ]
def mvF (X : List Fr) (T : List Int) : List Fr := X.mapIdx fun i x => { x with node := T.getD i 0 }
theorem mv_full (F : List FV) (T : List Int) (X : List Fr) (h : F.map (·.1) = X) : (mv F.length F T).map (·.1) = mvF X T := by
  subst h
  apply List.ext_getElem
  · simp [mv, mvF]
  · intro i h1 h2
    have hi : i < F.length := by simpa [mv] using h1
    simp [mv, mvF, hi, toNode]

theorem SpAt.node_ {w : World} {b g c : Nat} {F : List FV} (h : SpAt w b (.slice (some ⟨g, 0, none⟩) F.length c) F) (k : Nat) (hk : k < F.length) (a : Int) :
    SpAt (w.setCell ⟨g, k * 4, none⟩ (.int .i64 a)) b (.slice (some ⟨g, 0, none⟩) F.length c) (F.set k (toNode F[k] a)) := by
  have ht : Turned (fun j => j = g) w (w.setCell ⟨g, k * 4, none⟩ (.int .i64 a)) := (Turned.refl (fun j => j = g) w).setCell (p := ⟨g, k * 4, none⟩) (.inl rfl) _
  refine ⟨h.blk.turned ht (fun e => own_blk_ne h.own h.blk (by decide) (by rw [e]; rfl)), ?_, fun x hx => ?_⟩
  · rw [fall_node F k hk a, List.length_set]
    exact (h.own.stored (k * 4) _).1
  · have : PAt w x.2 x.1.path := by
      obtain ⟨i, hi, rfl⟩ := List.mem_iff_getElem.1 hx
      rw [List.getElem_set]
      split
      · exact h.paths F[k] (List.getElem_mem hk)
      · exact h.paths _ (List.getElem_mem _)
    exact this.turned ht (fun j hj e => pat_foot this h.blk h.own j hj (.inr (by rw [e]; rfl)))

/-- A slice value that reads as a list of numbers, out of no block of S. -/
def RdS (w : World) (S : Nat → Prop) (pv : Value) (p : List Int) : Prop :=
  ∃ A c, pv = .slice A p.length c ∧ (0 < p.length → ∃ bl off, A = some ⟨bl, off, none⟩ ∧ ¬ S bl ∧ ∀ k (h : k < p.length), w.cell? ⟨bl, off + k, none⟩ = some (.int .i64 p[k]))
theorem RdS.rd {w : World} {S : Nat → Prop} {pv : Value} {p : List Int} (h : RdS w S pv p) : Rd w pv p := by
  obtain ⟨A, c, rfl, h1⟩ := h
  refine ⟨A, c, rfl, fun h0 => ?_⟩
  obtain ⟨bl, off, rfl, _, hc⟩ := h1 h0
  exact ⟨bl, off, rfl, hc⟩
theorem RdS.keep {w w' : World} {S : Nat → Prop} {pv : Value} {p : List Int} (h : RdS w S pv p) (ht : Turned S w w') : RdS w' S pv p := by
  obtain ⟨A, c, rfl, h1⟩ := h
  refine ⟨A, c, rfl, fun h0 => ?_⟩
  obtain ⟨bl, off, rfl, hb, hc⟩ := h1 h0
  exact ⟨bl, off, rfl, hb, fun k hk => (ht.cell (p := ⟨bl, off + k, none⟩) (World.block_lt_of_cell? w _ (hc k hk)) hb).trans (hc k hk)⟩
theorem RdS.same {w w' : World} {S : Nat → Prop} {pv : Value} {p : List Int} (h : RdS w S pv p) (ht : Same w w') : RdS w' S pv p := h.keep (ht.mono (fun _ h => h.elim))
theorem ROld.rds {w : World} {B : Nat} {S : Nat → Prop} {pv : Value} {p : List Int} (h : ROld w B pv p) (hS : ∀ k, S k → B ≤ k) : RdS w S pv p := by
  obtain ⟨A, c, rfl, h1⟩ := h
  refine ⟨A, c, rfl, fun h0 => ?_⟩
  obtain ⟨bl, off, rfl, hb, hc⟩ := h1 h0
  exact ⟨bl, off, rfl, fun hs => by have := hS bl hs; omega, hc⟩
theorem Rd.rds {w : World} {S : Nat → Prop} {pv : Value} {p : List Int} (h : Rd w pv p) (hn : ∀ k, pv.ownBlock = some k → ¬ S k) : RdS w S pv p := by
  obtain ⟨A, c, rfl, h1⟩ := h
  refine ⟨A, c, rfl, fun h0 => ?_⟩
  obtain ⟨bl, off, rfl, hc⟩ := h1 h0
  exact ⟨bl, off, rfl, hn bl rfl, hc⟩

set_option maxHeartbeats 2000000 in
theorem move_rds (w : World) (b : Nat) (v : Value) (F : List FV) (h : SpAt w b v F) (tv : Value) (T : List Int) (hT : RdS w (foot b v) tv T) (hl : T.length ≤ 17592186044416) (_hF : F.length ≤ 17592186044416) :
    Calls Try.prog 23 #[.pointer (some ⟨b, 0, none⟩), tv] w fun e w' =>
      (e = .returned (.int .i64 (if T.length = F.length then 141 else 1)) ∧ (T.length = F.length → ∃ a ∈ T, a < 0) ∧ SpAt w' b v F ∧ Same w w') ∨
      (e = .returned (.int .i64 0) ∧ T.length = F.length ∧ (∀ a ∈ T, 0 ≤ a) ∧ SpAt w' b v (mv F.length F T) ∧ Turned (foot b v) w w') := by
  have H := Lib.hid h; have HT := Lib.hid hT
  obtain ⟨sa, sc, rfl, h1, h2⟩ := own_shape h.own
  obtain ⟨A, c, rfl, hA⟩ := hT
  have c0 := h.blk.cell 0
  simp at c0
  clear h hA
  by_cases hlen : T.length = F.length
  · have hlenI : (T.length : Int) = F.length := by omega
    go_enter Try.func23, Try.ntmps23
    go_wp2_with fail
    go_loopw [23] (fun i wr => ∃ k : Nat, k ≤ T.length ∧ i = .int .i64 k ∧ Hid ((∀ j (h : j < T.length), j < k → 0 ≤ T[j]) ∧ Same w wr)) (fun i _ => T.length - (intOf i).toNat)
    case atStart => exact ⟨0, Nat.zero_le _, rfl, fun j _ h => absurd h (Nat.not_lt_zero _), Turned.refl _ _⟩
    case round =>
      obtain ⟨k, hk, rfl, HV⟩ := hrel
      by_cases hlt : k < T.length
      · obtain ⟨A2, c2, ea, hA⟩ := HT.out.keep (HV.out.2.mono (fun _ h => h.elim))
        injection ea with e1 _ e2
        subst e1; subst e2
        obtain ⟨bl, off, rfl, hbl, hc⟩ := hA (by omega)
        have hd := hc k hlt
        obtain ⟨x, hx⟩ : ∃ x, x = T[k] := ⟨_, rfl⟩
        rw [← hx] at hd
        have HX := Lib.hid hx
        clear hc hA hx
        have hk0 : (0 : Int) ≤ k := by omega
        have hk1 : (k : Int) < T.length := by omega
        by_cases hx0 : x < 0
        · go_wp2_with fail
          go_ret
          exact .inl ⟨rfl, ⟨x, by rw [HX.out]; exact List.getElem_mem _, hx0⟩, H.out.same HV.out.2, HV.out.2⟩
        · go_wp2_with fail
          go_roundw
          case rel =>
            refine ⟨k + 1, by omega, by go_num, fun j h hj => ?_, HV.out.2⟩
            by_cases he : j = k
            · subst he; rw [← HX.out]; omega
            · exact HV.out.1 j h (by omega)
          case measure => simp [intOf]; omega
      · have hkk : k = T.length := by omega
        subst hkk
        have HP : Hid (∀ a ∈ T, 0 ≤ a) := by
          intro a ha
          obtain ⟨i, hi, rfl⟩ := List.mem_iff_getElem.1 ha
          exact HV.out.1 i hi hi
        go_wp2_with fail
        go_loopw [32] (fun i wr => ∃ k : Nat, k ≤ F.length ∧ i = .int .i64 k ∧ Hid (SpAt wr b (.slice sa F.length sc) (mv k F T) ∧ Turned (foot b (.slice sa F.length sc)) w wr)) (fun i _ => F.length - (intOf i).toNat)
        case atStart => exact ⟨0, Nat.zero_le _, rfl, by rw [mv_zero]; exact H.out.same HV.out.2, HV.out.2.mono (fun _ h => h.elim)⟩
        case round =>
          obtain ⟨k, hk, rfl, HW⟩ := hrel
          by_cases hlt : k < F.length
          · have hkT : k < T.length := by omega
            obtain ⟨A2, c2, ea, hA⟩ := HT.out.keep HW.out.2
            injection ea with e1 _ e2
            subst e1; subst e2
            obtain ⟨bl, off, rfl, hbl, hc⟩ := hA (by omega)
            have hd := hc k hkT
            have hml := mv_length k F T
            have hown := HW.out.1.own
            rw [hml] at hown
            obtain ⟨g, cap, hv, _, hg⟩ := hown.form (by omega)
            obtain ⟨rfl, rfl⟩ : sa = some ⟨g, 0, none⟩ ∧ sc = cap := by simpa using hv
            have q0 := HW.out.1.blk.cell 0
            simp at q0
            have hcell := hown.cells (g := g) rfl _ _ (fall_at (mv k F T) k (by omega)).1
            have hfz := hown.frozenAt (k * 4)
            simp only [Addr.add_lit, Nat.zero_add] at hcell
            have HW2 : Hid (∀ u, SpAt (wr.setCell ⟨g, k * 4, none⟩ (.int .i64 u)) b (.slice (some ⟨g, 0, none⟩) F.length sc) ((mv k F T).set k (toNode F[k] u)) ∧ Turned (foot b (.slice (some ⟨g, 0, none⟩) F.length sc)) w (wr.setCell ⟨g, k * 4, none⟩ (.int .i64 u))) := by
              intro u
              have h1 := HW.out.1
              rw [← hml] at h1
              have h2 := h1.node_ k (by omega) u
              rw [mv_at k F T hlt, hml] at h2
              exact ⟨h2, HW.out.2.setCell (p := ⟨g, k * 4, none⟩) (.inl (.inr rfl)) _⟩
            obtain ⟨x, hx⟩ : ∃ x, x = T[k]'hkT := ⟨_, rfl⟩
            rw [← hx] at hd
            have HX := Lib.hid hx
            obtain ⟨y, hy⟩ : ∃ y, wr.cell? ⟨g, k * 4, none⟩ = some (.int .i64 y) := ⟨_, hcell⟩
            clear hc hA hx hv hcell hown hml
            have hk0 : (0 : Int) ≤ k := by omega
            have hk1 : (k : Int) < F.length := by omega
            go_wp2_with fail
            exact ⟨⟨k + 1, by omega, by go_num, by rw [mv_succ k F T hlt hkT, ← HX.out]; exact (HW2.out x).1, (HW2.out x).2⟩, by simp [intOf]; omega⟩
          · have hkk : k = F.length := by omega
            subst hkk
            go_wp2_with fail
            go_ret
            exact .inr ⟨rfl, HP.out, HW.out.1, HW.out.2⟩
  · have hlenI : (T.length : Int) ≠ F.length := by omega
    go_enter Try.func23, Try.ntmps23
    go_wp2_with fail
    go_ret
    exact ⟨rfl, H.out, Turned.refl _ _⟩
theorem move_any (w : World) (b : Nat) (v : Value) (F : List FV) (h : SpAt w b v F) (tv : Value) (T : List Int) (N : Nat) (hT : ROld w N tv T) (hN : ∀ k, foot b v k → N ≤ k) (hl : T.length ≤ 17592186044416) (hF : F.length ≤ 17592186044416) :
    Calls Try.prog 23 #[.pointer (some ⟨b, 0, none⟩), tv] w fun e w' =>
      (e = .returned (.int .i64 (if T.length = F.length then 141 else 1)) ∧ (T.length = F.length → ∃ a ∈ T, a < 0) ∧ SpAt w' b v F ∧ Same w w') ∨
      (e = .returned (.int .i64 0) ∧ T.length = F.length ∧ (∀ a ∈ T, 0 ≤ a) ∧ SpAt w' b v (mv F.length F T) ∧ Turned (foot b v) w w') :=
  move_rds w b v F h tv T (hT.rds hN) hl hF
end Go.Proofs.Ythfhjopofpffgaa

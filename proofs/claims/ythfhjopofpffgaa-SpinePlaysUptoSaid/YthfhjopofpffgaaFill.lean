/-
  Frames that came in; the walk of filled; what a spine of the law's own is good for.
-/
import Derived.Test.YthfhjopofpffgaaSame
namespace Go.Proofs.Ythfhjopofpffgaa
open Go.RowKit

def ROld (w : World) (B : Nat) (pv : Value) (p : List Int) : Prop :=
  ∃ A c, pv = .slice A p.length c ∧ (0 < p.length → ∃ bl off, A = some ⟨bl, off, none⟩ ∧ bl < B ∧ ∀ k (h : k < p.length), w.cell? ⟨bl, off + k, none⟩ = some (.int .i64 p[k]))
theorem ROld.rd {w : World} {B : Nat} {pv : Value} {p : List Int} (h : ROld w B pv p) : Rd w pv p := by
  obtain ⟨A, c, rfl, h1⟩ := h
  refine ⟨A, c, rfl, fun h0 => ?_⟩
  obtain ⟨bl, off, rfl, _, hc⟩ := h1 h0
  exact ⟨bl, off, rfl, hc⟩
theorem ROld.keep {w w' : World} {B : Nat} {pv : Value} {p : List Int} (h : ROld w B pv p) (ht : Turned (fun i => B ≤ i) w w') : ROld w' B pv p := by
  obtain ⟨A, c, rfl, h1⟩ := h
  refine ⟨A, c, rfl, fun h0 => ?_⟩
  obtain ⟨bl, off, rfl, hb, hc⟩ := h1 h0
  exact ⟨bl, off, rfl, hb, fun k hk => (ht.cell (p := ⟨bl, off + k, none⟩) (World.block_lt_of_cell? w _ (hc k hk)) (fun h => by simp at h; omega)).trans (hc k hk)⟩
def FOld (w : World) (B : Nat) (v : Value) (X : List Fr) : Prop :=
  ∃ A c, v = .slice A X.length c ∧ (0 < X.length → ∃ bl off, A = some ⟨bl, off, none⟩ ∧ bl < B ∧ ∀ k (h : k < X.length), w.cell? ⟨bl, off + k * 4, none⟩ = some (.int .i64 X[k].node) ∧ w.cell? ⟨bl, off + k * 4 + 1, none⟩ = some (.bool X[k].whole) ∧ w.cell? ⟨bl, off + k * 4 + 2, none⟩ = some (.int .i64 X[k].next) ∧
    ∃ pv, w.cell? ⟨bl, off + k * 4 + 3, none⟩ = some pv ∧ ROld w B pv X[k].path)
theorem FOld.keep {w w' : World} {B : Nat} {v : Value} {X : List Fr} (h : FOld w B v X) (ht : Turned (fun i => B ≤ i) w w') : FOld w' B v X := by
  obtain ⟨A, c, rfl, h1⟩ := h
  refine ⟨A, c, rfl, fun h0 => ?_⟩
  obtain ⟨bl, off, rfl, hb, hc⟩ := h1 h0
  refine ⟨bl, off, rfl, hb, fun k hk => ?_⟩
  obtain ⟨c0, c1, c2, pv, c3, hR⟩ := hc k hk
  have hl := World.block_lt_of_cell? w _ c0
  have hn : ¬ B ≤ bl := by omega
  exact ⟨(ht.cell (p := ⟨bl, off + k * 4, none⟩) hl hn).trans c0, (ht.cell (p := ⟨bl, off + k * 4 + 1, none⟩) hl hn).trans c1, (ht.cell (p := ⟨bl, off + k * 4 + 2, none⟩) hl hn).trans c2, pv, (ht.cell (p := ⟨bl, off + k * 4 + 3, none⟩) hl hn).trans c3, hR.keep ht⟩
theorem FOld.same {w w' : World} {B : Nat} {v : Value} {X : List Fr} (h : FOld w B v X) (ht : Same w w') : FOld w' B v X := h.keep (ht.mono (fun _ h => h.elim))

/-- A spine of the law's own: of what was there in w nothing has turned. -/
structure SI (w wr : World) (b : Nat) (v : Value) (F : List FV) : Prop where
  sp : SpAt wr b v F
  same : Same w wr
  hi : ∀ k, foot b v k → w.heap.size ≤ k
  hp : ∀ k, pblocks F k → w.heap.size ≤ k
section
variable {w wr w' : World} {b : Nat} {v v' : Value} {F : List FV}
theorem SI.later (h : SI w wr b v F) (ht : Same wr w') : SI w w' b v F := ⟨h.sp.same ht, h.same.trans ht (fun _ h => h.elim), h.hi, h.hp⟩
theorem SI.push {f : Fr} {pv' : Value} (h : SI w wr b v F) (hs : SpAt w' b v' (F ++ [(f, pv')])) (ht : Turned (foot b v) wr w') (hv : v'.ownBlock = v.ownBlock ∨ ∃ k, v'.ownBlock = some k ∧ wr.heap.size ≤ k)
    (hq : ∃ g, pv' = .slice (some ⟨g, 0, none⟩) f.path.length f.path.length ∧ wr.heap.size ≤ g) : SI w w' b v' (F ++ [(f, pv')]) := by
  refine ⟨hs, h.same.trans ht (fun i hi => .inr (h.hi i hi)), fun k hk => ?_, fun k hk => ?_⟩
  · rcases hk with rfl | hk
    · exact h.hi _ (.inl rfl)
    · rcases hv with e | ⟨j, e, hj⟩
      · exact h.hi k (.inr (by rw [← e]; exact hk))
      · rw [e] at hk
        obtain rfl : j = k := by simpa using hk
        exact Nat.le_trans h.same.size hj
  · obtain ⟨x, hx, hk⟩ := hk
    rw [List.mem_append] at hx
    rcases hx with hx | hx
    · exact h.hp k ⟨x, hx, hk⟩
    · obtain rfl : x = _ := by simpa using hx
      obtain ⟨g, e, hg⟩ := hq
      simp only at hk
      rw [e] at hk
      obtain rfl : g = k := by simpa [Value.ownBlock] using hk
      exact Nat.le_trans h.same.size hg
theorem SI.pop {x : FV} (h : SI w wr b v (F ++ [x])) (hs : SpAt w' b v' F) (ht : Turned (fun k => k = b) wr w') (hv : v'.ownBlock = v.ownBlock) : SI w w' b v' F := by
  refine ⟨hs, h.same.trans ht (fun i hi => .inr (h.hi i (.inl hi))), fun k hk => ?_, fun k hk => ?_⟩
  · rcases hk with rfl | hk
    · exact h.hi _ (.inl rfl)
    · exact h.hi k (.inr (by rw [← hv]; exact hk))
  · obtain ⟨y, hy, hk⟩ := hk
    exact h.hp k ⟨y, by simp [hy], hk⟩
theorem SI.turn {x : FV} {f : Fr} {pv' : Value} (h : SI w wr b v (F ++ [x])) (hs : SpAt w' b v (F ++ [(f, pv')])) (ht : Turned (foot b v) wr w')
    (hq : ∃ g, pv' = .slice (some ⟨g, 0, none⟩) f.path.length f.path.length ∧ wr.heap.size ≤ g) : SI w w' b v (F ++ [(f, pv')]) := by
  refine ⟨hs, h.same.trans ht (fun i hi => .inr (h.hi i hi)), h.hi, fun k hk => ?_⟩
  obtain ⟨y, hy, hk⟩ := hk
  rw [List.mem_append] at hy
  rcases hy with hy | hy
  · exact h.hp k ⟨y, by simp [hy], hk⟩
  · obtain rfl : y = _ := by simpa using hy
    obtain ⟨g, e, hg⟩ := hq
    simp only at hk
    rw [e] at hk
    obtain rfl : g = k := by simpa [Value.ownBlock] using hk
    exact Nat.le_trans h.same.size hg
end

def rootFr (root : Int) : Fr := ⟨root, true, 0, []⟩
theorem new_si (root : Int) (w : World) : Calls Try.prog 21 #[.int .i64 root] w fun e w' => ∃ b v, e = .returned (.pointer (some ⟨b, 0, none⟩)) ∧ SI w w' b v [(rootFr root, .slice none 0 0)] :=
  (new_any root w).mono fun _ _ ⟨b, v, he, h1, h2, h3⟩ => ⟨b, v, he, h1, h2, h3, fun k hk => by
    obtain ⟨x, hx, hk⟩ := hk
    obtain rfl : x = _ := by simpa using hx
    simp [Value.ownBlock] at hk⟩

set_option maxHeartbeats 2000000 in
theorem filled_any (w : World) (root : Int) (v : Value) (X : List Fr) (hX : FOld w w.heap.size v X) (hl : (X.length + 1) * 48 ≤ 140737488355328) (hL : ∀ x ∈ X, x.path.length ≤ 17592186044416) :
    Calls Try.prog 10 #[.int .i64 root, v] w fun e w' => ∃ b v' F, e = .returned (.pointer (some ⟨b, 0, none⟩)) ∧ SI w w' b v' F ∧ F.map (·.1) = rootFr root :: X := by
  have HX := Lib.hid hX; have HL := Lib.hid hL
  obtain ⟨A, c, rfl, hA⟩ := hX
  clear hA hL
  go_enter Try.func10, Try.ntmps10
  go_wp2_with fail
  refine (new_si root _).mono ?_
  rintro e w1 ⟨b, v1, rfl, h1⟩
  have H1 := Lib.hid h1
  clear h1
  go_wp2_with fail
  go_loopw [6] (fun i wr => ∃ k : Nat, k ≤ X.length ∧ i = .int .i64 k ∧ Hid (∃ v' F, SI w wr b v' F ∧ F.map (·.1) = rootFr root :: X.take k)) (fun i _ => X.length - (intOf i).toNat)
  case atStart => exact ⟨0, Nat.zero_le _, rfl, _, _, H1.out, rfl⟩
  case round =>
    obtain ⟨k, hk, rfl, HV⟩ := hrel
    obtain ⟨v2, F, hS, hF⟩ := HV.out
    have HS := Lib.hid hS; have HF := Lib.hid hF
    clear hS hF HV
    by_cases hlt : k < X.length
    · obtain ⟨A2, ca2, ea, hA⟩ := HX.out.same HS.out.same
      injection ea with e1 _ e2
      subst e1; subst e2
      obtain ⟨bl, off, rfl, hbl, hc⟩ := hA (by omega)
      obtain ⟨d0, d1, d2, pa, d3, ra⟩ := hc k hlt
      have hK := HL.out X[k] (List.getElem_mem _)
      obtain ⟨x, hx⟩ : ∃ x, x = X[k] := ⟨_, rfl⟩
      rw [← hx] at d0 d1 d2 ra hK
      have RA := Lib.hid ra.rd; have HK := Lib.hid hK; have HXk := Lib.hid hx
      have HFL : Hid (F.length = k + 1) := by
        have := congrArg List.length HF.out
        simp at this
        unfold Hid; omega
      clear hc hx hA ra hK hbl
      have HB : Hid ((F.length + 1) * 48 ≤ 140737488355328) := by
        have := HFL.out
        unfold Hid; omega
      have hk0 : (0 : Int) ≤ k := by omega
      have hk1 : (k : Int) < X.length := by omega
      go_wp2_with fail
      refine (push_any _ b v2 F HS.out.sp x pa RA.out HK.out HB.out).mono ?_
      rintro e w3 ⟨v3, pv3, rfl, h3, ht3, hv3, hq3⟩
      have H3 := Lib.hid (HS.out.push h3 ht3 hv3 hq3)
      clear h3 ht3 hv3 hq3
      go_wp2_with fail
      go_roundw
      case rel => exact ⟨k + 1, by omega, by go_num, v3, _, H3.out, by rw [List.map_append, HF.out, List.take_succ_eq_append_getElem hlt, ← HXk.out]; rfl⟩
      case measure => simp [intOf]; omega
    · have hF2 := HF.out
      rw [List.take_of_length_le (by omega)] at hF2
      have HF2 := Lib.hid hF2
      clear hF2
      go_wp2_with fail
      go_ret
      exact ⟨b, v2, F, rfl, HS.out, HF2.out⟩
end Go.Proofs.Ythfhjopofpffgaa

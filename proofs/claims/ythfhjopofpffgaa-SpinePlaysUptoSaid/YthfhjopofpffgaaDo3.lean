/-
  The law's 'do': the call 7.
-/
import Derived.Test.YthfhjopofpffgaaDo
import Derived.Test.YthfhjopofpffgaaBulk
namespace Go.Proofs.Ythfhjopofpffgaa
open Go.RowKit
/-- The list of frames that came out, as it is written over: the first k paths are spoiled. -/
structure FrOut (w wr : World) (p : Value) (N : List FV) (M : List FV) (k : Nat) : Prop where
  own : wr.ownsRow 0 25 4 p M.length (fall M)
  same : Same w wr
  new : ∀ j, p.ownBlock = some j → w.heap.size ≤ j
  len : M.length = N.length
  snd : ∀ i (h : i < M.length) (h' : i < N.length), M[i].2 = N[i].2
  row : ∀ i (h : i < N.length), k ≤ i → RowAt wr N[i].2 N[i].1.path
  hi : ∀ x ∈ N, ∀ j, x.2.ownBlock = some j → w.heap.size ≤ j
  ap : Apart N
theorem fall_node_ (M : List FV) (k : Nat) (h : k < M.length) (a : Int) : (fall M).set (k * 4) (.int .i64 a) = fall (M.set k (toNode M[k] a)) := (fall_node M k h a).symm
theorem FrOut.step {w wr w1 : World} {g c : Nat} {N M : List FV} {k : Nat} (hk : k < N.length) (h : FrOut w wr (.slice (some ⟨g, 0, none⟩) N.length c) N M k) (ht : Turned (fun j => N[k].2.ownBlock = some j) wr w1) :
    FrOut w (w1.setCell ⟨g, k * 4, none⟩ (.int .i64 (-9))) (.slice (some ⟨g, 0, none⟩) N.length c) N (M.set k (toNode (M[k]'(by rw [h.len]; exact hk)) (-9))) (k + 1) := by
  have hlen := h.len
  have hkM : k < M.length := by omega
  have hrk := h.row k hk (Nat.le_refl _)
  have hown1 : w1.ownsRow 0 25 4 (.slice (some ⟨g, 0, none⟩) N.length c) M.length (fall M) := World.ownsRow.turned h.own ht (fun j hj e => own_own_ne hrk h.own (by decide) j e hj)
  have hset : Turned (fun j => j = g) w1 (w1.setCell ⟨g, k * 4, none⟩ (.int .i64 (-9))) := (Turned.refl (fun j => j = g) w1).setCell (p := ⟨g, k * 4, none⟩) (.inl rfl) _
  refine ⟨?_, ?_, h.new, by simp [hlen], ?_, ?_, h.hi, h.ap⟩
  · rw [List.length_set, ← fall_node_ M k hkM (-9)]
    rw [← hlen] at hown1 ⊢
    exact (hown1.stored (k * 4) _).1
  · exact (h.same.trans ht (fun i hi => .inr (h.hi _ (List.getElem_mem hk) i hi))).trans hset (fun i hi => .inr (by subst hi; exact h.new _ rfl))
  · intro i hi hi'
    rw [List.getElem_set]
    split
    · next e => subst e; exact h.snd k hkM hk
    · exact h.snd i (by simpa using hi) hi'
  · intro i hi hki
    have hr := h.row i hi (by omega)
    have h1 : RowAt w1 N[i].2 N[i].1.path := hr.turned ht (fun j hj e => by
      have := List.pairwise_iff_getElem.1 h.ap k i hk hi (by omega) j e
      exact this hj)
    exact h1.turned hset (fun j hj e => by subst e; exact own_own_ne h1 hown1 (by decide) j hj rfl)
section
variable {w : World} {b r : Nat} {v u : Value} {F G : List FV} {X : List Fr} {B : Nat} {kind : Int} {two : Bool} {f : Fr} {pv lv : Value} {L : List Int}

set_option maxRecDepth 100000 in
set_option maxHeartbeats 4000000 in
theorem do_frames (h : Pair w b v F r u G X) (hB : ∀ k, pown b v F r u G k → B ≤ k) (hBw : B ≤ w.heap.size) (hp : ROld w B pv f.path) (hl : ROld w B lv L) (hs1 : f.path.length ≤ 4194304) (hs2 : X.length ≤ 4194304) (hs3 : (flatF X).length ≤ 4194304) :
    Calls Try.prog 25 #[.pointer (some ⟨b, 0, none⟩), .pointer (some ⟨r, 0, none⟩), opval 7 two f pv lv] w fun e w' => ∃ X', e = .returned (.bool true) ∧ Did w w' b v F r u G X' ∧ Okay X X' f := by
  have H := Lib.hid h; have HB := Lib.hid hB; have HP := Lib.hid hp; have HL := Lib.hid hl; have HBW := Lib.hid hBw
  have HFl : Hid (F.length = X.length) := by rw [← h.fx]; simp [Hid]
  have HGl : Hid (G.length = X.length) := by rw [← h.gx]; simp [Hid]
  have HR : Hid (Rd ((w.alloc (.cells (opcells 7 two f pv lv) 49)).alloc (.cells #[.int .i64 f.node, .bool f.whole, .int .i64 f.next, pv] 25)) pv f.path) := hp.rd.turned (S := fun _ => False) (((Turned.refl _ _).alloc _).alloc _) (fun _ _ h => h)
  obtain ⟨pA, pc, rfl, _⟩ := HP.out
  obtain ⟨lA, lc, rfl, _⟩ := HL.out
  clear h hB hBw hp hl
  go_enter Try.func25, Try.ntmps25
  go_wp2_with fail
  refine (lent_any _ _ f.path HR.out (by omega)).mono ?_
  rintro e w1 ⟨tv, g, rfl, hT, hs, hg⟩
  have hg2 : w.heap.size + 2 ≤ g := by simpa using hg
  obtain ⟨tc, rfl, _, _⟩ := (show LentAt w1 tv f.path g from hT)
  have hst := DoAt.start HBW.out HP.out HL.out hs hT hg2
  have HD := Lib.hid hst.1; have HS0 := Lib.hid hst.2
  have HPr := Lib.hid (H.out.same hst.2)
  obtain ⟨p0, p1, p2, p3⟩ := hst.1.fb.four
  obtain ⟨o0, o1, o2, o3, o4, o5, o6⟩ := hst.1.ob.seven
  have hfl := hst.1.fb.lt
  have hob1 : Blk w1 (w.heap.size + 1) 25 #[.int .i64 f.node, .bool f.whole, .int .i64 f.next, .slice pA f.path.length pc] := by
    have h := (Blk.new (w.alloc (.cells (opcells 7 two f (.slice pA f.path.length pc) (.slice lA L.length lc)) 49)) 25 #[.int .i64 f.node, .bool f.whole, .int .i64 f.next, .slice pA f.path.length pc]).turned hs (fun h => h)
    simpa using h
  have q3 := hob1.four.2.2.2
  have qf := fun i => hob1.frozen i
  have hlt1 := hob1.lt
  clear hst hs hT hg hob1
  obtain ⟨w2, hw2⟩ : ∃ w2, w2 = w1.setCell ⟨w.heap.size + 1, 3, none⟩ (.slice (some ⟨g, 0, none⟩) f.path.length tc) := ⟨_, rfl⟩
  rw [← hw2] at HD HS0 HPr p0 p1 p2 p3 o0 o1 o2 o3 o4 o5 o6 hfl
  have HW2 := Lib.hid hw2
  clear hw2
  have HPO : Hid (∀ k, pown b v F r u G k → B ≤ k ∧ k < w.heap.size) := fun k hk => ⟨HB.out k hk, H.out.lt k hk⟩
  go_wp2_with (first | rw [← HW2.out])
  refine (frames_sep _ b v F HPr.out.sp (by have := HFl.out; omega) (fun x hx => by have h1 := path_le_flat x.1 (show x.1 ∈ X from H.out.fx ▸ List.mem_map_of_mem hx); omega)).mono ?_
  rintro e w3 ⟨lv3, N, rfl, hs3', hN3, ho3, hn3, hp3, ha3⟩
  have HD3 := Lib.hid (HD.out.same hs3')
  have HP3 := Lib.hid (HPr.out.same hs3')
  have HNx : Hid (N.map (·.1) = X) := hN3.trans H.out.fx
  have hNl : N.length = X.length := by rw [← HNx.out]; simp
  have hNL : ∀ x ∈ N, x.1.path.length ≤ 4194304 := fun x hx => by have h1 := path_le_flat x.1 (show x.1 ∈ X from HNx.out ▸ List.mem_map_of_mem hx); omega
  have HFo : Hid (FrOut w w3 lv3 N N 0) := ⟨ho3, HS0.out.trans hs3' (fun _ h => h.elim), fun j hj => Nat.le_trans HS0.out.size (hn3 j hj), rfl, fun _ _ _ => rfl, fun i hi _ => (hp3 _ (List.getElem_mem hi)).1.row (by have := hNL _ (List.getElem_mem hi); omega), fun x hx j hj => Nat.le_trans HS0.out.size ((hp3 x hx).2 j hj), ha3⟩
  have HA3 : Hid (FRd w3 lv3 X) := by
    have := FRd.of_own ho3 (fun x hx => PAt.rd (hp3 x hx).1)
    rwa [HNx.out] at this
  have HB3 : Hid (FRd w3 u X) := by
    have := FRd.of_own HP3.out.rs.own (fun x hx => (HP3.out.rs.paths x hx).rd)
    rwa [HP3.out.gx] at this
  have HNL := Lib.hid hNL
  have HNl := Lib.hid hNl
  obtain ⟨la, lc2, rfl, _, _⟩ := own_shape ho3
  obtain ⟨ra, rc, hru, c0⟩ := r_head HP3.out.rs
  have hrl := HP3.out.rs.blk.lt
  subst hru
  clear hs3' hN3 ho3 hn3 hp3 ha3 hNl hNL
  go_wp2_with fail
  refine (sameFrames_any _ _ _ X HA3.out HB3.out (by omega) (fun x hx => by have := path_le_flat x hx; omega)).mono ?_
  rintro e w4 ⟨rfl, hs4⟩
  have HF4 : Hid (FrOut w w4 (.slice la N.length lc2) N N 0) := ⟨World.ownsRow.turned HFo.out.own hs4 (fun _ _ h => h), HFo.out.same.trans hs4 (fun _ h => h.elim), HFo.out.new, rfl, fun _ _ _ => rfl, fun i hi h0 => (HFo.out.row i hi h0).same hs4, HFo.out.hi, HFo.out.ap⟩
  have hNb : N.length ≤ 4194304 := by rw [HNl.out]; exact hs2
  clear hs4
  go_wp2_with fail
  go_loopw [19] (fun i wr => ∃ k : Nat, k ≤ N.length ∧ i = .int .i64 k ∧ Hid (∃ M, FrOut w wr (.slice la N.length lc2) N M k)) (fun i _ => N.length - (intOf i).toNat)
  case atStart => exact ⟨0, Nat.zero_le _, rfl, N, HF4.out⟩
  case round =>
    obtain ⟨k, hk, rfl, HV⟩ := hrel
    obtain ⟨M, hM⟩ := HV.out
    have HM := Lib.hid hM
    by_cases hlt : k < N.length
    · have hlen := hM.len
      have hown := hM.own
      rw [hlen] at hown
      obtain ⟨g1, cap, hv, _, hg1⟩ := hown.form (by omega)
      obtain ⟨rfl, rfl⟩ : la = some ⟨g1, 0, none⟩ ∧ lc2 = cap := by simpa using hv
      obtain ⟨d0, d1, d2, d3⟩ := fall_at M k (by omega)
      have c3 := hown.cells (g := g1) rfl _ _ d3
      rw [hM.snd k (by omega) hlt] at c3
      simp only [Addr.add_lit, Nat.zero_add] at c3
      have HR := Lib.hid (hM.row k hlt (Nat.le_refl _))
      have HKl := Lib.hid (HNL.out N[k] (List.getElem_mem _))
      have HMl := Lib.hid hlen
      obtain ⟨y, hy⟩ : ∃ y, y = N[k] := ⟨_, rfl⟩
      rw [← hy] at c3 HR HKl
      have HY := Lib.hid hy
      obtain ⟨f1, pv1⟩ := y
      simp only at c3 HR HKl
      obtain ⟨pa1, pc1, rfl, _, _⟩ := own_shape HR.out
      clear hM hy hv hown d0 d1 d2 d3 HV hlen
      have hk0 : (0 : Int) ≤ k := by omega
      have hk1 : (k : Int) < N.length := by omega
      go_wp2_with fail
      refine (spoil_any _ _ f1.path.length _ HR.out (by have := HKl.out; omega)).mono ?_
      rintro e w5 ⟨rfl, ht5⟩
      have hst := HM.out.step hlt (w1 := w5) (by rw [← HY.out]; exact ht5)
      have HSt := Lib.hid hst
      have hown5 : w5.ownsRow 0 25 4 (.slice (some ⟨g1, 0, none⟩) N.length lc2) N.length (fall M) := by
        have h0 := HM.out.own
        rw [HMl.out] at h0
        exact World.ownsRow.turned h0 ht5 (fun j hj e => own_own_ne HR.out h0 (by decide) j e hj)
      obtain ⟨d0, d1, d2, d3⟩ := fall_at M k (by rw [HMl.out]; exact hlt)
      have c5 := hown5.cells (g := g1) rfl _ _ d0
      simp only [Addr.add_lit, Nat.zero_add] at c5
      have hf5 := hown5.frozenAt (k * 4)
      obtain ⟨y5, hy5⟩ : ∃ y, w5.cell? ⟨g1, k * 4, none⟩ = some (.int .i64 y) := ⟨_, c5⟩
      clear hst ht5 hown5 d0 d1 d2 d3 c5 c3
      go_wp2_with fail
      go_roundw
      case rel => exact ⟨k + 1, by omega, by go_num, _, HSt.out⟩
      case measure => simp [intOf]; omega
    · have HS := Lib.hid HM.out.same
      clear hM HM HV
      go_wp2_with fail
      go_ret
      exact ⟨X, rfl, Did.same H.out HS.out, Okay.refl _ _⟩
end
end Go.Proofs.Ythfhjopofpffgaa

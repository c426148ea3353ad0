/-
  The walk of SpinePaths.
-/
import Derived.Test.YthfhjopofpffgaaBack
namespace Go.Proofs.Ythfhjopofpffgaa
open Go.RowKit

def flatF (X : List Fr) : List Int := X.flatMap fun x => x.path
theorem flat_map (F : List FV) (X : List Fr) (h : F.map (·.1) = X) : flat F = flatF X := by
  subst h; unfold flat flatF; rw [List.flatMap_map]
theorem flatF_root (root : Int) (X : List Fr) : flatF (rootFr root :: X) = flatF X := by simp [flatF, rootFr]
theorem flatF_snoc (X : List Fr) (f : Fr) : flatF (X ++ [f]) = flatF X ++ f.path := by simp [flatF]

/-- A row of the call's own reads as its numbers; so do its head and its tail. -/
theorem rd_own {w : World} {a : Option Addr} {n c : Nat} {P : List Int} (h : w.ownsRow 0 3 1 (.slice a n c) n (intVals P)) : n = P.length ∧ n ≤ c ∧ (0 < n → ∃ g, a = some ⟨g, 0, none⟩ ∧ g < w.heap.size ∧ ∀ k (hk : k < P.length), w.cell? ⟨g, k, none⟩ = some (.int .i64 P[k])) := by
  have hl : n = P.length := by have := h.1; simpa [intVals] using this.symm
  refine ⟨hl, ?_, fun h0 => ?_⟩
  · obtain ⟨a', c', e, h1, _⟩ := own_shape h
    injection e with _ _ e2
    omega
  · obtain ⟨g, cap, hv, _, hg⟩ := h.form h0
    injection hv with e1 _ e2
    refine ⟨g, e1, hg, fun k hk => ?_⟩
    have := h.cells (g := g) (by rw [e1]; rfl) k (.int .i64 P[k]) (by simp [intVals, hk])
    simpa [Addr.add_lit] using this
theorem rd_whole {w : World} {a : Option Addr} {n c : Nat} {P : List Int} (h : w.ownsRow 0 3 1 (.slice a n c) n (intVals P)) : Rd w (.slice a n c) P := by
  obtain ⟨rfl, h2, h3⟩ := rd_own h
  refine ⟨a, c, rfl, fun h0 => ?_⟩
  obtain ⟨g, e, _, hc⟩ := h3 h0
  exact ⟨g, 0, e, fun k hk => by rw [Nat.zero_add]; exact hc k hk⟩
theorem rd_head {w : World} {a : Option Addr} {n c : Nat} {P Q : List Int} (h : w.ownsRow 0 3 1 (.slice a n c) n (intVals (P ++ Q))) (c' : Nat) : Rd w (.slice a P.length c') P := by
  obtain ⟨hl, h2, h3⟩ := rd_own h
  rw [List.length_append] at hl
  refine ⟨a, c', rfl, fun h0 => ?_⟩
  obtain ⟨g, e, _, hc⟩ := h3 (by omega)
  refine ⟨g, 0, e, fun k hk => ?_⟩
  rw [Nat.zero_add, hc k (by rw [List.length_append]; omega), List.getElem_append_left hk]
theorem rd_tail {w : World} {a : Option Addr} {n c : Nat} {P Q : List Int} (h : w.ownsRow 0 3 1 (.slice a n c) n (intVals (P ++ Q))) (c' : Nat) (A : Option Addr) (hA : 0 < Q.length → ∀ g, a = some ⟨g, 0, none⟩ → A = some ⟨g, P.length, none⟩) : Rd w (.slice A Q.length c') Q := by
  obtain ⟨hl, h2, h3⟩ := rd_own h
  rw [List.length_append] at hl
  refine ⟨A, c', rfl, fun h0 => ?_⟩
  obtain ⟨g, e, _, hc⟩ := h3 (by omega)
  refine ⟨g, P.length, hA h0 g e, fun k hk => ?_⟩
  rw [hc (P.length + k) (by rw [List.length_append]; omega), List.getElem_append_right (by omega)]
  congr 3
  omega

theorem foot_lt {w : World} {b : Nat} {v : Value} {F : List FV} (h : SpAt w b v F) : ∀ k, foot b v k → k < w.heap.size := by
  intro k hk
  rcases hk with rfl | hk
  · exact h.blk.lt
  · exact (h.own.lt k hk).2
theorem Rd.far {w w' : World} {pv : Value} {p : List Int} {S : Nat → Prop} {N : Nat} (h : Rd w pv p) (ht : Turned S w w') (hS : ∀ k, S k → k < N) (hp : ∀ k, pv.ownBlock = some k → N ≤ k) : Rd w' pv p :=
  h.turned ht (fun k hk hs => by have := hS k hs; have := hp k hk; omega)

set_option maxRecDepth 100000 in
set_option maxHeartbeats 4000000 in
theorem paths_any (w : World) (root : Int) (v : Value) (X : List Fr) (f : Fr) (pv : Value) (hX : FOld w w.heap.size v X) (hf : ROld w w.heap.size pv f.path) (hl : (X.length + 2) * 48 ≤ 140737488355328) (hL : ∀ x ∈ X, x.path.length ≤ 17592186044416) (hfl : f.path.length ≤ 17592186044416)
    (hS : ((flatF X).length + f.path.length) * 8 ≤ 140737488355328) :
    Calls Try.prog 3 #[.int .i64 root, v, fval f pv] w fun e w' => e = .returned (.bool true) ∧ Below w.heap.size w w' := by
  have hs0 : Same w (w.alloc (.cells #[.int .i64 f.node, .bool f.whole, .int .i64 f.next, pv] 25)) := (Turned.refl _ _).alloc _
  have HX := Lib.hid (hX.same hs0); have HL := Lib.hid hL; have Hf := Lib.hid (hf.keep (hs0.mono (fun _ h => h.elim)))
  obtain ⟨A, c, rfl, hA⟩ := hX
  obtain ⟨pA, pc, rfl, hpA⟩ := hf
  have HB := Lib.hid (Blk.new w 25 #[.int .i64 f.node, .bool f.whole, .int .i64 f.next, .slice pA f.path.length pc])
  have HS0 := Lib.hid hs0
  clear hA hL hpA hs0
  show Calls Try.prog 3 #[.int .i64 root, .slice A X.length c, .agg #[.int .i64 f.node, .bool f.whole, .int .i64 f.next, .slice pA f.path.length pc]] w _
  go_enter Try.func3, Try.ntmps3
  go_wp2_with fail
  refine (awake_any _).mono ?_
  rintro e w1 ⟨rfl, h1⟩
  have H1 := Lib.hid (HS0.out.trans h1 (fun _ h => h.elim))
  have HW : Hid (w.heap.size < w1.heap.size) := by have := h1.size; simp at this; unfold Hid; omega
  have HB1 := Lib.hid (HB.out.turned h1 (fun h => h))
  have HX1 := Lib.hid ((HX.out.same h1).more H1.out.size)
  have Hf1 := Lib.hid ((Hf.out.keep (h1.mono (fun _ h => h.elim))).more H1.out.size)
  clear h1 HX Hf HB HS0
  go_wp2_with fail
  refine (filled_any _ root _ X HX1.out (by omega) HL.out).mono ?_
  rintro e w2 ⟨b, v2, F2, rfl, hS2, hF2⟩
  have HS2 := Lib.hid hS2; have HF2 := Lib.hid hF2
  have hlen : Hid (F2.length = X.length + 1) := by
    have := congrArg List.length hF2
    simp at this
    exact this
  have hflat : Hid (flat F2 = flatF X) := (flat_map F2 _ hF2).trans (flatF_root root X)
  have HL2 : Hid (∀ x ∈ F2, x.1.path.length ≤ 17592186044416) := by
    intro x hx
    have hm : x.1 ∈ F2.map (·.1) := List.mem_map_of_mem hx
    rw [hF2] at hm
    rcases List.mem_cons.1 hm with e | hm
    · rw [e]; simp [rootFr]
    · exact HL.out _ hm
  have HB48 : Hid (F2.length * 48 ≤ 140737488355328 ∧ (F2.length + 1) * 48 ≤ 140737488355328) := by have := hlen.out; unfold Hid; omega
  have HB2 := Lib.hid (HB1.out.turned hS2.same (fun h => h))
  have Hf2 := Lib.hid (Hf1.out.keep (hS2.same.mono (fun _ h => h.elim)))
  have HS8 : Hid ((flat F2).length * 8 ≤ 140737488355328) := by rw [hflat.out]; unfold Hid; omega
  clear hS2 hF2
  go_wp2_with fail
  refine (path_any _ b v2 F2 HS2.out.sp HB48.out.1 HL2.out HS8.out).mono ?_
  rintro e w3 ⟨p3, rfl, hs3, ho3, hp3⟩
  obtain ⟨a3, c3, rfl, _, _⟩ := own_shape ho3
  have hn3 : (flat F2).length = (flatF X).length := by rw [hflat.out]
  rw [hflat.out] at ho3
  obtain ⟨n, hn⟩ : ∃ n, n = (flatF X).length := ⟨_, rfl⟩
  rw [hn3, ← hn] at hp3 ⊢
  rw [← hn] at ho3
  have HN := Lib.hid hn
  have HR3 := Lib.hid (rd_whole ho3)
  have HP3 := Lib.hid hp3
  have HS3 := Lib.hid (HS2.out.later hs3)
  have HB3 := Lib.hid (HB2.out.turned hs3 (fun h => h))
  have Hf3 := Lib.hid (Hf2.out.keep (hs3.mono (fun _ h => h.elim)))
  have HFT := Lib.hid (foot_lt HS2.out.sp)
  obtain ⟨b0, b1, b2, b3⟩ := HB3.out.four
  clear hs3 ho3 hp3 hn hn3 Hf2 HB2 Hf1 HB1
  go_wp2_with fail
  refine (push_any _ b v2 F2 HS3.out.sp f _ Hf3.out.rd hfl HB48.out.2).mono ?_
  rintro e w4 ⟨v4, pv4, rfl, h4, ht4, hv4, hq4⟩
  have HR4 := Lib.hid (HR3.out.far ht4 HFT.out HP3.out)
  have HS4 := Lib.hid (HS3.out.push h4 ht4 hv4 hq4)
  have hbt : Turned (fun k => w1.heap.size ≤ k) w3 w4 := ht4.mono (fun k hk => HS2.out.hi k hk)
  have HB4 : Hid (Blk w4 w.heap.size 25 #[.int .i64 f.node, .bool f.whole, .int .i64 f.next, .slice pA f.path.length pc]) := HB3.out.turned hbt (fun h => absurd (show w1.heap.size ≤ w.heap.size from h) (by have := HW.out; omega))
  have Hf4 := Lib.hid (Hf3.out.keep hbt)
  clear h4 ht4 hv4 hq4 hbt b0 b1 b2 b3 HR3 HB3 Hf3
  obtain ⟨b0, b1, b2, b3⟩ := HB4.out.four
  have HL4 : Hid (∀ x ∈ F2 ++ [(f, pv4)], x.1.path.length ≤ 17592186044416) := by
    intro x hx
    rcases List.mem_append.1 hx with hx | hx
    · exact HL2.out x hx
    · obtain rfl : x = _ := by simpa using hx
      exact hfl
  have hfl4 : Hid ((flat (F2 ++ [(f, pv4)])).length = n + f.path.length ∧ flat (F2 ++ [(f, pv4)]) = flatF X ++ f.path) := by
    have e : flat (F2 ++ [(f, pv4)]) = flatF X ++ f.path := by
      have : flat (F2 ++ [(f, pv4)]) = flat F2 ++ f.path := by simp [flat]
      rw [this, hflat.out]
    exact ⟨by rw [e, List.length_append, ← HN.out], e⟩
  have HB84 : Hid ((flat (F2 ++ [(f, pv4)])).length * 8 ≤ 140737488355328) := by
    have := HN.out
    rw [hfl4.out.1]; unfold Hid; omega
  go_wp2_with fail
  refine (path_any _ b v4 _ HS4.out.sp (by rw [List.length_append]; exact HB48.out.2) HL4.out HB84.out).mono ?_
  rintro e w5 ⟨p5, rfl, hs5, ho5, hp5⟩
  obtain ⟨a5, c5, rfl, h5a, h5b⟩ := own_shape ho5
  rw [hfl4.out.1] at hp5 h5a ⊢
  rw [hfl4.out.1, hfl4.out.2] at ho5
  have HO5 := Lib.hid ho5
  have HR5 := Lib.hid (HR4.out.same hs5)
  have HP5 := Lib.hid hp5
  have HS5 := Lib.hid (HS4.out.later hs5)
  have HB5 := Lib.hid (HB4.out.turned hs5 (fun h => h))
  have Hf5 := Lib.hid (Hf4.out.keep (hs5.mono (fun _ h => h.elim)))
  have HFT5 := Lib.hid (foot_lt HS4.out.sp)
  clear hs5 ho5 hp5 b0 b1 b2 b3 HR4 HB4 Hf4
  obtain ⟨b0, b1, b2, b3⟩ := HB5.out.four
  have hn1 : Hid (n ≤ 17592186044416) := by have := HN.out; unfold Hid; omega
  have hn2 : (n : Int) ≤ 17592186044416 := by have := hn1.out; omega
  have hm2 : (f.path.length : Int) ≤ 17592186044416 := by omega
  have hm0 : (0 : Int) ≤ (f.path.length : Int) := by omega
  go_wp2_with fail
  refine (sameInts_any _ _ _ (flatF X) (by have := rd_head HO5.out c5; rwa [← HN.out] at this) HR5.out (by have := HN.out; have := hn1.out; omega)).mono ?_
  rintro e w6 ⟨rfl, kd, rfl⟩
  have h5c : ((n : Int) + (f.path.length : Int)) ≤ c5 := by omega
  have hn0 : (0 : Int) ≤ n := by omega
  have hnn : (n : Int) ≤ (n : Int) + (f.path.length : Int) := by omega
  have hcap : (n : Int) ≤ (c5 : Int) := by omega
  go_wp2_with fail
  have HTl : Hid (Rd w5 (.slice (if c5 = n then a5 else Option.map (fun x => x.add n) a5) f.path.length (c5 - n)) f.path) := by
    refine rd_tail HO5.out _ _ (fun h0 g hg => ?_)
    rw [← HN.out, if_neg (by omega), hg]
    simp [Addr.add_lit]
  go_region_law ((go_simp; go_at_call 13; refine (sameInts_any _ _ _ f.path (by exact HTl.out) (by exact Hf5.out.rd) (by omega)).mono ?_; rintro e w7 ⟨rfl, kd2, rfl⟩))
  have HS6 : ∀ k, Hid (SI w1 (w5.drewN k) b v4 (F2 ++ [(f, pv4)])) := fun k => HS5.out.later ((Turned.refl _ _).drewN k)
  go_wp2_with fail
  all_goals
    refine (pop_some _ b v4 F2 (f, pv4) (HS6 _).out.sp (by have := hlen.out; omega)).mono ?_
    rintro e w8 ⟨v8, rfl, h8, ht8, hv8⟩
    have HS8' := Lib.hid ((HS6 _).out.pop h8 ht8 hv8)
    have HR8 : Hid (Rd w8 (.slice a3 n c3) (flatF X)) := (HR5.out.same ((Turned.refl _ _).drewN _)).far ht8 (N := w2.heap.size) (fun k hk => by rw [hk]; exact HFT.out b (.inl rfl)) HP3.out
    clear h8 ht8 hv8 b0 b1 b2 b3 HTl HO5
    go_wp2_with fail
    refine (path_any _ b v8 F2 HS8'.out.sp HB48.out.1 HL2.out HS8.out).mono ?_
    rintro e w9 ⟨p9, rfl, hs9, ho9, hp9⟩
    rw [hflat.out] at ho9
    obtain ⟨a9, c9, rfl, _, _⟩ := own_shape ho9
    have HR9 := Lib.hid (rd_whole ho9)
    have HR9' := Lib.hid (HR8.out.same hs9)
    have HS9 := Lib.hid (HS8'.out.later hs9)
    clear hs9 ho9 hp9
    go_wp2_with fail
    refine (sameInts_any _ _ _ (flatF X) HR9.out HR9'.out (by have := HN.out; have := hn1.out; omega)).mono ?_
    rintro e w10 ⟨rfl, kd3, rfl⟩
    go_wp2_with fail
    all_goals go_ret
    all_goals exact ⟨rfl, (H1.out.trans (HS9.out.same.drewN kd3) (fun _ h => h.elim)).below (Nat.le_refl _) (fun _ h => h.elim)⟩
end Go.Proofs.Ythfhjopofpffgaa

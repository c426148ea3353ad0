/-
  A spine in memory; the walks of New, Len, Push.
-/
import Derived.Test.YthfhjopofpffgaaOwn
namespace Go.Proofs.Ythfhjopofpffgaa
open Go.RowKit

abbrev FV := Fr × Value
def fall (F : List FV) : List Value := F.flatMap fun x => fcells x.1 x.2
theorem fall_snoc (F : List FV) (x : FV) : fall (F ++ [x]) = fall F ++ fcells x.1 x.2 := by simp [fall]
theorem fall_length (F : List FV) : (fall F).length = F.length * 4 := by
  induction F with
  | nil => rfl
  | cons x r ih => simp only [fall, List.flatMap_cons, List.length_append, List.length_cons] at *; rw [ih]; simp [fcells]; omega
theorem fall_at (F : List FV) (i : Nat) (h : i < F.length) : (fall F)[i * 4]? = some (.int .i64 F[i].1.node) ∧ (fall F)[i * 4 + 1]? = some (.bool F[i].1.whole) ∧ (fall F)[i * 4 + 2]? = some (.int .i64 F[i].1.next) ∧ (fall F)[i * 4 + 3]? = some F[i].2 := by
  induction F generalizing i with
  | nil => simp at h
  | cons x r ih =>
    cases i with
    | zero => simp [fall, fcells]
    | succ i =>
      have := ih i (by simpa using h)
      have e : fall (x :: r) = fcells x.1 x.2 ++ fall r := by simp [fall]
      have h4 : (fcells x.1 x.2).length = 4 := rfl
      rw [e, show (i + 1) * 4 = 4 + i * 4 from by omega]
      refine ⟨?_, ?_, ?_, ?_⟩
      · rw [List.getElem?_append_right (by omega), h4, show 4 + i * 4 - 4 = i * 4 from by omega]; exact this.1
      · rw [List.getElem?_append_right (by omega), h4, show 4 + i * 4 + 1 - 4 = i * 4 + 1 from by omega]; exact this.2.1
      · rw [List.getElem?_append_right (by omega), h4, show 4 + i * 4 + 2 - 4 = i * 4 + 2 from by omega]; exact this.2.2.1
      · rw [List.getElem?_append_right (by omega), h4, show 4 + i * 4 + 3 - 4 = i * 4 + 3 from by omega]; exact this.2.2.2

/-- Block b is a spine over the slice v, of the frames F, each with the slice that is its path. -/
structure SpAt (w : World) (b : Nat) (v : Value) (F : List FV) : Prop where
  blk : Blk w b 56 #[v]
  own : w.ownsRow 0 25 4 v F.length (fall F)
  paths : ∀ x ∈ F, PAt w x.2 x.1.path
def foot (b : Nat) (v : Value) : Nat → Prop := fun k => k = b ∨ v.ownBlock = some k
def pblocks (F : List FV) : Nat → Prop := fun k => ∃ x ∈ F, x.2.ownBlock = some k

theorem pat_foot {w : World} {pv : Value} {p : List Int} {b : Nat} {v : Value} {n : Nat} {xs : List Value} (h : PAt w pv p) (hb : Blk w b 56 #[v]) (ho : w.ownsRow 0 25 4 v n xs) : ∀ k, pv.ownBlock = some k → ¬ foot b v k := by
  intro k hk hf
  rcases h with ⟨rfl, _⟩ | ⟨g, rfl, hg⟩
  · simp [Value.ownBlock] at hk
  · obtain rfl : g = k := by simpa [Value.ownBlock] using hk
    rcases hf with rfl | hf
    · exact Blk.ne_ hg hb (by decide) rfl
    · exact own_blk_ne ho hg (by decide) hf
theorem SpAt.turned {w w' : World} {b : Nat} {v : Value} {F : List FV} {S : Nat → Prop} (h : SpAt w b v F) (ht : Turned S w w') (hn : ∀ k, foot b v k → ¬ S k) (hp : ∀ k, pblocks F k → ¬ S k) : SpAt w' b v F :=
  ⟨h.blk.turned ht (hn b (.inl rfl)), World.ownsRow.turned h.own ht (fun k hk => hn k (.inr hk)), fun x hx => (h.paths x hx).turned ht (fun k hk => hp k ⟨x, hx, hk⟩)⟩
theorem SpAt.same {w w' : World} {b : Nat} {v : Value} {F : List FV} (h : SpAt w b v F) (ht : Same w w') : SpAt w' b v F := h.turned ht (fun _ _ h => h) (fun _ _ h => h)

theorem new_any (root : Int) (w : World) : Calls Try.prog 21 #[.int .i64 root] w fun e w' => ∃ b v, e = .returned (.pointer (some ⟨b, 0, none⟩)) ∧ SpAt w' b v [(⟨root, true, 0, []⟩, .slice none 0 0)] ∧ Same w w' ∧ ∀ k, foot b v k → w.heap.size ≤ k := by
  go_enter Try.func21, Try.ntmps21
  go_wp2
  go_ret
  have hB0 := (Blk.new w 25 #[.int .i64 root, .bool true, .int .i64 0, .slice none 0 0]).alloc (Obj.cells #[Value.slice (some ⟨w.heap.size, 0, none⟩) 1 1] 56)
  have hB1 := Blk.new (w.alloc (.cells #[.int .i64 root, .bool true, .int .i64 0, .slice none 0 0] 25)) 56 #[Value.slice (some ⟨w.heap.size, 0, none⟩) 1 1]
  refine ⟨w.heap.size + 1, .slice (some ⟨w.heap.size, 0, none⟩) 1 1, rfl, ⟨?_, ?_, ?_⟩, ((Turned.refl _ _).alloc _).alloc _, ?_⟩
  · simpa using hB1
  · exact ⟨rfl, .inr ⟨w.heap.size, 1, _, rfl, Nat.zero_le _, hB0, Nat.le_refl _, by decide, rfl, rfl⟩⟩
  · intro x hx
    obtain rfl : x = _ := by simpa using hx
    exact .inl ⟨rfl, rfl⟩
  · intro k hk
    rcases hk with rfl | hk
    · omega
    · simp [Value.ownBlock] at hk; omega

theorem len_any (w : World) (b : Nat) (v : Value) (F : List FV) (h : SpAt w b v F) :
    Calls Try.prog 15 #[.pointer (some ⟨b, 0, none⟩)] w fun e w' => e = .returned (.int .i64 F.length) ∧ w = w' := by
  obtain ⟨a, c, rfl, h1, h2⟩ := own_shape h.own
  have c0 := h.blk.cell 0
  simp at c0
  clear h
  go_enter Try.func15, Try.ntmps15
  go_wp2
  go_ret
  exact ⟨rfl, rfl⟩

theorem push_after {w w3 w4 : World} {b g q cap c : Nat} {a : Option Addr} {F : List FV} {f : Fr} {o : Obj}
    (h : SpAt w b (.slice a F.length c) F) (hw3 : Same w w3) (hB : Blk w3 q 3 (intVals f.path).toArray)
    (hown : w4.ownsRow 0 25 4 (.slice (some ⟨g, 0, none⟩) (F.length + 1) cap) (F.length + 1) (fall F ++ fcells f (.slice (some ⟨q, 0, none⟩) f.path.length f.path.length)))
    (hgrow : (w3.alloc o).grownBy w4 (Value.slice a F.length c).ownBlock) (hat : (Value.slice a F.length c).ownBlock = some g ∨ g = w3.heap.size + 1) :
    SpAt (w4.setCell ⟨b, 0, none⟩ (.slice (some ⟨g, 0, none⟩) (F.length + 1) cap)) b (.slice (some ⟨g, 0, none⟩) (F.length + 1) cap) (F ++ [(f, .slice (some ⟨q, 0, none⟩) f.path.length f.path.length)]) ∧
      Turned (foot b (.slice a F.length c)) w (w4.setCell ⟨b, 0, none⟩ (.slice (some ⟨g, 0, none⟩) (F.length + 1) cap)) ∧
      ((Value.slice (some ⟨g, 0, none⟩) (F.length + 1) cap).ownBlock = (Value.slice a F.length c).ownBlock ∨ ∃ k, (Value.slice (some ⟨g, 0, none⟩) (F.length + 1) cap).ownBlock = some k ∧ w.heap.size ≤ k) := by
  have h3 := h.same hw3
  have hne := own_blk_ne h3.own h3.blk (by decide)
  have hB4 : Blk w4 b 56 #[.slice a F.length c] := (h3.blk.alloc o).grown hgrow hne.symm
  have hgb : g ≠ b := by
    intro e; subst e
    exact own_blk_ne hown hB4 (by decide) rfl
  have hT4 : Turned (foot b (.slice a F.length c)) w w4 := ((hw3.mono (fun _ h => h.elim)).alloc o).grown hgrow (fun k hk => .inl (.inr hk))
  have hT34 : Turned (fun k => (Value.slice a F.length c).ownBlock = some k) w3 w4 := ((Turned.refl _ _).alloc o).grown hgrow (fun k hk => .inl hk)
  have hset : ∀ u, Turned (fun k => k = b) w4 (w4.setCell ⟨b, 0, none⟩ u) := fun u => Turned.setCell (S := fun k => k = b) (Turned.refl _ w4) (p := ⟨b, 0, none⟩) (.inl rfl) u
  have hq4 : Blk w4 q 3 (intVals f.path).toArray := hB.turned hT34 (fun e => own_blk_ne h3.own hB (by decide) e)
  refine ⟨⟨(hB4.set_ 0 _).trans rfl, ?_, ?_⟩, hT4.setCell (.inl (.inl rfl)) _, ?_⟩
  · rw [fall_snoc, List.length_append]
    exact World.ownsRow.turned hown (hset _) (fun k hk e => hgb (by simp [Value.ownBlock] at hk; omega))
  · intro x hx
    rw [List.mem_append] at hx
    rcases hx with hx | hx
    · have hp := h3.paths x hx
      have hnf := pat_foot hp h3.blk h3.own
      exact (hp.turned hT34 (fun k hk e => hnf k hk (.inr e))).turned (hset _) (fun k hk e => hnf k hk (.inl e))
    · obtain rfl : x = _ := by simpa using hx
      exact .inr ⟨q, rfl, hq4.turned (hset _) (fun e => Blk.ne_ hq4 hB4 (by decide) e)⟩
  · rcases hat with h | h
    · exact .inl h.symm
    · exact .inr ⟨g, rfl, by have := hw3.size; omega⟩

set_option maxHeartbeats 1000000 in
theorem push_any (w : World) (b : Nat) (v : Value) (F : List FV) (h : SpAt w b v F) (f : Fr) (pv : Value) (hR : Rd w pv f.path) (hl : f.path.length ≤ 17592186044416) (hF : (F.length + 1) * 48 ≤ 140737488355328) :
    Calls Try.prog 12 #[.pointer (some ⟨b, 0, none⟩), fval f pv] w fun e w' => ∃ v' pv', e = .returned (.tuple #[]) ∧ SpAt w' b v' (F ++ [(f, pv')]) ∧ Turned (foot b v) w w' ∧ (v'.ownBlock = v.ownBlock ∨ ∃ k, v'.ownBlock = some k ∧ w.heap.size ≤ k) ∧ ∃ g, pv' = .slice (some ⟨g, 0, none⟩) f.path.length f.path.length ∧ w.heap.size ≤ g := by
  obtain ⟨a, c, rfl, h1, h2⟩ := own_shape h.own
  have c0 := h.blk.cell 0
  simp at c0
  have hlt := h.blk.lt
  have H := Lib.hid h
  clear h
  have HR := Lib.hid (hR.turned (w' := w.alloc (.cells #[.int .i64 f.node, .bool f.whole, .int .i64 f.next, pv] 25)) (S := fun _ => False) ((Turned.refl _ _).alloc _) (fun _ _ h => h))
  clear hR
  show Calls Try.prog 12 #[.pointer (some ⟨b, 0, none⟩), .agg #[.int .i64 f.node, .bool f.whole, .int .i64 f.next, pv]] w _
  go_enter Try.func12, Try.ntmps12
  go_wp2
  obtain ⟨i0, hi0, hz0, hz1, hz2⟩ := info_parts Try.info25
  have HI : Hid (Try.prog.info? 25 = some i0 ∧ i0.zero = some (.agg #[.int .i64 0, .bool false, .int .i64 0, .slice none 0 0]) ∧ i0.size = 4 ∧ i0.bytes = 48) := ⟨hi0, hz0, hz1, hz2⟩
  clear hi0 hz0 hz1 hz2
  have hne : (Value.slice a F.length c).ownBlock ≠ some b := own_blk_ne H.out.own H.out.blk (by decide)
  have HNE := Lib.hid hne
  clear hne
  go_region_law (first | ((refine step_append_lies _ (by rfl) _ _ _ (by rfl) 0 25 i0 _ 4 48 Try.underlying22 HI.out.1 HI.out.2.1 HI.out.2.2.1 HI.out.2.2.2 rfl (by omega) (.slice a F.length c) F.length (fall F) (by rfl) (HOW.out.alloc _) ⟨w3.heap.size, 0, none⟩ 1 1 (fcells f (.slice (some ⟨q, 0, none⟩) f.path.length f.path.length)) (by rfl) (by rfl) (World.news_of_block (cs := #[.int .i64 f.node, .bool f.whole, .int .i64 f.next, .slice (some ⟨q, 0, none⟩) f.path.length f.path.length]) (t := 25) (fr := (0, 0)) (heap_alloc_new w3 _)) (by simp [fcells, Value.oneCell']) (by omega) (by unfold maxLen; omega) (by omega) (by simp) (w3.heap.size + 1) (by simp) ?_; intro g cap w4 hown4 hgrow4 hat4 hlt4; have k4 : w4.cell? ⟨b, 0, none⟩ = some (.slice a F.length c) := ((hgrow4.cell_far ⟨b, 0, none⟩ (by simp; omega) HNE.out.symm).trans (World.cell?_alloc_lt w3 _ ⟨b, 0, none⟩ h3lt)).trans k0; have kf : w4.frozen? ⟨b, 0, none⟩ = false := ((hgrow4.frozen_far ⟨b, 0, none⟩ (by simp; omega) HNE.out.symm).trans (World.frozen?_alloc_past _ b 0 h3lt)).trans kf3)) | ((go_simp; go_at_call 28; refine (own_any _ f pv (by exact HR.out) hl).mono ?_; rintro e w3 ⟨q, rfl, hB3, hs3, hq3⟩; have HS3 : Hid (Same w w3) := ((((Turned.refl _ w).alloc _).drew).trans hs3 (fun _ h => h.elim)); have HB3 := Lib.hid hB3; have HQ3 := Lib.hid hq3; have HSp := Lib.hid (H.out.same HS3.out); have k0 : w3.cell? ⟨b, 0, none⟩ = some (.slice a F.length c) := (HSp.out.blk.cell 0).trans rfl; have kf3 : w3.frozen? ⟨b, 0, none⟩ = false := HSp.out.blk.frozen 0; have h3lt : b < w3.heap.size := HSp.out.blk.lt; have HOW := Lib.hid HSp.out.own; clear hs3 hB3 hq3)))
  all_goals
    have A := Lib.hid (push_after H.out HS3.out HB3.out hown4 hgrow4 hat4)
    have hq : w.heap.size ≤ q := by have := HQ3.out; simp at this; omega
    clear hown4 hgrow4 hat4 k4 kf hlt4
    go_wp2
    go_end0
    exact ⟨_, _, rfl, A.out.1, A.out.2.1, A.out.2.2, q, rfl, hq⟩
end Go.Proofs.Ythfhjopofpffgaa

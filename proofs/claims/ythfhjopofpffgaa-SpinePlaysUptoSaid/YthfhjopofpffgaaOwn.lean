/-
  Frames, paths; the walk of spine.own: a frame in new memory.
-/
import Derived.Test.YthfhjopofpffgaaMem
import Derived.Deep.RegionHeld3
import Derived.BigQuiet
import Derived.Deep.RegionLaw
import Derived.Laws.CopyOwn
import Derived.WalkLawsBesides
import Derived.WalkSpells
namespace Go.Proofs.Ythfhjopofpffgaa
open Go.RowKit

structure Fr where
  node : Int
  whole : Bool
  next : Int
  path : List Int

def intVals (p : List Int) : List Value := p.map (Value.int .i64)
def fcells (f : Fr) (pv : Value) : List Value := [.int .i64 f.node, .bool f.whole, .int .i64 f.next, pv]
abbrev fval (f : Fr) (pv : Value) : Value := .agg #[.int .i64 f.node, .bool f.whole, .int .i64 f.next, pv]

/-- A slice value that reads as a list of numbers. -/
def Rd (w : World) (pv : Value) (p : List Int) : Prop :=
  ∃ A c, pv = .slice A p.length c ∧ (0 < p.length → ∃ bl off, A = some ⟨bl, off, none⟩ ∧ ∀ k (h : k < p.length), w.cell? ⟨bl, off + k, none⟩ = some (.int .i64 p[k]))
/-- .. that stands whole in a block of its own; or nil. -/
def PAt (w : World) (pv : Value) (p : List Int) : Prop :=
  (pv = .slice none 0 0 ∧ p = []) ∨ ∃ g, pv = .slice (some ⟨g, 0, none⟩) p.length p.length ∧ Blk w g 3 (intVals p).toArray

theorem PAt.rd {w : World} {pv : Value} {p : List Int} (h : PAt w pv p) : Rd w pv p := by
  rcases h with ⟨rfl, rfl⟩ | ⟨g, rfl, hb⟩
  · exact ⟨none, 0, rfl, fun h => by simp at h⟩
  · exact ⟨some ⟨g, 0, none⟩, p.length, rfl, fun _ => ⟨g, 0, rfl, fun k hk => by
      rw [Nat.zero_add, hb.cell k]; simp [intVals, hk]⟩⟩
theorem Rd.turned {w w' : World} {pv : Value} {p : List Int} {S : Nat → Prop} (h : Rd w pv p) (ht : Turned S w w') (hn : ∀ k, pv.ownBlock = some k → ¬ S k) : Rd w' pv p := by
  obtain ⟨A, c, rfl, h1⟩ := h
  refine ⟨A, c, rfl, fun h0 => ?_⟩
  obtain ⟨bl, off, rfl, hc⟩ := h1 h0
  refine ⟨bl, off, rfl, fun k hk => ?_⟩
  have hb := World.block_lt_of_cell? w _ (hc k hk)
  exact (ht.cell (p := ⟨bl, off + k, none⟩) hb (hn bl rfl)).trans (hc k hk)
theorem PAt.turned {w w' : World} {pv : Value} {p : List Int} {S : Nat → Prop} (h : PAt w pv p) (ht : Turned S w w') (hn : ∀ k, pv.ownBlock = some k → ¬ S k) : PAt w' pv p := by
  rcases h with ⟨rfl, rfl⟩ | ⟨g, rfl, hb⟩
  · exact .inl ⟨rfl, rfl⟩
  · exact .inr ⟨g, rfl, hb.turned ht (hn g rfl)⟩

theorem Blk.four {w : World} {g : Nat} {t : TypeId} {a b c d : Value} (h : Blk w g t #[a, b, c, d]) : w.cell? ⟨g, 0, none⟩ = some a ∧ w.cell? ⟨g, 1, none⟩ = some b ∧ w.cell? ⟨g, 2, none⟩ = some c ∧ w.cell? ⟨g, 3, none⟩ = some d :=
  ⟨(h.cell 0).trans rfl, (h.cell 1).trans rfl, (h.cell 2).trans rfl, (h.cell 3).trans rfl⟩
theorem Blk.below {w w' : World} {g B : Nat} {t : TypeId} {cs : Array Value} (h : Blk w g t cs) (hb : Below B w w') (hg : g < B) : Blk w' g t cs := (hb.block g hg).trans h

theorem Try.info3 : (Try.prog.info? 3).map (fun i => (i.zero, i.size, i.bytes)) = some (some (.int .i64 0), 1, 8) := by kernel_rfl
theorem Try.size3 : (Try.prog.info? 3).map (·.size) = some 1 := by kernel_rfl
theorem Try.info25 : (Try.prog.info? 25).map (fun i => (i.zero, i.size, i.bytes)) = some (some (.agg #[.int .i64 0, .bool false, .int .i64 0, .slice none 0 0]), 4, 48) := by kernel_rfl

theorem results_frame {w : World} {fn : Func} {t : Tmp} (h : fn.results = #[.cell t 25]) (tmps : Array Value) {g : Nat} (ht : tmps.getD t undef = .pointer (some ⟨g, 0, none⟩)) {a b c d : Value} (hB : Blk w g 25 #[a, b, c, d]) :
    (results fn tmps).run Try.prog w = .ok (.agg #[a, b, c, d]) w := by
  obtain ⟨h0, h1, h2, h3⟩ := hB.four
  have ht' : tmps[t]?.getD undef = .pointer (some ⟨g, 0, none⟩) := by simpa using ht
  simp [results, h, ht', go_sem, h0, h1, h2, h3]
theorem results_frame2 {w : World} {fn : Func} {t u : Tmp} (h : fn.results = #[.cell t 25, .tmp u]) (tmps : Array Value) {g : Nat} (ht : tmps.getD t undef = .pointer (some ⟨g, 0, none⟩)) {a b c d : Value} (hB : Blk w g 25 #[a, b, c, d]) :
    (results fn tmps).run Try.prog w = .ok (.tuple #[.agg #[a, b, c, d], tmps.getD u undef]) w := by
  obtain ⟨h0, h1, h2, h3⟩ := hB.four
  have ht' : tmps[t]?.getD undef = .pointer (some ⟨g, 0, none⟩) := by simpa using ht
  simp [results, h, ht', go_sem, h0, h1, h2, h3]

theorem setRow_turned {a w : World} {S : Nat → Prop} (h : Turned S a w) {g : Nat} (hg : S g ∨ a.heap.size ≤ g) (cs : Array Value) : Turned S a (w.setRow g cs) :=
  ⟨h.os, h.tape, h.output, by simpa [World.setRow] using h.size, fun k hk hn => (setRow_other w g k cs (fun e => by
    subst e; rcases hg with hg | hg; exact hn hg; omega)).trans (h.block k hk hn)⟩

set_option maxHeartbeats 1000000 in
theorem own_any (w : World) (f : Fr) (pv : Value) (hR : Rd w pv f.path) (hl : f.path.length ≤ 17592186044416) :
    Calls Try.prog 28 #[fval f pv] w fun e w' => ∃ g, e = .returned (fval f (.slice (some ⟨g, 0, none⟩) f.path.length f.path.length)) ∧ Blk w' g 3 (intVals f.path).toArray ∧ Same w w' ∧ w.heap.size ≤ g := by
  obtain ⟨A, c, rfl, hA⟩ := hR
  obtain ⟨node, whole, next, p⟩ := f
  simp only at hA hl
  show Calls Try.prog 28 #[.agg #[.int .i64 node, .bool whole, .int .i64 next, .slice A p.length c]] w _
  obtain ⟨i0, hi0, hz0, hz1, hz2⟩ := info_parts Try.info3
  have hmk := fun W => run_make (P := Try.prog) W 23 3 i0 (.int .i64 0) Try.underlying23 hi0 hz0 .i64 .i64 p.length p.length (by omega) (by omega) (by rw [hz2]; omega) (by omega)
  simp only [hz1, Int.toNat_natCast, Nat.mul_one] at hmk
  clear hi0 hz0 hz1 hz2
  by_cases h0 : p.length = 0
  · obtain rfl : p = [] := List.eq_nil_of_length_eq_zero h0
    simp only [List.length_nil, Int.natCast_zero] at hmk ⊢
    clear h0 hA
    go_enter Try.func28, Try.ntmps28
    go_wp2_with (with_reducible refine wpList_copy_nothing rfl _ _ _ _ rfl _ Try.underlying23 Try.size3 _ _ _ _ _ _ rfl rfl rfl ?_)
    refine bodyPost_ret (v := fval ⟨node, whole, next, []⟩ (.slice (some ⟨w.heap.size + 1 + 1, 0, none⟩) 0 0)) ?_ rfl ⟨_, rfl, ?_, ?_, by omega⟩
    · simp [results, Try.results28, go_sem]
    · have hb := Blk.new ((w.alloc (Obj.cells #[Value.int IntKind.i64 node, Value.bool whole, Value.int IntKind.i64 next, Value.slice (some ⟨w.heap.size + 1 + 1, 0, none⟩) 0 0] 25)).alloc (Obj.cells #[Value.int IntKind.i64 node, Value.bool whole, Value.int IntKind.i64 next, Value.slice (some ⟨w.heap.size + 1 + 1, 0, none⟩) 0 0] 25)) 3 (madeCells #[Value.int IntKind.i64 0] 0)
      have e : madeCells #[Value.int IntKind.i64 0] 0 = (intVals []).toArray := by simp [madeCells, intVals]
      rw [e] at hb ⊢
      simpa using hb
    · exact (((Turned.refl _ _).alloc _).alloc _).alloc _
  · have hp : 0 < p.length := by omega
    obtain ⟨bl, off, rfl, hc⟩ := hA hp
    have hb0 := World.block_lt_of_cell? w _ (hc 0 hp)
    simp only at hb0
    have hne : p.length ≠ 0 := h0
    clear hA h0
    obtain ⟨ps, hps⟩ : ∃ ps, ps = intVals p := ⟨_, rfl⟩
    have hpl : ps.length = p.length := by rw [hps]; simp [intVals]
    have hsrc : ∀ (W : World), (∀ o, W.cell? ⟨bl, o, none⟩ = w.cell? ⟨bl, o, none⟩) → ∀ j v, ps[j]? = some v → W.cell? ((⟨bl, off, none⟩ : Addr).add j) = some v := by
      intro W hW j v hv
      rw [hps] at hv
      simp only [intVals, List.getElem?_map, Option.map_eq_some_iff] at hv
      obtain ⟨n, hn, rfl⟩ := hv
      obtain ⟨hj, rfl⟩ := List.getElem?_eq_some_iff.1 hn
      rw [Addr.add_lit, hW]
      exact hc j hj
    have HP := Lib.hid hps; have HL := Lib.hid hpl; have HS := Lib.hid hsrc
    have h1c : ∀ v ∈ ps, v.oneCell' = true := by
      intro v hv; rw [hps] at hv; simp [intVals] at hv; obtain ⟨n, _, rfl⟩ := hv; rfl
    have H1 := Lib.hid h1c
    clear hps hpl hsrc h1c hc
    obtain ⟨mc, hm⟩ : ∃ mc, mc = madeCells (Value.int .i64 0).cells p.length := ⟨_, rfl⟩
    have HM := Lib.hid hm
    rw [← hm] at hmk
    clear hm
    go_enter Try.func28, Try.ntmps28
    go_wp2_with (with_reducible refine wpList_copy_splice rfl _ _ _ _ rfl _ Try.underlying23 Try.size3 _ _ _ _ _ _ rfl rfl (w.heap.size + 1 + 1) 0 mc.toList 3 ?h1 ps ?h2 ?h3 ?h4 H1.out (w.heap.size + 1 + 1) _ (Below.refl _ _) (by omega) ?_)
    case h1 =>
      have hb := Blk.new ((w.alloc (Obj.cells #[Value.int IntKind.i64 node, Value.bool whole, Value.int IntKind.i64 next, Value.slice (some ⟨bl, off, none⟩) p.length c] 25)).alloc (Obj.cells #[Value.int IntKind.i64 0, Value.bool false, Value.int IntKind.i64 0, Value.slice none 0 0] 25)) 3 mc
      unfold Blk at hb
      simpa using hb
    case h2 => rw [HL.out]; exact (Nat.min_self _).symm
    case h3 =>
      intro _ j v hv
      rw [← Addr.add_lit]
      refine HS.out _ (fun o => ?_) j v hv
      rw [World.cell?_alloc_lt _ _ _ (by simp; omega), World.cell?_alloc_lt _ _ _ (by simp; omega), World.cell?_alloc_lt _ _ _ (by simpa using hb0)]
    case h4 => rw [HL.out, HM.out]; simp [size_madeCells]
    intro w4 hg4 hb4
    have hB1 : Blk w4 w.heap.size 25 #[.int .i64 node, .bool whole, .int .i64 next, .slice (some ⟨bl, off, none⟩) p.length c] := (((Blk.new w 25 _).alloc _).alloc _).below hb4 (by omega)
    have hB2 : Blk w4 (w.heap.size + 1) 25 #[.int .i64 0, .bool false, .int .i64 0, .slice none 0 0] := by
      have h := (Blk.new (w.alloc (Obj.cells #[Value.int IntKind.i64 node, Value.bool whole, Value.int IntKind.i64 next, Value.slice (some ⟨bl, off, none⟩) p.length c] 25)) 25 #[.int .i64 0, .bool false, .int .i64 0, .slice none 0 0]).alloc (.cells mc 3)
      have h2 := Blk.below (w' := w4) (B := w.heap.size + 1 + 1) h hb4 (by simp)
      simpa using h2
    obtain ⟨p0, p1, p2, p3⟩ := hB1.four
    obtain ⟨q0, q1, q2, q3⟩ := hB2.four
    have hf1 := fun i => hB1.frozen i
    have hf2 := fun i => hB2.frozen i
    have HB2 := Lib.hid hB2
    clear hB1 hB2
    have hg5 : Hid (Blk w4 (w.heap.size + 1 + 1) 3 ps.toArray) := by
      have := hg4.out
      unfold Hid Blk; rw [this]
      have e : splice mc.toList 0 ps = ps := by
        have hl2 : mc.toList.length = ps.length := by rw [HL.out, HM.out]; simp [size_madeCells]
        unfold splice
        rw [List.take_zero, List.nil_append, Nat.zero_add, ← hl2, List.drop_length, List.append_nil]
      rw [e]
    have hlt4 : w.heap.size + 1 < w4.heap.size := by have := hb4.size; simp at this; omega
    have HT4 : Hid (Same w w4) := by
      refine Turned.trans (T := fun i => w.heap.size ≤ i) ((((Turned.refl _ _).alloc _).alloc _).alloc _) (b := ((w.alloc (Obj.cells #[Value.int IntKind.i64 node, Value.bool whole, Value.int IntKind.i64 next, Value.slice (some ⟨bl, off, none⟩) p.length c] 25)).alloc (Obj.cells #[Value.int IntKind.i64 0, Value.bool false, Value.int IntKind.i64 0, Value.slice none 0 0] 25)).alloc (Obj.cells mc 3)) ?_ (fun i hi => .inr hi)
      exact ⟨hb4.os, hb4.tape, hb4.output, hb4.size, fun k _ hn => hb4.block k (by omega)⟩
    clear hb4 hg4 hmk
    have E5 : ∀ n1 n2 n3 n4 u : Value, Hid (Blk (((((w4.setCell ⟨w.heap.size, 3, none⟩ u).setCell ⟨w.heap.size + 1, 0, none⟩ n1).setCell ⟨w.heap.size + 1, 1, none⟩ n2).setCell ⟨w.heap.size + 1, 2, none⟩ n3).setCell ⟨w.heap.size + 1, 3, none⟩ n4) (w.heap.size + 1) 25 #[n1, n2, n3, n4] ∧
        Blk (((((w4.setCell ⟨w.heap.size, 3, none⟩ u).setCell ⟨w.heap.size + 1, 0, none⟩ n1).setCell ⟨w.heap.size + 1, 1, none⟩ n2).setCell ⟨w.heap.size + 1, 2, none⟩ n3).setCell ⟨w.heap.size + 1, 3, none⟩ n4) (w.heap.size + 1 + 1) 3 ps.toArray ∧
        Same w (((((w4.setCell ⟨w.heap.size, 3, none⟩ u).setCell ⟨w.heap.size + 1, 0, none⟩ n1).setCell ⟨w.heap.size + 1, 1, none⟩ n2).setCell ⟨w.heap.size + 1, 2, none⟩ n3).setCell ⟨w.heap.size + 1, 3, none⟩ n4)) := by
      intro n1 n2 n3 n4 u
      refine ⟨?_, ?_, ?_⟩
      · exact ((((HB2.out.far (p := ⟨w.heap.size, 3, none⟩) (by simp) u).set_ 0 n1).set_ 1 n2).set_ 2 n3).set_ 3 n4
      · exact ((((hg5.out.far (p := ⟨w.heap.size, 3, none⟩) (by simp; omega) u).far (p := ⟨w.heap.size + 1, 0, none⟩) (by simp) n1).far (p := ⟨w.heap.size + 1, 1, none⟩) (by simp) n2).far (p := ⟨w.heap.size + 1, 2, none⟩) (by simp) n3).far (p := ⟨w.heap.size + 1, 3, none⟩) (by simp) n4
      · exact ((((HT4.out.setCell (p := ⟨w.heap.size, 3, none⟩) (.inr (by simp)) u).setCell (p := ⟨w.heap.size + 1, 0, none⟩) (.inr (by simp)) n1).setCell (p := ⟨w.heap.size + 1, 1, none⟩) (.inr (by simp)) n2).setCell (p := ⟨w.heap.size + 1, 2, none⟩) (.inr (by simp)) n3).setCell (p := ⟨w.heap.size + 1, 3, none⟩) (.inr (by simp)) n4
    go_wp2
    have E6 := (E5 (.int .i64 node) (.bool whole) (.int .i64 next) (.slice (some ⟨w.heap.size + 1 + 1, 0, none⟩) p.length p.length) (.slice (some ⟨w.heap.size + 1 + 1, 0, none⟩) p.length p.length)).out
    rw [HP.out] at E6
    exact bodyPost_ret (results_frame rfl _ rfl E6.1) rfl ⟨_, rfl, E6.2.1, E6.2.2, by omega⟩
end Go.Proofs.Ythfhjopofpffgaa

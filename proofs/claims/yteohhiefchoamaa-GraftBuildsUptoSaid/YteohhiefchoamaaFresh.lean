/-
  The walk of heap.fresh.
-/
import Derived.Test.YteohhiefchoamaaHeap
import Derived.Laws.CopyOwn
namespace Go.Proofs.Yteohhiefchoamaa
open Go.RowKit

/-- A slice reads as these numbers. -/
def Rd (w : World) (v : Value) (p : List Int) : Prop :=
  ∃ A c, v = .slice A p.length c ∧ (0 < p.length → ∃ bl off, A = some ⟨bl, off, none⟩ ∧ ∀ k (h : k < p.length), w.cell? ⟨bl, off + k, none⟩ = some (.int .i64 p[k]))

theorem size3 : (Try.prog.info? 3).map (·.size) = some 1 := by kernel_rfl
theorem info3 : (Try.prog.info? 3).map (fun i => (i.zero, i.size, i.bytes)) = some (some (.int .i64 0), 1, 8) := by kernel_rfl
set_option maxHeartbeats 1000000 in
theorem fresh_any (w : World) (v : Value) (p : List Int) (hR : Rd w v p) (hl : p.length ≤ 17592186044416) :
    Calls Try.prog 64 #[v] w fun e w' => ∃ g, e = .returned (.slice (some ⟨g, 0, none⟩) p.length p.length) ∧ Blk w' g 3 (nInts p).toArray ∧ Same w w' ∧ w.heap.size ≤ g := by
  obtain ⟨A, c, rfl, hA⟩ := hR
  obtain ⟨i0, hi0, hz0, hz1, hz2⟩ := info_parts info3
  have hmk := fun W => run_make (P := Try.prog) W 26 3 i0 (.int .i64 0) Try.underlying26 hi0 hz0 .i64 .i64 p.length p.length (by omega) (by omega) (by rw [hz2]; omega) (by omega)
  simp only [hz1, Int.toNat_natCast, Nat.mul_one] at hmk
  clear hi0 hz0 hz1 hz2
  by_cases h0 : p.length = 0
  · obtain rfl : p = [] := List.eq_nil_of_length_eq_zero h0
    simp only [List.length_nil, Int.natCast_zero] at hmk ⊢
    clear h0 hA
    go_enter Try.func64, Try.ntmps64
    go_wp2_with (with_reducible refine wpList_copy_nothing rfl _ _ _ _ rfl _ Try.underlying26 size3 _ _ _ _ _ _ rfl rfl rfl ?_)
    go_ret
    refine ⟨_, rfl, ?_, (Turned.refl _ _).alloc _, Nat.le_refl _⟩
    have hb := Blk.new w 3 (madeCells #[Value.int IntKind.i64 0] 0)
    have e : madeCells #[Value.int IntKind.i64 0] 0 = (nInts []).toArray := by simp [madeCells, nInts]
    rw [e] at hb
    simpa [e] using hb
  · have hp : 0 < p.length := by omega
    obtain ⟨bl, off, rfl, hc⟩ := hA hp
    have hb0 := World.block_lt_of_cell? w _ (hc 0 hp)
    simp only at hb0
    have hne : p.length ≠ 0 := h0
    clear hA h0
    obtain ⟨ps, hps⟩ : ∃ ps, ps = nInts p := ⟨_, rfl⟩
    have hpl : ps.length = p.length := by rw [hps]; simp [nInts]
    have hsrc : ∀ j v, ps[j]? = some v → w.cell? ((⟨bl, off, none⟩ : Addr).add j) = some v := by
      intro j v hv
      rw [hps] at hv
      simp only [nInts, List.getElem?_map, Option.map_eq_some_iff] at hv
      obtain ⟨n, hn, rfl⟩ := hv
      obtain ⟨hj, rfl⟩ := List.getElem?_eq_some_iff.1 hn
      rw [Addr.add_lit]
      exact hc j hj
    have h1c : ∀ v ∈ ps, v.oneCell' = true := by
      intro v hv; rw [hps] at hv; simp [nInts] at hv; obtain ⟨n, _, rfl⟩ := hv; rfl
    have HP := Lib.hid hps; have HL := Lib.hid hpl; have HS := Lib.hid hsrc; have H1 := Lib.hid h1c
    clear hps hpl hsrc h1c hc
    obtain ⟨mc, hm⟩ : ∃ mc, mc = madeCells (Value.int .i64 0).cells p.length := ⟨_, rfl⟩
    have HM := Lib.hid hm
    rw [← hm] at hmk
    clear hm
    go_enter Try.func64, Try.ntmps64
    go_wp2_with (with_reducible refine wpList_copy_splice rfl _ _ _ _ rfl _ Try.underlying26 size3 _ _ _ _ _ _ rfl rfl w.heap.size 0 mc.toList 3 ?h1 ps ?h2 ?h3 ?h4 H1.out w.heap.size _ (Below.refl _ _) (by omega) ?_)
    case h1 =>
      have hb := Blk.new w 3 mc
      unfold Blk at hb
      simpa using hb
    case h2 => rw [HL.out]; exact (Nat.min_self _).symm
    case h3 =>
      intro _ j v hv
      rw [← Addr.add_lit]
      have := HS.out j v hv
      exact this
    case h4 => rw [HL.out, HM.out]; simp [size_madeCells]
    intro w4 hg4 hb4
    have hB : Hid (Blk w4 w.heap.size 3 (nInts p).toArray) := by
      have := hg4.out
      unfold Hid Blk; rw [this]
      have e : splice mc.toList 0 ps = ps := by
        have hl2 : mc.toList.length = ps.length := by rw [HL.out, HM.out]; simp [size_madeCells]
        unfold splice
        rw [List.take_zero, List.nil_append, Nat.zero_add, ← hl2, List.drop_length, List.append_nil]
      rw [e, HP.out]
    have hS4 : Hid (Same w w4) := by
      refine Turned.trans (T := fun i => w.heap.size ≤ i) ((Turned.refl _ _).alloc _) (b := w.alloc (Obj.cells mc 3)) ?_ (fun i hi => .inr hi)
      exact ⟨hb4.os, hb4.tape, hb4.output, hb4.size, fun k _ hn => hb4.block k (by omega)⟩
    clear hb4 hg4 hmk
    go_wp2
    go_ret
    exact ⟨_, rfl, hB.out, hS4.out, Nat.le_refl _⟩

theorem has_yes (w : World) (b : Nat) (room : Int) (v : Value) (N : List NV) (h : HeapAt w b room v N) (a : Nat) (ha : a < N.length) : Calls Try.prog 59 #[.pointer (some ⟨b, 0, none⟩), .int .i64 a] w fun e w' => e = .returned (.bool true) ∧ w = w' := by
  obtain ⟨va, c, rfl, _, _⟩ := own_shape h.own
  have c1 := h.blk.cell 1
  simp at c1
  have haI : (a : Int) < N.length := by omega
  clear h
  go_enter Try.func59, Try.ntmps59
  go_wp2
  go_ret
  exact ⟨rfl, rfl⟩
theorem has_no (w : World) (b : Nat) (room : Int) (v : Value) (N : List NV) (h : HeapAt w b room v N) (a : Int) (ha : a < 0 ∨ (N.length : Int) ≤ a) : Calls Try.prog 59 #[.pointer (some ⟨b, 0, none⟩), .int .i64 a] w fun e w' => e = .returned (.bool false) ∧ w = w' := by
  obtain ⟨va, c, rfl, _, _⟩ := own_shape h.own
  have c1 := h.blk.cell 1
  simp at c1
  clear h
  by_cases h0 : a < 0
  · clear ha
    go_enter Try.func59, Try.ntmps59
    go_wp2
    go_ret
    exact ⟨rfl, rfl⟩
  · have h1 : ¬ a < (N.length : Int) := by omega
    have h2 : 0 ≤ a := by omega
    clear ha h0
    go_enter Try.func59, Try.ntmps59
    go_wp2
    go_ret
    exact ⟨rfl, rfl⟩
end Go.Proofs.Yteohhiefchoamaa

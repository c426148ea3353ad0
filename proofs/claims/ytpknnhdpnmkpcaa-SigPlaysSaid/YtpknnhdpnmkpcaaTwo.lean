/-
  The law's two pairs of signatures, between two steps.
-/
import Derived.Test.YtpknnhdpnmkpcaaStep1
import Derived.Test.YtpknnhdpnmkpcaaStep2
import Derived.Test.YtpknnhdpnmkpcaaStep3
import Derived.Test.YtpknnhdpnmkpcaaStep4
namespace Go.Proofs.Ytpknnhdpnmkpcaa
open Go.RowKit

theorem step_any {w : World} {b bm r : Nat} {v u : Value} {L : List Sym} {o : OpD} (h : Pr w b bm v r u L) (hs : o.x.name.size ≤ maxLen) (hn : I64 o.n) :
    Calls Try.prog 18 #[.pointer (some ⟨b, 0, none⟩), .pointer (some ⟨r, 0, none⟩), o.val] w fun e w' => e = .returned (.bool true) ∧ Did w w' b bm v r u := by
  by_cases k1 : o.kind = 1
  · exact step_add h hs k1
  by_cases k2 : o.kind = 2
  · exact step_at h k2
  by_cases k3 : o.kind = 3
  · exact step_find h hs k3
  by_cases k4 : o.kind = 4
  · exact step_all h k4 hn
  by_cases k5 : o.kind = 5
  · exact step_of h k5
  by_cases k7 : o.kind = 7
  · exact step_len h k7
  have ne : ∀ n : Int, o.kind ≠ n → (o.kind == n) = false := fun n h => by rw [beq_eq_false_iff_ne]; exact h
  exact step_none h (ne 1 k1) (ne 2 k2) (ne 3 k3) (ne 4 k4) (ne 5 k5) (ne 7 k7)

abbrev ptr (b : Nat) : Value := .pointer (some ⟨b, 0, none⟩)

structure TW (w wr : World) (gl gr : Nat) (b0 m0 : Nat) (v0 : Value) (r0 : Nat) (u0 : Value) (L0 : List Sym) (b1 m1 : Nat) (v1 : Value) (r1 : Nat) (u1 : Value) (L1 : List Sym) : Prop where
  low : Below w.heap.size w wr
  p0 : Pr wr b0 m0 v0 r0 u0 L0
  p1 : Pr wr b1 m1 v1 r1 u1 L1
  ap : ∀ k, pfoot b0 m0 v0 r0 u0 k → ¬ pfoot b1 m1 v1 r1 u1 k
  h0 : ∀ k, pfoot b0 m0 v0 r0 u0 k → w.heap.size ≤ k ∧ k ≠ gl ∧ k ≠ gr
  h1 : ∀ k, pfoot b1 m1 v1 r1 u1 k → w.heap.size ≤ k ∧ k ≠ gl ∧ k ≠ gr
  bl : Blk wr gl 24 #[ptr b0, ptr b1]
  br : Blk wr gr 40 #[ptr r0, ptr r1]
  hl : w.heap.size ≤ gl
  hr : w.heap.size ≤ gr

section
variable {w wr w' : World} {gl gr b0 m0 r0 b1 m1 r1 : Nat} {v0 u0 v1 u1 : Value} {L0 L1 : List Sym}
theorem TW.ne (h : TW w wr gl gr b0 m0 v0 r0 u0 L0 b1 m1 v1 r1 u1 L1) : gl ≠ gr := Blk.ne_ h.bl h.br (by decide)
theorem TW.did0 (h : TW w wr gl gr b0 m0 v0 r0 u0 L0 b1 m1 v1 r1 u1 L1) (d : Did wr w' b0 m0 v0 r0 u0) : ∃ v' u' L', TW w w' gl gr b0 m0 v' r0 u' L' b1 m1 v1 r1 u1 L1 := by
  obtain ⟨v', u', L', hp, ht, hn⟩ := d
  have hll := h.bl.lt
  have hrl := h.br.lt
  have hsz := h.low.size
  refine ⟨v', u', L', h.low.trans (ht.below hsz (fun i hi => (h.h0 i hi).1)), hp, h.p1.turned ht (fun k hk hk0 => h.ap k hk0 hk), fun k hk hk1 => ?_, fun k hk => ?_, h.h1, h.bl.turned ht (fun hk => (h.h0 gl hk).2.1 rfl), h.br.turned ht (fun hk => (h.h0 gr hk).2.2 rfl), h.hl, h.hr⟩
  · rcases hn k hk with h2 | h2
    · exact h.ap k h2 hk1
    · have := h.p1.lt k hk1; omega
  · rcases hn k hk with h2 | h2
    · exact h.h0 k h2
    · exact ⟨by omega, by omega, by omega⟩
theorem TW.did1 (h : TW w wr gl gr b0 m0 v0 r0 u0 L0 b1 m1 v1 r1 u1 L1) (d : Did wr w' b1 m1 v1 r1 u1) : ∃ v' u' L', TW w w' gl gr b0 m0 v0 r0 u0 L0 b1 m1 v' r1 u' L' := by
  obtain ⟨v', u', L', hp, ht, hn⟩ := d
  have hll := h.bl.lt
  have hrl := h.br.lt
  have hsz := h.low.size
  refine ⟨v', u', L', h.low.trans (ht.below hsz (fun i hi => (h.h1 i hi).1)), h.p0.turned ht (fun k hk hk0 => h.ap k hk hk0), hp, fun k hk hk1 => ?_, h.h0, fun k hk => ?_, h.bl.turned ht (fun hk => (h.h1 gl hk).2.1 rfl), h.br.turned ht (fun hk => (h.h1 gr hk).2.2 rfl), h.hl, h.hr⟩
  · rcases hn k hk1 with h2 | h2
    · exact h.ap k hk h2
    · have := h.p0.lt k hk; omega
  · rcases hn k hk with h2 | h2
    · exact h.h1 k h2
    · exact ⟨by omega, by omega, by omega⟩
theorem TW.below (h : TW w wr gl gr b0 m0 v0 r0 u0 L0 b1 m1 v1 r1 u1 L1) (hb : Below wr.heap.size wr w') : TW w w' gl gr b0 m0 v0 r0 u0 L0 b1 m1 v1 r1 u1 L1 :=
  ⟨below_below h.low hb, h.p0.below hb, h.p1.below hb, h.ap, h.h0, h.h1, h.bl.turned (below_turned hb) (fun hk => by have := h.bl.lt; omega), h.br.turned (below_turned hb) (fun hk => by have := h.br.lt; omega), h.hl, h.hr⟩

/-- Pair 1 becomes a copy of pair 0 (and the other way round, below): what the walk has of the worlds between. -/
theorem TW.copy (h : TW w wr gl gr b0 m0 v0 r0 u0 L0 b1 m1 v1 r1 u1 L1) {b m r c cm : Nat} {v u x y : Value} {L : List Sym} {w2 w5 : World} {i : Nat} (hp : Pr wr b m v r u L) (hh : ∀ k, pfoot b m v r u k → w.heap.size ≤ k ∧ k ≠ gl ∧ k ≠ gr)
    (t2 : Same wr w2) (hs : SigAt w2 c cm x L) (hf : ∀ k, foot c cm x k → wr.heap.size ≤ k)
    (t5 : Same (w2.setCell ⟨gl, i, none⟩ (ptr c)) w5) (row : w5.ownsRow 0 31 3 y L.length (symCells L)) (fr : ∀ k, y.ownBlock = some k → w2.heap.size ≤ k) :
    let W7 := (w5.alloc (.cells #[y] 42)).setCell ⟨gr, i, none⟩ (ptr w5.heap.size)
    Below w.heap.size w W7 ∧ Pr W7 b m v r u L ∧ Pr W7 c cm x w5.heap.size y L ∧ (∀ k, pfoot b m v r u k → ¬ pfoot c cm x w5.heap.size y k) ∧ (∀ k, pfoot c cm x w5.heap.size y k → w.heap.size ≤ k ∧ k ≠ gl ∧ k ≠ gr) ∧
      Blk W7 gl 24 (#[ptr b0, ptr b1].setIfInBounds i (ptr c)) ∧ Blk W7 gr 40 (#[ptr r0, ptr r1].setIfInBounds i (ptr w5.heap.size)) := by
  have hll := h.bl.lt
  have hrl := h.br.lt
  have hsz := h.low.size
  have hne := h.ne
  have z2 := t2.size
  have z3 : w2.heap.size ≤ (w2.setCell ⟨gl, i, none⟩ (ptr c)).heap.size := (KeepsWalks.setCell w2 _ _).size
  have z5 := t5.size
  have hgl := h.hl
  have hgr := h.hr
  -- what turned: gl, gr, and new blocks
  have T3 : Turned (fun k => k = gl ∨ k = gr) wr (w2.setCell ⟨gl, i, none⟩ (ptr c)) := (t2.mono (fun _ h => h.elim)).setCell (p := ⟨gl, i, none⟩) (.inl (.inl rfl)) _
  have T5 : Turned (fun k => k = gl ∨ k = gr) wr w5 := T3.trans t5 (fun _ h => h.elim)
  have T7 : Turned (fun k => k = gl ∨ k = gr) wr ((w5.alloc (.cells #[y] 42)).setCell ⟨gr, i, none⟩ (ptr w5.heap.size)) := (T5.alloc _).setCell (p := ⟨gr, i, none⟩) (.inl (.inr rfl)) _
  have S7 : Turned (fun k => k = gl ∨ k = gr) w2 ((w5.alloc (.cells #[y] 42)).setCell ⟨gr, i, none⟩ (ptr w5.heap.size)) :=
    (((Turned.setCell (S := fun k => k = gl ∨ k = gr) (Turned.refl _ w2) (p := ⟨gl, i, none⟩) (.inl (.inl rfl)) _).trans t5 (fun _ h => h.elim)).alloc _).setCell (p := ⟨gr, i, none⟩) (.inl (.inr rfl)) _
  have R7 : Turned (fun k => k = gr) w5 ((w5.alloc (.cells #[y] 42)).setCell ⟨gr, i, none⟩ (ptr w5.heap.size)) := ((Turned.refl (fun k => k = gr) w5).alloc _).setCell (p := ⟨gr, i, none⟩) (.inl rfl) _
  have fl : ∀ k, foot c cm x k → k < w2.heap.size := foot_lt hs
  have bl5 : Blk w5 gl 24 (#[ptr b0, ptr b1].setIfInBounds i (ptr c)) := ((h.bl.turned t2 (fun h => h)).set_ i _).turned t5 (fun h => h)
  have br5 : Blk w5 gr 40 #[ptr r0, ptr r1] := (((h.br.turned t2 (fun h => h)).far (p := ⟨gl, i, none⟩) (by simp; omega) _)).turned t5 (fun h => h)
  have rf : ∀ k, rfoot w5.heap.size y k → w2.heap.size ≤ k := by
    intro k hk
    rcases hk with rfl | hk
    · omega
    · exact fr k hk
  refine ⟨h.low.trans (T7.below hsz (fun k hk => by rcases hk with rfl | rfl; exact hgl; exact hgr)), hp.turned T7 (fun k hk hk2 => by rcases hk2 with e | e; exact (hh k hk).2.1 e; exact (hh k hk).2.2 e), ⟨hs.turned S7 (fun k hk hk2 => by have := hf k hk; rcases hk2 with e | e <;> omega), ⟨?_, World.ownsRow.turned row R7 (fun k hk e => by have := fr k hk; omega)⟩, hp.good, fun k hk hk2 => ?_⟩, fun k hk hk2 => ?_, fun k hk => ?_, ?_, ?_⟩
  · exact (Blk.new w5 42 #[y]).far (p := ⟨gr, i, none⟩) (by simp; have := br5.lt; omega) _
  · have := fl k hk; have := rf k hk2; omega
  · have h3 := hp.lt k hk
    rcases hk2 with hk2 | hk2
    · have := hf k hk2; omega
    · have := rf k hk2; omega
  · have h3 : wr.heap.size ≤ k := by
      rcases hk with hk | hk
      · exact hf k hk
      · have := rf k hk; omega
    exact ⟨by omega, by omega, by omega⟩
  · exact (bl5.alloc _).far (p := ⟨gr, i, none⟩) (by simp; omega) _
  · exact (br5.alloc _).set_ i _
end
end Go.Proofs.Ytpknnhdpnmkpcaa

/-
  (*Sig).All: the function value that it hands back, and what a range over it gives.
-/
import Derived.Test.YtpknnhdpnmkpcaaClone
import Derived.RangeFuncNested
import Derived.RangeFuncLeaves
import Derived.Shelf.Abstract
import Derived.WalkKit
import Derived.OwnWalkIn
import Derived.TacticsInMore
import Derived.LoopNIn
import Derived.LoopIn
namespace Go.Proofs.Ytpknnhdpnmkpcaa
open Go.RowKit

attribute [local go_sem] Oper.semAt_some

/-- The symbol of a number. -/
def nthS (L : List Sym) (j : Nat) : Sym := L[j]?.getD Sym.zero
/-- What has come when k rounds are over. -/
def num (L : List Sym) (k : Nat) : List (Nat × Sym) := (List.range k).map fun j => (j, nthS L j)
theorem num_succ (L : List Sym) (k : Nat) : num L (k + 1) = num L k ++ [(k, nthS L k)] := by simp [num, List.range_succ]
theorem num_length (L : List Sym) (k : Nat) : (num L k).length = k := by simp [num]

/-- The block g lies as it lay. -/
def KeepG (g : Nat) (A B : World) : Prop := A.heap.size ≤ B.heap.size ∧ B.heap[g]? = A.heap[g]?
theorem KeepG.refl (g : Nat) (A : World) : KeepG g A A := ⟨Nat.le_refl _, rfl⟩
theorem keepG_t {g : Nat} {A B C : World} (h : KeepG g A B) (k : KeepG g B C) : KeepG g A C := ⟨Nat.le_trans h.1 k.1, k.2.trans h.2⟩
theorem keepG_b {g : Nat} {w : World} (hg : g < w.heap.size) (W : World) (l : Nat) (o o' : Obj) (hl : w.heap.size ≤ l) (_ : W.heap[l]? = some o) (_ : o.isCells = false) (_ : o.isWalk = false) : KeepG g W (W.putObj l o') := ⟨by simp, World.putObj_heap_other (by omega)⟩
theorem KeepG.alloc {g : Nat} {A : World} (hg : g < A.heap.size) (o : Obj) : KeepG g A (A.alloc o) := ⟨by simp, Below.heap_alloc A o g hg⟩

/-- A slice of symbols whose row is block g (or nil). -/
def SymsG (g : Nat) (W : World) (v : Value) (L : List Sym) : Prop :=
  g < W.heap.size ∧ ((v = .slice none 0 0 ∧ L = []) ∨ ∃ cap, v = .slice (some ⟨g, 0, none⟩) L.length cap ∧ ∀ k, k < L.length → W.cell? ⟨g, k * 3, none⟩ = some (.string (nthS L k).name) ∧ W.cell? ⟨g, k * 3 + 1, none⟩ = some (.int .i64 (nthS L k).arity) ∧ W.cell? ⟨g, k * 3 + 2, none⟩ = some (.bool (nthS L k).defd))
theorem SymsG.keep {g : Nat} {A B : World} (h : KeepG g A B) {v : Value} {L : List Sym} : SymsG g A v L → SymsG g B v L
  | ⟨hl, .inl e⟩ => ⟨Nat.lt_of_lt_of_le hl h.1, .inl e⟩
  | ⟨hl, .inr ⟨cap, e, hc⟩⟩ => ⟨Nat.lt_of_lt_of_le hl h.1, .inr ⟨cap, e, fun k hk => ⟨(World.cell?_of_block h.2).trans (hc k hk).1, (World.cell?_of_block h.2).trans (hc k hk).2.1, (World.cell?_of_block h.2).trans (hc k hk).2.2⟩⟩⟩
theorem SymsG.of_own {w : World} {v : Value} {L : List Sym} (h : w.ownsRow 0 31 3 v L.length (symCells L)) {w0 : World} (hf : Fresh w0 v) (h0 : w0.heap.size < w.heap.size) : ∃ g, SymsG g w v L ∧ w0.heap.size ≤ g := by
  have hl := h.lt
  rcases h.2 with ⟨rfl, e0⟩ | ⟨g, cap, cur, rfl, _, _, _, _⟩
  · exact ⟨w0.heap.size, ⟨h0, .inl ⟨rfl, List.eq_nil_of_length_eq_zero e0⟩⟩, Nat.le_refl _⟩
  · refine ⟨g, ⟨(hl g rfl).2, .inr ⟨cap, rfl, fun k hk => ?_⟩⟩, hf g rfl⟩
    have hc := h.cells (g := g) rfl
    obtain ⟨e0, e1, e2⟩ := symCells_at L k hk
    have d0 := hc _ _ e0
    have d1 := hc _ _ e1
    have d2 := hc _ _ e2
    simp only [Addr.add_lit, Nat.zero_add] at d0 d1 d2
    have e : nthS L k = L[k] := by simp [nthS, hk]
    rw [e]
    exact ⟨d0, d1, d2⟩

set_option maxRecDepth 100000 in
set_option maxHeartbeats 2000000 in
/-- The closure that slices.All makes, where there are symbols. -/
theorem all1_in (F : Fence) (n : Nat) (h37 : F.fn 37) (hro : F.round = none) (_hn : 1 ≤ n) (l Bs g cap : Nat) (L : List Sym) (hL : L.length ≤ 64) (J Jx : List (Nat × Sym) → World → Prop)
    (W : World) (hg : g < W.heap.size) (hJa : AbidesFrom W.heap.size J)
    (hY : ∀ pre x W, J pre W → pre.length < L.length → YieldAt F (n - 1) Try.prog l #[.int .i64 (x.1 : Int), x.2.val] W fun e W' =>
      (e = .returned (.bool true) ∧ J (pre ++ [x]) W' ∧ KeepG g W W') ∨ (e = .returned (.bool false) ∧ Jx (pre ++ [x]) W'))
    (hBs : W.cell? ⟨Bs, 0, none⟩ = some (.slice (some ⟨g, 0, none⟩) L.length cap))
    (hc : ∀ k, k < L.length → W.cell? ⟨g, k * 3, none⟩ = some (.string (nthS L k).name) ∧ W.cell? ⟨g, k * 3 + 1, none⟩ = some (.int .i64 (nthS L k).arity) ∧ W.cell? ⟨g, k * 3 + 2, none⟩ = some (.bool (nthS L k).defd)) (h0 : J [] W) :
    CallsIn F n Try.prog 37 #[.func (.yield l) #[] #[], .pointer (some ⟨Bs, 0, none⟩)] W fun e W' => (∃ v, e = .returned v) ∧
      ((∃ ys, ys = num L L.length ∧ J ys W') ∨ (∃ pre, (∃ k, k ≤ L.length ∧ pre = num L k) ∧ Jx pre W')) := by
  refine callsIn_of_wp Try.func37 rfl h37 ?_ hro
  simp only [Try.ntmps37, List.size_toArray, List.length_cons, List.length_nil, Nat.reduceAdd, Nat.reduceSub, Array.replicate_succ, Array.replicate_zero, List.push_toArray, List.append_toArray, List.nil_append, List.cons_append]
  gi_wp2
  gi_loopw [7] (fun i wr => ∃ k : Nat, k ≤ L.length ∧ i = .int .i64 k ∧ J (num L k) wr ∧ KeepG g W wr)
    (fun i _ => L.length - (intOf i).toNat)
  case atStart => exact ⟨0, Nat.zero_le _, rfl, h0, KeepG.refl _ _⟩
  case round =>
    obtain ⟨k, hk, rfl, hJs, hnx⟩ := hrel
    by_cases hlt : k < L.length
    · obtain ⟨q0, q1, q2⟩ := hc k hlt
      have d0 := (World.cell?_of_block (a := ⟨g, k * 3, none⟩) hnx.2).trans q0
      have d1 := (World.cell?_of_block (a := ⟨g, k * 3 + 1, none⟩) hnx.2).trans q1
      have d2 := (World.cell?_of_block (a := ⟨g, k * 3 + 2, none⟩) hnx.2).trans q2
      obtain ⟨x, hx⟩ : ∃ x, x = nthS L k := ⟨_, rfl⟩
      rw [← hx] at d0 d1 d2
      have HX := Lib.hid hx
      clear q0 q1 q2 hx hc
      have hJ1 : J (num L k) (wr.alloc (.cells #[.string x.name, .int .i64 x.arity, .bool x.defd] 31)) := hJa _ _ _ none hJs (World.grownBy_alloc _ _ none) (fun r e => by cases e)
      obtain ⟨fn, tmps, assign, body, hy, hR⟩ := hY _ (k, x) _ hJ1 (by rw [num_length]; exact hlt)
      dsimp only [Sym.val] at hy
      have hk0 : (0 : Int) ≤ k := by omega
      have hk1 : (k : Int) < L.length := by omega
      gi_wp2
      refine hR.mono ?_
      rintro e W3 (⟨rfl, hJ3, hk3⟩ | ⟨rfl, hJx3⟩)
      · gi_wp2
        go_roundw
        case rel => exact ⟨k + 1, by omega, by simp, by rw [num_succ, ← HX.out]; exact hJ3, keepG_t (keepG_t hnx (KeepG.alloc (Nat.lt_of_lt_of_le hg hnx.1) _)) hk3⟩
        case measure => simp [intOf]; omega
      · gi_wp2
        refine bodyPost_ret (results_none rfl _ _ _) rfl ?_
        exact ⟨⟨_, rfl⟩, .inr ⟨_, ⟨k + 1, by omega, by rw [num_succ, ← HX.out]⟩, hJx3⟩⟩
    · obtain rfl : k = L.length := by omega
      gi_wp2
      go_end0
      exact ⟨⟨_, rfl⟩, .inl ⟨_, rfl, hJs⟩⟩

set_option maxRecDepth 100000 in
set_option maxHeartbeats 1000000 in
/-- .. at the nil slice: no round. -/
theorem all1_nil_in (F : Fence) (n : Nat) (h37 : F.fn 37) (hro : F.round = none) (l Bs : Nat) (J : List (Nat × Sym) → World → Prop) (W : World) (hBs : W.cell? ⟨Bs, 0, none⟩ = some (.slice none 0 0)) (h0 : J [] W) :
    CallsIn F n Try.prog 37 #[.func (.yield l) #[] #[], .pointer (some ⟨Bs, 0, none⟩)] W fun e W' => (∃ v, e = .returned v) ∧ J [] W' := by
  refine callsIn_of_wp Try.func37 rfl h37 ?_ hro
  simp only [Try.ntmps37, List.size_toArray, List.length_cons, List.length_nil, Nat.reduceAdd, Nat.reduceSub, Array.replicate_succ, Array.replicate_zero, List.push_toArray, List.append_toArray, List.nil_append, List.cons_append]
  gi_wp2
  gi_loopw [7] (fun i wr => i = .int .i64 0 ∧ J [] wr) (fun _ _ => 0)
  case atStart => exact ⟨rfl, h0⟩
  case round =>
    obtain ⟨rfl, hJs⟩ := hrel
    gi_wp2
    go_end0
    exact ⟨⟨_, rfl⟩, hJs⟩

/-- What slices.All hands back, as a range takes it. -/
theorem all_stops (F : Fence) (n : Nat) (h37 : F.fn 37) (hro : F.round = none) (hn : 1 ≤ n) (Bs g : Nat) (sv : Value) (L : List Sym) (hL : L.length ≤ 64) (w : World) (hBs : Bs < w.heap.size)
    (hc : w.cell? ⟨Bs, 0, none⟩ = some sv) (hI : SymsG g w sv L) :
    SeqStopsK F n Try.prog 37 #[.pointer (some ⟨Bs, 0, none⟩)] (fun x : Nat × Sym => #[Value.int .i64 (x.1 : Int), x.2.val]) (KeepG g) (fun ys => ys = num L L.length)
      (fun pre => ∃ k, k ≤ L.length ∧ pre = num L k) L.length w := fun l J Jx W hW hJa _ hY h0 => by
  have hc' := (hW.cell (p := ⟨Bs, 0, none⟩) hBs).trans hc
  have hI' : SymsG g W sv L := hI.keep ⟨hW.size, hW.block g hI.1⟩
  obtain ⟨hlt, ⟨rfl, rfl⟩ | ⟨cap, rfl, hcs⟩⟩ := hI'
  · exact (all1_nil_in F n h37 hro l Bs J W hc' h0).mono fun e W' ⟨he, hj⟩ => ⟨he, .inl ⟨_, rfl, hj⟩⟩
  · exact all1_in F n h37 hro hn l Bs g cap L hL J Jx W hlt hJa hY hc' hcs h0

theorem allf_any (w : World) (a : Option Addr) (n c : Nat) : Calls Try.prog 36 #[.slice a n c] w fun e w' => e = .returned (.func (.func 37) #[] #[.pointer (some ⟨w.heap.size, 0, none⟩)]) ∧ w' = w.alloc (.cells #[.slice a n c] 23) := by
  go_enter Try.func36, Try.ntmps36
  go_wp2
  go_ret
  exact ⟨rfl, rfl⟩

theorem all_any (w : World) (b bm : Nat) (v : Value) (L : List Sym) (h : SigAt w b bm v L) :
    Calls Try.prog 31 #[.pointer (some ⟨b, 0, none⟩)] w fun e w' => ∃ B g u, e = .returned (.func (.func 37) #[] #[.pointer (some ⟨B, 0, none⟩)]) ∧ Boxed w' B 23 u ∧ SymsG g w' u L ∧ Same w w' ∧ w.heap.size ≤ B ∧ w.heap.size ≤ g := by
  have HC := Lib.hid (clone_any w v L h.own h.few)
  obtain ⟨a, c, rfl, h1, h2⟩ := own_shape h.own
  have c0 := h.blk.cell 0
  simp at c0
  clear h
  go_enter Try.func31, Try.ntmps31
  go_wp2_with fail
  refine HC.out.mono ?_
  rintro e w1 ⟨u, rfl, hu, hs, hf⟩
  obtain ⟨a', c', rfl, _, _⟩ := own_shape hu
  clear HC
  go_wp2_with fail
  refine (allf_any _ _ _ _).mono ?_
  rintro e w2 ⟨rfl, rfl⟩
  go_wp2_with fail
  go_ret
  have hb := Boxed.new w1 23 (.slice a' L.length c')
  obtain ⟨g, hg, hg2⟩ := SymsG.of_own (World.ownsRow.alloc hu (.cells #[.slice a' L.length c'] 23)) hf (by have := hs.size; simp; omega)
  exact ⟨_, g, _, rfl, hb, hg, hs.alloc _, hs.size, hg2⟩
end Go.Proofs.Ytpknnhdpnmkpcaa

/-
  The nodes that a term is laid into, by the places; where a heap of the document grows by a node.
-/
import Derived.Test.YteohhiefchoamaaRArgs
import Derived.Test.YteohhiefchoamaaFault
import Derived.BigQuiet
namespace Go.Proofs.Yteohhiefchoamaa
open Go.RowKit

/-- A row of numbers that was made since w. -/
structure RowI (w wr : World) (ov : Value) (O : List Int) : Prop where
  same : Same w wr
  own : wr.ownsRow 0 3 1 ov O.length (nInts O)
  new : ∀ k, ov.ownBlock = some k → w.heap.size ≤ k
theorem RowI.push {w wr w1 w2 : World} {ov ov2 : Value} {O : List Int} {p : Int} (h : RowI w wr ov O) (hs : Same wr w1) (ho : w2.ownsRow 0 3 1 ov2 (O.length + 1) (nInts O ++ nInts [p])) (hg : w1.grownBy w2 ov.ownBlock) (hat : ov2.ownBlock = ov.ownBlock ∨ ov2.ownBlock = some w1.heap.size) : RowI w w2 ov2 (O ++ [p]) := by
  have h1 := h.same.trans hs (fun _ h => h.elim)
  refine ⟨h1.trans ((Turned.refl (fun k => ov.ownBlock = some k) w1).grown hg (fun k hk => .inl hk)) (fun i hi => .inr (h.new i hi)), ?_, fun k hk => ?_⟩
  · rw [List.length_append, show nInts (O ++ [p]) = nInts O ++ nInts [p] from by simp [nInts]]
    exact ho
  · rcases hat with e | e
    · exact h.new k (e.symm.trans hk)
    · have e2 := e.symm.trans hk
      obtain rfl : w1.heap.size = k := by simpa using e2
      exact h1.size
theorem results_f2 {w : World} {fn : Func} {t u : Tmp} (h : fn.results = #[.tmp t, .cell u 80]) (tmps : Array Value) {g : Nat} (ht : tmps.getD u undef = .pointer (some ⟨g, 0, none⟩)) {a b c d e f : Value} (hB : Blk w g 80 #[a, b, c, d, e, f]) :
    (results fn tmps).run Try.prog w = .ok (.tuple #[tmps.getD t undef, .agg #[a, b, c, d, e, f]]) w := by
  obtain ⟨h0, h1, h2, h3, h4, h5⟩ := hB.six
  have ht' : tmps[u]?.getD undef = .pointer (some ⟨g, 0, none⟩) := by simpa using ht
  simp [results, h, ht', go_sem, h0, h1, h2, h3, h4, h5]
abbrev lst (t : List Int) : List (Int × Int) := t.map fun n => (n, (0 : Int))
theorem lst_syms {t : List Int} (hp : ∀ n ∈ t, 0 ≤ n) (L : List Sym) (base q : Nat) : (layF L base ((lst t).drop q)).2.length = t.length - q := by
  rw [layF_syms, ← List.map_drop, syms_all (fun n hn => hp n (List.mem_of_mem_drop hn)), List.length_drop]
theorem lst_fst (t : List Int) : (lst t).map (·.1) = t := by
  induction t with
  | nil => rfl
  | cons a r ih => simp only [lst, List.map_cons, List.map_map] at ih ⊢; rw [ih]
theorem lst_adr {t : List Int} (hp : ∀ n ∈ t, 0 ≤ n) (L : List Sym) (base p : Nat) (h : p < t.length) : (adrF L base (lst t)).getD p 0 = (base : Int) + t.length - 1 - p := by
  have hl : p < (lst t).length := by simpa using h
  have h1 := adrF_at L base hl
  rw [List.getD, h1]
  have hn : ¬ (lst t)[p].1 < 0 := by
    have h5 : (lst t)[p].1 = t[p] := by simp [lst]
    rw [h5]
    have := hp t[p] (List.getElem_mem _)
    omega
  rw [if_neg hn, lst_syms hp]
  show ((base + (t.length - (p + 1)) : Nat) : Int) = _
  omega
theorem topsF_bd (L : List Sym) : ∀ (r : List Int) (m : Nat), ∀ p ∈ topsF L r m, m ≤ p ∧ p < m + r.length
  | [], m, p, h => by simp [topsF] at h
  | n :: r, m, p, h => by
    simp only [topsF, List.mem_cons] at h
    rcases h with rfl | h
    · simp
    · have := topsF_bd L r (m + 1) p (List.mem_of_mem_drop h)
      simp only [List.length_cons]
      omega
/-- The arguments of the node at a place of a term. -/
theorem lst_args {t : List Int} (hp : ∀ n ∈ t, 0 ≤ n) (L : List Sym) (base i k : Nat) : (layF L base ((lst t).drop i)).1.take k = ((topsF L (t.drop i) i).take k).map (fun (p : Nat) => (base : Int) + t.length - 1 - p) := by
  rw [lay_args, List.map_drop, lst_fst]
  refine List.map_congr_left (fun p hp2 => ?_)
  have h1 := topsF_bd L (t.drop i) i p (List.mem_of_mem_take hp2)
  rw [List.length_drop] at h1
  exact lst_adr hp L base p (by omega)
/-- Where a heap of the document's grows by a node. -/
theorem rmake_after {w w3 w4 : World} {r g cap c : Nat} {room : Int} {a : Option Addr} {N : List NV} {x : Nd} {av : Value} {o : Obj}
    (h : RHeap w r room (.slice a N.length c) N) (hw3 : Same w w3) (hB : w3.ownsRow 0 3 1 av x.args.length (nInts x.args))
    (hown : w4.ownsRow 0 53 5 (.slice (some ⟨g, 0, none⟩) (N.length + 1) cap) (N.length + 1) (nall N ++ ncells (x, av)))
    (hgrow : (w3.alloc o).grownBy w4 (Value.slice a N.length c).ownBlock) (hat : (Value.slice a N.length c).ownBlock = some g ∨ g = w3.heap.size + 1) :
    RHeap (w4.setCell ⟨r, 1, none⟩ (.slice (some ⟨g, 0, none⟩) (N.length + 1) cap)) r room (.slice (some ⟨g, 0, none⟩) (N.length + 1) cap) (N ++ [(x, av)]) ∧
      Turned (hfoot r (.slice a N.length c)) w (w4.setCell ⟨r, 1, none⟩ (.slice (some ⟨g, 0, none⟩) (N.length + 1) cap)) ∧
      ((Value.slice (some ⟨g, 0, none⟩) (N.length + 1) cap).ownBlock = (Value.slice a N.length c).ownBlock ∨ ∃ k, (Value.slice (some ⟨g, 0, none⟩) (N.length + 1) cap).ownBlock = some k ∧ w.heap.size ≤ k) := by
  have h3 := h.same hw3
  have hne := own_blk_ne h3.own h3.blk (by decide)
  have hB4 : Blk w4 r 72 #[.int .i64 room, .slice a N.length c] := (h3.blk.alloc o).grown hgrow hne.symm
  have hgb : g ≠ r := by
    intro e; subst e
    exact own_blk_ne hown hB4 (by decide) rfl
  have hT4 : Turned (hfoot r (.slice a N.length c)) w w4 := ((hw3.mono (fun _ h => h.elim)).alloc o).grown hgrow (fun k hk => .inl (.inr hk))
  have hT34 : Turned (fun k => (Value.slice a N.length c).ownBlock = some k) w3 w4 := ((Turned.refl _ _).alloc o).grown hgrow (fun k hk => .inl hk)
  have hset : ∀ u, Turned (fun k => k = r) w4 (w4.setCell ⟨r, 1, none⟩ u) := fun u => Turned.setCell (S := fun k => k = r) (Turned.refl _ w4) (p := ⟨r, 1, none⟩) (.inl rfl) u
  have hq4 := World.ownsRow.turned hB hT34 (own_own_ne hB h3.own (by decide))
  refine ⟨⟨(hB4.set_ 1 _).trans rfl, ?_, ?_⟩, hT4.setCell (.inl (.inl rfl)) _, ?_⟩
  · rw [nall_snoc, List.length_append]
    exact World.ownsRow.turned hown (hset _) (fun k hk e => hgb (by simp [Value.ownBlock] at hk; omega))
  · intro y hy
    rw [List.mem_append] at hy
    rcases hy with hy | hy
    · have hp := World.ownsRow.turned (h3.args y hy) hT34 (own_own_ne (h3.args y hy) h3.own (by decide))
      exact World.ownsRow.turned hp (hset _) (fun k hk e => own_blk_ne hp hB4 (by decide) (by rw [hk, e]))
    · obtain rfl : y = _ := by simpa using hy
      exact World.ownsRow.turned hq4 (hset _) (fun k hk e => own_blk_ne hq4 hB4 (by decide) (by rw [hk, e]))
  · rcases hat with h | h
    · exact .inl h.symm
    · exact .inr ⟨g, rfl, by have := hw3.size; omega⟩
end Go.Proofs.Yteohhiefchoamaa

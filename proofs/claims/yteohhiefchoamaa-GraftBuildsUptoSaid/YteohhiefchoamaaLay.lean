/-
  The walks of full, lay.
-/
import Derived.Test.YteohhiefchoamaaApp
import Derived.Test.YteohhiefchoamaaIs
namespace Go.Proofs.Yteohhiefchoamaa
open Go.RowKit

def RdS (w : World) (S : Nat → Prop) (pv : Value) (p : List Int) : Prop :=
  ∃ A c, pv = .slice A p.length c ∧ (0 < p.length → ∃ bl off, A = some ⟨bl, off, none⟩ ∧ ¬ S bl ∧ ∀ k (h : k < p.length), w.cell? ⟨bl, off + k, none⟩ = some (.int .i64 p[k]))
theorem RdS.rd {w : World} {S : Nat → Prop} {pv : Value} {p : List Int} (h : RdS w S pv p) : Rd w pv p := by
  obtain ⟨A, c, rfl, h1⟩ := h
  refine ⟨A, c, rfl, fun h0 => ?_⟩
  obtain ⟨bl, off, rfl, _, hc⟩ := h1 h0
  exact ⟨bl, off, rfl, hc⟩
theorem RdS.keep {w w' : World} {S : Nat → Prop} {pv : Value} {p : List Int} (h : RdS w S pv p) (ht : Turned S w w') : RdS w' S pv p := by
  obtain ⟨A, c, rfl, h1⟩ := h
  refine ⟨A, c, rfl, fun h0 => ?_⟩
  obtain ⟨bl, off, rfl, hb, hc⟩ := h1 h0
  exact ⟨bl, off, rfl, hb, fun k hk => (ht.cell (p := ⟨bl, off + k, none⟩) (World.block_lt_of_cell? w _ (hc k hk)) hb).trans (hc k hk)⟩
/-- What is at hand for the places that are no symbols. -/
def HandAt (w : World) (S : Nat → Prop) (hv : Value) (P : List (Int × Int)) : Prop :=
  ∃ A n c, hv = .slice A n c ∧ ∀ m (h : m < P.length), P[m].1 < 0 → m < n ∧ ∃ bl off, A = some ⟨bl, off, none⟩ ∧ ¬ S bl ∧ w.cell? ⟨bl, off + m, none⟩ = some (.int .i64 P[m].2)
theorem HandAt.keep {w w' : World} {S : Nat → Prop} {hv : Value} {P : List (Int × Int)} (h : HandAt w S hv P) (ht : Turned S w w') : HandAt w' S hv P := by
  obtain ⟨A, n, c, rfl, h1⟩ := h
  refine ⟨A, n, c, rfl, fun m hm hn => ?_⟩
  obtain ⟨h2, bl, off, rfl, hb, hc⟩ := h1 m hm hn
  exact ⟨h2, bl, off, rfl, hb, (ht.cell (p := ⟨bl, off + m, none⟩) (World.block_lt_of_cell? w _ hc) hb).trans hc⟩
theorem sig_apart {w : World} {bs bm b : Nat} {vs v : Value} {L : List Sym} {room : Int} {N : List NV} (hs : SigAt w bs bm vs L) (hh : HeapAt w b room v N) : ∀ k, foot bs bm vs k → ¬ hfoot b v k := by
  obtain ⟨D, hD, _⟩ := hs.map
  rintro k (rfl | rfl | hk) (rfl | hv)
  · exact Blk.ne_ hs.blk hh.blk (by decide) rfl
  · exact own_blk_ne hh.own hs.blk (by decide) hv
  · exact blk_map_ne hh.blk hD rfl
  · exact own_map_ne hh.own hD hv
  · exact own_blk_ne hs.own hh.blk (by decide) hk
  · rcases hs.own.2 with ⟨e, _⟩ | ⟨g, cap, cur, e, _, hg, _⟩
    · rw [e] at hk; simp [Value.ownBlock] at hk
    · rw [e] at hk
      obtain rfl : g = k := by simpa [Value.ownBlock] using hk
      exact own_blk_ne hh.own (show Blk w g 84 cur from hg) (by decide) hv
theorem sig_at (w : World) (b bm : Nat) (v : Value) (L : List Sym) (h : SigAt w b bm v L) (n : Nat) (x : Sym) (hx : L[n]? = some x) :
    Calls Try.prog 76 #[.pointer (some ⟨b, 0, none⟩), .int .i64 n] w fun e w' => e = .returned (.tuple #[.agg #[.string x.name, .int .i64 x.arity, .bool x.defd], .int .i64 0]) ∧ Same w w' := by
  obtain ⟨hn, rfl⟩ := List.getElem?_eq_some_iff.1 hx
  exact at_some w b bm v L h n hn

/-- A heap's blocks that are no foot of it: its arguments. -/
def ablocks (N : List NV) : Nat → Prop := fun k => ∃ x ∈ N, x.2.ownBlock = some k
structure LayI (w wr : World) (b : Nat) (room : Int) (v : Value) (N : List NV) (L : List Sym) (P : List (Int × Int)) (k : Nat) (stv v' : Value) (M : List NV) : Prop where
  hp : HeapAt wr b room v' (N ++ M)
  ms : M.map (·.1) = (layF L N.length (P.drop k)).2
  st : wr.ownsRow 0 3 1 stv (layF L N.length (P.drop k)).1.length (nInts (layF L N.length (P.drop k)).1.reverse)
  tur : Turned (hfoot b v) w wr
  vown : v'.ownBlock = v.ownBlock ∨ ∃ j, v'.ownBlock = some j ∧ w.heap.size ≤ j
  snew : ∀ j, stv.ownBlock = some j → w.heap.size ≤ j ∧ ¬ ablocks (N ++ M) j

theorem nInts_length (l : List Int) : (nInts l).length = l.length := by simp [nInts]
theorem nInts_one (p : List Int) : ∀ u ∈ nInts p, u.oneCell' = true := by
  intro u hu; simp [nInts] at hu; obtain ⟨n, _, rfl⟩ := hu; rfl
theorem hap_own_ne {w : World} {b : Nat} {room : Int} {v : Value} {N : List NV} {s : Value} {n : Nat} {xs : List Value} (h : HeapAt w b room v N) (ho : w.ownsRow 0 3 1 s n xs) : ∀ k, s.ownBlock = some k → ¬ hfoot b v k := by
  intro k hk hf
  rcases hf with rfl | hf
  · exact own_blk_ne ho h.blk (by decide) hk
  · rcases ho.2 with ⟨e, _⟩ | ⟨g, cap, cur, e, _, hg, _⟩
    · rw [e] at hk; simp [Value.ownBlock] at hk
    · rw [e] at hk
      obtain rfl : g = k := by simpa [Value.ownBlock] using hk
      exact own_blk_ne h.own (show Blk w g 3 cur from hg) (by decide) hf
theorem HeapAt.turned {w w' : World} {b : Nat} {room : Int} {v : Value} {N : List NV} {S : Nat → Prop} (h : HeapAt w b room v N) (ht : Turned S w w') (hn : ∀ k, hfoot b v k → ¬ S k) (ha : ∀ k, ablocks N k → ¬ S k) : HeapAt w' b room v N :=
  ⟨h.blk.turned ht (hn b (.inl rfl)), World.ownsRow.turned h.own ht (fun k hk => hn k (.inr hk)), fun x hx => (h.args x hx).turned ht (fun k hk => ha k ⟨x, hx, hk⟩)⟩

theorem full_any (w : World) : Calls Try.prog 51 #[] w fun e w' => e = .returned (.iface 104 (.pointer (some ⟨w.heap.size, 0, none⟩))) ∧ Blk w' w.heap.size 106 #[.int .i64 131, .int .i64 0, .iface 63 (.int .i64 111)] ∧ Same w w' := by
  go_enter Try.func51, Try.ntmps51
  go_wp2
  go_ret
  exact ⟨rfl, Blk.new w 106 _, (Turned.refl _ _).alloc _⟩
theorem own_shrink {w : World} {e : TypeId} {size g n m c : Nat} {xs ys : List Value} (h : w.ownsRow 0 e size (.slice (some ⟨g, 0, none⟩) (n + m) c) (n + m) (xs ++ ys)) (hl : xs.length = n * size) :
    w.ownsRow 0 e size (.slice (some ⟨g, 0, none⟩) n c) n xs := by
  rcases h.2 with ⟨h0, _⟩ | ⟨g', cap, cur, hv, hb, hh, h1, h2, h3, h4⟩
  · cases h0
  · injection hv with hv _ hc
    injection hv with hv
    injection hv with hv
    subst hv; subst hc
    refine ⟨hl, .inr ⟨g, c, cur, rfl, hb, hh, by omega, h2, h3, ?_⟩⟩
    have e : (cur.toList.take ((n + m) * size)).take (n * size) = cur.toList.take (n * size) := by
      rw [List.take_take, Nat.min_eq_left (Nat.mul_le_mul_right _ (Nat.le_add_right _ _))]
    rw [← e, h4, List.take_append_of_le_length (Nat.le_of_eq hl.symm), List.take_of_length_le (Nat.le_of_eq hl)]
theorem row_cell {w : World} {g c n : Nat} {xs : List Value} (h : w.ownsRow 0 3 1 (.slice (some ⟨g, 0, none⟩) n c) n xs) {j : Nat} {u : Value} (hu : xs[j]? = some u) : w.cell? ⟨g, j, none⟩ = some u := by
  have := World.ownsRow.cells (g := g) h rfl j u hu
  simpa [Addr.add_lit] using this

/-- In the loop over a symbol's arguments: m of them are taken from the stack. -/
structure InI (W1 wr : World) (sa : Option Addr) (sc : Nat) (stk : List Int) (m t : Nat) (av : Value) : Prop where
  same : Same W1 wr
  st : wr.ownsRow 0 3 1 (.slice sa t sc) t (nInts (stk.drop m).reverse)
  len : (stk.drop m).length = t
  ar : wr.ownsRow 0 3 1 av m (nInts (stk.take m))
  new : ∀ j, av.ownBlock = some j → W1.heap.size ≤ j
theorem InI.step {W1 wr w1 w2 : World} {sg sc : Nat} {stk : List Int} {m t : Nat} {av av' : Value} {x : Int} (h : InI W1 wr (some ⟨sg, 0, none⟩) sc stk m (t + 1) av) (hx : stk[m]? = some x) (hsl : sg < W1.heap.size) (hs : Same wr w1)
    (ho : w2.ownsRow 0 3 1 av' (m + 1) (nInts (stk.take m) ++ nInts [x])) (hg : w1.grownBy w2 av.ownBlock) (hat : av'.ownBlock = av.ownBlock ∨ av'.ownBlock = some w1.heap.size) : InI W1 w2 (some ⟨sg, 0, none⟩) sc stk (m + 1) t av' := by
  obtain ⟨hm, hm2⟩ := List.getElem?_eq_some_iff.1 hx
  have hd : stk.drop m = x :: stk.drop (m + 1) := by rw [← hm2]; exact List.drop_eq_getElem_cons hm
  have hst := h.st
  rw [hd, List.reverse_cons, show nInts ((stk.drop (m + 1)).reverse ++ [x]) = nInts (stk.drop (m + 1)).reverse ++ nInts [x] from by simp [nInts]] at hst
  have hlen := h.len
  rw [hd, List.length_cons] at hlen
  have h01 : Same W1 w1 := h.same.trans hs (fun _ h => h.elim)
  have h12 : Turned (fun k => av.ownBlock = some k) w1 w2 := (Turned.refl _ _).grown hg (fun k hk => .inl hk)
  refine ⟨h01.trans h12 (fun i hi => .inr (h.new i hi)), ?_, by omega, ?_, fun j hj => ?_⟩
  · have h1 := own_shrink hst (by simp only [nInts, List.length_map, List.length_reverse, Nat.mul_one]; omega)
    refine (World.ownsRow.turned (World.ownsRow.turned h1 hs (fun _ _ h => h)) h12 (fun k hk hf => ?_))
    obtain rfl : sg = k := by simpa [Value.ownBlock] using hk
    have := h.new sg hf
    omega
  · rw [List.take_add_one, hx, show nInts (stk.take m ++ (some x).toList) = nInts (stk.take m) ++ nInts [x] from by simp [nInts]]
    exact ho
  · rcases hat with e | e
    · exact h.new j (e.symm.trans hj)
    · have e2 := e.symm.trans hj
      obtain rfl : w1.heap.size = j := by simpa using e2
      exact h01.size
theorem HeapAt.alt {w : World} {b : Nat} {room : Int} {v : Value} {N : List NV} (h : HeapAt w b room v N) : ∀ k, ablocks N k → k < w.heap.size := by
  rintro k ⟨x, hx, hk⟩
  rcases h.args x hx with ⟨e, _⟩ | ⟨g, e, hg⟩
  · rw [e] at hk; simp [Value.ownBlock] at hk
  · rw [e] at hk
    obtain rfl : g = k := by simpa [Value.ownBlock] using hk
    exact hg.lt
theorem HeapAt.flt {w : World} {b : Nat} {room : Int} {v : Value} {N : List NV} (h : HeapAt w b room v N) : ∀ k, hfoot b v k → k < w.heap.size := by
  rintro k (rfl | hk)
  · exact h.blk.lt
  · exact (h.own.lt k hk).2
/-- An append onto the stack. -/
theorem stack_push {w wr w1 w' : World} {b n : Nat} {v v1 st st' : Value} {room : Int} {NM : List NV} {xs : List Value} (hT : Turned (hfoot b v) w wr) (hH : HeapAt wr b room v1 NM) (ho : wr.ownsRow 0 3 1 st n xs) (hn : ∀ j, st.ownBlock = some j → w.heap.size ≤ j ∧ ¬ ablocks NM j)
    (hs : Same wr w1) (hg : w1.grownBy w' st.ownBlock) (hat : st'.ownBlock = st.ownBlock ∨ st'.ownBlock = some w1.heap.size) : HeapAt w' b room v1 NM ∧ Turned (hfoot b v) w w' ∧ ∀ j, st'.ownBlock = some j → w.heap.size ≤ j ∧ ¬ ablocks NM j := by
  have h1 := hH.same hs
  have ht : Turned (fun k => st.ownBlock = some k) w1 w' := (Turned.refl _ _).grown hg (fun k hk => .inl hk)
  have hne := hap_own_ne hH ho
  have h01 : Turned (hfoot b v) w w1 := hT.trans hs (fun _ h => h.elim)
  refine ⟨h1.turned ht (fun k hk e => hne k e hk) (fun k hk e => (hn k e).2 hk), h01.trans ht (fun i hi => .inr (hn i hi).1), fun j hj => ?_⟩
  rcases hat with e | e
  · exact hn j (e.symm.trans hj)
  · have e2 := e.symm.trans hj
    obtain rfl : w1.heap.size = j := by simpa using e2
    refine ⟨h01.size, fun ha => ?_⟩
    have := hH.alt _ ha
    have := hs.size
    omega
theorem layF_le (L : List Sym) (base : Nat) : ∀ P : List (Int × Int), (layF L base P).1.length ≤ P.length
  | [] => by simp [layF]
  | (n, h) :: r => by
    have ih := layF_le L base r
    by_cases hn : n < 0
    · rw [layF_cons_neg L base hn]; simp; exact ih
    · rw [layF_cons_pos L base hn]; simp; omega
/-- As many as a symbol wants stand on the stack. -/
theorem layF_enough (L : List Sym) (base : Nat) {P : List (Int × Int)} (hP : Well L 1 (P.map (·.1))) {m : Nat} {n h : Int} (hd : P.drop m = (n, h) :: P.drop (m + 1)) : arN L n ≤ (layF L base (P.drop (m + 1))).1.length := by
  obtain ⟨w', hw⟩ := well_drop L _ 1 m hP
  rw [← List.map_drop, hd] at hw
  obtain ⟨h0, h1⟩ := hw
  rw [layF_len L base _ _ h1]
  show arN L n ≤ w' - 1 + arN L n
  omega
theorem hfoot_moved {w wr : World} {v v1 v2 : Value} (h1 : v1.ownBlock = v.ownBlock ∨ ∃ j, v1.ownBlock = some j ∧ w.heap.size ≤ j) (hsz : w.heap.size ≤ wr.heap.size) (h2 : v2.ownBlock = v1.ownBlock ∨ ∃ j, v2.ownBlock = some j ∧ wr.heap.size ≤ j) : v2.ownBlock = v.ownBlock ∨ ∃ j, v2.ownBlock = some j ∧ w.heap.size ≤ j := by
  rcases h2 with e | ⟨j, e, hj⟩
  · rcases h1 with e1 | ⟨j, e1, hj⟩
    · exact .inl (e.trans e1)
    · exact .inr ⟨j, e.trans e1, hj⟩
  · exact .inr ⟨j, e, Nat.le_trans hsz hj⟩
theorem hfoot_old {w : World} {b : Nat} {v v1 : Value} (h1 : v1.ownBlock = v.ownBlock ∨ ∃ j, v1.ownBlock = some j ∧ w.heap.size ≤ j) : ∀ i, hfoot b v1 i → hfoot b v i ∨ w.heap.size ≤ i := by
  rintro i (rfl | hi)
  · exact .inl (.inl rfl)
  · rcases h1 with e | ⟨j, e, hj⟩
    · exact .inl (.inr (e.symm.trans hi))
    · have e2 := e.symm.trans hi
      obtain rfl : j = i := by simpa using e2
      exact .inr hj
/-- Behind a round that has made an application. -/
theorem LayI.made {w w2 w3 : World} {b m q q2 : Nat} {room : Int} {v v1 v2 av' : Value} {N M : List NV} {L : List Sym} {P : List (Int × Int)} {stk : List Int} {sa : Option Addr} {sc t : Nat} {p : Int} {wi : World}
    (hT1 : Turned (hfoot b v) w wi) (hV1 : v1.ownBlock = v.ownBlock ∨ ∃ j, v1.ownBlock = some j ∧ w.heap.size ≤ j) (hH : HeapAt wi b room v1 (N ++ M)) (hst : wi.ownsRow 0 3 1 (.slice sa t sc) t (nInts (stk.drop q).reverse)) (hsn : ∀ j, (Value.slice sa t sc).ownBlock = some j → w.heap.size ≤ j ∧ ¬ ablocks (N ++ M) j)
    (hq2 : wi.heap.size ≤ q2) (hH2 : HeapAt w2 b room v2 ((N ++ M) ++ [(⟨p, stk.take q, 0, false, 0⟩, .slice (some ⟨q2, 0, none⟩) (stk.take q).length (stk.take q).length)])) (ht2 : Turned (hfoot b v1) wi w2) (hv2 : v2.ownBlock = v1.ownBlock ∨ ∃ j, v2.ownBlock = some j ∧ wi.heap.size ≤ j)
    (ho : w3.ownsRow 0 3 1 av' (t + 1) (nInts (stk.drop q).reverse ++ nInts [((N.length : Int) + (M.length : Int))])) (hg : (w2.alloc (.cells #[.int .i64 ((N.length : Int) + (M.length : Int))] 3)).grownBy w3 (Value.slice sa t sc).ownBlock) (hat : av'.ownBlock = (Value.slice sa t sc).ownBlock ∨ av'.ownBlock = some (w2.heap.size + 1))
    (hlay : layF L N.length (P.drop m) = (((N.length + M.length : Nat) : Int) :: stk.drop q, M.map (·.1) ++ [⟨p, stk.take q, 0, false, 0⟩])) (hlen : (stk.drop q).length = t) :
    LayI w w3 b room v N L P m av' v2 (M ++ [(⟨p, stk.take q, 0, false, 0⟩, .slice (some ⟨q2, 0, none⟩) (stk.take q).length (stk.take q).length)]) := by
  have hsz := hT1.size
  have hT2 : Turned (hfoot b v) w w2 := hT1.trans ht2 (hfoot_old hV1)
  have hst2 : w2.ownsRow 0 3 1 (.slice sa t sc) t (nInts (stk.drop q).reverse) := World.ownsRow.turned hst ht2 (fun k hk hf => hap_own_ne hH hst k hk hf)
  have hsn2 : ∀ j, (Value.slice sa t sc).ownBlock = some j → w.heap.size ≤ j ∧ ¬ ablocks ((N ++ M) ++ [(⟨p, stk.take q, 0, false, 0⟩, .slice (some ⟨q2, 0, none⟩) (stk.take q).length (stk.take q).length)]) j := by
    intro j hj
    refine ⟨(hsn j hj).1, ?_⟩
    rintro ⟨x, hx, hk⟩
    rw [List.mem_append] at hx
    rcases hx with hx | hx
    · exact (hsn j hj).2 ⟨x, hx, hk⟩
    · obtain rfl : x = _ := by simpa using hx
      obtain rfl : q2 = j := by simpa [Value.ownBlock] using hk
      have := (hst.lt q2 hj).2
      omega
  have hsp := stack_push hT2 hH2 hst2 hsn2 ((Turned.refl _ w2).alloc _) hg (by simpa using hat)
  rw [List.append_assoc] at hsp
  refine ⟨hsp.1, by rw [hlay]; simp, ?_, hsp.2.1, hfoot_moved hV1 hsz hv2, hsp.2.2⟩
  rw [hlay]
  simp only [List.length_cons, hlen]
  have e : nInts ((((N.length + M.length : Nat) : Int) :: stk.drop q)).reverse = nInts (stk.drop q).reverse ++ nInts [((N.length : Int) + (M.length : Int))] := by simp [nInts]
  rw [e]; exact ho
end Go.Proofs.Yteohhiefchoamaa

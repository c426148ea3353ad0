/-
  The law's ranged: twice over All, the first time left behind so many: true, by the symbols themselves.
-/
import Derived.Test.YtpknnhdpnmkpcaaAllS
import Derived.Test.YtpknnhdpnmkpcaaRefSig
import Derived.Test.YtpknnhdpnmkpcaaRound
import Derived.Test.YtpknnhdpnmkpcaaSymEq
namespace Go.Proofs.Ytpknnhdpnmkpcaa
open Go.RowKit

attribute [local go_sem] Oper.semAt_some

theorem below_turned {w w' : World} (h : Below w.heap.size w w') : Turned (fun i => w.heap.size ≤ i) w w' :=
  ⟨h.os, h.tape, h.output, h.size, fun k hk _ => h.block k hk⟩
theorem foot_lt {w : World} {b bm : Nat} {v : Value} {L : List Sym} (h : SigAt w b bm v L) : ∀ k, foot b bm v k → k < w.heap.size := by
  intro k hk
  obtain ⟨D, hD, _⟩ := h.map
  rcases hk with rfl | rfl | hk
  · exact h.blk.lt
  · exact hD.lt
  · exact (h.own.lt k hk).2
theorem SigAt.below {w w' : World} {b bm : Nat} {v : Value} {L : List Sym} (h : SigAt w b bm v L) (hb : Below w.heap.size w w') : SigAt w' b bm v L :=
  h.turned (below_turned hb) (fun k hk hge => by have := foot_lt h k hk; omega)

theorem blk_own {β : Type} (g : Nat) (t : TypeId) (f : β → Array Value) : Own (fun s W => Blk W g t (f s)) := fun s X Y row hs hg hrow =>
  hs.grown hg (fun e' => by obtain ⟨o, ho, hc⟩ := hrow g e'.symm; rw [show X.heap[g]? = _ from hs] at ho; cases ho; cases hc)
theorem ownFrom_at {β : Type} {B D : Nat} (o : Obj) (hD : D < B) : OwnFrom B (fun (_ : β) W => W.heap[D]? = some o) := fun s X Y row hs hg hr =>
  (hg.block D (Array.getElem?_eq_some_iff.1 hs).1 (fun e => by have := (hr D e.symm).1; omega)).trans hs

/-- Between two rounds: what came, and the four boxes. -/
structure RI (w : World) (L : List Sym) (lv : Value) (stop : Int) (Bl Bs Br Bn n1 : Nat) (pre : List (Nat × Sym)) (W : World) : Prop where
  num : pre = num L pre.length
  sz : n1 ≤ W.heap.size
  bl : Boxed W Bl 23 lv
  bs : Boxed W Bs 3 (.int .i64 stop)
  br : Boxed W Br 4 (.bool false)
  bn : Boxed W Bn 3 (.int .i64 pre.length)
  low : Below w.heap.size w W
theorem RI.own {w : World} {L : List Sym} {lv : Value} {stop : Int} {Bl Bs Br Bn n1 B : Nat} (hB : w.heap.size ≤ B) : OwnFrom B (RI w L lv stop Bl Bs Br Bn n1) := fun s X Y row hs hg hr => by
  have hr2 : ∀ r, row = some r → ∃ o : Obj, X.heap[r]? = some o ∧ o.isCells = false := fun r e => (hr r e).2
  exact ⟨hs.num, Nat.le_trans hs.sz hg.size, boxed_own Bl 23 (fun (_ : Unit) => lv) () X Y row hs.bl hg hr2, boxed_own Bs 3 (fun (_ : Unit) => .int .i64 stop) () X Y row hs.bs hg hr2, boxed_own Br 4 (fun (_ : Unit) => .bool false) () X Y row hs.br hg hr2,
    boxed_own Bn 3 (fun (_ : Unit) => .int .i64 s.length) () X Y row hs.bn hg hr2, ownFrom_below (β := Unit) (Nat.le_refl _) hB () X Y row hs.low hg hr⟩
theorem RI.alloc {w W : World} {L : List Sym} {lv : Value} {stop : Int} {Bl Bs Br Bn n1 : Nat} {pre : List (Nat × Sym)} (h : RI w L lv stop Bl Bs Br Bn n1 pre W) (o : Obj) : RI w L lv stop Bl Bs Br Bn n1 pre (W.alloc o) :=
  ⟨h.num, Nat.le_trans h.sz (by simp), h.bl.alloc _, h.bs.alloc _, h.br.alloc _, h.bn.alloc _, h.low.alloc h.low.size _⟩
theorem RI.drewN {w W : World} {L : List Sym} {lv : Value} {stop : Int} {Bl Bs Br Bn n1 : Nat} {pre : List (Nat × Sym)} (h : RI w L lv stop Bl Bs Br Bn n1 pre W) (n : Nat) : RI w L lv stop Bl Bs Br Bn n1 pre (W.drewN n) :=
  ⟨h.num, h.sz, h.bl, h.bs, h.br, h.bn, ⟨h.low.os, h.low.tape, h.low.output, h.low.size, h.low.block⟩⟩
theorem RI.snoc {w W : World} {L : List Sym} {lv : Value} {stop : Int} {Bl Bs Br Bn n1 : Nat} {pre : List (Nat × Sym)} (h : RI w L lv stop Bl Bs Br Bn n1 pre W) (hb : w.heap.size ≤ Bl ∧ Bl < Bs ∧ Bs < Br ∧ Br < Bn) :
    RI w L lv stop Bl Bs Br Bn n1 (pre ++ [(pre.length, nthS L pre.length)]) (W.setCell ⟨Bn, 0, none⟩ (.int .i64 (pre.length + 1 : Int))) := by
  have e : (pre ++ [(pre.length, nthS L pre.length)]).length = pre.length + 1 := by simp
  refine ⟨?_, Nat.le_trans h.sz (KeepsWalks.setCell W _ _).size, h.bl.other (by omega) _, h.bs.other (by omega) _, h.br.other (by omega) _, ?_, h.low.setCell (p := ⟨Bn, 0, none⟩) (by simp; omega) _⟩
  · rw [e, num_succ, ← h.num]
  · rw [e]; exact h.bn.set _
theorem num_bad {L : List Sym} {pre : List (Nat × Sym)} {x : Nat × Sym} (h : pre = num L pre.length) (hx : ¬ (x.1 = pre.length ∧ x.2 = nthS L pre.length)) : pre ++ [x] ≠ num L (pre ++ [x]).length := by
  intro e
  have e1 : (pre ++ [x]).length = pre.length + 1 := by simp
  rw [e1, num_succ, ← h] at e
  have := List.append_cancel_left e
  apply hx
  simp at this
  subst this
  exact ⟨rfl, rfl⟩

theorem keepO (n : Nat) (W : World) (a : Addr) (u : Value) : KeepsOthers W ((W.drewN n).setCell a u) :=
  KeepsOthers.trans (B := W.drewN n) ⟨Nat.le_refl _, fun _ _ h _ => h⟩ (KeepsOthers.setCell _ _ _)
theorem keepGset {g B : Nat} (n : Nat) (W : World) (u : Value) (h : g ≠ B) : KeepG g W ((W.drewN n).setCell ⟨B, 0, none⟩ u) :=
  ⟨(KeepsWalks.setCell (W.drewN n) _ _).size, Below.heap_setCell (W.drewN n) _ u g h⟩

set_option maxRecDepth 100000 in
set_option maxHeartbeats 4000000 in
theorem ranged_any (w : World) (b bm : Nat) (v u : Value) (L : List Sym) (h : SigAt w b bm v L) (hu : SymRd w u L) (stop : Int) :
    Calls Try.prog 20 #[.pointer (some ⟨b, 0, none⟩), u, .int .i64 stop] w fun e w' => e = .returned (.bool true) ∧ Below w.heap.size w w' := by
  obtain ⟨A, c, rfl, hA⟩ := hu
  have H := Lib.hid h; have HA := Lib.hid hA
  clear h hA
  have hro : Fence.wide.round = none := rfl
  refine (callsIn_wide (n := 6)).1 ?_
  refine callsIn_of_wp_marks Try.func20 rfl trivial ?_ hro
  simp only [Try.ntmps20, List.size_toArray, List.length_cons, List.length_nil, Nat.reduceAdd, Nat.reduceSub, Array.replicate_succ, Array.replicate_zero, List.push_toArray, List.append_toArray, List.nil_append, List.cons_append]
  gi_wp2_with fail
  obtain ⟨W0, hW0⟩ : ∃ W0, W0 = ((((w.alloc (Obj.cells #[Value.slice A L.length c] 23)).alloc (Obj.cells #[Value.int IntKind.i64 stop] 3)).alloc (Obj.cells #[Value.bool false] 4)).alloc (Obj.cells #[Value.int IntKind.i64 0] 3)) := ⟨_, rfl⟩
  obtain ⟨Bn, hBn⟩ : ∃ Bn, w.heap.size + 1 + 1 + 1 = Bn := ⟨_, rfl⟩
  obtain ⟨Br, hBr⟩ : ∃ Br, w.heap.size + 1 + 1 = Br := ⟨_, rfl⟩
  obtain ⟨Bs, hBs⟩ : ∃ Bs, w.heap.size + 1 = Bs := ⟨_, rfl⟩
  obtain ⟨Bl, hBl⟩ : ∃ Bl, w.heap.size = Bl := ⟨_, rfl⟩
  have hord : Hid (w.heap.size ≤ Bl ∧ Bl < Bs ∧ Bs < Br ∧ Br < Bn) := by unfold Hid; omega
  have R0 : Hid (RI w L (.slice A L.length c) stop Bl Bs Br Bn 0 [] W0) := by
    rw [hW0]
    have b1 := ((Boxed.new (w.alloc (Obj.cells #[Value.slice A L.length c] 23)) 3 (.int .i64 stop)).alloc (Obj.cells #[Value.bool false] 4)).alloc (Obj.cells #[Value.int IntKind.i64 0] 3)
    have b2 := (Boxed.new ((w.alloc (Obj.cells #[Value.slice A L.length c] 23)).alloc (Obj.cells #[Value.int IntKind.i64 stop] 3)) 4 (.bool false)).alloc (Obj.cells #[Value.int IntKind.i64 0] 3)
    have b3 := (Boxed.new (((w.alloc (Obj.cells #[Value.slice A L.length c] 23)).alloc (Obj.cells #[Value.int IntKind.i64 stop] 3)).alloc (Obj.cells #[Value.bool false] 4)) 3 (.int .i64 0))
    simp only [World.size_alloc] at b1 b2 b3
    rw [hBs] at b1
    rw [hBr] at b2
    rw [hBn] at b3
    exact ⟨rfl, Nat.zero_le _, by rw [← hBl]; exact (((Boxed.new w 23 _).alloc _).alloc _).alloc _, b1, b2, b3, ((((Below.refl _ w).alloc (Nat.le_refl _) _).alloc (by simp) _).alloc (by simp; omega) _).alloc (by simp; omega) _⟩
  rw [← hW0, hBn, hBr, hBs, hBl]
  clear hW0 hBn hBr hBs hBl
  refine ⟨trivial, (callsIn_wide.2 (all_any W0 b bm v L (H.out.below R0.out.low))).mono ?_⟩
  rintro e W1 ⟨Bf, g, u1, rfl, bF0, hG0, hs1, hBf, hg⟩
  have bF := Lib.hid bF0; have hG := Lib.hid hG0
  have R1 : Hid (RI w L (.slice A L.length c) stop Bl Bs Br Bn W1.heap.size [] W1) :=
    ⟨rfl, Nat.le_refl _, Blk.turned R0.out.bl hs1 (fun h => h), Blk.turned R0.out.bs hs1 (fun h => h), Blk.turned R0.out.br hs1 (fun h => h), Blk.turned R0.out.bn hs1 (fun h => h), R0.out.low.trans (Turned.below hs1 R0.out.low.size (fun _ h => h.elim))⟩
  have hlow : Hid (Bn < g ∧ Bn < W1.heap.size) := ⟨by have := R0.out.bn.lt; omega, R1.out.bn.lt⟩
  have hwl : Hid (w.heap.size ≤ W1.heap.size) := R1.out.low.size
  clear R0 hs1 hBf hg bF0 hG0
  gi_wp2_with fail
  rename_i K hK
  have REST : Hid (∀ (D : Nat) (pre : List (Nat × Sym)) (W : World), W1.heap.size ≤ D → W.heap[D]? = some (.deferred (some [])) → RI w L (.slice A L.length c) stop Bl Bs Br Bn W1.heap.size pre W → ((pre.length : Int) = L.length ∨ (pre.length : Int) = stop) →
      K { tmps := #[.pointer (some ⟨b, 0, none⟩), .slice A L.length c, .int .i64 stop, undef, .pointer (some ⟨Bl, 0, none⟩), .pointer (some ⟨Bs, 0, none⟩), .pointer (some ⟨Br, 0, none⟩), .pointer (some ⟨Bn, 0, none⟩), undef, undef, undef, undef, .pointer (some ⟨b, 0, none⟩), .func (.func 37) #[] #[.pointer (some ⟨Bf, 0, none⟩)], undef, undef, undef, undef, undef, undef, undef, undef, undef, undef, undef, undef, undef, undef, undef, undef, undef, undef, undef, undef, undef, undef, undef, undef, undef, undef, undef, undef, undef, undef, undef, undef, undef, undef, undef, undef, undef, undef, undef, undef, undef, undef, undef, undef, undef, undef, undef, undef, undef, undef, undef, undef, undef, undef, undef, undef, undef, undef, undef, undef], defers := [{ target := .collected D, args := #[] }] } W) := by
    intro D pre W hD hDo hI hor
    have HI := Lib.hid hI; have HD := Lib.hid hD; have HDo := Lib.hid hDo
    clear hI hD hDo
    refine hK _ _ ?_
    clear hK
    apply wpIn_seq_k
    intro K2 hK2
    have REST2 : Hid (∀ (g38 g39 g40 g41 g42 g43 g44 g45 g46 : Value), K2 { tmps := #[.pointer (some ⟨b, 0, none⟩), .slice A L.length c, .int .i64 stop, undef, .pointer (some ⟨Bl, 0, none⟩), .pointer (some ⟨Bs, 0, none⟩), .pointer (some ⟨Br, 0, none⟩), .pointer (some ⟨Bn, 0, none⟩), undef, undef, undef, undef, .pointer (some ⟨b, 0, none⟩), .func (.func 37) #[] #[.pointer (some ⟨Bf, 0, none⟩)], undef, undef, undef, undef, undef, undef, undef, undef, undef, undef, undef, undef, undef, undef, undef, undef, undef, undef, undef, undef, undef, undef, undef, undef, g38, g39, g40, g41, g42, g43, g44, g45, g46, undef, undef, undef, undef, undef, undef, undef, undef, undef, undef, undef, undef, undef, undef, undef, undef, undef, undef, undef, undef, undef, undef, undef, undef, undef, undef, undef], defers := [{ target := .collected D, args := #[] }] } W) := by
      intro g38 g39 g40 g41 g42 g43 g44 g45 g46
      refine hK2 _ _ ?_
      clear hK2
      have cn := HI.out.bn.cell
      have fn := HI.out.bn.frozen
      clear hor
      gi_wp2_with fail
      obtain ⟨W3, hW3⟩ : ∃ W3, W3 = W.setCell ⟨Bn, 0, none⟩ (.int .i64 0) := ⟨_, rfl⟩
      have R3 : Hid (RI w L (.slice A L.length c) stop Bl Bs Br Bn 0 [] W3) := by
        rw [hW3]
        have ho := hord.out
        exact ⟨rfl, Nat.zero_le _, HI.out.bl.other (by omega) _, HI.out.bs.other (by omega) _, HI.out.br.other (by omega) _, HI.out.bn.set _, HI.out.low.setCell (p := ⟨Bn, 0, none⟩) (by simp; omega) _⟩
      have D3 : Hid (W3.heap[D]? = some (.deferred (some []))) := by
        rw [hW3]
        have := hlow.out; have := HD.out
        exact (Below.heap_setCell W _ _ D (by simp; omega)).trans HDo.out
      rw [← hW3]
      clear hW3 cn fn HI HDo
      refine ⟨trivial, (callsIn_wide.2 (all_any W3 b bm v L (H.out.below R3.out.low))).mono ?_⟩
      rintro e W4 ⟨Bf2, g2, u2, rfl, bF20, hG20, hs4, hBf2, hg2⟩
      have bF2 := Lib.hid bF20; have hG2 := Lib.hid hG20
      have R4 : Hid (RI w L (.slice A L.length c) stop Bl Bs Br Bn W4.heap.size [] W4) :=
        ⟨rfl, Nat.le_refl _, Blk.turned R3.out.bl hs4 (fun h => h), Blk.turned R3.out.bs hs4 (fun h => h), Blk.turned R3.out.br hs4 (fun h => h), Blk.turned R3.out.bn hs4 (fun h => h), R3.out.low.trans (Turned.below hs4 R3.out.low.size (fun _ h => h.elim))⟩
      have hDlt : Hid (D < W4.heap.size) := by
        have := (Array.getElem?_eq_some_iff.1 D3.out).1
        have := hs4.size
        unfold Hid; omega
      have D4 : Hid (W4.heap[D]? = some (.deferred (some []))) := (hs4.block D (Array.getElem?_eq_some_iff.1 D3.out).1 (fun h => h)).trans D3.out
      have hlow2 : Hid (Bn < g2 ∧ Bn < W4.heap.size) := ⟨by have := R3.out.bn.lt; omega, R4.out.bn.lt⟩
      have hwl2 : Hid (w.heap.size ≤ W4.heap.size) := R4.out.low.size
      clear R3 D3 hs4 hBf2 hg2 bF20 hG20
      gi_wp2_with fail
      have S2 := all_stops Fence.wide (6 - 1) trivial hro (by omega) Bf2 g2 u2 L H.out.few W4 bF2.out.lt bF2.out.cell hG2.out
      refine wpIn_rangeFunc_ownH hro (by omega) (gf := 37) (lb := #[.pointer (some ⟨Bf2, 0, none⟩)]) rfl trivial (enters_of Try.func37 (by kernel_rfl) rfl)
        S2 keepG_t (keepG_b hG2.out.1) (Below.refl _ _) (fun _ => rfl)
        (fun pre W => RI w L (.slice A L.length c) stop Bl Bs Br Bn W4.heap.size pre W ∧ W.heap[D]? = some (.deferred (some [])))
        (fun c' pre _ => c' = .ret ∧ pre ≠ num L pre.length)
        (OwnFrom.and (RI.own hwl2.out) (ownFrom_at _ hDlt.out))
        (fun c' _ _ _ _ hs _ _ => hs)
        ⟨R4.out, D4.out⟩
        (fun x a' W => ∃ Bx, Bn < Bx ∧ Blk W Bx 31 #[.string x.2.name, .int .i64 x.2.arity, .bool x.2.defd] ∧ a' = { tmps := #[.pointer (some ⟨b, 0, none⟩), .slice A L.length c, .int .i64 stop, undef, .pointer (some ⟨Bl, 0, none⟩), .pointer (some ⟨Bs, 0, none⟩), .pointer (some ⟨Br, 0, none⟩), .pointer (some ⟨Bn, 0, none⟩), undef, undef, .int .i64 x.1, .pointer (some ⟨Bx, 0, none⟩), .pointer (some ⟨b, 0, none⟩), .func (.func 37) #[] #[.pointer (some ⟨Bf, 0, none⟩)], undef, undef, undef, undef, undef, undef, undef, undef, undef, undef, undef, undef, undef, undef, undef, undef, undef, undef, undef, undef, undef, undef, undef, undef, g38, g39, g40, g41, g42, g43, g44, g45, g46, .pointer (some ⟨b, 0, none⟩), .func (.func 37) #[] #[.pointer (some ⟨Bf2, 0, none⟩)], .int .i64 x.1, x.2.val, undef, undef, undef, undef, undef, undef, undef, undef, undef, undef, undef, undef, undef, undef, undef, undef, undef, undef, undef, undef, undef, undef, undef], defers := [] })
        (fun x a' _ X Y row hs hg hr => by obtain ⟨Bx, e1, e2, e3⟩ := hs; exact ⟨Bx, e1, blk_own Bx 31 (fun (_ : Unit) => #[.string x.2.name, .int .i64 x.2.arity, .bool x.2.defd]) () X Y row e2 hg (fun r e => (hr r e).2), e3⟩)
        ?assign2 ?body2 ?done2 ?stop2
      case assign2 =>
        rintro l pre x W K ⟨hI, hDI⟩ hK
        obtain ⟨xi, xs⟩ := x
        dsimp only [Sym.val]
        gi_wp2
        refine hK _ _ ((KeepsOthers.alloc _ _).from _) (KeepG.alloc (Nat.lt_of_lt_of_le hG2.out.1 hI.sz) _) ⟨hI.alloc _, (Below.heap_alloc W _ D (Array.getElem?_eq_some_iff.1 hDI).1).trans hDI⟩ ⟨W.heap.size, ?_, Blk.new W 31 _, rfl⟩
        exact hI.bn.lt
      case body2 =>
        rintro l pre x a' W - - ⟨hI, hDI⟩ ⟨Bx, hBx, bX, rfl⟩ hlt
        obtain ⟨xi, xs⟩ := x
        dsimp only [Sym.val] at bX ⊢
        have HI := Lib.hid hI
        have cl : W.cell? ⟨Bl, 0, none⟩ = some (.slice A L.length c) := hI.bl.cell
        have HDI := Lib.hid hDI
        have cs : W.cell? ⟨Bs, 0, none⟩ = some (.int .i64 stop) := hI.bs.cell
        have cr : W.cell? ⟨Br, 0, none⟩ = some (.bool false) := hI.br.cell
        have cn : W.cell? ⟨Bn, 0, none⟩ = some (.int .i64 pre.length) := hI.bn.cell
        have fr : W.frozen? ⟨Br, 0, none⟩ = false := hI.br.frozen
        have fn : W.frozen? ⟨Bn, 0, none⟩ = false := hI.bn.frozen
        have x0 : W.cell? ⟨Bx, 0, none⟩ = some (.string xs.name) := (bX.cell 0).trans rfl
        have x1 : W.cell? ⟨Bx, 1, none⟩ = some (.int .i64 xs.arity) := (bX.cell 1).trans rfl
        have x2 : W.cell? ⟨Bx, 2, none⟩ = some (.bool xs.defd) := (bX.cell 2).trans rfl
        obtain ⟨bl, off, rfl, hc⟩ := HA.out (by omega)
        obtain ⟨q0, q1, q2⟩ := hc pre.length hlt
        have hbl : bl < w.heap.size := World.block_lt_of_cell? w _ q0
        have d0 := (hI.low.cell (p := ⟨bl, off + pre.length * 3, none⟩) hbl).trans q0
        have d1 := (hI.low.cell (p := ⟨bl, off + pre.length * 3 + 1, none⟩) hbl).trans q1
        have d2 := (hI.low.cell (p := ⟨bl, off + pre.length * 3 + 2, none⟩) hbl).trans q2
        have hbad : Hid (¬ (xi = pre.length ∧ xs = L[pre.length]) → pre ++ [(xi, xs)] ≠ num L (pre ++ [(xi, xs)]).length) := fun h => num_bad hI.num (by simpa [nthS, hlt] using h)
        have hgood : Hid (xi = pre.length ∧ xs = L[pre.length] → RI w L (.slice (some ⟨bl, off, none⟩) L.length c) stop Bl Bs Br Bn W4.heap.size (pre ++ [(xi, xs)]) (W.setCell ⟨Bn, 0, none⟩ (.int .i64 (pre.length + 1 : Int)))) := fun h => by
          obtain ⟨rfl, rfl⟩ := h
          have := hI.snoc hord.out
          rw [show nthS L pre.length = L[pre.length] by simp [nthS, hlt]] at this
          exact this
        obtain ⟨y, hy⟩ : ∃ y, y = L[pre.length] := ⟨_, rfl⟩
        rw [← hy] at d0 d1 d2 hbad hgood
        have h63 : (pre.length : Int) ≤ 64 := by have := H.out.few; omega
        obtain ⟨k, hk⟩ : ∃ k, k = pre.length := ⟨_, rfl⟩
        rw [← hk] at hlt cn d0 d1 d2 hbad hgood h63
        have hk0 : (0 : Int) ≤ k := by omega
        have hk1 : (k : Int) < L.length := by omega
        have hk2 : decide (L.length ≤ k) = false := decide_eq_false (by omega)
        have HK := Lib.hid hk
        have ks : ∀ (m : Nat) (u : Value), ((W.drewN m).setCell ⟨Bn, 0, none⟩ u).cell? ⟨Bs, 0, none⟩ = some (.int .i64 stop) := fun m u => (Boxed.other (W := W.drewN m) HI.out.bs (by have := hord.out; omega) u).cell
        clear hI hDI bX hc q0 q1 q2 hbl hy hk
        by_cases hxi : (xi : Int) = k
        · rw [hxi]
          by_cases hxs : xs = y
          · subst hxs
            have HG := Lib.hid (hgood.out ⟨by omega, rfl⟩)
            clear hgood hbad
            gi_wp2_with fail
            refine region_quiet_round l hro (by kernel_rfl) (by kernel_rfl) (by kernel_rfl) ?_
            repeat (gi_big_quiet_step (fail))
            refine wpQuietIn_nil ?_
            intro _ hw'
            obtain ⟨nq, hw''⟩ := hw'
            subst hw''
            gi_wp2_with fail
            exact ⟨(keepO nq W _ _).from _, keepGset nq W _ (by have := hlow2.out; omega), HG.out.drewN nq, (Below.heap_setCell (W.drewN nq) _ _ D (by simp; have := HD.out; have := hlow.out; omega)).trans HDI.out⟩
          · have HB := Lib.hid (hbad.out (fun h => hxs h.2))
            clear hgood hbad
            have hc1 : ∀ w, (binOp .neq 31 (.agg #[.string xs.name, .int .i64 xs.arity, .bool xs.defd]) (.agg #[.string y.name, .int .i64 y.arity, .bool y.defd])).run Try.prog w = .ok (.bool true) w := fun w => by
              have := run_neq_sym w xs y
              rw [symEq_ne hxs] at this; exact this
            have hc2 : ∀ w, (Op.equalIn 10000 31 (.agg #[.string xs.name, .int .i64 xs.arity, .bool xs.defd]) (.agg #[.string y.name, .int .i64 y.arity, .bool y.defd])).run Try.prog w = .ok false w := fun w => by
              have := sym_equal w xs y
              rw [symEq_ne hxs] at this; exact this
            gi_wp2_with fail
            refine region_quiet_round l hro (by kernel_rfl) (by kernel_rfl) (by kernel_rfl) ?_
            repeat (gi_big_quiet_step (fail))
            refine wpQuietIn_nil ?_
            intro _ hw'
            obtain ⟨nq, hw''⟩ := hw'
            subst hw''
            gi_wp2_with fail
            exact ⟨(keepO nq W _ _).from _, rfl, HB.out⟩
        · have HB := Lib.hid (hbad.out (fun h => hxi (by rw [h.1, HK.out])))
          clear hgood hbad
          obtain ⟨z, hz⟩ : ∃ z : Int, z = xi := ⟨_, rfl⟩
          rw [← hz] at hxi ⊢
          clear hz
          have hxi2 : (z != k) = true := by simpa using hxi
          gi_wp2_with fail
          refine region_quiet_round l hro (by kernel_rfl) (by kernel_rfl) (by kernel_rfl) ?_
          repeat (gi_big_quiet_step (fail))
          refine wpQuietIn_nil ?_
          intro _ hw'
          obtain ⟨nq, hw''⟩ := hw'
          subst hw''
          gi_wp2_with fail
          exact ⟨(keepO nq W _ _).from _, rfl, HB.out⟩
      case done2 =>
        rintro D2 ys W hD2 rfl ⟨hI, hDI⟩ hDo2
        have cl : W.cell? ⟨Bl, 0, none⟩ = some (.slice A L.length c) := hI.bl.cell
        have cn : W.cell? ⟨Bn, 0, none⟩ = some (.int .i64 L.length) := by have := hI.bn.cell; rw [num_length] at this; exact this
        have cr : W.cell? ⟨Br, 0, none⟩ = some (.bool false) := hI.br.cell
        have fr : W.frozen? ⟨Br, 0, none⟩ = false := hI.br.frozen
        have HI := Lib.hid hI; have HDI := Lib.hid hDI; have HDo2 := Lib.hid hDo2; have HD2 := Lib.hid hD2
        clear hI hDI hDo2 hD2
        gi_wp2_with fail
        have k1 := (KeepsOthers.setCell W ⟨Br, 0, none⟩ (.bool true)).same D2 _ HDo2.out rfl
        have k2 := (KeepsOthers.setCell W ⟨Br, 0, none⟩ (.bool true)).same D _ HDI.out rfl
        have hne : D ≠ D2 := by have := hDlt.out; have := HD2.out; omega
        have k3 : ((W.setCell ⟨Br, 0, none⟩ (.bool true)).putObj D2 (.deferred none)).heap[D]? = some (.deferred (some [])) := (World.putObj_heap_other hne).trans k2
        refine ⟨by simp, .inl ⟨_, _, rfl, run_takeDeferred k1, ?_⟩⟩
        refine ⟨by simp, .inl ⟨_, _, rfl, run_takeDeferred k3, ?_⟩⟩
        have c4 := cell_kept (HI.out.br.set (.bool true)).cell (grownBy_putObj' _ D2 (.deferred none)) (fun r e => by cases e; exact ⟨_, k1, rfl⟩)
        have c5 := cell_kept c4 (grownBy_putObj' _ D (.deferred none)) (fun r e => by cases e; exact ⟨_, k3, rfl⟩)
        have b1 := HI.out.low.setCell (p := ⟨Br, 0, none⟩) (by simp; have := hord.out; omega) (.bool true)
        have b2 := b1.trans (belowK_b (w := w) (Nat.le_refl _) _ D2 (.deferred (some [])) (.deferred none) (by have := hwl2.out; have := HD2.out; omega) k1 rfl rfl)
        have b3 := b2.trans (belowK_b (w := w) (Nat.le_refl _) _ D (.deferred (some [])) (.deferred none) (by have := hwl.out; have := HD.out; omega) k3 rfl rfl)
        refine ⟨.bool true, ?_, rfl, b3⟩
        simp [results, Try.results20, go_sem, c5]
      case stop2 =>
        rintro D2 c' pre W hD2 ⟨k, _, hk⟩ ⟨rfl, hc⟩ hDo2
        exact absurd (by rw [hk, num_length]) hc
    clear hK2
    have cl : W.cell? ⟨Bl, 0, none⟩ = some (.slice A L.length c) := HI.out.bl.cell
    have cs : W.cell? ⟨Bs, 0, none⟩ = some (.int .i64 stop) := HI.out.bs.cell
    have cn := HI.out.bn.cell
    by_cases hfull : pre.length = L.length
    · rw [hfull] at cn
      clear hor
      gi_wp2_with fail
      exact REST2.out _ _ _ _ _ _ _ _ _
    · have hst : (pre.length : Int) = stop := by rcases hor with h | h; exact absurd (by omega) hfull; exact h
      have hne : ((pre.length : Int) == L.length) = false := by rw [beq_eq_false_iff_ne]; omega
      have hne2 : (pre.length != L.length) = true := by simpa using hfull
      subst hst
      clear hor
      gi_wp2_with fail
      exact REST2.out _ _ _ _ _ _ _ _ _
  clear hK
  have S1 := all_stops Fence.wide (6 - 1) trivial hro (by omega) Bf g u1 L H.out.few W1 bF.out.lt bF.out.cell hG.out
  refine wpIn_rangeFunc_ownH hro (by omega) (gf := 37) (lb := #[.pointer (some ⟨Bf, 0, none⟩)]) rfl trivial (enters_of Try.func37 (by kernel_rfl) rfl)
    S1 keepG_t (keepG_b hG.out.1) (Below.refl _ _) (fun _ => rfl)
    (RI w L (.slice A L.length c) stop Bl Bs Br Bn W1.heap.size)
    (fun c' pre W => (c' = .ret ∧ pre ≠ num L pre.length) ∨ (c' = .exit 0 ∧ (pre.length : Int) = stop ∧ RI w L (.slice A L.length c) stop Bl Bs Br Bn W1.heap.size pre W))
    (RI.own hwl.out)
    (fun c' s X Y row hs hg hr => hs.imp id (fun h => ⟨h.1, h.2.1, RI.own hwl.out s X Y row h.2.2 hg hr⟩))
    R1.out
    (fun x a' W => ∃ Bx, Bn < Bx ∧ Blk W Bx 31 #[.string x.2.name, .int .i64 x.2.arity, .bool x.2.defd] ∧ a' = { tmps := #[.pointer (some ⟨b, 0, none⟩), .slice A L.length c, .int .i64 stop, undef, .pointer (some ⟨Bl, 0, none⟩), .pointer (some ⟨Bs, 0, none⟩), .pointer (some ⟨Br, 0, none⟩), .pointer (some ⟨Bn, 0, none⟩), .int .i64 x.1, .pointer (some ⟨Bx, 0, none⟩), undef, undef, .pointer (some ⟨b, 0, none⟩), .func (.func 37) #[] #[.pointer (some ⟨Bf, 0, none⟩)], .int .i64 x.1, x.2.val,
        undef, undef, undef, undef, undef, undef, undef, undef, undef, undef, undef, undef, undef, undef, undef, undef, undef, undef, undef, undef, undef, undef, undef, undef, undef, undef, undef, undef, undef, undef, undef, undef, undef, undef, undef, undef, undef, undef, undef, undef, undef, undef, undef, undef, undef, undef, undef, undef, undef, undef, undef, undef, undef, undef, undef, undef, undef, undef], defers := [] })
    (fun x a' _ X Y row hs hg hr => by obtain ⟨Bx, e1, e2, e3⟩ := hs; exact ⟨Bx, e1, blk_own Bx 31 (fun (_ : Unit) => #[.string x.2.name, .int .i64 x.2.arity, .bool x.2.defd]) () X Y row e2 hg (fun r e => (hr r e).2), e3⟩)
    ?assign ?body ?done ?stop
  case assign =>
    rintro l pre x W K hI hK
    obtain ⟨xi, xs⟩ := x
    dsimp only [Sym.val]
    gi_wp2
    refine hK _ _ ((KeepsOthers.alloc _ _).from _) (KeepG.alloc (Nat.lt_of_lt_of_le hG.out.1 hI.sz) _) (hI.alloc _) ⟨W.heap.size, ?_, Blk.new W 31 _, rfl⟩
    exact hI.bn.lt
  case body =>
    rintro l pre x a' W - - hI ⟨Bx, hBx, bX, rfl⟩ hlt
    obtain ⟨xi, xs⟩ := x
    dsimp only [Sym.val] at bX ⊢
    have HI := Lib.hid hI
    have cl : W.cell? ⟨Bl, 0, none⟩ = some (.slice A L.length c) := hI.bl.cell
    have cs : W.cell? ⟨Bs, 0, none⟩ = some (.int .i64 stop) := hI.bs.cell
    have cr : W.cell? ⟨Br, 0, none⟩ = some (.bool false) := hI.br.cell
    have cn : W.cell? ⟨Bn, 0, none⟩ = some (.int .i64 pre.length) := hI.bn.cell
    have fr : W.frozen? ⟨Br, 0, none⟩ = false := hI.br.frozen
    have fn : W.frozen? ⟨Bn, 0, none⟩ = false := hI.bn.frozen
    have x0 : W.cell? ⟨Bx, 0, none⟩ = some (.string xs.name) := (bX.cell 0).trans rfl
    have x1 : W.cell? ⟨Bx, 1, none⟩ = some (.int .i64 xs.arity) := (bX.cell 1).trans rfl
    have x2 : W.cell? ⟨Bx, 2, none⟩ = some (.bool xs.defd) := (bX.cell 2).trans rfl
    obtain ⟨bl, off, rfl, hc⟩ := HA.out (by omega)
    obtain ⟨q0, q1, q2⟩ := hc pre.length hlt
    have hbl : bl < w.heap.size := World.block_lt_of_cell? w _ q0
    have d0 := (hI.low.cell (p := ⟨bl, off + pre.length * 3, none⟩) hbl).trans q0
    have d1 := (hI.low.cell (p := ⟨bl, off + pre.length * 3 + 1, none⟩) hbl).trans q1
    have d2 := (hI.low.cell (p := ⟨bl, off + pre.length * 3 + 2, none⟩) hbl).trans q2
    have hbad : Hid (¬ (xi = pre.length ∧ xs = L[pre.length]) → pre ++ [(xi, xs)] ≠ num L (pre ++ [(xi, xs)]).length) := fun h => num_bad hI.num (by simpa [nthS, hlt] using h)
    have hgood : Hid (xi = pre.length ∧ xs = L[pre.length] → RI w L (.slice (some ⟨bl, off, none⟩) L.length c) stop Bl Bs Br Bn W1.heap.size (pre ++ [(xi, xs)]) (W.setCell ⟨Bn, 0, none⟩ (.int .i64 (pre.length + 1 : Int)))) := fun h => by
      obtain ⟨rfl, rfl⟩ := h
      have := hI.snoc hord.out
      rw [show nthS L pre.length = L[pre.length] by simp [nthS, hlt]] at this
      exact this
    obtain ⟨y, hy⟩ : ∃ y, y = L[pre.length] := ⟨_, rfl⟩
    rw [← hy] at d0 d1 d2 hbad hgood
    have h63 : (pre.length : Int) ≤ 64 := by have := H.out.few; omega
    obtain ⟨k, hk⟩ : ∃ k, k = pre.length := ⟨_, rfl⟩
    rw [← hk] at hlt cn d0 d1 d2 hbad hgood h63
    have hk0 : (0 : Int) ≤ k := by omega
    have hk1 : (k : Int) < L.length := by omega
    have hk2 : decide (L.length ≤ k) = false := decide_eq_false (by omega)
    have HK := Lib.hid hk
    have ks : ∀ (m : Nat) (u : Value), ((W.drewN m).setCell ⟨Bn, 0, none⟩ u).cell? ⟨Bs, 0, none⟩ = some (.int .i64 stop) := fun m u => (Boxed.other (W := W.drewN m) HI.out.bs (by have := hord.out; omega) u).cell
    clear hI bX hc q0 q1 q2 hbl hy hk
    by_cases hxi : (xi : Int) = k
    · rw [hxi]
      by_cases hxs : xs = y
      · subst hxs
        have HG := Lib.hid (hgood.out ⟨by omega, rfl⟩)
        clear hgood hbad
        gi_wp2_with fail
        refine region_quiet_round l hro (by kernel_rfl) (by kernel_rfl) (by kernel_rfl) ?_
        repeat (gi_big_quiet_step (fail))
        refine wpQuietIn_nil ?_
        intro _ hw'
        obtain ⟨nq, hw''⟩ := hw'
        subst hw''
        by_cases hst : (k : Int) + 1 = stop
        · subst hst
          gi_wp2_with fail
          exact ⟨(keepO nq W _ _).from _, .inr ⟨rfl, by simp [HK.out], HG.out.drewN nq⟩⟩
        · have hst2 : ((k : Int) + 1 == stop) = false := by rw [beq_eq_false_iff_ne]; exact hst
          gi_wp2_with fail
          exact ⟨(keepO nq W _ _).from _, keepGset nq W _ (by have := hlow.out; omega), HG.out.drewN nq⟩
      · have HB := Lib.hid (hbad.out (fun h => hxs h.2))
        clear hgood hbad
        have hc1 : ∀ w, (binOp .neq 31 (.agg #[.string xs.name, .int .i64 xs.arity, .bool xs.defd]) (.agg #[.string y.name, .int .i64 y.arity, .bool y.defd])).run Try.prog w = .ok (.bool true) w := fun w => by
          have := run_neq_sym w xs y
          rw [symEq_ne hxs] at this; exact this
        have hc2 : ∀ w, (Op.equalIn 10000 31 (.agg #[.string xs.name, .int .i64 xs.arity, .bool xs.defd]) (.agg #[.string y.name, .int .i64 y.arity, .bool y.defd])).run Try.prog w = .ok false w := fun w => by
          have := sym_equal w xs y
          rw [symEq_ne hxs] at this; exact this
        gi_wp2_with fail
        refine region_quiet_round l hro (by kernel_rfl) (by kernel_rfl) (by kernel_rfl) ?_
        repeat (gi_big_quiet_step (fail))
        refine wpQuietIn_nil ?_
        intro _ hw'
        obtain ⟨nq, hw''⟩ := hw'
        subst hw''
        gi_wp2_with fail
        exact ⟨(keepO nq W _ _).from _, .inl ⟨rfl, HB.out⟩⟩
    · have HB := Lib.hid (hbad.out (fun h => hxi (by rw [h.1, HK.out])))
      clear hgood hbad
      obtain ⟨z, hz⟩ : ∃ z : Int, z = xi := ⟨_, rfl⟩
      rw [← hz] at hxi ⊢
      clear hz
      have hxi2 : (z != k) = true := by simpa using hxi
      gi_wp2_with fail
      refine region_quiet_round l hro (by kernel_rfl) (by kernel_rfl) (by kernel_rfl) ?_
      repeat (gi_big_quiet_step (fail))
      refine wpQuietIn_nil ?_
      intro _ hw'
      obtain ⟨nq, hw''⟩ := hw'
      subst hw''
      gi_wp2_with fail
      exact ⟨(keepO nq W _ _).from _, .inl ⟨rfl, HB.out⟩⟩
  case done =>
    rintro D ys W hD rfl hI hDo
    gi_wp2_with fail
    refine REST.out D _ W hD hDo hI (.inl (by rw [num_length]))
  case stop =>
    rintro D c' pre W hD ⟨k, _, hk⟩ hc hDo
    rcases hc with ⟨rfl, hc⟩ | ⟨rfl, hst, hI⟩
    · exact absurd (by rw [hk, num_length]) hc
    · gi_wp2_with fail
      exact REST.out D pre W hD hDo hI (.inr hst)
end Go.Proofs.Ytpknnhdpnmkpcaa

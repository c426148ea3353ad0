/-
  (*Sig).Of: the numbers of the symbols of one kind.
-/
import Derived.Test.YtpknnhdpnmkpcaaRanged
namespace Go.Proofs.Ytpknnhdpnmkpcaa
open Go.RowKit

attribute [local go_sem] Oper.semAt_some

/-- The numbers, among those that came, of the symbols of kind d. -/
def ofP (d : Bool) (pre : List (Nat × Sym)) : List Nat := (pre.filter fun p => p.2.defd == d).map (·.1)
def intN (l : List Nat) : List Value := l.map fun (n : Nat) => .int .i64 (n : Int)
def ofL (L : List Sym) (d : Bool) : List Nat := ofP d (num L L.length)
theorem ofP_snoc_yes {d : Bool} {pre : List (Nat × Sym)} {x : Nat × Sym} (h : x.2.defd = d) : ofP d (pre ++ [x]) = ofP d pre ++ [x.1] := by simp [ofP, h]
theorem ofP_snoc_no {d : Bool} {pre : List (Nat × Sym)} {x : Nat × Sym} (h : x.2.defd ≠ d) : ofP d (pre ++ [x]) = ofP d pre := by simp [ofP, h]
theorem ofP_le (d : Bool) (pre : List (Nat × Sym)) : (ofP d pre).length ≤ pre.length := by unfold ofP; rw [List.length_map]; exact List.length_filter_le _ _
theorem intN_length (l : List Nat) : (intN l).length = l.length := by simp [intN]
theorem intN_snoc (l : List Nat) (n : Nat) : intN (l ++ [n]) = intN l ++ [.int .i64 (n : Int)] := by simp [intN]
theorem ofL_le {L : List Sym} {d : Bool} : (ofL L d).length ≤ L.length := by have := ofP_le d (num L L.length); rw [num_length] at this; exact this
theorem Try.info3 : (Try.prog.info? 3).map (fun i => (i.zero, i.size, i.bytes)) = some (some (.int .i64 0), 1, 8) := by kernel_rfl

/-- Between two rounds of Of. -/
structure OI (w : World) (d : Bool) (Bd Bo n1 : Nat) (pre : List (Nat × Sym)) (W : World) : Prop where
  sz : n1 ≤ W.heap.size
  bd : Boxed W Bd 4 (.bool d)
  row : ∃ v, Boxed W Bo 61 v ∧ W.ownsRow n1 3 1 v (ofP d pre).length (intN (ofP d pre))
  low : Below w.heap.size w W
theorem OI.own {w : World} {d : Bool} {Bd Bo n1 B : Nat} (hB : w.heap.size ≤ B) : OwnFrom B (OI w d Bd Bo n1) := fun s X Y row hs hg hr => by
  have hr2 : ∀ r, row = some r → ∃ o : Obj, X.heap[r]? = some o ∧ o.isCells = false := fun r e => (hr r e).2
  refine ⟨Nat.le_trans hs.sz hg.size, boxed_own Bd 4 (fun (_ : Unit) => .bool d) () X Y row hs.bd hg hr2, ?_, ownFrom_below (β := Unit) (Nat.le_refl _) hB () X Y row hs.low hg hr⟩
  have := holdsRow_own n1 Bo 61 3 1 (fun (s : List (Nat × Sym)) => (ofP d s).length) (fun s => intN (ofP d s)) (fun _ _ => True) s X Y row (by obtain ⟨v, h1, h2⟩ := hs.row; exact ⟨v, h1, h2, trivial⟩) hg hr2
  obtain ⟨v, h1, h2, _⟩ := this
  exact ⟨v, h1, h2⟩
theorem OI.alloc {w W : World} {d : Bool} {Bd Bo n1 : Nat} {pre : List (Nat × Sym)} (h : OI w d Bd Bo n1 pre W) (o : Obj) : OI w d Bd Bo n1 pre (W.alloc o) :=
  ⟨Nat.le_trans h.sz (by simp), h.bd.alloc _, by obtain ⟨v, h1, h2⟩ := h.row; exact ⟨v, h1.alloc _, World.ownsRow.alloc h2 _⟩, h.low.alloc h.low.size _⟩
theorem OI.more {w W W2 : World} {d : Bool} {Bd Bo n1 g : Nat} {pre : List (Nat × Sym)} {x : Nat × Sym} {v v' : Value} {o : Obj} (h : OI w d Bd Bo n1 pre W) (hv : Boxed W Bo 61 v) (hrow : W.ownsRow n1 3 1 v (ofP d pre).length (intN (ofP d pre))) (hx : x.2.defd = d)
    (hb : w.heap.size ≤ Bd ∧ Bd < Bo ∧ Bo < n1 ∧ g < n1 ∧ Bo ≠ g) (hown : W2.ownsRow n1 3 1 v' ((ofP d pre).length + 1) (intN (ofP d pre) ++ [.int .i64 (x.1 : Int)])) (hg : (W.alloc o).grownBy W2 v.ownBlock) :
    OI w d Bd Bo n1 (pre ++ [x]) (W2.setCell ⟨Bo, 0, none⟩ v') ∧ KeepG g W (W2.setCell ⟨Bo, 0, none⟩ v') ∧ KeepsOthers W (W2.setCell ⟨Bo, 0, none⟩ v') ∧ Boxed W2 Bo 61 v := by
  have hblk : ∀ k, v.ownBlock = some k → n1 ≤ k ∧ k < W.heap.size := fun k hk => hrow.lt k hk
  have hsz : W.heap.size ≤ W2.heap.size := Nat.le_trans (by simp) hg.size
  have keep : ∀ k, k < n1 → W2.heap[k]? = W.heap[k]? := fun k hk => (hg.block k (by have := h.sz; simp; omega) (fun e => by have := (hblk k e.symm).1; omega)).trans (Below.heap_alloc W o k (by have := h.sz; omega))
  have b2 : Boxed W2 Bo 61 v := (keep Bo hb.2.2.1).trans hv
  have d2 : Boxed W2 Bd 4 (.bool d) := (keep Bd (by omega)).trans h.bd
  have hs3 : W2.heap.size ≤ (W2.setCell ⟨Bo, 0, none⟩ v').heap.size := (KeepsWalks.setCell W2 _ _).size
  refine ⟨⟨Nat.le_trans h.sz (Nat.le_trans hsz hs3), d2.other (by omega) _, ⟨v', b2.set _, ?_⟩, ?_⟩, ⟨Nat.le_trans hsz hs3, (Below.heap_setCell W2 _ v' g (by simp; omega)).trans (keep g hb.2.2.2.1)⟩, ?_, b2⟩
  · rw [ofP_snoc_yes hx, intN_snoc, List.length_append]
    exact hown.kept (grownBy_setCell' W2 Bo v') (.inr (b2.not_row (by decide) hown).symm)
  · have h1 : Below w.heap.size w W2 := (h.low.alloc h.low.size o).grown hg (by have := h.low.size; simp; omega) (fun k hk => by have := (hblk k hk).1; omega)
    exact h1.setCell (p := ⟨Bo, 0, none⟩) (by simp; omega) _
  · refine ((KeepsOthers.alloc W o).trans (KeepsOthers.of_grownBy hg fun j o' ej hj => ?_)).trans (KeepsOthers.setCell _ _ _)
    rcases (World.ownsRow.alloc hrow o).2 with ⟨rfl, _⟩ | ⟨g', cap, cur, rfl, _, hgb, _⟩
    · simp [Value.ownBlock] at ej
    · obtain rfl : g' = j := by simpa [Value.ownBlock] using ej
      rw [hgb] at hj; cases hj; rfl

set_option maxRecDepth 100000 in
set_option maxHeartbeats 4000000 in
theorem of_any (w : World) (b bm : Nat) (v : Value) (L : List Sym) (h : SigAt w b bm v L) (d : Bool) :
    Calls Try.prog 32 #[.pointer (some ⟨b, 0, none⟩), .bool d] w fun e w' => ∃ u, e = .returned u ∧ w'.ownsRow 0 3 1 u (ofL L d).length (intN (ofL L d)) ∧ Below w.heap.size w w' ∧ Fresh w u := by
  have H := Lib.hid h
  clear h
  have hro : Fence.wide.round = none := rfl
  obtain ⟨i0, hi0, hz0, hz1, hz2⟩ := info_parts Try.info3
  have HI3 : Hid (Try.prog.info? 3 = some i0 ∧ i0.zero = some (.int .i64 0) ∧ i0.size = 1 ∧ i0.bytes = 8) := ⟨hi0, hz0, hz1, hz2⟩
  clear hi0 hz0 hz1 hz2
  refine (callsIn_wide (n := 6)).1 ?_
  refine callsIn_of_wp_marks Try.func32 rfl trivial ?_ hro
  simp only [Try.ntmps32, List.size_toArray, List.length_cons, List.length_nil, Nat.reduceAdd, Nat.reduceSub, Array.replicate_succ, Array.replicate_zero, List.push_toArray, List.append_toArray, List.nil_append, List.cons_append]
  gi_wp2_with fail
  obtain ⟨W0, hW0⟩ : ∃ W0, W0 = ((w.alloc (Obj.cells #[Value.bool d] 4)).alloc (Obj.cells #[Value.slice none 0 0] 61)) := ⟨_, rfl⟩
  obtain ⟨Bo, hBo⟩ : ∃ Bo, w.heap.size + 1 = Bo := ⟨_, rfl⟩
  obtain ⟨Bd, hBd⟩ : ∃ Bd, w.heap.size = Bd := ⟨_, rfl⟩
  have hord : Hid (w.heap.size ≤ Bd ∧ Bd < Bo) := by unfold Hid; omega
  have b1 : Hid (Boxed W0 Bd 4 (.bool d)) := by
    rw [hW0, ← hBd]; exact (Boxed.new w 4 (.bool d)).alloc _
  have b2 : Hid (Boxed W0 Bo 61 (.slice none 0 0)) := by
    rw [hW0]
    have := Boxed.new (w.alloc (Obj.cells #[Value.bool d] 4)) 61 (.slice none 0 0)
    rw [World.size_alloc, hBo] at this
    exact this
  have B0 : Hid (Below w.heap.size w W0) := by
    rw [hW0]; exact ((Below.refl _ w).alloc (Nat.le_refl _) _).alloc (by simp) _
  rw [← hW0, hBo, hBd]
  clear hW0 hBo hBd
  refine ⟨trivial, (callsIn_wide.2 (all_any W0 b bm v L (H.out.below B0.out))).mono ?_⟩
  rintro e W1 ⟨Bf, g, u1, rfl, bF0, hG0, hs1, hBf, hg⟩
  have bF := Lib.hid bF0; have hG := Lib.hid hG0
  have R1 : Hid (OI w d Bd Bo W1.heap.size [] W1) :=
    ⟨Nat.le_refl _, Blk.turned b1.out hs1 (fun h => h), ⟨_, Blk.turned b2.out hs1 (fun h => h), World.ownsRow_nil _ _ _ _⟩, B0.out.trans (Turned.below hs1 B0.out.size (fun _ h => h.elim))⟩
  have hlow : Hid (w.heap.size ≤ Bd ∧ Bd < Bo ∧ Bo < W1.heap.size ∧ g < W1.heap.size ∧ Bo ≠ g) := by
    have h1 := b2.out.lt
    have h2 := hs1.size
    have h3 := hord.out
    exact ⟨h3.1, h3.2, by omega, hG0.1, by omega⟩
  have hwl : Hid (w.heap.size ≤ W1.heap.size) := R1.out.low.size
  clear b1 b2 B0 hs1 hBf hg bF0 hG0 hord
  gi_wp2_with fail
  have S1 := all_stops Fence.wide (6 - 1) trivial hro (by omega) Bf g u1 L H.out.few W1 bF.out.lt bF.out.cell hG.out
  refine wpIn_rangeFunc_ownH hro (by omega) (gf := 37) (lb := #[.pointer (some ⟨Bf, 0, none⟩)]) rfl trivial (enters_of Try.func37 (by kernel_rfl) rfl)
    S1 keepG_t (keepG_b hG.out.1) (Below.refl _ _) (fun _ => rfl)
    (OI w d Bd Bo W1.heap.size)
    (fun _ _ _ => False)
    (OI.own hwl.out)
    (fun _ _ _ _ _ hs _ _ => hs)
    R1.out
    (fun x a' W => ∃ Bx, Blk W Bx 31 #[.string x.2.name, .int .i64 x.2.arity, .bool x.2.defd] ∧ a' = { tmps := #[.pointer (some ⟨b, 0, none⟩), .bool d, undef, .pointer (some ⟨Bd, 0, none⟩), .slice none 0 0, .pointer (some ⟨Bo, 0, none⟩), .int .i64 x.1, .pointer (some ⟨Bx, 0, none⟩), .pointer (some ⟨b, 0, none⟩), .func (.func 37) #[] #[.pointer (some ⟨Bf, 0, none⟩)], .int .i64 x.1, x.2.val, undef, undef, undef, undef, undef, undef, undef, undef, undef], defers := [] })
    (fun x a' _ X Y row hs hg hr => by obtain ⟨Bx, e2, e3⟩ := hs; exact ⟨Bx, blk_own Bx 31 (fun (_ : Unit) => #[.string x.2.name, .int .i64 x.2.arity, .bool x.2.defd]) () X Y row e2 hg (fun r e => (hr r e).2), e3⟩)
    ?assign ?body ?done ?stop
  case assign =>
    rintro l pre x W K hI hK
    obtain ⟨xi, xs⟩ := x
    dsimp only [Sym.val]
    gi_wp2
    exact hK _ _ ((KeepsOthers.alloc _ _).from _) (KeepG.alloc (Nat.lt_of_lt_of_le hG.out.1 hI.sz) _) (hI.alloc _) ⟨W.heap.size, Blk.new W 31 _, rfl⟩
  case body =>
    rintro l pre x a' W - - hI ⟨Bx, bX, rfl⟩ hlt
    obtain ⟨xi, xs⟩ := x
    dsimp only [Sym.val] at bX ⊢
    have HI := Lib.hid hI
    have hpl := ofP_le d pre
    have h64 := H.out.few
    have HL : Hid (W1.heap.size ≤ W.heap.size) := hI.sz
    obtain ⟨u, bU, hU⟩ := hI.row
    have HU := Lib.hid hU; have HB := Lib.hid bU
    have cd : W.cell? ⟨Bd, 0, none⟩ = some (.bool d) := hI.bd.cell
    have co : W.cell? ⟨Bo, 0, none⟩ = some u := bU.cell
    have x2 : W.cell? ⟨Bx, 2, none⟩ = some (.bool xs.defd) := (bX.cell 2).trans rfl
    obtain ⟨ua, uc, rfl, _, _⟩ := own_shape hU
    clear hI bX bU hU
    by_cases hd : xs.defd = d
    · subst hd
      gi_wp2_with (first
        | (gi_at_builtin; refine wpListIn_append_own _ rfl _ _ 61 rfl W1.heap.size 3 i0 (.int .i64 0) 1 8 Try.underlying61 HI3.out.1 HI3.out.2.1 HI3.out.2.2.1 HI3.out.2.2.2 rfl (by decide) _ _ _ rfl (World.ownsRow.alloc HU.out _) ⟨W.heap.size, 0, none⟩ 1 1 [.int .i64 xi] rfl rfl (cell_one_new _ _ _) (by simp [Value.oneCell']) (by unfold maxLen; omega) (by omega) (by have := HL.out; simp; omega) ?_
           intro v' w3 hown' hg3 hnil3
           have M := Lib.hid (OI.more (x := (xi, xs)) HI.out HB.out HU.out rfl hlow.out hown' hg3)
           obtain ⟨g', cap', rfl⟩ := ownsRow_succ hown'
           have c3 := M.out.2.2.2.cell
           have f3 := M.out.2.2.2.frozen
           clear hown' hg3 hnil3))
      exact ⟨M.out.2.2.1.from _, M.out.2.1, M.out.1⟩
    · have hd2 : (xs.defd == d) = false := by simpa using hd
      gi_wp2_with fail
      exact ⟨KeepsFrom.refl _ _, KeepG.refl _ _, HI.out.sz, HI.out.bd, ⟨_, HB.out, by rw [ofP_snoc_no hd]; exact HU.out⟩, HI.out.low⟩
  case done =>
    rintro D ys W hD rfl hI hDo
    obtain ⟨u, bU, hU⟩ := hI.row
    have co : W.cell? ⟨Bo, 0, none⟩ = some u := bU.cell
    have HI := Lib.hid hI; have HU := Lib.hid hU; have HDo := Lib.hid hDo; have HD := Lib.hid hD
    obtain ⟨ua, uc, rfl, _, _⟩ := own_shape hU
    clear hI bU hU hDo hD
    gi_wp2_with fail
    refine ⟨by simp, .inl ⟨_, _, rfl, run_takeDeferred HDo.out, ?_⟩⟩
    have h1 := ownsRow_putObj HU.out (.deferred none) HDo.out rfl
    refine ⟨_, results_tmp rfl _ _ _, _, rfl, ?_, HI.out.low.trans (belowK_b (w := w) (Nat.le_refl _) W D _ _ (by have := HD.out; have := hwl.out; omega) HDo.out rfl rfl), fun k hk => ?_⟩
    · exact ⟨h1.1, h1.2.imp id (fun ⟨g, cap, cur, e, _, r⟩ => ⟨g, cap, cur, e, Nat.zero_le _, r⟩)⟩
    · have := (HU.out.lt k hk).1
      have := hwl.out; omega
  case stop =>
    rintro D c' pre W hD _ h
    exact h.elim
end Go.Proofs.Ytpknnhdpnmkpcaa

/-
  The copy of the rights; Build of both heaps; the walk of GraftBuilds.
-/
import Derived.Test.YteohhiefchoamaaLdAll
import Derived.Test.YteohhiefchoamaaBdRef
import Derived.BigQuiet
import Derived.Test.YteohhiefchoamaaTold
import Derived.Laws.StructEq
namespace Go.Proofs.Yteohhiefchoamaa
open Go.RowKit

theorem info78 : (Try.prog.info? 78).map (fun i => (i.zero, i.size, i.bytes)) = some (some (.agg #[.int .i64 0, .slice none 0 0]), 2, 32) := by kernel_rfl
theorem info76 : (Try.prog.info? 76).map (fun i => (i.zero, i.size, i.bytes)) = some (some (.slice none 0 0), 1, 24) := by kernel_rfl
/-- A part copied: the part, its list, the list's block. -/
structure Ent where
  q : PartD
  v : Value
  g : Nat
def eCells (E : List Ent) : List Value := E.flatMap fun e => [.int .i64 e.q.sym, e.v]
theorem eCells_snoc (E : List Ent) (e : Ent) : eCells (E ++ [e]) = eCells E ++ [.int .i64 e.q.sym, e.v] := by simp [eCells]
theorem eCells_length (E : List Ent) : (eCells E).length = E.length * 2 := by
  unfold eCells
  induction E with
  | nil => rfl
  | cons e r ih => simp only [List.flatMap_cons, List.length_append, List.length_cons, List.length_nil, ih]; omega
theorem eCells_at : ∀ (E : List Ent) (k : Nat) (h : k < E.length), (eCells E)[k * 2]? = some (.int .i64 E[k].q.sym) ∧ (eCells E)[k * 2 + 1]? = some E[k].v
  | e :: r, 0, _ => ⟨rfl, rfl⟩
  | e :: r, k + 1, h => by
    have ih := eCells_at r k (by simpa using h)
    have e1 : eCells (e :: r) = .int .i64 e.q.sym :: e.v :: eCells r := rfl
    rw [e1, show (k + 1) * 2 = k * 2 + 1 + 1 from by omega]
    simpa using ih
/-- A row of parts copied: a mark stands behind it. -/
def RowC (w : World) (v : Value) (E : List Ent) : Prop :=
  ∃ g c, v = .slice (some ⟨g, 0, none⟩) E.length c ∧ E.length + 1 ≤ c ∧ w.ownsRow 0 78 2 (.slice (some ⟨g, 0, none⟩) (E.length + 1) c) (E.length + 1) (eCells E ++ [.int .i64 (-77), .slice none 0 0])
abbrev CRow := List Ent × Value
abbrev ents (F : List CRow) : List Ent := F.flatMap (·.1)
structure CodeAt (w : World) (lo : Nat) (rv : Value) (F : List CRow) : Prop where
  out : w.ownsRow 0 76 1 rv F.length (F.map (·.2))
  row : ∀ f ∈ F, RowC w f.2 f.1
  lent : ∀ e ∈ ents F, LentAt w e.v e.q.path e.g
  nd : ((ents F).map (·.g)).Nodup
  new : ∀ k, rv.ownBlock = some k → lo ≤ k
  newr : ∀ f ∈ F, ∀ k, f.2.ownBlock = some k → lo ≤ k
  newg : ∀ e ∈ ents F, lo ≤ e.g
section
variable {w wr w' w1 w2 w3 w4 : World} {lo g g2 : Nat} {rv rv2 pv psv psv2 v : Value} {F : List CRow} {E : List Ent} {S : Nat → Prop} {o : Obj} {q : PartD}
theorem RowC.turned (h : RowC w v E) (ht : Turned S w w') (hn : ∀ k, v.ownBlock = some k → ¬ S k) : RowC w' v E := by
  obtain ⟨g, c, rfl, hc, ho⟩ := h
  exact ⟨g, c, rfl, hc, World.ownsRow.turned ho ht (fun k hk => hn k hk)⟩
theorem CodeAt.turned (h : CodeAt w lo rv F) (ht : Turned S w w') (h1 : ∀ k, rv.ownBlock = some k → ¬ S k) (h2 : ∀ f ∈ F, ∀ k, f.2.ownBlock = some k → ¬ S k) (h3 : ∀ e ∈ ents F, ¬ S e.g) : CodeAt w' lo rv F :=
  ⟨World.ownsRow.turned h.out ht h1, fun f hf => (h.row f hf).turned ht (h2 f hf), fun e he => (h.lent e he).turned ht (h3 e he), h.nd, h.new, h.newr, h.newg⟩
theorem CodeAt.same (h : CodeAt w lo rv F) (ht : Same w w') : CodeAt w' lo rv F := h.turned ht (fun _ _ h => h) (fun _ _ _ _ h => h) (fun _ _ h => h)
theorem CodeAt.lower (h : CodeAt w lo rv F) {l : Nat} (hl : l ≤ lo) : CodeAt w l rv F :=
  ⟨h.out, h.row, h.lent, h.nd, fun k hk => Nat.le_trans hl (h.new k hk), fun f hf k hk => Nat.le_trans hl (h.newr f hf k hk), fun e he => Nat.le_trans hl (h.newg e he)⟩
/-- Blocks of other kinds. -/
def OtherK (w : World) (k : Nat) : Prop := (∃ t cs, Blk w k t cs ∧ 76 ≠ t ∧ 78 ≠ t ∧ 3 ≠ t) ∨ ∃ v n xs, w.ownsRow 0 53 5 v n xs ∧ v.ownBlock = some k
theorem OtherK.ne (hk : OtherK w g) {e : TypeId} {size n : Nat} {v : Value} {xs : List Value} (h : w.ownsRow 0 e size v n xs) (he : e = 76 ∨ e = 78 ∨ e = 3) : v.ownBlock ≠ some g := by
  rcases hk with ⟨t, cs, hB, h1, h2, h3⟩ | ⟨v', n', xs', ho, hv⟩
  · exact own_blk_ne h hB (by rcases he with rfl | rfl | rfl <;> assumption)
  · intro e2
    exact own_own_ne h ho (by rcases he with rfl | rfl | rfl <;> decide) g e2 hv
theorem CodeAt.far (h : CodeAt w lo rv F) (ht : Turned S w w') (hS : ∀ k, S k → OtherK w k) : CodeAt w' lo rv F := by
  refine h.turned ht (fun k hk hs => (hS k hs).ne h.out (.inl rfl) hk) (fun f hf k hk hs => ?_) (fun e he hs => ?_)
  · obtain ⟨g, c, e, hc, ho⟩ := h.row f hf
    exact (hS k hs).ne ho (.inr (.inl rfl)) (by rw [← hk, e]; rfl)
  · obtain ⟨c, _, _, ho⟩ := h.lent e he
    exact (hS _ hs).ne ho (.inr (.inr rfl)) rfl
/-- The copy, as a call reads it. -/
theorem CodeAt.rights (h : CodeAt w lo rv F) (hS : ∀ k, S k → OtherK w k) : RightsAt w S rv (F.map fun f => f.1.map (·.q)) := by
  obtain ⟨a, c, rfl, _, _⟩ := own_shape h.out
  refine ⟨a, c, by rw [List.length_map], fun h0 => ?_⟩
  rw [List.length_map] at h0
  obtain ⟨g, cap, hv, _, hg⟩ := h.out.form h0
  obtain ⟨rfl, rfl⟩ : a = some ⟨g, 0, none⟩ ∧ c = cap := by simpa using hv
  refine ⟨g, 0, rfl, fun hs => (hS g hs).ne h.out (.inl rfl) rfl, fun k hk => ?_⟩
  rw [List.length_map] at hk
  have hc := World.ownsRow.cells (g := g) h.out rfl k F[k].2 (by simp [hk])
  simp only [Addr.add_lit, Nat.zero_add] at hc
  refine ⟨F[k].2, by rw [Nat.zero_add]; exact hc, ?_⟩
  rw [List.getElem_map]
  have hm := List.getElem_mem hk
  obtain ⟨pg, pc, e, hpc, ho⟩ := h.row _ hm
  refine ⟨some ⟨pg, 0, none⟩, pc, by rw [e, List.length_map], fun h1 => ⟨pg, 0, rfl, fun hs => (hS pg hs).ne ho (.inr (.inl rfl)) rfl, fun j hj => ?_⟩⟩
  rw [List.length_map] at hj
  obtain ⟨e0, e1⟩ := eCells_at F[k].1 j hj
  have hl := eCells_length F[k].1
  have c0 := World.ownsRow.cells (g := pg) ho rfl (j * 2) _ (by rw [List.getElem?_append_left (by omega)]; exact e0)
  have c1 := World.ownsRow.cells (g := pg) ho rfl (j * 2 + 1) _ (by rw [List.getElem?_append_left (by omega)]; exact e1)
  simp only [Addr.add_lit, Nat.zero_add] at c0 c1
  rw [List.getElem_map, Nat.zero_add]
  have hL := h.lent F[k].1[j] (List.mem_flatMap.2 ⟨_, hm, List.getElem_mem hj⟩)
  refine ⟨c0, _, c1, ?_⟩
  obtain ⟨A, c2, e2, h2⟩ := hL.rd
  obtain ⟨c3, e3, _, hlo⟩ := hL
  refine ⟨A, c2, e2, fun h0 => ?_⟩
  obtain ⟨bl, off, e4, hcl⟩ := h2 h0
  refine ⟨bl, off, e4, fun hs => ?_, hcl⟩
  rw [e2, e4] at e3
  injection e3 with e5
  injection e5 with e5
  injection e5 with e6
  exact (hS bl hs).ne hlo (.inr (.inr rfl)) (by rw [e6]; rfl)

/-- In the loop over a right side. -/
structure PsI (w wr : World) (psv : Value) (E : List Ent) : Prop where
  same : Same w wr
  own : wr.ownsRow 0 78 2 psv E.length (eCells E)
  new : ∀ k, psv.ownBlock = some k → w.heap.size ≤ k
  lent : ∀ e ∈ E, LentAt wr e.v e.q.path e.g
  newg : ∀ e ∈ E, w.heap.size ≤ e.g
  nd : (E.map (·.g)).Nodup
theorem PsI.push (h : PsI w wr psv E) (hs : Same wr w1) (hL : LentAt w1 v q.path g) (hg : wr.heap.size ≤ g) (ho : w2.ownsRow 0 78 2 psv2 (E.length + 1) (eCells E ++ [.int .i64 q.sym, v])) (hgr : (w1.alloc o).grownBy w2 psv.ownBlock) (hat : psv2.ownBlock = psv.ownBlock ∨ psv2.ownBlock = some (w1.heap.size + 1)) : PsI w w2 psv2 (E ++ [⟨q, v, g⟩]) := by
  have hT : Turned (fun k => psv.ownBlock = some k) w1 w2 := ((Turned.refl _ _).alloc o).grown hgr (fun k hk => .inl hk)
  have hS1 := h.same.trans hs (fun _ h => h.elim)
  have ho1 := World.ownsRow.same_ h.own hs
  have hne : ∀ {v : Value} {p : List Int} {g : Nat}, LentAt w1 v p g → psv.ownBlock ≠ some g := fun hl e => by
    obtain ⟨c, _, _, hlo⟩ := hl
    exact own_own_ne ho1 hlo (by decide) _ e rfl
  refine ⟨hS1.trans hT (fun i hi => .inr (h.new i hi)), by rw [List.length_append, eCells_snoc]; exact ho, fun k hk => ?_, fun e he => ?_, fun e he => ?_, ?_⟩
  · rcases hat with e | e
    · exact h.new k (e.symm.trans hk)
    · have e2 := e.symm.trans hk
      have := hS1.size
      obtain rfl : w1.heap.size + 1 = k := by simpa using e2
      omega
  · rcases List.mem_append.1 he with h1 | h1
    · have h2 := (h.lent e h1).turned hs (fun h => h)
      exact h2.turned hT (hne h2)
    · obtain rfl : e = _ := by simpa using h1
      exact hL.turned hT (hne hL)
  · rcases List.mem_append.1 he with h1 | h1
    · exact h.newg e h1
    · obtain rfl : e = _ := by simpa using h1
      exact Nat.le_trans h.same.size hg
  · rw [List.map_append, List.nodup_append]
    refine ⟨h.nd, by simp, fun a ha b hb e => ?_⟩
    obtain ⟨x, hx, rfl⟩ := List.mem_map.1 ha
    have := (h.lent x hx).lt
    have : b = g := by simpa using hb
    omega
theorem PsI.done {g5 c5 : Nat} (h : PsI w wr psv E) (ho : w2.ownsRow 0 78 2 (.slice (some ⟨g5, 0, none⟩) (E.length + 1) c5) (E.length + 1) (eCells E ++ [.int .i64 (-77), .slice none 0 0])) (hgr : (wr.alloc o).grownBy w2 psv.ownBlock) (hat : some g5 = psv.ownBlock ∨ g5 = wr.heap.size + 1) : RowC w2 (.slice (some ⟨g5, 0, none⟩) E.length c5) E ∧ Same w w2 ∧ w.heap.size ≤ g5 ∧ ∀ e ∈ E, LentAt w2 e.v e.q.path e.g := by
  have hT : Turned (fun k => psv.ownBlock = some k) wr w2 := ((Turned.refl _ _).alloc o).grown hgr (fun k hk => .inl hk)
  obtain ⟨a, c, e, hc, _⟩ := own_shape ho
  injection e with _ _ e2
  refine ⟨⟨g5, c5, rfl, by omega, ho⟩, h.same.trans hT (fun i hi => .inr (h.new i hi)), ?_, fun e he => ?_⟩
  · rcases hat with e | e
    · exact h.new g5 e.symm
    · have := h.same.size
      omega
  · refine (h.lent e he).turned hT (fun e2 => ?_)
    obtain ⟨c, _, _, hlo⟩ := h.lent e he
    exact own_own_ne h.own hlo (by decide) _ e2 rfl
/-- A row is done. -/
theorem CodeAt.push (h : CodeAt wr lo rv F) (hlo : lo ≤ wr.heap.size) (hs : Same wr w3) (hrow : RowC w3 pv E) (hnew : ∀ k, pv.ownBlock = some k → wr.heap.size ≤ k) (hlent : ∀ e ∈ E, LentAt w3 e.v e.q.path e.g) (hng : ∀ e ∈ E, wr.heap.size ≤ e.g) (hnd : (E.map (·.g)).Nodup)
    (ho : w4.ownsRow 0 76 1 rv2 (F.length + 1) (F.map (·.2) ++ [pv])) (hgr : (w3.alloc o).grownBy w4 rv.ownBlock) (hat : rv2.ownBlock = rv.ownBlock ∨ rv2.ownBlock = some (w3.heap.size + 1)) : CodeAt w4 lo rv2 (F ++ [(E, pv)]) := by
  have hT : Turned (fun k => rv.ownBlock = some k) w3 w4 := ((Turned.refl _ _).alloc o).grown hgr (fun k hk => .inl hk)
  have h3 := h.same hs
  have hneL : ∀ {v : Value} {p : List Int} {g : Nat}, LentAt w3 v p g → rv.ownBlock ≠ some g := fun hl e => by
    obtain ⟨c, _, _, hlo⟩ := hl
    exact own_own_ne h3.out hlo (by decide) _ e rfl
  have hneR : ∀ {v : Value} {E : List Ent}, RowC w3 v E → ∀ k, v.ownBlock = some k → rv.ownBlock ≠ some k := fun hr k hk e => by
    obtain ⟨g, c, rfl, _, hro⟩ := hr
    exact own_own_ne h3.out hro (by decide) k e (by rw [← hk]; rfl)
  have hents : ents (F ++ [(E, pv)]) = ents F ++ E := by simp [ents]
  refine ⟨by rw [List.length_append, List.map_append]; exact ho, fun f hf => ?_, fun e he => ?_, ?_, fun k hk => ?_, fun f hf k hk => ?_, fun e he => ?_⟩
  · rcases List.mem_append.1 hf with h1 | h1
    · exact (h3.row f h1).turned hT (hneR (h3.row f h1))
    · obtain rfl : f = _ := by simpa using h1
      exact hrow.turned hT (hneR hrow)
  · rw [hents] at he
    rcases List.mem_append.1 he with h1 | h1
    · exact (h3.lent e h1).turned hT (hneL (h3.lent e h1))
    · exact (hlent e h1).turned hT (hneL (hlent e h1))
  · rw [hents, List.map_append, List.nodup_append]
    refine ⟨h.nd, hnd, fun a ha b hb e => ?_⟩
    obtain ⟨x, hx, rfl⟩ := List.mem_map.1 ha
    obtain ⟨y, hy, rfl⟩ := List.mem_map.1 hb
    have := (h.lent x hx).lt
    have := hng y hy
    omega
  · rcases hat with e | e
    · exact h.new k (e.symm.trans hk)
    · have e2 := e.symm.trans hk
      have := hs.size
      obtain rfl : w3.heap.size + 1 = k := by simpa using e2
      omega
  · rcases List.mem_append.1 hf with h1 | h1
    · exact h.newr f h1 k hk
    · obtain rfl : f = _ := by simpa using h1
      exact Nat.le_trans hlo (hnew k hk)
  · rw [hents] at he
    rcases List.mem_append.1 he with h1 | h1
    · exact h.newg e h1
    · exact Nat.le_trans hlo (hng e h1)
end
end Go.Proofs.Yteohhiefchoamaa

namespace Go.Proofs.Yteohhiefchoamaa
open Go.RowKit
attribute [local go_sem ↓] Go.wp_at_zero Go.wp_at_succ

theorem results_c4 {w : World} {fn : Func} {u : Tmp} (h : fn.results = #[.cell u 39]) (tmps : Array Value) {g : Nat} (ht : tmps.getD u undef = .pointer (some ⟨g, 0, none⟩)) {a b c d : Value} (hB : Blk w g 39 #[a, b, c, d]) :
    (results fn tmps).run Try.prog w = .ok (.agg #[a, b, c, d]) w := by
  have h0 := (hB.cell 0).trans rfl
  have h1 := (hB.cell 1).trans rfl
  have h2 := (hB.cell 2).trans rfl
  have h3 := (hB.cell 3).trans rfl
  have ht' : tmps[u]?.getD undef = .pointer (some ⟨g, 0, none⟩) := by simpa using ht
  simp [results, h, ht', go_sem, h0, h1, h2, h3]
set_option maxRecDepth 100000 in
set_option maxHeartbeats 8000000 in
theorem code_any (w : World) (rv : Value) (R : List (List PartD)) (S : Nat → Prop) (hR : RightsAt w S rv R) (hlen0 : R.length ≤ 5864062014634) (hlen : ∀ Q ∈ R, Q.length ≤ 4398046511000) (hlen2 : ∀ Q ∈ R, ∀ q ∈ Q, q.path.length ≤ 17592186044000) :
    Calls Try.prog 37 #[rv] w fun e w' => ∃ cv F, e = .returned (.agg #[.slice none 0 0, .slice none 0 0, .slice none 0 0, cv]) ∧ (F.map fun (f : CRow) => f.1.map (·.q)) = R ∧ CodeAt w' w.heap.size cv F ∧ Same w w' := by
  have HR := Lib.hid hR; have HLn := Lib.hid hlen; have HLp := Lib.hid hlen2
  obtain ⟨rA, rc, rfl, _⟩ := hR
  have HB0 := Lib.hid (Blk.new w 39 #[.slice none 0 0, .slice none 0 0, .slice none 0 0, .slice none 0 0])
  have HS0 : Hid (Same w (w.alloc (.cells #[.slice none 0 0, .slice none 0 0, .slice none 0 0, .slice none 0 0] 39))) := (Turned.refl _ _).alloc _
  obtain ⟨i0, hi0, hz0, hz1, hz2⟩ := info_parts info78
  have HI : Hid (Try.prog.info? 78 = some i0 ∧ i0.zero = some (.agg #[.int .i64 0, .slice none 0 0]) ∧ i0.size = 2 ∧ i0.bytes = 32) := ⟨hi0, hz0, hz1, hz2⟩
  clear hi0 hz0 hz1 hz2
  obtain ⟨i7, hi0, hz0, hz1, hz2⟩ := info_parts info76
  have HI7 : Hid (Try.prog.info? 76 = some i7 ∧ i7.zero = some (.slice none 0 0) ∧ i7.size = 1 ∧ i7.bytes = 24) := ⟨hi0, hz0, hz1, hz2⟩
  clear hi0 hz0 hz1 hz2 hlen hlen2
  go_enter Try.func37, Try.ntmps37
  go_upto_region 1 with fail
  obtain ⟨w0, hw0⟩ : ∃ w0, w0 = w.alloc (.cells #[.slice none 0 0, .slice none 0 0, .slice none 0 0, .slice none 0 0] 39) := ⟨_, rfl⟩
  obtain ⟨q, hq⟩ : ∃ q, q = w.heap.size := ⟨_, rfl⟩
  have HQ0 : Hid (w.heap.size ≤ q) := by rw [hq]; exact Nat.le_refl _
  rw [← hw0] at HB0 HS0 ⊢
  rw [← hq] at HB0 ⊢
  clear hw0 hq
  go_wp2_with fail
  go_loopw [3, 4] (fun ov iv wr => ∃ k : Nat, k ≤ R.length ∧ iv = .int .i64 k ∧ (∃ oa oc, ov = .slice oa k oc) ∧ Hid (Same w0 wr ∧ ∃ F, (F.map fun (f : CRow) => f.1.map (·.q)) = R.take k ∧ CodeAt wr w0.heap.size ov F)) (fun _ iv _ => R.length - (intOf iv).toNat)
  case atStart => exact ⟨0, Nat.zero_le _, rfl, ⟨_, _, rfl⟩, Turned.refl _ _, [], rfl, ⟨World.ownsRow_nil _ _ _ _, fun f hf => by simp at hf, fun e he => by simp [ents] at he, by simp [ents], fun k hk => by simp [Value.ownBlock] at hk, fun f hf => by simp at hf, fun e he => by simp [ents] at he⟩⟩
  case round =>
    obtain ⟨k, hk, rfl, ⟨oa, oc, rfl⟩, HV⟩ := hrel
    rename World => w1
    have HS1 : Hid (Same w w1) := HS0.out.trans HV.out.1 (fun _ h => h.elim)
    by_cases hlt : k < R.length
    · obtain ⟨A2, c2, e, hA⟩ := HR.out.same HS1.out
      injection e with e1 _ e2
      subst e1; subst e2
      obtain ⟨rbl, roff, rfl, _, hc⟩ := hA (by omega)
      obtain ⟨pv, hd, hQ⟩ := hc k hlt
      have hQl := HLn.out R[k] (List.getElem_mem _)
      have hQp := HLp.out R[k] (List.getElem_mem _)
      have htk : R.take (k + 1) = R.take k ++ [R[k]] := List.take_succ_eq_append_getElem hlt
      obtain ⟨Q, hQe⟩ : ∃ Q, Q = R[k] := ⟨_, rfl⟩
      rw [← hQe] at hQ hQl hQp htk
      have HQ := Lib.hid hQ; have HQp := Lib.hid hQp; have HTk := Lib.hid htk
      obtain ⟨pA, pc, rfl, _⟩ := hQ
      have hk0 : (0 : Int) ≤ k := by omega
      have hk1 : (k : Int) < R.length := by omega
      have HD := Lib.hid hd
      clear hc hA hQe htk hQp
      go_wp2_with fail
      go_loopw [5, 6] (fun pv jv wr => ∃ j : Nat, j ≤ Q.length ∧ jv = .int .i64 j ∧ (∃ pa pc, pv = .slice pa j pc) ∧ Hid (∃ E, E.map (·.q) = Q.take j ∧ PsI w1 wr pv E)) (fun _ jv _ => Q.length - (intOf jv).toNat)
      case atStart => exact ⟨0, Nat.zero_le _, rfl, ⟨_, _, rfl⟩, [], rfl, ⟨Turned.refl _ _, World.ownsRow_nil _ _ _ _, fun k hk => by simp [Value.ownBlock] at hk, fun e he => by simp at he, fun e he => by simp at he, by simp⟩⟩
      case round =>
        obtain ⟨j, hj, rfl, ⟨pa, pcc, rfl⟩, HW⟩ := hrel
        rename World => w2
        obtain ⟨E, hE, hP⟩ := HW.out
        have HE := Lib.hid hE; have HP := Lib.hid hP
        have HEl : Hid (E.length = j) := by have h1 := congrArg List.length hE; rw [List.length_map, List.length_take] at h1; unfold Hid; omega
        have hd2 := (hP.same.cell (p := ⟨rbl, roff + k, none⟩) (World.block_lt_of_cell? _ _ HD.out) (fun h => h)).trans HD.out
        clear hE hP HW hd
        by_cases hlt2 : j < Q.length
        · have hx0 : Q[j]? = some (Q[j]'hlt2) := List.getElem?_eq_getElem hlt2
          have htk2 : Q.take (j + 1) = Q.take j ++ [Q[j]'hlt2] := List.take_succ_eq_append_getElem hlt2
          have hqp := HQp.out (Q[j]'hlt2) (List.getElem_mem _)
          obtain ⟨⟨sy, pth⟩, hx⟩ : ∃ x, x = Q[j]'hlt2 := ⟨_, rfl⟩
          rw [← hx] at hx0 htk2 hqp
          obtain ⟨_, bl, off, qv, rfl, c0, c1, hqv⟩ := (HQ.out.same HP.out.same).get hx0
          simp only at c0 hqp
          obtain ⟨qA, qc, rfl, _⟩ := id hqv
          have HQv := Lib.hid hqv.rd; have HTk2 := Lib.hid htk2
          have hj0 : (0 : Int) ≤ j := by omega
          have hj1 : (j : Int) < Q.length := by omega
          have HO : Hid (w2.ownsRow 0 78 2 (.slice pa j pcc) j (eCells E)) := by have h1 := HP.out.own; rwa [HEl.out] at h1
          clear hx hx0 hqv htk2
          go_wp2_with fail
          go_region_law (first
            | (go_simp; go_at_call 34; refine (lent_any _ _ pth (HQv.out.same_ ((Turned.refl _ _).drew)) hqp).mono ?_; rintro e w3 ⟨v3, g3, rfl, hL3, hs3, hg3⟩; obtain ⟨c3, rfl, _⟩ := id hL3; have HL3 := Lib.hid hL3; have HS3 : Hid (Same w2 w3) := ((Turned.refl _ w2).drew).trans hs3 (fun _ h => h.elim); have HG3 : Hid (w2.heap.size ≤ g3) := hg3; have HO3 := Lib.hid (World.ownsRow.same_ HO.out HS3.out); have hd3 := (HS3.out.cell (p := ⟨rbl, roff + k, none⟩) (World.block_lt_of_cell? _ _ hd2) (fun h => h)).trans hd2; have c03 := (HS3.out.cell (p := ⟨bl, off + j * 2, none⟩) (World.block_lt_of_cell? _ _ c0) (fun h => h)).trans c0; clear hL3 hs3 hg3)
            | (refine step_append_lies _ (by rfl) _ _ _ (by rfl) 0 78 i0 _ 2 32 Try.underlying76 HI.out.1 HI.out.2.1 HI.out.2.2.1 HI.out.2.2.2 rfl (by omega) (.slice pa j pcc) j (eCells E) (by rfl) (by first | exact HO3.out.alloc _ | exact (HO3.out.alloc _).drew) ⟨w3.heap.size, 0, none⟩ 1 1 [.int .i64 sy, .slice (some ⟨g3, 0, none⟩) pth.length c3] (by rfl) (by rfl) (World.news_of_block (cs := #[.int .i64 sy, .slice (some ⟨g3, 0, none⟩) pth.length c3]) (t := 78) (fr := (0, 0)) (heap_alloc_new w3 _)) (by simp [Value.oneCell']) (by omega) (by unfold maxLen; omega) (by omega) (by simp) (w3.heap.size + 1) (by simp) ?_; intro g4 c4 w4 ho4 hg4 hat4 hlt4))
          all_goals
            have hgr : (w3.alloc (.cells #[.int .i64 sy, .slice (some ⟨g3, 0, none⟩) pth.length c3] 78)).grownBy w4 (Value.slice pa j pcc).ownBlock := ⟨hg4.os, hg4.tape, hg4.output, hg4.size, hg4.block⟩
            have HN : Hid (∃ E, E.map (·.q) = Q.take (j + 1) ∧ PsI w1 w4 (.slice (some ⟨g4, 0, none⟩) (j + 1) c4) E) := ⟨E ++ [⟨⟨sy, pth⟩, .slice (some ⟨g3, 0, none⟩) pth.length c3, g3⟩], by rw [List.map_append, HE.out, HTk2.out]; rfl, HP.out.push HS3.out HL3.out HG3.out (by rw [HEl.out]; exact ho4) hgr (by
              rcases hat4 with e | e
              · exact .inl e.symm
              · exact .inr (by rw [e]; rfl))⟩
            clear ho4 hg4 hat4 hlt4 hgr hd3 c03 hd2 c0 c1
            go_wp2_with fail
            go_roundw
            case rel => exact ⟨j + 1, by omega, by go_num, ⟨_, _, rfl⟩, HN.out⟩
            case measure => simp [intOf]; omega
        · have hjj : j = Q.length := by omega
          subst hjj
          have HO : Hid (w2.ownsRow 0 78 2 (.slice pa Q.length pcc) Q.length (eCells E)) := by have h1 := HP.out.own; rwa [HEl.out] at h1
          have HEq : Hid (E.map (·.q) = Q) := by have h1 := HE.out; rwa [List.take_length] at h1
          obtain ⟨F, hF, hC⟩ := HV.out.2
          have HF := Lib.hid hF; have HC := Lib.hid hC
          have HFl : Hid (F.length = k) := by have h1 := congrArg List.length hF; rw [List.length_map, List.length_take] at h1; unfold Hid; omega
          have HOo : Hid (w1.ownsRow 0 76 1 (.slice oa k oc) k (F.map (·.2))) := by have h1 := hC.out; rwa [HFl.out] at h1
          clear hF hC
          go_wp2_with (at_builtin; go_loud (refine wpList_append_src _ rfl _ _ 76 rfl 78 i0 _ 2 32 Try.underlying76 HI.out.1 HI.out.2.1 HI.out.2.2.1 HI.out.2.2.2 rfl (by omega) (.slice pa Q.length pcc) Q.length (eCells E) rfl (by exact World.ownsRow.alloc HO.out _) (some ⟨w2.heap.size, 0, none⟩) 1 1 [.int .i64 (-77), .slice none 0 0] rfl (by simp) (by exact fun _ => src_new w2 [.int .i64 (-77), .slice none 0 0] 78 (by omega)) (by simp [Value.oneCell']) (by unfold maxLen; omega) (by omega) ?_))
          intro a5 c5 w5 ho5 hg5 hat5
          obtain ⟨g5, cap, hv5, _, _⟩ := ho5.form (by omega)
          obtain ⟨rfl, rfl⟩ : a5 = some ⟨g5, 0, none⟩ ∧ c5 = cap := by simpa using hv5
          have HDn := Lib.hid (HP.out.done (by rw [HEl.out]; exact ho5) hg5 (by
            rcases hat5 with e | e
            · exact .inl e
            · right; simpa [Value.ownBlock] using e))
          rw [HEl.out] at HDn
          obtain ⟨a', c', e5, hc5, _⟩ := own_shape ho5
          injection e5 with e8 e6 e7
          have hcap : Q.length + 1 ≤ c5 := by omega
          clear e6 e8
          have HO5 := Lib.hid (World.ownsRow.same_ HOo.out HDn.out.2.1)
          have hd5 := (HDn.out.2.1.cell (p := ⟨rbl, roff + k, none⟩) (World.block_lt_of_cell? _ _ HD.out) (fun h => h)).trans HD.out
          clear ho5 hg5 hat5 hv5 hc5 e7 hd2
          go_wp2_with (at_builtin; go_loud (refine wpList_append_src _ rfl _ _ 24 rfl 76 i7 _ 1 24 Try.underlying24 HI7.out.1 HI7.out.2.1 HI7.out.2.2.1 HI7.out.2.2.2 rfl (by omega) (.slice oa k oc) k (F.map (·.2)) rfl (by exact World.ownsRow.alloc HO5.out _) (some ⟨w5.heap.size, 0, none⟩) 1 1 [.slice (some ⟨g5, 0, none⟩) Q.length c5] rfl (by simp) (by exact fun _ => src_new w5 [.slice (some ⟨g5, 0, none⟩) Q.length c5] 76 (by omega)) (by simp [Value.oneCell']) (by unfold maxLen; omega) (by omega) ?_))
          intro a6 c6 w6 ho6 hg6 hat6
          have HN : Hid (Same w0 w6 ∧ ∃ F, (F.map fun (f : CRow) => f.1.map (·.q)) = R.take (k + 1) ∧ CodeAt w6 w0.heap.size (.slice a6 (k + 1) c6) F) := by
            refine ⟨((HV.out.1.trans HDn.out.2.1 (fun _ h => h.elim)).alloc _).grown hg6 (fun i hi => .inr (HC.out.new i hi)), F ++ [(E, .slice (some ⟨g5, 0, none⟩) Q.length c5)], by rw [List.map_append, HF.out, HTk.out, ← HEq.out]; rfl, HC.out.push HV.out.1.size HDn.out.2.1 HDn.out.1 (fun i hi => ?_) HDn.out.2.2.2 HP.out.newg HP.out.nd (by rw [HFl.out]; exact ho6) hg6 hat6⟩
            · obtain rfl : g5 = i := by simpa [Value.ownBlock] using hi
              exact HDn.out.2.2.1
          clear ho6 hg6 hat6 hd5
          go_wp2_with fail
          go_roundw
          case rel => exact ⟨k + 1, by omega, by go_num, ⟨_, _, rfl⟩, HN.out⟩
          case measure => simp [intOf]; omega
    · have hkk : k = R.length := by omega
      subst hkk
      have HB1 := Lib.hid (HB0.out.turned HV.out.1 (fun h => h))
      obtain ⟨F, hF, hC⟩ := HV.out.2
      rw [List.take_length] at hF
      have HF := Lib.hid hF; have HC := Lib.hid hC
      have q0 := (HB1.out.cell 0).trans rfl
      have q1 := (HB1.out.cell 1).trans rfl
      have q2 := (HB1.out.cell 2).trans rfl
      have q3 := (HB1.out.cell 3).trans rfl
      have qf := fun i => HB1.out.frozen i
      have ql := HB1.out.lt
      clear hF hC
      go_wp2_with fail
      have X : Blk ((((w1.setCell ⟨q, 0, none⟩ (.slice none 0 0)).setCell ⟨q, 1, none⟩ (.slice none 0 0)).setCell ⟨q, 2, none⟩ (.slice none 0 0)).setCell ⟨q, 3, none⟩ (.slice oa R.length oc)) q 39 #[.slice none 0 0, .slice none 0 0, .slice none 0 0, .slice oa R.length oc] ∧ Turned (fun k => k = q) w1 ((((w1.setCell ⟨q, 0, none⟩ (.slice none 0 0)).setCell ⟨q, 1, none⟩ (.slice none 0 0)).setCell ⟨q, 2, none⟩ (.slice none 0 0)).setCell ⟨q, 3, none⟩ (.slice oa R.length oc)) :=
        ⟨(((HB1.out.set_ 0 _).set_ 1 _).set_ 2 _).set_ 3 _, ((((Turned.refl (fun k => k = q) w1).setCell (p := ⟨q, 0, none⟩) (.inl rfl) _).setCell (p := ⟨q, 1, none⟩) (.inl rfl) _).setCell (p := ⟨q, 2, none⟩) (.inl rfl) _).setCell (p := ⟨q, 3, none⟩) (.inl rfl) _⟩
      exact bodyPost_ret (results_c4 rfl _ rfl X.1) rfl ⟨_, F, rfl, HF.out, (HC.out.far X.2 (fun i hi => .inl ⟨39, #[.slice none 0 0, .slice none 0 0, .slice none 0 0, .slice none 0 0], by rw [hi]; exact HB1.out, by decide, by decide, by decide⟩)).lower HS0.out.size, HS1.out.trans X.2 (fun i hi => .inr (by rw [hi]; exact HQ0.out))⟩
end Go.Proofs.Yteohhiefchoamaa

namespace Go.Proofs.Yteohhiefchoamaa
open Go.RowKit
attribute [local go_sem ↓] Go.wp_at_zero Go.wp_at_succ

/-- The lists that are looked through. -/
def Vis (A : List Ent) (b : Nat) : Prop := ∃ e ∈ A, b = e.g
theorem ents_split {F : List CRow} {k j : Nat} (hk : k < F.length) (hj : j < F[k].1.length) : ents F = (ents (F.take k) ++ F[k].1.take j) ++ F[k].1[j] :: (F[k].1.drop (j + 1) ++ ents (F.drop (k + 1))) := by
  have e1 : F = F.take k ++ F[k] :: F.drop (k + 1) := by rw [← List.drop_eq_getElem_cons hk, List.take_append_drop]
  have e2 : F[k].1 = F[k].1.take j ++ F[k].1[j] :: F[k].1.drop (j + 1) := by rw [← List.drop_eq_getElem_cons hj, List.take_append_drop]
  have e3 : ents F = ents (F.take k) ++ (F[k].1 ++ ents (F.drop (k + 1))) := (congrArg ents e1).trans (by simp only [ents, List.flatMap_append, List.flatMap_cons])
  exact e3.trans ((congrArg (fun l => ents (F.take k) ++ (l ++ ents (F.drop (k + 1)))) e2).trans (by simp only [List.append_assoc, List.cons_append]))
theorem ents_take {F : List CRow} {k : Nat} (hk : k < F.length) : ents (F.take (k + 1)) = ents (F.take k) ++ F[k].1 :=
  (congrArg ents (List.take_succ_eq_append_getElem hk)).trans (by simp only [ents, List.flatMap_append, List.flatMap_cons, List.flatMap_nil, List.append_nil])
theorem ents_at {F : List CRow} {E : List Ent} {k j : Nat} (hk : k < F.length) (hE : E = F[k].1) (hj : j < E.length) : ents F = (ents (F.take k) ++ E.take j) ++ E[j] :: (E.drop (j + 1) ++ ents (F.drop (k + 1))) := by
  subst hE
  exact ents_split hk hj
theorem RdS.sub {w : World} {S S' : Nat → Prop} {pv : Value} {p : List Int} (h : RdS w S pv p) (hS : ∀ k, S' k → S k) : RdS w S' pv p := by
  obtain ⟨A, c, rfl, h1⟩ := h
  refine ⟨A, c, rfl, fun h0 => ?_⟩
  obtain ⟨bl, off, rfl, hb, hc⟩ := h1 h0
  exact ⟨bl, off, rfl, fun hs => hb (hS bl hs), hc⟩
theorem Vis.step {w wr w' : World} {A : List Ent} {e : Ent} (h : Turned (Vis A) w wr) (ht : Turned (fun k => k = e.g) wr w') : Turned (Vis (A ++ [e])) w w' :=
  (h.mono (T := Vis (A ++ [e])) (fun _ ⟨x, hx, h⟩ => ⟨x, by simp [hx], h⟩)).trans ht (fun i hi => .inl ⟨e, by simp, hi⟩)
set_option maxRecDepth 100000 in
set_option maxHeartbeats 8000000 in
theorem back_code (w : World) (lo : Nat) (rv av : Value) (F : List CRow) (R : List (List PartD)) (hF : (F.map fun (f : CRow) => f.1.map (·.q)) = R) (hC : CodeAt w lo rv F) (hR : RightsAt w (fun k => lo ≤ k) av R) (hlen0 : R.length ≤ 5864062014634) (hlen : ∀ Q ∈ R, Q.length ≤ 4398046511000) (hlen2 : ∀ Q ∈ R, ∀ q ∈ Q, q.path.length ≤ 17592186044000) :
    Calls Try.prog 39 #[.agg #[.slice none 0 0, .slice none 0 0, .slice none 0 0, rv], av] w fun e w' => e = .returned (.bool true) ∧ Turned (Vis (ents F)) w w' := by
  have HFl : Hid (F.length = R.length) := by rw [← hF, List.length_map]; exact rfl
  have HF := Lib.hid hF; have HLn := Lib.hid hlen; have HLp := Lib.hid hlen2
  have hC0 := hC.out
  rw [HFl.out] at hC0
  obtain ⟨oa, oc, rfl, _, _⟩ := own_shape hC0
  obtain ⟨aA, ac, rfl, _⟩ := id hR
  have HS0 : Hid (Same w (w.alloc (.cells #[.slice none 0 0, .slice none 0 0, .slice none 0 0, .slice oa R.length oc] 39))) := (Turned.refl _ _).alloc _
  have HB0 := Lib.hid (Blk.new w 39 #[.slice none 0 0, .slice none 0 0, .slice none 0 0, .slice oa R.length oc])
  have HC := Lib.hid (hC.same HS0.out)
  have HR := Lib.hid (hR.same HS0.out)
  clear hC0 hC hR hlen hlen2 hF
  go_enter Try.func39, Try.ntmps39
  go_upto_region 1 with fail
  obtain ⟨w0, hw0⟩ : ∃ w0, w0 = w.alloc (.cells #[.slice none 0 0, .slice none 0 0, .slice none 0 0, .slice oa R.length oc] 39) := ⟨_, rfl⟩
  obtain ⟨qb, hq⟩ : ∃ q, q = w.heap.size := ⟨_, rfl⟩
  rw [← hw0] at HB0 HS0 HC HR ⊢
  rw [← hq] at HB0 ⊢
  clear hw0 hq
  have HVg : Hid (∀ k, Vis (ents F) k → lo ≤ k ∧ k ≠ qb ∧ (Value.slice oa R.length oc).ownBlock ≠ some k ∧ ∀ f ∈ F, f.2.ownBlock ≠ some k) := by
    rintro k ⟨e, he, rfl⟩
    obtain ⟨c, _, _, hlo⟩ := HC.out.lent e he
    refine ⟨HC.out.newg e he, fun e2 => own_blk_ne hlo HB0.out (by decide) (by rw [← e2]; rfl), fun e2 => own_own_ne HC.out.out hlo (by decide) _ e2 rfl, fun f hf e2 => ?_⟩
    obtain ⟨pg, pc, e3, _, hro⟩ := HC.out.row f hf
    exact own_own_ne hro hlo (by decide) e.g (by rw [← e2, e3]; rfl) rfl
  have HSub : Hid (∀ A, (∀ e ∈ A, e ∈ ents F) → ∀ W, Turned (Vis A) w0 W → Turned (Vis (ents F)) w0 W) := fun A hA W h => h.mono (fun _ ⟨x, hx, h⟩ => ⟨x, hA x hx, h⟩)
  go_wp2_with fail
  go_loopw [5] (fun iv wr => ∃ k : Nat, k ≤ R.length ∧ iv = .int .i64 k ∧ Hid (Turned (Vis (ents (F.take k))) w0 wr)) (fun iv _ => R.length - (intOf iv).toNat)
  case atStart => exact ⟨0, Nat.zero_le _, rfl, Turned.refl _ _⟩
  case round =>
    obtain ⟨k, hk, rfl, HV⟩ := hrel
    rename World => w1
    by_cases hlt : k < R.length
    · have hkF : k < F.length := by rw [HFl.out]; exact hlt
      obtain ⟨E, hE⟩ : ∃ E, E = F[k].1 := ⟨_, rfl⟩
      obtain ⟨Q, hQe⟩ : ∃ Q, Q = R[k] := ⟨_, rfl⟩
      have HQE : Hid (E.map (·.q) = Q) := by
        unfold Hid
        rw [hQe, hE]
        simp only [← HF.out, List.getElem_map]
      have HEl : Hid (E.length = Q.length) := by rw [← HQE.out, List.length_map]; exact rfl
      have hm : F[k] ∈ F := List.getElem_mem _
      have HEm : Hid (∀ e ∈ ents (F.take k) ++ E, e ∈ ents F) := by
        rw [hE, ← ents_take hkF]
        intro e he
        obtain ⟨f, hf, h2⟩ := List.mem_flatMap.1 he
        exact List.mem_flatMap.2 ⟨f, List.mem_of_mem_take hf, h2⟩
      have HAll := Lib.hid (HSub.out _ (fun e he => HEm.out e (by simp [he])) _ HV.out)
      obtain ⟨pg, pc, hpv, hpc, hro⟩ := HC.out.row _ hm
      rw [← hE, HEl.out] at hpv hpc hro
      have hg := HC.out.out.form (by omega)
      obtain ⟨og, cap, hv, _, _⟩ := hg
      obtain ⟨rfl, rfl⟩ : oa = some ⟨og, 0, none⟩ ∧ oc = cap := by injection hv with h1 _ h3; exact ⟨h1, h3⟩
      have HCell : Hid (∀ W, Turned (Vis (ents F)) w0 W → W.cell? ⟨qb, 3, none⟩ = some (.slice (some ⟨og, 0, none⟩) R.length oc) ∧ W.cell? ⟨og, k, none⟩ = some (.slice (some ⟨pg, 0, none⟩) Q.length pc) ∧ W.ownsRow 0 78 2 (.slice (some ⟨pg, 0, none⟩) (Q.length + 1) pc) (Q.length + 1) (eCells E ++ [.int .i64 (-77), .slice none 0 0])) := fun W hW => by
        refine ⟨((HB0.out.turned hW (fun hb => (HVg.out _ hb).2.1 rfl)).cell 3).trans rfl, ?_, World.ownsRow.turned hro hW (fun i hi hb => (HVg.out i hb).2.2.2 _ hm (by rw [hpv, ← hi]; rfl))⟩
        have h1 := World.ownsRow.turned HC.out.out hW (fun i hi hb => (HVg.out i hb).2.2.1 hi)
        have h2 := World.ownsRow.cells (g := og) h1 rfl k F[k].2 (by simp [hkF])
        rw [hpv] at h2
        simpa [Addr.add_lit] using h2
      clear hv hro hm
      have HMk : Hid (∀ W, Turned (Vis (ents F)) w0 W → W.cell? ⟨pg, Q.length * 2, none⟩ = some (.int .i64 (-77))) := fun W hW => by
        have h2 := World.ownsRow.cells (g := pg) (HCell.out W hW).2.2 rfl (Q.length * 2) (.int .i64 (-77)) (by rw [List.getElem?_append_right (by rw [eCells_length, HEl.out]; exact Nat.le_refl _), eCells_length, HEl.out]; simp)
        simpa [Addr.add_lit] using h2
      obtain ⟨A2, c2, e, hA⟩ := HR.out
      injection e with e1 e3 e2
      clear e3
      subst e1; subst e2
      obtain ⟨rbl, roff, rfl, _, hc⟩ := hA (by omega)
      obtain ⟨apv, hd0, hQ0⟩ := hc k hlt
      rw [← hQe] at hQ0
      have HD : Hid (∀ W, Turned (Vis (ents F)) w0 W → W.cell? ⟨rbl, roff + k, none⟩ = some apv) := fun W hW => by
        refine (hW.cell (p := ⟨rbl, roff + k, none⟩) (World.block_lt_of_cell? _ _ hd0) (fun hb => ?_)).trans hd0
        have := (HVg.out _ hb).1
        exact absurd this (by assumption)
      have hQl := HLn.out R[k] (List.getElem_mem _)
      have hQp := HLp.out R[k] (List.getElem_mem _)
      rw [← hQe] at hQl hQp
      obtain ⟨pA, apc, rfl, _⟩ := id hQ0
      have HQ0 := Lib.hid hQ0; have HQp := Lib.hid hQp
      have hk0 : (0 : Int) ≤ k := by omega
      have hk1 : (k : Int) < R.length := by omega
      have HE := Lib.hid hE
      have a0 := (HCell.out _ HAll.out).1
      have a1 := (HCell.out _ HAll.out).2.1
      have a2 := HMk.out _ HAll.out
      have a3 := HD.out _ HAll.out
      clear hA hc hd0 hQ0 hQp hQe hE hpv
      go_wp2_with fail
      go_quiet (fail)
      obtain ⟨w2, hw2⟩ : ∃ w2, w2 = w1.drewN nq := ⟨_, rfl⟩
      have HV2 : Hid (Turned (Vis (ents (F.take k))) w0 w2) := by rw [hw2]; exact HV.out.drewN nq
      rw [← hw2]
      clear hw2 a0 a1 a2 a3 HAll
      have HPt : Hid (∀ W, Turned (Vis (ents F)) w0 W → PartsAt W (fun k => lo ≤ k) (.slice pA Q.length apc) Q) := fun W hW => HQ0.out.keep (hW.mono (fun i hi => (HVg.out i hi).1))
      go_wp2_with fail
      go_loopw [6] (fun jv wr => ∃ j : Nat, j ≤ Q.length ∧ jv = .int .i64 j ∧ Hid (Turned (Vis (ents (F.take k) ++ E.take j)) w0 wr)) (fun jv _ => Q.length - (intOf jv).toNat)
      case atStart => exact ⟨0, Nat.zero_le _, rfl, by rw [List.take_zero, List.append_nil]; exact HV2.out⟩
      case round =>
        obtain ⟨j, hj, rfl, HW⟩ := hrel
        rename World => w3
        have HAll := Lib.hid (HSub.out _ (fun e he => HEm.out e (by
          rcases List.mem_append.1 he with h | h
          · simp [h]
          · simp [List.mem_of_mem_take h])) _ HW.out)
        have a0 := (HCell.out _ HAll.out).1
        have a1 := (HCell.out _ HAll.out).2.1
        have a3 := HD.out _ HAll.out
        by_cases hlt2 : j < Q.length
        · have hjE : j < E.length := by rw [HEl.out]; exact hlt2
          have hkF : k < F.length := by rw [HFl.out]; exact hlt
          obtain ⟨⟨⟨sy, pth⟩, ev, g⟩, hx⟩ : ∃ x, x = E[j]'hjE := ⟨_, rfl⟩
          have hq : Q[j]? = some ⟨sy, pth⟩ := by rw [← HQE.out, List.getElem?_map, List.getElem?_eq_getElem hjE, ← hx]; rfl
          have HMem : Hid ((⟨⟨sy, pth⟩, ev, g⟩ : Ent) ∈ ents F) := HEm.out _ (by rw [hx]; simp)
          have HNot : Hid (¬ Vis (ents (F.take k) ++ E.take j) g) := by
            rintro ⟨e, he, h⟩
            have h1 := HC.out.nd
            rw [ents_at hkF HE.out hjE, List.map_append, List.nodup_append, ← hx] at h1
            exact h1.2.2 e.g (List.mem_map_of_mem he) g (by simp) h.symm
          have HTk : Hid (E.take (j + 1) = E.take j ++ [⟨⟨sy, pth⟩, ev, g⟩]) := by rw [hx]; exact List.take_succ_eq_append_getElem hjE
          have HEc : Hid (∀ W, Turned (Vis (ents F)) w0 W → W.cell? ⟨pg, j * 2, none⟩ = some (.int .i64 sy) ∧ W.cell? ⟨pg, j * 2 + 1, none⟩ = some ev) := fun W hW => by
            obtain ⟨e0, e1⟩ := eCells_at E j hjE
            rw [← hx] at e0 e1
            have hl := eCells_length E
            have h0 := World.ownsRow.cells (g := pg) (HCell.out W hW).2.2 rfl (j * 2) _ (by rw [List.getElem?_append_left (by omega)]; exact e0)
            have h1 := World.ownsRow.cells (g := pg) (HCell.out W hW).2.2 rfl (j * 2 + 1) _ (by rw [List.getElem?_append_left (by omega)]; exact e1)
            simp only [Addr.add_lit, Nat.zero_add] at h0 h1
            exact ⟨h0, h1⟩
          have HLe : Hid (LentAt w3 ev pth g) := (HC.out.lent _ HMem.out).turned HW.out HNot.out
          have hqp := HQp.out ⟨sy, pth⟩ (List.mem_of_getElem? hq)
          simp only at hqp
          obtain ⟨_, bl, off, qv, rfl, c0, c1, hqv⟩ := (HPt.out _ HAll.out).get hq
          simp only at c0 hqv
          have HQs : Hid (∀ W, Turned (Vis (ents F)) w0 W → W.cell? ⟨bl, off + j * 2, none⟩ = some (.int .i64 sy)) := fun W hW => by
            obtain ⟨_, bl', off', qv', e, c0', _, _⟩ := (HPt.out _ hW).get hq
            injection e with e
            injection e with e1 e2
            subst e1; subst e2
            exact c0'
          have HQv := Lib.hid (RdS.sub (S' := fun k => k = g) hqv (fun k hk => by rw [hk]; exact (HVg.out g ⟨_, HMem.out, rfl⟩).1))
          obtain ⟨qA, qc, rfl, _⟩ := id hqv
          obtain ⟨ec, rfl, _⟩ := id HLe.out
          have b0 := (HEc.out _ HAll.out).1
          have b1 := (HEc.out _ HAll.out).2
          have hj0 : (0 : Int) ≤ j := by omega
          have hj1 : (j : Int) < Q.length := by omega
          clear hx hq hqv hjE hkF
          go_wp2_with fail
          go_region_law ((go_simp; go_at_call 36; refine (held_any _ _ _ pth g (HLe.out.turned (S := fun _ => False) ((Turned.refl _ _).drew) (fun h => h)) (HQv.out.same ((Turned.refl _ _).drew)) hqp).mono ?_; rintro e w4 ⟨rfl, ht4⟩; have HT4 : Hid (Turned (Vis (ents (F.take k) ++ E.take (j + 1))) w0 w4) := (by rw [HTk.out, ← List.append_assoc]; exact Vis.step (e := ⟨⟨sy, pth⟩, _, g⟩) HW.out (((Turned.refl (fun k => k = g) w3).drew).trans ht4 (fun i hi => .inl hi))); clear ht4))
          all_goals
            have HAll4 := Lib.hid (HSub.out _ (fun e he => HEm.out e (by
              rcases List.mem_append.1 he with h | h
              · simp [h]
              · simp [List.mem_of_mem_take h])) _ HT4.out)
            clear a0 a1 a3 b0 b1 c0 c1
            have a0 := (HCell.out _ HAll4.out).1
            have a1 := (HCell.out _ HAll4.out).2.1
            have a3 := HD.out _ HAll4.out
            have b0 := (HEc.out _ HAll4.out).1
            have c0 := HQs.out _ HAll4.out
            go_wp2_with fail
            go_quiet (fail)
            go_wp2_with fail
            go_roundw
            case rel => exact ⟨j + 1, by omega, by go_num, HT4.out.drewN _⟩
            case measure => simp [intOf]; omega
        · have hjj : j = Q.length := by omega
          subst hjj
          have HN : Hid (Turned (Vis (ents (F.take (k + 1)))) w0 w3) := by
            have h1 := HW.out
            rw [← HEl.out, List.take_length] at h1
            rw [ents_take (by rw [HFl.out]; exact hlt), ← HE.out]
            exact h1
          go_wp2_with fail
          go_roundw
          case rel => exact ⟨k + 1, by omega, by go_num, HN.out⟩
          case measure => simp [intOf]; omega
    · have hkk : k = R.length := by omega
      subst hkk
      have HFin : Hid (Turned (Vis (ents F)) w w1) := by
        have h1 := HV.out
        rw [← HFl.out, List.take_length] at h1
        exact (HS0.out.mono (fun _ h => h.elim)).trans h1 (fun i hi => .inl hi)
      go_wp2_with fail
      go_ret
      exact ⟨rfl, HFin.out⟩
end Go.Proofs.Yteohhiefchoamaa

namespace Go.Proofs.Yteohhiefchoamaa
open Go.RowKit

theorem rbuildx (w : World) (lu : Value) (L : List Sym) (hlu : w.ownsRow 0 84 3 lu L.length (symCells L)) (hL : ∀ x ∈ L, 0 ≤ x.arity ∧ x.arity ≤ 6) (r : Nat) (room : Int) (u : Value) (N : List NV) (h : RHeap w r room u N) (hr : Ranked (N.map (·.1))) (ha6 : ∀ x ∈ N.map (·.1), x.args.length ≤ 6) (hr4 : room ≤ 4000) (hNr : (N.length : Int) ≤ room)
    (va vb vc rv : Value) (R : List (List PartD)) (hR : RightsAt w (hfoot r u) rv R) (hlen : ∀ Q ∈ R, Q.length ≤ 4398046511104) (hlen2 : ∀ Q ∈ R, ∀ q ∈ Q, q.path.length ≤ 17592186044416) (rule node : Int) :
    Calls Try.prog 38 #[lu, cv va vb vc rv, .pointer (some ⟨r, 0, none⟩), .int .i64 rule, .int .i64 node] w fun e w' => RBuildRes w L r room u N R rule node e w' := by
  by_cases h1 : rule < 0 ∨ (R.length : Int) ≤ rule
  · refine (rbuild_rule w lu _ va vb vc rv _ R hR rule node h1).mono ?_
    rintro e w' ⟨rfl, hs2⟩
    exact .inl ⟨132, 0, 91, by unfold buildBad; rw [if_pos h1], rfl, hs2⟩
  · obtain ⟨k, rfl⟩ : ∃ k : Nat, rule = (k : Int) := ⟨rule.toNat, by omega⟩
    have hk : k < R.length := by omega
    by_cases h2 : node < 0 ∨ (N.length : Int) ≤ node
    · refine (rbuild_node w lu r room u _ h.rhp va vb vc rv _ R hR k hk node (by rw [List.length_map]; exact h2)).mono ?_
      rintro e w' ⟨rfl, hs2⟩
      exact .inl ⟨132, 0, 112, by unfold buildBad; rw [if_neg h1, if_pos (by simpa using h2)], rfl, hs2⟩
    · obtain ⟨n, rfl⟩ : ∃ n : Nat, node = (n : Int) := ⟨node.toNat, by omega⟩
      exact rbuild_any w lu L hlu hL r room u N h hr ha6 hr4 hNr va vb vc rv R hR hlen hlen2 k n hk (by omega)
noncomputable def bdA (L : List Sym) (K : List Nd) (room : Int) (R : List (List PartD)) (rule node : Int) : Int := match buildBad L K room R rule node with
  | some _ => 0
  | none => (layF L K.length (buildP K R rule node)).1.headD 0
noncomputable def bdC (L : List Sym) (K : List Nd) (room : Int) (R : List (List PartD)) (rule node : Int) : Int × Int × Int := (buildBad L K room R rule node).getD (0, 0, 0)
noncomputable def bdN (L : List Sym) (K : List Nd) (room : Int) (R : List (List PartD)) (rule node : Int) : List Nd := match buildBad L K room R rule node with
  | some _ => []
  | none => (layF L K.length (buildP K R rule node)).2
theorem bdN_sound {L : List Sym} {K : List Nd} {room : Int} {R : List (List PartD)} {rule node : Int} (hs : Sound K room) (hL : ∀ x ∈ L, 0 ≤ x.arity ∧ x.arity ≤ 6) : Sound (K ++ bdN L K room R rule node) room := by
  unfold bdN
  cases hb : buildBad L K room R rule node with
  | some _ => simpa using hs
  | none => exact hs.lay hL (items_build hs.rk hb)
theorem bdN_pts {L : List Sym} {K : List Nd} {room : Int} {R : List (List PartD)} {rule node : Int} (hp : ∀ x ∈ K, x.points = true → x.args = []) : ∀ x ∈ K ++ bdN L K room R rule node, x.points = true → x.args = [] := by
  intro x hx hpo
  rcases List.mem_append.1 hx with h1 | h1
  · exact hp x h1 hpo
  · unfold bdN at h1
    cases hb : buildBad L K room R rule node with
    | some _ => rw [hb] at h1; simp at h1
    | none =>
      rw [hb] at h1
      have := (layF_new L K.length _ x h1).1
      rw [this] at hpo; cases hpo
section
variable {w wr w' : World} {bs bm b r lo : Nat} {vs lu v u rv : Value} {L : List Sym} {room : Int} {N M : List NV} {F : List CRow}
theorem HeapAt.kinds (h : HeapAt w b room v N) : ∀ k, hfoot b v k → OtherK w k := by
  rintro k (rfl | hk)
  · exact .inl ⟨113, _, h.blk, by decide, by decide, by decide⟩
  · exact .inr ⟨_, _, _, h.own, hk⟩
theorem RHeap.kinds (h : RHeap w r room u M) : ∀ k, hfoot r u k → OtherK w k := by
  rintro k (rfl | hk)
  · exact .inl ⟨72, _, h.blk, by decide, by decide, by decide⟩
  · exact .inr ⟨_, _, _, h.own, hk⟩
theorem LdI.build (h : LdI w wr bs bm vs L lu b r room v u N M) (hL : ∀ x ∈ L, 0 ≤ x.arity ∧ x.arity ≤ 6) (hs : Sound (N.map (·.1)) room) (hr4 : room ≤ 4000) (va vb vc rv : Value) (R : List (List PartD)) (hR : RightsAt wr (hfoot b v) rv R) (hlen : ∀ Q ∈ R, Q.length ≤ 4398046511104) (hlen2 : ∀ Q ∈ R, ∀ q ∈ Q, q.path.length ≤ 17592186044416) (rule node : Int) :
    Calls Try.prog 13 #[.pointer (some ⟨bs, 0, none⟩), cv va vb vc rv, .pointer (some ⟨b, 0, none⟩), .int .i64 rule, .int .i64 node] wr fun e w' => ∃ ev, e = .returned (.tuple #[.int .i64 (bdA L (N.map (·.1)) room R rule node), ev]) ∧
      ∃ v' X, LdI w w' bs bm vs L lu b r room v' u (N ++ X) M ∧ X.map (·.1) = bdN L (N.map (·.1)) room R rule node ∧ EvIs w' ev (bdC L (N.map (·.1)) room R rule node).1 (bdC L (N.map (·.1)) room R rule node).2.1 (bdC L (N.map (·.1)) room R rule node).2.2 wr.heap.size ∧ Turned (hfoot b v) wr w' := by
  refine (buildx wr bs bm vs L h.sig hL b room v N h.tw.hp hs.rk hr4 (by have := hs.len; rwa [List.length_map] at this) (fun x hx => by have := hs.a6 x.1 (List.mem_map_of_mem hx); omega) va vb vc rv R hR hlen hlen2 rule node).mono ?_
  rintro e w' (⟨c, i, y, ev, hb, rfl, ⟨q, rfl, hB, hq⟩, hs'⟩ | ⟨v', X, a, hb, ha, rfl, hh, hX, ht, hv⟩)
  · refine ⟨_, by unfold bdA; rw [hb], v, [], by rw [List.append_nil]; exact h.later hs', by unfold bdN; rw [hb]; rfl, .inr ⟨q, rfl, ?_, hq⟩, hs'.mono (fun _ h => h.elim)⟩
    unfold bdC; rw [hb]; exact hB
  · exact ⟨_, by unfold bdA; rw [hb]; simp only; rw [List.length_map, ha]; rfl, v', X, h.stepH hh ht hv, by unfold bdN; rw [hb]; simp only; rw [List.length_map]; exact hX, .inl ⟨rfl, by unfold bdC; rw [hb]; rfl, by unfold bdC; rw [hb]; rfl, by unfold bdC; rw [hb]; rfl⟩, ht⟩
theorem LdI.rbuild (h : LdI w wr bs bm vs L lu b r room v u N M) (hL : ∀ x ∈ L, 0 ≤ x.arity ∧ x.arity ≤ 6) (hs : Sound (M.map (·.1)) room) (hr4 : room ≤ 4000) (va vb vc rv : Value) (R : List (List PartD)) (hR : RightsAt wr (hfoot r u) rv R) (hlen : ∀ Q ∈ R, Q.length ≤ 4398046511104) (hlen2 : ∀ Q ∈ R, ∀ q ∈ Q, q.path.length ≤ 17592186044416) (rule node : Int) :
    Calls Try.prog 38 #[lu, cv va vb vc rv, .pointer (some ⟨r, 0, none⟩), .int .i64 rule, .int .i64 node] wr fun e w' => e = .returned (.tuple #[.int .i64 (bdA L (M.map (·.1)) room R rule node), fl (bdC L (M.map (·.1)) room R rule node).1 (bdC L (M.map (·.1)) room R rule node).2.1 (bdC L (M.map (·.1)) room R rule node).2.2]) ∧
      ∃ u' Y, LdI w w' bs bm vs L lu b r room v u' N (M ++ Y) ∧ Y.map (·.1) = bdN L (M.map (·.1)) room R rule node ∧ Turned (hfoot r u) wr w' ∧ ∀ x ∈ Y, ∀ k, x.2.ownBlock = some k → wr.heap.size ≤ k := by
  refine (rbuildx wr lu L h.lst hL r room u M h.tw.rp hs.rk hs.a6 hr4 (by have := hs.len; rwa [List.length_map] at this) va vb vc rv R hR hlen hlen2 rule node).mono ?_
  rintro e w' (⟨c, i, y, hb, rfl, hs'⟩ | ⟨u', Y, a, hb, ha, rfl, hh, hY, ht, hv, hn⟩)
  · exact ⟨by unfold bdA bdC; rw [hb]; rfl, u, [], by rw [List.append_nil]; exact h.later hs', by unfold bdN; rw [hb]; rfl, hs'.mono (fun _ h => h.elim), fun x hx => by simp at hx⟩
  · exact ⟨by unfold bdA bdC; rw [hb]; simp only; rw [List.length_map, ha]; rfl, u', Y, h.stepR hh ht hv, by unfold bdN; rw [hb]; simp only; rw [List.length_map]; exact hY, ht, hn⟩
/-- The copy's lists are written over. -/
theorem LdI.vis (h : LdI w wr bs bm vs L lu b r room v u N M) (hC : CodeAt wr lo rv F) (hlo : w.heap.size ≤ lo) (ht : Turned (Vis (ents F)) wr w')
    (hpos : ∀ x ∈ N, ∀ d ∈ x.1.args, 0 ≤ d) (hM : ∀ x ∈ M, ∀ e ∈ ents F, x.2.ownBlock ≠ some e.g) : LdI w w' bs bm vs L lu b r room v u N M := by
  have hblk : ∀ {k : Nat} {t : TypeId} {cs : Array Value}, Blk wr k t cs → 3 ≠ t → ¬ Vis (ents F) k := by
    rintro k t cs hb hne ⟨e, he, rfl⟩
    obtain ⟨c, _, _, ho⟩ := hC.lent e he
    exact own_blk_ne ho hb hne rfl
  have hrow : ∀ {x : Value} {e : TypeId} {size n : Nat} {xs : List Value}, wr.ownsRow 0 e size x n xs → e ≠ 3 → ∀ k, x.ownBlock = some k → ¬ Vis (ents F) k := by
    rintro x e size n xs hx hne k hk ⟨e', he, rfl⟩
    obtain ⟨c, _, _, ho⟩ := hC.lent e' he
    exact own_own_ne hx ho hne _ hk rfl
  obtain ⟨D, hD, _⟩ := h.sig.map
  refine ⟨⟨h.tw.same.trans ht (fun i ⟨e, he, hi⟩ => .inr (by rw [hi]; exact Nat.le_trans hlo (hC.newg e he))), ⟨h.tw.hp.blk.turned ht (hblk h.tw.hp.blk (by decide)), World.ownsRow.turned h.tw.hp.own ht (hrow h.tw.hp.own (by decide)), fun x hx => (h.tw.hp.args x hx).turned ht (fun k hk ⟨e, he, hi⟩ => lent_arg_ne (hC.lent e he) (h.tw.hp.args x hx) (hpos x hx) (by rw [hk, hi]))⟩, ⟨h.tw.rp.blk.turned ht (hblk h.tw.rp.blk (by decide)), World.ownsRow.turned h.tw.rp.own ht (hrow h.tw.rp.own (by decide)), fun x hx => World.ownsRow.turned (h.tw.rp.args x hx) ht (fun k hk ⟨e, he, hi⟩ => hM x hx e he (by rw [hk, hi]))⟩, h.tw.newh, h.tw.newr, h.tw.apart⟩, h.sig.turned ht ?_, World.ownsRow.turned h.lst ht (hrow h.lst (by decide))⟩
  rintro k (rfl | rfl | hk)
  · exact hblk h.sig.blk (by decide)
  · rintro ⟨e, he, hi⟩
    obtain ⟨c, _, _, ho⟩ := hC.lent e he
    exact own_map_ne ho hD (by rw [hi]; rfl)
  · exact hrow h.sig.own (by decide) k hk
theorem CodeAt.farT (h : CodeAt wr lo rv F) {l : Nat} (hf : FarT l wr w') : CodeAt w' lo rv F := by
  rcases hf with hs | ⟨q, cs, hq, hB, ht⟩
  · exact h.same hs
  · exact h.far ht (fun k hk => .inl ⟨106, cs, by rw [hk]; exact hB, by decide, by decide, by decide⟩)
end
end Go.Proofs.Yteohhiefchoamaa

namespace Go.Proofs.Yteohhiefchoamaa
open Go.RowKit

abbrev boxC (cvv : Value) : Array Value := #[.slice none 0 0, .slice none 0 0, .slice none 0 0, cvv]
/-- Between two rounds. -/
structure BsP (w wr : World) (bs bm : Nat) (vs : Value) (L : List Sym) (lu : Value) (b r : Nat) (room : Int) (qb lo : Nat) (cvv : Value) (F : List CRow) (v u : Value) (N M : List NV) : Prop where
  ld : LdI w wr bs bm vs L lu b r room v u N M
  eq : M.map (·.1) = N.map (·.1)
  snd : Sound (N.map (·.1)) room
  pts : ∀ x ∈ N.map (·.1), x.points = true → x.args = []
  code : CodeAt wr lo cvv F
  box : Blk wr qb 39 (boxC cvv)
  sep : ∀ x ∈ M, ∀ e ∈ ents F, x.2.ownBlock ≠ some e.g
/-- In a round: the heap's Build is done; what its error says. -/
structure BMid (w wx : World) (bs bm : Nat) (vs : Value) (L : List Sym) (lu : Value) (b r : Nat) (room : Int) (qb lo : Nat) (cvv : Value) (F : List CRow) (v u : Value) (N M : List NV) (ev : Value) (fc fi fy : Int) (elo : Nat) : Prop where
  ld : LdI w wx bs bm vs L lu b r room v u N M
  code : CodeAt wx lo cvv F
  box : Blk wx qb 39 (boxC cvv)
  ev : EvIs wx ev fc fi fy elo
  sep : ∀ x ∈ M, ∀ e ∈ ents F, x.2.ownBlock ≠ some e.g
section
variable {w wx wy wz : World} {bs bm : Nat} {vs : Value} {L : List Sym} {lu : Value} {b r : Nat} {room : Int} {qb lo q : Nat} {cvv : Value} {F : List CRow} {v u u' : Value} {N M Y : List NV} {ev : Value} {fc fi fy : Int} {elo : Nat} {cs : Array Value}
theorem BMid.same (h : BMid w wx bs bm vs L lu b r room qb lo cvv F v u N M ev fc fi fy elo) (hs : Same wx wy) : BMid w wy bs bm vs L lu b r room qb lo cvv F v u N M ev fc fi fy elo :=
  ⟨h.ld.later hs, h.code.same hs, h.box.turned hs (fun h => h), h.ev.turned hs (fun _ _ _ h => h), h.sep⟩
theorem BMid.o80 (h : BMid w wx bs bm vs L lu b r room qb lo cvv F v u N M ev fc fi fy elo) (hB : Blk wx q 80 cs) (hq : w.heap.size ≤ q) (ht : Turned (fun k => k = q) wx wy) : BMid w wy bs bm vs L lu b r room qb lo cvv F v u N M ev fc fi fy elo :=
  ⟨h.ld.other hB hq ht (by decide) (by decide) (by decide) (by decide) (by decide) (by decide), h.code.far ht (fun k hk => .inl ⟨80, cs, by rw [hk]; exact hB, by decide, by decide, by decide⟩), h.box.turned ht (fun e => Blk.ne_ h.box hB (by decide) e), h.ev.turned ht (fun k cs' hB' e => Blk.ne_ hB' hB (by decide) e), h.sep⟩
theorem BMid.far (h : BMid w wx bs bm vs L lu b r room qb lo cvv F v u N M ev fc fi fy elo) {l : Nat} (hf : FarT l wx wy) (hl : w.heap.size ≤ l) : LdI w wy bs bm vs L lu b r room v u N M ∧ CodeAt wy lo cvv F ∧ Blk wy qb 39 (boxC cvv) :=
  ⟨h.ld.far hf hl, h.code.farT hf, h.box.farT hf (by decide)⟩
theorem BMid.stepR (h : BMid w wx bs bm vs L lu b r room qb lo cvv F v u N M ev fc fi fy elo) (hs : Same wx wy) (hld : LdI w wz bs bm vs L lu b r room v u' N (M ++ Y)) (ht : Turned (hfoot r u) wy wz) (hn : ∀ x ∈ Y, ∀ k, x.2.ownBlock = some k → wy.heap.size ≤ k) : BMid w wz bs bm vs L lu b r room qb lo cvv F v u' N (M ++ Y) ev fc fi fy elo := by
  have h2 := h.same hs
  refine ⟨hld, h2.code.far ht h2.ld.tw.rp.kinds, h2.box.turned ht ?_, h2.ev.turned ht (fun q cs hB => ?_), fun x hx e he hk => ?_⟩
  · rintro (e | e)
    · exact Blk.ne_ h2.box h2.ld.tw.rp.blk (by decide) e
    · exact own_blk_ne h2.ld.tw.rp.own h2.box (by decide) e
  · rintro (e | e)
    · exact Blk.ne_ hB h2.ld.tw.rp.blk (by decide) e
    · exact own_blk_ne h2.ld.tw.rp.own hB (by decide) e
  · rcases List.mem_append.1 hx with h1 | h1
    · exact h.sep x h1 e he hk
    · have h3 := hn x h1 _ hk
      have h4 := (h2.code.lent e he).lt
      omega
end
theorem bd_pos {N : List NV} {room : Int} (h : Sound (N.map (·.1)) room) (hp : ∀ x ∈ N.map (·.1), x.points = true → x.args = []) : ∀ x ∈ N, ∀ d ∈ x.1.args, 0 ≤ d := by
  intro x hx d hd
  have hm : x.1 ∈ N.map (·.1) := List.mem_map_of_mem hx
  cases hpo : x.1.points with
  | true => rw [hp x.1 hm hpo] at hd; simp at hd
  | false =>
    obtain ⟨j, e, _⟩ := h.rk.inK x.1 hm d (by unfold down; rw [hpo]; exact hd)
    omega

set_option maxRecDepth 100000 in
set_option maxHeartbeats 8000000 in
theorem builds_law (w : World) (vX lv rv tv : Value) (X : List Sym) (room : Int) (K : List Nd) (R : List (List PartD)) (T : List (Int × Int))
    (hX : SymRd w vX X) (hs : ∀ x ∈ X, x.name.size ≤ maxLen) (hl : X.length ≤ 17592186044416) (hK : NdRd w lv K) (hKa : ∀ x ∈ K, x.args.length ≤ 17592186044416) (hR : RightsAt w (fun k => w.heap.size ≤ k) rv R) (hRl : R.length ≤ 5864062014634) (hRn : ∀ Q ∈ R, Q.length ≤ 4398046511000) (hRp : ∀ Q ∈ R, ∀ q ∈ Q, q.path.length ≤ 17592186044000) (hT : TryRd w tv T) (hTl : T.length ≤ 17592186044416) :
    Calls Try.prog 9 #[vX, .int .i64 room, lv, rv, tv] w fun e w' => e = .returned (.bool true) ∧ Same w w' := by
  have HX := Lib.hid hX; have HSz := Lib.hid hs; have HL := Lib.hid hl; have HK := Lib.hid hK; have HKa := Lib.hid hKa; have HT := Lib.hid hT; have HR := Lib.hid hR; have HRn := Lib.hid hRn; have HRp := Lib.hid hRp
  obtain ⟨XA, xc, rfl, _⟩ := hX
  obtain ⟨KA, kc, rfl, _⟩ := hK
  obtain ⟨TA, tc, rfl, _⟩ := hT
  obtain ⟨RA, rc, rfl, _⟩ := hR
  clear hs hKa hRn hRp
  go_enter Try.func9, Try.ntmps9
  go_wp2_with fail
  refine (awake_any _).mono ?_
  rintro e w0 ⟨rfl, hs0⟩
  have HS0 := Lib.hid hs0
  clear hs0
  go_wp2_with fail
  refine (signature_any _ _ X (HX.out.same HS0.out) HSz.out HL.out).mono ?_
  rintro e w1 ⟨bs, bm, vs, lu, rfl, hsg, hlu, hs1, hn1, _⟩
  have HAr := Lib.hid (sigL_ar X)
  obtain ⟨L, hLe⟩ : ∃ L, L = sigL X := ⟨_, rfl⟩
  rw [← hLe] at hsg hlu HAr
  have HSg := Lib.hid hsg; have HLu := Lib.hid hlu
  have HS1 : Hid (Same w w1) := HS0.out.trans hs1 (fun _ h => h.elim)
  clear hsg hlu hs1 hn1 hLe
  go_wp2_with fail
  refine (made_any w1 room _ K (HK.out.same HS1.out) HKa.out).mono ?_
  rintro e w2 (⟨rfl, hs2⟩ | ⟨b, r, v, u, N, M, rfl, hTw, hN, hM, hmp, hrk, _, hr4, hKl⟩)
  · have HS2 : Hid (Same w w2) := HS1.out.trans hs2 (fun _ h => h.elim)
    clear hs2
    go_wp2_with fail
    all_goals go_ret
    all_goals exact ⟨rfl, HS2.out⟩
  · have hld : LdI w w2 bs bm vs L lu b r room v u N M := ⟨⟨HS1.out.trans hTw.same (fun _ h => h.elim), hTw.hp, hTw.rp, fun k hk => Nat.le_trans HS1.out.size (hTw.newh k hk), fun k hk => Nat.le_trans HS1.out.size (hTw.newr k hk), hTw.apart⟩, HSg.out.turned hTw.same (fun _ _ h => h), World.ownsRow.same_ HLu.out hTw.same⟩
    have hsn : Sound (N.map (·.1)) room := by rw [hN]; exact ⟨hrk, fun x hx => (hmp x hx).len, hKl⟩
    have hpt : ∀ x ∈ N.map (·.1), x.points = true → x.args = [] := by rw [hN]; exact fun x hx hp => ((hmp x hx).pts hp).2
    have HI2 := Lib.hid hld; have HSn := Lib.hid hsn; have HPt := Lib.hid hpt
    have HEq : Hid (M.map (·.1) = N.map (·.1)) := by rw [hM, hN]; exact rfl
    clear hTw hN hM hmp hrk hKl hld hsn hpt
    go_wp2_with fail
    refine (code_any w2 _ R _ (HR.out.same HI2.out.tw.same) hRl HRn.out HRp.out).mono ?_
    rintro e w3 ⟨cvv, F, rfl, hF, hC, hs3⟩
    have HF := Lib.hid hF
    obtain ⟨ca, cc, rfl, _, _⟩ := own_shape hC.out
    have HI3 := Lib.hid (HI2.out.later hs3)
    have HC3 := Lib.hid hC
    have HSz3 : Hid (w2.heap.size ≤ w3.heap.size) := hs3.size
    clear hF hC hs3
    go_upto_region 7 with fail
    have HI4 : Hid (BsP w (w3.alloc (.cells #[.slice none 0 0, .slice none 0 0, .slice none 0 0, .slice ca F.length cc] 39)) bs bm vs L lu b r room w3.heap.size w2.heap.size (.slice ca F.length cc) F v u N M) :=
      ⟨HI3.out.later ((Turned.refl _ _).alloc _), HEq.out, HSn.out, HPt.out, HC3.out.same ((Turned.refl _ _).alloc _), Blk.new w3 39 _, fun x hx e he hk => by
        have h1 := own_lt (HI2.out.tw.rp.args x hx) hk
        have h2 := HC3.out.newg e he
        omega⟩
    have HLo : Hid (w.heap.size ≤ w2.heap.size) := HI2.out.tw.same.size
    have HQn : Hid (w.heap.size ≤ w3.heap.size) := HI3.out.tw.same.size
    obtain ⟨lo, hlo⟩ : ∃ lo, lo = w2.heap.size := ⟨_, rfl⟩
    obtain ⟨qb, hqb⟩ : ∃ qb, qb = w3.heap.size := ⟨_, rfl⟩
    obtain ⟨w4, hw4⟩ : ∃ w4, w4 = w3.alloc (.cells #[.slice none 0 0, .slice none 0 0, .slice none 0 0, .slice ca F.length cc] 39) := ⟨_, rfl⟩
    rw [← hw4] at HI4 ⊢
    rw [← hqb] at HI4 HQn ⊢
    rw [← hlo] at HI4 HLo
    have HRl := Lib.hid hRl
    clear hw4 hqb hlo HI2 HI3 HC3 HSz3 HSn HPt HEq
    go_wp2_with fail
    go_loopw [17] (fun i wr => ∃ k : Nat, k ≤ T.length ∧ i = .int .i64 k ∧ Hid (∃ v u N M, BsP w wr bs bm vs L lu b r room qb lo (.slice ca F.length cc) F v u N M)) (fun i _ => T.length - (intOf i).toNat)
    case atStart => exact ⟨0, Nat.zero_le _, rfl, v, u, N, M, HI4.out⟩
    case round =>
      obtain ⟨k, hk, rfl, HV⟩ := hrel
      obtain ⟨v5, u5, N5, M5, hI5⟩ := HV.out
      have HI5 := Lib.hid hI5
      clear hI5 HV
      rename World => w5
      by_cases hlt : k < T.length
      · obtain ⟨A', c', e, hA⟩ := HT.out
        injection e with e1 e3 e2
        clear e3
        subst e1; subst e2
        obtain ⟨bl, off, rfl, hc⟩ := hA (by omega)
        obtain ⟨t0, t1⟩ := hc k hlt
        obtain ⟨⟨ru, no⟩, hx⟩ : ∃ x, x = T[k] := ⟨_, rfl⟩
        rw [← hx] at t0 t1
        simp only at t0 t1
        have HTc : Hid (∀ W, Same w W → W.cell? ⟨bl, off + k * 2, none⟩ = some (.int .i64 ru) ∧ W.cell? ⟨bl, off + k * 2 + 1, none⟩ = some (.int .i64 no)) := fun W hW => ⟨(hW.cell (p := ⟨bl, off + k * 2, none⟩) (World.block_lt_of_cell? _ _ t0) (fun h => h)).trans t0, (hW.cell (p := ⟨bl, off + k * 2 + 1, none⟩) (World.block_lt_of_cell? _ _ t1) (fun h => h)).trans t1⟩
        have hk0 : (0 : Int) ≤ k := by omega
        have hk1 : (k : Int) < T.length := by omega
        clear hc hA hx t0 t1
        obtain ⟨t0, t1⟩ := HTc.out w5 HI5.out.ld.tw.same
        have b0 := (HI5.out.box.cell 0).trans rfl
        have b1 := (HI5.out.box.cell 1).trans rfl
        have b2 := (HI5.out.box.cell 2).trans rfl
        have b3 := (HI5.out.box.cell 3).trans rfl
        obtain ⟨ba, hba⟩ : ∃ ba, ba = bdA L (N5.map (·.1)) room R ru no := ⟨_, rfl⟩
        obtain ⟨bn, hbn⟩ : ∃ bn, bn = bdN L (N5.map (·.1)) room R ru no := ⟨_, rfl⟩
        obtain ⟨fc, hfc⟩ : ∃ fc, fc = (bdC L (N5.map (·.1)) room R ru no).1 := ⟨_, rfl⟩
        obtain ⟨fi, hfi⟩ : ∃ fi, fi = (bdC L (N5.map (·.1)) room R ru no).2.1 := ⟨_, rfl⟩
        obtain ⟨fy, hfy⟩ : ∃ fy, fy = (bdC L (N5.map (·.1)) room R ru no).2.2 := ⟨_, rfl⟩
        have HBd : Hid (bdA L (N5.map (·.1)) room R ru no = ba ∧ bdN L (N5.map (·.1)) room R ru no = bn ∧ (bdC L (N5.map (·.1)) room R ru no).1 = fc ∧ (bdC L (N5.map (·.1)) room R ru no).2.1 = fi ∧ (bdC L (N5.map (·.1)) room R ru no).2.2 = fy) := ⟨hba.symm, hbn.symm, hfc.symm, hfi.symm, hfy.symm⟩
        have HNq : Hid (¬ hfoot b v5 qb) := by
          rintro (e | e)
          · exact Blk.ne_ HI5.out.box HI5.out.ld.tw.hp.blk (by decide) e
          · exact own_blk_ne HI5.out.ld.tw.hp.own HI5.out.box (by decide) e
        have HRi : Hid (RightsAt w5.drew (hfoot b v5) (.slice ca F.length cc) R) := by
          have h1 := (HI5.out.code.same ((Turned.refl _ _).drew)).rights (S := hfoot b v5) ((HI5.out.ld.tw.hp.same ((Turned.refl _ _).drew)).kinds)
          rwa [HF.out] at h1
        have HRn2 : Hid (∀ Q ∈ R, Q.length ≤ 4398046511104) := fun Q hQ => by have := HRn.out Q hQ; omega
        have HRp2 : Hid (∀ Q ∈ R, ∀ q ∈ Q, q.path.length ≤ 17592186044416) := fun Q hQ q hq => by have := HRp.out Q hQ q hq; omega
        clear hba hbn hfc hfi hfy
        go_wp2_with fail
        go_region_held3 (fun w' => w'.cell? ⟨qb, 0, none⟩ = some (.slice none 0 0) ∧ w'.cell? ⟨qb, 1, none⟩ = some (.slice none 0 0) ∧ w'.cell? ⟨qb, 2, none⟩ = some (.slice none 0 0) ∧ w'.cell? ⟨qb, 3, none⟩ = some (.slice ca F.length cc) ∧ w'.cell? ⟨bl, off + k * 2, none⟩ = some (.int .i64 ru) ∧ w'.cell? ⟨bl, off + k * 2 + 1, none⟩ = some (.int .i64 no)) (go_keep) ((go_at_call 13; refine ((HI5.out.ld.later ((Turned.refl _ _).drew)).build HAr.out HI5.out.snd hr4 _ _ _ _ R HRi.out HRn2.out HRp2.out ru no).mono ?_; rintro e w6 ⟨ev6, rfl, hO⟩; rw [HBd.out.1]; have HO : Hid (∃ v' X, LdI w w6 bs bm vs L lu b r room v' u5 (N5 ++ X) M5 ∧ X.map (·.1) = bn ∧ EvIs w6 ev6 fc fi fy w5.heap.size ∧ Turned (hfoot b v5) w5 w6) := (by obtain ⟨v', X, h1, h2, h3, h4⟩ := hO; rw [HBd.out.2.1] at h2; rw [HBd.out.2.2.1, HBd.out.2.2.2.1, HBd.out.2.2.2.2] at h3; exact ⟨v', X, h1, h2, h3, ((Turned.refl _ _).drew).trans h4 (fun i hi => .inl hi)⟩); have HT6 : Hid (Turned (hfoot b v5) w5 w6) := (by obtain ⟨_, _, _, _, _, h4⟩ := HO.out; exact h4); have HSw6 : Hid (Same w w6) := (by obtain ⟨_, _, h1, _⟩ := HO.out; exact h1.tw.same); have HB6 : Hid (Blk w6 qb 39 (boxC (.slice ca F.length cc))) := HI5.out.box.turned HT6.out HNq.out; have x0 : w6.cell? ⟨qb, 0, none⟩ = some (.slice none 0 0) := (HB6.out.cell 0).trans rfl; have x1 : w6.cell? ⟨qb, 1, none⟩ = some (.slice none 0 0) := (HB6.out.cell 1).trans rfl; have x2 : w6.cell? ⟨qb, 2, none⟩ = some (.slice none 0 0) := (HB6.out.cell 2).trans rfl; have x3 : w6.cell? ⟨qb, 3, none⟩ = some (.slice ca F.length cc) := (HB6.out.cell 3).trans rfl; obtain ⟨x4, x5⟩ := HTc.out w6 HSw6.out; clear hO))
        obtain ⟨v6, X6, hI6, hX6, hE6, _⟩ := HO.out
        have HI6 := Lib.hid hI6; have HX6 := Lib.hid hX6; have HE6 := Lib.hid hE6
        have HC6 := Lib.hid (HI5.out.code.far HT6.out HI5.out.ld.tw.hp.kinds)
        clear hI6 hX6 hE6 HO x0 x1 x2 x3 x4 x5 b0 b1 b2 b3 t0 t1
        obtain ⟨t0, t1⟩ := HTc.out w6 HSw6.out
        have HM6 : Hid (BMid w w6 bs bm vs L lu b r room qb lo (.slice ca F.length cc) F v6 u5 (N5 ++ X6) M5 ev6 fc fi fy w5.heap.size) := ⟨HI6.out, HC6.out, HB6.out, HE6.out, HI5.out.sep⟩
        have HRr : Hid (∀ W, Same w W → RightsAt W (hfoot r u5) (.slice RA R.length rc) R) := fun W hW => RightsAt.weak (HR.out.same hW) (fun i hi => HI6.out.tw.newr i hi)
        have HSm : Hid (Sound (M5.map (·.1)) room) := by rw [HI5.out.eq]; exact HI5.out.snd
        have HEl : Hid (w.heap.size ≤ w5.heap.size ∧ w.heap.size ≤ w6.heap.size) := ⟨HI5.out.ld.tw.same.size, HI6.out.tw.same.size⟩
        have HE5 := Lib.hid HI5.out.eq
        have HFq : Hid (∀ W, Same (w6.alloc (.cells #[.int .i64 0, .int .i64 0, .int .i64 0, .bool false, .int .i64 0, .int .i64 0] 80)) W → ∀ W2, Turned (hfoot r u5) W W2 → Blk W2 w6.heap.size 80 #[.int .i64 0, .int .i64 0, .int .i64 0, .bool false, .int .i64 0, .int .i64 0]) := fun W hW W2 hT => by
          have h1 := (Blk.new w6 80 #[.int .i64 0, .int .i64 0, .int .i64 0, .bool false, .int .i64 0, .int .i64 0]).turned hW (fun h => h)
          have h2 := (HI6.out.tw.rp.same ((Turned.refl _ _).alloc _)).same hW
          refine h1.turned hT ?_
          rintro (e | e)
          · exact Blk.ne_ h1 h2.blk (by decide) e
          · exact own_blk_ne h2.own h1 (by decide) e
        have hbl6 := World.block_lt_of_cell? _ _ t0
        simp only at hbl6
        have u0 : (w6.alloc (.cells #[.int .i64 0, .int .i64 0, .int .i64 0, .bool false, .int .i64 0, .int .i64 0] 80)).cell? ⟨bl, off + k * 2, none⟩ = some (.int .i64 ru) := (World.cell?_alloc_lt w6 _ ⟨bl, off + k * 2, none⟩ hbl6).trans t0
        have u1 : (w6.alloc (.cells #[.int .i64 0, .int .i64 0, .int .i64 0, .bool false, .int .i64 0, .int .i64 0] 80)).cell? ⟨bl, off + k * 2 + 1, none⟩ = some (.int .i64 no) := (World.cell?_alloc_lt w6 _ ⟨bl, off + k * 2 + 1, none⟩ hbl6).trans t1
        go_upto_region 11 with fail
        go_cut [20, 21] (fun s20 s21 wx => ∃ q21, s20 = .int .i64 ba ∧ s21 = .pointer (some ⟨q21, 0, none⟩) ∧ Hid (∃ u' Y, BMid w wx bs bm vs L lu b r room qb lo (.slice ca F.length cc) F v6 u' (N5 ++ X6) (M5 ++ Y) ev6 fc fi fy w5.heap.size ∧ Y.map (·.1) = bn ∧ Blk wx q21 80 #[.int .i64 fc, .int .i64 fi, .int .i64 fy, .bool false, .int .i64 0, .int .i64 0]))
        case first =>
          go_region_law (first
            | (go_simp; go_at_call 38; refine ((HI6.out.later ((Turned.refl _ _).drew)).rbuild HAr.out HSm.out hr4 _ _ _ _ R (HRr.out _ (HSw6.out.drew)) HRn2.out HRp2.out ru no).mono ?_; rintro e w7 ⟨rfl, u7, Y7, hI7, hY7, ht7, hn7⟩; rw [HE5.out, HBd.out.1, HBd.out.2.2.1, HBd.out.2.2.2.1, HBd.out.2.2.2.2]; rw [HE5.out, HBd.out.2.1] at hY7; have HY7 := Lib.hid hY7; have HM7 := Lib.hid (HM6.out.stepR ((Turned.refl _ _).drew) hI7 ht7 hn7); clear hI7 hY7 ht7 hn7)
            | (go_simp; go_at_call 38; refine ((HI6.out.later (((Turned.refl _ _).alloc _).drew)).rbuild HAr.out HSm.out hr4 _ _ _ _ R (HRr.out _ ((HSw6.out.alloc _).drew)) HRn2.out HRp2.out ru no).mono ?_; rintro e w7 ⟨rfl, u7, Y7, hI7, hY7, ht7, hn7⟩; rw [HE5.out, HBd.out.1, HBd.out.2.2.1, HBd.out.2.2.2.1, HBd.out.2.2.2.2]; rw [HE5.out, HBd.out.2.1] at hY7; have HY7 := Lib.hid hY7; have HM7 := Lib.hid (HM6.out.stepR (((Turned.refl _ _).alloc _).drew) hI7 ht7 hn7); have HB7 := Lib.hid (HFq.out _ ((Turned.refl _ _).drew) _ ht7); obtain ⟨q0, q1, q2, q3, q4, q5⟩ := HB7.out.six; have qf := (fun i => HB7.out.frozen i); have ql := HB7.out.lt; clear hI7 hY7 ht7 hn7))
          all_goals
            go_wp2_with fail
            go_meet
            first
              | (have X := set6 HB7.out (.int .i64 fc) (.int .i64 fi) (.int .i64 fy) (.bool false) (.int .i64 0) (.int .i64 0)
                 exact ⟨w6.heap.size, rfl, rfl, u7, Y7, HM7.out.o80 HB7.out HEl.out.2 X.2, HY7.out, X.1⟩)
              | exact ⟨w7.heap.size, rfl, rfl, u7, Y7, HM7.out.same ((Turned.refl _ _).alloc _), HY7.out, Blk.new w7 80 _⟩
        case rest =>
          obtain ⟨q21, rfl, rfl, HCt⟩ := hcut
          obtain ⟨u7, Y7, hM7, hY7, hB7⟩ := HCt.out
          have HM7 := Lib.hid hM7; have HY7 := Lib.hid hY7; have HB7 := Lib.hid hB7
          clear hM7 hY7 hB7 HCt t0 t1 u0 u1 hbl6
          go_wp2_with fail
          refine (fault_ev _ ev6 fc fi fy _ HM7.out.ev).mono ?_
          rintro e w9 ⟨rfl, hf9⟩
          have hfar := HM7.out.far hf9 HEl.out.1
          have hAl : Same w9 (w9.alloc (.cells #[.int .i64 fc, .int .i64 fi, .int .i64 fy, .bool false, .int .i64 0, .int .i64 0] 80)) := (Turned.refl _ _).alloc _
          have HN : Hid (BsP w (w9.alloc (.cells #[.int .i64 fc, .int .i64 fi, .int .i64 fy, .bool false, .int .i64 0, .int .i64 0] 80)) bs bm vs L lu b r room qb lo (.slice ca F.length cc) F v6 u7 (N5 ++ X6) (M5 ++ Y7)) := by
            refine ⟨hfar.1.later hAl, by rw [List.map_append, List.map_append, HX6.out, HY7.out, HE5.out], ?_, ?_, hfar.2.1.same hAl, hfar.2.2.turned hAl (fun h => h), HM7.out.sep⟩
            · rw [List.map_append, HX6.out, ← HBd.out.2.1]
              exact bdN_sound HI5.out.snd HAr.out
            · rw [List.map_append, HX6.out, ← HBd.out.2.1]
              exact bdN_pts HI5.out.pts
          have HB9 := Lib.hid ((HB7.out.farT hf9 (by decide)).turned hAl (fun h => h))
          have HB9b := Lib.hid (Blk.new w9 80 #[.int .i64 fc, .int .i64 fi, .int .i64 fy, .bool false, .int .i64 0, .int .i64 0])
          clear hfar hf9 hAl
          go_upto_region 13 with fail
          obtain ⟨q22, hq22⟩ : ∃ q22, q22 = w9.heap.size := ⟨_, rfl⟩
          obtain ⟨w10, hw10⟩ : ∃ w10, w10 = w9.alloc (.cells #[.int .i64 fc, .int .i64 fi, .int .i64 fy, .bool false, .int .i64 0, .int .i64 0] 80) := ⟨_, rfl⟩
          rw [← hw10] at HN HB9 HB9b ⊢
          rw [← hq22] at HB9b ⊢
          clear hq22 hw10
          obtain ⟨x0, x1, x2, x3, x4, x5⟩ := HB9.out.six
          obtain ⟨y0, y1, y2, y3, y4, y5⟩ := HB9b.out.six
          go_wp2_with fail
          go_roundw
          case rel => exact ⟨k + 1, by omega, by go_num, _, _, _, _, HN.out⟩
          case measure => simp [intOf]; omega
      · have hkk : k = T.length := by omega
        subst hkk
        have b0 := (HI5.out.box.cell 0).trans rfl
        have b1 := (HI5.out.box.cell 1).trans rfl
        have b2 := (HI5.out.box.cell 2).trans rfl
        have b3 := (HI5.out.box.cell 3).trans rfl
        have HRa : Hid (RightsAt w5 (fun k => lo ≤ k) (.slice RA R.length rc) R) := RightsAt.weak (HR.out.same HI5.out.ld.tw.same) (fun i hi => Nat.le_trans HLo.out hi)
        go_wp2_with fail
        refine (back_code w5 lo _ _ F R HF.out HI5.out.code HRa.out HRl.out HRn.out HRp.out).mono ?_
        rintro e w6 ⟨rfl, ht6⟩
        have HI6 := Lib.hid (HI5.out.ld.vis HI5.out.code HLo.out ht6 (bd_pos HI5.out.snd HI5.out.pts) HI5.out.sep)
        have HE5 := Lib.hid HI5.out.eq
        have hN4 : N5.length ≤ 4000 := by have h1 := HI5.out.snd.len; rw [List.length_map] at h1; omega
        have HN4 := Lib.hid hN4
        have HAa : Hid (∀ x ∈ N5.map (·.1), x.args.length ≤ 17592186044416) := fun x hx => by have := HI5.out.snd.a6 x hx; omega
        clear ht6 b0 b1 b2 b3 hN4
        go_wp2_with fail
        refine (told_any w6 b room v5 N5 HI6.out.tw.hp HN4.out (fun x hx => HAa.out x.1 (List.mem_map_of_mem hx))).mono ?_
        rintro e w7 ⟨u7, K7, rfl, hT7, hK7⟩
        have hRd := hT7.rd
        rw [hK7] at hRd
        have HRd := Lib.hid hRd
        have HI7 := Lib.hid (HI6.out.later hT7.same)
        have hrd2 := HI7.out.tw.rp.rhp.rd
        rw [HE5.out] at hrd2
        have HRd2 := Lib.hid hrd2
        have b1 : w7.cell? ⟨r, 1, none⟩ = some u5 := (HI7.out.tw.rp.blk.cell 1).trans rfl
        clear hT7 hK7 hRd hrd2
        go_wp2_with fail
        refine (sameNodes_eq w7 _ _ (N5.map (·.1)) HRd.out HRd2.out (by rw [List.length_map]; have := HN4.out; omega) HAa.out).mono ?_
        rintro e w8 ⟨rfl, hs8⟩
        have HS8 : Hid (Same w w8) := HI7.out.tw.same.trans hs8 (fun _ h => h.elim)
        clear hs8
        go_wp2_with fail
        all_goals go_ret
        all_goals exact ⟨rfl, HS8.out⟩
end Go.Proofs.Yteohhiefchoamaa

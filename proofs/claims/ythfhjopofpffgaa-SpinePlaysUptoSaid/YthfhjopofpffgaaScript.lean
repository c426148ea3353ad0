/-
  A script in memory, opened: what the bulk says of it.
-/
import Derived.Test.YthfhjopofpffgaaBulk
namespace Go.Proofs.Ythfhjopofpffgaa
open Go.ChangeShapes Go.WideShapes Go.ChangeAt Go.RowKit Go.Deep

structure OpD where
  kind : Int
  two : Bool
  f : Fr
  l : List Int
def OOld (w : World) (B : Nat) (v : Value) (O : List OpD) : Prop :=
  ∃ A c, v = .slice A O.length c ∧ (0 < O.length → ∃ bl off, A = some ⟨bl, off, none⟩ ∧ bl < B ∧ ∀ k (h : k < O.length), w.cell? ⟨bl, off + k * 7, none⟩ = some (.int .i64 O[k].kind) ∧ w.cell? ⟨bl, off + k * 7 + 1, none⟩ = some (.bool O[k].two) ∧
    w.cell? ⟨bl, off + k * 7 + 2, none⟩ = some (.int .i64 O[k].f.node) ∧ w.cell? ⟨bl, off + k * 7 + 3, none⟩ = some (.bool O[k].f.whole) ∧ w.cell? ⟨bl, off + k * 7 + 4, none⟩ = some (.int .i64 O[k].f.next) ∧
    ∃ pv lv, w.cell? ⟨bl, off + k * 7 + 5, none⟩ = some pv ∧ ROld w B pv O[k].f.path ∧ w.cell? ⟨bl, off + k * 7 + 6, none⟩ = some lv ∧ ROld w B lv O[k].l)
theorem OOld.keep {w w' : World} {B : Nat} {v : Value} {O : List OpD} (h : OOld w B v O) (ht : Turned (fun i => B ≤ i) w w') : OOld w' B v O := by
  obtain ⟨A, c, rfl, h1⟩ := h
  refine ⟨A, c, rfl, fun h0 => ?_⟩
  obtain ⟨bl, off, rfl, hb, hc⟩ := h1 h0
  refine ⟨bl, off, rfl, hb, fun k hk => ?_⟩
  obtain ⟨c0, c1, c2, c3, c4, pv, lv, c5, hR, c6, hL⟩ := hc k hk
  have hl := World.block_lt_of_cell? w _ c0
  have hn : ¬ B ≤ bl := by omega
  have e : ∀ j, w'.cell? ⟨bl, j, none⟩ = w.cell? ⟨bl, j, none⟩ := fun j => ht.cell (p := ⟨bl, j, none⟩) hl hn
  simp only [e]
  exact ⟨c0, c1, c2, c3, c4, pv, lv, c5, hR.keep ht, c6, hL.keep ht⟩
theorem OOld.more {w : World} {B B' : Nat} {v : Value} {O : List OpD} (h : OOld w B v O) (hB : B ≤ B') : OOld w B' v O := by
  obtain ⟨A, c, rfl, h1⟩ := h
  refine ⟨A, c, rfl, fun h0 => ?_⟩
  obtain ⟨bl, off, rfl, hb, hc⟩ := h1 h0
  refine ⟨bl, off, rfl, by omega, fun k hk => ?_⟩
  obtain ⟨c0, c1, c2, c3, c4, pv, lv, c5, hR, c6, hL⟩ := hc k hk
  exact ⟨c0, c1, c2, c3, c4, pv, lv, c5, hR.more hB, c6, hL.more hB⟩

section
variable {H : Type} {enc : TypeId × Value → H} {W : World}
def OData (d : DataW H) (O : List OpD) : Prop :=
  (d = .nil ∧ O = []) ∨ ∃ elems spare, d = .slice elems spare ∧ elems.length = O.length ∧ ∀ i (h : i < O.length), ∃ a b x y z pd ld, elems[i]? = some (.agg [a, b, .agg [x, y, z, pd], ld]) ∧ PData pd O[i].f.path ∧ PData ld O[i].l

theorem Try.c3 : Try.prog.cellsOf 3 = 1 := by kernel_rfl
theorem Try.c4 : Try.prog.cellsOf 4 = 1 := by kernel_rfl
theorem Try.c25 : Try.prog.cellsOf 25 = 4 := by kernel_rfl
theorem Try.c23 : Try.prog.cellsOf 23 = 1 := by kernel_rfl
theorem Try.c49 : Try.prog.cellsOf 49 = 7 := by kernel_rfl

theorem open_op {n : Nat} {cs : List Value} {x : DataW H × List MemPlace} (h : DataW.trod enc Try.prog W 0 (fun _ => true) true n 49 cs = some x) :
    ∃ (o : OpD) (pv lv : Value) (a b p q r pd ld : DataW H), cs = [.int .i64 o.kind, .bool o.two, .int .i64 o.f.node, .bool o.f.whole, .int .i64 o.f.next, pv, lv] ∧ ROld W W.heap.size pv o.f.path ∧ ROld W W.heap.size lv o.l ∧ x.1 = .agg [a, b, .agg [p, q, r, pd], ld] ∧ PData pd o.f.path ∧ PData ld o.l := by
  obtain ⟨ys, n', rfl, rfl, hlen, hyl, hf⟩ := DataW.trod_struct Try.underlying49 h
  rw [Try.c49] at hlen
  match cs, hlen with
  | [v0, v1, v2, v3, v4, v5, v6], _ =>
    match ys, hyl with
    | [y0, y1, y2, y3], _ =>
      have t0 : DataW.trod enc Try.prog W 0 (fun _ => true) true n' 3 (([v0, v1, v2, v3, v4, v5, v6].drop 0).take (Try.prog.cellsOf 3)) = some y0 := hf 0 _ rfl
      have t1 : DataW.trod enc Try.prog W 0 (fun _ => true) true n' 4 (([v0, v1, v2, v3, v4, v5, v6].drop 1).take (Try.prog.cellsOf 4)) = some y1 := hf 1 _ rfl
      have t2 : DataW.trod enc Try.prog W 0 (fun _ => true) true n' 25 (([v0, v1, v2, v3, v4, v5, v6].drop 2).take (Try.prog.cellsOf 25)) = some y2 := hf 2 _ rfl
      have t3 : DataW.trod enc Try.prog W 0 (fun _ => true) true n' 23 (([v0, v1, v2, v3, v4, v5, v6].drop 6).take (Try.prog.cellsOf 23)) = some y3 := hf 3 _ rfl
      have t0' : DataW.trod enc Try.prog W 0 (fun _ => true) true n' 3 [v0] = some y0 := by rw [Try.c3] at t0; exact t0
      have t1' : DataW.trod enc Try.prog W 0 (fun _ => true) true n' 4 [v1] = some y1 := by rw [Try.c4] at t1; exact t1
      have t2' : DataW.trod enc Try.prog W 0 (fun _ => true) true n' 25 [v2, v3, v4, v5] = some y2 := by rw [Try.c25] at t2; exact t2
      have t3' : DataW.trod enc Try.prog W 0 (fun _ => true) true n' 23 [v6] = some y3 := by rw [Try.c23] at t3; exact t3
      obtain ⟨k, e0, _, _⟩ := DataW.trod_int Try.underlying3 t0'
      obtain ⟨b, e1, _⟩ := DataW.trod_bool Try.underlying4 t1'
      obtain ⟨zs, n2, rfl, rfl, hlen2, hzl, hf2⟩ := DataW.trod_struct Try.underlying25 t2'
      match zs, hzl with
      | [z0, z1, z2, z3], _ =>
        have s0 : DataW.trod enc Try.prog W 0 (fun _ => true) true n2 3 (([v2, v3, v4, v5].drop 0).take (Try.prog.cellsOf 3)) = some z0 := hf2 0 _ rfl
        have s1 : DataW.trod enc Try.prog W 0 (fun _ => true) true n2 4 (([v2, v3, v4, v5].drop 1).take (Try.prog.cellsOf 4)) = some z1 := hf2 1 _ rfl
        have s2 : DataW.trod enc Try.prog W 0 (fun _ => true) true n2 3 (([v2, v3, v4, v5].drop 2).take (Try.prog.cellsOf 3)) = some z2 := hf2 2 _ rfl
        have s3 : DataW.trod enc Try.prog W 0 (fun _ => true) true n2 23 (([v2, v3, v4, v5].drop 3).take (Try.prog.cellsOf 23)) = some z3 := hf2 3 _ rfl
        have s0' : DataW.trod enc Try.prog W 0 (fun _ => true) true n2 3 [v2] = some z0 := by rw [Try.c3] at s0; exact s0
        have s1' : DataW.trod enc Try.prog W 0 (fun _ => true) true n2 4 [v3] = some z1 := by rw [Try.c4] at s1; exact s1
        have s2' : DataW.trod enc Try.prog W 0 (fun _ => true) true n2 3 [v4] = some z2 := by rw [Try.c3] at s2; exact s2
        have s3' : DataW.trod enc Try.prog W 0 (fun _ => true) true n2 23 [v5] = some z3 := by rw [Try.c23] at s3; exact s3
        obtain ⟨q, e2, _, _⟩ := DataW.trod_int Try.underlying3 s0'
        obtain ⟨b2, e3, _⟩ := DataW.trod_bool Try.underlying4 s1'
        obtain ⟨q2, e4, _, _⟩ := DataW.trod_int Try.underlying3 s2'
        obtain ⟨pth, hR, hPD⟩ := open_path s3'
        obtain ⟨l, hRl, hLD⟩ := open_path t3'
        simp only [List.cons.injEq, and_true] at e0 e1 e2 e3 e4
        subst e0 e1 e2 e3 e4
        exact ⟨⟨k, b, ⟨q, b2, q2, pth⟩, l⟩, v5, v6, _, _, _, _, _, _, _, rfl, hR, hRl, rfl, hPD, hLD⟩

theorem open_script {v : Value} {d : DataW H} {p : List MemPlace} (hv : ∃ a l c, v = .slice a l c) (h : DataW.Trod enc Try.prog W 0 (fun _ => true) true 45 v d p) :
    ∃ O, OOld W W.heap.size v O ∧ OData d O := by
  obtain ⟨a0, l0, c0, rfl⟩ := hv
  obtain ⟨fuel, hf⟩ := h
  rcases open_slice Try.underlying45 hf with ⟨hcs, hx⟩ | ⟨a, len, cap, m, n, D, Pl, hcs, hb, hl, hm, hmm, hx, hi⟩
  · simp [Value.cells] at hcs
    obtain ⟨rfl, rfl, rfl⟩ := hcs
    exact ⟨[], ⟨none, 0, rfl, fun h => by simp at h⟩, .inl ⟨by simpa using congrArg Prod.fst hx, rfl⟩⟩
  · simp [Value.cells] at hcs
    obtain ⟨rfl, rfl, rfl⟩ := hcs
    have hlm : l0 ≤ m := by split at hmm <;> omega
    obtain ⟨O, hO, hP⟩ := list_of (fun i (o : OpD) => (W.cell? (a.add (i * 7)) = some (.int .i64 o.kind) ∧ W.cell? (a.add (i * 7 + 1)) = some (.bool o.two) ∧ W.cell? (a.add (i * 7 + 2)) = some (.int .i64 o.f.node) ∧ W.cell? (a.add (i * 7 + 3)) = some (.bool o.f.whole) ∧ W.cell? (a.add (i * 7 + 4)) = some (.int .i64 o.f.next) ∧
        ∃ pv lv, W.cell? (a.add (i * 7 + 5)) = some pv ∧ ROld W W.heap.size pv o.f.path ∧ W.cell? (a.add (i * 7 + 6)) = some lv ∧ ROld W W.heap.size lv o.l) ∧
        ∃ a b x y z pd ld, D i = .agg [a, b, .agg [x, y, z, pd], ld] ∧ PData pd o.f.path ∧ PData ld o.l) l0 (fun i hil => by
      obtain ⟨cs', hc, ht'⟩ := hi i (by omega)
      rw [Try.c49] at hc
      obtain ⟨o, pv, lv, e1, e2, e3, e4, e5, e6, e7, rfl, hRp, hRl, hD, hp1, hp2⟩ := open_op ht'
      obtain ⟨_, hcl, hat⟩ := World.cells?_some hc
      have g : ∀ j (u : Value), j < 7 → [Value.int .i64 o.kind, .bool o.two, .int .i64 o.f.node, .bool o.f.whole, .int .i64 o.f.next, pv, lv][j]? = some u → W.cell? (a.add (i * 7 + j)) = some u := by
        intro j u hj hu
        rw [← Go.Deep.add_add, hat j hj, hu]
      exact ⟨o, ⟨g 0 _ (by omega) rfl, g 1 _ (by omega) rfl, g 2 _ (by omega) rfl, g 3 _ (by omega) rfl, g 4 _ (by omega) rfl, pv, lv, g 5 _ (by omega) rfl, hRp, g 6 _ (by omega) rfl, hRl⟩, _, _, _, _, _, _, _, hD, hp1, hp2⟩)
    subst hO
    refine ⟨O, ⟨some a, c0, rfl, fun h0 => ?_⟩, .inr ⟨_, _, congrArg Prod.fst hx, by simp, fun i hi2 => ?_⟩⟩
    · obtain ⟨bl, off, spot⟩ := a
      have hc := (hP 0 h0).1.1
      have hspot : spot = none := by simpa [Addr.add] using World.cell?_spot hc
      subst hspot
      have hb : bl < W.heap.size := by
        have := World.block_lt_of_cell? W _ hc
        simpa [Addr.add_lit] using this
      refine ⟨bl, off, rfl, hb, fun k hk => ?_⟩
      have := (hP k hk).1
      simp only [Addr.add_lit, ← Nat.add_assoc] at this
      exact this
    · obtain ⟨_, a, b, x, y, z, pd, ld, hD, h1, h2⟩ := hP i hi2
      exact ⟨a, b, x, y, z, pd, ld, by rw [← hD]; simp [hi2], h1, h2⟩
end

def sumP (O : List OpD) : Nat := (O.map fun o => o.f.path.length).sum
theorem sumP_take (O : List OpD) (k : Nat) (h : k < O.length) : sumP (O.take (k + 1)) = sumP (O.take k) + O[k].f.path.length := by
  unfold sumP; rw [List.take_succ_eq_append_getElem h, List.map_append, List.sum_append]; simp
theorem sumP_take_le (O : List OpD) (k : Nat) : sumP (O.take k) ≤ sumP O := by
  have h : sumP O = sumP (O.take k) + sumP (O.drop k) := by
    unfold sumP; rw [← List.sum_append, ← List.map_append, List.take_append_drop]
  omega

section
variable {H : Type}
theorem bulk_ops : ∀ (O : List OpD) (elems : List (DataW H)), elems.length = O.length → (∀ i (h : i < O.length), ∃ a b x y z pd ld, elems[i]? = some (.agg [a, b, .agg [x, y, z, pd], ld]) ∧ PData pd O[i].f.path ∧ PData ld O[i].l) → O.length + sumP O ≤ Rows.uptoBulkAll elems ∧ ∀ o ∈ O, o.l.length ≤ Rows.uptoBulkAll elems
  | [], _, _, _ => by simp [sumP]
  | o :: r, [], h, _ => by simp at h
  | o :: r, d :: es, h, hi => by
    have ih := bulk_ops r es (by simpa using h) (fun i hi2 => by
      obtain ⟨a, b, x, y, z, pd, ld, he, hp, hl⟩ := hi (i + 1) (by simp; omega)
      exact ⟨a, b, x, y, z, pd, ld, by simpa using he, by simpa using hp, by simpa using hl⟩)
    obtain ⟨a, b, x, y, z, pd, ld, he, hp, hl⟩ := hi 0 (by simp)
    obtain rfl : d = .agg [a, b, .agg [x, y, z, pd], ld] := by simpa using he
    have hb := bulk_path hp
    have hb2 := bulk_path hl
    simp only [List.getElem_cons_zero] at hb hb2
    have hsum : sumP (o :: r) = o.f.path.length + sumP r := by simp [sumP]
    rw [hsum]
    simp only [Rows.uptoBulkAll, Rows.uptoBulk, List.length_cons]
    refine ⟨by omega, fun o' ho' => ?_⟩
    rcases List.mem_cons.1 ho' with e | hm
    · subst e; omega
    · have := ih.2 o' hm; omega
theorem bulk_script {d : DataW H} {O : List OpD} (h : OData d O) : O.length + sumP O ≤ Rows.uptoBulk d ∧ ∀ o ∈ O, o.l.length ≤ Rows.uptoBulk d := by
  rcases h with ⟨_, rfl⟩ | ⟨elems, spare, rfl, hl, hi⟩
  · simp [sumP]
  · have := bulk_ops O elems hl hi
    simp only [Rows.uptoBulk]
    exact ⟨by omega, fun o ho => by have := this.2 o ho; omega⟩
end
end Go.Proofs.Ythfhjopofpffgaa

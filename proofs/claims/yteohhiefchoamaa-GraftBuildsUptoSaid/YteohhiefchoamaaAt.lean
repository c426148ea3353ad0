/-
  The walks of heap.own and At.
-/
import Derived.Test.YteohhiefchoamaaFresh
namespace Go.Proofs.Yteohhiefchoamaa
open Go.RowKit

theorem nall_at : ∀ (N : List NV) (i : Nat) (h : i < N.length), (nall N)[i * 5]? = some (.int .i64 N[i].1.sym) ∧ (nall N)[i * 5 + 1]? = some N[i].2 ∧ (nall N)[i * 5 + 2]? = some (.int .i64 N[i].1.mark) ∧ (nall N)[i * 5 + 3]? = some (.bool N[i].1.points) ∧ (nall N)[i * 5 + 4]? = some (.int .i64 N[i].1.to)
  | [], i, h => by simp at h
  | x :: r, 0, h => by simp [nall, ncells]
  | x :: r, i + 1, h => by
    have ih := nall_at r i (by simpa using h)
    have e : ∀ (y : NV) (q : List NV), nall (y :: q) = .int .i64 y.1.sym :: y.2 :: .int .i64 y.1.mark :: .bool y.1.points :: .int .i64 y.1.to :: nall q := fun y q => by simp [nall, ncells]
    rw [e, show (i + 1) * 5 = i * 5 + 1 + 1 + 1 + 1 + 1 from by omega]
    simp only [List.getElem?_cons_succ, List.getElem_cons_succ]
    exact ih
theorem ArgAt.rd {w : World} {v : Value} {l : List Int} (h : ArgAt w v l) : Rd w v l := by
  rcases h with ⟨rfl, rfl⟩ | ⟨g, rfl, hb⟩
  · exact ⟨none, 0, rfl, fun h => by simp at h⟩
  · refine ⟨_, _, rfl, fun h0 => ⟨g, 0, rfl, fun k hk => ?_⟩⟩
    rw [hb.cell]
    simp [nInts, hk]
theorem ArgAt.turned {w w' : World} {S : Nat → Prop} {v : Value} {l : List Int} (h : ArgAt w v l) (ht : Turned S w w') (hS : ∀ k, v.ownBlock = some k → ¬ S k) : ArgAt w' v l := by
  rcases h with h | ⟨g, rfl, hb⟩
  · exact .inl h
  · exact .inr ⟨g, rfl, hb.turned ht (hS g rfl)⟩
theorem HeapAt.same {w w' : World} {b : Nat} {room : Int} {v : Value} {N : List NV} (h : HeapAt w b room v N) (ht : Same w w') : HeapAt w' b room v N :=
  ⟨h.blk.turned ht (fun h => h), World.ownsRow.turned h.own ht (fun _ _ h => h), fun x hx => (h.args x hx).turned ht (fun _ _ h => h)⟩
theorem HeapAt.at_ {w : World} {b : Nat} {room : Int} {a : Option Addr} {c : Nat} {N : List NV} (h : HeapAt w b room (.slice a N.length c) N) (k : Nat) (hk : k < N.length) :
    ∃ g, a = some ⟨g, 0, none⟩ ∧ w.cell? ⟨g, k * 5, none⟩ = some (.int .i64 N[k].1.sym) ∧ w.cell? ⟨g, k * 5 + 1, none⟩ = some N[k].2 ∧ w.cell? ⟨g, k * 5 + 2, none⟩ = some (.int .i64 N[k].1.mark) ∧ w.cell? ⟨g, k * 5 + 3, none⟩ = some (.bool N[k].1.points) ∧ w.cell? ⟨g, k * 5 + 4, none⟩ = some (.int .i64 N[k].1.to) := by
  obtain ⟨g, cap, hv, _, hg⟩ := h.own.form (by omega)
  obtain ⟨rfl, rfl⟩ : a = some ⟨g, 0, none⟩ ∧ c = cap := by simpa using hv
  have hc := h.own.cells (g := g) rfl
  obtain ⟨e0, e1, e2, e3, e4⟩ := nall_at N k hk
  have d0 := hc _ _ e0
  have d1 := hc _ _ e1
  have d2 := hc _ _ e2
  have d3 := hc _ _ e3
  have d4 := hc _ _ e4
  simp only [Addr.add_lit, Nat.zero_add] at d0 d1 d2 d3 d4
  exact ⟨g, rfl, d0, d1, d2, d3, d4⟩

theorem Rd.same_ {w w' : World} {v : Value} {p : List Int} (h : Rd w v p) (ht : Same w w') : Rd w' v p := by
  obtain ⟨A, c, rfl, h1⟩ := h
  refine ⟨A, c, rfl, fun h0 => ?_⟩
  obtain ⟨bl, off, rfl, hc⟩ := h1 h0
  exact ⟨bl, off, rfl, fun k hk => (ht.cell (p := ⟨bl, off + k, none⟩) (World.block_lt_of_cell? w _ (hc k hk)) (fun h => h)).trans (hc k hk)⟩
abbrev nval (x : Nd) (v : Value) : Value := .agg #[.int .i64 x.sym, v, .int .i64 x.mark, .bool x.points, .int .i64 x.to]
set_option maxHeartbeats 1000000 in
theorem nown_any (w : World) (x : Nd) (v : Value) (hR : Rd w v x.args) (hl : x.args.length ≤ 17592186044416) :
    Calls Try.prog 68 #[nval x v] w fun e w' => ∃ g, e = .returned (nval x (.slice (some ⟨g, 0, none⟩) x.args.length x.args.length)) ∧ Blk w' g 3 (nInts x.args).toArray ∧ Same w w' ∧ w.heap.size ≤ g := by
  have HR := Lib.hid hR
  obtain ⟨A, c, rfl, _⟩ := hR
  obtain ⟨sy, ar, mk, pt, to⟩ := x
  show Calls Try.prog 68 #[.agg #[.int .i64 sy, .slice A ar.length c, .int .i64 mk, .bool pt, .int .i64 to]] w _
  go_enter Try.func68, Try.ntmps68
  go_wp2_with fail
  have hs2 : Same w ((w.alloc (Obj.cells #[Value.int IntKind.i64 sy, Value.slice A ar.length c, Value.int IntKind.i64 mk, Value.bool pt, Value.int IntKind.i64 to] 53)).alloc (Obj.cells #[Value.int IntKind.i64 0, Value.slice none 0 0, Value.int IntKind.i64 0, Value.bool false, Value.int IntKind.i64 0] 53)) := ((Turned.refl _ _).alloc _).alloc _
  have hB1 : Blk ((w.alloc (Obj.cells #[Value.int IntKind.i64 sy, Value.slice A ar.length c, Value.int IntKind.i64 mk, Value.bool pt, Value.int IntKind.i64 to] 53)).alloc (Obj.cells #[Value.int IntKind.i64 0, Value.slice none 0 0, Value.int IntKind.i64 0, Value.bool false, Value.int IntKind.i64 0] 53)) w.heap.size 53 #[Value.int IntKind.i64 sy, Value.slice A ar.length c, Value.int IntKind.i64 mk, Value.bool pt, Value.int IntKind.i64 to] := (Blk.new w 53 _).alloc _
  have hB2 : Blk ((w.alloc (Obj.cells #[Value.int IntKind.i64 sy, Value.slice A ar.length c, Value.int IntKind.i64 mk, Value.bool pt, Value.int IntKind.i64 to] 53)).alloc (Obj.cells #[Value.int IntKind.i64 0, Value.slice none 0 0, Value.int IntKind.i64 0, Value.bool false, Value.int IntKind.i64 0] 53)) (w.heap.size + 1) 53 #[Value.int IntKind.i64 0, Value.slice none 0 0, Value.int IntKind.i64 0, Value.bool false, Value.int IntKind.i64 0] := by
    have h := Blk.new (w.alloc (Obj.cells #[Value.int IntKind.i64 sy, Value.slice A ar.length c, Value.int IntKind.i64 mk, Value.bool pt, Value.int IntKind.i64 to] 53)) 53 #[Value.int IntKind.i64 0, Value.slice none 0 0, Value.int IntKind.i64 0, Value.bool false, Value.int IntKind.i64 0]
    simpa using h
  have hsz2 := hB2.lt
  generalize ((w.alloc (Obj.cells #[Value.int IntKind.i64 sy, Value.slice A ar.length c, Value.int IntKind.i64 mk, Value.bool pt, Value.int IntKind.i64 to] 53)).alloc (Obj.cells #[Value.int IntKind.i64 0, Value.slice none 0 0, Value.int IntKind.i64 0, Value.bool false, Value.int IntKind.i64 0] 53)) = w2 at hs2 hB1 hB2 hsz2 ⊢
  refine (fresh_any w2 _ ar (HR.out.same_ hs2) hl).mono ?_
  rintro e w3 ⟨g, rfl, hg, hs3, hgn⟩
  have h1 := hB1.turned hs3 (fun h => h)
  have h2 := hB2.turned hs3 (fun h => h)
  have p0 := h1.cell 0; have p1 := h1.cell 1; have p2 := h1.cell 2; have p3 := h1.cell 3; have p4 := h1.cell 4
  have q0 := h2.cell 0; have q1 := h2.cell 1; have q2 := h2.cell 2; have q3 := h2.cell 3; have q4 := h2.cell 4
  have f1 := fun i => h1.frozen i
  have f2 := fun i => h2.frozen i
  simp at p0 p1 p2 p3 p4 q0 q1 q2 q3 q4
  have HG := Lib.hid hg; have HS3 := Lib.hid (hs2.trans hs3 (fun _ h => h.elim)); have HGn := Lib.hid hgn; have H2 := Lib.hid h2; have HS2 := Lib.hid hs2; have HSz := Lib.hid (show w.heap.size + 2 ≤ w2.heap.size from hsz2)
  clear hg hs3 hgn h1 h2 hB1 hB2 hs2 hsz2
  go_wp2
  have E2 : Blk ((((((w3.setCell ⟨w.heap.size, 1, none⟩ (.slice (some ⟨g, 0, none⟩) ar.length ar.length)).setCell ⟨w.heap.size + 1, 0, none⟩ (.int .i64 sy)).setCell ⟨w.heap.size + 1, 1, none⟩ (.slice (some ⟨g, 0, none⟩) ar.length ar.length)).setCell ⟨w.heap.size + 1, 2, none⟩ (.int .i64 mk)).setCell ⟨w.heap.size + 1, 3, none⟩ (.bool pt)).setCell ⟨w.heap.size + 1, 4, none⟩ (.int .i64 to)) (w.heap.size + 1) 53 #[.int .i64 sy, .slice (some ⟨g, 0, none⟩) ar.length ar.length, .int .i64 mk, .bool pt, .int .i64 to] := (((((H2.out.far (p := ⟨w.heap.size, 1, none⟩) (by simp) _).set_ 0 _).set_ 1 _).set_ 2 _).set_ 3 _).set_ 4 _
  have hsz := HS2.out.size
  have hgl := HGn.out
  have hg2 : w.heap.size + 2 ≤ w2.heap.size := HSz.out
  have E3 : Blk ((((((w3.setCell ⟨w.heap.size, 1, none⟩ (.slice (some ⟨g, 0, none⟩) ar.length ar.length)).setCell ⟨w.heap.size + 1, 0, none⟩ (.int .i64 sy)).setCell ⟨w.heap.size + 1, 1, none⟩ (.slice (some ⟨g, 0, none⟩) ar.length ar.length)).setCell ⟨w.heap.size + 1, 2, none⟩ (.int .i64 mk)).setCell ⟨w.heap.size + 1, 3, none⟩ (.bool pt)).setCell ⟨w.heap.size + 1, 4, none⟩ (.int .i64 to)) g 3 (nInts ar).toArray := (((((HG.out.far (p := ⟨w.heap.size, 1, none⟩) (by simp; omega) _).far (p := ⟨w.heap.size + 1, 0, none⟩) (by simp; omega) _).far (p := ⟨w.heap.size + 1, 1, none⟩) (by simp; omega) _).far (p := ⟨w.heap.size + 1, 2, none⟩) (by simp; omega) _).far (p := ⟨w.heap.size + 1, 3, none⟩) (by simp; omega) _).far (p := ⟨w.heap.size + 1, 4, none⟩) (by simp; omega) _
  have E4 : Same w ((((((w3.setCell ⟨w.heap.size, 1, none⟩ (.slice (some ⟨g, 0, none⟩) ar.length ar.length)).setCell ⟨w.heap.size + 1, 0, none⟩ (.int .i64 sy)).setCell ⟨w.heap.size + 1, 1, none⟩ (.slice (some ⟨g, 0, none⟩) ar.length ar.length)).setCell ⟨w.heap.size + 1, 2, none⟩ (.int .i64 mk)).setCell ⟨w.heap.size + 1, 3, none⟩ (.bool pt)).setCell ⟨w.heap.size + 1, 4, none⟩ (.int .i64 to)) := (((((HS3.out.setCell (p := ⟨w.heap.size, 1, none⟩) (.inr (by simp)) _).setCell (p := ⟨w.heap.size + 1, 0, none⟩) (.inr (by simp)) _).setCell (p := ⟨w.heap.size + 1, 1, none⟩) (.inr (by simp)) _).setCell (p := ⟨w.heap.size + 1, 2, none⟩) (.inr (by simp)) _).setCell (p := ⟨w.heap.size + 1, 3, none⟩) (.inr (by simp)) _).setCell (p := ⟨w.heap.size + 1, 4, none⟩) (.inr (by simp)) _
  have e0 := E2.cell 0; have e1 := E2.cell 1; have e2 := E2.cell 2; have e3 := E2.cell 3; have e4 := E2.cell 4
  refine bodyPost_ret (v := nval ⟨sy, ar, mk, pt, to⟩ (.slice (some ⟨g, 0, none⟩) ar.length ar.length)) ?_ rfl ⟨g, rfl, E3, E4, by omega⟩
  generalize ((((((w3.setCell ⟨w.heap.size, 1, none⟩ (.slice (some ⟨g, 0, none⟩) ar.length ar.length)).setCell ⟨w.heap.size + 1, 0, none⟩ (.int .i64 sy)).setCell ⟨w.heap.size + 1, 1, none⟩ (.slice (some ⟨g, 0, none⟩) ar.length ar.length)).setCell ⟨w.heap.size + 1, 2, none⟩ (.int .i64 mk)).setCell ⟨w.heap.size + 1, 3, none⟩ (.bool pt)).setCell ⟨w.heap.size + 1, 4, none⟩ (.int .i64 to)) = WW at e0 e1 e2 e3 e4
  simp at e0 e1 e2 e3 e4
  simp [results, Try.results68, go_sem, e0, e1, e2, e3, e4]
end Go.Proofs.Yteohhiefchoamaa

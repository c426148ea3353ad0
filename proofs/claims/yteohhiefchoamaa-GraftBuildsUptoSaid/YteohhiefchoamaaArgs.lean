/-
  Arguments opened: symbols, lists of numbers, nodes; what the form's reach says of them.
-/
import Derived.Test.YteohhiefchoamaaSameN
import Derived.Test.YteohhiefchoamaaOpen
import Derived.ProofKit
import Derived.SizedLaws
namespace Go.Proofs.Yteohhiefchoamaa
open Go.ChangeShapes Go.WideShapes Go.ChangeAt Go.RowKit Go.Deep

section
variable {H : Type} {enc : TypeId × Value → H} {W : World}

def PData (d : DataW H) (p : List Int) : Prop := (d = .nil ∧ p = []) ∨ ∃ pe ps, d = .slice pe ps ∧ pe.length = p.length
def NData (d : DataW H) (X : List Nd) : Prop :=
  (d = .nil ∧ X = []) ∨ ∃ elems spare, d = .slice elems spare ∧ elems.length = X.length ∧ ∀ i (h : i < X.length), ∃ a b c e pd, elems[i]? = some (.agg [a, pd, b, c, e]) ∧ PData pd X[i].args

theorem open_pathT {T : TypeId} (hT : Try.prog.underlying T = some (.slice 3)) {v : Value} {n : Nat} {y : DataW H × List MemPlace} (h : DataW.trod enc Try.prog W 0 (fun _ => true) true n T [v] = some y) : ∃ p, Rd W v p ∧ PData y.1 p := by
  rcases open_ints hT Try.underlying3 (by kernel_rfl) h with ⟨hcs, hx⟩ | ⟨a, len, cap, zs, hcs, _, hl, hm, hz, hx, hcell, hwz⟩
  · simp at hcs
    subst hcs
    exact ⟨[], ⟨none, 0, rfl, fun h => by simp at h⟩, .inl ⟨by rw [hx], rfl⟩⟩
  · simp at hcs
    subst hcs
    have hlz : (zs.take len).length = len := by simp at hz ⊢; omega
    refine ⟨zs.take len, ⟨some a, cap, by rw [hlz], fun h0 => ?_⟩, .inr ⟨_, _, by rw [hx], by simp [lits]⟩⟩
    obtain ⟨bl, off, spot⟩ := a
    have hzl : 0 < zs.length := by simp at hz; omega
    have hc := hcell 0 hzl
    have hspot : spot = none := by simpa [Addr.add] using World.cell?_spot hc
    subst hspot
    refine ⟨bl, off, rfl, fun k hk => ?_⟩
    have hk2 : k < zs.length := by rw [hlz] at hk; simp at hz; omega
    have := hcell k hk2
    rw [Addr.add_lit] at this
    rw [this]
    simp [hk2]

/-- An argument of type []api.Symbol, as the walk wants it. -/
theorem open_syms {v : Value} {d : DataW H} {p : List MemPlace} (hv : ∃ a l c, v = .slice a l c) (h : DataW.Trod enc Try.prog W 0 (fun _ => true) true 22 v d p) :
    ∃ (X : List Sym), SymRd W v X ∧ (∀ x ∈ X, x.name.size ≤ maxLen) ∧ (d = .nil ∧ X.length = 0 ∨ ∃ elems spare, d = .slice elems spare ∧ X.length ≤ elems.length + spare.length) := by
  obtain ⟨a0, l0, c0, rfl⟩ := hv
  obtain ⟨fuel, hf⟩ := h
  rcases open_rows Try.underlying22 Try.underlying84 (by kernel_rfl) (by kernel_rfl) hf with ⟨hcs, hx⟩ | ⟨a, len, cap, m, D, hcs, hl, hm, hlm, hmc, hx, hi⟩
  · simp [Value.cells] at hcs
    obtain ⟨rfl, rfl, rfl⟩ := hcs
    exact ⟨[], ⟨none, 0, rfl, fun h0 => by simp at h0⟩, fun x hx => by simp at hx, .inl ⟨by simpa using congrArg Prod.fst hx, rfl⟩⟩
  · simp [Value.cells] at hcs
    obtain ⟨rfl, rfl, rfl⟩ := hcs
    obtain ⟨X, hX, hP⟩ := list_of (fun i (x : Sym) => x.name.size ≤ maxLen ∧ W.cell? (a.add (i * 3)) = some (.string x.name) ∧ W.cell? (a.add (i * 3 + 1)) = some (.int .i64 x.arity) ∧ W.cell? (a.add (i * 3 + 2)) = some (.bool x.defd)) l0 (fun i hil => by
      obtain ⟨ys, n, _, _, hj⟩ := hi i (by omega)
      obtain ⟨v0, y0, hc0, _, t0⟩ := hj 0 _ rfl
      obtain ⟨v1, y1, hc1, _, t1⟩ := hj 1 _ rfl
      obtain ⟨v2, y2, hc2, _, t2⟩ := hj 2 _ rfl
      obtain ⟨s, e0, _, hs⟩ := DataW.trod_string Try.underlying9 t0
      obtain ⟨q, e1, _, _⟩ := DataW.trod_int Try.underlying3 t1
      obtain ⟨b, e2, _⟩ := DataW.trod_bool Try.underlying4 t2
      simp at e0 e1 e2
      subst e0 e1 e2
      exact ⟨⟨s, q, b⟩, hs, hc0, hc1, hc2⟩)
    subst hX
    refine ⟨X, ⟨some a, c0, rfl, fun h0 => ?_⟩, fun x hx => ?_, .inr ⟨_, _, hx, by simp⟩⟩
    · obtain ⟨bl, off, spot⟩ := a
      have hc := (hP 0 h0).2.1
      have hspot : spot = none := by simpa [Addr.add] using World.cell?_spot hc
      subst hspot
      refine ⟨bl, off, rfl, fun k hk => ?_⟩
      have := hP k hk
      simp only [Addr.add_lit, ← Nat.add_assoc] at this
      exact this.2
    · obtain ⟨i, hi2, rfl⟩ := List.mem_iff_getElem.1 hx
      exact (hP i hi2).1

/-- An argument of type []api.Node. -/
theorem open_nodes {v : Value} {d : DataW H} {p : List MemPlace} (hv : ∃ a l c, v = .slice a l c) (h : DataW.Trod enc Try.prog W 0 (fun _ => true) true 23 v d p) :
    ∃ X, NdRd W v X ∧ NData d X := by
  obtain ⟨a0, l0, c0, rfl⟩ := hv
  obtain ⟨fuel, hf⟩ := h
  rcases open_rows Try.underlying23 Try.underlying53 (by kernel_rfl) (by kernel_rfl) hf with ⟨hcs, hx⟩ | ⟨a, len, cap, m, D, hcs, hl, hm, hlm, hmc, hx, hi⟩
  · simp [Value.cells] at hcs
    obtain ⟨rfl, rfl, rfl⟩ := hcs
    exact ⟨[], ⟨none, 0, rfl, fun h => by simp at h⟩, .inl ⟨by simpa using congrArg Prod.fst hx, rfl⟩⟩
  · simp [Value.cells] at hcs
    obtain ⟨rfl, rfl, rfl⟩ := hcs
    obtain ⟨X, hX, hP⟩ := list_of (fun i (x : Nd) => (∃ pv, W.cell? (a.add (i * 5)) = some (.int .i64 x.sym) ∧ W.cell? (a.add (i * 5 + 1)) = some pv ∧ W.cell? (a.add (i * 5 + 2)) = some (.int .i64 x.mark) ∧ W.cell? (a.add (i * 5 + 3)) = some (.bool x.points) ∧ W.cell? (a.add (i * 5 + 4)) = some (.int .i64 x.to) ∧ Rd W pv x.args) ∧
        ∃ y0 y1 y2 y3 pd, D i = .agg [y0, pd, y1, y2, y3] ∧ PData pd x.args) l0 (fun i hil => by
      obtain ⟨ys, n, hD, hyl, hj⟩ := hi i (by omega)
      obtain ⟨v0, y0, hc0, g0, t0⟩ := hj 0 _ rfl
      obtain ⟨v1, y1, hc1, g1, t1⟩ := hj 1 _ rfl
      obtain ⟨v2, y2, hc2, g2, t2⟩ := hj 2 _ rfl
      obtain ⟨v3, y3, hc3, g3, t3⟩ := hj 3 _ rfl
      obtain ⟨v4, y4, hc4, g4, t4⟩ := hj 4 _ rfl
      obtain ⟨q0, e0, _, _⟩ := DataW.trod_int Try.underlying3 t0
      obtain ⟨pth, hR, hPD⟩ := open_pathT Try.underlying26 t1
      obtain ⟨q2, e2, _, _⟩ := DataW.trod_int Try.underlying3 t2
      obtain ⟨b, e3, _⟩ := DataW.trod_bool Try.underlying4 t3
      obtain ⟨q4, e4, _, _⟩ := DataW.trod_int Try.underlying3 t4
      simp at e0 e2 e3 e4
      subst e0 e2 e3 e4
      match ys, hyl with
      | [z0, z1, z2, z3, z4], _ =>
        simp at g1
        subst g1
        exact ⟨⟨q0, pth, q2, b, q4⟩, ⟨v1, hc0, hc1, hc2, hc3, hc4, hR⟩, _, _, _, _, _, by rw [hD]; rfl, hPD⟩)
    subst hX
    refine ⟨X, ⟨some a, c0, rfl, fun h0 => ?_⟩, .inr ⟨_, _, hx, by simp, fun i hi2 => ?_⟩⟩
    · obtain ⟨bl, off, spot⟩ := a
      obtain ⟨pv, hc, _⟩ := (hP 0 h0).1
      have hspot : spot = none := by simpa [Addr.add] using World.cell?_spot hc
      subst hspot
      refine ⟨bl, off, rfl, fun k hk => ?_⟩
      obtain ⟨pv, this⟩ := (hP k hk).1
      simp only [Addr.add_lit, ← Nat.add_assoc] at this
      exact ⟨pv, this⟩
    · obtain ⟨_, y0, y1, y2, y3, pd, hD, hPD⟩ := hP i hi2
      exact ⟨y0, y1, y2, y3, pd, by rw [← hD]; simp [hi2], hPD⟩
end

section
variable {H : Type}
theorem weightsAll_mem {P : Program} {e : TypeId} : ∀ {l : List (DataW H)} {i : Nat} {d : DataW H}, l[i]? = some d → ∀ n ∈ d.weights P e, n ∈ DataW.weightsAll P e l
  | d0 :: r, 0, d, h, n, hn => by
    obtain rfl : d0 = d := by simpa using h
    simp only [DataW.weightsAll, List.mem_append]; exact .inl hn
  | d0 :: r, i + 1, d, h, n, hn => by
    simp only [DataW.weightsAll, List.mem_append]
    exact .inr (weightsAll_mem (by simpa using h) n hn)

theorem Try.bytes53 : Try.checked.prog.bytesOf 53 = 56 := by kernel_rfl
theorem Try.bytes84 : Try.checked.prog.bytesOf 84 = 32 := by kernel_rfl
theorem Try.bytes3 : Try.checked.prog.bytesOf 3 = 8 := by kernel_rfl

theorem path_reachT {T : TypeId} (hT : Try.checked.prog.underlying T = some (.slice 3)) {d : DataW H} {p : List Int} (h : PData d p) (B : Nat) (hw : ∀ n ∈ d.weights Try.checked.prog T, n ≤ B) : p.length * 8 ≤ B := by
  rcases h with ⟨_, rfl⟩ | ⟨pe, ps, rfl, hl⟩
  · simp
  · have := hw ((pe.length + ps.length) * Try.checked.prog.bytesOf 3) (by simp [DataW.weights, hT])
    rw [Try.bytes3] at this
    omega
theorem syms_reach {d : DataW H} {X : List Sym} (h : d = .nil ∧ X.length = 0 ∨ ∃ elems spare, d = .slice elems spare ∧ X.length ≤ elems.length + spare.length) (B : Nat) (hw : ∀ n ∈ d.weights Try.checked.prog 22, n ≤ B) : X.length * 32 ≤ B := by
  have hu : Try.checked.prog.underlying 22 = some (.slice 84) := Try.underlying22
  rcases h with ⟨_, h⟩ | ⟨elems, spare, rfl, hl⟩
  · rw [h]; simp
  · have := hw ((elems.length + spare.length) * Try.checked.prog.bytesOf 84) (by simp [DataW.weights, hu])
    rw [Try.bytes84] at this
    omega
theorem nodes_reach {d : DataW H} {X : List Nd} (h : NData d X) (B : Nat) (hw : ∀ n ∈ d.weights Try.checked.prog 23, n ≤ B) : X.length * 56 ≤ B ∧ ∀ x ∈ X, x.args.length * 8 ≤ B := by
  have hu : Try.checked.prog.underlying 23 = some (.slice 53) := Try.underlying23
  rcases h with ⟨_, rfl⟩ | ⟨elems, spare, rfl, hl, hi⟩
  · exact ⟨by simp, fun x hx => by simp at hx⟩
  · constructor
    · have := hw ((elems.length + spare.length) * Try.checked.prog.bytesOf 53) (by simp [DataW.weights, hu])
      rw [Try.bytes53] at this
      omega
    · intro x hx
      obtain ⟨i, hi2, rfl⟩ := List.mem_iff_getElem.1 hx
      obtain ⟨a, b, c, e, pd, he, hPD⟩ := hi i hi2
      refine path_reachT (T := 26) Try.underlying26 hPD B (fun n hn => hw n ?_)
      have h1 := weightsAll_mem (P := Try.checked.prog) (e := 53) he n (by
        have hs : ∃ f0 f1 f2 f3 f4, Try.checked.prog.underlying 53 = some (.struct #[f0, f1, f2, f3, f4]) ∧ f1.type = 26 := ⟨_, _, _, _, _, Try.underlying53, rfl⟩
        obtain ⟨f0, f1, f2, f3, f4, hs, h3⟩ := hs
        simp only [DataW.weights, hs]
        simp [DataW.weightsEach, h3, hn])
      simp only [DataW.weights, hu, List.mem_cons, List.mem_append]
      exact .inr (.inl h1)
end
end Go.Proofs.Yteohhiefchoamaa

/-
  Arguments opened: lists of numbers, lists of frames; what the form's reach, and the bulk, say of them.
-/
import Derived.Test.YthfhjopofpffgaaFill
import Derived.Test.YthfhjopofpffgaaOpen
import Derived.ProofKit
import Derived.SizedLaws
namespace Go.Proofs.Ythfhjopofpffgaa
open Go.ChangeShapes Go.WideShapes Go.ChangeAt Go.RowKit Go.Deep

section
variable {H : Type} {enc : TypeId × Value → H} {W : World}

def PData (d : DataW H) (p : List Int) : Prop := (d = .nil ∧ p = []) ∨ ∃ pe ps, d = .slice pe ps ∧ pe.length = p.length
def FData (d : DataW H) (X : List Fr) : Prop :=
  (d = .nil ∧ X = []) ∨ ∃ elems spare, d = .slice elems spare ∧ elems.length = X.length ∧ ∀ i (h : i < X.length), ∃ a b c pd, elems[i]? = some (.agg [a, b, c, pd]) ∧ PData pd X[i].path

theorem open_path {v : Value} {n : Nat} {y : DataW H × List MemPlace} (h : DataW.trod enc Try.prog W 0 (fun _ => true) true n 23 [v] = some y) : ∃ p, ROld W W.heap.size v p ∧ PData y.1 p := by
  rcases open_ints Try.underlying23 Try.underlying3 (by kernel_rfl) h with ⟨hcs, hx⟩ | ⟨a, len, cap, zs, hcs, _, hl, hm, hz, hx, hcell, hwz⟩
  · simp at hcs
    subst hcs
    exact ⟨[], ⟨none, 0, rfl, fun h => by simp at h⟩, .inl ⟨by rw [hx], rfl⟩⟩
  · simp at hcs
    subst hcs
    have hlz : (zs.take len).length = len := by simp at hz ⊢; omega
    refine ⟨zs.take len, ⟨some a, cap, by rw [hlz], fun h0 => ?_⟩, .inr ⟨_, _, by rw [hx], by simp [lits]⟩⟩
    obtain ⟨bl, off, spot⟩ := a
    have hzl : 0 < zs.length := by simp at hz; omega
    have hc := hcell 0 hzl
    have hspot : spot = none := by simpa [Addr.add] using World.cell?_spot hc
    subst hspot
    have hb : bl < W.heap.size := by
      have := World.block_lt_of_cell? W _ hc
      simpa [Addr.add_lit] using this
    refine ⟨bl, off, rfl, hb, fun k hk => ?_⟩
    have hk2 : k < zs.length := by rw [hlz] at hk; simp at hz; omega
    have := hcell k hk2
    rw [Addr.add_lit] at this
    rw [this]
    simp [hk2]

theorem open_frames {v : Value} {d : DataW H} {p : List MemPlace} (hv : ∃ a l c, v = .slice a l c) (h : DataW.Trod enc Try.prog W 0 (fun _ => true) true 22 v d p) :
    ∃ X, FOld W W.heap.size v X ∧ FData d X := by
  obtain ⟨a0, l0, c0, rfl⟩ := hv
  obtain ⟨fuel, hf⟩ := h
  rcases open_rows Try.underlying22 Try.underlying25 (by kernel_rfl) (by kernel_rfl) hf with ⟨hcs, hx⟩ | ⟨a, len, cap, m, D, hcs, hl, hm, hlm, hmc, hx, hi⟩
  · simp [Value.cells] at hcs
    obtain ⟨rfl, rfl, rfl⟩ := hcs
    exact ⟨[], ⟨none, 0, rfl, fun h => by simp at h⟩, .inl ⟨by simpa using congrArg Prod.fst hx, rfl⟩⟩
  · simp [Value.cells] at hcs
    obtain ⟨rfl, rfl, rfl⟩ := hcs
    obtain ⟨X, hX, hP⟩ := list_of (fun i (x : Fr) => (W.cell? (a.add (i * 4)) = some (.int .i64 x.node) ∧ W.cell? (a.add (i * 4 + 1)) = some (.bool x.whole) ∧ W.cell? (a.add (i * 4 + 2)) = some (.int .i64 x.next) ∧ ∃ pv, W.cell? (a.add (i * 4 + 3)) = some pv ∧ ROld W W.heap.size pv x.path) ∧
        ∃ y0 y1 y2 pd, D i = .agg [y0, y1, y2, pd] ∧ PData pd x.path) l0 (fun i hil => by
      obtain ⟨ys, n, hD, hyl, hj⟩ := hi i (by omega)
      obtain ⟨v0, y0, hc0, g0, t0⟩ := hj 0 _ rfl
      obtain ⟨v1, y1, hc1, g1, t1⟩ := hj 1 _ rfl
      obtain ⟨v2, y2, hc2, g2, t2⟩ := hj 2 _ rfl
      obtain ⟨v3, y3, hc3, g3, t3⟩ := hj 3 _ rfl
      obtain ⟨q, e0, _, _⟩ := DataW.trod_int Try.underlying3 t0
      obtain ⟨b, e1, _⟩ := DataW.trod_bool Try.underlying4 t1
      obtain ⟨q2, e2, _, _⟩ := DataW.trod_int Try.underlying3 t2
      obtain ⟨pth, hR, hPD⟩ := open_path t3
      simp at e0 e1 e2
      subst e0 e1 e2
      match ys, hyl with
      | [z0, z1, z2, z3], _ =>
        simp at g3
        subst g3
        exact ⟨⟨q, b, q2, pth⟩, ⟨hc0, hc1, hc2, v3, hc3, hR⟩, _, _, _, _, by rw [hD]; rfl, hPD⟩)
    subst hX
    refine ⟨X, ⟨some a, c0, rfl, fun h0 => ?_⟩, .inr ⟨_, _, hx, by simp, fun i hi2 => ?_⟩⟩
    · obtain ⟨bl, off, spot⟩ := a
      have hc := (hP 0 h0).1.1
      have hspot : spot = none := by simpa [Addr.add] using World.cell?_spot hc
      subst hspot
      have hb : bl < W.heap.size := by
        have := World.block_lt_of_cell? W _ hc
        simpa [Addr.add_lit] using this
      refine ⟨bl, off, rfl, hb, fun k hk => ?_⟩
      have := (hP k hk).1
      simp only [Addr.add_lit, ← Nat.add_assoc] at this
      exact this
    · obtain ⟨_, y0, y1, y2, pd, hD, hPD⟩ := hP i hi2
      exact ⟨y0, y1, y2, pd, by rw [← hD]; simp [hi2], hPD⟩
end

section
variable {H : Type}
theorem weightsAll_mem {P : Program} {e : TypeId} : ∀ {l : List (DataW H)} {i : Nat} {d : DataW H}, l[i]? = some d → ∀ n ∈ d.weights P e, n ∈ DataW.weightsAll P e l
  | d0 :: r, 0, d, h, n, hn => by
    obtain rfl : d0 = d := by simpa using h
    simp only [DataW.weightsAll, List.mem_append]; exact .inl hn
  | d0 :: r, i + 1, d, h, n, hn => by
    simp only [DataW.weightsAll, List.mem_append]
    exact .inr (weightsAll_mem (by simpa using h) n hn)

theorem Try.bytes25 : Try.checked.prog.bytesOf 25 = 48 := by kernel_rfl
theorem Try.bytes3 : Try.checked.prog.bytesOf 3 = 8 := by kernel_rfl

theorem path_reach {d : DataW H} {p : List Int} (h : PData d p) (B : Nat) (hw : ∀ n ∈ d.weights Try.checked.prog 23, n ≤ B) : p.length * 8 ≤ B := by
  rcases h with ⟨_, rfl⟩ | ⟨pe, ps, rfl, hl⟩
  · simp
  · have := hw ((pe.length + ps.length) * Try.checked.prog.bytesOf 3) (by
      have hu : Try.checked.prog.underlying 23 = some (.slice 3) := Try.underlying23
      simp [DataW.weights, hu])
    rw [Try.bytes3] at this
    omega
theorem frames_reach {d : DataW H} {X : List Fr} (h : FData d X) (B : Nat) (hw : ∀ n ∈ d.weights Try.checked.prog 22, n ≤ B) : X.length * 48 ≤ B ∧ ∀ x ∈ X, x.path.length * 8 ≤ B := by
  have hu : Try.checked.prog.underlying 22 = some (.slice 25) := Try.underlying22
  rcases h with ⟨_, rfl⟩ | ⟨elems, spare, rfl, hl, hi⟩
  · exact ⟨by simp, fun x hx => by simp at hx⟩
  · constructor
    · have := hw ((elems.length + spare.length) * Try.checked.prog.bytesOf 25) (by simp [DataW.weights, hu])
      rw [Try.bytes25] at this
      omega
    · intro x hx
      obtain ⟨i, hi2, rfl⟩ := List.mem_iff_getElem.1 hx
      obtain ⟨a, b, c, pd, he, hPD⟩ := hi i hi2
      refine path_reach hPD B (fun n hn => hw n ?_)
      have h1 := weightsAll_mem (P := Try.checked.prog) (e := 25) he n (by
        have hs : ∃ f0 f1 f2 f3, Try.checked.prog.underlying 25 = some (.struct #[f0, f1, f2, f3]) ∧ f3.type = 23 := ⟨_, _, _, _, Try.underlying25, rfl⟩
        obtain ⟨f0, f1, f2, f3, hs, h3⟩ := hs
        simp only [DataW.weights, hs]
        simp [DataW.weightsEach, h3, hn])
      simp only [DataW.weights, hu, List.mem_cons, List.mem_append]
      exact .inr (.inl h1)
end
end Go.Proofs.Ythfhjopofpffgaa

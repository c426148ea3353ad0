/-
  Arguments opened: right sides, tries, terms; what the form's reach says of them.
-/
import Derived.Test.YteohhiefchoamaaArgs
import Derived.Test.YteohhiefchoamaaStaysLaw
namespace Go.Proofs.Yteohhiefchoamaa
open Go.ChangeShapes Go.WideShapes Go.ChangeAt Go.RowKit Go.Deep

section
variable {H : Type} {enc : TypeId × Value → H} {W : World}

theorem Rd.new {v : Value} {p : List Int} (h : Rd W v p) : RdS W (fun k => W.heap.size ≤ k) v p := by
  obtain ⟨A, c, rfl, h1⟩ := h
  refine ⟨A, c, rfl, fun h0 => ?_⟩
  obtain ⟨bl, off, rfl, hc⟩ := h1 h0
  have := World.block_lt_of_cell? _ _ (hc 0 h0)
  exact ⟨bl, off, rfl, fun h => by simp only at *; omega, hc⟩

def QData (d : DataW H) (Q : List PartD) : Prop :=
  (d = .nil ∧ Q = []) ∨ ∃ elems spare, d = .slice elems spare ∧ elems.length = Q.length ∧ ∀ i (h : i < Q.length), ∃ a pd, elems[i]? = some (.agg [a, pd]) ∧ PData pd Q[i].path
def RData (d : DataW H) (R : List (List PartD)) : Prop :=
  (d = .nil ∧ R = []) ∨ ∃ elems spare, d = .slice elems spare ∧ elems.length = R.length ∧ ∀ i (h : i < R.length), ∃ qd, elems[i]? = some qd ∧ QData qd R[i]
def TData (d : DataW H) (T : List (List Int)) : Prop :=
  (d = .nil ∧ T = []) ∨ ∃ elems spare, d = .slice elems spare ∧ elems.length = T.length ∧ ∀ i (h : i < T.length), ∃ qd, elems[i]? = some qd ∧ PData qd T[i]

theorem open_parts {v : Value} {n : Nat} {y : DataW H × List MemPlace} (h : DataW.trod enc Try.prog W 0 (fun _ => true) true n 76 [v] = some y) :
    ∃ Q, PartsAt W (fun k => W.heap.size ≤ k) v Q ∧ QData y.1 Q := by
  rcases open_rows Try.underlying76 Try.underlying78 (by kernel_rfl) (by kernel_rfl) h with ⟨hcs, hx⟩ | ⟨a, len, cap, m, D, hcs, hl, hm, hlm, hmc, hx, hi⟩
  · simp at hcs
    subst hcs
    exact ⟨[], ⟨none, 0, rfl, fun h => by simp at h⟩, .inl ⟨by rw [hx], rfl⟩⟩
  · simp at hcs
    subst hcs
    obtain ⟨X, hX, hP⟩ := list_of (fun i (x : PartD) => (∃ pv, W.cell? (a.add (i * 2)) = some (.int .i64 x.sym) ∧ W.cell? (a.add (i * 2 + 1)) = some pv ∧ Rd W pv x.path) ∧ ∃ y0 pd, D i = .agg [y0, pd] ∧ PData pd x.path) len (fun i hil => by
      obtain ⟨ys, n, hD, hyl, hj⟩ := hi i (by omega)
      obtain ⟨v0, y0, hc0, g0, t0⟩ := hj 0 _ rfl
      obtain ⟨v1, y1, hc1, g1, t1⟩ := hj 1 _ rfl
      obtain ⟨q0, e0, _, _⟩ := DataW.trod_int Try.underlying3 t0
      obtain ⟨pth, hR, hPD⟩ := open_pathT Try.underlying26 t1
      simp at e0
      subst e0
      match ys, hyl with
      | [z0, z1], _ =>
        simp at g1
        subst g1
        exact ⟨⟨q0, pth⟩, ⟨v1, hc0, hc1, hR⟩, _, _, by rw [hD]; rfl, hPD⟩)
    subst hX
    refine ⟨X, ⟨some a, cap, rfl, fun h0 => ?_⟩, .inr ⟨_, _, hx, by simp, fun i hi2 => ?_⟩⟩
    · obtain ⟨bl, off, spot⟩ := a
      obtain ⟨pv, hc, _⟩ := (hP 0 h0).1
      have hspot : spot = none := by simpa [Addr.add] using World.cell?_spot hc
      subst hspot
      have hbl : bl < W.heap.size := by rw [Addr.add_lit] at hc; exact World.block_lt_of_cell? _ _ hc
      refine ⟨bl, off, rfl, fun h => by have h' : W.heap.size ≤ bl := h; omega, fun k hk => ?_⟩
      obtain ⟨pv, h1, h2, h3⟩ := (hP k hk).1
      simp only [Addr.add_lit, ← Nat.add_assoc] at h1 h2
      exact ⟨h1, pv, h2, h3.new⟩
    · obtain ⟨_, y0, pd, hD, hPD⟩ := hP i hi2
      exact ⟨y0, pd, by rw [← hD]; simp [hi2], hPD⟩

theorem open_rights {v : Value} {d : DataW H} {p : List MemPlace} (hv : ∃ a l c, v = .slice a l c) (h : DataW.Trod enc Try.prog W 0 (fun _ => true) true 24 v d p) :
    ∃ R, RightsAt W (fun k => W.heap.size ≤ k) v R ∧ RData d R := by
  obtain ⟨a0, l0, c0, rfl⟩ := hv
  obtain ⟨fuel, hf⟩ := h
  rcases open_slice Try.underlying24 hf with ⟨hcs, hx⟩ | ⟨a, len, cap, m, n, D, Pl, hcs, hb, hl, hm, hmm, hx, hi⟩
  · simp [Value.cells] at hcs
    obtain ⟨rfl, rfl, rfl⟩ := hcs
    exact ⟨[], ⟨none, 0, rfl, fun h => by simp at h⟩, .inl ⟨by simpa using congrArg Prod.fst hx, rfl⟩⟩
  · simp [Value.cells] at hcs
    obtain ⟨rfl, rfl, rfl⟩ := hcs
    have hC : Try.prog.cellsOf 76 = 1 := by kernel_rfl
    have hlm : l0 ≤ m := by split at hmm <;> omega
    obtain ⟨X, hX, hP⟩ := list_of (fun i (x : List PartD) => (∃ pv, W.cell? (a.add i) = some pv ∧ PartsAt W (fun k => W.heap.size ≤ k) pv x) ∧ QData (D i) x) l0 (fun i hil => by
      obtain ⟨cs', hc, ht⟩ := hi i (by omega)
      rw [hC, Nat.mul_one] at hc
      obtain ⟨_, hcl, hat⟩ := World.cells?_some hc
      obtain ⟨w0, rfl⟩ : ∃ w0, cs' = [w0] := by
        match cs', hcl with
        | [w0], _ => exact ⟨w0, rfl⟩
      obtain ⟨Q, hQ, hQD⟩ := open_parts ht
      have h0 := hat 0 (by omega)
      exact ⟨Q, ⟨w0, by simpa [Go.Deep.add_add] using h0, hQ⟩, hQD⟩)
    subst hX
    refine ⟨X, ⟨some a, c0, rfl, fun h0 => ?_⟩, .inr ⟨_, _, by simpa using congrArg Prod.fst hx, by simp, fun i hi2 => ?_⟩⟩
    · obtain ⟨bl, off, spot⟩ := a
      obtain ⟨pv, hc, _⟩ := (hP 0 h0).1
      have hspot : spot = none := by simpa [Addr.add] using World.cell?_spot hc
      subst hspot
      have hbl : bl < W.heap.size := by rw [Addr.add_lit] at hc; exact World.block_lt_of_cell? _ _ hc
      refine ⟨bl, off, rfl, fun h => by have h' : W.heap.size ≤ bl := h; omega, fun k hk => ?_⟩
      obtain ⟨pv, h1, h2⟩ := (hP k hk).1
      simp only [Addr.add_lit] at h1
      exact ⟨pv, h1, h2⟩
    · exact ⟨_, by simp [hi2], (hP i hi2).2⟩

theorem open_terms {v : Value} {d : DataW H} {p : List MemPlace} (hv : ∃ a l c, v = .slice a l c) (h : DataW.Trod enc Try.prog W 0 (fun _ => true) true 85 v d p) :
    ∃ T : List (List Int), (∃ A c, v = .slice A T.length c ∧ (0 < T.length → ∃ bl off, A = some ⟨bl, off, none⟩ ∧ ∀ k (h : k < T.length), ∃ pv, W.cell? ⟨bl, off + k, none⟩ = some pv ∧ Rd W pv T[k])) ∧ TData d T := by
  obtain ⟨a0, l0, c0, rfl⟩ := hv
  obtain ⟨fuel, hf⟩ := h
  rcases open_slice Try.underlying85 hf with ⟨hcs, hx⟩ | ⟨a, len, cap, m, n, D, Pl, hcs, hb, hl, hm, hmm, hx, hi⟩
  · simp [Value.cells] at hcs
    obtain ⟨rfl, rfl, rfl⟩ := hcs
    exact ⟨[], ⟨none, 0, rfl, fun h => by simp at h⟩, .inl ⟨by simpa using congrArg Prod.fst hx, rfl⟩⟩
  · simp [Value.cells] at hcs
    obtain ⟨rfl, rfl, rfl⟩ := hcs
    have hC : Try.prog.cellsOf 27 = 1 := by kernel_rfl
    have hlm : l0 ≤ m := by split at hmm <;> omega
    obtain ⟨X, hX, hP⟩ := list_of (fun i (x : List Int) => (∃ pv, W.cell? (a.add i) = some pv ∧ Rd W pv x) ∧ PData (D i) x) l0 (fun i hil => by
      obtain ⟨cs', hc, ht⟩ := hi i (by omega)
      rw [hC, Nat.mul_one] at hc
      obtain ⟨_, hcl, hat⟩ := World.cells?_some hc
      obtain ⟨w0, rfl⟩ : ∃ w0, cs' = [w0] := by
        match cs', hcl with
        | [w0], _ => exact ⟨w0, rfl⟩
      obtain ⟨Q, hQ, hQD⟩ := open_pathT Try.underlying27 ht
      have h0 := hat 0 (by omega)
      exact ⟨Q, ⟨w0, by simpa [Go.Deep.add_add] using h0, hQ⟩, hQD⟩)
    subst hX
    refine ⟨X, ⟨some a, c0, rfl, fun h0 => ?_⟩, .inr ⟨_, _, by simpa using congrArg Prod.fst hx, by simp, fun i hi2 => ?_⟩⟩
    · obtain ⟨bl, off, spot⟩ := a
      obtain ⟨pv, hc, _⟩ := (hP 0 h0).1
      have hspot : spot = none := by simpa [Addr.add] using World.cell?_spot hc
      subst hspot
      refine ⟨bl, off, rfl, fun k hk => ?_⟩
      obtain ⟨pv, h1, h2⟩ := (hP k hk).1
      simp only [Addr.add_lit] at h1
      exact ⟨pv, h1, h2⟩
    · exact ⟨_, by simp [hi2], (hP i hi2).2⟩

theorem open_tries {v : Value} {d : DataW H} {p : List MemPlace} (hv : ∃ a l c, v = .slice a l c) (h : DataW.Trod enc Try.prog W 0 (fun _ => true) true 25 v d p) :
    ∃ T, TryRd W v T ∧ (d = .nil ∧ T.length = 0 ∨ ∃ elems spare, d = .slice elems spare ∧ T.length ≤ elems.length + spare.length) := by
  obtain ⟨a0, l0, c0, rfl⟩ := hv
  obtain ⟨fuel, hf⟩ := h
  rcases open_rows Try.underlying25 Try.underlying45 (by kernel_rfl) (by kernel_rfl) hf with ⟨hcs, hx⟩ | ⟨a, len, cap, m, D, hcs, hl, hm, hlm, hmc, hx, hi⟩
  · simp [Value.cells] at hcs
    obtain ⟨rfl, rfl, rfl⟩ := hcs
    exact ⟨[], ⟨none, 0, rfl, fun h0 => by simp at h0⟩, .inl ⟨by simpa using congrArg Prod.fst hx, rfl⟩⟩
  · simp [Value.cells] at hcs
    obtain ⟨rfl, rfl, rfl⟩ := hcs
    obtain ⟨X, hX, hP⟩ := list_of (fun i (x : Int × Int) => (W.cell? (a.add (i * 2)) = some (.int .i64 x.1) ∧ W.cell? (a.add (i * 2 + 1)) = some (.int .i64 x.2)) ∧ True) l0 (fun i hil => by
      obtain ⟨ys, n, _, _, hj⟩ := hi i (by omega)
      obtain ⟨v0, y0, hc0, _, t0⟩ := hj 0 _ rfl
      obtain ⟨v1, y1, hc1, _, t1⟩ := hj 1 _ rfl
      obtain ⟨q0, e0, _, w0⟩ := DataW.trod_int Try.underlying3 t0
      obtain ⟨q1, e1, _, w1⟩ := DataW.trod_int Try.underlying3 t1
      simp at e0 e1
      subst e0 e1
      exact ⟨(q0, q1), ⟨hc0, hc1⟩, trivial⟩)
    subst hX
    refine ⟨X, ⟨some a, c0, rfl, fun h0 => ?_⟩, .inr ⟨_, _, hx, by simp⟩⟩
    · obtain ⟨bl, off, spot⟩ := a
      have hc := (hP 0 h0).1.1
      have hspot : spot = none := by simpa [Addr.add] using World.cell?_spot hc
      subst hspot
      refine ⟨bl, off, rfl, fun k hk => ?_⟩
      have := (hP k hk).1
      simp only [Addr.add_lit, ← Nat.add_assoc] at this
      exact this
end

section
variable {H : Type}
theorem Try.bytes76 : Try.checked.prog.bytesOf 76 = 24 := by kernel_rfl
theorem Try.bytes78 : Try.checked.prog.bytesOf 78 = 32 := by kernel_rfl
theorem Try.bytes45 : Try.checked.prog.bytesOf 45 = 16 := by kernel_rfl
theorem Try.bytes27 : Try.checked.prog.bytesOf 27 = 24 := by kernel_rfl
theorem tries_reach {d : DataW H} {X : List (Int × Int)} (h : d = .nil ∧ X.length = 0 ∨ ∃ elems spare, d = .slice elems spare ∧ X.length ≤ elems.length + spare.length) (B : Nat) (hw : ∀ n ∈ d.weights Try.checked.prog 25, n ≤ B) : X.length * 16 ≤ B := by
  have hu : Try.checked.prog.underlying 25 = some (.slice 45) := Try.underlying25
  rcases h with ⟨_, h⟩ | ⟨elems, spare, rfl, hl⟩
  · rw [h]; simp
  · have := hw ((elems.length + spare.length) * Try.checked.prog.bytesOf 45) (by simp [DataW.weights, hu])
    rw [Try.bytes45] at this
    omega
theorem parts_reach {d : DataW H} {X : List PartD} (h : QData d X) (B : Nat) (hw : ∀ n ∈ d.weights Try.checked.prog 76, n ≤ B) : X.length * 32 ≤ B ∧ ∀ x ∈ X, x.path.length * 8 ≤ B := by
  have hu : Try.checked.prog.underlying 76 = some (.slice 78) := Try.underlying76
  rcases h with ⟨_, rfl⟩ | ⟨elems, spare, rfl, hl, hi⟩
  · exact ⟨by simp, fun x hx => by simp at hx⟩
  · constructor
    · have := hw ((elems.length + spare.length) * Try.checked.prog.bytesOf 78) (by simp [DataW.weights, hu])
      rw [Try.bytes78] at this
      omega
    · intro x hx
      obtain ⟨i, hi2, rfl⟩ := List.mem_iff_getElem.1 hx
      obtain ⟨a, pd, he, hPD⟩ := hi i hi2
      refine path_reachT (T := 26) Try.underlying26 hPD B (fun n hn => hw n ?_)
      have h1 := weightsAll_mem (P := Try.checked.prog) (e := 78) he n (by
        have hs : ∃ f0 f1, Try.checked.prog.underlying 78 = some (.struct #[f0, f1]) ∧ f1.type = 26 := ⟨_, _, Try.underlying78, rfl⟩
        obtain ⟨f0, f1, hs, h3⟩ := hs
        simp only [DataW.weights, hs]
        simp [DataW.weightsEach, h3, hn])
      simp only [DataW.weights, hu, List.mem_cons, List.mem_append]
      exact .inr (.inl h1)
theorem rights_reach {d : DataW H} {X : List (List PartD)} (h : RData d X) (B : Nat) (hw : ∀ n ∈ d.weights Try.checked.prog 24, n ≤ B) : X.length * 24 ≤ B ∧ ∀ Q ∈ X, Q.length * 32 ≤ B ∧ ∀ x ∈ Q, x.path.length * 8 ≤ B := by
  have hu : Try.checked.prog.underlying 24 = some (.slice 76) := Try.underlying24
  rcases h with ⟨_, rfl⟩ | ⟨elems, spare, rfl, hl, hi⟩
  · exact ⟨by simp, fun x hx => by simp at hx⟩
  · constructor
    · have := hw ((elems.length + spare.length) * Try.checked.prog.bytesOf 76) (by simp [DataW.weights, hu])
      rw [Try.bytes76] at this
      omega
    · intro x hx
      obtain ⟨i, hi2, rfl⟩ := List.mem_iff_getElem.1 hx
      obtain ⟨pd, he, hPD⟩ := hi i hi2
      refine parts_reach hPD B (fun n hn => hw n ?_)
      have h1 := weightsAll_mem (P := Try.checked.prog) (e := 76) he n hn
      simp only [DataW.weights, hu, List.mem_cons, List.mem_append]
      exact .inr (.inl h1)
theorem terms_reach {d : DataW H} {X : List (List Int)} (h : TData d X) (B : Nat) (hw : ∀ n ∈ d.weights Try.checked.prog 85, n ≤ B) : X.length * 24 ≤ B ∧ ∀ Q ∈ X, Q.length * 8 ≤ B := by
  have hu : Try.checked.prog.underlying 85 = some (.slice 27) := Try.underlying85
  rcases h with ⟨_, rfl⟩ | ⟨elems, spare, rfl, hl, hi⟩
  · exact ⟨by simp, fun x hx => by simp at hx⟩
  · constructor
    · have := hw ((elems.length + spare.length) * Try.checked.prog.bytesOf 27) (by simp [DataW.weights, hu])
      rw [Try.bytes27] at this
      omega
    · intro x hx
      obtain ⟨i, hi2, rfl⟩ := List.mem_iff_getElem.1 hx
      obtain ⟨pd, he, hPD⟩ := hi i hi2
      refine path_reachT (T := 27) Try.underlying27 hPD B (fun n hn => hw n ?_)
      have h1 := weightsAll_mem (P := Try.checked.prog) (e := 27) he n hn
      simp only [DataW.weights, hu, List.mem_cons, List.mem_append]
      exact .inr (.inl h1)
end
end Go.Proofs.Yteohhiefchoamaa

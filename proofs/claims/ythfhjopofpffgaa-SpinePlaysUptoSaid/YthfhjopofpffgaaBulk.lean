/-
  What the bulk of the arguments bounds.
-/
import Derived.Test.YthfhjopofpffgaaArgs
import Derived.Test.YthfhjopofpffgaaPaths
import Derived.Lib.SmallJoins
namespace Go.Proofs.Ythfhjopofpffgaa
open Go.ChangeShapes Go.WideShapes Go.ChangeAt Go.RowKit Go.Deep

section
variable {H : Type}
theorem bulk_pos : ∀ d : DataW H, 1 ≤ Rows.uptoBulk d
  | .lit (.string bytes) => by simp [Rows.uptoBulk]
  | .lit (.bool _) => by simp [Rows.uptoBulk]
  | .lit (.int _ _) => by simp [Rows.uptoBulk]
  | .lit (.float _ _) => by simp [Rows.uptoBulk]
  | .lit .nil => by simp [Rows.uptoBulk]
  | .nil => by simp [Rows.uptoBulk]
  | .ptr d => by simp [Rows.uptoBulk]
  | .slice e s => by simp [Rows.uptoBulk]
  | .agg ps => by simp [Rows.uptoBulk]
  | .iface _ d => by simp [Rows.uptoBulk]
  | .map es => by simp [Rows.uptoBulk]
  | .held _ => by simp [Rows.uptoBulk]
theorem bulkAll_len : ∀ l : List (DataW H), l.length ≤ Rows.uptoBulkAll l
  | [] => by simp
  | d :: r => by
    have h1 := bulk_pos d
    have h2 := bulkAll_len r
    simp only [Rows.uptoBulkAll, List.length_cons]; omega
theorem bulk_path {d : DataW H} {p : List Int} (h : PData d p) : p.length ≤ Rows.uptoBulk d := by
  rcases h with ⟨_, rfl⟩ | ⟨pe, ps, rfl, hl⟩
  · simp
  · have := bulkAll_len pe
    simp only [Rows.uptoBulk]; omega
theorem bulk_elems : ∀ (X : List Fr) (elems : List (DataW H)), elems.length = X.length → (∀ i (h : i < X.length), ∃ a b c pd, elems[i]? = some (.agg [a, b, c, pd]) ∧ PData pd X[i].path) → X.length + (flatF X).length ≤ Rows.uptoBulkAll elems
  | [], _, _, _ => by simp [flatF]
  | x :: r, [], h, _ => by simp at h
  | x :: r, d :: es, h, hi => by
    have ih := bulk_elems r es (by simpa using h) (fun i hi2 => by
      obtain ⟨a, b, c, pd, he, hp⟩ := hi (i + 1) (by simp; omega)
      exact ⟨a, b, c, pd, by simpa using he, by simpa using hp⟩)
    obtain ⟨a, b, c, pd, he, hp⟩ := hi 0 (by simp)
    obtain rfl : d = .agg [a, b, c, pd] := by simpa using he
    have hb := bulk_path hp
    simp only [List.getElem_cons_zero] at hb
    have hfl : flatF (x :: r) = x.path ++ flatF r := by simp [flatF]
    rw [hfl]
    simp only [Rows.uptoBulkAll, Rows.uptoBulk, List.length_cons, List.length_append]
    omega
theorem bulk_frames {d : DataW H} {X : List Fr} (h : FData d X) : X.length + (flatF X).length ≤ Rows.uptoBulk d := by
  rcases h with ⟨_, rfl⟩ | ⟨elems, spare, rfl, hl, hi⟩
  · simp [flatF]
  · have := bulk_elems X elems hl hi
    simp only [Rows.uptoBulk]; omega
theorem path_le_flat : ∀ {X : List Fr}, ∀ x ∈ X, x.path.length ≤ (flatF X).length
  | y :: r, x, hx => by
    have hfl : flatF (y :: r) = y.path ++ flatF r := by simp [flatF]
    rw [hfl, List.length_append]
    rcases List.mem_cons.1 hx with rfl | hx
    · omega
    · have := path_le_flat x hx; omega
end

section
variable {H : Type} {enc : TypeId × Value → H} {W : World}
theorem open_frame {b0 : Nat} {v : Value} {d : DataW H} {p : List MemPlace} (hv : Value.okWide Try.prog W .any b0 25 v) (h : DataW.Trod enc Try.prog W 0 (fun _ => true) true 25 v d p) :
    ∃ (f : Fr) (pv : Value), v = fval f pv ∧ ROld W W.heap.size pv f.path ∧ ∃ a b c pd, d = .agg [a, b, c, pd] ∧ PData pd f.path := by
  obtain ⟨v0, v1, v2, v3, y0, y1, y2, y3, n, rfl, rfl, rfl, t0, t1, t2, t3⟩ := Go.Joins.open_agg4 Try.underlying25 (by kernel_rfl) (by kernel_rfl) hv h
  obtain ⟨q, e0, _, _⟩ := DataW.trod_int Try.underlying3 t0
  obtain ⟨b, e1, _⟩ := DataW.trod_bool Try.underlying4 t1
  obtain ⟨q2, e2, _, _⟩ := DataW.trod_int Try.underlying3 t2
  obtain ⟨pth, hR, hPD⟩ := open_path t3
  simp at e0 e1 e2
  subst e0 e1 e2
  exact ⟨⟨q, b, q2, pth⟩, v3, rfl, hR, _, _, _, _, rfl, hPD⟩
end
end Go.Proofs.Ythfhjopofpffgaa

/-
  SigBack: for every list of symbols, in whatever memory, the call returns true, and nothing that was there has turned. No condition.
-/
import Derived.Test.YtpknnhdpnmkpcaaBack
import Derived.Test.YtpknnhdpnmkpcaaOpen
import Derived.ProofKit
import Derived.OpenShut
import Derived.SizedLaws
namespace Go.Proofs.Ytpknnhdpnmkpcaa
open Go.ChangeShapes Go.WideShapes Go.ChangeAt Go.RowKit Go.Deep

theorem Back.own : ownKnob Try.prog.godebug = none := by kernel_rfl
theorem Back.laidOut : laidOutB Try.prog = true := by kernel_rfl
theorem Try.bytes31 : Try.checked.prog.bytesOf 31 = 32 := by kernel_rfl

/-- An argument of type []api.Symbol, as the walk wants it. -/
theorem open_syms {H : Type} {enc : TypeId × Value → H} {W : World} {v : Value} {d : DataW H} {p : List MemPlace} (hv : ∃ a l c, v = .slice a l c) (h : DataW.Trod enc Try.prog W 0 (fun _ => true) true 23 v d p) :
    ∃ (a : Option Addr) (cap : Nat) (X : List Sym), v = .slice a X.length cap ∧ SymsAt W W.heap.size a X ∧
      (d = .nil ∧ X.length = 0 ∨ ∃ elems spare, d = .slice elems spare ∧ X.length ≤ elems.length + spare.length) := by
  obtain ⟨a0, l0, c0, rfl⟩ := hv
  obtain ⟨fuel, hf⟩ := h
  rcases open_rows Try.underlying23 Try.underlying31 (by kernel_rfl) (by kernel_rfl) hf with ⟨hcs, hx⟩ | ⟨a, len, cap, m, D, hcs, hl, hm, hlm, hmc, hx, hi⟩
  · simp [Value.cells] at hcs
    obtain ⟨rfl, rfl, rfl⟩ := hcs
    exact ⟨none, 0, [], rfl, ⟨fun x hx => by simp at hx, fun h0 => by simp at h0⟩, .inl ⟨by simpa using congrArg Prod.fst hx, rfl⟩⟩
  · simp [Value.cells] at hcs
    obtain ⟨rfl, rfl, rfl⟩ := hcs
    obtain ⟨X, hX, hP⟩ := list_of (fun i (x : Sym) => x.name.size ≤ maxLen ∧ W.cell? (a.add (i * 3)) = some (.string x.name) ∧ W.cell? (a.add (i * 3 + 1)) = some (.int .i64 x.arity) ∧ W.cell? (a.add (i * 3 + 2)) = some (.bool x.defd)) l0 (fun i hil => by
      obtain ⟨ys, n, _, _, hj⟩ := hi i (by omega)
      obtain ⟨v0, y0, hc0, _, t0⟩ := hj 0 _ rfl
      obtain ⟨v1, y1, hc1, _, t1⟩ := hj 1 _ rfl
      obtain ⟨v2, y2, hc2, _, t2⟩ := hj 2 _ rfl
      obtain ⟨s, e0, _, hs⟩ := DataW.trod_string Try.underlying9 t0
      obtain ⟨q, e1, _, _⟩ := DataW.trod_int Try.underlying3 t1
      obtain ⟨b, e2, _⟩ := DataW.trod_bool Try.underlying4 t2
      simp at e0 e1 e2
      subst e0 e1 e2
      exact ⟨⟨s, q, b⟩, hs, hc0, hc1, hc2⟩)
    subst hX
    refine ⟨some a, c0, X, rfl, ⟨fun x hx => ?_, fun h0 => ?_⟩, .inr ⟨_, _, hx, by simp⟩⟩
    · obtain ⟨i, hi2, rfl⟩ := List.mem_iff_getElem.1 hx
      exact (hP i hi2).1
    · obtain ⟨bl, off, spot⟩ := a
      have hc := (hP 0 h0).2.1
      have hspot : spot = none := by simpa [Addr.add] using World.cell?_spot hc
      subst hspot
      have hb : bl < W.heap.size := by
        have := World.block_lt_of_cell? W _ hc
        simpa [Addr.add_lit] using this
      refine ⟨bl, off, rfl, hb, fun k hk => ?_⟩
      have := hP k hk
      simp only [Addr.add_lit, ← Nat.add_assoc] at this
      exact this.2

set_option maxRecDepth 100000 in
theorem back_lifted (os : Os) (started : os.Started) (H : Type) (enc : TypeId × Value → H) :
    ReturnsInHanded {} Try.checked os 4 .any (Rows.sigBackSpec.pre6 enc Try.prog Try.f4 Rows.sigBackRow.domain false) (Rows.sigBackSpec.post enc Try.prog Try.f4 false true false false) := by
  refine returnsInHanded_of_change_sized (C := Try.checked) Back.own started (by kernel_rfl) Try.func4
    (ChangeSpec.witness6 (enc := enc) (C := Try.checked) false ⟨#[], #[.slice none 0 0], []⟩ 8 (by kernel_rfl) (by kernel_rfl) (by kernel_rfl) (by kernel_rfl)) ?_
  intro W base args ds gs before hval0 hW hcnd hsz0 _
  have hval : ∀ (j : Nat) t v, Try.f4.params[j]? = some t → args[j]? = some v → Value.okWide Try.prog W .any base t v := hval0
  have hsz : (DataW.weightsEach Try.checked.prog (Try.f4.params.toList ++ Rows.sigBackSpec.plain.varTypes Try.checked.prog) (ds ++ gs)).all (· ≤ reachBytes) = true := hsz0
  have hW' := hW
  obtain ⟨p, q, hA0, hV, rfl, hfz, hnd⟩ := hW
  have hA : DataW.TrodAll enc Try.prog W 0 (fun _ => true) true Try.f4.params.toList args.toList ds p := hA0
  rw [Try.params4] at hA hval hsz
  obtain ⟨v0, vs0, d0, ds0, p0, q0, hargs, rfl, rfl, h0, r0⟩ := trodAll_cons hA
  obtain ⟨rfl, rfl, rfl⟩ := trodAll_nil r0
  obtain rfl : args = #[v0] := by cases args; simp_all
  obtain ⟨rfl, rfl⟩ := trodVars_none hV
  have k0 := h0
  have lt0 : ∀ x ∈ p0, x.block < W.heap.size := by obtain ⟨m, hm⟩ := k0; exact DataW.trod_lt m _ _ _ hm
  obtain ⟨a, cap, X, rfl, hX, hd⟩ := open_syms (okWide_slice Try.underlying23 (hval 0 23 v0 rfl rfl)) h0
  have hlen : X.length * 32 ≤ 140737488351232 := by
    rcases hd with ⟨_, h⟩ | ⟨elems, spare, rfl, h⟩
    · omega
    · have := sized_slice hsz (j := 0) (t := 23) (e := 31) rfl rfl Try.underlying23
      rw [Try.bytes31] at this
      simp only [reachBytes] at this
      omega
  clear hA0 hval0 hd hsz hsz0
  refine (back_any W a cap X hX hlen).mono fun e W' ⟨he, bel⟩ => ?_
  subst he
  exact ⟨_, rfl, _, _, _, [], _, [], hW', trodAll_mk1 (shut_bool Try.underlying4 _), (trodAll_cons_mk (Below.trod Back.laidOut (by kernel_rfl) (of_decide_eq_true (by kernel_rfl)) k0 bel lt0) trodAll_mk0), rfl, bel.frame _, fun h => by cases h⟩

theorem SigBack_holds : Rows.SigBackSaid :=
  OpenClaim.holds_of_wide 4 Try.f4 rfl rfl rfl rfl rfl rfl rfl ⟨rfl, rfl, rfl, rfl, rfl⟩ rfl rfl rfl rfl rfl (by kernel_rfl) Try.func4 (by kernel_rfl)
    (of_decide_eq_true (by kernel_rfl)) (by unfold Func.isWrapper; first | (rw [if_pos (by decide +kernel)]; kernel_rfl) | (rw [if_neg (by decide +kernel)]; exact ⟨rfl, rfl⟩))
    (fun os started H enc _ => back_lifted os started H enc)
#print axioms SigBack_holds
end Go.Proofs.Ytpknnhdpnmkpcaa

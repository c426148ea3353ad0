/-
  SigPlays: for every script, in whatever memory, the call returns true, and nothing that was there has turned. No condition.
-/
import Derived.Test.YtpknnhdpnmkpcaaPlays
import Derived.Test.YtpknnhdpnmkpcaaOpen
import Derived.ProofKit
import Derived.OpenShut
import Derived.SizedLaws
namespace Go.Proofs.Ytpknnhdpnmkpcaa
open Go.ChangeShapes Go.WideShapes Go.ChangeAt Go.RowKit Go.Deep

theorem Plays.own : ownKnob Try.prog.godebug = none := by kernel_rfl
theorem Plays.laidOut : laidOutB Try.prog = true := by kernel_rfl
theorem Try.c3 : Try.prog.cellsOf 3 = 1 := by kernel_rfl
theorem Try.c4 : Try.prog.cellsOf 4 = 1 := by kernel_rfl
theorem Try.c9 : Try.prog.cellsOf 9 = 1 := by kernel_rfl
theorem Try.c31 : Try.prog.cellsOf 31 = 3 := by kernel_rfl
theorem Try.c46 : Try.prog.cellsOf 46 = 6 := by kernel_rfl
theorem Try.bytes46 : Try.checked.prog.bytesOf 46 = 56 := by kernel_rfl

section
variable {H : Type} {enc : TypeId × Value → H} {W : World}
theorem wf_I64 {q : Int} (h : (Lit.int .i64 q).wf = true) : I64 q := by
  unfold I64
  simp [Lit.wf] at h
  have h1 : IntKind.i64.min = -9223372036854775808 := rfl
  have h2 : IntKind.i64.max = 9223372036854775807 := rfl
  rw [h1] at h
  first | (rw [h2] at h; omega) | omega

theorem open_op {n : Nat} {cs : List Value} {x : DataW H × List MemPlace} (h : DataW.trod enc Try.prog W 0 (fun _ => true) true n 46 cs = some x) :
    ∃ o : OpD, cs = o.cells.toList ∧ o.x.name.size ≤ maxLen ∧ I64 o.on ∧ I64 o.n := by
  obtain ⟨ys, n', rfl, rfl, hlen, hyl, hf⟩ := DataW.trod_struct Try.underlying46 h
  rw [Try.c46] at hlen
  match cs, hlen with
  | [v0, v1, v2, v3, v4, v5], _ =>
    match ys, hyl with
    | [y0, y1, y2, y3], _ =>
      have t0 : DataW.trod enc Try.prog W 0 (fun _ => true) true n' 3 (([v0, v1, v2, v3, v4, v5].drop 0).take (Try.prog.cellsOf 3)) = some y0 := hf 0 _ rfl
      have t1 : DataW.trod enc Try.prog W 0 (fun _ => true) true n' 3 (([v0, v1, v2, v3, v4, v5].drop 1).take (Try.prog.cellsOf 3)) = some y1 := hf 1 _ rfl
      have t2 : DataW.trod enc Try.prog W 0 (fun _ => true) true n' 3 (([v0, v1, v2, v3, v4, v5].drop 2).take (Try.prog.cellsOf 3)) = some y2 := hf 2 _ rfl
      have t3 : DataW.trod enc Try.prog W 0 (fun _ => true) true n' 31 (([v0, v1, v2, v3, v4, v5].drop 3).take (Try.prog.cellsOf 31)) = some y3 := hf 3 _ rfl
      have t0' : DataW.trod enc Try.prog W 0 (fun _ => true) true n' 3 [v0] = some y0 := by rw [Try.c3] at t0; exact t0
      have t1' : DataW.trod enc Try.prog W 0 (fun _ => true) true n' 3 [v1] = some y1 := by rw [Try.c3] at t1; exact t1
      have t2' : DataW.trod enc Try.prog W 0 (fun _ => true) true n' 3 [v2] = some y2 := by rw [Try.c3] at t2; exact t2
      have t3' : DataW.trod enc Try.prog W 0 (fun _ => true) true n' 31 [v3, v4, v5] = some y3 := by rw [Try.c31] at t3; exact t3
      obtain ⟨q0, e0, _, w0⟩ := DataW.trod_int Try.underlying3 t0'
      obtain ⟨q1, e1, _, w1⟩ := DataW.trod_int Try.underlying3 t1'
      obtain ⟨q2, e2, _, w2⟩ := DataW.trod_int Try.underlying3 t2'
      obtain ⟨zs, n2, rfl, rfl, hlen2, hzl, hf2⟩ := DataW.trod_struct Try.underlying31 t3'
      match zs, hzl with
      | [z0, z1, z2], _ =>
        have s0 : DataW.trod enc Try.prog W 0 (fun _ => true) true n2 9 (([v3, v4, v5].drop 0).take (Try.prog.cellsOf 9)) = some z0 := hf2 0 _ rfl
        have s1 : DataW.trod enc Try.prog W 0 (fun _ => true) true n2 3 (([v3, v4, v5].drop 1).take (Try.prog.cellsOf 3)) = some z1 := hf2 1 _ rfl
        have s2 : DataW.trod enc Try.prog W 0 (fun _ => true) true n2 4 (([v3, v4, v5].drop 2).take (Try.prog.cellsOf 4)) = some z2 := hf2 2 _ rfl
        have s0' : DataW.trod enc Try.prog W 0 (fun _ => true) true n2 9 [v3] = some z0 := by rw [Try.c9] at s0; exact s0
        have s1' : DataW.trod enc Try.prog W 0 (fun _ => true) true n2 3 [v4] = some z1 := by rw [Try.c3] at s1; exact s1
        have s2' : DataW.trod enc Try.prog W 0 (fun _ => true) true n2 4 [v5] = some z2 := by rw [Try.c4] at s2; exact s2
        obtain ⟨s, e3, _, hs⟩ := DataW.trod_string Try.underlying9 s0'
        obtain ⟨q4, e4, _, _⟩ := DataW.trod_int Try.underlying3 s1'
        obtain ⟨b, e5, _⟩ := DataW.trod_bool Try.underlying4 s2'
        simp only [List.cons.injEq, and_true] at e0 e1 e2 e3 e4 e5
        subst e0 e1 e2 e3 e4 e5
        exact ⟨⟨q0, q1, q2, ⟨s, q4, b⟩⟩, rfl, hs, wf_I64 w0, wf_I64 w2⟩

theorem open_script {v : Value} {d : DataW H} {p : List MemPlace} (hv : ∃ a l c, v = .slice a l c) (h : DataW.Trod enc Try.prog W 0 (fun _ => true) true 38 v d p) :
    ∃ O, SOld W W.heap.size v O ∧ (d = .nil ∧ O.length = 0 ∨ ∃ elems spare, d = .slice elems spare ∧ O.length ≤ elems.length + spare.length) := by
  obtain ⟨a0, l0, c0, rfl⟩ := hv
  obtain ⟨fuel, hf⟩ := h
  rcases open_slice Try.underlying38 hf with ⟨hcs, hx⟩ | ⟨a, len, cap, m, n, D, Pl, hcs, hb, hl, hm, hmm, hx, hi⟩
  · simp [Value.cells] at hcs
    obtain ⟨rfl, rfl, rfl⟩ := hcs
    exact ⟨[], ⟨fun o ho => by simp at ho, none, 0, rfl, fun h => by simp at h⟩, .inl ⟨by simpa using congrArg Prod.fst hx, rfl⟩⟩
  · simp [Value.cells] at hcs
    obtain ⟨rfl, rfl, rfl⟩ := hcs
    have hlm : l0 ≤ m := by split at hmm <;> omega
    obtain ⟨O, hO, hP⟩ := list_of (fun i (o : OpD) => (W.cell? (a.add (i * 6)) = some (.int .i64 o.on) ∧ W.cell? (a.add (i * 6 + 1)) = some (.int .i64 o.kind) ∧ W.cell? (a.add (i * 6 + 2)) = some (.int .i64 o.n) ∧ W.cell? (a.add (i * 6 + 3)) = some (.string o.x.name) ∧ W.cell? (a.add (i * 6 + 4)) = some (.int .i64 o.x.arity) ∧ W.cell? (a.add (i * 6 + 5)) = some (.bool o.x.defd)) ∧
        o.x.name.size ≤ maxLen ∧ I64 o.on ∧ I64 o.n) l0 (fun i hil => by
      obtain ⟨cs', hc, ht'⟩ := hi i (by omega)
      rw [Try.c46] at hc
      obtain ⟨o, rfl, h1, h2, h3⟩ := open_op ht'
      obtain ⟨_, hcl, hat⟩ := World.cells?_some hc
      have g : ∀ j (u : Value), j < 6 → o.cells.toList[j]? = some u → W.cell? (a.add (i * 6 + j)) = some u := by
        intro j u hj hu
        rw [← Go.Deep.add_add, hat j hj, hu]
      exact ⟨o, ⟨g 0 _ (by omega) rfl, g 1 _ (by omega) rfl, g 2 _ (by omega) rfl, g 3 _ (by omega) rfl, g 4 _ (by omega) rfl, g 5 _ (by omega) rfl⟩, h1, h2, h3⟩)
    subst hO
    refine ⟨O, ⟨fun o ho => ?_, some a, c0, rfl, fun h0 => ?_⟩, .inr ⟨_, _, congrArg Prod.fst hx, by simp⟩⟩
    · obtain ⟨i, hi2, rfl⟩ := List.mem_iff_getElem.1 ho
      exact (hP i hi2).2
    · obtain ⟨bl, off, spot⟩ := a
      have hc := (hP 0 h0).1.1
      have hspot : spot = none := by simpa [Addr.add] using World.cell?_spot hc
      subst hspot
      have hb : bl < W.heap.size := by
        have := World.block_lt_of_cell? W _ hc
        simpa [Addr.add_lit] using this
      refine ⟨bl, off, rfl, hb, fun k hk => ?_⟩
      have := (hP k hk).1
      simp only [Addr.add_lit, ← Nat.add_assoc] at this
      exact this
end

set_option maxRecDepth 100000 in
theorem plays_lifted (os : Os) (started : os.Started) (H : Type) (enc : TypeId × Value → H) :
    ReturnsInHanded {} Try.checked os 6 .any (Rows.sigPlaysSpec.pre6 enc Try.prog Try.f6 Rows.sigPlaysRow.domain false) (Rows.sigPlaysSpec.post enc Try.prog Try.f6 false true false false) := by
  refine returnsInHanded_of_change_sized (C := Try.checked) Plays.own started (by kernel_rfl) Try.func6
    (ChangeSpec.witness6 (enc := enc) (C := Try.checked) false ⟨#[], #[.slice none 0 0], []⟩ 8 (by kernel_rfl) (by kernel_rfl) (by kernel_rfl) (by kernel_rfl)) ?_
  intro W base args ds gs before hval0 hW hcnd hsz0 _
  have hval : ∀ (j : Nat) t v, Try.f6.params[j]? = some t → args[j]? = some v → Value.okWide Try.prog W .any base t v := hval0
  have hsz : (DataW.weightsEach Try.checked.prog (Try.f6.params.toList ++ Rows.sigPlaysSpec.plain.varTypes Try.checked.prog) (ds ++ gs)).all (· ≤ reachBytes) = true := hsz0
  have hW' := hW
  obtain ⟨p, q, hA0, hV, rfl, hfz, hnd⟩ := hW
  have hA : DataW.TrodAll enc Try.prog W 0 (fun _ => true) true Try.f6.params.toList args.toList ds p := hA0
  rw [Try.params6] at hA hval hsz
  obtain ⟨v0, vs0, d0, ds0, p0, q0, hargs, rfl, rfl, h0, r0⟩ := trodAll_cons hA
  obtain ⟨rfl, rfl, rfl⟩ := trodAll_nil r0
  obtain rfl : args = #[v0] := by cases args; simp_all
  obtain ⟨rfl, rfl⟩ := trodVars_none hV
  have k0 := h0
  have lt0 : ∀ x ∈ p0, x.block < W.heap.size := by obtain ⟨m, hm⟩ := k0; exact DataW.trod_lt m _ _ _ hm
  obtain ⟨O, hO, hd⟩ := open_script (okWide_slice Try.underlying38 (hval 0 38 v0 rfl rfl)) h0
  have hlen : O.length * 56 ≤ 140737488351232 := by
    rcases hd with ⟨_, h⟩ | ⟨elems, spare, rfl, h⟩
    · omega
    · have := sized_slice hsz (j := 0) (t := 38) (e := 46) rfl rfl Try.underlying38
      rw [Try.bytes46] at this
      simp only [reachBytes] at this
      omega
  clear hA0 hval0 hd hsz hsz0
  refine (plays_law W v0 O hO hlen).mono fun e W' ⟨he, bel⟩ => ?_
  subst he
  exact ⟨_, rfl, _, _, _, [], _, [], hW', trodAll_mk1 (shut_bool Try.underlying4 _), (trodAll_cons_mk (Below.trod Plays.laidOut (by kernel_rfl) (of_decide_eq_true (by kernel_rfl)) k0 bel lt0) trodAll_mk0), rfl, bel.frame _, fun h => by cases h⟩

theorem SigPlays_holds : Rows.SigPlaysSaid :=
  OpenClaim.holds_of_wide 6 Try.f6 rfl rfl rfl rfl rfl rfl rfl ⟨rfl, rfl, rfl, rfl, rfl⟩ rfl rfl rfl rfl rfl (by kernel_rfl) Try.func6 (by kernel_rfl)
    (of_decide_eq_true (by kernel_rfl)) (by unfold Func.isWrapper; first | (rw [if_pos (by decide +kernel)]; kernel_rfl) | (rw [if_neg (by decide +kernel)]; exact ⟨rfl, rfl⟩))
    (fun os started H enc _ => plays_lifted os started H enc)
#print axioms SigPlays_holds
end Go.Proofs.Ytpknnhdpnmkpcaa

/-
  GraftBuilds, where what it reads is of bulk at most 1048576: for every list of symbols, number, list of nodes, right sides and tries, in whatever memory, the call returns true, and nothing that was there has turned.
-/
import Derived.Test.YteohhiefchoamaaBdAll
import Derived.Test.YteohhiefchoamaaArgs2
import Derived.OpenShut
import Derived.Deep.CondSized
namespace Go.Proofs.Yteohhiefchoamaa
open Go.ChangeShapes Go.WideShapes Go.ChangeAt Go.RowKit Go.Deep

theorem Builds.own : ownKnob Try.prog.godebug = none := by kernel_rfl
theorem Builds.laidOut : laidOutB Try.prog = true := by kernel_rfl

set_option maxRecDepth 100000 in
theorem builds_lifted (os : Os) (started : os.Started) (H : Type) (enc : TypeId × Value → H) (F : Stop.Interp) :
    ReturnsInHanded {} Try.checked os 9 .any ((Rows.OpenSpec.upto Rows.graftBuildsSpec).pre6 enc Try.prog Try.f9 Rows.graftBuildsUptoRow.domain false) (((Rows.OpenSpec.upto Rows.graftBuildsSpec).at F).post enc Try.prog Try.f9 false true false false) := by
  refine returnsInHanded_of_cond_sized (C := Try.checked) (s := Rows.OpenSpec.upto Rows.graftBuildsSpec) (k := Rows.uptoSmall) rfl Builds.own started (by kernel_rfl) Try.func9
    (OpenSpec.witness (enc := enc) (C := Try.checked) (s := Rows.OpenSpec.upto Rows.graftBuildsSpec) (k := Rows.uptoSmall) rfl false ⟨#[], #[.slice none 0 0, .int .i64 0, .slice none 0 0, .slice none 0 0, .slice none 0 0], []⟩ 8 (by kernel_rfl) (by kernel_rfl) (by kernel_rfl)
      (x := ([.nil, .lit (.int .i64 0), .nil, .nil, .nil], [], [])) (by kernel_rfl) rfl (by kernel_rfl)) ?_
  intro W base args ds gs before hval0 hW hcnd _ hsz0 _
  have hval : ∀ (j : Nat) t v, Try.f9.params[j]? = some t → args[j]? = some v → Value.okWide Try.prog W .any base t v := hval0
  have hsz : (DataW.weightsEach Try.checked.prog (Try.f9.params.toList ++ (Rows.OpenSpec.upto Rows.graftBuildsSpec).bare.plain.varTypes Try.checked.prog) (ds ++ gs)).all (· ≤ reachBytes) = true := hsz0
  have hW' := hW
  obtain ⟨p, q, hA0, hV, rfl, hfz, hnd⟩ := hW
  have hA : DataW.TrodAll enc Try.prog W 0 (fun _ => true) true Try.f9.params.toList args.toList ds p := hA0
  rw [Try.params9] at hA hval hsz
  obtain ⟨v0, vs0, d0, ds0, p0, q0, hargs, rfl, rfl, h0, r0⟩ := trodAll_cons hA
  obtain ⟨v1, vs1, d1, ds1, p1, q1, rfl, rfl, rfl, h1, r1⟩ := trodAll_cons r0
  obtain ⟨v2, vs2, d2, ds2, p2, q2, rfl, rfl, rfl, h2, r2⟩ := trodAll_cons r1
  obtain ⟨v3, vs3, d3, ds3, p3, q3, rfl, rfl, rfl, h3, r3⟩ := trodAll_cons r2
  obtain ⟨v4, vs4, d4, ds4, p4, q4, rfl, rfl, rfl, h4, r4⟩ := trodAll_cons r3
  obtain ⟨rfl, rfl, rfl⟩ := trodAll_nil r4
  obtain rfl : args = #[v0, v1, v2, v3, v4] := by cases args; simp_all
  obtain ⟨rfl, rfl⟩ := trodVars_none hV
  have k0 := h0
  have lt0 : ∀ x ∈ p0, x.block < W.heap.size := by obtain ⟨m, hm⟩ := k0; exact DataW.trod_lt m _ _ _ hm
  have k2 := h2
  have lt2 : ∀ x ∈ p2, x.block < W.heap.size := by obtain ⟨m, hm⟩ := k2; exact DataW.trod_lt m _ _ _ hm
  have k3 := h3
  have lt3 : ∀ x ∈ p3, x.block < W.heap.size := by obtain ⟨m, hm⟩ := k3; exact DataW.trod_lt m _ _ _ hm
  have k4 := h4
  have lt4 : ∀ x ∈ p4, x.block < W.heap.size := by obtain ⟨m, hm⟩ := k4; exact DataW.trod_lt m _ _ _ hm
  obtain ⟨X0, hX0, hnm0, hd0⟩ := open_syms (okWide_slice Try.underlying22 (hval 0 22 v0 rfl rfl)) h0
  have hr0 := syms_reach hd0 140737488351232 (fun n hn => by
    have := List.all_eq_true.1 hsz n (DataW.weights_mem_each (j := 0) (t := 22) rfl rfl n hn)
    exact of_decide_eq_true this)
  obtain ⟨a1, rfl, rfl, rfl, w1⟩ := open_int Try.underlying3 (hval 1 3 v1 rfl rfl) h1
  have bd1 := Go.bounds_i64 w1
  obtain ⟨X2, hX2, hd2⟩ := open_nodes (okWide_slice Try.underlying23 (hval 2 23 v2 rfl rfl)) h2
  have hr2 := nodes_reach hd2 140737488351232 (fun n hn => by
    have := List.all_eq_true.1 hsz n (DataW.weights_mem_each (j := 2) (t := 23) rfl rfl n hn)
    exact of_decide_eq_true this)
  obtain ⟨X3, hX3, hd3⟩ := open_rights (okWide_slice Try.underlying24 (hval 3 24 v3 rfl rfl)) h3
  have hr3 := rights_reach hd3 140737488351232 (fun n hn => by
    have := List.all_eq_true.1 hsz n (DataW.weights_mem_each (j := 3) (t := 24) rfl rfl n hn)
    exact of_decide_eq_true this)
  obtain ⟨X4, hX4, hd4⟩ := open_tries (okWide_slice Try.underlying25 (hval 4 25 v4 rfl rfl)) h4
  have hr4 := tries_reach hd4 140737488351232 (fun n hn => by
    have := List.all_eq_true.1 hsz n (DataW.weights_mem_each (j := 4) (t := 25) rfl rfl n hn)
    exact of_decide_eq_true this)
  clear hA0 hval0 hsz hsz0
  refine (builds_law W v0 v2 v3 v4 X0 a1 X2 X3 X4 hX0 hnm0 (by omega) hX2 (fun x hx => by have := hr2.2 x hx; omega) hX3 (by omega) (fun Q hQ => by have := (hr3.2 Q hQ).1; omega) (fun Q hQ q hq => by have := (hr3.2 Q hQ).2 q hq; omega) hX4 (by omega)).mono fun e W' ⟨he, hs⟩ => ?_
  have bel := hs.below (Nat.le_refl _) (fun _ h => h.elim)
  subst he
  exact ⟨_, rfl, _, _, _, [], _, [], hW', trodAll_mk1 (shut_bool Try.underlying4 _), (trodAll_cons_mk (Below.trod Builds.laidOut (by kernel_rfl) (of_decide_eq_true (by kernel_rfl)) k0 bel lt0) (trodAll_cons_mk (shut_int Try.underlying3 w1) (trodAll_cons_mk (Below.trod Builds.laidOut (by kernel_rfl) (of_decide_eq_true (by kernel_rfl)) k2 bel lt2) (trodAll_cons_mk (Below.trod Builds.laidOut (by kernel_rfl) (of_decide_eq_true (by kernel_rfl)) k3 bel lt3) (trodAll_cons_mk (Below.trod Builds.laidOut (by kernel_rfl) (of_decide_eq_true (by kernel_rfl)) k4 bel lt4) trodAll_mk0))))), rfl, bel.frame _, fun h => by cases h⟩

theorem GraftBuilds_holds : Rows.GraftBuildsUptoSaid :=
  OpenClaim.holds_of_cond 9 Try.f9 rfl rfl rfl rfl rfl rfl rfl ⟨rfl, rfl, rfl, rfl, rfl⟩ rfl rfl rfl rfl rfl (by kernel_rfl) Try.func9 (by kernel_rfl)
    (of_decide_eq_true (by kernel_rfl)) (by unfold Func.isWrapper; first | (rw [if_pos (by decide +kernel)]; kernel_rfl) | (rw [if_neg (by decide +kernel)]; exact ⟨rfl, rfl⟩))
    (fun os started H enc _ F => builds_lifted os started H enc F)
#print axioms GraftBuilds_holds
end Go.Proofs.Yteohhiefchoamaa

/-
  SigCalled: for every string, in whatever memory, the call returns true, and nothing that was there has turned. No condition.
-/
import Derived.Test.YtpknnhdpnmkpcaaAwake
import Derived.Test.YtpknnhdpnmkpcaaName2
import Derived.ProofKit
import Derived.OpenShut
namespace Go.Proofs.Ytpknnhdpnmkpcaa
open Go.ChangeShapes Go.WideShapes Go.ChangeAt Go.RowKit
open Go.ChangeMaps (open_string shut_string)

theorem Called.own : ownKnob Try.prog.godebug = none := by kernel_rfl
theorem Called.laidOut : laidOutB Try.prog = true := by kernel_rfl

theorem not_both (s : ByteArray) : isNameB s = false ∨ isVarB s = false := by
  by_cases hz : s.size = 0
  · exact .inl (gen_zero _ _ s hz)
  · cases h : smallB (s[0]'(by omega))
    · exact .inl (gen_first _ _ s (by omega) h)
    · right
      refine gen_first _ _ s (by omega) ?_
      simp only [smallB, Bool.and_eq_true, decide_eq_true_eq] at h
      simp only [greatB, Bool.and_eq_false_iff, decide_eq_false_iff_not]
      omega

set_option maxHeartbeats 1000000 in
theorem called_any (s : ByteArray) (w : World) (hs : s.size ≤ maxLen) : Calls Try.prog 5 #[.string s] w fun e w' => e = .returned (.bool true) ∧ Below w.heap.size w w' := by
  have hnb := not_both s
  cases ha : isNameB s
  all_goals cases hb : isVarB s
  all_goals first | (exfalso; simp [ha, hb] at hnb; done) | skip
  all_goals
    clear hnb
    go_enter Try.func5, Try.ntmps5
    go_wp2_with fail
    refine (awake_any _).mono ?_
    rintro e w1 ⟨rfl, h⟩
    have H := Lib.hid (h.below (Nat.le_refl _) (fun _ h => h.elim))
    clear h
    go_wp2_with fail
    refine (isName_any s _ hs).mono ?_
    rintro e w1' ⟨rfl, rfl⟩
    go_wp2_with fail
    refine (isVar_any s _ hs).mono ?_
    rintro e w1' ⟨rfl, rfl⟩
    go_wp2_with fail
    refine (risName_any s _ hs).mono ?_
    rintro e w1' ⟨rfl, rfl⟩
    go_wp2_with fail
    refine (risVar_any s _ hs).mono ?_
    rintro e w1' ⟨rfl, rfl⟩
    go_wp2_with fail
    all_goals go_ret
    all_goals exact ⟨rfl, H.out⟩

set_option maxRecDepth 100000 in
theorem called_lifted (os : Os) (started : os.Started) (H : Type) (enc : TypeId × Value → H) :
    ReturnsInHanded {} Try.checked os 5 .any (Rows.sigCalledSpec.pre6 enc Try.prog Try.f5 Rows.sigCalledRow.domain false) (Rows.sigCalledSpec.post enc Try.prog Try.f5 false true false false) := by
  refine returnsInHanded_of_change (C := Try.checked) Called.own started (by kernel_rfl) Try.func5
    (ChangeSpec.witness6 (enc := enc) (C := Try.checked) false ⟨#[], #[.string ⟨#[]⟩], []⟩ 8 (by kernel_rfl) (by kernel_rfl) (by kernel_rfl) (by kernel_rfl)) ?_
  intro W base args ds gs before hval0 hW hcnd _
  have hval : ∀ (j : Nat) t v, Try.f5.params[j]? = some t → args[j]? = some v → Value.okWide Try.prog W .any base t v := hval0
  have hW' := hW
  obtain ⟨p, q, hA0, hV, rfl, hfz, hnd⟩ := hW
  have hA : DataW.TrodAll enc Try.prog W 0 (fun _ => true) true Try.f5.params.toList args.toList ds p := hA0
  rw [Try.params5] at hA hval
  obtain ⟨v0, vs0, d0, ds0, p0, q0, hargs, rfl, rfl, h0, r0⟩ := trodAll_cons hA
  obtain ⟨rfl, rfl, rfl⟩ := trodAll_nil r0
  obtain rfl : args = #[v0] := by cases args; simp_all
  obtain ⟨rfl, rfl⟩ := trodVars_none hV
  have k0 := h0
  have lt0 : ∀ x ∈ p0, x.block < W.heap.size := by obtain ⟨m, hm⟩ := k0; exact DataW.trod_lt m _ _ _ hm
  obtain ⟨s, rfl, rfl, rfl, hs⟩ := open_string Try.underlying9 (hval 0 9 v0 rfl rfl) h0
  clear hA0 hval0
  refine (called_any s W hs).mono fun e W' ⟨he, bel⟩ => ?_
  subst he
  exact ⟨_, rfl, _, _, _, [], _, [], hW', trodAll_mk1 (shut_bool Try.underlying4 _), (trodAll_cons_mk (Below.trod Called.laidOut (by kernel_rfl) (of_decide_eq_true (by kernel_rfl)) k0 bel lt0) trodAll_mk0), rfl, bel.frame _, fun h => by cases h⟩

theorem SigCalled_holds : Rows.SigCalledSaid :=
  OpenClaim.holds_of_wide 5 Try.f5 rfl rfl rfl rfl rfl rfl rfl ⟨rfl, rfl, rfl, rfl, rfl⟩ rfl rfl rfl rfl rfl (by kernel_rfl) Try.func5 (by kernel_rfl)
    (of_decide_eq_true (by kernel_rfl)) (by unfold Func.isWrapper; first | (rw [if_pos (by decide +kernel)]; kernel_rfl) | (rw [if_neg (by decide +kernel)]; exact ⟨rfl, rfl⟩))
    (fun os started H enc _ => called_lifted os started H enc)
#print axioms SigCalled_holds
end Go.Proofs.Ytpknnhdpnmkpcaa

/-
  SpineNone: in whatever memory the call returns true, and nothing that was there has turned. No condition.
-/
import Derived.Test.YthfhjopofpffgaaAwake
import Derived.ProofKit
import Derived.OpenShut
namespace Go.Proofs.Ythfhjopofpffgaa
open Go.RowKit
open Go.ChangeShapes Go.WideShapes Go.ChangeAt

theorem nil_push (w : World) (f : Fr) (pv : Value) : Calls Try.prog 12 #[.pointer none, fval f pv] w fun e w' => e = .returned (.tuple #[]) ∧ Same w w' := by
  show Calls Try.prog 12 #[.pointer none, .agg #[.int .i64 f.node, .bool f.whole, .int .i64 f.next, pv]] w _
  go_enter Try.func12, Try.ntmps12
  go_wp2
  go_end0
  exact ⟨rfl, (Turned.refl _ _).alloc _⟩
theorem nil_topn (w : World) : Calls Try.prog 29 #[.pointer none] w fun e w' => e = .returned (.tuple #[.int .i64 0, .int .i64 1]) ∧ w = w' := by
  go_enter Try.func29, Try.ntmps29
  go_wp2
  go_ret2
  exact ⟨rfl, rfl⟩
theorem nil_pop (w : World) : Calls Try.prog 14 #[.pointer none] w fun e w' => e = .returned (.tuple #[fval fzero (.slice none 0 0), .int .i64 1]) ∧ Same w w' := by
  go_enter Try.func14, Try.ntmps14
  go_wp2_with fail
  refine (nil_topn _).mono ?_
  rintro e w1 ⟨rfl, rfl⟩
  go_wp2_with fail
  exact bodyPost_ret (results_frame2 rfl _ rfl (Blk.new w 25 _)) rfl ⟨rfl, (Turned.refl _ _).alloc _⟩
theorem nil_top (w : World) : Calls Try.prog 16 #[.pointer none] w fun e w' => e = .returned (.tuple #[fval fzero (.slice none 0 0), .int .i64 1]) ∧ Same w w' := by
  go_enter Try.func16, Try.ntmps16
  go_wp2_with fail
  refine (nil_topn _).mono ?_
  rintro e w1 ⟨rfl, rfl⟩
  go_wp2_with fail
  exact bodyPost_ret (results_frame2 rfl _ rfl (Blk.new w 25 _)) rfl ⟨rfl, (Turned.refl _ _).alloc _⟩
theorem nil_turn (w : World) (f : Fr) (pv : Value) : Calls Try.prog 18 #[.pointer none, fval f pv] w fun e w' => e = .returned (.int .i64 1) ∧ Same w w' := by
  show Calls Try.prog 18 #[.pointer none, .agg #[.int .i64 f.node, .bool f.whole, .int .i64 f.next, pv]] w _
  go_enter Try.func18, Try.ntmps18
  go_wp2_with fail
  refine (nil_topn _).mono ?_
  rintro e w1 ⟨rfl, rfl⟩
  go_wp2_with fail
  go_ret
  exact ⟨rfl, (Turned.refl _ _).alloc _⟩
theorem nil_move (w : World) : Calls Try.prog 23 #[.pointer none, .slice none 0 0] w fun e w' => e = .returned (.int .i64 1) ∧ w = w' := by
  go_enter Try.func23, Try.ntmps23
  go_wp2
  go_ret
  exact ⟨rfl, rfl⟩
theorem nil_len (w : World) : Calls Try.prog 15 #[.pointer none] w fun e w' => e = .returned (.int .i64 0) ∧ w = w' := by
  go_enter Try.func15, Try.ntmps15
  go_wp2
  go_ret
  exact ⟨rfl, rfl⟩
theorem nil_each (w : World) (fv : Value) : Calls Try.prog 26 #[.pointer none, fv] w fun e w' => e = .returned (.tuple #[]) ∧ w = w' := by
  go_enter Try.func26, Try.ntmps26
  go_wp2_with (first | (go_at_call 15; refine (nil_len _).mono ?_; rintro e w' ⟨rfl, rfl⟩))
  go_loop [7] (fun i => i = .int .i64 0) (fun _ => 0)
  case atStart => exact rfl
  case round =>
    subst hrel
    go_wp2_with fail
    go_end0
    exact ⟨rfl, rfl⟩
theorem nil_path (w : World) : Calls Try.prog 11 #[.pointer none] w fun e w' => e = .returned (.slice none 0 0) ∧ Same w w' := by
  go_enter Try.func11, Try.ntmps11
  go_wp2_with (first | (go_at_call 26; refine (nil_each _ _).mono ?_; rintro e w' ⟨rfl, rfl⟩))
  go_ret
  exact ⟨rfl, (Turned.refl _ _).alloc _⟩
theorem nil_nodes (w : World) : Calls Try.prog 20 #[.pointer none] w fun e w' => e = .returned (.slice none 0 0) ∧ Same w w' := by
  go_enter Try.func20, Try.ntmps20
  go_wp2_with (first | (go_at_call 26; refine (nil_each _ _).mono ?_; rintro e w' ⟨rfl, rfl⟩))
  go_ret
  exact ⟨rfl, (Turned.refl _ _).alloc _⟩
theorem nil_frames (w : World) : Calls Try.prog 19 #[.pointer none] w fun e w' => e = .returned (.slice none 0 0) ∧ Same w w' := by
  go_enter Try.func19, Try.ntmps19
  go_wp2_with (first | (go_at_call 26; refine (nil_each _ _).mono ?_; rintro e w' ⟨rfl, rfl⟩))
  go_ret
  exact ⟨rfl, (Turned.refl _ _).alloc _⟩

set_option maxHeartbeats 2000000 in
theorem none_any (w : World) : Calls Try.prog 8 #[] w fun e w' => e = .returned (.bool true) ∧ Below w.heap.size w w' := by
  go_enter Try.func8, Try.ntmps8
  go_wp2_with fail
  refine (awake_any _).mono ?_
  rintro e w1 ⟨rfl, h1⟩
  have H1 := Lib.hid h1
  clear h1
  go_wp2_with fail
  refine (nil_push _ fzero (.slice none 0 0)).mono ?_
  rintro e w2 ⟨rfl, h2⟩
  have H2 := Lib.hid (H1.out.trans h2 (fun _ h => h.elim))
  clear h2 H1
  go_wp2_with fail
  refine (nil_pop _).mono ?_
  rintro e w3 ⟨rfl, h3⟩
  have H3 := Lib.hid (H2.out.trans h3 (fun _ h => h.elim))
  clear h3 H2
  go_wp2_with fail
  refine (nil_top _).mono ?_
  rintro e w4 ⟨rfl, h4⟩
  have H4 := Lib.hid ((H3.out.alloc _).trans h4 (fun _ h => h.elim))
  clear h4 H3
  go_wp2_with fail
  refine (nil_turn _ fzero (.slice none 0 0)).mono ?_
  rintro e w5 ⟨rfl, h5⟩
  have H5 := Lib.hid ((H4.out.alloc _).trans h5 (fun _ h => h.elim))
  clear h5 H4
  go_wp2_with (first | (go_at_call 23; refine (nil_move _).mono ?_; rintro e w' ⟨rfl, rfl⟩) | (go_at_call 15; refine (nil_len _).mono ?_; rintro e w' ⟨rfl, rfl⟩))
  refine (nil_path _).mono ?_
  rintro e w6 ⟨rfl, h6⟩
  have H6 := Lib.hid (H5.out.trans h6 (fun _ h => h.elim))
  clear h6 H5
  go_wp2_with fail
  refine (nil_nodes _).mono ?_
  rintro e w7 ⟨rfl, h7⟩
  have H7 := Lib.hid (H6.out.trans h7 (fun _ h => h.elim))
  clear h7 H6
  go_wp2_with fail
  refine (nil_frames _).mono ?_
  rintro e w8 ⟨rfl, h8⟩
  have H8 := Lib.hid (H7.out.trans h8 (fun _ h => h.elim))
  clear h8 H7
  go_wp2_with fail
  all_goals go_ret
  all_goals exact ⟨rfl, H8.out.below (Nat.le_refl _) (fun _ h => h.elim)⟩

theorem None.own : ownKnob Try.prog.godebug = none := by kernel_rfl
set_option maxRecDepth 100000 in
theorem none_lifted (os : Os) (started : os.Started) (H : Type) (enc : TypeId × Value → H) :
    ReturnsInHanded {} Try.checked os 8 .any (Rows.spineNoneSpec.pre6 enc Try.prog Try.f8 Rows.spineNoneRow.domain false) (Rows.spineNoneSpec.post enc Try.prog Try.f8 false true false false) := by
  refine returnsInHanded_of_change (C := Try.checked) None.own started (by kernel_rfl) Try.func8
    (ChangeSpec.witness6 (enc := enc) (C := Try.checked) false ⟨#[], #[], []⟩ 8 (by kernel_rfl) (by kernel_rfl) (by kernel_rfl) (by kernel_rfl)) ?_
  intro W base args ds gs before hval0 hW hcnd _
  have hW' := hW
  obtain ⟨p, q, hA0, hV, rfl, hfz, hnd⟩ := hW
  have hA : DataW.TrodAll enc Try.prog W 0 (fun _ => true) true Try.f8.params.toList args.toList ds p := hA0
  rw [Try.params8] at hA
  obtain ⟨rfl, hds, rfl⟩ := trodAll_none hA
  subst hds
  obtain ⟨rfl, rfl⟩ := trodVars_none hV
  clear hA0 hval0
  refine (none_any W).mono fun e W' ⟨he, bel⟩ => ?_
  subst he
  exact ⟨_, rfl, _, _, _, [], _, [], hW', trodAll_mk1 (shut_bool Try.underlying4 _), trodAll_mk0, rfl, bel.frame _, fun h => by cases h⟩

theorem SpineNone_holds : Rows.SpineNoneSaid :=
  OpenClaim.holds_of_wide 8 Try.f8 rfl rfl rfl rfl rfl rfl rfl ⟨rfl, rfl, rfl, rfl, rfl⟩ rfl rfl rfl rfl rfl (by kernel_rfl) Try.func8 (by kernel_rfl)
    (of_decide_eq_true (by kernel_rfl)) (by unfold Func.isWrapper; first | (rw [if_pos (by decide +kernel)]; kernel_rfl) | (rw [if_neg (by decide +kernel)]; exact ⟨rfl, rfl⟩))
    (fun os started H enc _ => none_lifted os started H enc)
#print axioms SpineNone_holds
end Go.Proofs.Ythfhjopofpffgaa

/-
  The walk of (*Sig).Add.
-/
import Derived.Test.YtpknnhdpnmkpcaaWalk1
namespace Go.Proofs.Ytpknnhdpnmkpcaa
open Go.RowKit Go.Maps
open Go.WideMaps Go.WideElems

theorem Try.info31 : (Try.prog.info? 31).map (fun i => (i.zero, i.size, i.bytes)) = some (some (.agg #[.string ⟨#[]⟩, .int .i64 0, .bool false]), 3, 32) := by kernel_rfl

/-- What Add answers, and the list behind it. -/
def addErr (L : List Sym) (x : Sym) : Int :=
  if isNameB x.name = false then 10
  else if x.arity < 0 ∨ 6 < x.arity then 11
  else if (findL L x.name).isSome then 12
  else if L.length = 64 then 13
  else 0

/-- A look-up, in every world that has the same map. -/
theorem look_all {w : World} {bm n : Nat} {D : DataW Unit} (h : w.ownsMap Try.prog 9 (plainElem Try.prog 3) bm n D) (s : ByteArray) (hs : s.size ≤ maxLen) :
    ∃ c : Int, D.atKey (keyL s) (i64 0) = i64 c ∧ ∀ W : World, W.heap[bm]? = w.heap[bm]? → (Instr.lookup 50 (.map (some bm)) (.string s) true).run Try.prog W = .ok (.tuple #[.int .i64 c, .bool (Maps.has D (keyL s))]) W := by
  have hkey : keyOf Try.prog 9 (.string s) = some (keyL s) := keyOf_string_mk Try.underlying9 hs
  have hw0 : (Lit.int .i64 0).wf = true := by decide
  have one : ∀ W : World, W.heap[bm]? = w.heap[bm]? → ∃ c : Int, D.atKey (keyL s) (i64 0) = i64 c ∧ (Instr.lookup 50 (.map (some bm)) (.string s) true).run Try.prog W = .ok (.tuple #[.int .i64 c, .bool (Maps.has D (keyL s))]) W := by
    intro W hW
    have h' : W.ownsMap Try.prog 9 (plainElem Try.prog 3) bm n D := by
      obtain ⟨es, clock, hb, r⟩ := h
      exact ⟨es, clock, hW.trans hb, r⟩
    obtain ⟨v, ps, hrun, hv⟩ := h'.look_ok law9 Try.underlying50 (zero3 W) (plainElem_int Try.underlying3 hw0) hkey
    obtain ⟨c, rfl, hc, _⟩ := plainElem_int_inv Try.underlying3 hv
    simp only [Prod.mk.injEq] at hc
    exact ⟨c, hc.1, hrun⟩
  obtain ⟨c, hc, _⟩ := one w rfl
  refine ⟨c, hc, fun W hW => ?_⟩
  obtain ⟨c', hc', hrun⟩ := one W hW
  have := hc.symm.trans hc'
  obtain rfl : c = c' := by simpa using this
  exact hrun

set_option maxHeartbeats 1000000 in
theorem add_bad (w : World) (b bm : Nat) (v : Value) (L : List Sym) (h : SigAt w b bm v L) (x : Sym) (hs : x.name.size ≤ maxLen) (hE : addErr L x ≠ 0) :
    Calls Try.prog 9 #[.pointer (some ⟨b, 0, none⟩), x.val] w fun e w' => e = .returned (.tuple #[.int .i64 0, .int .i64 (addErr L x)]) ∧ Same w w' := by
  obtain ⟨D, hown, hT⟩ := h.map
  obtain ⟨a, c, rfl, h1, h2⟩ := own_shape h.own
  have c0 := h.blk.cell 0
  have c1 := h.blk.cell 1
  simp at c0 c1
  have hlt := h.blk.lt
  obtain ⟨s, ar, df⟩ := x
  obtain ⟨c, hc, hlook⟩ := look_all hown s hs
  have hmlt := hown.lt
  have hh : Maps.has D (keyL s) = (findL L s).isSome := hT.2.1 s
  rw [hh] at hlook
  have hrun : ∀ (o : Obj) (n : Nat), (Instr.lookup 50 (.map (some bm)) (.string s) true).run Try.prog ((w.alloc o).drewN n) = .ok (.tuple #[.int .i64 c, .bool (findL L s).isSome]) ((w.alloc o).drewN n) :=
    fun o n => hlook _ (Below.heap_alloc w o bm hmlt)
  clear hlook hh hc hT hown hmlt D h
  show Calls Try.prog 9 #[.pointer (some ⟨b, 0, none⟩), .agg #[.string s, .int .i64 ar, .bool df]] w _
  have HE := Lib.hid hE
  clear hE
  cases hn : isNameB s
  · have HA : Hid (addErr L ⟨s, ar, df⟩ = 10) := by unfold Hid addErr; rw [if_pos hn]
    rw [HA.out]
    clear HA HE
    go_enter Try.func9, Try.ntmps9
    go_wp2
    go_quiet (fail)
    go_wp2_with (first | (go_at_call 13; refine (isName_any s _ hs).mono ?_; rintro e w' ⟨rfl, rfl⟩))
    all_goals go_ret2
    all_goals exact ⟨rfl, ((Turned.refl _ _).alloc _).drewN _⟩
  · by_cases har : ar < 0 ∨ 6 < ar
    · have HA : Hid (addErr L ⟨s, ar, df⟩ = 11) := by unfold Hid addErr; rw [if_neg (by simp [hn]), if_pos har]
      rw [HA.out]
      clear HA HE
      go_enter Try.func9, Try.ntmps9
      go_wp2
      go_quiet (fail)
      go_wp2_with (first | (go_at_call 13; refine (isName_any s _ hs).mono ?_; rintro e w' ⟨rfl, rfl⟩))
      all_goals go_ret2
      all_goals exact ⟨rfl, ((Turned.refl _ _).alloc _).drewN _⟩
    · have ha1 : 0 ≤ ar := by omega
      have ha2 : ar ≤ 6 := by omega
      cases hf : (findL L s).isSome
      · have hl : L.length = 64 := by
          apply Classical.byContradiction
          intro h
          apply HE.out
          unfold addErr; rw [if_neg (by simp [hn]), if_neg har, if_neg (by simp [hf]), if_neg h]
        have HA : Hid (addErr L ⟨s, ar, df⟩ = 13) := by unfold Hid addErr; rw [if_neg (by simp [hn]), if_neg har, if_neg (by simp [hf]), if_pos hl]
        rw [HA.out]
        clear HA HE har
        have hl2 : ((L.length : Int) == 64) = true := by rw [hl]; rfl
        clear hl
        go_enter Try.func9, Try.ntmps9
        go_wp2
        go_quiet (fail)
        go_wp2_with (first | (go_at_call 13; refine (isName_any s _ hs).mono ?_; rintro e w' ⟨rfl, rfl⟩))
        all_goals go_ret2
        all_goals exact ⟨rfl, ((Turned.refl _ _).alloc _).drewN _⟩
      · have HA : Hid (addErr L ⟨s, ar, df⟩ = 12) := by unfold Hid addErr; rw [if_neg (by simp [hn]), if_neg har, if_pos hf]
        rw [HA.out]
        clear HA HE har
        go_enter Try.func9, Try.ntmps9
        go_wp2
        go_quiet (fail)
        go_wp2_with (first | (go_at_call 13; refine (isName_any s _ hs).mono ?_; rintro e w' ⟨rfl, rfl⟩))
        all_goals go_ret2
        all_goals exact ⟨rfl, ((Turned.refl _ _).alloc _).drewN _⟩

end Go.Proofs.Ytpknnhdpnmkpcaa

/-
  The walk of the law's signature.
-/
import Derived.Test.YteohhiefchoamaaRefAdd
import Derived.Test.YteohhiefchoamaaBuild2
namespace Go.Proofs.Yteohhiefchoamaa
open Go.RowKit

def sigL (X : List Sym) : List Sym := X.foldl addL []
theorem sigL_snoc (X : List Sym) (x : Sym) : sigL (X ++ [x]) = addL (sigL X) x := by simp [sigL]
theorem addL_ar {L : List Sym} {x : Sym} (h : ∀ y ∈ L, 0 ≤ y.arity ∧ y.arity ≤ 6) : ∀ y ∈ addL L x, 0 ≤ y.arity ∧ y.arity ≤ 6 := by
  intro y hy
  unfold addL at hy
  by_cases he : addErr L x = 0
  · rw [if_pos he, List.mem_append] at hy
    rcases hy with hy | hy
    · exact h y hy
    · obtain rfl : y = x := by simpa using hy
      obtain ⟨_, h1, h2, _⟩ := addErr_zero he
      exact ⟨h1, h2⟩
  · rw [if_neg he] at hy; exact h y hy
theorem sigL_ar (X : List Sym) : ∀ x ∈ sigL X, 0 ≤ x.arity ∧ x.arity ≤ 6 := by
  unfold sigL
  have gen : ∀ (X : List Sym) (L : List Sym), (∀ x ∈ L, 0 ≤ x.arity ∧ x.arity ≤ 6) → ∀ x ∈ X.foldl addL L, 0 ≤ x.arity ∧ x.arity ≤ 6 := by
    intro X
    induction X with
    | nil => intro L h; exact h
    | cons a r ih => intro L h; exact ih _ (addL_ar h)
  exact gen X [] (by simp)

theorem add_any (w : World) (b bm : Nat) (v : Value) (L : List Sym) (h : SigAt w b bm v L) (x : Sym) (hs : x.name.size ≤ maxLen) :
    Calls Try.prog 42 #[.pointer (some ⟨b, 0, none⟩), x.val] w fun e w' => ∃ (v' : Value) (a : Int), e = .returned (.tuple #[.int .i64 a, .int .i64 (addErr L x)]) ∧ SigAt w' b bm v' (addL L x) ∧ Turned (foot b bm v) w w' ∧
      (v'.ownBlock = v.ownBlock ∨ ∃ k, v'.ownBlock = some k ∧ w.heap.size ≤ k) := by
  by_cases hE : addErr L x = 0
  · refine (add_ok w b bm v L h x hs hE).mono ?_
    rintro e w' ⟨v', rfl, h1, h2, h3⟩
    exact ⟨v', _, by rw [hE], by unfold addL; rw [if_pos hE]; exact h1, h2, h3⟩
  · refine (add_bad w b bm v L h x hs hE).mono ?_
    rintro e w' ⟨rfl, h1⟩
    exact ⟨v, _, rfl, by unfold addL; rw [if_neg hE]; exact h.turned h1 (fun _ _ h => h), h1.mono (fun _ h => h.elim), .inl rfl⟩

/-- A signature, and the reference's beside it, both made since w. -/
structure SigTwo (w wr : World) (bs bm r : Nat) (L : List Sym) : Prop where
  same : Same w wr
  ex : ∃ v u, SigAt wr bs bm v L ∧ RSig wr r u L ∧ (∀ k, foot bs bm v k → w.heap.size ≤ k ∧ ¬ rfoot r u k) ∧ (∀ k, rfoot r u k → w.heap.size ≤ k)
theorem SigAt.flt {w : World} {b bm : Nat} {v : Value} {L : List Sym} (h : SigAt w b bm v L) : ∀ k, foot b bm v k → k < w.heap.size := by
  obtain ⟨D, hD, _⟩ := h.map
  rintro k (rfl | rfl | hk)
  · exact h.blk.lt
  · exact hD.lt
  · exact (h.own.lt k hk).2
theorem RSig.flt {w : World} {r : Nat} {u : Value} {L : List Sym} (h : RSig w r u L) : ∀ k, rfoot r u k → k < w.heap.size := by
  rintro k (rfl | hk)
  · exact h.blk.lt
  · exact (h.own.lt k hk).2

set_option maxHeartbeats 4000000 in
theorem signature_any (w : World) (v : Value) (X : List Sym) (hX : SymRd w v X) (hs : ∀ x ∈ X, x.name.size ≤ maxLen) (hl : X.length ≤ 17592186044416) :
    Calls Try.prog 11 #[v] w fun e w' => ∃ (bs bm : Nat) (sv u : Value), e = .returned (.tuple #[.pointer (some ⟨bs, 0, none⟩), u]) ∧ SigAt w' bs bm sv (sigL X) ∧ w'.ownsRow 0 84 3 u (sigL X).length (symCells (sigL X)) ∧ Same w w' ∧ (∀ k, foot bs bm sv k → w.heap.size ≤ k ∧ u.ownBlock ≠ some k) ∧ (∀ k, u.ownBlock = some k → w.heap.size ≤ k) := by
  have HX := Lib.hid hX; have HSz := Lib.hid hs
  obtain ⟨A, c, rfl, hA⟩ := hX
  clear hA hs
  go_enter Try.func11, Try.ntmps11
  go_wp2_with fail
  refine (new_any _).mono ?_
  rintro e w1 ⟨bs, bm, rfl, h1, hs1, hn1, hn2⟩
  have HT : Hid (SigTwo w (w1.alloc (.cells #[.slice none 0 0] 99)) bs bm w1.heap.size []) := by
    refine ⟨hs1.alloc _, .slice none 0 0, .slice none 0 0, h1.turned (S := fun _ => False) ((Turned.refl _ _).alloc _) (fun _ _ h => h), ⟨Blk.new w1 99 _, World.ownsRow_nil _ _ _ _⟩, fun k hk => ⟨?_, ?_⟩, ?_⟩
    · rcases hk with rfl | rfl | hk
      · exact hn1
      · exact hn2
      · simp [Value.ownBlock] at hk
    · have := h1.flt k hk
      rintro (rfl | h)
      · omega
      · simp [Value.ownBlock] at h
    · rintro k (rfl | h)
      · exact hs1.size
      · simp [Value.ownBlock] at h
  clear h1 hs1 hn1 hn2
  go_wp2_with fail
  go_loopw [6] (fun i wr => ∃ k : Nat, k ≤ X.length ∧ i = .int .i64 k ∧ Hid (SigTwo w wr bs bm w1.heap.size (sigL (X.take k)))) (fun i _ => X.length - (intOf i).toNat)
  case atStart => exact ⟨0, Nat.zero_le _, rfl, HT.out⟩
  case round =>
    obtain ⟨k, hk, rfl, HV⟩ := hrel
    obtain ⟨hsm, sv, u, hS, hR, hd1, hd2⟩ := HV.out
    have HSm := Lib.hid hsm; have HSg := Lib.hid hS; have HRs := Lib.hid hR; have HD1 := Lib.hid hd1; have HD2 := Lib.hid hd2
    clear HV hsm hS hR hd1 hd2
    by_cases hlt : k < X.length
    · obtain ⟨A2, c2, ea, hA⟩ := HX.out
      injection ea with e1 _ e2
      subst e1; subst e2
      obtain ⟨bl, off, rfl, hc⟩ := hA (by omega)
      obtain ⟨d0w, d1w, d2w⟩ := hc k hlt
      have hbl := World.block_lt_of_cell? _ _ d0w
      simp only at hbl
      have d0 := (HSm.out.cell (p := ⟨bl, off + k * 3, none⟩) hbl (fun h => h)).trans d0w
      have d1 := (HSm.out.cell (p := ⟨bl, off + k * 3 + 1, none⟩) hbl (fun h => h)).trans d1w
      have d2 := (HSm.out.cell (p := ⟨bl, off + k * 3 + 2, none⟩) hbl (fun h => h)).trans d2w
      have hnm := HSz.out X[k] (List.getElem_mem _)
      have htk : sigL (X.take (k + 1)) = addL (sigL (X.take k)) X[k] := by rw [List.take_succ_eq_append_getElem hlt, sigL_snoc]
      obtain ⟨⟨nm, ar, df⟩, hx⟩ : ∃ x, x = X[k] := ⟨_, rfl⟩
      rw [← hx] at d0 d1 d2 d0w d1w d2w hnm htk
      simp only at d0 d1 d2 d0w d1w d2w hnm
      have HD : Hid (w.cell? ⟨bl, off + k * 3, none⟩ = some (.string nm) ∧ w.cell? ⟨bl, off + k * 3 + 1, none⟩ = some (.int .i64 ar) ∧ w.cell? ⟨bl, off + k * 3 + 2, none⟩ = some (.bool df)) := ⟨d0w, d1w, d2w⟩
      have HTk := Lib.hid htk
      have hfew := HSg.out.few
      clear hc hA hx htk d0w d1w d2w
      have hk0 : (0 : Int) ≤ k := by omega
      have hk1 : (k : Int) < X.length := by omega
      have HAdd : Hid (Calls Try.prog 42 #[.pointer (some ⟨bs, 0, none⟩), .agg #[.string nm, .int .i64 ar, .bool df]] wr fun e w' => ∃ (v' : Value) (a : Int), e = .returned (.tuple #[.int .i64 a, .int .i64 (addErr (sigL (X.take k)) ⟨nm, ar, df⟩)]) ∧ SigAt w' bs bm v' (addL (sigL (X.take k)) ⟨nm, ar, df⟩) ∧ Turned (foot bs bm sv) wr w' ∧
          (v'.ownBlock = sv.ownBlock ∨ ∃ k, v'.ownBlock = some k ∧ wr.heap.size ≤ k)) := add_any wr bs bm sv _ HSg.out ⟨nm, ar, df⟩ hnm
      go_wp2_with fail
      refine HAdd.out.mono ?_
      rintro e w2 ⟨v2, a2, rfl, hS2, ht2, hv2⟩
      have HS2 := Lib.hid hS2; have HT2 := Lib.hid ht2; have HV2 := Lib.hid hv2
      have HSm2 : Hid (Same w w2) := HSm.out.trans ht2 (fun i hi => .inr (HD1.out i hi).1)
      have HR2 := Lib.hid (HRs.out.turned ht2 (fun hf => (HD1.out _ hf).2 (.inl rfl)) (fun k hk hf => (HD1.out _ hf).2 (.inr hk)))
      have d0' := (HSm2.out.cell (p := ⟨bl, off + k * 3, none⟩) hbl (fun h => h)).trans HD.out.1
      have d1' := (HSm2.out.cell (p := ⟨bl, off + k * 3 + 1, none⟩) hbl (fun h => h)).trans HD.out.2.1
      have d2' := (HSm2.out.cell (p := ⟨bl, off + k * 3 + 2, none⟩) hbl (fun h => h)).trans HD.out.2.2
      have HRAdd : Hid (Calls Try.prog 43 #[.pointer (some ⟨w1.heap.size, 0, none⟩), .agg #[.string nm, .int .i64 ar, .bool df]] w2 fun e w' => ∃ u', e = .returned (.tuple #[.int .i64 (if addErr (sigL (X.take k)) ⟨nm, ar, df⟩ = 0 then (sigL (X.take k)).length else 0), .int .i64 (addErr (sigL (X.take k)) ⟨nm, ar, df⟩)]) ∧ RSig w' w1.heap.size u' (addL (sigL (X.take k)) ⟨nm, ar, df⟩) ∧ Turned (rfoot w1.heap.size u) w2 w' ∧
          (u'.ownBlock = u.ownBlock ∨ ∃ k, u'.ownBlock = some k ∧ w2.heap.size ≤ k)) := radd_any w2 _ u _ HR2.out ⟨nm, ar, df⟩ hnm hfew
      clear hS2 ht2 hv2 d0 d1 d2
      go_wp2_with fail
      refine HRAdd.out.mono ?_
      rintro e w3 ⟨u3, rfl, hR3, ht3, hu3⟩
      have HN : Hid (SigTwo w w3 bs bm w1.heap.size (sigL (X.take (k + 1)))) := by
        rw [HTk.out]
        have hz := HSm.out.size
        have hz2 := HT2.out.size
        have f1 : ∀ k, foot bs bm v2 k → foot bs bm sv k ∨ wr.heap.size ≤ k := by
          rintro k (rfl | rfl | hk)
          · exact .inl (.inl rfl)
          · exact .inl (.inr (.inl rfl))
          · rcases HV2.out with e | ⟨j, e, hj⟩
            · exact .inl (.inr (.inr (e.symm.trans hk)))
            · have e2 := e.symm.trans hk
              obtain rfl : j = k := by simpa using e2
              exact .inr hj
        have f2 : ∀ k, rfoot w1.heap.size u3 k → rfoot w1.heap.size u k ∨ w2.heap.size ≤ k := by
          rintro k (rfl | hk)
          · exact .inl (.inl rfl)
          · rcases hu3 with e | ⟨j, e, hj⟩
            · exact .inl (.inr (e.symm.trans hk))
            · have e2 := e.symm.trans hk
              obtain rfl : j = k := by simpa using e2
              exact .inr hj
        have hS3 : SigAt w3 bs bm v2 (addL (sigL (X.take k)) ⟨nm, ar, df⟩) := HS2.out.turned ht3 (fun k hk hr => by
          rcases f1 k hk with h | h
          · exact (HD1.out k h).2 hr
          · have := HRs.out.flt k hr; omega)
        refine ⟨HSm2.out.trans ht3 (fun i hi => .inr (HD2.out i hi)), v2, u3, hS3, hR3, fun k hk => ⟨?_, fun hr => ?_⟩, fun k hk => ?_⟩
        · rcases f1 k hk with h | h
          · exact (HD1.out k h).1
          · omega
        · have hk2 := HS2.out.flt k hk
          rcases f1 k hk with h | h
          · rcases f2 k hr with h3 | h3
            · exact (HD1.out k h).2 h3
            · omega
          · rcases f2 k hr with h3 | h3
            · have := HRs.out.flt k h3; omega
            · omega
        · rcases f2 k hk with h | h
          · exact HD2.out k h
          · omega
      clear hR3 ht3 hu3
      go_wp2_with fail
      go_roundw
      case rel => exact ⟨k + 1, by omega, by go_num, HN.out⟩
      case measure => simp [intOf]; omega
    · have hkk : k = X.length := by omega
      subst hkk
      rw [List.take_length] at HSg HRs
      have c0 : wr.cell? ⟨w1.heap.size, 0, none⟩ = some u := (HRs.out.blk.cell 0).trans rfl
      have cl := HRs.out.blk.lt
      go_wp2_with fail
      go_quiet (fail)
      go_wp2_with fail
      go_ret2
      refine ⟨bs, bm, sv, u, rfl, HSg.out.turned ((Turned.refl (fun _ => False) _).drewN _) (fun _ _ h => h), HRs.out.own, HSm.out.drewN _, fun k hk => ⟨(HD1.out k hk).1, fun he => (HD1.out k hk).2 (.inr he)⟩, fun k hk => HD2.out k (.inr hk)⟩
end Go.Proofs.Yteohhiefchoamaa

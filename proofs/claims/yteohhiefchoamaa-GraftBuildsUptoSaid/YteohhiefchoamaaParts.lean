/-
  What a sight sees, in plain; parts of right sides in memory; the walk of shaped.
-/
import Derived.Test.YteohhiefchoamaaLoad
namespace Go.Proofs.Yteohhiefchoamaa
open Go.RowKit

open Classical in
noncomputable def resF (N : List Nd) (a : Nat) : Nat := if h : ∃ b, Res N a b then Classical.choose h else 0
theorem resF_eq {N : List Nd} {a b : Nat} (h : Res N a b) : resF N a = b := by
  unfold resF
  rw [dif_pos ⟨b, h⟩]
  exact (Classical.choose_spec (⟨b, h⟩ : ∃ b, Res N a b)).one h
noncomputable def ndF (N : List Nd) (a : Int) : Option Nd := if 0 ≤ a ∧ a < N.length then N[resF N a.toNat]? else none
noncomputable def argF (N : List Nd) (a n : Int) : Int :=
  match ndF N a with
  | none => -1
  | some nd => if 0 ≤ n then (match nd.args[n.toNat]? with | none => -1 | some d => (resF N d.toNat : Int)) else -1
noncomputable def headF (N : List Nd) (a : Int) : Int × Bool :=
  match ndF N a with
  | none => (-1, false)
  | some nd => (nd.sym, nd.mark != 0)

theorem resolve_never (w : World) (b : Nat) (room : Int) (v : Value) (N : List NV) (h : HeapAt w b room v N) (a : Int) (ha : ¬ (0 ≤ a ∧ a < (N.length : Int))) :
    ∀ w0, Same w w0 → Calls Try.prog 47 #[.pointer (some ⟨b, 0, none⟩), .int .i64 a] w0 fun e w' => (∃ k, k ≠ 0 ∧ e = .returned (.tuple #[.int .i64 0, .int .i64 k])) ∧ w0 = w' :=
  fun w0 h0 => (resolve_bad w0 b room v N (h.same h0) a (by omega)).mono fun _ _ ⟨h1, h2⟩ => ⟨⟨112, by decide, h1⟩, h2⟩
theorem args_in {N : List Nd} (hr : Ranked N) {c : Nat} {nd : Nd} (hc : N[c]? = some nd) (hp : nd.points = false) : ∀ d ∈ nd.args, ∃ j : Nat, d = (j : Int) ∧ j < N.length := by
  obtain ⟨rk, h⟩ := hr
  obtain ⟨hl, rfl⟩ := List.getElem?_eq_some_iff.1 hc
  intro d hd
  obtain ⟨j, e, hj, _⟩ := h c hl d (by simp [down, hp, hd])
  exact ⟨j, e, hj⟩

theorem arg_any (w : World) (b : Nat) (room : Int) (v : Value) (N : List NV) (h : HeapAt w b room v N) (hr : Ranked (N.map (·.1))) (hl : ∀ x ∈ N, x.1.args.length ≤ 17592186044416) (a n : Int) :
    Calls Try.prog 22 #[sv (some ⟨b, 0, none⟩), .int .i64 a, .int .i64 n] w fun e w' => e = .returned (.int .i64 (argF (N.map (·.1)) a n)) ∧ Same w w' := by
  by_cases ha : 0 ≤ a ∧ a < (N.length : Int)
  · obtain ⟨k, rfl⟩ : ∃ k : Nat, a = (k : Int) := ⟨a.toNat, by omega⟩
    have hk : k < N.length := by omega
    obtain ⟨c, hc⟩ := hr.res k (by simpa using hk)
    obtain ⟨hcl, hcp⟩ := hc.lt
    have hnd : ndF (N.map (·.1)) (k : Int) = (N.map (·.1))[c]? := by
      unfold ndF
      rw [if_pos ⟨by omega, by simp; omega⟩, Int.toNat_natCast, resF_eq hc]
    have hge : (N.map (·.1))[c]? = some ((N.map (·.1))[c]) := List.getElem?_eq_getElem hcl
    obtain ⟨nd, hnd2⟩ : ∃ nd, (N.map (·.1))[c]? = some nd := ⟨_, hge⟩
    have hp : nd.points = false := by rw [hge] at hnd2; injection hnd2 with e; rw [← e]; exact hcp
    have hA : argF (N.map (·.1)) (k : Int) n = if 0 ≤ n then (match nd.args[n.toNat]? with | none => -1 | some d => (resF (N.map (·.1)) d.toNat : Int)) else -1 := by
      unfold argF; rw [hnd, hnd2]
    rw [hA]
    by_cases hn : 0 ≤ n
    · rw [if_pos hn]
      obtain ⟨m, rfl⟩ : ∃ m : Nat, n = (m : Int) := ⟨n.toNat, by omega⟩
      rw [Int.toNat_natCast]
      cases hm : nd.args[m]? with
      | none =>
        have : nd.args.length ≤ m := List.getElem?_eq_none_iff.1 hm
        exact arg_out w b room v N h hr k hk hl m (fun c' nd' h1 h2 => by
          obtain rfl := hc.one h1
          rw [hnd2] at h2; injection h2 with h2; subst h2
          right; omega)
      | some d =>
        obtain ⟨t, rfl, ht⟩ := args_in hr hnd2 hp d (List.mem_of_getElem? hm)
        refine (arg_some w b room v N h hr k hk hl m c nd t hc hnd2 hm (by simpa using ht)).mono ?_
        rintro e w' ⟨q, hq, rfl, hs⟩
        simp only [Int.toNat_natCast]
        rw [resF_eq hq]
        exact ⟨rfl, hs⟩
    · rw [if_neg hn]
      exact arg_out w b room v N h hr k hk hl n (fun c' nd' h1 h2 => by left; omega)
  · have hA : argF (N.map (·.1)) a n = -1 := by
      unfold argF ndF
      rw [if_neg (by simpa using ha)]
    rw [hA]
    exact arg_none w _ a n (resolve_never w b room v N h a ha)
theorem head_any (w : World) (b : Nat) (room : Int) (v : Value) (N : List NV) (h : HeapAt w b room v N) (hr : Ranked (N.map (·.1))) (hl : ∀ x ∈ N, x.1.args.length ≤ 17592186044416) (a : Int) :
    Calls Try.prog 20 #[sv (some ⟨b, 0, none⟩), .int .i64 a] w fun e w' => e = .returned (.tuple #[.int .i64 (headF (N.map (·.1)) a).1, .bool (headF (N.map (·.1)) a).2]) ∧ Same w w' := by
  by_cases ha : 0 ≤ a ∧ a < (N.length : Int)
  · obtain ⟨k, rfl⟩ : ∃ k : Nat, a = (k : Int) := ⟨a.toNat, by omega⟩
    have hk : k < N.length := by omega
    refine (head_some w b room v N h hr k hk hl).mono ?_
    rintro e w' ⟨c, nd, hc, hnd, rfl, hs⟩
    have hH : headF (N.map (·.1)) (k : Int) = (nd.sym, nd.mark != 0) := by
      unfold headF ndF
      rw [if_pos ⟨by omega, by simp; omega⟩, Int.toNat_natCast, resF_eq hc, hnd]
    rw [hH]
    exact ⟨rfl, hs⟩
  · have hA : headF (N.map (·.1)) a = (-1, false) := by
      unfold headF ndF
      rw [if_neg (by simpa using ha)]
    rw [hA]
    exact head_none w _ a (resolve_never w b room v N h a ha)

structure PartD where
  sym : Int
  path : List Int
def PartsAt (w : World) (S : Nat → Prop) (pv : Value) (Q : List PartD) : Prop :=
  ∃ A c, pv = .slice A Q.length c ∧ (0 < Q.length → ∃ bl off, A = some ⟨bl, off, none⟩ ∧ ¬ S bl ∧ ∀ k (h : k < Q.length), w.cell? ⟨bl, off + k * 2, none⟩ = some (.int .i64 Q[k].sym) ∧ ∃ qv, w.cell? ⟨bl, off + k * 2 + 1, none⟩ = some qv ∧ RdS w S qv Q[k].path)
def RightsAt (w : World) (S : Nat → Prop) (rv : Value) (R : List (List PartD)) : Prop :=
  ∃ A c, rv = .slice A R.length c ∧ (0 < R.length → ∃ bl off, A = some ⟨bl, off, none⟩ ∧ ¬ S bl ∧ ∀ k (h : k < R.length), ∃ pv, w.cell? ⟨bl, off + k, none⟩ = some pv ∧ PartsAt w S pv R[k])
theorem PartsAt.keep {w w' : World} {S : Nat → Prop} {pv : Value} {Q : List PartD} (h : PartsAt w S pv Q) (ht : Turned S w w') : PartsAt w' S pv Q := by
  obtain ⟨A, c, rfl, h1⟩ := h
  refine ⟨A, c, rfl, fun h0 => ?_⟩
  obtain ⟨bl, off, rfl, hb, hc⟩ := h1 h0
  refine ⟨bl, off, rfl, hb, fun k hk => ?_⟩
  obtain ⟨c0, qv, c1, hq⟩ := hc k hk
  have hl := World.block_lt_of_cell? w _ c0
  exact ⟨(ht.cell (p := ⟨bl, off + k * 2, none⟩) hl hb).trans c0, qv, (ht.cell (p := ⟨bl, off + k * 2 + 1, none⟩) hl hb).trans c1, hq.keep ht⟩
theorem RightsAt.keep {w w' : World} {S : Nat → Prop} {rv : Value} {R : List (List PartD)} (h : RightsAt w S rv R) (ht : Turned S w w') : RightsAt w' S rv R := by
  obtain ⟨A, c, rfl, h1⟩ := h
  refine ⟨A, c, rfl, fun h0 => ?_⟩
  obtain ⟨bl, off, rfl, hb, hc⟩ := h1 h0
  refine ⟨bl, off, rfl, hb, fun k hk => ?_⟩
  obtain ⟨pv, c0, hp⟩ := hc k hk
  exact ⟨pv, (ht.cell (p := ⟨bl, off + k, none⟩) (World.block_lt_of_cell? w _ c0) hb).trans c0, hp.keep ht⟩
theorem PartsAt.same {w w' : World} {S : Nat → Prop} {pv : Value} {Q : List PartD} (h : PartsAt w S pv Q) (ht : Same w w') : PartsAt w' S pv Q := h.keep (ht.mono (fun _ h => h.elim))
theorem RightsAt.same {w w' : World} {S : Nat → Prop} {pv : Value} {R : List (List PartD)} (h : RightsAt w S pv R) (ht : Same w w') : RightsAt w' S pv R := h.keep (ht.mono (fun _ h => h.elim))

def cntP (l : List Int) : Nat := (l.filter fun n => decide (0 ≤ n)).length
theorem cntP_take (l : List Int) (k : Nat) (h : k < l.length) : cntP (l.take (k + 1)) = cntP (l.take k) + (if 0 ≤ l[k] then 1 else 0) := by
  unfold cntP
  rw [List.take_succ_eq_append_getElem h, List.filter_append, List.length_append]
  by_cases h0 : 0 ≤ l[k] <;> simp [h0]

def wellB (L : List Sym) : Nat → List Int → Bool
  | w, [] => w == 0
  | w, n :: r => decide (0 < w) && wellB L (w - 1 + arN L n) r
theorem wellB_iff (L : List Sym) : ∀ (l : List Int) (w : Nat), wellB L w l = true ↔ Well L w l
  | [], w => by simp [wellB, Well]
  | n :: r, w => by simp [wellB, Well, wellB_iff L r]
theorem wellB_of {L : List Sym} {l : List Int} {w : Nat} (h : Well L w l) : wellB L w l = true := (wellB_iff L l w).2 h
theorem wellB_not {L : List Sym} {l : List Int} {w : Nat} (h : ¬ Well L w l) : wellB L w l = false := by
  rw [Bool.eq_false_iff]; exact fun h2 => h ((wellB_iff L l w).1 h2)

set_option maxHeartbeats 4000000 in
theorem shaped_any (w : World) (bs bm : Nat) (vs : Value) (L : List Sym) (hs : SigAt w bs bm vs L) (hL : ∀ x ∈ L, 0 ≤ x.arity ∧ x.arity ≤ 6) (S : Nat → Prop) (pv : Value) (Q : List PartD) (hQ : PartsAt w S pv Q) (hS : ∀ q ∈ Q, q.sym < L.length) (hlen : Q.length ≤ 4398046511104) :
    Calls Try.prog 49 #[.pointer (some ⟨bs, 0, none⟩), pv] w fun e w' => ∃ m : Int, e = .returned (.tuple #[.bool (wellB L 1 (Q.map (·.sym))), .int .i64 m]) ∧ (Well L 1 (Q.map (·.sym)) → m = cntP (Q.map (·.sym))) ∧ Same w w' := by
  have HS := Lib.hid hs; have HL := Lib.hid hL; have HQ := Lib.hid hQ; have HSy := Lib.hid hS
  obtain ⟨A, c, rfl, hA⟩ := hQ
  clear hs hL hS hA
  go_enter Try.func49, Try.ntmps49
  go_wp2_with fail
  go_loopw [6, 7, 14] (fun a b i wr => ∃ k o m : Nat, k ≤ Q.length ∧ o ≤ 1 + 6 * k ∧ m ≤ k ∧ a = .int .i64 o ∧ b = .int .i64 m ∧ i = .int .i64 k ∧ Hid ((Well L 1 (Q.map (·.sym)) ↔ Well L o ((Q.map (·.sym)).drop k)) ∧ m = cntP ((Q.map (·.sym)).take k) ∧ Same w wr)) (fun _ _ i _ => Q.length - (intOf i).toNat)
  case atStart => exact ⟨0, 1, 0, Nat.zero_le _, by omega, by omega, rfl, rfl, rfl, by simp, by simp [cntP], Turned.refl _ _⟩
  case round =>
    obtain ⟨k, o, m, hk, ho, hm, rfl, rfl, rfl, HV⟩ := hrel
    by_cases hlt : k < Q.length
    · obtain ⟨A2, c2, ea, hA⟩ := HQ.out.same HV.out.2.2
      injection ea with e1 _ e2
      subst e1; subst e2
      obtain ⟨bl, off, rfl, _, hc⟩ := hA (by omega)
      obtain ⟨d0, qv, d1, hqv⟩ := hc k hlt
      obtain ⟨qA, qc, rfl, _⟩ := hqv
      have hdr : (Q.map (·.sym)).drop k = Q[k].sym :: (Q.map (·.sym)).drop (k + 1) := by
        rw [List.drop_eq_getElem_cons (by simpa using hlt)]; simp
      have hct := cntP_take (Q.map (·.sym)) k (by simpa using hlt)
      simp only [List.getElem_map] at hct
      have HX := Lib.hid (HSy.out Q[k] (List.getElem_mem _))
      obtain ⟨⟨x, pth⟩, hx⟩ : ∃ x, x = Q[k] := ⟨_, rfl⟩
      rw [← hx] at d0 d1 hdr HX hct
      simp only at d0 d1 hdr HX hct
      have HDr := Lib.hid hdr; have HCt := Lib.hid hct
      have h6 := arN_le HL.out x
      have hk0 : (0 : Int) ≤ k := by omega
      have hk1 : (k : Int) < Q.length := by omega
      clear hc hA hx hdr hct
      by_cases h0 : o = 0
      · subst h0
        have HNo : Hid (¬ Well L 1 (Q.map (·.sym))) := by
          rw [HV.out.1, HDr.out]
          exact fun h => absurd h.1 (by omega)
        have HW := Lib.hid HV.out.2.2
        clear HV
        go_wp2_with fail
        go_ret2
        exact ⟨0, by rw [wellB_not HNo.out]; rfl, fun h => (HNo.out h).elim, HW.out.alloc _⟩
      · have hoz : ((o : Int) == 0) = false := by rw [beq_eq_false_iff_ne]; omega
        have HWell : Hid (Well L 1 (Q.map (·.sym)) ↔ Well L (o - 1 + arN L x) ((Q.map (·.sym)).drop (k + 1))) := by
          unfold Hid
          rw [HV.out.1, HDr.out]
          exact ⟨fun h => h.2, fun h => ⟨by omega, h⟩⟩
        have HM := Lib.hid HV.out.2.1
        have HW := Lib.hid HV.out.2.2
        clear HV
        by_cases hx0 : 0 ≤ x
        · obtain ⟨p, rfl⟩ : ∃ p : Nat, x = (p : Int) := ⟨x.toNat, by omega⟩
          have hpL : p < L.length := by have := HX.out; omega
          obtain ⟨y, hy⟩ : ∃ y, L[p]? = some y := ⟨L[p], List.getElem?_eq_getElem hpL⟩
          have hya := HL.out y (List.mem_of_getElem? hy)
          obtain ⟨q, hq⟩ : ∃ q : Nat, y.arity = (q : Int) := ⟨y.arity.toNat, by omega⟩
          have har2 : arN L (p : Int) = q := by rw [arN_at hy, hq]; simp
          rw [har2] at HWell h6
          have hval : Hid (∀ W, SigAt W bs bm vs L → Calls Try.prog 76 #[.pointer (some ⟨bs, 0, none⟩), .int .i64 p] W fun e w' => e = .returned (.tuple #[.agg #[.string y.name, .int .i64 q, .bool y.defd], .int .i64 0]) ∧ Same W w') := by
            intro W hW
            have := sig_at W bs bm vs L hW p y hy
            rwa [hq] at this
          have HCt2 : Hid (cntP ((Q.map (·.sym)).take (k + 1)) = m + 1) := by
            unfold Hid; rw [HCt.out, if_pos hx0, ← HM.out]
          have hge : (p : Int) ≥ 0 := hx0
          clear hy hya hq har2 hpL
          go_wp2_with fail
          refine (hval.out _ (HS.out.turned (HW.out.alloc _) (fun _ _ h => h))).mono ?_
          rintro e w1 ⟨rfl, hs1⟩
          have HS1 : Hid (Same w w1) := (HW.out.alloc _).trans hs1 (fun _ h => h.elim)
          clear hs1
          go_wp2_with fail
          go_roundw
          case rel => exact ⟨k + 1, o - 1 + q, m + 1, by omega, by omega, by omega, by go_num, by go_num, by go_num, HWell.out, HCt2.out.symm, HS1.out.alloc _⟩
          case measure => simp [intOf]; omega
        · have hge : ¬ x ≥ 0 := hx0
          have har0 : arN L x = 0 := by unfold arN; rw [if_pos (by omega)]
          rw [har0] at HWell
          have HCt2 : Hid (cntP ((Q.map (·.sym)).take (k + 1)) = m) := by
            unfold Hid; rw [HCt.out, if_neg hx0, ← HM.out]; rfl
          clear har0 h6
          go_wp2_with fail
          go_roundw
          case rel => exact ⟨k + 1, o - 1, m, by omega, by omega, by omega, by go_num, rfl, by go_num, HWell.out, HCt2.out.symm, HW.out.alloc _⟩
          case measure => simp [intOf]; omega
    · have hkk : k = Q.length := by omega
      subst hkk
      have HWell : Hid (Well L 1 (Q.map (·.sym)) ↔ o = 0) := by
        unfold Hid
        rw [HV.out.1, List.drop_of_length_le (by simp)]; rfl
      have HM : Hid (m = cntP (Q.map (·.sym))) := by
        have := HV.out.2.1
        rwa [List.take_of_length_le (by simp)] at this
      have HW := Lib.hid HV.out.2.2
      clear HV
      by_cases h0 : o = 0
      · subst h0
        go_wp2_with fail
        go_ret2
        exact ⟨m, by rw [wellB_of (HWell.out.2 trivial)]; rfl, fun _ => by rw [← HM.out], HW.out⟩
      · have hoz : ((o : Int) == 0) = false := by rw [beq_eq_false_iff_ne]; omega
        go_wp2_with fail
        go_ret2
        exact ⟨m, by rw [wellB_not (fun h => h0 (HWell.out.1 h))]; rfl, fun h => (h0 (HWell.out.1 h)).elim, HW.out⟩
end Go.Proofs.Yteohhiefchoamaa

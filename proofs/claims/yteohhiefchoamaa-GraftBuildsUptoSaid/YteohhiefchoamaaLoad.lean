/-
  The walk of Load.
-/
import Derived.Test.YteohhiefchoamaaTerm
namespace Go.Proofs.Yteohhiefchoamaa
open Go.RowKit

def whyV (k : Int) : Value := if k = 0 then .nilIface else .iface 63 (.int .i64 k)
/-- An error that is a Fault: its number, its place, the number of what it comes of. -/
def FaultV (w w' : World) (e : Value) (code at_ why : Int) : Prop := ∃ q, e = .iface 104 (.pointer (some ⟨q, 0, none⟩)) ∧ Blk w' q 106 #[.int .i64 code, .int .i64 at_, whyV why] ∧ w.heap.size ≤ q
theorem RdS.same {w w' : World} {S : Nat → Prop} {pv : Value} {p : List Int} (h : RdS w S pv p) (ht : Same w w') : RdS w' S pv p := h.keep (ht.mono (fun _ h => h.elim))

theorem load_nil1 (w : World) (p : Option Addr) (tv : Value) : Calls Try.prog 15 #[.pointer none, .pointer p, tv] w fun e w' => ∃ ev, e = .returned (.tuple #[.int .i64 0, ev]) ∧ FaultV w w' ev 1 0 0 ∧ Same w w' := by
  go_enter Try.func15, Try.ntmps15
  go_wp2_with fail
  go_ret2
  exact ⟨_, rfl, ⟨w.heap.size, rfl, Blk.new w 106 _, Nat.le_refl _⟩, (Turned.refl _ _).alloc _⟩
theorem load_nil2 (w : World) (a : Addr) (tv : Value) : Calls Try.prog 15 #[.pointer (some a), .pointer none, tv] w fun e w' => ∃ ev, e = .returned (.tuple #[.int .i64 0, ev]) ∧ FaultV w w' ev 1 0 0 ∧ Same w w' := by
  go_enter Try.func15, Try.ntmps15
  go_wp2_with fail
  go_ret2
  exact ⟨_, rfl, ⟨w.heap.size, rfl, Blk.new w 106 _, Nat.le_refl _⟩, (Turned.refl _ _).alloc _⟩

/-- What Load says. -/
def loadBad (L : List Sym) (room : Int) (used : Nat) (t : List Int) : Option (Int × Int) :=
  if checkP L t ≠ 0 then some (130, checkP L t) else if (t.any fun n => decide (n < 0)) = true then some (130, 0) else if room - used < t.length then some (131, 111) else none

theorem checkP_zero {L : List Sym} {t : List Int} (h : checkP L t = 0) : t.length ≤ 2000 ∧ (∀ n ∈ t, n < L.length) ∧ Well L 1 t := by
  unfold checkP at h
  by_cases h1 : 2000 < t.length
  · rw [if_pos h1] at h; cases h
  · rw [if_neg h1] at h
    by_cases h2 : badT L t ≠ 0
    · rw [if_pos h2] at h; exact absurd h h2
    · rw [if_neg h2] at h
      have h2' : badT L t = 0 := by omega
      by_cases h3 : endF L 1 t = t.length
      · refine ⟨by omega, fun n hn => ?_, (endF_well L t 1).1 h3⟩
        have h4 := badT_zero.1 h2' n hn
        unfold badN at h4
        by_cases h5 : (L.length : Int) ≤ n
        · rw [if_pos h5] at h4; cases h4
        · omega
      · rw [if_neg h3] at h; cases h

set_option maxRecDepth 100000 in
set_option maxHeartbeats 4000000 in
theorem load_any (w : World) (bs bm : Nat) (vs : Value) (L : List Sym) (hs : SigAt w bs bm vs L) (hL : ∀ x ∈ L, 0 ≤ x.arity ∧ x.arity ≤ 6) (b : Nat) (room : Int) (v : Value) (N : List NV) (h : HeapAt w b room v N) (hr4 : room ≤ 4000) (tv : Value) (t : List Int)
    (hl : RdS w (hfoot b v) tv t) (hlen : t.length ≤ 17592186044416) (hNr : (N.length : Int) ≤ room) :
    Calls Try.prog 15 #[.pointer (some ⟨bs, 0, none⟩), .pointer (some ⟨b, 0, none⟩), tv] w fun e w' =>
      (∃ c y ev, loadBad L room N.length t = some (c, y) ∧ e = .returned (.tuple #[.int .i64 0, ev]) ∧ FaultV w w' ev c 0 y ∧ Same w w') ∨
      (∃ v' M a, loadBad L room N.length t = none ∧ (layF L N.length (t.map fun n => (n, 0))).1 = [a] ∧ e = .returned (.tuple #[.int .i64 a, .nilIface]) ∧ HeapAt w' b room v' (N ++ M) ∧ M.map (·.1) = (layF L N.length (t.map fun n => (n, 0))).2 ∧ Turned (hfoot b v) w w' ∧ (v'.ownBlock = v.ownBlock ∨ ∃ j, v'.ownBlock = some j ∧ w.heap.size ≤ j)) := by
  have HS := Lib.hid hs; have HL := Lib.hid hL; have H := Lib.hid h; have HLv := Lib.hid hl; have HLen := Lib.hid hlen
  obtain ⟨A, c, rfl, hl2⟩ := hl
  clear hs hL h hl2
  obtain ⟨k, hk⟩ : ∃ k, k = checkP L t := ⟨_, rfl⟩
  have HK := Lib.hid hk
  have HCh : Hid (Calls Try.prog 53 #[.pointer (some ⟨bs, 0, none⟩), .slice A t.length c] w fun e w' => e = .returned (.int .i64 k) ∧ Same w w') := by
    rw [hk]; exact check_any w bs bm vs L HS.out HL.out _ t HLv.out.rd HLen.out
  clear hk
  by_cases hk0 : k = 0
  · subst hk0
    have hcz := checkP_zero HK.out.symm
    have HCz := Lib.hid hcz
    clear hcz
    have hlen2 : t.length ≤ 2000 := HCz.out.1
    go_enter Try.func15, Try.ntmps15
    go_wp2_with fail
    refine HCh.out.mono ?_
    rintro e w1 ⟨rfl, hs1⟩
    have HS1 := Lib.hid hs1
    clear hs1
    go_wp2_with fail
    go_loopw [32] (fun i wr => ∃ k : Nat, k ≤ t.length ∧ i = .int .i64 k ∧ Hid ((∀ n ∈ t.take k, ¬ n < 0) ∧ Same w wr)) (fun i _ => t.length - (intOf i).toNat)
    case atStart => exact ⟨0, Nat.zero_le _, rfl, by simp, HS1.out⟩
    case round =>
      obtain ⟨k, hk, rfl, HV⟩ := hrel
      by_cases hlt : k < t.length
      · obtain ⟨A2, c2, ea, hA⟩ := HLv.out.same HV.out.2
        injection ea with e1 _ e2
        subst e1; subst e2
        obtain ⟨bl, off, rfl, _, hc⟩ := hA (by omega)
        have hd := hc k hlt
        have htk : t.take (k + 1) = t.take k ++ [t[k]] := List.take_succ_eq_append_getElem hlt
        have hmem : t[k] ∈ t := List.getElem_mem _
        obtain ⟨x, hx⟩ : ∃ x, x = t[k] := ⟨_, rfl⟩
        rw [← hx] at hd htk hmem
        have HTk := Lib.hid htk; have HMem := Lib.hid hmem
        clear hc hA hx htk hmem
        have hk0 : (0 : Int) ≤ k := by omega
        have hk1 : (k : Int) < t.length := by omega
        by_cases hneg : x < 0
        · have HBad : Hid (loadBad L room N.length t = some (130, 0)) := by
            unfold Hid loadBad
            rw [← HK.out, if_neg (by decide), if_pos]
            rw [List.any_eq_true]
            exact ⟨x, HMem.out, decide_eq_true hneg⟩
          have HW := Lib.hid HV.out.2
          clear HV
          go_wp2_with fail
          go_ret2
          exact .inl ⟨130, 0, HBad.out, _, rfl, ⟨wr.heap.size, rfl, Blk.new wr 106 _, HW.out.size⟩, HW.out.alloc _⟩
        · have HG : Hid (∀ n ∈ t.take (k + 1), ¬ n < 0) := by
            intro n hn
            rw [HTk.out, List.mem_append] at hn
            rcases hn with h | h
            · exact HV.out.1 n h
            · obtain rfl : n = x := by simpa using h
              exact hneg
          have HW := Lib.hid HV.out.2
          clear HV
          go_wp2_with fail
          exact ⟨⟨k + 1, by omega, by go_num, HG.out, HW.out⟩, by simp [intOf]; omega⟩
      · have hkk : k = t.length := by omega
        subst hkk
        have HPos : Hid (∀ n ∈ t, ¬ n < 0) := by have := HV.out.1; rwa [List.take_length] at this
        have HW := Lib.hid HV.out.2
        have HH := Lib.hid (H.out.same HV.out.2)
        have HSg := Lib.hid (HS.out.turned HV.out.2 (fun _ _ h => h))
        have HLw := Lib.hid (HLv.out.same HV.out.2)
        have HAny : Hid ((t.any fun n => decide (n < 0)) = false) := by
          unfold Hid
          rw [List.any_eq_false]
          intro n hn
          simpa using HPos.out n hn
        clear HV
        have hwp : IntKind.i64.wrap (room - (N.length : Int)) = room - N.length := wrap_small _ (by omega) (by omega)
        have HNr := Lib.hid hNr
        by_cases hfull : room - N.length < t.length
        · have HBad : Hid (loadBad L room N.length t = some (131, 111)) := by
            unfold Hid loadBad
            rw [← HK.out, if_neg (by decide), HAny.out, if_neg (by decide), if_pos hfull]
          have hgt : (t.length : Int) > room - N.length := hfull
          go_wp2_with fail
          refine (room_any _ b room v N HH.out).mono ?_
          rintro e w2 ⟨rfl, rfl⟩
          go_wp2_with fail
          refine (used_any _ b room v N HH.out).mono ?_
          rintro e w2 ⟨rfl, rfl⟩
          go_wp2_with fail
          refine (full_any _).mono ?_
          rintro e w3 ⟨rfl, hB3, hs3⟩
          have HB3 := Lib.hid hB3
          have HS3 : Hid (Same w w3) := HW.out.trans hs3 (fun _ h => h.elim)
          clear hB3 hs3
          go_wp2_with fail
          go_ret2
          exact .inl ⟨131, 111, _, HBad.out, rfl, ⟨wr.heap.size, rfl, HB3.out, HW.out.size⟩, HS3.out⟩
        · have HGood : Hid (loadBad L room N.length t = none) := by
            unfold Hid loadBad
            rw [← HK.out, if_neg (by decide), HAny.out, if_neg (by decide), if_neg hfull]
          have hgt : ¬ (t.length : Int) > room - N.length := hfull
          have HSyms : Hid (syms (t.map fun n => (n, (0 : Int))) = t.length) := by
            unfold Hid syms
            rw [List.filter_eq_self.2, List.length_map]
            intro x hx
            obtain ⟨n, hn, rfl⟩ := List.mem_map.1 hx
            have := HPos.out n hn
            simp; omega
          have HMap : Hid ((t.map fun n => (n, (0 : Int))).map (·.1) = t) := by simp [Hid, List.map_map, Function.comp_def]
          have HLay : Hid (∀ W, Same w W → Calls Try.prog 52 #[.pointer (some ⟨bs, 0, none⟩), .pointer (some ⟨b, 0, none⟩), .slice A t.length c, .slice none 0 0] W fun e w' => ∃ v' M a, (layF L N.length (t.map fun n => (n, 0))).1 = [a] ∧ e = .returned (.tuple #[.int .i64 a, .nilIface]) ∧ HeapAt w' b room v' (N ++ M) ∧ M.map (·.1) = (layF L N.length (t.map fun n => (n, 0))).2 ∧ Turned (hfoot b v) W w' ∧ (v'.ownBlock = v.ownBlock ∨ ∃ j, v'.ownBlock = some j ∧ W.heap.size ≤ j)) := by
            intro W hW
            refine lay_any W bs bm vs L (HS.out.turned hW (fun _ _ h => h)) HL.out b room v N (H.out.same hW) hr4 (t.map fun n => (n, 0)) _ _ (by rw [HMap.out]; exact HLv.out.same hW) ⟨none, 0, 0, rfl, fun m hm hn => ?_⟩ (by rw [HMap.out]; exact HCz.out.2.2) (fun x hx => ?_) (fun x hx hn => ?_) ?_ (by simp; omega)
            · simp only [List.getElem_map] at hn
              exact absurd hn (HPos.out _ (List.getElem_mem _))
            · obtain ⟨n, hn, rfl⟩ := List.mem_map.1 hx
              exact HCz.out.2.1 n hn
            · obtain ⟨n, hn', rfl⟩ := List.mem_map.1 hx
              exact absurd hn (HPos.out n hn')
            · rw [HSyms.out]; have := HNr.out; omega
          go_wp2_with fail
          refine (room_any _ b room v N HH.out).mono ?_
          rintro e w2 ⟨rfl, rfl⟩
          go_wp2_with fail
          refine (used_any _ b room v N HH.out).mono ?_
          rintro e w2 ⟨rfl, rfl⟩
          go_wp2_with fail
          refine (HLay.out _ HW.out).mono ?_
          rintro e w3 ⟨v3, M3, a3, ha3, rfl, hH3, hM3, ht3, hv3⟩
          have HA3 := Lib.hid ha3; have HH3 := Lib.hid hH3; have HM3 := Lib.hid hM3
          have HT3 : Hid (Turned (hfoot b v) w w3) := (HW.out.mono (fun _ h => h.elim)).trans ht3 (fun i hi => .inl hi)
          have HV3 : Hid (v3.ownBlock = v.ownBlock ∨ ∃ j, v3.ownBlock = some j ∧ w.heap.size ≤ j) := hfoot_moved (.inl rfl) HW.out.size hv3
          clear ha3 hH3 hM3 ht3 hv3
          go_wp2_with fail
          go_ret2
          exact .inr ⟨v3, M3, a3, HGood.out, HA3.out, rfl, HH3.out, HM3.out, HT3.out, HV3.out⟩
  · have hkz : (k == 0) = false := by rw [beq_eq_false_iff_ne]; exact hk0
    have HBad : Hid (loadBad L room N.length t = some (130, k)) := by
      unfold Hid loadBad
      rw [← HK.out, if_pos hk0]
    have HW : Hid (whyV k = .iface 63 (.int .i64 k)) := by unfold Hid whyV; rw [if_neg hk0]
    clear hk0
    go_enter Try.func15, Try.ntmps15
    go_wp2_with fail
    refine HCh.out.mono ?_
    rintro e w1 ⟨rfl, hs1⟩
    have HS1 := Lib.hid hs1
    clear hs1
    go_wp2_with fail
    go_ret2
    exact .inl ⟨130, k, _, HBad.out, rfl, ⟨w1.heap.size, rfl, by rw [HW.out]; exact Blk.new w1 106 _, HS1.out.size⟩, HS1.out.alloc _⟩
end Go.Proofs.Yteohhiefchoamaa

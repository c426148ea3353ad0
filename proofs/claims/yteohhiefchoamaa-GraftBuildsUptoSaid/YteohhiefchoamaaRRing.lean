/-
  The walks of Down and of the document's Ring.
-/
import Derived.Test.YteohhiefchoamaaRingLaw
namespace Go.Proofs.Yteohhiefchoamaa
open Go.RowKit

theorem rdown_any (w : World) (x : Nd) (v : Value) (hR : Rd w v x.args) :
    Calls Try.prog 55 #[nval x v] w fun e w' => ∃ v', e = .returned v' ∧ Rd w' v' (down x) ∧ Same w w' := by
  obtain ⟨sy, ar, mk, po, tt⟩ := x
  simp only at hR
  have HR := Lib.hid hR
  obtain ⟨A, c, rfl, hA⟩ := hR
  clear hA
  show Calls Try.prog 55 #[.agg #[.int .i64 sy, .slice A ar.length c, .int .i64 mk, .bool po, .int .i64 tt]] w _
  have hs : Same w (w.alloc (.cells #[.int .i64 sy, .slice A ar.length c, .int .i64 mk, .bool po, .int .i64 tt] 53)) := (Turned.refl _ _).alloc _
  have HS := Lib.hid hs
  clear hs
  cases po with
  | false =>
    go_enter Try.func55, Try.ntmps55
    go_wp2_with fail
    go_ret
    exact ⟨_, rfl, by exact HR.out.same_ HS.out, HS.out⟩
  | true =>
    go_enter Try.func55, Try.ntmps55
    go_wp2_with fail
    go_ret
    refine ⟨_, rfl, ?_, HS.out.alloc _⟩
    have hb := Blk.new (w.alloc (.cells #[.int .i64 sy, .slice A ar.length c, .int .i64 mk, .bool true, .int .i64 tt] 53)) 3 #[.int .i64 tt]
    rw [World.size_alloc] at hb
    exact rd_lit (P := [tt]) hb

/-- Ring at work: what is sound is told in one block. -/
structure RgI (w wr : World) (g : Nat) (B : List Bool) : Prop where
  same : Same w wr
  blk : Blk wr g 4 (nBools B).toArray
  new : w.heap.size ≤ g
theorem RgI.set {w wr : World} {g : Nat} {B : List Bool} (h : RgI w wr g B) (i : Nat) (b : Bool) : RgI w (wr.setCell ⟨g, i, none⟩ (.bool b)) g (B.set i b) :=
  ⟨h.same.setCell (p := ⟨g, i, none⟩) (.inr h.new) _, nBools_set h.blk i b, h.new⟩
theorem RgI.later {w wr w' : World} {g : Nat} {B : List Bool} (h : RgI w wr g B) (ht : Same wr w') : RgI w w' g B :=
  ⟨h.same.trans ht (fun _ h => h.elim), h.blk.turned ht (fun h => h), h.new⟩
def AllI (B : List Bool) (D : List Int) (m : Nat) (a : Bool) : Prop :=
  (a = true → ∀ d ∈ D.take m, ∃ j : Nat, d = (j : Int) ∧ B[j]? = some true) ∧ (a = false → ∃ d ∈ D, ∃ j : Nat, d = (j : Int) ∧ B[j]? = some false)
theorem info4 : (Try.prog.info? 4).map (fun i => (i.zero, i.size, i.bytes)) = some (some (.bool false), 1, 1) := by kernel_rfl
def RingRes (K : List Nd) (e : Ending) : Prop := ∃ b : Bool, e = .returned (.bool b) ∧ (b = false ↔ Ranked K)

set_option maxRecDepth 100000 in
set_option maxHeartbeats 8000000 in
theorem rring_any (w : World) (v : Value) (K : List Nd) (h : NdRd w v K) (hin : InK K) (hl : K.length ≤ 4000) (hl2 : ∀ x ∈ K, x.args.length ≤ 17592186044416) :
    Calls Try.prog 18 #[v] w fun e w' => RingRes K e ∧ Same w w' := by
  have H := Lib.hid h; have HI := Lib.hid hin; have HL2 := Lib.hid hl2
  obtain ⟨A, c, rfl, _⟩ := h
  obtain ⟨i0, hi0, hz0, hz1, hz2⟩ := info_parts info4
  have hmk := fun W => run_make (P := Try.prog) W 116 4 i0 (.bool false) Try.underlying116 hi0 hz0 .i64 .i64 K.length K.length (by omega) (by omega) (by rw [hz2]; omega) (by omega)
  simp only [hz1, Int.toNat_natCast, Nat.mul_one] at hmk
  clear hin hl2 hi0 hz0 hz1 hz2
  have HB0 : Hid (RgI w (w.alloc (.cells (madeCells #[.bool false] K.length) 4)) w.heap.size (List.replicate K.length false)) := by
    refine ⟨(Turned.refl _ _).alloc _, ?_, Nat.le_refl _⟩
    have := Blk.new w 4 (madeCells #[.bool false] K.length)
    have e : madeCells #[Value.bool false] K.length = (nBools (List.replicate K.length false)).toArray := by
      apply Array.ext'
      rw [toList_madeCells_one]
      simp [nBools]
    rw [e] at this ⊢
    exact this
  obtain ⟨mc, hm⟩ : ∃ mc, mc = madeCells (Value.bool false).cells K.length := ⟨_, rfl⟩
  rw [← hm] at hmk
  have HM : Hid (mc = madeCells #[.bool false] K.length) := hm
  rw [← HM.out] at HB0
  obtain ⟨gs, hgs⟩ : ∃ gs, gs = w.heap.size := ⟨_, rfl⟩
  clear hm
  go_enter Try.func18, Try.ntmps18
  go_wp2_with fail
  rw [← hgs] at HB0 ⊢
  clear hgs hmk
  go_loopw [4] (fun ag wr => ∃ b B, ag = .bool b ∧ Hid (RgI w wr gs B ∧ SoundOk K B ∧ (b = false → ∀ i < K.length, B[i]? = some false → Stuck K B i))) (fun ag wr => 2 * cntW wr gs + (if isF ag then 0 else 1))
  case atStart => exact ⟨true, _, rfl, HB0.out, sound_start K, by simp⟩
  case round =>
    obtain ⟨b, B0, rfl, HV⟩ := hrel
    rename World => w1
    cases b with
    | true =>
      have HS0 := Lib.hid HV.out.2.1
      have HR0 := Lib.hid HV.out.1
      clear HV
      go_wp2_with fail
      go_loopw [4, 5] (fun ag i wr => ∃ (k : Nat) (b : Bool) (B : List Bool), k ≤ K.length ∧ i = .int .i64 k ∧ ag = .bool b ∧ Hid (RgI w wr gs B ∧ Pass K B0 B b ∧ (b = false → ∀ j < k, B0[j]? = some false → Stuck K B0 j))) (fun _ i _ => K.length - (intOf i).toNat)
      case atStart => exact ⟨0, false, B0, Nat.zero_le _, rfl, rfl, HR0.out, ⟨HS0.out, fun _ => rfl, by simp⟩, by simp⟩
      case round =>
        obtain ⟨k, b, B, hk, rfl, rfl, HV⟩ := hrel
        by_cases hlt : k < K.length
        · have hk0 : (0 : Int) ≤ k := by omega
          have hk1 : (k : Int) < K.length := by omega
          obtain ⟨bk, hbk⟩ : ∃ bk, B[k]? = some bk := ⟨B[k]'(by rw [HV.out.2.1.ok.1]; exact hlt), by simp⟩
          have hcell := nBools_at HV.out.1.blk hbk
          have HBk := Lib.hid hbk
          have hgl := HV.out.1.blk.lt
          clear hbk
          cases bk with
          | true =>
            have HN : Hid (b = false → ∀ j < k + 1, B0[j]? = some false → Stuck K B0 j) := by
              intro hb j hj hbj
              by_cases e : j = k
              · subst e
                have h1 := HBk.out
                rw [HV.out.2.1.no hb, hbj] at h1; cases h1
              · exact HV.out.2.2 hb j (by omega) hbj
            go_wp2_with fail
            go_roundw
            case rel => exact ⟨k + 1, b, B, by omega, by go_num, rfl, HV.out.1, HV.out.2.1, HN.out⟩
            case measure => simp [intOf]; omega
          | false =>
            obtain ⟨A', c', e, hA⟩ := H.out.same HV.out.1.same
            injection e with e1 _ e2
            subst e1; subst e2
            obtain ⟨bl, off, rfl, hc⟩ := hA (by omega)
            obtain ⟨av, a0, a1, a2, a3, a4, hRa⟩ := hc k hlt
            have hla := HL2.out K[k] (List.getElem_mem _)
            have hx0 : K[k]? = some K[k] := by simp [hlt]
            obtain ⟨⟨sy, ar, mk, po, tt⟩, hx⟩ : ∃ x, x = K[k] := ⟨_, rfl⟩
            rw [← hx] at a0 a2 a3 a4 hRa hla hx0
            simp only at a0 a2 a3 a4 hRa hla
            have HRa := Lib.hid hRa; have HX := Lib.hid hx0
            clear hc hx hA hRa hx0
            go_wp2_with fail
            refine (rdown_any wr ⟨sy, ar, mk, po, tt⟩ av HRa.out).mono ?_
            rintro e w2 ⟨dv, rfl, hD, hs2⟩
            obtain ⟨D, hDe⟩ : ∃ D, D = down ⟨sy, ar, mk, po, tt⟩ := ⟨_, rfl⟩
            rw [← hDe] at hD
            have HDe := Lib.hid hDe; have HD := Lib.hid hD
            have HI2 := Lib.hid (HV.out.1.later hs2)
            have HP2 := Lib.hid HV.out.2
            have HDI : Hid (∀ d ∈ D, ∃ j : Nat, d = (j : Int) ∧ j < K.length) := by
              intro d hd
              rw [HDe.out] at hd
              exact HI.out _ (List.mem_of_getElem? HX.out) d hd
            have HDl : Hid (D.length ≤ 17592186044416) := by
              rw [HDe.out]; unfold down; unfold Hid; simp only; split
              · simp
              · exact hla
            obtain ⟨dA, dc, rfl, hdA⟩ := hD
            clear hDe hs2 HV hcell hdA a0 a1 a2 a3 a4
            go_wp2_with fail
            go_loopw [6, 8] (fun al i wr => ∃ (m : Nat) (a : Bool), m ≤ D.length ∧ i = .int .i64 m ∧ al = .bool a ∧ Hid (Same w2 wr ∧ AllI B D m a)) (fun _ i _ => D.length - (intOf i).toNat)
            case atStart => exact ⟨0, true, Nat.zero_le _, rfl, rfl, Turned.refl _ _, by simp, by simp⟩
            case round =>
              obtain ⟨m, a, hm, rfl, rfl, HA⟩ := hrel
              by_cases hlm : m < D.length
              · have hm0 : (0 : Int) ≤ m := by omega
                have hm1 : (m : Int) < D.length := by omega
                have hdl := HDl.out
                have hm2 : (m : Int) + 1 ≤ 17592186044416 := by omega
                have HTk : Hid (D.take (m + 1) = D.take m ++ [D[m]]) := List.take_succ_eq_append_getElem hlm
                cases a with
                | false =>
                  go_wp2_with fail
                  exact ⟨⟨m + 1, false, by omega, by go_num, rfl, HA.out.1, by simp, HA.out.2.2⟩, by simp [intOf]; omega⟩
                | true =>
                  obtain ⟨j, hj, hjl⟩ := HDI.out D[m] (List.getElem_mem _)
                  obtain ⟨bj, hbj⟩ : ∃ bj, B[j]? = some bj := ⟨B[j]'(by rw [HP2.out.1.ok.1]; exact hjl), by simp⟩
                  obtain ⟨A2, c2, e, hA⟩ := HD.out.same_ HA.out.1
                  injection e with e1 _ e2
                  subst e1; subst e2
                  obtain ⟨dbl, doff, rfl, hc⟩ := hA (by omega)
                  have hd := hc m hlm
                  rw [hj] at hd
                  have hcell := nBools_at (HI2.out.later HA.out.1).blk hbj
                  have hj0 : (0 : Int) ≤ j := by omega
                  have hj1 : (j : Int) < K.length := by omega
                  have HJ := Lib.hid hj; have HBj := Lib.hid hbj
                  clear hc hA hj hbj
                  have HN : Hid (Same w2 wr ∧ AllI B D (m + 1) bj) := by
                    refine ⟨HA.out.1, fun hb d hd => ?_, fun hb => ⟨_, List.getElem_mem hlm, j, HJ.out, by rw [HBj.out, hb]⟩⟩
                    rw [HTk.out, List.mem_append] at hd
                    rcases hd with h1 | h1
                    · exact HA.out.2.1 rfl d h1
                    · obtain rfl : d = D[m] := by simpa using h1
                      exact ⟨j, HJ.out, by rw [HBj.out, hb]⟩
                  go_wp2_with fail
                  exact ⟨⟨m + 1, bj, by omega, by go_num, rfl, HN.out⟩, by simp [intOf]; omega⟩
              · have hmm : m = D.length := by omega
                subst hmm
                have hgl2 := (HI2.out.later HA.out.1).blk.lt
                cases a with
                | true =>
                  have HN : Hid (RgI w (wr.setCell ⟨gs, k, none⟩ (.bool true)) gs (B.set k true) ∧ Pass K B0 (B.set k true) true) := by
                    refine ⟨(HI2.out.later HA.out.1).set k true, HP2.out.1.set HX.out HBk.out (fun d hd => ?_)⟩
                    rw [← HDe.out] at hd
                    exact HA.out.2.1 rfl d (by rw [List.take_length]; exact hd)
                  have hcell := nBools_at (HI2.out.later HA.out.1).blk HBk.out
                  have hfr := fun i => (HI2.out.later HA.out.1).blk.frozen i
                  go_wp2_with fail
                  go_roundw
                  case rel => exact ⟨k + 1, true, _, by omega, by go_num, rfl, HN.out.1, HN.out.2, by simp⟩
                  case measure => simp [intOf]; omega
                | false =>
                  have HN : Hid (b = false → ∀ j < k + 1, B0[j]? = some false → Stuck K B0 j) := by
                    intro hb j hj hbj
                    by_cases e : j = k
                    · subst e
                      refine ⟨_, HX.out, ?_⟩
                      rw [← HP2.out.1.no hb, ← HDe.out]
                      exact HA.out.2.2 rfl
                    · exact HP2.out.2 hb j (by omega) hbj
                  go_wp2_with fail
                  go_roundw
                  case rel => exact ⟨k + 1, b, B, by omega, by go_num, rfl, HI2.out.later HA.out.1, HP2.out.1, HN.out⟩
                  case measure => simp [intOf]; omega
        · have hkk : k = K.length := by omega
          subst hkk
          go_wp2_with fail
          go_loopw [4, 9] (fun ag i wr => ∃ (k : Nat) (b : Bool) (B : List Bool), k ≤ K.length ∧ i = .int .i64 ((k : Int) - 1) ∧ ag = .bool b ∧ Hid (RgI w wr gs B ∧ Pass K B0 B b ∧ (b = false → ∀ j < K.length, B0[j]? = some false → Stuck K B0 j))) (fun _ i _ => (intOf i + 1).toNat)
          case atStart => exact ⟨K.length, b, B, Nat.le_refl _, rfl, rfl, HV.out⟩
          case round =>
            obtain ⟨k, b, B, hk, rfl, rfl, HV⟩ := hrel
            cases k with
            | succ k =>
              have hlt : k < K.length := by omega
              rw [show ((k + 1 : Nat) : Int) - 1 = k from by omega]
              have hk0 : (0 : Int) ≤ k := by omega
              have hk1 : (k : Int) < K.length := by omega
              obtain ⟨bk, hbk⟩ : ∃ bk, B[k]? = some bk := ⟨B[k]'(by rw [HV.out.2.1.ok.1]; exact hlt), by simp⟩
              have hcell := nBools_at HV.out.1.blk hbk
              have HBk := Lib.hid hbk
              have hgl := HV.out.1.blk.lt
              clear hbk
              cases bk with
              | true =>
                go_wp2_with fail
                go_roundw
                case rel => exact ⟨k, b, B, by omega, rfl, rfl, HV.out⟩
                case measure => simp [intOf]
              | false =>
                obtain ⟨A', c', e, hA⟩ := H.out.same HV.out.1.same
                injection e with e1 _ e2
                subst e1; subst e2
                obtain ⟨bl, off, rfl, hc⟩ := hA (by omega)
                obtain ⟨av, a0, a1, a2, a3, a4, hRa⟩ := hc k hlt
                have hla := HL2.out K[k] (List.getElem_mem _)
                have hx0 : K[k]? = some K[k] := by simp [hlt]
                obtain ⟨⟨sy, ar, mk, po, tt⟩, hx⟩ : ∃ x, x = K[k] := ⟨_, rfl⟩
                rw [← hx] at a0 a2 a3 a4 hRa hla hx0
                simp only at a0 a2 a3 a4 hRa hla
                have HRa := Lib.hid hRa; have HX := Lib.hid hx0
                clear hc hx hA hRa hx0
                go_wp2_with fail
                refine (rdown_any wr ⟨sy, ar, mk, po, tt⟩ av HRa.out).mono ?_
                rintro e w2 ⟨dv, rfl, hD, hs2⟩
                obtain ⟨D, hDe⟩ : ∃ D, D = down ⟨sy, ar, mk, po, tt⟩ := ⟨_, rfl⟩
                rw [← hDe] at hD
                have HDe := Lib.hid hDe; have HD := Lib.hid hD
                have HI2 := Lib.hid (HV.out.1.later hs2)
                have HP2 := Lib.hid HV.out.2
                have HDI : Hid (∀ d ∈ D, ∃ j : Nat, d = (j : Int) ∧ j < K.length) := by
                  intro d hd
                  rw [HDe.out] at hd
                  exact HI.out _ (List.mem_of_getElem? HX.out) d hd
                have HDl : Hid (D.length ≤ 17592186044416) := by
                  rw [HDe.out]; unfold down; unfold Hid; simp only; split
                  · simp
                  · exact hla
                obtain ⟨dA, dc, rfl, hdA⟩ := hD
                clear hDe hs2 HV hcell hdA a0 a1 a2 a3 a4
                go_wp2_with fail
                go_loopw [10, 12] (fun al i wr => ∃ (m : Nat) (a : Bool), m ≤ D.length ∧ i = .int .i64 m ∧ al = .bool a ∧ Hid (Same w2 wr ∧ AllI B D m a)) (fun _ i _ => D.length - (intOf i).toNat)
                case atStart => exact ⟨0, true, Nat.zero_le _, rfl, rfl, Turned.refl _ _, by simp, by simp⟩
                case round =>
                  obtain ⟨m, a, hm, rfl, rfl, HA⟩ := hrel
                  by_cases hlm : m < D.length
                  · have hm0 : (0 : Int) ≤ m := by omega
                    have hm1 : (m : Int) < D.length := by omega
                    have hdl := HDl.out
                    have hm2 : (m : Int) + 1 ≤ 17592186044416 := by omega
                    have HTk : Hid (D.take (m + 1) = D.take m ++ [D[m]]) := List.take_succ_eq_append_getElem hlm
                    cases a with
                    | false =>
                      go_wp2_with fail
                      exact ⟨⟨m + 1, false, by omega, by go_num, rfl, HA.out.1, by simp, HA.out.2.2⟩, by simp [intOf]; omega⟩
                    | true =>
                      obtain ⟨j, hj, hjl⟩ := HDI.out D[m] (List.getElem_mem _)
                      obtain ⟨bj, hbj⟩ : ∃ bj, B[j]? = some bj := ⟨B[j]'(by rw [HP2.out.1.ok.1]; exact hjl), by simp⟩
                      obtain ⟨A2, c2, e, hA⟩ := HD.out.same_ HA.out.1
                      injection e with e1 _ e2
                      subst e1; subst e2
                      obtain ⟨dbl, doff, rfl, hc⟩ := hA (by omega)
                      have hd := hc m hlm
                      rw [hj] at hd
                      have hcell := nBools_at (HI2.out.later HA.out.1).blk hbj
                      have hj0 : (0 : Int) ≤ j := by omega
                      have hj1 : (j : Int) < K.length := by omega
                      have HJ := Lib.hid hj; have HBj := Lib.hid hbj
                      clear hc hA hj hbj
                      have HN : Hid (Same w2 wr ∧ AllI B D (m + 1) bj) := by
                        refine ⟨HA.out.1, fun hb d hd => ?_, fun hb => ⟨_, List.getElem_mem hlm, j, HJ.out, by rw [HBj.out, hb]⟩⟩
                        rw [HTk.out, List.mem_append] at hd
                        rcases hd with h1 | h1
                        · exact HA.out.2.1 rfl d h1
                        · obtain rfl : d = D[m] := by simpa using h1
                          exact ⟨j, HJ.out, by rw [HBj.out, hb]⟩
                      go_wp2_with fail
                      exact ⟨⟨m + 1, bj, by omega, by go_num, rfl, HN.out⟩, by simp [intOf]; omega⟩
                  · have hmm : m = D.length := by omega
                    subst hmm
                    have hgl2 := (HI2.out.later HA.out.1).blk.lt
                    cases a with
                    | true =>
                      have HN : Hid (RgI w (wr.setCell ⟨gs, k, none⟩ (.bool true)) gs (B.set k true) ∧ Pass K B0 (B.set k true) true) := by
                        refine ⟨(HI2.out.later HA.out.1).set k true, HP2.out.1.set HX.out HBk.out (fun d hd => ?_)⟩
                        rw [← HDe.out] at hd
                        exact HA.out.2.1 rfl d (by rw [List.take_length]; exact hd)
                      have hcell := nBools_at (HI2.out.later HA.out.1).blk HBk.out
                      have hfr := fun i => (HI2.out.later HA.out.1).blk.frozen i
                      go_wp2_with fail
                      go_roundw
                      case rel => exact ⟨k, true, _, by omega, rfl, rfl, HN.out.1, HN.out.2, by simp⟩
                      case measure => simp [intOf]
                    | false =>
                      go_wp2_with fail
                      go_roundw
                      case rel => exact ⟨k, b, B, by omega, rfl, rfl, HI2.out.later HA.out.1, HP2.out⟩
                      case measure => simp [intOf]
            | zero =>
              have hB0 := cntW_blk HR0.out.blk
              have hB1 := cntW_blk HV.out.1.blk
              have HF : Hid (b = false → ∀ i < K.length, B[i]? = some false → Stuck K B i) := by
                intro hb
                rw [HV.out.2.1.no hb]
                exact HV.out.2.2 hb
              have HMs : Hid (2 * cntW wr gs + (if isF (.bool b) then 0 else 1) < 2 * cntW w1 gs + (if isF (.bool true) then 0 else 1)) := by
                unfold Hid
                rw [hB0, hB1]
                cases b with
                | false => rw [HV.out.2.1.no rfl]; simp [isF]
                | true => have := HV.out.2.1.yes rfl; simp [isF]; omega
              clear hB0 hB1
              rw [show ((0 : Nat) : Int) - 1 = -1 from rfl]
              go_wp2_with fail
              go_roundw
              case rel => exact ⟨b, B, rfl, HV.out.1, HV.out.2.1.ok, HF.out⟩
              case measure => exact HMs.out
    | false =>
      go_wp2_with fail
      have HSt := Lib.hid (HV.out.2.2 trivial)
      have HSo := Lib.hid HV.out.2.1
      have HR0 := Lib.hid HV.out.1
      clear HV
      go_loopw [13] (fun i wr => ∃ k : Nat, k ≤ K.length ∧ i = .int .i64 k ∧ wr = w1 ∧ Hid (∀ j < k, B0[j]? = some true)) (fun i _ => K.length - (intOf i).toNat)
      case atStart => exact ⟨0, Nat.zero_le _, rfl, rfl, by intro j hj; omega⟩
      case round =>
        obtain ⟨k, hk, rfl, rfl, HT⟩ := hrel
        by_cases hlt : k < K.length
        · have hk0 : (0 : Int) ≤ k := by omega
          have hk1 : (k : Int) < K.length := by omega
          obtain ⟨bk, hbk⟩ : ∃ bk, B0[k]? = some bk := ⟨B0[k]'(by rw [HSo.out.1]; exact hlt), by simp⟩
          have hcell := nBools_at HR0.out.blk hbk
          have HBk := Lib.hid hbk
          clear hbk
          cases bk with
          | true =>
            have HN : Hid (∀ j < k + 1, B0[j]? = some true) := by
              intro j hj
              by_cases e : j = k
              · subst e; exact HBk.out
              · exact HT.out j (by omega)
            go_wp2_with fail
            exact ⟨⟨k + 1, by omega, by go_num, trivial, HN.out⟩, by simp [intOf]; omega⟩
          | false =>
            go_wp2_with fail
            go_ret
            exact ⟨⟨true, rfl, by simpa using stuck_not HSt.out hlt HBk.out⟩, HR0.out.same⟩
        · have hkk : k = K.length := by omega
          subst hkk
          go_wp2_with fail
          go_ret
          exact ⟨⟨false, rfl, by simpa using sound_ranked HSo.out HT.out⟩, HR0.out.same⟩
end Go.Proofs.Yteohhiefchoamaa

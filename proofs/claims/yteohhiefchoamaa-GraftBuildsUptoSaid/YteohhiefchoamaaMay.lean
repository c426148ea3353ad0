/-
  The walks of May, may, Down.
-/
import Derived.Test.YteohhiefchoamaaSameN
namespace Go.Proofs.Yteohhiefchoamaa
open Go.RowKit

/-- What may be in a list of so many. -/
structure MayP (x : Nd) (many : Int) : Prop where
  sym : 0 ≤ x.sym
  len : x.args.length ≤ 6
  args : ∀ a ∈ x.args, 0 ≤ a ∧ a < many
  pts : x.points = true → (0 ≤ x.to ∧ x.to < many) ∧ x.args = []
  mk0 : 0 ≤ x.mark

def MayRes (e : Ending) (x : Nd) (many : Int) : Prop := ∃ b, e = .returned (.bool b) ∧ (b = true → MayP x many)

set_option maxHeartbeats 2000000 in
theorem rmay_any (w : World) (x : Nd) (v : Value) (hR : Rd w v x.args) (many : Int) :
    Calls Try.prog 74 #[nval x v, .int .i64 many] w fun e w' => MayRes e x many ∧ Same w w' := by
  obtain ⟨sy, ar, mk, po, tt⟩ := x
  simp only at hR
  have HR := Lib.hid hR
  obtain ⟨A, c, rfl, hA⟩ := hR
  clear hA
  show Calls Try.prog 74 #[.agg #[.int .i64 sy, .slice A ar.length c, .int .i64 mk, .bool po, .int .i64 tt], .int .i64 many] w _
  have hs : Same w (w.alloc (.cells #[.int .i64 sy, .slice A ar.length c, .int .i64 mk, .bool po, .int .i64 tt] 53)) := (Turned.refl _ _).alloc _
  have HS := Lib.hid hs
  clear hs
  by_cases h1 : sy < 0
  · go_enter Try.func74, Try.ntmps74
    go_wp2_with fail
    go_ret
    exact ⟨⟨false, rfl, by simp⟩, HS.out⟩
  by_cases h2 : (ar.length : Int) > 6
  · go_enter Try.func74, Try.ntmps74
    go_wp2_with fail
    go_ret
    exact ⟨⟨false, rfl, by simp⟩, HS.out⟩
  by_cases h3 : mk < 0
  · go_enter Try.func74, Try.ntmps74
    go_wp2_with fail
    go_ret
    exact ⟨⟨false, rfl, by simp⟩, HS.out⟩
  by_cases h4 : mk > 2
  · go_enter Try.func74, Try.ntmps74
    go_wp2_with fail
    go_ret
    exact ⟨⟨false, rfl, by simp⟩, HS.out⟩
  have HB : Hid (∀ W, Same (w.alloc (.cells #[.int .i64 sy, .slice A ar.length c, .int .i64 mk, .bool po, .int .i64 tt] 53)) W → Blk W w.heap.size 53 #[.int .i64 sy, .slice A ar.length c, .int .i64 mk, .bool po, .int .i64 tt]) := fun W hW => (Blk.new w 53 _).turned hW (fun h => h)
  obtain ⟨W0, hW0⟩ : ∃ W0, W0 = (w.alloc (.cells #[.int .i64 sy, .slice A ar.length c, .int .i64 mk, .bool po, .int .i64 tt] 53)) := ⟨_, rfl⟩
  rw [← hW0] at HB HS
  have HW0 := Lib.hid hW0
  have HR0 := Lib.hid (HR.out.same_ HS.out)
  obtain ⟨nb, hnb⟩ : ∃ nb, nb = w.heap.size := ⟨_, rfl⟩
  have HNb := Lib.hid hnb
  rw [← hnb] at HB
  clear hW0 HR hnb
  go_enter Try.func74, Try.ntmps74
  go_wp2_with fail
  go_loopw [5] (fun i wr => ∃ k : Nat, k ≤ ar.length ∧ i = .int .i64 k ∧ Hid ((∀ a ∈ ar.take k, 0 ≤ a ∧ a < many) ∧ Same W0 wr)) (fun i _ => ar.length - (intOf i).toNat)
  case atStart => exact ⟨0, Nat.zero_le _, rfl, by simp, by rw [HW0.out]; exact Turned.refl _ _⟩
  case round =>
    obtain ⟨k, hk, rfl, HV⟩ := hrel
    have hB := HB.out wr HV.out.2
    rw [HNb.out] at hB
    obtain ⟨c0, c1, c2, c3, c4⟩ := hB.five
    have hbl := hB.lt
    have HW := Lib.hid HV.out.2
    have HO := Lib.hid HV.out.1
    clear HV hB
    by_cases hlt : k < ar.length
    · obtain ⟨A2, c2', ea, hA⟩ := HR0.out.same_ HW.out
      injection ea with e1 _ e2
      subst e1; subst e2
      obtain ⟨bl, off, rfl, hc⟩ := hA (by omega)
      have hd := hc k hlt
      have htk : ar.take (k + 1) = ar.take k ++ [ar[k]] := List.take_succ_eq_append_getElem hlt
      obtain ⟨a, ha⟩ : ∃ a, a = ar[k] := ⟨_, rfl⟩
      rw [← ha] at hd htk
      have HTk := Lib.hid htk
      clear hc hA ha htk
      have hk0 : (0 : Int) ≤ k := by omega
      have hk1 : (k : Int) < ar.length := by omega
      by_cases g1 : a < 0
      · go_wp2_with fail
        go_ret
        exact ⟨⟨false, rfl, by simp⟩, HS.out.trans HW.out (fun _ h => h.elim)⟩
      by_cases g2 : a ≥ many
      · go_wp2_with fail
        go_ret
        exact ⟨⟨false, rfl, by simp⟩, HS.out.trans HW.out (fun _ h => h.elim)⟩
      have HN : Hid (∀ y ∈ ar.take (k + 1), 0 ≤ y ∧ y < many) := by
        intro y hy
        rw [HTk.out, List.mem_append] at hy
        rcases hy with h | h
        · exact HO.out y h
        · obtain rfl : y = a := by simpa using h
          omega
      go_wp2_with fail
      exact ⟨⟨k + 1, by omega, by go_num, HN.out, HW.out⟩, by simp [intOf]; omega⟩
    · have hkk : k = ar.length := by omega
      subst hkk
      have HAll : Hid (∀ y ∈ ar, 0 ≤ y ∧ y < many) := by have := HO.out; rwa [List.take_length] at this
      have HF : Hid (Same w wr) := HS.out.trans HW.out (fun _ h => h.elim)
      have hsy : 0 ≤ sy := by omega
      have hal : ar.length ≤ 6 := by omega
      cases po with
      | false =>
        go_wp2_with fail
        go_ret
        exact ⟨⟨_, rfl, fun _ => ⟨hsy, hal, HAll.out, fun h => by simp at h, h3⟩⟩, HF.out⟩
      | true =>
        have no : ∀ b, b = false → (b = true → MayP ⟨sy, ar, mk, true, tt⟩ many) := fun b hb h => by rw [hb] at h; cases h
        have HNo := Lib.hid no
        clear no
        by_cases t1 : tt ≥ 0
        · by_cases t2 : tt < many
          · by_cases t3 : ar.length = 0
            · have HP : Hid (MayP ⟨sy, ar, mk, true, tt⟩ many) := ⟨hsy, hal, HAll.out, fun _ => ⟨⟨t1, t2⟩, List.eq_nil_of_length_eq_zero t3⟩, h3⟩
              cases h5 : (sy == 0) with
              | false =>
                go_wp2_with fail
                go_ret
                exact ⟨⟨_, rfl, fun _ => HP.out⟩, HF.out⟩
              | true =>
                cases h6 : (mk == 0) with
                | false =>
                  go_wp2_with fail
                  go_ret
                  exact ⟨⟨_, rfl, fun _ => HP.out⟩, HF.out⟩
                | true =>
                  go_wp2_with fail
                  go_ret
                  exact ⟨⟨_, rfl, fun _ => HP.out⟩, HF.out⟩
            · have t3b : ((ar.length : Int) == 0) = false := by rw [beq_eq_false_iff_ne]; omega
              cases h5 : (sy == 0) with
              | false =>
                go_wp2_with fail
                go_ret
                exact ⟨⟨false, rfl, HNo.out _ rfl⟩, HF.out⟩
              | true =>
                cases h6 : (mk == 0) with
                | false =>
                  go_wp2_with fail
                  go_ret
                  exact ⟨⟨false, rfl, HNo.out _ rfl⟩, HF.out⟩
                | true =>
                  go_wp2_with fail
                  go_ret
                  exact ⟨⟨false, rfl, HNo.out _ rfl⟩, HF.out⟩
          · go_wp2_with fail
            go_ret
            exact ⟨⟨false, rfl, HNo.out _ rfl⟩, HF.out⟩
        · go_wp2_with fail
          go_ret
          exact ⟨⟨false, rfl, HNo.out _ rfl⟩, HF.out⟩
set_option maxHeartbeats 2000000 in
theorem may_any (w : World) (x : Nd) (v : Value) (hR : Rd w v x.args) (many : Int) :
    Calls Try.prog 72 #[nval x v, .int .i64 many] w fun e w' => MayRes e x many ∧ Same w w' := by
  obtain ⟨sy, ar, mk, po, tt⟩ := x
  simp only at hR
  have HR := Lib.hid hR
  obtain ⟨A, c, rfl, hA⟩ := hR
  clear hA
  show Calls Try.prog 72 #[.agg #[.int .i64 sy, .slice A ar.length c, .int .i64 mk, .bool po, .int .i64 tt], .int .i64 many] w _
  have hs : Same w (w.alloc (.cells #[.int .i64 sy, .slice A ar.length c, .int .i64 mk, .bool po, .int .i64 tt] 53)) := (Turned.refl _ _).alloc _
  have HS := Lib.hid hs
  clear hs
  by_cases h1 : sy < 0
  · go_enter Try.func72, Try.ntmps72
    go_wp2_with fail
    go_ret
    exact ⟨⟨false, rfl, by simp⟩, HS.out⟩
  by_cases h2 : (ar.length : Int) > 6
  · go_enter Try.func72, Try.ntmps72
    go_wp2_with fail
    go_ret
    exact ⟨⟨false, rfl, by simp⟩, HS.out⟩
  by_cases h3 : mk < 0
  · go_enter Try.func72, Try.ntmps72
    go_wp2_with fail
    go_ret
    exact ⟨⟨false, rfl, by simp⟩, HS.out⟩
  by_cases h4 : mk > 2
  · go_enter Try.func72, Try.ntmps72
    go_wp2_with fail
    go_ret
    exact ⟨⟨false, rfl, by simp⟩, HS.out⟩
  by_cases h5 : tt < 0
  · go_enter Try.func72, Try.ntmps72
    go_wp2_with fail
    go_ret
    exact ⟨⟨false, rfl, by simp⟩, HS.out⟩
  have HB : Hid (∀ W, Same (w.alloc (.cells #[.int .i64 sy, .slice A ar.length c, .int .i64 mk, .bool po, .int .i64 tt] 53)) W → Blk W w.heap.size 53 #[.int .i64 sy, .slice A ar.length c, .int .i64 mk, .bool po, .int .i64 tt]) := fun W hW => (Blk.new w 53 _).turned hW (fun h => h)
  obtain ⟨W0, hW0⟩ : ∃ W0, W0 = (w.alloc (.cells #[.int .i64 sy, .slice A ar.length c, .int .i64 mk, .bool po, .int .i64 tt] 53)) := ⟨_, rfl⟩
  rw [← hW0] at HB HS
  have HW0 := Lib.hid hW0
  have HR0 := Lib.hid (HR.out.same_ HS.out)
  obtain ⟨nb, hnb⟩ : ∃ nb, nb = w.heap.size := ⟨_, rfl⟩
  have HNb := Lib.hid hnb
  rw [← hnb] at HB
  clear hW0 HR hnb
  go_enter Try.func72, Try.ntmps72
  go_wp2_with fail
  go_loopw [34] (fun i wr => ∃ k : Nat, k ≤ ar.length ∧ i = .int .i64 k ∧ Hid ((∀ a ∈ ar.take k, 0 ≤ a ∧ a < many) ∧ Same W0 wr)) (fun i _ => ar.length - (intOf i).toNat)
  case atStart => exact ⟨0, Nat.zero_le _, rfl, by simp, by rw [HW0.out]; exact Turned.refl _ _⟩
  case round =>
    obtain ⟨k, hk, rfl, HV⟩ := hrel
    have hB := HB.out wr HV.out.2
    rw [HNb.out] at hB
    obtain ⟨c0, c1, c2, c3, c4⟩ := hB.five
    have hbl := hB.lt
    have HW := Lib.hid HV.out.2
    have HO := Lib.hid HV.out.1
    clear HV hB
    by_cases hlt : k < ar.length
    · obtain ⟨A2, c2', ea, hA⟩ := HR0.out.same_ HW.out
      injection ea with e1 _ e2
      subst e1; subst e2
      obtain ⟨bl, off, rfl, hc⟩ := hA (by omega)
      have hd := hc k hlt
      have htk : ar.take (k + 1) = ar.take k ++ [ar[k]] := List.take_succ_eq_append_getElem hlt
      obtain ⟨a, ha⟩ : ∃ a, a = ar[k] := ⟨_, rfl⟩
      rw [← ha] at hd htk
      have HTk := Lib.hid htk
      clear hc hA ha htk
      have hk0 : (0 : Int) ≤ k := by omega
      have hk1 : (k : Int) < ar.length := by omega
      by_cases g1 : a < 0
      · go_wp2_with fail
        go_ret
        exact ⟨⟨false, rfl, by simp⟩, HS.out.trans HW.out (fun _ h => h.elim)⟩
      by_cases g2 : a ≥ many
      · go_wp2_with fail
        go_ret
        exact ⟨⟨false, rfl, by simp⟩, HS.out.trans HW.out (fun _ h => h.elim)⟩
      have HN : Hid (∀ y ∈ ar.take (k + 1), 0 ≤ y ∧ y < many) := by
        intro y hy
        rw [HTk.out, List.mem_append] at hy
        rcases hy with h | h
        · exact HO.out y h
        · obtain rfl : y = a := by simpa using h
          omega
      go_wp2_with fail
      exact ⟨⟨k + 1, by omega, by go_num, HN.out, HW.out⟩, by simp [intOf]; omega⟩
    · have hkk : k = ar.length := by omega
      subst hkk
      have HAll : Hid (∀ y ∈ ar, 0 ≤ y ∧ y < many) := by have := HO.out; rwa [List.take_length] at this
      have HF : Hid (Same w wr) := HS.out.trans HW.out (fun _ h => h.elim)
      have hsy : 0 ≤ sy := by omega
      have hal : ar.length ≤ 6 := by omega
      cases po with
      | false =>
        go_wp2_with fail
        go_ret
        exact ⟨⟨_, rfl, fun _ => ⟨hsy, hal, HAll.out, fun h => by simp at h, h3⟩⟩, HF.out⟩
      | true =>
        have no : ∀ b, b = false → (b = true → MayP ⟨sy, ar, mk, true, tt⟩ many) := fun b hb h => by rw [hb] at h; cases h
        have HNo := Lib.hid no
        clear no
        have t1 : tt ≥ 0 := by omega
        · by_cases t2 : tt < many
          · by_cases t3 : ar.length = 0
            · have HP : Hid (MayP ⟨sy, ar, mk, true, tt⟩ many) := ⟨hsy, hal, HAll.out, fun _ => ⟨⟨t1, t2⟩, List.eq_nil_of_length_eq_zero t3⟩, h3⟩
              cases h5 : (sy == 0) with
              | false =>
                go_wp2_with fail
                go_ret
                exact ⟨⟨_, rfl, fun _ => HP.out⟩, HF.out⟩
              | true =>
                cases h6 : (mk == 0) with
                | false =>
                  go_wp2_with fail
                  go_ret
                  exact ⟨⟨_, rfl, fun _ => HP.out⟩, HF.out⟩
                | true =>
                  go_wp2_with fail
                  go_ret
                  exact ⟨⟨_, rfl, fun _ => HP.out⟩, HF.out⟩
            · have t3b : ((ar.length : Int) == 0) = false := by rw [beq_eq_false_iff_ne]; omega
              cases h5 : (sy == 0) with
              | false =>
                go_wp2_with fail
                go_ret
                exact ⟨⟨false, rfl, HNo.out _ rfl⟩, HF.out⟩
              | true =>
                cases h6 : (mk == 0) with
                | false =>
                  go_wp2_with fail
                  go_ret
                  exact ⟨⟨false, rfl, HNo.out _ rfl⟩, HF.out⟩
                | true =>
                  go_wp2_with fail
                  go_ret
                  exact ⟨⟨false, rfl, HNo.out _ rfl⟩, HF.out⟩
          · go_wp2_with fail
            go_ret
            exact ⟨⟨false, rfl, HNo.out _ rfl⟩, HF.out⟩
end Go.Proofs.Yteohhiefchoamaa

/-
  The document's heap in memory; the walks of Has, Resolve.
-/
import Derived.Test.YteohhiefchoamaaSameN
namespace Go.Proofs.Yteohhiefchoamaa
open Go.RowKit

/-- Block r is the document's heap over the slice u, of the nodes K. -/
structure RHp (w : World) (r : Nat) (room : Int) (u : Value) (K : List Nd) : Prop where
  blk : Blk w r 72 #[.int .i64 room, u]
  rd : NdRd w u K
theorem RHp.same {w w' : World} {r : Nat} {room : Int} {u : Value} {K : List Nd} (h : RHp w r room u K) (ht : Same w w') : RHp w' r room u K := ⟨h.blk.turned ht (fun h => h), h.rd.same ht⟩

theorem rhas_yes (w : World) (r : Nat) (room : Int) (u : Value) (K : List Nd) (h : RHp w r room u K) (a : Nat) (ha : a < K.length) : Calls Try.prog 61 #[.pointer (some ⟨r, 0, none⟩), .int .i64 a] w fun e w' => e = .returned (.bool true) ∧ w = w' := by
  obtain ⟨va, c, rfl, _⟩ := h.rd
  have c1 := h.blk.cell 1
  simp at c1
  have haI : (a : Int) < K.length := by omega
  clear h
  go_enter Try.func61, Try.ntmps61
  go_wp2
  go_ret
  exact ⟨rfl, rfl⟩
theorem rhas_no (w : World) (r : Nat) (room : Int) (u : Value) (K : List Nd) (h : RHp w r room u K) (a : Int) (ha : a < 0 ∨ (K.length : Int) ≤ a) : Calls Try.prog 61 #[.pointer (some ⟨r, 0, none⟩), .int .i64 a] w fun e w' => e = .returned (.bool false) ∧ w = w' := by
  obtain ⟨va, c, rfl, _⟩ := h.rd
  have c1 := h.blk.cell 1
  simp at c1
  clear h
  by_cases h0 : a < 0
  · clear ha
    go_enter Try.func61, Try.ntmps61
    go_wp2
    go_ret
    exact ⟨rfl, rfl⟩
  · have h2 : ¬ a < K.length := by omega
    have h3 : a ≥ 0 := by omega
    clear ha
    go_enter Try.func61, Try.ntmps61
    go_wp2
    go_ret
    exact ⟨rfl, rfl⟩
theorem rresolve_bad (w : World) (r : Nat) (room : Int) (u : Value) (K : List Nd) (h : RHp w r room u K) (a : Int) (ha : a < 0 ∨ (K.length : Int) ≤ a) :
    Calls Try.prog 57 #[.pointer (some ⟨r, 0, none⟩), .int .i64 a] w fun e w' => e = .returned (.tuple #[.int .i64 0, .int .i64 112]) ∧ w = w' := by
  have H := Lib.hid h
  clear h
  go_enter Try.func57, Try.ntmps57
  go_wp2_with fail
  refine (rhas_no _ r room u K H.out a ha).mono ?_
  rintro e w1 ⟨rfl, rfl⟩
  go_wp2_with fail
  go_ret2
  exact ⟨rfl, rfl⟩
theorem rresolve_some (w : World) (r : Nat) (room : Int) (u : Value) (K : List Nd) (h : RHp w r room u K) (hr : Ranked K) (a : Nat) (ha : a < K.length) :
    Calls Try.prog 57 #[.pointer (some ⟨r, 0, none⟩), .int .i64 a] w fun e w' => e = .returned (.tuple #[.int .i64 (resF K a), .int .i64 0]) ∧ w = w' := by
  obtain ⟨c0, hc0⟩ := hr.res a ha
  rw [resF_eq hc0]
  obtain ⟨va, c, rfl, hA⟩ := h.rd
  obtain ⟨g, off, rfl, hcl⟩ := hA (by omega)
  have hb1 : w.cell? ⟨r, 1, none⟩ = some (.slice (some ⟨g, off, none⟩) K.length c) := (h.blk.cell 1).trans rfl
  obtain ⟨rk, hrk⟩ := hr
  have H := Lib.hid h; have HRk := Lib.hid hrk; have HA := Lib.hid ha; have HC0 := Lib.hid hc0; have HCl := Lib.hid hcl
  clear h hrk ha hc0 hA hcl
  go_enter Try.func57, Try.ntmps57
  go_wp2_with fail
  refine (rhas_yes _ r room _ K H.out a HA.out).mono ?_
  rintro e w1 ⟨rfl, rfl⟩
  go_wp2_with fail
  go_loopw [1] (fun i wr => ∃ k : Nat, k < K.length ∧ i = .int .i64 k ∧ Hid (∀ c, Res K k c → Res K a c) ∧ w = wr) (fun i _ => rk (intOf i).toNat)
  case atStart => exact ⟨a, HA.out, rfl, fun _ h => h, rfl⟩
  case round =>
    obtain ⟨k, hk, rfl, HC, rfl⟩ := hrel
    obtain ⟨av, d0, d1, d2, d3, d4, _⟩ := HCl.out k hk
    have HX : Hid (∃ x, x = K[k]) := ⟨_, rfl⟩
    obtain ⟨nd, hx⟩ : ∃ x, x = K[k] := ⟨_, rfl⟩
    rw [← hx] at d3 d4
    clear d0 d1 d2
    have hk0 : (0 : Int) ≤ k := by omega
    have hk1 : (k : Int) < K.length := by omega
    have HKM := Lib.hid hk
    have HNd := Lib.hid hx
    clear hx
    cases hp : nd.points with
    | false =>
      rw [hp] at d3
      have HR : Hid (k = c0) := (HC.out k (.here HKM.out (by rw [← HNd.out, hp]))).one HC0.out
      clear hp
      go_wp2_with fail
      go_ret2
      exact ⟨by rw [← HR.out]; rfl, rfl⟩
    | true =>
      rw [hp] at d3
      obtain ⟨j, hj, hjl, hjr⟩ := HRk.out k HKM.out nd.to (by rw [← HNd.out]; simp [down, hp])
      have HR : Hid (∀ c, Res K j c → Res K a c) := fun c hc => HC.out c (.step HKM.out (by rw [← HNd.out, hp]) (by rw [← HNd.out, hj]) hc)
      rw [hj] at d4
      have HJ : Hid (j < K.length ∧ rk j < rk k) := ⟨hjl, hjr⟩
      clear hp hj hjl hjr
      go_wp2_with fail
      exact ⟨⟨j, HJ.out.1, rfl, HR.out, trivial⟩, by simpa [intOf] using HJ.out.2⟩
end Go.Proofs.Yteohhiefchoamaa

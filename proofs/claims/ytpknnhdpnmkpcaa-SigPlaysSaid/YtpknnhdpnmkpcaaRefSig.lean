/-
  The reference signature: the walks of Find, Add.
-/
import Derived.Test.YtpknnhdpnmkpcaaName2
import Derived.Test.YtpknnhdpnmkpcaaWalk3
import Derived.BigQuiet
import Derived.Lib.SlicesS
namespace Go.Proofs.Ytpknnhdpnmkpcaa
open Go.RowKit

/-- Block r is a reference signature over the slice u, of the symbols L. -/
structure RSig (w : World) (r : Nat) (u : Value) (L : List Sym) : Prop where
  blk : Blk w r 42 #[u]
  own : w.ownsRow 0 31 3 u L.length (symCells L)
theorem RSig.turned {w w' : World} {r : Nat} {u : Value} {L : List Sym} {S : Nat → Prop} (h : RSig w r u L) (ht : Turned S w w') (hr : ¬ S r) (hu : ∀ k, u.ownBlock = some k → ¬ S k) : RSig w' r u L :=
  ⟨h.blk.turned ht hr, World.ownsRow.turned h.own ht hu⟩
def findI (L : List Sym) (s : ByteArray) : Int := match findL L s with | none => -1 | some n => n

/-- A slice of symbols, as a call reads it. -/
def SymRd (w : World) (v : Value) (L : List Sym) : Prop :=
  ∃ A c, v = .slice A L.length c ∧ (0 < L.length → ∃ bl off, A = some ⟨bl, off, none⟩ ∧ ∀ k (h : k < L.length), w.cell? ⟨bl, off + k * 3, none⟩ = some (.string L[k].name) ∧ w.cell? ⟨bl, off + k * 3 + 1, none⟩ = some (.int .i64 L[k].arity) ∧ w.cell? ⟨bl, off + k * 3 + 2, none⟩ = some (.bool L[k].defd))
theorem SymRd.of_own {w : World} {v : Value} {L : List Sym} (h : w.ownsRow 0 31 3 v L.length (symCells L)) : SymRd w v L := by
  obtain ⟨a, c, rfl, _, _⟩ := own_shape h
  refine ⟨a, c, rfl, fun h0 => ?_⟩
  obtain ⟨g, cap, hv, _, hg⟩ := h.form h0
  obtain ⟨rfl, rfl⟩ : a = some ⟨g, 0, none⟩ ∧ c = cap := by simpa using hv
  refine ⟨g, 0, rfl, fun k hk => ?_⟩
  have hc := h.cells (g := g) rfl
  obtain ⟨e0, e1, e2⟩ := symCells_at L k hk
  have d0 := hc _ _ e0
  have d1 := hc _ _ e1
  have d2 := hc _ _ e2
  simp only [Addr.add_lit, Nat.zero_add] at d0 d1 d2
  simp only [Nat.zero_add]
  exact ⟨d0, d1, d2⟩
theorem findL_at {L : List Sym} {s : ByteArray} {k : Nat} (hk : k < L.length) (h : ∀ j (hj : j < L.length), j < k → L[j].name ≠ s) (he : L[k].name = s) : findL L s = some k := by
  unfold findL
  rw [List.findIdx?_eq_some_iff_getElem]
  exact ⟨hk, by simpa using he, fun j hj => by simpa using h j (by omega) hj⟩
theorem findL_none {L : List Sym} {s : ByteArray} (h : ∀ j (hj : j < L.length), L[j].name ≠ s) : findL L s = none := by
  unfold findL
  rw [List.findIdx?_eq_none_iff]
  intro x hx
  obtain ⟨j, hj, rfl⟩ := List.mem_iff_getElem.1 hx
  simpa using h j hj

set_option maxHeartbeats 1000000 in
theorem rfind_any (w : World) (v : Value) (L : List Sym) (h : SymRd w v L) (s : ByteArray) (hl : L.length ≤ 17592186044) :
    Calls Try.prog 28 #[v, .string s] w fun e w' => e = .returned (.int .i64 (findI L s)) ∧ w' = w := by
  obtain ⟨A, c, rfl, hA⟩ := h
  have HA := Lib.hid hA
  clear hA
  go_enter Try.func28, Try.ntmps28
  go_wp2_with fail
  go_loopw [5] (fun i wr => ∃ k : Nat, k ≤ L.length ∧ i = .int .i64 k ∧ Hid (∀ j (hj : j < L.length), j < k → L[j].name ≠ s) ∧ w = wr) (fun i _ => L.length - (intOf i).toNat)
  case atStart => exact ⟨0, Nat.zero_le _, rfl, fun j _ h => absurd h (Nat.not_lt_zero _), rfl⟩
  case round =>
    obtain ⟨k, hk, rfl, HV, rfl⟩ := hrel
    by_cases hlt : k < L.length
    · obtain ⟨bl, off, rfl, hc⟩ := HA.out (by omega)
      obtain ⟨d0, d1, d2⟩ := hc k hlt
      have HF : Hid (L[k].name = s → findI L s = k) := fun he => by unfold findI; rw [findL_at hlt HV.out he]
      have HG : Hid (L[k].name ≠ s → ∀ j (hj : j < L.length), j < k + 1 → L[j].name ≠ s) := fun he j hj hjk => by
        by_cases e : j = k
        · subst e; exact he
        · exact HV.out j hj (by omega)
      obtain ⟨nm, hnm⟩ : ∃ nm, nm = L[k].name := ⟨_, rfl⟩
      rw [← hnm] at d0 HF HG
      clear hc d1 d2 hnm
      have hk0 : (0 : Int) ≤ k := by omega
      have hk1 : (k : Int) < L.length := by omega
      by_cases he : nm = s
      · have HF2 := Lib.hid (HF.out he)
        subst he
        go_wp2_with fail
        go_ret
        exact ⟨by rw [HF2.out]; rfl, rfl⟩
      · have HG2 := Lib.hid (HG.out he)
        have hne : (nm.toList == s.toList) = false := (Lib.bytes_beq_false_iff nm s).2 he
        go_wp2_with fail
        go_roundw
        case rel => exact ⟨k + 1, by omega, by go_num, HG2.out, trivial⟩
        case measure => simp [intOf]; omega
    · have hkk : k = L.length := by omega
      have HF : Hid (findI L s = -1) := by unfold Hid findI; rw [findL_none (fun j hj => HV.out j hj (by omega))]
      clear HV
      subst hkk
      go_wp2_with fail
      go_ret
      exact ⟨by rw [HF.out]; rfl, rfl⟩
end Go.Proofs.Ytpknnhdpnmkpcaa

/-
  What Build and Load lay, in plain: where they may, what they lay is there, and makes no ring.
-/
import Derived.Test.YteohhiefchoamaaMade
import Derived.Test.YteohhiefchoamaaBack
namespace Go.Proofs.Yteohhiefchoamaa
open Go.RowKit

theorem partsBad_all {f : PartD → Option Int} : ∀ {l : List PartD} {i : Nat}, partsBad f i l = none → ∀ q ∈ l, f q = none
  | [], _, _, q, hq => by simp at hq
  | p :: r, i, h, q, hq => by
    rw [partsBad] at h
    cases hp : f p with
    | some y => rw [hp] at h; cases h
    | none =>
      rw [hp] at h
      rcases List.mem_cons.1 hq with rfl | hq
      · exact hp
      · exact partsBad_all h q hq
/-- The items of what is laid: what is at hand is there; their number. -/
structure Items (L : List Sym) (N : List Nd) (room : Int) (P : List (Int × Int)) : Prop where
  hand : ∀ x ∈ P, x.1 < 0 → ∃ j : Nat, x.2 = (j : Int) ∧ j < N.length
  well : Well L 1 (P.map (·.1))
  few : (N.length : Int) + syms P ≤ room
theorem items_build {L : List Sym} {N : List Nd} {room : Int} {R : List (List PartD)} {rule node : Int} (hr : Ranked N) (h : buildBad L N room R rule node = none) : Items L N room (buildP N R rule node) := by
  unfold buildBad at h
  split at h
  · cases h
  · split at h
    · cases h
    · rename_i h1 h2
      obtain ⟨a, ha⟩ : ∃ a, a = resF N node.toNat := ⟨_, rfl⟩
      obtain ⟨Q, hQ⟩ : ∃ Q, Q = R.getD rule.toNat [] := ⟨_, rfl⟩
      have hal : a < N.length := by
        obtain ⟨b, hb⟩ := hr.res node.toNat (by omega)
        rw [ha, resF_eq hb]
        exact hb.lt.1
      unfold buildP
      rw [← ha, ← hQ] at h ⊢
      unfold rightBad at h
      split at h
      · cases h
      · rename_i hp
        split at h
        · cases h
        · split at h
          · cases h
          · rename_i hw hc
            have hm : (itemsF N a Q).map (·.1) = Q.map (·.sym) := by simp [itemsF, List.map_map, Function.comp_def]
            have hs : syms (itemsF N a Q) = cntP (Q.map (·.sym)) := by
              unfold syms cntP itemsF
              rw [List.filter_map, List.filter_map, List.length_map, List.length_map]
              rfl
            refine ⟨fun x hx hn => ?_, ?_, ?_⟩
            · obtain ⟨q, hq, rfl⟩ := List.mem_map.1 hx
              have h3 := partsBad_all hp q hq
              unfold partBad at h3
              split at h3
              · cases h3
              · split at h3
                · cases h3
                · split at h3
                  · cases h3
                  · rename_i g1 g2 g3
                    have hq1 : q.sym = -1 := by simp only at hn; omega
                    have hlead : ¬ leadF N a q.path < 0 := fun hl => g3 ⟨hq1, hl⟩
                    simp only [handF, if_pos hq1]
                    rcases leadF_in hr q.path a (.inr ⟨a, rfl, hal⟩) with e | ⟨j, e, hj⟩
                    · omega
                    · exact ⟨j, e, hj⟩
            · rw [hm]
              exact (wellB_iff L _ 1).1 (by simpa using hw)
            · rw [hs]; omega
theorem items_load {L : List Sym} {N : List Nd} {room : Int} {t : List Int} (h : loadBad L room N.length t = none) : Items L N room (t.map fun n => (n, (0 : Int))) := by
  unfold loadBad at h
  split at h
  · cases h
  · split at h
    · cases h
    · split at h
      · cases h
      · rename_i h1 h2 h3
        have hc : checkP L t = 0 := by simpa using h1
        have hpos : ∀ n ∈ t, 0 ≤ n := by
          intro n hn
          rw [Bool.not_eq_true, List.any_eq_false] at h2
          have := h2 n hn
          simpa using this
        refine ⟨fun x hx hn => ?_, ?_, ?_⟩
        · obtain ⟨n, hn2, rfl⟩ := List.mem_map.1 hx
          have := hpos n hn2
          simp at hn
          omega
        · rw [List.map_map]
          have := (checkP_zero hc).2.2
          simpa [Function.comp_def] using this
        · rw [syms_all hpos]; omega
theorem layF_new (L : List Sym) (base : Nat) : ∀ P : List (Int × Int), ∀ x ∈ (layF L base P).2, x.points = false ∧ x.mark = 0
  | [], x, hx => by simp [layF] at hx
  | (n, h) :: r, x, hx => by
    by_cases hn : n < 0
    · rw [layF_cons_neg L base hn] at hx
      exact layF_new L base r x hx
    · rw [layF_cons_pos L base hn] at hx
      rcases List.mem_append.1 hx with h1 | h1
      · exact layF_new L base r x h1
      · obtain rfl : x = _ := by simpa using h1
        exact ⟨rfl, rfl⟩
/-- Of nodes: they make no ring, and each has at most six arguments. -/
structure Sound (N : List Nd) (room : Int) : Prop where
  rk : Ranked N
  a6 : ∀ x ∈ N, x.args.length ≤ 6
  len : (N.length : Int) ≤ room
theorem Sound.lay {L : List Sym} {N : List Nd} {room : Int} {P : List (Int × Int)} (h : Sound N room) (hL : ∀ x ∈ L, 0 ≤ x.arity ∧ x.arity ≤ 6) (hI : Items L N room P) : Sound (N ++ (layF L N.length P).2) room := by
  refine ⟨ranked_lay L h.rk P hI.hand, fun x hx => ?_, ?_⟩
  · rcases List.mem_append.1 hx with h1 | h1
    · exact h.a6 x h1
    · exact nds_args hL _ P x h1
  · rw [List.length_append, layF_syms]
    have := hI.few
    omega
theorem Items.root {L : List Sym} {N : List Nd} {room : Int} {P : List (Int × Int)} (hI : Items L N room P) {a : Int} (ha : (layF L N.length P).1 = [a]) : 0 ≤ a ∧ a < ((N.length + (layF L N.length P).2.length : Nat) : Int) := by
  obtain ⟨j, e, hj⟩ := layF_in L N.length P hI.hand a (by rw [ha]; simp)
  omega
theorem Ranked.inK {N : List Nd} (h : Ranked N) : InK N := by
  obtain ⟨rk, hr⟩ := h
  intro x hx d hd
  obtain ⟨i, hi, rfl⟩ := List.mem_iff_getElem.1 hx
  obtain ⟨j, e, hj, _⟩ := hr i hi d hd
  exact ⟨j, e, hj⟩
theorem PartsAt.weak2 {w : World} {S S' : Nat → Prop} {pv : Value} {Q : List PartD} (h : PartsAt w S pv Q) (hS : ∀ k, S' k → S k) : PartsAt w S' pv Q := by
  obtain ⟨A, c, rfl, h1⟩ := h
  refine ⟨A, c, rfl, fun h0 => ?_⟩
  obtain ⟨bl, off, rfl, hb, hc⟩ := h1 h0
  refine ⟨bl, off, rfl, fun h => hb (hS _ h), fun k hk => ?_⟩
  obtain ⟨c0, qv, c1, hq⟩ := hc k hk
  refine ⟨c0, qv, c1, ?_⟩
  obtain ⟨A, c, rfl, h1⟩ := hq
  refine ⟨A, c, rfl, fun h0 => ?_⟩
  obtain ⟨bl, off, rfl, hb, hc⟩ := h1 h0
  exact ⟨bl, off, rfl, fun h => hb (hS _ h), hc⟩
theorem RightsAt.weak {w : World} {S S' : Nat → Prop} {rv : Value} {R : List (List PartD)} (h : RightsAt w S rv R) (hS : ∀ k, S' k → S k) : RightsAt w S' rv R := by
  obtain ⟨A, c, rfl, h1⟩ := h
  refine ⟨A, c, rfl, fun h0 => ?_⟩
  obtain ⟨bl, off, rfl, hb, hc⟩ := h1 h0
  refine ⟨bl, off, rfl, fun h => hb (hS _ h), fun k hk => ?_⟩
  obtain ⟨pv, c0, hq⟩ := hc k hk
  exact ⟨pv, c0, hq.weak2 hS⟩
/-- A slice of tries, as a call reads it. -/
def TryRd (w : World) (v : Value) (T : List (Int × Int)) : Prop :=
  ∃ A c, v = .slice A T.length c ∧ (0 < T.length → ∃ bl off, A = some ⟨bl, off, none⟩ ∧ ∀ k (h : k < T.length), w.cell? ⟨bl, off + k * 2, none⟩ = some (.int .i64 T[k].1) ∧ w.cell? ⟨bl, off + k * 2 + 1, none⟩ = some (.int .i64 T[k].2))
theorem TryRd.same {w w' : World} {v : Value} {T : List (Int × Int)} (h : TryRd w v T) (ht : Same w w') : TryRd w' v T := by
  obtain ⟨A, c, rfl, h1⟩ := h
  refine ⟨A, c, rfl, fun h0 => ?_⟩
  obtain ⟨bl, off, rfl, hc⟩ := h1 h0
  refine ⟨bl, off, rfl, fun k hk => ?_⟩
  obtain ⟨e0, e1⟩ := hc k hk
  have l0 : bl < w.heap.size := World.block_lt_of_cell? _ _ e0
  exact ⟨(ht.cell (p := ⟨bl, off + k * 2, none⟩) l0 (fun h => h)).trans e0, (ht.cell (p := ⟨bl, off + k * 2 + 1, none⟩) l0 (fun h => h)).trans e1⟩
end Go.Proofs.Yteohhiefchoamaa

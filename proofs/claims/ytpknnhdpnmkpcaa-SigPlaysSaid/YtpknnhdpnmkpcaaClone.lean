/-
  slices.Clone over a row of symbols: a row of its own, of the same symbols.
-/
import Derived.Test.YtpknnhdpnmkpcaaApp
import Derived.Test.YtpknnhdpnmkpcaaWalk3
import Derived.Lib.SliceRun
namespace Go.Proofs.Ytpknnhdpnmkpcaa
open Go.RowKit

/-- A row that a call has made: no block of it was there. -/
def Fresh (w : World) (v : Value) : Prop := ∀ k, v.ownBlock = some k → w.heap.size ≤ k

theorem sym_one {L : List Sym} : ∀ u ∈ symCells L, u.oneCell' = true := by
  intro u hu
  simp only [symCells, List.mem_flatMap, Sym.cells] at hu
  obtain ⟨x, _, hx⟩ := hu
  simp at hx
  rcases hx with rfl | rfl | rfl <;> rfl

theorem run_nil23 (w : World) (a : Option Addr) (l c : Nat) : (binOp .eql 23 (.slice a l c) (.slice none 0 0)).run Try.prog w = .ok (.bool a.isNone) w := Lib.run_eql_slice_nil w 23 31 a l c 0 0 Try.underlying23

theorem clone_any (w : World) (v : Value) (L : List Sym) (h : w.ownsRow 0 31 3 v L.length (symCells L)) (h64 : L.length ≤ 64) :
    Calls Try.prog 30 #[v] w fun e w' => ∃ u, e = .returned u ∧ w'.ownsRow 0 31 3 u L.length (symCells L) ∧ Same w w' ∧ Fresh w u := by
  have hE := run_nil23
  obtain ⟨a, c, rfl, h1, h2⟩ := own_shape h
  have H := Lib.hid h
  rcases h.2 with ⟨e, e0⟩ | ⟨g, cap, cur, hv, _, _, _, _⟩
  · simp at e
    obtain ⟨rfl, e1, rfl⟩ := e
    subst e1
    clear h e0
    go_enter Try.func30, Try.ntmps30
    go_wp2_with fail
    go_ret
    exact ⟨_, rfl, H.out, Turned.refl _ _, fun k hk => by simp [Value.ownBlock] at hk⟩
  · simp at hv
    obtain ⟨rfl, rfl⟩ := hv
    clear h
    obtain ⟨i0, hi0, hz0, hz1, hz2⟩ := info_parts Try.info31
    have HI : Hid (Try.prog.info? 31 = some i0 ∧ i0.zero = some (.agg #[.string ⟨#[]⟩, .int .i64 0, .bool false]) ∧ i0.size = 3 ∧ i0.bytes = 32) := ⟨hi0, hz0, hz1, hz2⟩
    clear hi0 hz0 hz1 hz2
    go_enter Try.func30, Try.ntmps30
    have HW : Hid ((w.alloc (.cells #[] 31)).ownsRow 0 31 3 (.slice (some ⟨w.heap.size, 0, none⟩) 0 0) 0 []) := World.ownsRow_made w #[] 0 (Nat.zero_le _) (Nat.zero_le _) rfl
    have HS : Hid (0 < L.length → ∃ ad, some (⟨g, 0, none⟩ : Addr) = some ad ∧ ∀ j u, (symCells L)[j]? = some u → (w.alloc (.cells #[] 31)).cell? (ad.add j) = some u) := fun _ => ⟨_, rfl, fun j u hu => by
      have := H.out.cells (g := g) rfl j u hu
      rw [← this]
      exact World.cell?_alloc_lt w _ _ (by have := H.out.lt g rfl; simpa [Addr.add_lit] using this.2)⟩
    go_wp2_with (first | (at_builtin; refine wpList_append_src _ rfl _ _ 23 rfl 31 i0 _ 3 32 Try.underlying23 HI.out.1 HI.out.2.1 HI.out.2.2.1 HI.out.2.2.2 rfl (by decide) _ 0 [] rfl HW.out _ L.length c (symCells L) rfl (symCells_length L) HS.out sym_one (by unfold maxLen; omega) (by omega) ?_; intro a' c' w2 hown2 hgrow2 hat2))
    go_ret
    rw [Nat.zero_add, List.nil_append] at hown2
    refine ⟨_, rfl, hown2, ((Turned.refl _ _).alloc _).grown hgrow2 (fun k hk => .inr (Nat.le_of_eq (Option.some.inj hk))), fun k hk => ?_⟩
    rw [Nat.zero_add] at hat2
    rcases hat2 with h3 | h3
    · exact Nat.le_of_eq (Option.some.inj (h3.symm.trans hk))
    · have := Option.some.inj (h3.symm.trans hk)
      simp at this; omega
end Go.Proofs.Ytpknnhdpnmkpcaa

/-
  The walks of sig.New, Len, At, Find: the contracts over a signature in memory.
-/
import Derived.Test.YteohhiefchoamaaState
import Derived.Deep.RegionHeld3
import Derived.BigQuiet
import Derived.Deep.RegionLaw
import Derived.WalkLawsBesides
import Derived.WalkSpells
import Derived.StringKeys
namespace Go.Proofs.Yteohhiefchoamaa
open Go.RowKit Go.Maps
open Go.WideMaps Go.WideElems

abbrev Same (w w' : World) : Prop := Turned (fun _ => False) w w'

def Sym.zero : Sym := ⟨⟨#[]⟩, 0, false⟩
theorem tells_nil : Tells (.map []) [] := ⟨isMap_empty, fun _ => rfl, fun s i h => by simp [findL] at h⟩

theorem new_any (w : World) : Calls Try.prog 41 #[] w fun e w' => ∃ b bm, e = .returned (.pointer (some ⟨b, 0, none⟩)) ∧ SigAt w' b bm (.slice none 0 0) [] ∧ Same w w' ∧ w.heap.size ≤ b ∧ w.heap.size ≤ bm := by
  have hmm := @run_makeMap Try.prog
  have hm := World.ownsMap_made (H := Unit) w Try.prog 9 (plainElem Try.prog 3)
  have HM := Lib.hid (hm.alloc (.cells #[.slice none 0 0, .map (some w.heap.size)] 133))
  clear hm
  go_enter Try.func41, Try.ntmps41
  go_wp2
  go_ret
  refine ⟨_, w.heap.size, rfl, ⟨?_, World.ownsRow_nil _ _ _ _, ⟨_, HM.out, tells_nil⟩, by simp⟩, ((Turned.refl _ _).alloc _).alloc _, by simp, Nat.le_refl _⟩
  have hb := Blk.new (w.alloc (.map #[] 0)) 133 #[.slice none 0 0, .map (some w.heap.size)]
  simpa using hb

theorem len_any (w : World) (b bm : Nat) (v : Value) (L : List Sym) (h : SigAt w b bm v L) :
    Calls Try.prog 48 #[.pointer (some ⟨b, 0, none⟩)] w fun e w' => e = .returned (.int .i64 L.length) ∧ w = w' := by
  obtain ⟨a, c, rfl, h1, h2⟩ := own_shape h.own
  have c0 := h.blk.cell 0
  simp at c0
  clear h
  go_enter Try.func48, Try.ntmps48
  go_wp2
  go_ret
  exact ⟨rfl, rfl⟩

theorem at_none (w : World) (b bm : Nat) (v : Value) (L : List Sym) (h : SigAt w b bm v L) (n : Int) (hn : n < 0 ∨ L.length ≤ n) :
    Calls Try.prog 76 #[.pointer (some ⟨b, 0, none⟩), .int .i64 n] w fun e w' => e = .returned (.tuple #[Sym.zero.val, .int .i64 14]) ∧ Same w w' := by
  obtain ⟨a, c, rfl, h1, h2⟩ := own_shape h.own
  have c0 := h.blk.cell 0
  simp at c0
  have hlt := h.blk.lt
  clear h
  by_cases h0 : n < 0
  · clear hn
    go_enter Try.func76, Try.ntmps76
    go_wp2
    refine bodyPost_ret (v := .tuple #[Sym.zero.val, .int .i64 14]) ?_ rfl ⟨rfl, (Turned.refl _ _).alloc _⟩
    simp [results, Try.results76, go_sem]; rfl
  · have hn : (L.length : Int) ≤ n := by omega
    go_enter Try.func76, Try.ntmps76
    go_wp2
    refine bodyPost_ret (v := .tuple #[Sym.zero.val, .int .i64 14]) ?_ rfl ⟨rfl, (Turned.refl _ _).alloc _⟩
    simp [results, Try.results76, go_sem]; rfl
theorem at_some (w : World) (b bm : Nat) (v : Value) (L : List Sym) (h : SigAt w b bm v L) (n : Nat) (hn : n < L.length) :
    Calls Try.prog 76 #[.pointer (some ⟨b, 0, none⟩), .int .i64 n] w fun e w' => e = .returned (.tuple #[L[n].val, .int .i64 0]) ∧ Same w w' := by
  have hown := h.own
  obtain ⟨a, c, rfl, h1, h2⟩ := own_shape h.own
  obtain ⟨g, cap, hv, hg, hlt2⟩ := hown.form (by omega)
  obtain ⟨rfl, rfl⟩ : a = some ⟨g, 0, none⟩ ∧ c = cap := by simpa using hv
  have c0 := h.blk.cell 0
  simp at c0
  have hlt := h.blk.lt
  have hc := hown.cells (g := g) rfl
  obtain ⟨e0, e1, e2⟩ := symCells_at L n hn
  have d0 := hc _ _ e0
  have d1 := hc _ _ e1
  have d2 := hc _ _ e2
  clear h hc hv e0 e1 e2 hown
  simp only [Addr.add_lit, Nat.zero_add] at d0 d1 d2
  generalize L[n] = x at *
  have hn0 : (0 : Int) ≤ n := by omega
  have hn1 : (n : Int) < L.length := by omega
  go_enter Try.func76, Try.ntmps76
  go_wp2
  refine bodyPost_ret (v := .tuple #[x.val, .int .i64 0]) ?_ rfl ⟨rfl, (Turned.refl _ _).alloc _⟩
  simp [results, Try.results76, go_sem]; rfl

end Go.Proofs.Yteohhiefchoamaa

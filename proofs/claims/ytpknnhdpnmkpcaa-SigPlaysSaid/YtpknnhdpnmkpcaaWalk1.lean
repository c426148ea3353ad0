/-
  The walks of sig.New, Len, At, Find: the contracts over a signature in memory.
-/
import Derived.Test.YtpknnhdpnmkpcaaState
import Derived.Deep.RegionHeld3
import Derived.BigQuiet
import Derived.Deep.RegionLaw
import Derived.WalkLawsBesides
import Derived.WalkSpells
import Derived.StringKeys
namespace Go.Proofs.Ytpknnhdpnmkpcaa
open Go.RowKit Go.Maps
open Go.WideMaps Go.WideElems

abbrev Same (w w' : World) : Prop := Turned (fun _ => False) w w'

theorem tells_nil : Tells (.map []) [] := ⟨isMap_empty, fun _ => rfl, fun s i h => by simp [findL] at h⟩

theorem new_any (w : World) : Calls Try.prog 8 #[] w fun e w' => ∃ b bm, e = .returned (.pointer (some ⟨b, 0, none⟩)) ∧ SigAt w' b bm (.slice none 0 0) [] ∧ Same w w' ∧ w.heap.size ≤ b ∧ w.heap.size ≤ bm := by
  have hmm := @run_makeMap Try.prog
  have hm := World.ownsMap_made (H := Unit) w Try.prog 9 (plainElem Try.prog 3)
  have HM := Lib.hid (hm.alloc (.cells #[.slice none 0 0, .map (some w.heap.size)] 52))
  clear hm
  go_enter Try.func8, Try.ntmps8
  go_wp2
  go_ret
  refine ⟨_, w.heap.size, rfl, ⟨?_, World.ownsRow_nil _ _ _ _, ⟨_, HM.out, tells_nil⟩, by simp⟩, ((Turned.refl _ _).alloc _).alloc _, by simp, Nat.le_refl _⟩
  have hb := Blk.new (w.alloc (.map #[] 0)) 52 #[.slice none 0 0, .map (some w.heap.size)]
  simpa using hb

theorem len_any (w : World) (b bm : Nat) (v : Value) (L : List Sym) (h : SigAt w b bm v L) :
    Calls Try.prog 10 #[.pointer (some ⟨b, 0, none⟩)] w fun e w' => e = .returned (.int .i64 L.length) ∧ w = w' := by
  obtain ⟨a, c, rfl, h1, h2⟩ := own_shape h.own
  have c0 := h.blk.cell 0
  simp at c0
  clear h
  go_enter Try.func10, Try.ntmps10
  go_wp2
  go_ret
  exact ⟨rfl, rfl⟩

theorem find_some (w : World) (b bm : Nat) (v : Value) (L : List Sym) (h : SigAt w b bm v L) (s : ByteArray) (hs : s.size ≤ maxLen) (i : Nat) (hi : findL L s = some i) :
    Calls Try.prog 12 #[.pointer (some ⟨b, 0, none⟩), .string s] w fun e w' => e = .returned (.tuple #[.int .i64 i, .int .i64 0]) ∧ w = w' := by
  obtain ⟨D, hown, hT⟩ := h.map
  have c1 := h.blk.cell 1
  simp at c1
  have hh : Hid (Maps.has D (keyL s) = true) := by unfold Hid; rw [hT.2.1 s, hi]; rfl
  have ha : Hid (D.atKey (keyL s) (i64 0) = i64 i) := hT.2.2 s i hi
  have hkey : keyOf Try.prog 9 (.string s) = some (keyL s) := keyOf_string_mk Try.underlying9 hs
  clear h hT hi
  go_enter Try.func12, Try.ntmps12
  go_wp2_with (first
    | (at_lookup; refine wpList_lookup_own_ok_int _ rfl _ _ 50 rfl 9 3 .i64 law9 Try.underlying50 Try.underlying3 (zero3 _) bm _ D rfl hown _ _ rfl hkey ?_; intro c hat hwc; rw [hh.out]; obtain rfl : c = i := by (have := hat.symm.trans ha.out; simpa using this)))
  all_goals go_ret2
  all_goals exact ⟨rfl, rfl⟩

theorem find_none (w : World) (b bm : Nat) (v : Value) (L : List Sym) (h : SigAt w b bm v L) (s : ByteArray) (hs : s.size ≤ maxLen) (hi : findL L s = none) :
    Calls Try.prog 12 #[.pointer (some ⟨b, 0, none⟩), .string s] w fun e w' => e = .returned (.tuple #[.int .i64 0, .int .i64 14]) ∧ w = w' := by
  obtain ⟨D, hown, hT⟩ := h.map
  have c1 := h.blk.cell 1
  simp at c1
  have hh : Hid (Maps.has D (keyL s) = false) := by unfold Hid; rw [hT.2.1 s, hi]; rfl
  have hkey : keyOf Try.prog 9 (.string s) = some (keyL s) := keyOf_string_mk Try.underlying9 hs
  clear h hT hi
  go_enter Try.func12, Try.ntmps12
  go_wp2_with (first
    | (at_lookup; refine wpList_lookup_own_ok_int _ rfl _ _ 50 rfl 9 3 .i64 law9 Try.underlying50 Try.underlying3 (zero3 _) bm _ D rfl hown _ _ rfl hkey ?_; intro c hat hwc; rw [hh.out]))
  all_goals go_ret2
  all_goals exact ⟨rfl, rfl⟩

def Sym.zero : Sym := ⟨⟨#[]⟩, 0, false⟩

theorem at_none (w : World) (b bm : Nat) (v : Value) (L : List Sym) (h : SigAt w b bm v L) (n : Int) (hn : n < 0 ∨ L.length ≤ n) :
    Calls Try.prog 11 #[.pointer (some ⟨b, 0, none⟩), .int .i64 n] w fun e w' => e = .returned (.tuple #[Sym.zero.val, .int .i64 14]) ∧ Same w w' := by
  obtain ⟨a, c, rfl, h1, h2⟩ := own_shape h.own
  have c0 := h.blk.cell 0
  simp at c0
  have hlt := h.blk.lt
  clear h
  by_cases h0 : n < 0
  · clear hn
    go_enter Try.func11, Try.ntmps11
    go_wp2
    refine bodyPost_ret (v := .tuple #[Sym.zero.val, .int .i64 14]) ?_ rfl ⟨rfl, (Turned.refl _ _).alloc _⟩
    simp [results, Try.results11, go_sem]; rfl
  · have hn : (L.length : Int) ≤ n := by omega
    go_enter Try.func11, Try.ntmps11
    go_wp2
    refine bodyPost_ret (v := .tuple #[Sym.zero.val, .int .i64 14]) ?_ rfl ⟨rfl, (Turned.refl _ _).alloc _⟩
    simp [results, Try.results11, go_sem]; rfl
theorem at_some (w : World) (b bm : Nat) (v : Value) (L : List Sym) (h : SigAt w b bm v L) (n : Nat) (hn : n < L.length) :
    Calls Try.prog 11 #[.pointer (some ⟨b, 0, none⟩), .int .i64 n] w fun e w' => e = .returned (.tuple #[L[n].val, .int .i64 0]) ∧ Same w w' := by
  have hown := h.own
  obtain ⟨a, c, rfl, h1, h2⟩ := own_shape h.own
  obtain ⟨g, cap, hv, hg, hlt2⟩ := hown.form (by omega)
  obtain ⟨rfl, rfl⟩ : a = some ⟨g, 0, none⟩ ∧ c = cap := by simpa using hv
  have c0 := h.blk.cell 0
  simp at c0
  have hlt := h.blk.lt
  have hc := hown.cells (g := g) rfl
  obtain ⟨e0, e1, e2⟩ := symCells_at L n hn
  have d0 := hc _ _ e0
  have d1 := hc _ _ e1
  have d2 := hc _ _ e2
  clear h hc hv e0 e1 e2 hown
  simp only [Addr.add_lit, Nat.zero_add] at d0 d1 d2
  generalize L[n] = x at *
  have hn0 : (0 : Int) ≤ n := by omega
  have hn1 : (n : Int) < L.length := by omega
  go_enter Try.func11, Try.ntmps11
  go_wp2
  refine bodyPost_ret (v := .tuple #[x.val, .int .i64 0]) ?_ rfl ⟨rfl, (Turned.refl _ _).alloc _⟩
  simp [results, Try.results11, go_sem]; rfl

end Go.Proofs.Ytpknnhdpnmkpcaa

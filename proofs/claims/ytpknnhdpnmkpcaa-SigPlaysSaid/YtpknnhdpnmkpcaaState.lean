/-
  A signature in memory: its block, its map, its list: what they read as; frames.
-/
import Derived.Test.YtpknnhdpnmkpcaaName
import Derived.Maps.OwnSet
import Derived.Deep.AppendLies
import Derived.Deep.Draws
namespace Go.Proofs.Ytpknnhdpnmkpcaa
open Go.RowKit Go.Maps

/-- Only blocks in S, and new ones, have turned. -/
structure Turned (S : Nat → Prop) (w w' : World) : Prop where
  os : w'.os = w.os
  tape : w'.tape = w.tape
  output : w'.output = w.output
  size : w.heap.size ≤ w'.heap.size
  block : ∀ k, k < w.heap.size → ¬ S k → w'.heap[k]? = w.heap[k]?

section
variable {S T : Nat → Prop} {a b c w w' : World}
theorem Turned.refl (S : Nat → Prop) (w : World) : Turned S w w := ⟨rfl, rfl, rfl, Nat.le_refl _, fun _ _ _ => rfl⟩
theorem Turned.trans (h : Turned S a b) (k : Turned T b c) (hT : ∀ i, T i → S i ∨ a.heap.size ≤ i) : Turned S a c :=
  ⟨k.os.trans h.os, k.tape.trans h.tape, k.output.trans h.output, Nat.le_trans h.size k.size, fun i hi hn =>
    (k.block i (Nat.lt_of_lt_of_le hi h.size) (fun ht => by rcases hT i ht with h1 | h1; exact hn h1; omega)).trans (h.block i hi hn)⟩
theorem Turned.drew (h : Turned S a w) : Turned S a w.drew := ⟨h.os, h.tape, h.output, h.size, h.block⟩
theorem Turned.drewN (h : Turned S a w) (n : Nat) : Turned S a (w.drewN n) := ⟨h.os, h.tape, h.output, h.size, h.block⟩
theorem Turned.alloc (h : Turned S a w) (o : Obj) : Turned S a (w.alloc o) :=
  ⟨h.os, h.tape, h.output, Nat.le_trans h.size (by simp), fun i hi hn => (Below.heap_alloc w o i (Nat.lt_of_lt_of_le hi h.size)).trans (h.block i hi hn)⟩
theorem Turned.setCell (h : Turned S a w) {p : Addr} (hp : S p.block ∨ a.heap.size ≤ p.block) (u : Value) : Turned S a (w.setCell p u) :=
  ⟨h.os, h.tape, h.output, by simpa [World.setCell] using h.size, fun i hi hn => (Below.heap_setCell w p u i (fun e => by
    subst e; rcases hp with hp | hp; exact hn hp; omega)).trans (h.block i hi hn)⟩
theorem Turned.grown {row : Option Nat} (h : Turned S a w) (hg : w.grownBy w' row) (hr : ∀ k, row = some k → S k ∨ a.heap.size ≤ k) : Turned S a w' :=
  ⟨hg.os.trans h.os, hg.tape.trans h.tape, hg.output.trans h.output, Nat.le_trans h.size hg.size, fun i hi hn =>
    (hg.block i (Nat.lt_of_lt_of_le hi h.size) (fun e => by rcases hr i e.symm with h1 | h1; exact hn h1; omega)).trans (h.block i hi hn)⟩
theorem Turned.mono (h : Turned S a w) (hS : ∀ i, S i → T i) : Turned T a w := ⟨h.os, h.tape, h.output, h.size, fun i hi hn => h.block i hi (fun hs => hn (hS i hs))⟩
theorem Turned.below {B : Nat} (h : Turned S a w) (hB : B ≤ a.heap.size) (hS : ∀ i, S i → B ≤ i) : Below B a w :=
  ⟨h.os, h.tape, h.output, h.size, fun i hi => h.block i (by omega) (fun hs => by have := hS i hs; omega)⟩
theorem Turned.cell (h : Turned S a w) {p : Addr} (hp : p.block < a.heap.size) (hn : ¬ S p.block) : w.cell? p = a.cell? p := World.cell?_of_block (h.block _ hp hn)
theorem Turned.frozen (h : Turned S a w) {p : Addr} (hp : p.block < a.heap.size) (hn : ¬ S p.block) : w.frozen? p = a.frozen? p := World.frozen?_of_block (h.block _ hp hn)
end

/-- Block g is known whole, none of it frozen. -/
def Blk (w : World) (g : Nat) (t : TypeId) (cs : Array Value) : Prop := w.heap[g]? = some (.cells cs t (0, 0))
section
variable {w w' : World} {g : Nat} {t : TypeId} {cs : Array Value}
theorem Blk.lt (h : Blk w g t cs) : g < w.heap.size := (Array.getElem?_eq_some_iff.1 h).1
theorem Blk.cell (h : Blk w g t cs) (i : Nat) : w.cell? ⟨g, i, none⟩ = cs[i]? := cell_of_row w g i cs t (0, 0) h
theorem Blk.frozen (h : Blk w g t cs) (i : Nat) : w.frozen? ⟨g, i, none⟩ = false := by
  unfold Blk at h; simp [World.frozen?, h]
theorem Blk.new (w : World) (t : TypeId) (cs : Array Value) : Blk (w.alloc (.cells cs t)) w.heap.size t cs := heap_alloc_new w _
theorem Blk.drew (h : Blk w g t cs) : Blk w.drew g t cs := h
theorem Blk.drewN (h : Blk w g t cs) (n : Nat) : Blk (w.drewN n) g t cs := h
theorem Blk.alloc (h : Blk w g t cs) (o : Obj) : Blk (w.alloc o) g t cs := (Below.heap_alloc w o g h.lt).trans h
theorem Blk.set_ (h : Blk w g t cs) (i : Nat) (u : Value) : Blk (w.setCell ⟨g, i, none⟩ u) g t (cs.setIfInBounds i u) := by
  unfold Blk at h ⊢; simp [World.setCell, Array.getElem?_modify, h]
theorem Blk.far (h : Blk w g t cs) {p : Addr} (hp : g ≠ p.block) (u : Value) : Blk (w.setCell p u) g t cs := (Below.heap_setCell w p u g hp).trans h
theorem Blk.turned {S : Nat → Prop} (h : Blk w g t cs) (hb : Turned S w w') (hg : ¬ S g) : Blk w' g t cs := (hb.block g h.lt hg).trans h
theorem Blk.grown {row : Option Nat} (h : Blk w g t cs) (hb : w.grownBy w' row) (hg : some g ≠ row) : Blk w' g t cs := (hb.block g h.lt hg).trans h
theorem Blk.ne_ {g' : Nat} {t' : TypeId} {cs' : Array Value} (h : Blk w g t cs) (h' : Blk w g' t' cs') (hne : t ≠ t') : g ≠ g' := by
  rintro rfl
  unfold Blk at h h'
  rw [h] at h'
  injection h' with h'
  injection h' with _ ht
  exact hne ht
theorem own_blk_ne {base : Nat} {e : TypeId} {size n : Nat} {v : Value} {xs : List Value} (h : w.ownsRow base e size v n xs) (hg : Blk w g t cs) (hne : e ≠ t) : v.ownBlock ≠ some g := by
  rcases h.2 with ⟨rfl, _⟩ | ⟨g', cap, cur, rfl, _, hh, _⟩
  · simp [Value.ownBlock]
  · intro he
    have : g' = g := by simpa [Value.ownBlock] using he
    subst this
    exact Blk.ne_ (t := e) hh hg hne rfl
theorem blk_map_ne {H : Type} {P : Program} {k : TypeId} {R : Value → Option (DataW H × List MemPlace)} {bm n : Nat} {D : DataW H} (hg : Blk w g t cs) (h : w.ownsMap P k R bm n D) : g ≠ bm := by
  rintro rfl
  obtain ⟨es, clock, hb, _⟩ := h
  unfold Blk at hg; rw [hg] at hb; cases hb
theorem own_map_ne {H : Type} {P : Program} {k : TypeId} {R : Value → Option (DataW H × List MemPlace)} {bm m : Nat} {D : DataW H} {base : Nat} {e : TypeId} {size n : Nat} {v : Value} {xs : List Value}
    (h : w.ownsRow base e size v n xs) (hm : w.ownsMap P k R bm m D) : v.ownBlock ≠ some bm := by
  rcases h.2 with ⟨rfl, _⟩ | ⟨g', cap, cur, rfl, _, hh, _⟩
  · simp [Value.ownBlock]
  · intro he
    have : g' = bm := by simpa [Value.ownBlock] using he
    subst this
    obtain ⟨es, clock, hb, _⟩ := hm
    rw [hh] at hb; cases hb
end
theorem World.ownsRow.turned {w w' : World} {S : Nat → Prop} {base : Nat} {e : TypeId} {size n : Nat} {v : Value} {xs : List Value} (h : w.ownsRow base e size v n xs) (hb : Turned S w w') (hn : ∀ k, v.ownBlock = some k → ¬ S k) :
    w'.ownsRow base e size v n xs := by
  refine ⟨h.1, ?_⟩
  rcases h.2 with h0 | ⟨g, cap, cur, rfl, hbg, hgg, rest⟩
  · exact .inl h0
  · exact .inr ⟨g, cap, cur, rfl, hbg, (hb.block g (Array.getElem?_eq_some_iff.1 hgg).1 (hn g rfl)).trans hgg, rest⟩
theorem World.ownsMap.turned {H : Type} {w w' : World} {P : Program} {k : TypeId} {R : Value → Option (DataW H × List MemPlace)} {b n : Nat} {D : DataW H} {S : Nat → Prop} (h : w.ownsMap P k R b n D) (hb : Turned S w w') (hn : ¬ S b) :
    w'.ownsMap P k R b n D := by
  have hlt := h.lt
  obtain ⟨es, clock, hbb, r⟩ := h
  exact ⟨es, clock, (hb.block b hlt hn).trans hbb, r⟩

/-! ### symbols -/
structure Sym where
  name : ByteArray
  arity : Int
  defd : Bool
def Sym.cells (x : Sym) : List Value := [.string x.name, .int .i64 x.arity, .bool x.defd]
def Sym.val (x : Sym) : Value := .agg #[.string x.name, .int .i64 x.arity, .bool x.defd]
def symCells (L : List Sym) : List Value := L.flatMap Sym.cells
theorem symCells_snoc (L : List Sym) (x : Sym) : symCells (L ++ [x]) = symCells L ++ x.cells := by simp [symCells]
theorem symCells_length (L : List Sym) : (symCells L).length = L.length * 3 := by
  induction L with
  | nil => rfl
  | cons x r ih => simp only [symCells, List.flatMap_cons, List.length_append, List.length_cons] at *; rw [ih]; simp [Sym.cells]; omega
theorem symCells_at (L : List Sym) (i : Nat) (h : i < L.length) : (symCells L)[i * 3]? = some (.string L[i].name) ∧ (symCells L)[i * 3 + 1]? = some (.int .i64 L[i].arity) ∧ (symCells L)[i * 3 + 2]? = some (.bool L[i].defd) := by
  induction L generalizing i with
  | nil => simp at h
  | cons x r ih =>
    cases i with
    | zero => simp [symCells, Sym.cells]
    | succ i =>
      have := ih i (by simpa using h)
      have e : symCells (x :: r) = x.cells ++ symCells r := by simp [symCells]
      rw [e, show (i + 1) * 3 = 3 + i * 3 from by omega]
      have h3 : x.cells.length = 3 := rfl
      refine ⟨?_, ?_, ?_⟩
      · rw [List.getElem?_append_right (by omega), h3, show 3 + i * 3 - 3 = i * 3 from by omega]; exact this.1
      · rw [List.getElem?_append_right (by omega), h3, show 3 + i * 3 + 1 - 3 = i * 3 + 1 from by omega]; exact this.2.1
      · rw [List.getElem?_append_right (by omega), h3, show 3 + i * 3 + 2 - 3 = i * 3 + 2 from by omega]; exact this.2.2

def keyL (s : ByteArray) : Lit := .string s.data.toList
theorem keyL_inj {s t : ByteArray} (h : keyL s = keyL t) : s = t := by
  unfold keyL at h
  injection h with h
  exact ByteArray.ext (Array.toList_inj.1 h)
def findL (L : List Sym) (s : ByteArray) : Option Nat := L.findIdx? (fun x => decide (x.name = s))

theorem law9 : Keyed Try.prog 9 := string_keyed Try.underlying9
theorem zero3 (w : World) : (zeroValue 3).run Try.prog w = .ok (.int .i64 0) w := by kernel_rfl

abbrev i64 (n : Int) : DataW Unit := .lit (.int .i64 n)

/-- What the map tells of a list: of each key whether it is there, and the first place at which it stands. -/
def Tells (D : DataW Unit) (L : List Sym) : Prop :=
  IsMap D ∧ (∀ s : ByteArray, Maps.has D (keyL s) = (findL L s).isSome) ∧ ∀ (s : ByteArray) (i : Nat), findL L s = some i → D.atKey (keyL s) (i64 0) = i64 i

/-- Block b is a signature over the map bm and the slice v, of the symbols L. -/
structure SigAt (w : World) (b bm : Nat) (v : Value) (L : List Sym) : Prop where
  blk : Blk w b 52 #[v, .map (some bm)]
  own : w.ownsRow 0 31 3 v L.length (symCells L)
  map : ∃ D, w.ownsMap Try.prog 9 (plainElem (H := Unit) Try.prog 3) bm L.length D ∧ Tells D L
  few : L.length ≤ 64
def foot (b bm : Nat) (v : Value) : Nat → Prop := fun k => k = b ∨ k = bm ∨ v.ownBlock = some k

theorem SigAt.turned {w w' : World} {b bm : Nat} {v : Value} {L : List Sym} {S : Nat → Prop} (h : SigAt w b bm v L) (ht : Turned S w w') (hn : ∀ k, foot b bm v k → ¬ S k) : SigAt w' b bm v L :=
  ⟨h.blk.turned ht (hn b (.inl rfl)), World.ownsRow.turned h.own ht (fun k hk => hn k (.inr (.inr hk))), by
    obtain ⟨D, hD, hT⟩ := h.map
    exact ⟨D, World.ownsMap.turned hD ht (hn bm (.inr (.inl rfl))), hT⟩, h.few⟩

/-- The slice value is a slice of that length. -/
theorem own_shape {w : World} {base : Nat} {e : TypeId} {size n : Nat} {v : Value} {xs : List Value} (h : w.ownsRow base e size v n xs) : ∃ a c, v = .slice a n c ∧ n ≤ c ∧ c ≤ maxLen := by
  rcases h.2 with ⟨rfl, rfl⟩ | ⟨g, cap, cur, rfl, _, _, h1, h2, _⟩
  · exact ⟨none, 0, rfl, Nat.le_refl _, Nat.zero_le _⟩
  · exact ⟨_, cap, rfl, h1, h2⟩

end Go.Proofs.Ytpknnhdpnmkpcaa

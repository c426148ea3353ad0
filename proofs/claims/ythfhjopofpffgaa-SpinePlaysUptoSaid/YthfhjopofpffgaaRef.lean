/-
  The reference spine in memory; rows of numbers of the call's own; the walks of Copied, Own, New.
-/
import Derived.Test.YthfhjopofpffgaaMoves
namespace Go.Proofs.Ythfhjopofpffgaa
open Go.RowKit

/-- A slice value that is a row of the call's own and reads as a list of numbers. -/
def RowAt (w : World) (pv : Value) (p : List Int) : Prop := w.ownsRow 0 3 1 pv p.length (intVals p)
theorem intVals_length (p : List Int) : (intVals p).length = p.length := by simp [intVals]
theorem RowAt.rd {w : World} {pv : Value} {p : List Int} (h : RowAt w pv p) : Rd w pv p := by
  obtain ⟨a, c, rfl, _, _⟩ := own_shape h
  refine ⟨a, c, rfl, fun h0 => ?_⟩
  obtain ⟨g, cap, hv, _, hg⟩ := World.ownsRow.form h h0
  obtain ⟨rfl, rfl⟩ : a = some ⟨g, 0, none⟩ ∧ c = cap := by simpa using hv
  refine ⟨g, 0, rfl, fun k hk => ?_⟩
  have hc := World.ownsRow.cells (g := g) h rfl k (.int .i64 p[k]) (by simp [intVals, hk])
  simpa [Addr.add_lit] using hc
theorem RowAt.turned {w w' : World} {S : Nat → Prop} {pv : Value} {p : List Int} (h : RowAt w pv p) (ht : Turned S w w') (hn : ∀ k, pv.ownBlock = some k → ¬ S k) : RowAt w' pv p := World.ownsRow.turned h ht hn
theorem RowAt.same {w w' : World} {pv : Value} {p : List Int} (h : RowAt w pv p) (ht : Same w w') : RowAt w' pv p := h.turned ht (fun _ _ h => h)
theorem PAt.row {w : World} {pv : Value} {p : List Int} (h : PAt w pv p) (hl : p.length ≤ 17592186044416) : RowAt w pv p := by
  rcases h with ⟨rfl, rfl⟩ | ⟨g, rfl, hb⟩
  · exact World.ownsRow_nil _ _ _ _
  · refine ⟨by simp [intVals], .inr ⟨g, p.length, _, rfl, Nat.zero_le _, hb, Nat.le_refl _, by unfold maxLen; omega, by simp [intVals], ?_⟩⟩
    simp only [Nat.mul_one]
    rw [← intVals_length p, List.take_length]

/-- Block r is a reference spine over the slice u, of the frames G. -/
structure RAt (w : World) (r : Nat) (u : Value) (G : List FV) : Prop where
  blk : Blk w r 61 #[u]
  own : w.ownsRow 0 25 4 u G.length (fall G)
  paths : ∀ x ∈ G, RowAt w x.2 x.1.path
theorem row_foot {w : World} {pv : Value} {p : List Int} {b t : Nat} {cs : Array Value} {v : Value} {n : Nat} {xs : List Value} (h : RowAt w pv p) (hb : Blk w b t cs) (hne : 3 ≠ t) (ho : w.ownsRow 0 25 4 v n xs) : ∀ k, pv.ownBlock = some k → ¬ foot b v k := by
  intro k hk hf
  rcases hf with rfl | hf
  · exact own_blk_ne h hb hne hk
  · exact own_own_ne h ho (by decide) k hk hf
theorem RAt.turned {w w' : World} {b : Nat} {v : Value} {F : List FV} {S : Nat → Prop} (h : RAt w b v F) (ht : Turned S w w') (hn : ∀ k, foot b v k → ¬ S k) (hp : ∀ k, pblocks F k → ¬ S k) : RAt w' b v F :=
  ⟨h.blk.turned ht (hn b (.inl rfl)), World.ownsRow.turned h.own ht (fun k hk => hn k (.inr hk)), fun x hx => (h.paths x hx).turned ht (fun k hk => hp k ⟨x, hx, hk⟩)⟩
theorem RAt.same {w w' : World} {b : Nat} {v : Value} {F : List FV} (h : RAt w b v F) (ht : Same w w') : RAt w' b v F := h.turned ht (fun _ _ h => h) (fun _ _ h => h)
theorem PAt.same {w w' : World} {pv : Value} {p : List Int} (h : PAt w pv p) (ht : Same w w') : PAt w' pv p := h.turned ht (fun _ _ h => h)

theorem rnew_any (root : Int) (w : World) : Calls Try.prog 24 #[.int .i64 root] w fun e w' => ∃ b v, e = .returned (.pointer (some ⟨b, 0, none⟩)) ∧ RAt w' b v [(rootFr root, .slice none 0 0)] ∧ Same w w' ∧ ∀ k, foot b v k → w.heap.size ≤ k := by
  go_enter Try.func24, Try.ntmps24
  go_wp2
  go_ret
  have hB0 := (Blk.new w 25 #[.int .i64 root, .bool true, .int .i64 0, .slice none 0 0]).alloc (Obj.cells #[Value.slice (some ⟨w.heap.size, 0, none⟩) 1 1] 61)
  have hB1 := Blk.new (w.alloc (.cells #[.int .i64 root, .bool true, .int .i64 0, .slice none 0 0] 25)) 61 #[Value.slice (some ⟨w.heap.size, 0, none⟩) 1 1]
  refine ⟨w.heap.size + 1, .slice (some ⟨w.heap.size, 0, none⟩) 1 1, rfl, ⟨?_, ?_, ?_⟩, ((Turned.refl _ _).alloc _).alloc _, ?_⟩
  · simpa using hB1
  · exact ⟨rfl, .inr ⟨w.heap.size, 1, _, rfl, Nat.zero_le _, hB0, Nat.le_refl _, by decide, rfl, rfl⟩⟩
  · intro x hx
    obtain rfl : x = _ := by simpa using hx
    exact World.ownsRow_nil _ _ _ _
  · intro k hk
    rcases hk with rfl | hk
    · omega
    · simp [Value.ownBlock] at hk; omega
end Go.Proofs.Ythfhjopofpffgaa

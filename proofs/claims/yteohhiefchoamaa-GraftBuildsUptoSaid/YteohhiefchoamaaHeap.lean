/-
  A heap in memory; the walks of heap.New, Room, Used.
-/
import Derived.Test.YteohhiefchoamaaWalk1
namespace Go.Proofs.Yteohhiefchoamaa
open Go.RowKit

structure Nd where
  sym : Int
  args : List Int
  mark : Int
  points : Bool
  to : Int
abbrev NV := Nd × Value
def ncells (x : NV) : List Value := [.int .i64 x.1.sym, x.2, .int .i64 x.1.mark, .bool x.1.points, .int .i64 x.1.to]
def nall (N : List NV) : List Value := N.flatMap ncells
def nInts (l : List Int) : List Value := l.map fun n => .int .i64 n
/-- A node's arguments: nil, or a block of its own. -/
def ArgAt (w : World) (v : Value) (l : List Int) : Prop := (v = .slice none 0 0 ∧ l = []) ∨ ∃ g, v = .slice (some ⟨g, 0, none⟩) l.length l.length ∧ Blk w g 3 (nInts l).toArray
structure HeapAt (w : World) (b : Nat) (room : Int) (v : Value) (N : List NV) : Prop where
  blk : Blk w b 113 #[.int .i64 room, v]
  own : w.ownsRow 0 53 5 v N.length (nall N)
  args : ∀ x ∈ N, ArgAt w x.2 x.1.args

theorem hnew_bad (room : Int) (h : room < 1 ∨ 4000 < room) (w : World) : Calls Try.prog 28 #[.int .i64 room] w fun e w' => e = .returned (.tuple #[.pointer none, .int .i64 110]) ∧ w = w' := by
  rcases h with h | h
  all_goals
    go_enter Try.func28, Try.ntmps28
    go_wp2
    all_goals
      go_ret2
      exact ⟨rfl, rfl⟩
theorem hnew_ok (room : Int) (h1 : 1 ≤ room) (h2 : room ≤ 4000) (w : World) : Calls Try.prog 28 #[.int .i64 room] w fun e w' => e = .returned (.tuple #[.pointer (some ⟨w.heap.size, 0, none⟩), .int .i64 0]) ∧ HeapAt w' w.heap.size room (.slice none 0 0) [] ∧ Same w w' := by
  go_enter Try.func28, Try.ntmps28
  go_wp2
  go_ret2
  exact ⟨rfl, ⟨Blk.new w 113 _, World.ownsRow_nil _ _ _ _, fun x h => by cases h⟩, (Turned.refl _ _).alloc _⟩
theorem used_any (w : World) (b : Nat) (room : Int) (v : Value) (N : List NV) (h : HeapAt w b room v N) : Calls Try.prog 14 #[.pointer (some ⟨b, 0, none⟩)] w fun e w' => e = .returned (.int .i64 N.length) ∧ w = w' := by
  obtain ⟨a, c, rfl, _, _⟩ := own_shape h.own
  have c1 := h.blk.cell 1
  simp at c1
  clear h
  go_enter Try.func14, Try.ntmps14
  go_wp2
  go_ret
  exact ⟨rfl, rfl⟩
theorem room_any (w : World) (b : Nat) (room : Int) (v : Value) (N : List NV) (h : HeapAt w b room v N) : Calls Try.prog 50 #[.pointer (some ⟨b, 0, none⟩)] w fun e w' => e = .returned (.int .i64 room) ∧ w = w' := by
  have c0 := h.blk.cell 0
  simp at c0
  clear h
  go_enter Try.func50, Try.ntmps50
  go_wp2
  go_ret
  exact ⟨rfl, rfl⟩
theorem used_nil (w : World) : Calls Try.prog 14 #[.pointer none] w fun e w' => e = .returned (.int .i64 0) ∧ w = w' := by
  go_enter Try.func14, Try.ntmps14
  go_wp2
  go_ret
  exact ⟨rfl, rfl⟩
end Go.Proofs.Yteohhiefchoamaa

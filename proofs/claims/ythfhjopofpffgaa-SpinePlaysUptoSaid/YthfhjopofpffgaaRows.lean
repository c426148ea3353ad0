/-
  No cell of these rows narrows 'for every input' (looked for: loops, veiled, ifaces, maps, wideKeys, modest, calm, conditions, laid).
  DERIVED. THE GIVEN ROWS OF THIS SEAT. 6 by the template 'for every input the law returns true; each argument reads behind the call as it read before'; 0 by the template 'total and deterministic' (their statements: YthfhjopofpffgaaTotals.lean).
  GIVEN WITH THE SEED: the statements are not yours to turn. If you find one false, say at which input.
  Laid BY PROGRAM, IN A SANDBOX (cutbox-rows.mjs): the forced cells as the released guide's own fill.sh prints them over the translation 39de12ce5edc5936… (all of the seat's roots in one cut). By AI agents, Wed Nov 11 2026. No macro, syntax, notation, axiom, sorry.
-/
import Derived.Test.YthfhjopofpffgaaChecked
import GoSem.Claim
import GoSem.ClaimJoined
import GoSem.ClaimMapViews
import Derived.JoinedTies
import Derived.KernelRfl
namespace Go.Proofs.Ythfhjopofpffgaa
/- THE CELL 'sum', in the pinned program and in every row, IS THE sha256 OF THE DUMP (.gsa) THAT YthfhjopofpffgaaProg.lean LOADS. Nothing in Lean hashes anything: it is a label: what it is worth is what the hold of that sum in a sandbox is worth. -/
noncomputable def Try.pinned : Pinned := { name := "ythfhjopofpffgaa", sum := "39de12ce5edc59361172d40bda2dd7d317ddb932cf2a4696042f5972eecf15d6", checked := Try.checked }
namespace Rows
def none {H : Type} : Left H := { results := [], args := [] }

/-- 'ropewalklaw14.SpinePaths': WHATEVER THE INPUT: true; the input reads as it did. -/
def spinePathsSpec : ChangeSpec := { name := "spinePaths", fn := fun _ => fun
  | [d1, d2, d3] => { results := [.lit (.bool true)], args := [d1, d2, d3] }
  | _ => none }
def spinePathsRow : OpenClaim := { program := "ythfhjopofpffgaa", sum := "39de12ce5edc59361172d40bda2dd7d317ddb932cf2a4696042f5972eecf15d6", func := "ropewalk/ropewalklaw14.SpinePaths", spec := "spinePaths", unfollowed := true, recurses := true, apart := false }
def SpinePathsSaid : Prop := spinePathsRow.holds Try.pinned (OpenSpec.ofChange spinePathsSpec)

/-- ITS FALSE NEIGHBOUR: 'it returns false'. Refute it at one input. -/
def spinePathsWrong : ChangeSpec := { name := "spinePaths", fn := fun _ => fun
  | [d1, d2, d3] => { results := [.lit (.bool false)], args := [d1, d2, d3] }
  | _ => none }
def SpinePathsWrongFalsely : Prop := spinePathsRow.holds Try.pinned (OpenSpec.ofChange spinePathsWrong)

/-- 'ropewalklaw14.SpineBack': WHATEVER THE INPUT: true; the input reads as it did. -/
def spineBackSpec : ChangeSpec := { name := "spineBack", fn := fun _ => fun
  | [d1, d2] => { results := [.lit (.bool true)], args := [d1, d2] }
  | _ => none }
def spineBackRow : OpenClaim := { program := "ythfhjopofpffgaa", sum := "39de12ce5edc59361172d40bda2dd7d317ddb932cf2a4696042f5972eecf15d6", func := "ropewalk/ropewalklaw14.SpineBack", spec := "spineBack", unfollowed := true, recurses := true, apart := false }
def SpineBackSaid : Prop := spineBackRow.holds Try.pinned (OpenSpec.ofChange spineBackSpec)

/-- ITS FALSE NEIGHBOUR: 'it returns false'. Refute it at one input. -/
def spineBackWrong : ChangeSpec := { name := "spineBack", fn := fun _ => fun
  | [d1, d2] => { results := [.lit (.bool false)], args := [d1, d2] }
  | _ => none }
def SpineBackWrongFalsely : Prop := spineBackRow.holds Try.pinned (OpenSpec.ofChange spineBackWrong)

/-- 'ropewalklaw14.SpineFrames': WHATEVER THE INPUT: true; the input reads as it did. -/
def spineFramesSpec : ChangeSpec := { name := "spineFrames", fn := fun _ => fun
  | [d1, d2] => { results := [.lit (.bool true)], args := [d1, d2] }
  | _ => none }
def spineFramesRow : OpenClaim := { program := "ythfhjopofpffgaa", sum := "39de12ce5edc59361172d40bda2dd7d317ddb932cf2a4696042f5972eecf15d6", func := "ropewalk/ropewalklaw14.SpineFrames", spec := "spineFrames", unfollowed := true, recurses := true, apart := false }
def SpineFramesSaid : Prop := spineFramesRow.holds Try.pinned (OpenSpec.ofChange spineFramesSpec)

/-- ITS FALSE NEIGHBOUR: 'it returns false'. Refute it at one input. -/
def spineFramesWrong : ChangeSpec := { name := "spineFrames", fn := fun _ => fun
  | [d1, d2] => { results := [.lit (.bool false)], args := [d1, d2] }
  | _ => none }
def SpineFramesWrongFalsely : Prop := spineFramesRow.holds Try.pinned (OpenSpec.ofChange spineFramesWrong)

/-- 'ropewalklaw14.SpineMoves': WHATEVER THE INPUT: true; the input reads as it did. -/
def spineMovesSpec : ChangeSpec := { name := "spineMoves", fn := fun _ => fun
  | [d1, d2, d3] => { results := [.lit (.bool true)], args := [d1, d2, d3] }
  | _ => none }
def spineMovesRow : OpenClaim := { program := "ythfhjopofpffgaa", sum := "39de12ce5edc59361172d40bda2dd7d317ddb932cf2a4696042f5972eecf15d6", func := "ropewalk/ropewalklaw14.SpineMoves", spec := "spineMoves", unfollowed := true, recurses := true, apart := false }
def SpineMovesSaid : Prop := spineMovesRow.holds Try.pinned (OpenSpec.ofChange spineMovesSpec)

/-- ITS FALSE NEIGHBOUR: 'it returns false'. Refute it at one input. -/
def spineMovesWrong : ChangeSpec := { name := "spineMoves", fn := fun _ => fun
  | [d1, d2, d3] => { results := [.lit (.bool false)], args := [d1, d2, d3] }
  | _ => none }
def SpineMovesWrongFalsely : Prop := spineMovesRow.holds Try.pinned (OpenSpec.ofChange spineMovesWrong)

/-- 'ropewalklaw14.SpinePlays': WHATEVER THE INPUT: true; the input reads as it did. -/
def spinePlaysSpec : ChangeSpec := { name := "spinePlays", fn := fun _ => fun
  | [d1, d2, d3] => { results := [.lit (.bool true)], args := [d1, d2, d3] }
  | _ => none }
def spinePlaysRow : OpenClaim := { program := "ythfhjopofpffgaa", sum := "39de12ce5edc59361172d40bda2dd7d317ddb932cf2a4696042f5972eecf15d6", func := "ropewalk/ropewalklaw14.SpinePlays", spec := "spinePlays", unfollowed := true, recurses := true, apart := false }
def SpinePlaysSaid : Prop := spinePlaysRow.holds Try.pinned (OpenSpec.ofChange spinePlaysSpec)

/-- ITS FALSE NEIGHBOUR: 'it returns false'. Refute it at one input. -/
def spinePlaysWrong : ChangeSpec := { name := "spinePlays", fn := fun _ => fun
  | [d1, d2, d3] => { results := [.lit (.bool false)], args := [d1, d2, d3] }
  | _ => none }
def SpinePlaysWrongFalsely : Prop := spinePlaysRow.holds Try.pinned (OpenSpec.ofChange spinePlaysWrong)

/-- 'ropewalklaw14.SpineNone': WHATEVER THE INPUT: true; the input reads as it did. -/
def spineNoneSpec : ChangeSpec := { name := "spineNone", fn := fun _ => fun
  | [] => { results := [.lit (.bool true)], args := [] }
  | _ => none }
def spineNoneRow : OpenClaim := { program := "ythfhjopofpffgaa", sum := "39de12ce5edc59361172d40bda2dd7d317ddb932cf2a4696042f5972eecf15d6", func := "ropewalk/ropewalklaw14.SpineNone", spec := "spineNone", unfollowed := true, recurses := true, apart := false }
def SpineNoneSaid : Prop := spineNoneRow.holds Try.pinned (OpenSpec.ofChange spineNoneSpec)

/-- ITS FALSE NEIGHBOUR: 'it returns false'. Refute it at one input. -/
def spineNoneWrong : ChangeSpec := { name := "spineNone", fn := fun _ => fun
  | [] => { results := [.lit (.bool false)], args := [] }
  | _ => none }
def SpineNoneWrongFalsely : Prop := spineNoneRow.holds Try.pinned (OpenSpec.ofChange spineNoneWrong)

/- THE SECOND FORM. 'bulk': how many values and letters a reading holds, each counted each time it is reached (what is shared counts as often as it is met; a slice's spare places count too). A statement '..UptoSaid' is the law's where the arguments, and the package variables that the reading takes, are together of bulk at most 1048576: NARROWER than '..Said'. Prove '..Said' where nothing that the law and all that it calls make is longer than what came in: it says more and counts as full. Else prove '..UptoSaid'. A law counts once. -/
mutual
def uptoBulk {H : Type} : DataW H → Nat
  | .lit (.string bytes) => bytes.length + 1
  | .lit _ => 1
  | .nil => 1
  | .ptr d => uptoBulk d + 1
  | .slice elems spare => uptoBulkAll elems + uptoBulkAll spare + 1
  | .agg parts => uptoBulkAll parts + 1
  | .iface _ d => uptoBulk d + 1
  | .map entries => uptoBulkEntries entries + 1
  | .held _ => 1
def uptoBulkAll {H : Type} : List (DataW H) → Nat
  | [] => 0
  | d :: r => uptoBulk d + uptoBulkAll r
def uptoBulkEntries {H : Type} : List (Lit × DataW H) → Nat
  | [] => 0
  | x :: r => uptoBulkEntry x + uptoBulkEntries r
def uptoBulkEntry {H : Type} : Lit × DataW H → Nat
  | (.string bytes, d) => bytes.length + uptoBulk d + 1
  | (_, d) => uptoBulk d + 1
 end
def uptoSmall : (H : Type) → List (DataW H) → Bool := fun _ ds => decide (uptoBulkAll ds ≤ 1048576)
def OpenSpec.upto (s : _root_.Go.ChangeSpec) : _root_.Go.OpenSpec := { _root_.Go.OpenSpec.ofChange s with cond := some uptoSmall }

/-- 'ropewalklaw14.SpinePaths', WHERE WHAT IT READS IS OF BULK AT MOST 1048576: true; the input reads as it did. -/
def spinePathsUptoRow : OpenClaim := { program := "ythfhjopofpffgaa", sum := "39de12ce5edc59361172d40bda2dd7d317ddb932cf2a4696042f5972eecf15d6", func := "ropewalk/ropewalklaw14.SpinePaths", spec := "spinePaths", unfollowed := true, recurses := true, apart := false, narrowed := true }
def SpinePathsUptoSaid : Prop := spinePathsUptoRow.holds Try.pinned (OpenSpec.upto spinePathsSpec)

/-- 'ropewalklaw14.SpineBack', WHERE WHAT IT READS IS OF BULK AT MOST 1048576: true; the input reads as it did. -/
def spineBackUptoRow : OpenClaim := { program := "ythfhjopofpffgaa", sum := "39de12ce5edc59361172d40bda2dd7d317ddb932cf2a4696042f5972eecf15d6", func := "ropewalk/ropewalklaw14.SpineBack", spec := "spineBack", unfollowed := true, recurses := true, apart := false, narrowed := true }
def SpineBackUptoSaid : Prop := spineBackUptoRow.holds Try.pinned (OpenSpec.upto spineBackSpec)

/-- 'ropewalklaw14.SpineFrames', WHERE WHAT IT READS IS OF BULK AT MOST 1048576: true; the input reads as it did. -/
def spineFramesUptoRow : OpenClaim := { program := "ythfhjopofpffgaa", sum := "39de12ce5edc59361172d40bda2dd7d317ddb932cf2a4696042f5972eecf15d6", func := "ropewalk/ropewalklaw14.SpineFrames", spec := "spineFrames", unfollowed := true, recurses := true, apart := false, narrowed := true }
def SpineFramesUptoSaid : Prop := spineFramesUptoRow.holds Try.pinned (OpenSpec.upto spineFramesSpec)

/-- 'ropewalklaw14.SpineMoves', WHERE WHAT IT READS IS OF BULK AT MOST 1048576: true; the input reads as it did. -/
def spineMovesUptoRow : OpenClaim := { program := "ythfhjopofpffgaa", sum := "39de12ce5edc59361172d40bda2dd7d317ddb932cf2a4696042f5972eecf15d6", func := "ropewalk/ropewalklaw14.SpineMoves", spec := "spineMoves", unfollowed := true, recurses := true, apart := false, narrowed := true }
def SpineMovesUptoSaid : Prop := spineMovesUptoRow.holds Try.pinned (OpenSpec.upto spineMovesSpec)

/-- 'ropewalklaw14.SpinePlays', WHERE WHAT IT READS IS OF BULK AT MOST 1048576: true; the input reads as it did. -/
def spinePlaysUptoRow : OpenClaim := { program := "ythfhjopofpffgaa", sum := "39de12ce5edc59361172d40bda2dd7d317ddb932cf2a4696042f5972eecf15d6", func := "ropewalk/ropewalklaw14.SpinePlays", spec := "spinePlays", unfollowed := true, recurses := true, apart := false, narrowed := true }
def SpinePlaysUptoSaid : Prop := spinePlaysUptoRow.holds Try.pinned (OpenSpec.upto spinePlaysSpec)

/-- 'ropewalklaw14.SpineNone', WHERE WHAT IT READS IS OF BULK AT MOST 1048576: true; the input reads as it did. -/
def spineNoneUptoRow : OpenClaim := { program := "ythfhjopofpffgaa", sum := "39de12ce5edc59361172d40bda2dd7d317ddb932cf2a4696042f5972eecf15d6", func := "ropewalk/ropewalklaw14.SpineNone", spec := "spineNone", unfollowed := true, recurses := true, apart := false, narrowed := true }
def SpineNoneUptoSaid : Prop := spineNoneUptoRow.holds Try.pinned (OpenSpec.upto spineNoneSpec)

end Rows
end Go.Proofs.Ythfhjopofpffgaa

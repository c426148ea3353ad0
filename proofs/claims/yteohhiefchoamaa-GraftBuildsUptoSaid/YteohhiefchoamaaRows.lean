/-
  No cell of these rows narrows 'for every input' (looked for: loops, veiled, ifaces, maps, wideKeys, modest, calm, conditions, laid).
  DERIVED. THE GIVEN ROWS OF THIS SEAT. 7 by the template 'for every input the law returns true; each argument reads behind the call as it read before'; 0 by the template 'total and deterministic' (their statements: YteohhiefchoamaaTotals.lean).
  GIVEN WITH THE SEED: the statements are not yours to turn. If you find one false, say at which input.
  Laid BY PROGRAM, IN A SANDBOX (cutbox-rows.mjs): the forced cells as the released guide's own fill.sh prints them over the translation 5fe2a2903a8e1611… (all of the seat's roots in one cut). By AI agents, Wed Nov 11 2026. No macro, syntax, notation, axiom, sorry.
-/
import Derived.Test.YteohhiefchoamaaChecked
import GoSem.Claim
import GoSem.ClaimJoined
import GoSem.ClaimMapViews
import Derived.JoinedTies
import Derived.KernelRfl
namespace Go.Proofs.Yteohhiefchoamaa
/- THE CELL 'sum', in the pinned program and in every row, IS THE sha256 OF THE DUMP (.gsa) THAT YteohhiefchoamaaProg.lean LOADS. Nothing in Lean hashes anything: it is a label: what it is worth is what the hold of that sum in a sandbox is worth. -/
noncomputable def Try.pinned : Pinned := { name := "yteohhiefchoamaa", sum := "5fe2a2903a8e1611fcf78fd59e3136bae8fd6e7dbcd41b3cf371d7b22544f709", checked := Try.checked }
namespace Rows
def none {H : Type} : Left H := { results := [], args := [] }

/-- 'ropewalklaw13.GraftStays': WHATEVER THE INPUT: true; the input reads as it did. -/
def graftStaysSpec : ChangeSpec := { name := "graftStays", fn := fun _ => fun
  | [d1, d2, d3, d4, d5] => { results := [.lit (.bool true)], args := [d1, d2, d3, d4, d5] }
  | _ => none }
def graftStaysRow : OpenClaim := { program := "yteohhiefchoamaa", sum := "5fe2a2903a8e1611fcf78fd59e3136bae8fd6e7dbcd41b3cf371d7b22544f709", func := "ropewalk/ropewalklaw13.GraftStays", spec := "graftStays", inPlace := ["internal/reflectlite.TypeOf"], unfollowed := true, recurses := true, apart := false }
def GraftStaysSaid : Prop := graftStaysRow.holds Try.pinned (OpenSpec.ofChange graftStaysSpec)

/-- ITS FALSE NEIGHBOUR: 'it returns false'. Refute it at one input. -/
def graftStaysWrong : ChangeSpec := { name := "graftStays", fn := fun _ => fun
  | [d1, d2, d3, d4, d5] => { results := [.lit (.bool false)], args := [d1, d2, d3, d4, d5] }
  | _ => none }
def GraftStaysWrongFalsely : Prop := graftStaysRow.holds Try.pinned (OpenSpec.ofChange graftStaysWrong)

/-- 'ropewalklaw13.GraftSights': WHATEVER THE INPUT: true; the input reads as it did. -/
def graftSightsSpec : ChangeSpec := { name := "graftSights", fn := fun _ => fun
  | [d1, d2, d3, d4] => { results := [.lit (.bool true)], args := [d1, d2, d3, d4] }
  | _ => none }
def graftSightsRow : OpenClaim := { program := "yteohhiefchoamaa", sum := "5fe2a2903a8e1611fcf78fd59e3136bae8fd6e7dbcd41b3cf371d7b22544f709", func := "ropewalk/ropewalklaw13.GraftSights", spec := "graftSights", inPlace := ["internal/reflectlite.TypeOf"], unfollowed := true, recurses := true, apart := false }
def GraftSightsSaid : Prop := graftSightsRow.holds Try.pinned (OpenSpec.ofChange graftSightsSpec)

/-- ITS FALSE NEIGHBOUR: 'it returns false'. Refute it at one input. -/
def graftSightsWrong : ChangeSpec := { name := "graftSights", fn := fun _ => fun
  | [d1, d2, d3, d4] => { results := [.lit (.bool false)], args := [d1, d2, d3, d4] }
  | _ => none }
def GraftSightsWrongFalsely : Prop := graftSightsRow.holds Try.pinned (OpenSpec.ofChange graftSightsWrong)

/-- 'ropewalklaw13.GraftBack': WHATEVER THE INPUT: true; the input reads as it did. -/
def graftBackSpec : ChangeSpec := { name := "graftBack", fn := fun _ => fun
  | [d1, d2] => { results := [.lit (.bool true)], args := [d1, d2] }
  | _ => none }
def graftBackRow : OpenClaim := { program := "yteohhiefchoamaa", sum := "5fe2a2903a8e1611fcf78fd59e3136bae8fd6e7dbcd41b3cf371d7b22544f709", func := "ropewalk/ropewalklaw13.GraftBack", spec := "graftBack", inPlace := ["internal/reflectlite.TypeOf"], unfollowed := true, recurses := true, apart := false }
def GraftBackSaid : Prop := graftBackRow.holds Try.pinned (OpenSpec.ofChange graftBackSpec)

/-- ITS FALSE NEIGHBOUR: 'it returns false'. Refute it at one input. -/
def graftBackWrong : ChangeSpec := { name := "graftBack", fn := fun _ => fun
  | [d1, d2] => { results := [.lit (.bool false)], args := [d1, d2] }
  | _ => none }
def GraftBackWrongFalsely : Prop := graftBackRow.holds Try.pinned (OpenSpec.ofChange graftBackWrong)

/-- 'ropewalklaw13.GraftFull': WHATEVER THE INPUT: true; the input reads as it did. -/
def graftFullSpec : ChangeSpec := { name := "graftFull", fn := fun _ => fun
  | [d1, d2, d3, d4] => { results := [.lit (.bool true)], args := [d1, d2, d3, d4] }
  | _ => none }
def graftFullRow : OpenClaim := { program := "yteohhiefchoamaa", sum := "5fe2a2903a8e1611fcf78fd59e3136bae8fd6e7dbcd41b3cf371d7b22544f709", func := "ropewalk/ropewalklaw13.GraftFull", spec := "graftFull", inPlace := ["internal/reflectlite.TypeOf"], unfollowed := true, recurses := true, apart := false }
def GraftFullSaid : Prop := graftFullRow.holds Try.pinned (OpenSpec.ofChange graftFullSpec)

/-- ITS FALSE NEIGHBOUR: 'it returns false'. Refute it at one input. -/
def graftFullWrong : ChangeSpec := { name := "graftFull", fn := fun _ => fun
  | [d1, d2, d3, d4] => { results := [.lit (.bool false)], args := [d1, d2, d3, d4] }
  | _ => none }
def GraftFullWrongFalsely : Prop := graftFullRow.holds Try.pinned (OpenSpec.ofChange graftFullWrong)

/-- 'ropewalklaw13.GraftNone': WHATEVER THE INPUT: true; the input reads as it did. -/
def graftNoneSpec : ChangeSpec := { name := "graftNone", fn := fun _ => fun
  | [] => { results := [.lit (.bool true)], args := [] }
  | _ => none }
def graftNoneRow : OpenClaim := { program := "yteohhiefchoamaa", sum := "5fe2a2903a8e1611fcf78fd59e3136bae8fd6e7dbcd41b3cf371d7b22544f709", func := "ropewalk/ropewalklaw13.GraftNone", spec := "graftNone", inPlace := ["internal/reflectlite.TypeOf"], unfollowed := true, recurses := true, apart := false }
def GraftNoneSaid : Prop := graftNoneRow.holds Try.pinned (OpenSpec.ofChange graftNoneSpec)

/-- ITS FALSE NEIGHBOUR: 'it returns false'. Refute it at one input. -/
def graftNoneWrong : ChangeSpec := { name := "graftNone", fn := fun _ => fun
  | [] => { results := [.lit (.bool false)], args := [] }
  | _ => none }
def GraftNoneWrongFalsely : Prop := graftNoneRow.holds Try.pinned (OpenSpec.ofChange graftNoneWrong)

/-- 'ropewalklaw13.GraftLoads': WHATEVER THE INPUT: true; the input reads as it did. -/
def graftLoadsSpec : ChangeSpec := { name := "graftLoads", fn := fun _ => fun
  | [d1, d2, d3, d4] => { results := [.lit (.bool true)], args := [d1, d2, d3, d4] }
  | _ => none }
def graftLoadsRow : OpenClaim := { program := "yteohhiefchoamaa", sum := "5fe2a2903a8e1611fcf78fd59e3136bae8fd6e7dbcd41b3cf371d7b22544f709", func := "ropewalk/ropewalklaw13.GraftLoads", spec := "graftLoads", inPlace := ["internal/reflectlite.TypeOf"], unfollowed := true, recurses := true, apart := false }
def GraftLoadsSaid : Prop := graftLoadsRow.holds Try.pinned (OpenSpec.ofChange graftLoadsSpec)

/-- ITS FALSE NEIGHBOUR: 'it returns false'. Refute it at one input. -/
def graftLoadsWrong : ChangeSpec := { name := "graftLoads", fn := fun _ => fun
  | [d1, d2, d3, d4] => { results := [.lit (.bool false)], args := [d1, d2, d3, d4] }
  | _ => none }
def GraftLoadsWrongFalsely : Prop := graftLoadsRow.holds Try.pinned (OpenSpec.ofChange graftLoadsWrong)

/-- 'ropewalklaw13.GraftBuilds': WHATEVER THE INPUT: true; the input reads as it did. -/
def graftBuildsSpec : ChangeSpec := { name := "graftBuilds", fn := fun _ => fun
  | [d1, d2, d3, d4, d5] => { results := [.lit (.bool true)], args := [d1, d2, d3, d4, d5] }
  | _ => none }
def graftBuildsRow : OpenClaim := { program := "yteohhiefchoamaa", sum := "5fe2a2903a8e1611fcf78fd59e3136bae8fd6e7dbcd41b3cf371d7b22544f709", func := "ropewalk/ropewalklaw13.GraftBuilds", spec := "graftBuilds", inPlace := ["internal/reflectlite.TypeOf"], unfollowed := true, recurses := true, apart := false }
def GraftBuildsSaid : Prop := graftBuildsRow.holds Try.pinned (OpenSpec.ofChange graftBuildsSpec)

/-- ITS FALSE NEIGHBOUR: 'it returns false'. Refute it at one input. -/
def graftBuildsWrong : ChangeSpec := { name := "graftBuilds", fn := fun _ => fun
  | [d1, d2, d3, d4, d5] => { results := [.lit (.bool false)], args := [d1, d2, d3, d4, d5] }
  | _ => none }
def GraftBuildsWrongFalsely : Prop := graftBuildsRow.holds Try.pinned (OpenSpec.ofChange graftBuildsWrong)

/- THE SECOND FORM. 'bulk': how many values and letters a reading holds, each counted each time it is reached (what is shared counts as often as it is met; a slice's spare places count too). A statement '..UptoSaid' is the law's where the arguments, and the package variables that the reading takes, are together of bulk at most 1048576: NARROWER than '..Said'. Prove '..Said' where nothing that the law and all that it calls make is longer than what came in: it says more and counts as full. Else prove '..UptoSaid'. A law counts once. -/
mutual
def uptoBulk {H : Type} : DataW H → Nat
  | .lit (.string bytes) => bytes.length + 1
  | .lit _ => 1
  | .nil => 1
  | .ptr d => uptoBulk d + 1
  | .slice elems spare => uptoBulkAll elems + uptoBulkAll spare + 1
  | .agg parts => uptoBulkAll parts + 1
  | .iface _ d => uptoBulk d + 1
  | .map entries => uptoBulkEntries entries + 1
  | .held _ => 1
def uptoBulkAll {H : Type} : List (DataW H) → Nat
  | [] => 0
  | d :: r => uptoBulk d + uptoBulkAll r
def uptoBulkEntries {H : Type} : List (Lit × DataW H) → Nat
  | [] => 0
  | x :: r => uptoBulkEntry x + uptoBulkEntries r
def uptoBulkEntry {H : Type} : Lit × DataW H → Nat
  | (.string bytes, d) => bytes.length + uptoBulk d + 1
  | (_, d) => uptoBulk d + 1
 end
def uptoSmall : (H : Type) → List (DataW H) → Bool := fun _ ds => decide (uptoBulkAll ds ≤ 1048576)
def OpenSpec.upto (s : _root_.Go.ChangeSpec) : _root_.Go.OpenSpec := { _root_.Go.OpenSpec.ofChange s with cond := some uptoSmall }

/-- 'ropewalklaw13.GraftStays', WHERE WHAT IT READS IS OF BULK AT MOST 1048576: true; the input reads as it did. -/
def graftStaysUptoRow : OpenClaim := { program := "yteohhiefchoamaa", sum := "5fe2a2903a8e1611fcf78fd59e3136bae8fd6e7dbcd41b3cf371d7b22544f709", func := "ropewalk/ropewalklaw13.GraftStays", spec := "graftStays", inPlace := ["internal/reflectlite.TypeOf"], unfollowed := true, recurses := true, apart := false, narrowed := true }
def GraftStaysUptoSaid : Prop := graftStaysUptoRow.holds Try.pinned (OpenSpec.upto graftStaysSpec)

/-- 'ropewalklaw13.GraftSights', WHERE WHAT IT READS IS OF BULK AT MOST 1048576: true; the input reads as it did. -/
def graftSightsUptoRow : OpenClaim := { program := "yteohhiefchoamaa", sum := "5fe2a2903a8e1611fcf78fd59e3136bae8fd6e7dbcd41b3cf371d7b22544f709", func := "ropewalk/ropewalklaw13.GraftSights", spec := "graftSights", inPlace := ["internal/reflectlite.TypeOf"], unfollowed := true, recurses := true, apart := false, narrowed := true }
def GraftSightsUptoSaid : Prop := graftSightsUptoRow.holds Try.pinned (OpenSpec.upto graftSightsSpec)

/-- 'ropewalklaw13.GraftBack', WHERE WHAT IT READS IS OF BULK AT MOST 1048576: true; the input reads as it did. -/
def graftBackUptoRow : OpenClaim := { program := "yteohhiefchoamaa", sum := "5fe2a2903a8e1611fcf78fd59e3136bae8fd6e7dbcd41b3cf371d7b22544f709", func := "ropewalk/ropewalklaw13.GraftBack", spec := "graftBack", inPlace := ["internal/reflectlite.TypeOf"], unfollowed := true, recurses := true, apart := false, narrowed := true }
def GraftBackUptoSaid : Prop := graftBackUptoRow.holds Try.pinned (OpenSpec.upto graftBackSpec)

/-- 'ropewalklaw13.GraftFull', WHERE WHAT IT READS IS OF BULK AT MOST 1048576: true; the input reads as it did. -/
def graftFullUptoRow : OpenClaim := { program := "yteohhiefchoamaa", sum := "5fe2a2903a8e1611fcf78fd59e3136bae8fd6e7dbcd41b3cf371d7b22544f709", func := "ropewalk/ropewalklaw13.GraftFull", spec := "graftFull", inPlace := ["internal/reflectlite.TypeOf"], unfollowed := true, recurses := true, apart := false, narrowed := true }
def GraftFullUptoSaid : Prop := graftFullUptoRow.holds Try.pinned (OpenSpec.upto graftFullSpec)

/-- 'ropewalklaw13.GraftNone', WHERE WHAT IT READS IS OF BULK AT MOST 1048576: true; the input reads as it did. -/
def graftNoneUptoRow : OpenClaim := { program := "yteohhiefchoamaa", sum := "5fe2a2903a8e1611fcf78fd59e3136bae8fd6e7dbcd41b3cf371d7b22544f709", func := "ropewalk/ropewalklaw13.GraftNone", spec := "graftNone", inPlace := ["internal/reflectlite.TypeOf"], unfollowed := true, recurses := true, apart := false, narrowed := true }
def GraftNoneUptoSaid : Prop := graftNoneUptoRow.holds Try.pinned (OpenSpec.upto graftNoneSpec)

/-- 'ropewalklaw13.GraftLoads', WHERE WHAT IT READS IS OF BULK AT MOST 1048576: true; the input reads as it did. -/
def graftLoadsUptoRow : OpenClaim := { program := "yteohhiefchoamaa", sum := "5fe2a2903a8e1611fcf78fd59e3136bae8fd6e7dbcd41b3cf371d7b22544f709", func := "ropewalk/ropewalklaw13.GraftLoads", spec := "graftLoads", inPlace := ["internal/reflectlite.TypeOf"], unfollowed := true, recurses := true, apart := false, narrowed := true }
def GraftLoadsUptoSaid : Prop := graftLoadsUptoRow.holds Try.pinned (OpenSpec.upto graftLoadsSpec)

/-- 'ropewalklaw13.GraftBuilds', WHERE WHAT IT READS IS OF BULK AT MOST 1048576: true; the input reads as it did. -/
def graftBuildsUptoRow : OpenClaim := { program := "yteohhiefchoamaa", sum := "5fe2a2903a8e1611fcf78fd59e3136bae8fd6e7dbcd41b3cf371d7b22544f709", func := "ropewalk/ropewalklaw13.GraftBuilds", spec := "graftBuilds", inPlace := ["internal/reflectlite.TypeOf"], unfollowed := true, recurses := true, apart := false, narrowed := true }
def GraftBuildsUptoSaid : Prop := graftBuildsUptoRow.holds Try.pinned (OpenSpec.upto graftBuildsSpec)

end Rows
end Go.Proofs.Yteohhiefchoamaa

/-
  No cell of these rows narrows 'for every input' (looked for: loops, veiled, ifaces, maps, wideKeys, modest, calm, conditions, laid).
  DERIVED. THE GIVEN ROWS OF THIS SEAT. 4 by the template 'for every input the law returns true; each argument reads behind the call as it read before'; 0 by the template 'total and deterministic' (their statements: YtpknnhdpnmkpcaaTotals.lean).
  GIVEN WITH THE SEED: the statements are not yours to turn. If you find one false, say at which input.
  Laid BY PROGRAM, IN A SANDBOX (cutbox-rows.mjs): the forced cells as the released guide's own fill.sh prints them over the translation ce0738e90cffca64… (all of the seat's roots in one cut). By AI agents, Wed Nov 11 2026. No macro, syntax, notation, axiom, sorry.
-/
import Derived.Test.YtpknnhdpnmkpcaaChecked
import GoSem.Claim
import GoSem.ClaimJoined
import GoSem.ClaimMapViews
import Derived.JoinedTies
import Derived.KernelRfl
namespace Go.Proofs.Ytpknnhdpnmkpcaa
/- THE CELL 'sum', in the pinned program and in every row, IS THE sha256 OF THE DUMP (.gsa) THAT YtpknnhdpnmkpcaaProg.lean LOADS. Nothing in Lean hashes anything: it is a label: what it is worth is what the hold of that sum in a sandbox is worth. -/
noncomputable def Try.pinned : Pinned := { name := "ytpknnhdpnmkpcaa", sum := "ce0738e90cffca64e83f7c26a255ad3abd71960dd30093694d6959bbd74a521a", checked := Try.checked }
namespace Rows
def none {H : Type} : Left H := { results := [], args := [] }

/-- 'ropewalklaw01.SigNames': WHATEVER THE INPUT: true; the input reads as it did. -/
def sigNamesSpec : ChangeSpec := { name := "sigNames", fn := fun _ => fun
  | [] => { results := [.lit (.bool true)], args := [] }
  | _ => none }
def sigNamesRow : OpenClaim := { program := "ytpknnhdpnmkpcaa", sum := "ce0738e90cffca64e83f7c26a255ad3abd71960dd30093694d6959bbd74a521a", func := "ropewalk/ropewalklaw01.SigNames", spec := "sigNames", apart := false }
def SigNamesSaid : Prop := sigNamesRow.holds Try.pinned (OpenSpec.ofChange sigNamesSpec)

/-- ITS FALSE NEIGHBOUR: 'it returns false'. Refute it at one input. -/
def sigNamesWrong : ChangeSpec := { name := "sigNames", fn := fun _ => fun
  | [] => { results := [.lit (.bool false)], args := [] }
  | _ => none }
def SigNamesWrongFalsely : Prop := sigNamesRow.holds Try.pinned (OpenSpec.ofChange sigNamesWrong)

/-- 'ropewalklaw01.SigBack': WHATEVER THE INPUT: true; the input reads as it did. -/
def sigBackSpec : ChangeSpec := { name := "sigBack", fn := fun _ => fun
  | [d] => { results := [.lit (.bool true)], args := [d] }
  | _ => none }
def sigBackRow : OpenClaim := { program := "ytpknnhdpnmkpcaa", sum := "ce0738e90cffca64e83f7c26a255ad3abd71960dd30093694d6959bbd74a521a", func := "ropewalk/ropewalklaw01.SigBack", spec := "sigBack", apart := false }
def SigBackSaid : Prop := sigBackRow.holds Try.pinned (OpenSpec.ofChange sigBackSpec)

/-- ITS FALSE NEIGHBOUR: 'it returns false'. Refute it at one input. -/
def sigBackWrong : ChangeSpec := { name := "sigBack", fn := fun _ => fun
  | [d] => { results := [.lit (.bool false)], args := [d] }
  | _ => none }
def SigBackWrongFalsely : Prop := sigBackRow.holds Try.pinned (OpenSpec.ofChange sigBackWrong)

/-- 'ropewalklaw01.SigCalled': WHATEVER THE INPUT: true; the input reads as it did. -/
def sigCalledSpec : ChangeSpec := { name := "sigCalled", fn := fun _ => fun
  | [d] => { results := [.lit (.bool true)], args := [d] }
  | _ => none }
def sigCalledRow : OpenClaim := { program := "ytpknnhdpnmkpcaa", sum := "ce0738e90cffca64e83f7c26a255ad3abd71960dd30093694d6959bbd74a521a", func := "ropewalk/ropewalklaw01.SigCalled", spec := "sigCalled", apart := false }
def SigCalledSaid : Prop := sigCalledRow.holds Try.pinned (OpenSpec.ofChange sigCalledSpec)

/-- ITS FALSE NEIGHBOUR: 'it returns false'. Refute it at one input. -/
def sigCalledWrong : ChangeSpec := { name := "sigCalled", fn := fun _ => fun
  | [d] => { results := [.lit (.bool false)], args := [d] }
  | _ => none }
def SigCalledWrongFalsely : Prop := sigCalledRow.holds Try.pinned (OpenSpec.ofChange sigCalledWrong)

/-- 'ropewalklaw01.SigPlays': WHATEVER THE INPUT: true; the input reads as it did. -/
def sigPlaysSpec : ChangeSpec := { name := "sigPlays", fn := fun _ => fun
  | [d] => { results := [.lit (.bool true)], args := [d] }
  | _ => none }
def sigPlaysRow : OpenClaim := { program := "ytpknnhdpnmkpcaa", sum := "ce0738e90cffca64e83f7c26a255ad3abd71960dd30093694d6959bbd74a521a", func := "ropewalk/ropewalklaw01.SigPlays", spec := "sigPlays", unfollowed := true, recurses := true, apart := false }
def SigPlaysSaid : Prop := sigPlaysRow.holds Try.pinned (OpenSpec.ofChange sigPlaysSpec)

/-- ITS FALSE NEIGHBOUR: 'it returns false'. Refute it at one input. -/
def sigPlaysWrong : ChangeSpec := { name := "sigPlays", fn := fun _ => fun
  | [d] => { results := [.lit (.bool false)], args := [d] }
  | _ => none }
def SigPlaysWrongFalsely : Prop := sigPlaysRow.holds Try.pinned (OpenSpec.ofChange sigPlaysWrong)

/- THE SECOND FORM. 'bulk': how many values and letters a reading holds, each counted each time it is reached (what is shared counts as often as it is met; a slice's spare places count too). A statement '..UptoSaid' is the law's where the arguments, and the package variables that the reading takes, are together of bulk at most 1048576: NARROWER than '..Said'. Prove '..Said' where nothing that the law and all that it calls make is longer than what came in: it says more and counts as full. Else prove '..UptoSaid'. A law counts once. -/
mutual
def uptoBulk {H : Type} : DataW H → Nat
  | .lit (.string bytes) => bytes.length + 1
  | .lit _ => 1
  | .nil => 1
  | .ptr d => uptoBulk d + 1
  | .slice elems spare => uptoBulkAll elems + uptoBulkAll spare + 1
  | .agg parts => uptoBulkAll parts + 1
  | .iface _ d => uptoBulk d + 1
  | .map entries => uptoBulkEntries entries + 1
  | .held _ => 1
def uptoBulkAll {H : Type} : List (DataW H) → Nat
  | [] => 0
  | d :: r => uptoBulk d + uptoBulkAll r
def uptoBulkEntries {H : Type} : List (Lit × DataW H) → Nat
  | [] => 0
  | x :: r => uptoBulkEntry x + uptoBulkEntries r
def uptoBulkEntry {H : Type} : Lit × DataW H → Nat
  | (.string bytes, d) => bytes.length + uptoBulk d + 1
  | (_, d) => uptoBulk d + 1
 end
def uptoSmall : (H : Type) → List (DataW H) → Bool := fun _ ds => decide (uptoBulkAll ds ≤ 1048576)
def OpenSpec.upto (s : _root_.Go.ChangeSpec) : _root_.Go.OpenSpec := { _root_.Go.OpenSpec.ofChange s with cond := some uptoSmall }

/-- 'ropewalklaw01.SigNames', WHERE WHAT IT READS IS OF BULK AT MOST 1048576: true; the input reads as it did. -/
def sigNamesUptoRow : OpenClaim := { program := "ytpknnhdpnmkpcaa", sum := "ce0738e90cffca64e83f7c26a255ad3abd71960dd30093694d6959bbd74a521a", func := "ropewalk/ropewalklaw01.SigNames", spec := "sigNames", apart := false, narrowed := true }
def SigNamesUptoSaid : Prop := sigNamesUptoRow.holds Try.pinned (OpenSpec.upto sigNamesSpec)

/-- 'ropewalklaw01.SigBack', WHERE WHAT IT READS IS OF BULK AT MOST 1048576: true; the input reads as it did. -/
def sigBackUptoRow : OpenClaim := { program := "ytpknnhdpnmkpcaa", sum := "ce0738e90cffca64e83f7c26a255ad3abd71960dd30093694d6959bbd74a521a", func := "ropewalk/ropewalklaw01.SigBack", spec := "sigBack", apart := false, narrowed := true }
def SigBackUptoSaid : Prop := sigBackUptoRow.holds Try.pinned (OpenSpec.upto sigBackSpec)

/-- 'ropewalklaw01.SigCalled', WHERE WHAT IT READS IS OF BULK AT MOST 1048576: true; the input reads as it did. -/
def sigCalledUptoRow : OpenClaim := { program := "ytpknnhdpnmkpcaa", sum := "ce0738e90cffca64e83f7c26a255ad3abd71960dd30093694d6959bbd74a521a", func := "ropewalk/ropewalklaw01.SigCalled", spec := "sigCalled", apart := false, narrowed := true }
def SigCalledUptoSaid : Prop := sigCalledUptoRow.holds Try.pinned (OpenSpec.upto sigCalledSpec)

/-- 'ropewalklaw01.SigPlays', WHERE WHAT IT READS IS OF BULK AT MOST 1048576: true; the input reads as it did. -/
def sigPlaysUptoRow : OpenClaim := { program := "ytpknnhdpnmkpcaa", sum := "ce0738e90cffca64e83f7c26a255ad3abd71960dd30093694d6959bbd74a521a", func := "ropewalk/ropewalklaw01.SigPlays", spec := "sigPlays", unfollowed := true, recurses := true, apart := false, narrowed := true }
def SigPlaysUptoSaid : Prop := sigPlaysUptoRow.holds Try.pinned (OpenSpec.upto sigPlaysSpec)

end Rows
end Go.Proofs.Ytpknnhdpnmkpcaa

/-
  No cell of these rows narrows 'for every input' (looked for: loops, veiled, ifaces, maps, wideKeys, modest, calm, conditions, laid).
  DERIVED. THE GIVEN ROWS OF THIS SEAT. 3 by the template 'for every input the law returns true; each argument reads behind the call as it read before'; 0 by the template 'total and deterministic' (their statements: YtkeheaempbmmaaaTotals.lean).
  GIVEN WITH THE SEED: the statements are not yours to turn. If you find one false, say at which input.
  Laid BY PROGRAM, IN A SANDBOX (cutbox-rows.mjs): the forced cells as the released guide's own fill.sh prints them over the translation fd97a75b623d71ad… (all of the seat's roots in one cut). By AI agents, Wed Nov 11 2026. No macro, syntax, notation, axiom, sorry.
-/
import Derived.Test.YtkeheaempbmmaaaChecked
import GoSem.Claim
import GoSem.ClaimJoined
import GoSem.ClaimMapViews
import Derived.JoinedTies
import Derived.KernelRfl
namespace Go.Proofs.Ytkeheaempbmmaaa
/- THE CELL 'sum', in the pinned program and in every row, IS THE sha256 OF THE DUMP (.gsa) THAT YtkeheaempbmmaaaProg.lean LOADS. Nothing in Lean hashes anything: it is a label: what it is worth is what the hold of that sum in a sandbox is worth. -/
noncomputable def Try.pinned : Pinned := { name := "ytkeheaempbmmaaa", sum := "fd97a75b623d71adaeb620f6e44ad5332036417fdf833bb710b628f6e0d2f2ff", checked := Try.checked }
namespace Rows
def none {H : Type} : Left H := { results := [], args := [] }

/-- 'rollbooklaw06.NodeDecodes': WHATEVER THE INPUT: true; the input reads as it did. -/
def nodeDecodesSpec : ChangeSpec := { name := "nodeDecodes", fn := fun _ => fun
  | [d1, d2] => { results := [.lit (.bool true)], args := [d1, d2] }
  | _ => none }
def nodeDecodesRow : OpenClaim := { program := "ytkeheaempbmmaaa", sum := "fd97a75b623d71adaeb620f6e44ad5332036417fdf833bb710b628f6e0d2f2ff", func := "rollbook/rollbooklaw06.NodeDecodes", spec := "nodeDecodes", apart := false }
def NodeDecodesSaid : Prop := nodeDecodesRow.holds Try.pinned (OpenSpec.ofChange nodeDecodesSpec)

/-- ITS FALSE NEIGHBOUR: 'it returns false'. Refute it at one input. -/
def nodeDecodesWrong : ChangeSpec := { name := "nodeDecodes", fn := fun _ => fun
  | [d1, d2] => { results := [.lit (.bool false)], args := [d1, d2] }
  | _ => none }
def NodeDecodesWrongFalsely : Prop := nodeDecodesRow.holds Try.pinned (OpenSpec.ofChange nodeDecodesWrong)

/-- 'rollbooklaw06.NodeEncodes': WHATEVER THE INPUT: true; the input reads as it did. -/
def nodeEncodesSpec : ChangeSpec := { name := "nodeEncodes", fn := fun _ => fun
  | [d1, d2] => { results := [.lit (.bool true)], args := [d1, d2] }
  | _ => none }
def nodeEncodesRow : OpenClaim := { program := "ytkeheaempbmmaaa", sum := "fd97a75b623d71adaeb620f6e44ad5332036417fdf833bb710b628f6e0d2f2ff", func := "rollbook/rollbooklaw06.NodeEncodes", spec := "nodeEncodes", apart := false }
def NodeEncodesSaid : Prop := nodeEncodesRow.holds Try.pinned (OpenSpec.ofChange nodeEncodesSpec)

/-- ITS FALSE NEIGHBOUR: 'it returns false'. Refute it at one input. -/
def nodeEncodesWrong : ChangeSpec := { name := "nodeEncodes", fn := fun _ => fun
  | [d1, d2] => { results := [.lit (.bool false)], args := [d1, d2] }
  | _ => none }
def NodeEncodesWrongFalsely : Prop := nodeEncodesRow.holds Try.pinned (OpenSpec.ofChange nodeEncodesWrong)

/-- 'rollbooklaw06.NodeParts': WHATEVER THE INPUT: true; the input reads as it did. -/
def nodePartsSpec : ChangeSpec := { name := "nodeParts", fn := fun _ => fun
  | [d1, d2] => { results := [.lit (.bool true)], args := [d1, d2] }
  | _ => none }
def nodePartsRow : OpenClaim := { program := "ytkeheaempbmmaaa", sum := "fd97a75b623d71adaeb620f6e44ad5332036417fdf833bb710b628f6e0d2f2ff", func := "rollbook/rollbooklaw06.NodeParts", spec := "nodeParts", unfollowed := true, recurses := true, apart := false }
def NodePartsSaid : Prop := nodePartsRow.holds Try.pinned (OpenSpec.ofChange nodePartsSpec)

/-- ITS FALSE NEIGHBOUR: 'it returns false'. Refute it at one input. -/
def nodePartsWrong : ChangeSpec := { name := "nodeParts", fn := fun _ => fun
  | [d1, d2] => { results := [.lit (.bool false)], args := [d1, d2] }
  | _ => none }
def NodePartsWrongFalsely : Prop := nodePartsRow.holds Try.pinned (OpenSpec.ofChange nodePartsWrong)

/- THE SECOND FORM. 'bulk': how many values and letters a reading holds, each counted each time it is reached (what is shared counts as often as it is met; a slice's spare places count too). A statement '..UptoSaid' is the law's where the arguments, and the package variables that the reading takes, are together of bulk at most 1048576: NARROWER than '..Said'. Prove '..Said' where nothing that the law and all that it calls make is longer than what came in: it says more and counts as full. Else prove '..UptoSaid'. A law counts once. -/
mutual
def uptoBulk {H : Type} : DataW H → Nat
  | .lit (.string bytes) => bytes.length + 1
  | .lit _ => 1
  | .nil => 1
  | .ptr d => uptoBulk d + 1
  | .slice elems spare => uptoBulkAll elems + uptoBulkAll spare + 1
  | .agg parts => uptoBulkAll parts + 1
  | .iface _ d => uptoBulk d + 1
  | .map entries => uptoBulkEntries entries + 1
  | .held _ => 1
def uptoBulkAll {H : Type} : List (DataW H) → Nat
  | [] => 0
  | d :: r => uptoBulk d + uptoBulkAll r
def uptoBulkEntries {H : Type} : List (Lit × DataW H) → Nat
  | [] => 0
  | x :: r => uptoBulkEntry x + uptoBulkEntries r
def uptoBulkEntry {H : Type} : Lit × DataW H → Nat
  | (.string bytes, d) => bytes.length + uptoBulk d + 1
  | (_, d) => uptoBulk d + 1
 end
def uptoSmall : (H : Type) → List (DataW H) → Bool := fun _ ds => decide (uptoBulkAll ds ≤ 1048576)
def OpenSpec.upto (s : _root_.Go.ChangeSpec) : _root_.Go.OpenSpec := { _root_.Go.OpenSpec.ofChange s with cond := some uptoSmall }

/-- 'rollbooklaw06.NodeDecodes', WHERE WHAT IT READS IS OF BULK AT MOST 1048576: true; the input reads as it did. -/
def nodeDecodesUptoRow : OpenClaim := { program := "ytkeheaempbmmaaa", sum := "fd97a75b623d71adaeb620f6e44ad5332036417fdf833bb710b628f6e0d2f2ff", func := "rollbook/rollbooklaw06.NodeDecodes", spec := "nodeDecodes", apart := false, narrowed := true }
def NodeDecodesUptoSaid : Prop := nodeDecodesUptoRow.holds Try.pinned (OpenSpec.upto nodeDecodesSpec)

/-- 'rollbooklaw06.NodeEncodes', WHERE WHAT IT READS IS OF BULK AT MOST 1048576: true; the input reads as it did. -/
def nodeEncodesUptoRow : OpenClaim := { program := "ytkeheaempbmmaaa", sum := "fd97a75b623d71adaeb620f6e44ad5332036417fdf833bb710b628f6e0d2f2ff", func := "rollbook/rollbooklaw06.NodeEncodes", spec := "nodeEncodes", apart := false, narrowed := true }
def NodeEncodesUptoSaid : Prop := nodeEncodesUptoRow.holds Try.pinned (OpenSpec.upto nodeEncodesSpec)

/-- 'rollbooklaw06.NodeParts', WHERE WHAT IT READS IS OF BULK AT MOST 1048576: true; the input reads as it did. -/
def nodePartsUptoRow : OpenClaim := { program := "ytkeheaempbmmaaa", sum := "fd97a75b623d71adaeb620f6e44ad5332036417fdf833bb710b628f6e0d2f2ff", func := "rollbook/rollbooklaw06.NodeParts", spec := "nodeParts", unfollowed := true, recurses := true, apart := false, narrowed := true }
def NodePartsUptoSaid : Prop := nodePartsUptoRow.holds Try.pinned (OpenSpec.upto nodePartsSpec)

end Rows
end Go.Proofs.Ytkeheaempbmmaaa

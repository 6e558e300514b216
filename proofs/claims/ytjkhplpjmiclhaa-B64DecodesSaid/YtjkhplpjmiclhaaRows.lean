/-
  No cell of these rows narrows 'for every input' (looked for: loops, veiled, ifaces, maps, wideKeys, modest, calm, conditions, laid).
  DERIVED. THE GIVEN ROWS OF THIS SEAT. 4 by the template 'for every input the law returns true; each argument reads behind the call as it read before'; 0 by the template 'total and deterministic' (their statements: YtjkhplpjmiclhaaTotals.lean).
  GIVEN WITH THE SEED: the statements are not yours to turn. If you find one false, say at which input.
  Laid BY PROGRAM, IN A SANDBOX (cutbox-rows.mjs): the forced cells as the released guide's own fill.sh prints them over the translation 9cb21105808122be… (all of the seat's roots in one cut). By AI agents, Wed Nov 11 2026. No macro, syntax, notation, axiom, sorry.
-/
import Derived.Test.YtjkhplpjmiclhaaChecked
import GoSem.Claim
import GoSem.ClaimJoined
import GoSem.ClaimMapViews
import Derived.JoinedTies
import Derived.KernelRfl
namespace Go.Proofs.Ytjkhplpjmiclhaa
/- THE CELL 'sum', in the pinned program and in every row, IS THE sha256 OF THE DUMP (.gsa) THAT YtjkhplpjmiclhaaProg.lean LOADS. Nothing in Lean hashes anything: it is a label: what it is worth is what the hold of that sum in a sandbox is worth. -/
noncomputable def Try.pinned : Pinned := { name := "ytjkhplpjmiclhaa", sum := "9cb21105808122bee5e58f41102d9d017d943d028eafc703456a51d16189ac0c", checked := Try.checked }
namespace Rows
def none {H : Type} : Left H := { results := [], args := [] }

/-- 'rollbooklaw14.B64Wraps': WHATEVER THE INPUT: true; the input reads as it did. -/
def b64WrapsSpec : ChangeSpec := { name := "b64Wraps", fn := fun _ => fun
  | [d1, d2] => { results := [.lit (.bool true)], args := [d1, d2] }
  | _ => none }
def b64WrapsRow : OpenClaim := { program := "ytjkhplpjmiclhaa", sum := "9cb21105808122bee5e58f41102d9d017d943d028eafc703456a51d16189ac0c", func := "rollbook/rollbooklaw14.B64Wraps", spec := "b64Wraps", inPlace := ["internal/abi.NoEscape"], apart := false }
def B64WrapsSaid : Prop := b64WrapsRow.holds Try.pinned (OpenSpec.ofChange b64WrapsSpec)

/-- ITS FALSE NEIGHBOUR: 'it returns false'. Refute it at one input. -/
def b64WrapsWrong : ChangeSpec := { name := "b64Wraps", fn := fun _ => fun
  | [d1, d2] => { results := [.lit (.bool false)], args := [d1, d2] }
  | _ => none }
def B64WrapsWrongFalsely : Prop := b64WrapsRow.holds Try.pinned (OpenSpec.ofChange b64WrapsWrong)

/-- 'rollbooklaw14.B64Hexes': WHATEVER THE INPUT: true; the input reads as it did. -/
def b64HexesSpec : ChangeSpec := { name := "b64Hexes", fn := fun _ => fun
  | [d] => { results := [.lit (.bool true)], args := [d] }
  | _ => none }
def b64HexesRow : OpenClaim := { program := "ytjkhplpjmiclhaa", sum := "9cb21105808122bee5e58f41102d9d017d943d028eafc703456a51d16189ac0c", func := "rollbook/rollbooklaw14.B64Hexes", spec := "b64Hexes", inPlace := ["internal/abi.NoEscape", "internal/bytealg.IndexByteString"], apart := false }
def B64HexesSaid : Prop := b64HexesRow.holds Try.pinned (OpenSpec.ofChange b64HexesSpec)

/-- ITS FALSE NEIGHBOUR: 'it returns false'. Refute it at one input. -/
def b64HexesWrong : ChangeSpec := { name := "b64Hexes", fn := fun _ => fun
  | [d] => { results := [.lit (.bool false)], args := [d] }
  | _ => none }
def B64HexesWrongFalsely : Prop := b64HexesRow.holds Try.pinned (OpenSpec.ofChange b64HexesWrong)

/-- 'rollbooklaw14.B64Encodes': WHATEVER THE INPUT: true; the input reads as it did. -/
def b64EncodesSpec : ChangeSpec := { name := "b64Encodes", fn := fun _ => fun
  | [d] => { results := [.lit (.bool true)], args := [d] }
  | _ => none }
def b64EncodesRow : OpenClaim := { program := "ytjkhplpjmiclhaa", sum := "9cb21105808122bee5e58f41102d9d017d943d028eafc703456a51d16189ac0c", func := "rollbook/rollbooklaw14.B64Encodes", spec := "b64Encodes", inPlace := ["internal/abi.NoEscape", "internal/bytealg.IndexByteString"], apart := false }
def B64EncodesSaid : Prop := b64EncodesRow.holds Try.pinned (OpenSpec.ofChange b64EncodesSpec)

/-- ITS FALSE NEIGHBOUR: 'it returns false'. Refute it at one input. -/
def b64EncodesWrong : ChangeSpec := { name := "b64Encodes", fn := fun _ => fun
  | [d] => { results := [.lit (.bool false)], args := [d] }
  | _ => none }
def B64EncodesWrongFalsely : Prop := b64EncodesRow.holds Try.pinned (OpenSpec.ofChange b64EncodesWrong)

/-- 'rollbooklaw14.B64Decodes': WHATEVER THE INPUT: true; the input reads as it did. -/
def b64DecodesSpec : ChangeSpec := { name := "b64Decodes", fn := fun _ => fun
  | [d] => { results := [.lit (.bool true)], args := [d] }
  | _ => none }
def b64DecodesRow : OpenClaim := { program := "ytjkhplpjmiclhaa", sum := "9cb21105808122bee5e58f41102d9d017d943d028eafc703456a51d16189ac0c", func := "rollbook/rollbooklaw14.B64Decodes", spec := "b64Decodes", inPlace := ["internal/abi.NoEscape", "internal/bytealg.IndexByteString"], apart := false }
def B64DecodesSaid : Prop := b64DecodesRow.holds Try.pinned (OpenSpec.ofChange b64DecodesSpec)

/-- ITS FALSE NEIGHBOUR: 'it returns false'. Refute it at one input. -/
def b64DecodesWrong : ChangeSpec := { name := "b64Decodes", fn := fun _ => fun
  | [d] => { results := [.lit (.bool false)], args := [d] }
  | _ => none }
def B64DecodesWrongFalsely : Prop := b64DecodesRow.holds Try.pinned (OpenSpec.ofChange b64DecodesWrong)

/- THE SECOND FORM. 'bulk': how many values and letters a reading holds, each counted each time it is reached (what is shared counts as often as it is met; a slice's spare places count too). A statement '..UptoSaid' is the law's where the arguments, and the package variables that the reading takes, are together of bulk at most 1048576: NARROWER than '..Said'. Prove '..Said' where nothing that the law and all that it calls make is longer than what came in: it says more and counts as full. Else prove '..UptoSaid'. A law counts once. -/
mutual
def uptoBulk {H : Type} : DataW H → Nat
  | .lit (.string bytes) => bytes.length + 1
  | .lit _ => 1
  | .nil => 1
  | .ptr d => uptoBulk d + 1
  | .slice elems spare => uptoBulkAll elems + uptoBulkAll spare + 1
  | .agg parts => uptoBulkAll parts + 1
  | .iface _ d => uptoBulk d + 1
  | .map entries => uptoBulkEntries entries + 1
  | .held _ => 1
def uptoBulkAll {H : Type} : List (DataW H) → Nat
  | [] => 0
  | d :: r => uptoBulk d + uptoBulkAll r
def uptoBulkEntries {H : Type} : List (Lit × DataW H) → Nat
  | [] => 0
  | x :: r => uptoBulkEntry x + uptoBulkEntries r
def uptoBulkEntry {H : Type} : Lit × DataW H → Nat
  | (.string bytes, d) => bytes.length + uptoBulk d + 1
  | (_, d) => uptoBulk d + 1
 end
def uptoSmall : (H : Type) → List (DataW H) → Bool := fun _ ds => decide (uptoBulkAll ds ≤ 1048576)
def OpenSpec.upto (s : _root_.Go.ChangeSpec) : _root_.Go.OpenSpec := { _root_.Go.OpenSpec.ofChange s with cond := some uptoSmall }

/-- 'rollbooklaw14.B64Wraps', WHERE WHAT IT READS IS OF BULK AT MOST 1048576: true; the input reads as it did. -/
def b64WrapsUptoRow : OpenClaim := { program := "ytjkhplpjmiclhaa", sum := "9cb21105808122bee5e58f41102d9d017d943d028eafc703456a51d16189ac0c", func := "rollbook/rollbooklaw14.B64Wraps", spec := "b64Wraps", inPlace := ["internal/abi.NoEscape"], apart := false, narrowed := true }
def B64WrapsUptoSaid : Prop := b64WrapsUptoRow.holds Try.pinned (OpenSpec.upto b64WrapsSpec)

/-- 'rollbooklaw14.B64Hexes', WHERE WHAT IT READS IS OF BULK AT MOST 1048576: true; the input reads as it did. -/
def b64HexesUptoRow : OpenClaim := { program := "ytjkhplpjmiclhaa", sum := "9cb21105808122bee5e58f41102d9d017d943d028eafc703456a51d16189ac0c", func := "rollbook/rollbooklaw14.B64Hexes", spec := "b64Hexes", inPlace := ["internal/abi.NoEscape", "internal/bytealg.IndexByteString"], apart := false, narrowed := true }
def B64HexesUptoSaid : Prop := b64HexesUptoRow.holds Try.pinned (OpenSpec.upto b64HexesSpec)

/-- 'rollbooklaw14.B64Encodes', WHERE WHAT IT READS IS OF BULK AT MOST 1048576: true; the input reads as it did. -/
def b64EncodesUptoRow : OpenClaim := { program := "ytjkhplpjmiclhaa", sum := "9cb21105808122bee5e58f41102d9d017d943d028eafc703456a51d16189ac0c", func := "rollbook/rollbooklaw14.B64Encodes", spec := "b64Encodes", inPlace := ["internal/abi.NoEscape", "internal/bytealg.IndexByteString"], apart := false, narrowed := true }
def B64EncodesUptoSaid : Prop := b64EncodesUptoRow.holds Try.pinned (OpenSpec.upto b64EncodesSpec)

/-- 'rollbooklaw14.B64Decodes', WHERE WHAT IT READS IS OF BULK AT MOST 1048576: true; the input reads as it did. -/
def b64DecodesUptoRow : OpenClaim := { program := "ytjkhplpjmiclhaa", sum := "9cb21105808122bee5e58f41102d9d017d943d028eafc703456a51d16189ac0c", func := "rollbook/rollbooklaw14.B64Decodes", spec := "b64Decodes", inPlace := ["internal/abi.NoEscape", "internal/bytealg.IndexByteString"], apart := false, narrowed := true }
def B64DecodesUptoSaid : Prop := b64DecodesUptoRow.holds Try.pinned (OpenSpec.upto b64DecodesSpec)

end Rows
end Go.Proofs.Ytjkhplpjmiclhaa

/-
  No cell of these rows narrows 'for every input' (looked for: loops, veiled, ifaces, maps, wideKeys, modest, calm, conditions, laid).
  DERIVED. THE GIVEN ROWS OF THIS SEAT. 6 by the template 'for every input the law returns true; each argument reads behind the call as it read before'; 0 by the template 'total and deterministic' (their statements: YtcmpepojokmhnaaTotals.lean).
  GIVEN WITH THE SEED: the statements are not yours to turn. If you find one false, say at which input.
  Laid BY PROGRAM, IN A SANDBOX (cutbox-rows.mjs): the forced cells as the released guide's own fill.sh prints them over the translation 24bd166285d348bd… (all of the seat's roots in one cut). By AI agents, Wed Nov 11 2026. No macro, syntax, notation, axiom, sorry.
-/
import Derived.Test.YtcmpepojokmhnaaChecked
import GoSem.Claim
import GoSem.ClaimJoined
import GoSem.ClaimMapViews
import Derived.JoinedTies
import Derived.KernelRfl
namespace Go.Proofs.Ytcmpepojokmhnaa
/- THE CELL 'sum', in the pinned program and in every row, IS THE sha256 OF THE DUMP (.gsa) THAT YtcmpepojokmhnaaProg.lean LOADS. Nothing in Lean hashes anything: it is a label: what it is worth is what the hold of that sum in a sandbox is worth. -/
noncomputable def Try.pinned : Pinned := { name := "ytcmpepojokmhnaa", sum := "24bd166285d348bdd54fd345863e84f952374a42e823c920cf62307b6049b03b", checked := Try.checked }
namespace Rows
def none {H : Type} : Left H := { results := [], args := [] }

/-- 'rollbooklaw08.FreeOnce': WHATEVER THE INPUT: true; the input reads as it did. -/
def freeOnceSpec : ChangeSpec := { name := "freeOnce", fn := fun _ => fun
  | [d] => { results := [.lit (.bool true)], args := [d] }
  | _ => none }
def freeOnceRow : OpenClaim := { program := "ytcmpepojokmhnaa", sum := "24bd166285d348bdd54fd345863e84f952374a42e823c920cf62307b6049b03b", func := "rollbook/rollbooklaw08.FreeOnce", spec := "freeOnce", inPlace := ["slices.overlaps[rollbook/api.Free]"], unfollowed := true, recurses := true, apart := false }
def FreeOnceSaid : Prop := freeOnceRow.holds Try.pinned (OpenSpec.ofChange freeOnceSpec)

/-- ITS FALSE NEIGHBOUR: 'it returns false'. Refute it at one input. -/
def freeOnceWrong : ChangeSpec := { name := "freeOnce", fn := fun _ => fun
  | [d] => { results := [.lit (.bool false)], args := [d] }
  | _ => none }
def FreeOnceWrongFalsely : Prop := freeOnceRow.holds Try.pinned (OpenSpec.ofChange freeOnceWrong)

/-- 'rollbooklaw08.FreeCounts': WHATEVER THE INPUT: true; the input reads as it did. -/
def freeCountsSpec : ChangeSpec := { name := "freeCounts", fn := fun _ => fun
  | [d] => { results := [.lit (.bool true)], args := [d] }
  | _ => none }
def freeCountsRow : OpenClaim := { program := "ytcmpepojokmhnaa", sum := "24bd166285d348bdd54fd345863e84f952374a42e823c920cf62307b6049b03b", func := "rollbook/rollbooklaw08.FreeCounts", spec := "freeCounts", inPlace := ["slices.overlaps[rollbook/api.Free]"], unfollowed := true, recurses := true, apart := false }
def FreeCountsSaid : Prop := freeCountsRow.holds Try.pinned (OpenSpec.ofChange freeCountsSpec)

/-- ITS FALSE NEIGHBOUR: 'it returns false'. Refute it at one input. -/
def freeCountsWrong : ChangeSpec := { name := "freeCounts", fn := fun _ => fun
  | [d] => { results := [.lit (.bool false)], args := [d] }
  | _ => none }
def FreeCountsWrongFalsely : Prop := freeCountsRow.holds Try.pinned (OpenSpec.ofChange freeCountsWrong)

/-- 'rollbooklaw08.FreePlays': WHATEVER THE INPUT: true; the input reads as it did. -/
def freePlaysSpec : ChangeSpec := { name := "freePlays", fn := fun _ => fun
  | [d] => { results := [.lit (.bool true)], args := [d] }
  | _ => none }
def freePlaysRow : OpenClaim := { program := "ytcmpepojokmhnaa", sum := "24bd166285d348bdd54fd345863e84f952374a42e823c920cf62307b6049b03b", func := "rollbook/rollbooklaw08.FreePlays", spec := "freePlays", inPlace := ["slices.overlaps[rollbook/api.Free]"], unfollowed := true, recurses := true, apart := false }
def FreePlaysSaid : Prop := freePlaysRow.holds Try.pinned (OpenSpec.ofChange freePlaysSpec)

/-- ITS FALSE NEIGHBOUR: 'it returns false'. Refute it at one input. -/
def freePlaysWrong : ChangeSpec := { name := "freePlays", fn := fun _ => fun
  | [d] => { results := [.lit (.bool false)], args := [d] }
  | _ => none }
def FreePlaysWrongFalsely : Prop := freePlaysRow.holds Try.pinned (OpenSpec.ofChange freePlaysWrong)

/-- 'rollbooklaw08.FreeNil': WHATEVER THE INPUT: true; the input reads as it did. -/
def freeNilSpec : ChangeSpec := { name := "freeNil", fn := fun _ => fun
  | [d1, d2] => { results := [.lit (.bool true)], args := [d1, d2] }
  | _ => none }
def freeNilRow : OpenClaim := { program := "ytcmpepojokmhnaa", sum := "24bd166285d348bdd54fd345863e84f952374a42e823c920cf62307b6049b03b", func := "rollbook/rollbooklaw08.FreeNil", spec := "freeNil", inPlace := ["slices.overlaps[rollbook/api.Free]"], unfollowed := true, recurses := true, apart := false }
def FreeNilSaid : Prop := freeNilRow.holds Try.pinned (OpenSpec.ofChange freeNilSpec)

/-- ITS FALSE NEIGHBOUR: 'it returns false'. Refute it at one input. -/
def freeNilWrong : ChangeSpec := { name := "freeNil", fn := fun _ => fun
  | [d1, d2] => { results := [.lit (.bool false)], args := [d1, d2] }
  | _ => none }
def FreeNilWrongFalsely : Prop := freeNilRow.holds Try.pinned (OpenSpec.ofChange freeNilWrong)

/-- 'rollbooklaw08.FreeReads': WHATEVER THE INPUT: true; the input reads as it did. -/
def freeReadsSpec : ChangeSpec := { name := "freeReads", fn := fun _ => fun
  | [d] => { results := [.lit (.bool true)], args := [d] }
  | _ => none }
def freeReadsRow : OpenClaim := { program := "ytcmpepojokmhnaa", sum := "24bd166285d348bdd54fd345863e84f952374a42e823c920cf62307b6049b03b", func := "rollbook/rollbooklaw08.FreeReads", spec := "freeReads", inPlace := ["slices.overlaps[rollbook/api.Free]"], unfollowed := true, recurses := true, apart := false }
def FreeReadsSaid : Prop := freeReadsRow.holds Try.pinned (OpenSpec.ofChange freeReadsSpec)

/-- ITS FALSE NEIGHBOUR: 'it returns false'. Refute it at one input. -/
def freeReadsWrong : ChangeSpec := { name := "freeReads", fn := fun _ => fun
  | [d] => { results := [.lit (.bool false)], args := [d] }
  | _ => none }
def FreeReadsWrongFalsely : Prop := freeReadsRow.holds Try.pinned (OpenSpec.ofChange freeReadsWrong)

/-- 'rollbooklaw08.FreePieces': WHATEVER THE INPUT: true; the input reads as it did. -/
def freePiecesSpec : ChangeSpec := { name := "freePieces", fn := fun _ => fun
  | [d1, d2] => { results := [.lit (.bool true)], args := [d1, d2] }
  | _ => none }
def freePiecesRow : OpenClaim := { program := "ytcmpepojokmhnaa", sum := "24bd166285d348bdd54fd345863e84f952374a42e823c920cf62307b6049b03b", func := "rollbook/rollbooklaw08.FreePieces", spec := "freePieces", inPlace := ["slices.overlaps[rollbook/api.Free]"], unfollowed := true, recurses := true, apart := false }
def FreePiecesSaid : Prop := freePiecesRow.holds Try.pinned (OpenSpec.ofChange freePiecesSpec)

/-- ITS FALSE NEIGHBOUR: 'it returns false'. Refute it at one input. -/
def freePiecesWrong : ChangeSpec := { name := "freePieces", fn := fun _ => fun
  | [d1, d2] => { results := [.lit (.bool false)], args := [d1, d2] }
  | _ => none }
def FreePiecesWrongFalsely : Prop := freePiecesRow.holds Try.pinned (OpenSpec.ofChange freePiecesWrong)

/- THE SECOND FORM. 'bulk': how many values and letters a reading holds, each counted each time it is reached (what is shared counts as often as it is met; a slice's spare places count too). A statement '..UptoSaid' is the law's where the arguments, and the package variables that the reading takes, are together of bulk at most 1048576: NARROWER than '..Said'. Prove '..Said' where nothing that the law and all that it calls make is longer than what came in: it says more and counts as full. Else prove '..UptoSaid'. A law counts once. -/
mutual
def uptoBulk {H : Type} : DataW H → Nat
  | .lit (.string bytes) => bytes.length + 1
  | .lit _ => 1
  | .nil => 1
  | .ptr d => uptoBulk d + 1
  | .slice elems spare => uptoBulkAll elems + uptoBulkAll spare + 1
  | .agg parts => uptoBulkAll parts + 1
  | .iface _ d => uptoBulk d + 1
  | .map entries => uptoBulkEntries entries + 1
  | .held _ => 1
def uptoBulkAll {H : Type} : List (DataW H) → Nat
  | [] => 0
  | d :: r => uptoBulk d + uptoBulkAll r
def uptoBulkEntries {H : Type} : List (Lit × DataW H) → Nat
  | [] => 0
  | x :: r => uptoBulkEntry x + uptoBulkEntries r
def uptoBulkEntry {H : Type} : Lit × DataW H → Nat
  | (.string bytes, d) => bytes.length + uptoBulk d + 1
  | (_, d) => uptoBulk d + 1
 end
def uptoSmall : (H : Type) → List (DataW H) → Bool := fun _ ds => decide (uptoBulkAll ds ≤ 1048576)
def OpenSpec.upto (s : _root_.Go.ChangeSpec) : _root_.Go.OpenSpec := { _root_.Go.OpenSpec.ofChange s with cond := some uptoSmall }

/-- 'rollbooklaw08.FreeOnce', WHERE WHAT IT READS IS OF BULK AT MOST 1048576: true; the input reads as it did. -/
def freeOnceUptoRow : OpenClaim := { program := "ytcmpepojokmhnaa", sum := "24bd166285d348bdd54fd345863e84f952374a42e823c920cf62307b6049b03b", func := "rollbook/rollbooklaw08.FreeOnce", spec := "freeOnce", inPlace := ["slices.overlaps[rollbook/api.Free]"], unfollowed := true, recurses := true, apart := false, narrowed := true }
def FreeOnceUptoSaid : Prop := freeOnceUptoRow.holds Try.pinned (OpenSpec.upto freeOnceSpec)

/-- 'rollbooklaw08.FreeCounts', WHERE WHAT IT READS IS OF BULK AT MOST 1048576: true; the input reads as it did. -/
def freeCountsUptoRow : OpenClaim := { program := "ytcmpepojokmhnaa", sum := "24bd166285d348bdd54fd345863e84f952374a42e823c920cf62307b6049b03b", func := "rollbook/rollbooklaw08.FreeCounts", spec := "freeCounts", inPlace := ["slices.overlaps[rollbook/api.Free]"], unfollowed := true, recurses := true, apart := false, narrowed := true }
def FreeCountsUptoSaid : Prop := freeCountsUptoRow.holds Try.pinned (OpenSpec.upto freeCountsSpec)

/-- 'rollbooklaw08.FreePlays', WHERE WHAT IT READS IS OF BULK AT MOST 1048576: true; the input reads as it did. -/
def freePlaysUptoRow : OpenClaim := { program := "ytcmpepojokmhnaa", sum := "24bd166285d348bdd54fd345863e84f952374a42e823c920cf62307b6049b03b", func := "rollbook/rollbooklaw08.FreePlays", spec := "freePlays", inPlace := ["slices.overlaps[rollbook/api.Free]"], unfollowed := true, recurses := true, apart := false, narrowed := true }
def FreePlaysUptoSaid : Prop := freePlaysUptoRow.holds Try.pinned (OpenSpec.upto freePlaysSpec)

/-- 'rollbooklaw08.FreeNil', WHERE WHAT IT READS IS OF BULK AT MOST 1048576: true; the input reads as it did. -/
def freeNilUptoRow : OpenClaim := { program := "ytcmpepojokmhnaa", sum := "24bd166285d348bdd54fd345863e84f952374a42e823c920cf62307b6049b03b", func := "rollbook/rollbooklaw08.FreeNil", spec := "freeNil", inPlace := ["slices.overlaps[rollbook/api.Free]"], unfollowed := true, recurses := true, apart := false, narrowed := true }
def FreeNilUptoSaid : Prop := freeNilUptoRow.holds Try.pinned (OpenSpec.upto freeNilSpec)

/-- 'rollbooklaw08.FreeReads', WHERE WHAT IT READS IS OF BULK AT MOST 1048576: true; the input reads as it did. -/
def freeReadsUptoRow : OpenClaim := { program := "ytcmpepojokmhnaa", sum := "24bd166285d348bdd54fd345863e84f952374a42e823c920cf62307b6049b03b", func := "rollbook/rollbooklaw08.FreeReads", spec := "freeReads", inPlace := ["slices.overlaps[rollbook/api.Free]"], unfollowed := true, recurses := true, apart := false, narrowed := true }
def FreeReadsUptoSaid : Prop := freeReadsUptoRow.holds Try.pinned (OpenSpec.upto freeReadsSpec)

/-- 'rollbooklaw08.FreePieces', WHERE WHAT IT READS IS OF BULK AT MOST 1048576: true; the input reads as it did. -/
def freePiecesUptoRow : OpenClaim := { program := "ytcmpepojokmhnaa", sum := "24bd166285d348bdd54fd345863e84f952374a42e823c920cf62307b6049b03b", func := "rollbook/rollbooklaw08.FreePieces", spec := "freePieces", inPlace := ["slices.overlaps[rollbook/api.Free]"], unfollowed := true, recurses := true, apart := false, narrowed := true }
def FreePiecesUptoSaid : Prop := freePiecesUptoRow.holds Try.pinned (OpenSpec.upto freePiecesSpec)

end Rows
end Go.Proofs.Ytcmpepojokmhnaa

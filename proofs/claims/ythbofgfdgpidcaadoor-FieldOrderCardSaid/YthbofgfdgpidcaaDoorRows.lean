/-
  NARROWER THAN 'FOR EVERY INPUT', by the rows' own cells (each row's printed sentence says how): FieldNumbers: laid · FieldOrder: laid · FieldTuples: laid · FieldParts: laid · FieldTexts: laid.
  DERIVED. THE GIVEN ROWS OF THIS SEAT. 5 by the template 'for every input the law returns true; each argument reads behind the call as it read before'; 0 by the template 'total and deterministic' (their statements: YthbofgfdgpidcaaDoorTotals.lean).
  GIVEN WITH THE SEED: the statements are not yours to turn. If you find one false, say at which input.
  Laid BY PROGRAM, IN A SANDBOX (cutbox-rows.mjs): the forced cells as the released guide's own fill.sh prints them over the translation e9da012ec6aa7fe0… (all of the seat's roots in one cut). By AI agents, Wed Nov 11 2026. No macro, syntax, notation, axiom, sorry.
-/
import Derived.Test.YthbofgfdgpidcaaDoorChecked
import GoSem.PinnedTables
import GoSem.Claim
import GoSem.ClaimJoined
import GoSem.ClaimMapViews
import Derived.JoinedTies
import Derived.KernelRfl
namespace Go.Proofs.YthbofgfdgpidcaaDoor
/- THE CELL 'sum', in the pinned program and in every row, IS THE sha256 OF THE DUMP (.gsa) THAT YthbofgfdgpidcaaDoorProg.lean LOADS. Nothing in Lean hashes anything: it is a label: what it is worth is what the hold of that sum in a sandbox is worth. -/
noncomputable def Tryd.pinned : Pinned := { name := "ythbofgfdgpidcaadoor", sum := "e9da012ec6aa7fe04f51e3ba1dd84dcd5590d78353614892faa4a269868cd25e", checked := Tryd.checked }
namespace Rows
def none {H : Type} : Left H := { results := [], args := [] }

/- WHAT THE LISTED PACKAGE-LEVEL VARIABLES READ AS WHEN THE CALL BEGINS. Each datum BY PROGRAM (the guide's laid-datum.mjs) off the statement by which the dump's own 'gosem.cut.vars' lays the variable. In a bare row this is a premise. The card (YthbofgfdgpidcaaDoorCards.lean) ties it to the program's text. -/
def laid_unicode_utf8_acceptRanges {H : Type} : DataW H := .agg [.agg [.lit (.int .u8 128), .lit (.int .u8 191)], .agg [.lit (.int .u8 160), .lit (.int .u8 191)], .agg [.lit (.int .u8 128), .lit (.int .u8 159)], .agg [.lit (.int .u8 144), .lit (.int .u8 191)], .agg [.lit (.int .u8 128), .lit (.int .u8 143)], .agg [.lit (.int .u8 0), .lit (.int .u8 0)], .agg [.lit (.int .u8 0), .lit (.int .u8 0)], .agg [.lit (.int .u8 0), .lit (.int .u8 0)], .agg [.lit (.int .u8 0), .lit (.int .u8 0)], .agg [.lit (.int .u8 0), .lit (.int .u8 0)], .agg [.lit (.int .u8 0), .lit (.int .u8 0)], .agg [.lit (.int .u8 0), .lit (.int .u8 0)], .agg [.lit (.int .u8 0), .lit (.int .u8 0)], .agg [.lit (.int .u8 0), .lit (.int .u8 0)], .agg [.lit (.int .u8 0), .lit (.int .u8 0)], .agg [.lit (.int .u8 0), .lit (.int .u8 0)]]
/-- One of Go's own tables, pinned by name: the form's constant. -/
def laid_unicode_utf8_first : DataW Unit := Go.Pinned.utf8First

/-- 'rollbooklaw01.FieldNumbers': WHATEVER THE INPUT: true; the input reads as it did. -/
def fieldNumbersSpec : ChangeSpec := { name := "fieldNumbers", fn := fun _ => fun
  | [d1, d2, d3, d4] => { results := [.lit (.bool true)], args := [d1, d2, d3, d4] }
  | _ => none }
def fieldNumbersRow : OpenClaim := { program := "ythbofgfdgpidcaadoor", sum := "e9da012ec6aa7fe04f51e3ba1dd84dcd5590d78353614892faa4a269868cd25e", func := "rollbook/rollbooklaw01.FieldNumbers", spec := "fieldNumbers", inPlace := ["internal/bytealg.CountString", "internal/bytealg.IndexByteString", "internal/bytealg.IndexString", "internal/abi.NoEscape", "internal/bytealg.MakeNoZero"], named := ["internal/bytealg.MaxLen", "unicode/utf8.first", "unicode/utf8.acceptRanges"], apart := false, laid := [("unicode/utf8.acceptRanges", laid_unicode_utf8_acceptRanges), ("unicode/utf8.first", laid_unicode_utf8_first)] }
def FieldNumbersSaid : Prop := fieldNumbersRow.holds Tryd.pinned (OpenSpec.ofChange fieldNumbersSpec)

/-- ITS FALSE NEIGHBOUR: 'it returns false'. Refute it at one input. -/
def fieldNumbersWrong : ChangeSpec := { name := "fieldNumbers", fn := fun _ => fun
  | [d1, d2, d3, d4] => { results := [.lit (.bool false)], args := [d1, d2, d3, d4] }
  | _ => none }
def FieldNumbersWrongFalsely : Prop := fieldNumbersRow.holds Tryd.pinned (OpenSpec.ofChange fieldNumbersWrong)

/-- 'rollbooklaw01.FieldOrder': WHATEVER THE INPUT: true; the input reads as it did. -/
def fieldOrderSpec : ChangeSpec := { name := "fieldOrder", fn := fun _ => fun
  | [d1, d2] => { results := [.lit (.bool true)], args := [d1, d2] }
  | _ => none }
def fieldOrderRow : OpenClaim := { program := "ythbofgfdgpidcaadoor", sum := "e9da012ec6aa7fe04f51e3ba1dd84dcd5590d78353614892faa4a269868cd25e", func := "rollbook/rollbooklaw01.FieldOrder", spec := "fieldOrder", inPlace := ["internal/bytealg.CountString", "internal/bytealg.IndexByteString", "internal/bytealg.IndexString", "internal/abi.NoEscape", "internal/bytealg.MakeNoZero", "internal/bytealg.abigen_runtime_cmpstring"], named := ["internal/bytealg.MaxLen", "unicode/utf8.first", "unicode/utf8.acceptRanges"], apart := false, laid := [("unicode/utf8.acceptRanges", laid_unicode_utf8_acceptRanges), ("unicode/utf8.first", laid_unicode_utf8_first)] }
def FieldOrderSaid : Prop := fieldOrderRow.holds Tryd.pinned (OpenSpec.ofChange fieldOrderSpec)

/-- ITS FALSE NEIGHBOUR: 'it returns false'. Refute it at one input. -/
def fieldOrderWrong : ChangeSpec := { name := "fieldOrder", fn := fun _ => fun
  | [d1, d2] => { results := [.lit (.bool false)], args := [d1, d2] }
  | _ => none }
def FieldOrderWrongFalsely : Prop := fieldOrderRow.holds Tryd.pinned (OpenSpec.ofChange fieldOrderWrong)

/-- 'rollbooklaw01.FieldTuples': WHATEVER THE INPUT: true; the input reads as it did. -/
def fieldTuplesSpec : ChangeSpec := { name := "fieldTuples", fn := fun _ => fun
  | [d] => { results := [.lit (.bool true)], args := [d] }
  | _ => none }
def fieldTuplesRow : OpenClaim := { program := "ythbofgfdgpidcaadoor", sum := "e9da012ec6aa7fe04f51e3ba1dd84dcd5590d78353614892faa4a269868cd25e", func := "rollbook/rollbooklaw01.FieldTuples", spec := "fieldTuples", inPlace := ["internal/bytealg.CountString", "internal/bytealg.IndexByteString", "internal/bytealg.IndexString", "internal/abi.NoEscape", "internal/bytealg.MakeNoZero"], named := ["internal/bytealg.MaxLen", "unicode/utf8.first", "unicode/utf8.acceptRanges"], apart := false, laid := [("unicode/utf8.acceptRanges", laid_unicode_utf8_acceptRanges), ("unicode/utf8.first", laid_unicode_utf8_first)] }
def FieldTuplesSaid : Prop := fieldTuplesRow.holds Tryd.pinned (OpenSpec.ofChange fieldTuplesSpec)

/-- ITS FALSE NEIGHBOUR: 'it returns false'. Refute it at one input. -/
def fieldTuplesWrong : ChangeSpec := { name := "fieldTuples", fn := fun _ => fun
  | [d] => { results := [.lit (.bool false)], args := [d] }
  | _ => none }
def FieldTuplesWrongFalsely : Prop := fieldTuplesRow.holds Tryd.pinned (OpenSpec.ofChange fieldTuplesWrong)

/-- 'rollbooklaw01.FieldParts': WHATEVER THE INPUT: true; the input reads as it did. -/
def fieldPartsSpec : ChangeSpec := { name := "fieldParts", fn := fun _ => fun
  | [d] => { results := [.lit (.bool true)], args := [d] }
  | _ => none }
def fieldPartsRow : OpenClaim := { program := "ythbofgfdgpidcaadoor", sum := "e9da012ec6aa7fe04f51e3ba1dd84dcd5590d78353614892faa4a269868cd25e", func := "rollbook/rollbooklaw01.FieldParts", spec := "fieldParts", inPlace := ["internal/bytealg.CountString", "internal/bytealg.IndexByteString", "internal/bytealg.IndexString", "internal/abi.NoEscape", "internal/bytealg.MakeNoZero"], named := ["internal/bytealg.MaxLen", "unicode/utf8.first", "unicode/utf8.acceptRanges"], apart := false, laid := [("unicode/utf8.acceptRanges", laid_unicode_utf8_acceptRanges), ("unicode/utf8.first", laid_unicode_utf8_first)] }
def FieldPartsSaid : Prop := fieldPartsRow.holds Tryd.pinned (OpenSpec.ofChange fieldPartsSpec)

/-- ITS FALSE NEIGHBOUR: 'it returns false'. Refute it at one input. -/
def fieldPartsWrong : ChangeSpec := { name := "fieldParts", fn := fun _ => fun
  | [d] => { results := [.lit (.bool false)], args := [d] }
  | _ => none }
def FieldPartsWrongFalsely : Prop := fieldPartsRow.holds Tryd.pinned (OpenSpec.ofChange fieldPartsWrong)

/-- 'rollbooklaw01.FieldTexts': WHATEVER THE INPUT: true; the input reads as it did. -/
def fieldTextsSpec : ChangeSpec := { name := "fieldTexts", fn := fun _ => fun
  | [d1, d2, d3, d4] => { results := [.lit (.bool true)], args := [d1, d2, d3, d4] }
  | _ => none }
def fieldTextsRow : OpenClaim := { program := "ythbofgfdgpidcaadoor", sum := "e9da012ec6aa7fe04f51e3ba1dd84dcd5590d78353614892faa4a269868cd25e", func := "rollbook/rollbooklaw01.FieldTexts", spec := "fieldTexts", inPlace := ["internal/bytealg.CountString", "internal/bytealg.IndexByteString", "internal/bytealg.IndexString", "internal/abi.NoEscape", "internal/bytealg.MakeNoZero"], named := ["internal/bytealg.MaxLen", "unicode/utf8.first", "unicode/utf8.acceptRanges"], apart := false, laid := [("unicode/utf8.acceptRanges", laid_unicode_utf8_acceptRanges), ("unicode/utf8.first", laid_unicode_utf8_first)] }
def FieldTextsSaid : Prop := fieldTextsRow.holds Tryd.pinned (OpenSpec.ofChange fieldTextsSpec)

/-- ITS FALSE NEIGHBOUR: 'it returns false'. Refute it at one input. -/
def fieldTextsWrong : ChangeSpec := { name := "fieldTexts", fn := fun _ => fun
  | [d1, d2, d3, d4] => { results := [.lit (.bool false)], args := [d1, d2, d3, d4] }
  | _ => none }
def FieldTextsWrongFalsely : Prop := fieldTextsRow.holds Tryd.pinned (OpenSpec.ofChange fieldTextsWrong)

/- THE SECOND FORM. 'bulk': how many values and letters a reading holds, each counted each time it is reached (what is shared counts as often as it is met; a slice's spare places count too). A statement '..UptoSaid' is the law's where the arguments, and the package variables that the reading takes, are together of bulk at most 1048576: NARROWER than '..Said'. Prove '..Said' where nothing that the law and all that it calls make is longer than what came in: it says more and counts as full. Else prove '..UptoSaid'. A law counts once. -/
mutual
def uptoBulk {H : Type} : DataW H → Nat
  | .lit (.string bytes) => bytes.length + 1
  | .lit _ => 1
  | .nil => 1
  | .ptr d => uptoBulk d + 1
  | .slice elems spare => uptoBulkAll elems + uptoBulkAll spare + 1
  | .agg parts => uptoBulkAll parts + 1
  | .iface _ d => uptoBulk d + 1
  | .map entries => uptoBulkEntries entries + 1
  | .held _ => 1
def uptoBulkAll {H : Type} : List (DataW H) → Nat
  | [] => 0
  | d :: r => uptoBulk d + uptoBulkAll r
def uptoBulkEntries {H : Type} : List (Lit × DataW H) → Nat
  | [] => 0
  | x :: r => uptoBulkEntry x + uptoBulkEntries r
def uptoBulkEntry {H : Type} : Lit × DataW H → Nat
  | (.string bytes, d) => bytes.length + uptoBulk d + 1
  | (_, d) => uptoBulk d + 1
 end
def uptoSmall : (H : Type) → List (DataW H) → Bool := fun _ ds => decide (uptoBulkAll ds ≤ 1048576)
def OpenSpec.upto (s : _root_.Go.ChangeSpec) : _root_.Go.OpenSpec := { _root_.Go.OpenSpec.ofChange s with cond := some uptoSmall }

/-- 'rollbooklaw01.FieldNumbers', WHERE WHAT IT READS IS OF BULK AT MOST 1048576: true; the input reads as it did. -/
def fieldNumbersUptoRow : OpenClaim := { program := "ythbofgfdgpidcaadoor", sum := "e9da012ec6aa7fe04f51e3ba1dd84dcd5590d78353614892faa4a269868cd25e", func := "rollbook/rollbooklaw01.FieldNumbers", spec := "fieldNumbers", inPlace := ["internal/bytealg.CountString", "internal/bytealg.IndexByteString", "internal/bytealg.IndexString", "internal/abi.NoEscape", "internal/bytealg.MakeNoZero"], named := ["internal/bytealg.MaxLen", "unicode/utf8.first", "unicode/utf8.acceptRanges"], apart := false, laid := [("unicode/utf8.acceptRanges", laid_unicode_utf8_acceptRanges), ("unicode/utf8.first", laid_unicode_utf8_first)], narrowed := true }
def FieldNumbersUptoSaid : Prop := fieldNumbersUptoRow.holds Tryd.pinned (OpenSpec.upto fieldNumbersSpec)

/-- 'rollbooklaw01.FieldOrder', WHERE WHAT IT READS IS OF BULK AT MOST 1048576: true; the input reads as it did. -/
def fieldOrderUptoRow : OpenClaim := { program := "ythbofgfdgpidcaadoor", sum := "e9da012ec6aa7fe04f51e3ba1dd84dcd5590d78353614892faa4a269868cd25e", func := "rollbook/rollbooklaw01.FieldOrder", spec := "fieldOrder", inPlace := ["internal/bytealg.CountString", "internal/bytealg.IndexByteString", "internal/bytealg.IndexString", "internal/abi.NoEscape", "internal/bytealg.MakeNoZero", "internal/bytealg.abigen_runtime_cmpstring"], named := ["internal/bytealg.MaxLen", "unicode/utf8.first", "unicode/utf8.acceptRanges"], apart := false, laid := [("unicode/utf8.acceptRanges", laid_unicode_utf8_acceptRanges), ("unicode/utf8.first", laid_unicode_utf8_first)], narrowed := true }
def FieldOrderUptoSaid : Prop := fieldOrderUptoRow.holds Tryd.pinned (OpenSpec.upto fieldOrderSpec)

/-- 'rollbooklaw01.FieldTuples', WHERE WHAT IT READS IS OF BULK AT MOST 1048576: true; the input reads as it did. -/
def fieldTuplesUptoRow : OpenClaim := { program := "ythbofgfdgpidcaadoor", sum := "e9da012ec6aa7fe04f51e3ba1dd84dcd5590d78353614892faa4a269868cd25e", func := "rollbook/rollbooklaw01.FieldTuples", spec := "fieldTuples", inPlace := ["internal/bytealg.CountString", "internal/bytealg.IndexByteString", "internal/bytealg.IndexString", "internal/abi.NoEscape", "internal/bytealg.MakeNoZero"], named := ["internal/bytealg.MaxLen", "unicode/utf8.first", "unicode/utf8.acceptRanges"], apart := false, laid := [("unicode/utf8.acceptRanges", laid_unicode_utf8_acceptRanges), ("unicode/utf8.first", laid_unicode_utf8_first)], narrowed := true }
def FieldTuplesUptoSaid : Prop := fieldTuplesUptoRow.holds Tryd.pinned (OpenSpec.upto fieldTuplesSpec)

/-- 'rollbooklaw01.FieldParts', WHERE WHAT IT READS IS OF BULK AT MOST 1048576: true; the input reads as it did. -/
def fieldPartsUptoRow : OpenClaim := { program := "ythbofgfdgpidcaadoor", sum := "e9da012ec6aa7fe04f51e3ba1dd84dcd5590d78353614892faa4a269868cd25e", func := "rollbook/rollbooklaw01.FieldParts", spec := "fieldParts", inPlace := ["internal/bytealg.CountString", "internal/bytealg.IndexByteString", "internal/bytealg.IndexString", "internal/abi.NoEscape", "internal/bytealg.MakeNoZero"], named := ["internal/bytealg.MaxLen", "unicode/utf8.first", "unicode/utf8.acceptRanges"], apart := false, laid := [("unicode/utf8.acceptRanges", laid_unicode_utf8_acceptRanges), ("unicode/utf8.first", laid_unicode_utf8_first)], narrowed := true }
def FieldPartsUptoSaid : Prop := fieldPartsUptoRow.holds Tryd.pinned (OpenSpec.upto fieldPartsSpec)

/-- 'rollbooklaw01.FieldTexts', WHERE WHAT IT READS IS OF BULK AT MOST 1048576: true; the input reads as it did. -/
def fieldTextsUptoRow : OpenClaim := { program := "ythbofgfdgpidcaadoor", sum := "e9da012ec6aa7fe04f51e3ba1dd84dcd5590d78353614892faa4a269868cd25e", func := "rollbook/rollbooklaw01.FieldTexts", spec := "fieldTexts", inPlace := ["internal/bytealg.CountString", "internal/bytealg.IndexByteString", "internal/bytealg.IndexString", "internal/abi.NoEscape", "internal/bytealg.MakeNoZero"], named := ["internal/bytealg.MaxLen", "unicode/utf8.first", "unicode/utf8.acceptRanges"], apart := false, laid := [("unicode/utf8.acceptRanges", laid_unicode_utf8_acceptRanges), ("unicode/utf8.first", laid_unicode_utf8_first)], narrowed := true }
def FieldTextsUptoSaid : Prop := fieldTextsUptoRow.holds Tryd.pinned (OpenSpec.upto fieldTextsSpec)

end Rows
end Go.Proofs.YthbofgfdgpidcaaDoor

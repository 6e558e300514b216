/-
  NARROWER THAN 'FOR EVERY INPUT', by the rows' own cells (each row's printed sentence says how): PrepRunes: laid · PrepReady: laid · PrepOnce: laid · PrepSame: laid · PrepBlanks: laid.
  DERIVED. THE GIVEN ROWS OF THIS SEAT. 5 by the template 'for every input the law returns true; each argument reads behind the call as it read before'; 0 by the template 'total and deterministic' (their statements: YtbadknkhedjfaaaDoorTotals.lean).
  GIVEN WITH THE SEED: the statements are not yours to turn. If you find one false, say at which input.
  Laid BY PROGRAM, IN A SANDBOX (cutbox-rows.mjs): the forced cells as the released guide's own fill.sh prints them over the translation 3961dfb7da01b722… (all of the seat's roots in one cut). By AI agents, Wed Nov 11 2026. No macro, syntax, notation, axiom, sorry.
-/
import Derived.Test.YtbadknkhedjfaaaDoorChecked
import GoSem.PinnedTables
import GoSem.Claim
import GoSem.ClaimJoined
import GoSem.ClaimMapViews
import Derived.JoinedTies
import Derived.KernelRfl
namespace Go.Proofs.YtbadknkhedjfaaaDoor
/- THE CELL 'sum', in the pinned program and in every row, IS THE sha256 OF THE DUMP (.gsa) THAT YtbadknkhedjfaaaDoorProg.lean LOADS. Nothing in Lean hashes anything: it is a label: what it is worth is what the hold of that sum in a sandbox is worth. -/
noncomputable def Tryd.pinned : Pinned := { name := "ytbadknkhedjfaaadoor", sum := "3961dfb7da01b72276c1d3441443f6ce443eaf69d9a18dcefe8c4619b1629057", checked := Tryd.checked }
namespace Rows
def none {H : Type} : Left H := { results := [], args := [] }

/- WHAT THE LISTED PACKAGE-LEVEL VARIABLES READ AS WHEN THE CALL BEGINS. Each datum BY PROGRAM (the guide's laid-datum.mjs) off the statement by which the dump's own 'gosem.cut.vars' lays the variable. In a bare row this is a premise. The card (YtbadknkhedjfaaaDoorCards.lean) ties it to the program's text. -/
def laid_unicode_utf8_acceptRanges {H : Type} : DataW H := .agg [.agg [.lit (.int .u8 128), .lit (.int .u8 191)], .agg [.lit (.int .u8 160), .lit (.int .u8 191)], .agg [.lit (.int .u8 128), .lit (.int .u8 159)], .agg [.lit (.int .u8 144), .lit (.int .u8 191)], .agg [.lit (.int .u8 128), .lit (.int .u8 143)], .agg [.lit (.int .u8 0), .lit (.int .u8 0)], .agg [.lit (.int .u8 0), .lit (.int .u8 0)], .agg [.lit (.int .u8 0), .lit (.int .u8 0)], .agg [.lit (.int .u8 0), .lit (.int .u8 0)], .agg [.lit (.int .u8 0), .lit (.int .u8 0)], .agg [.lit (.int .u8 0), .lit (.int .u8 0)], .agg [.lit (.int .u8 0), .lit (.int .u8 0)], .agg [.lit (.int .u8 0), .lit (.int .u8 0)], .agg [.lit (.int .u8 0), .lit (.int .u8 0)], .agg [.lit (.int .u8 0), .lit (.int .u8 0)], .agg [.lit (.int .u8 0), .lit (.int .u8 0)]]
/-- One of Go's own tables, pinned by name: the form's constant. -/
def laid_unicode_utf8_first : DataW Unit := Go.Pinned.utf8First

/-- 'rollbooklaw13.PrepRunes': WHATEVER THE INPUT: true; the input reads as it did. -/
def prepRunesSpec : ChangeSpec := { name := "prepRunes", fn := fun _ => fun
  | [d] => { results := [.lit (.bool true)], args := [d] }
  | _ => none }
def prepRunesRow : OpenClaim := { program := "ytbadknkhedjfaaadoor", sum := "3961dfb7da01b72276c1d3441443f6ce443eaf69d9a18dcefe8c4619b1629057", func := "rollbook/rollbooklaw13.PrepRunes", spec := "prepRunes", inPlace := ["internal/abi.NoEscape", "internal/bytealg.CountString", "internal/bytealg.IndexByteString", "internal/bytealg.IndexString", "internal/bytealg.MakeNoZero"], named := ["unicode/utf8.first", "unicode/utf8.acceptRanges", "internal/bytealg.MaxLen"], apart := false, laid := [("unicode/utf8.acceptRanges", laid_unicode_utf8_acceptRanges), ("unicode/utf8.first", laid_unicode_utf8_first)] }
def PrepRunesSaid : Prop := prepRunesRow.holds Tryd.pinned (OpenSpec.ofChange prepRunesSpec)

/-- ITS FALSE NEIGHBOUR: 'it returns false'. Refute it at one input. -/
def prepRunesWrong : ChangeSpec := { name := "prepRunes", fn := fun _ => fun
  | [d] => { results := [.lit (.bool false)], args := [d] }
  | _ => none }
def PrepRunesWrongFalsely : Prop := prepRunesRow.holds Tryd.pinned (OpenSpec.ofChange prepRunesWrong)

/-- 'rollbooklaw13.PrepReady': WHATEVER THE INPUT: true; the input reads as it did. -/
def prepReadySpec : ChangeSpec := { name := "prepReady", fn := fun _ => fun
  | [d1, d2] => { results := [.lit (.bool true)], args := [d1, d2] }
  | _ => none }
def prepReadyRow : OpenClaim := { program := "ytbadknkhedjfaaadoor", sum := "3961dfb7da01b72276c1d3441443f6ce443eaf69d9a18dcefe8c4619b1629057", func := "rollbook/rollbooklaw13.PrepReady", spec := "prepReady", inPlace := ["internal/abi.NoEscape", "internal/bytealg.CountString", "internal/bytealg.IndexByteString", "internal/bytealg.IndexString", "internal/bytealg.MakeNoZero"], named := ["unicode/utf8.first", "unicode/utf8.acceptRanges", "internal/bytealg.MaxLen"], apart := false, laid := [("unicode/utf8.acceptRanges", laid_unicode_utf8_acceptRanges), ("unicode/utf8.first", laid_unicode_utf8_first)] }
def PrepReadySaid : Prop := prepReadyRow.holds Tryd.pinned (OpenSpec.ofChange prepReadySpec)

/-- ITS FALSE NEIGHBOUR: 'it returns false'. Refute it at one input. -/
def prepReadyWrong : ChangeSpec := { name := "prepReady", fn := fun _ => fun
  | [d1, d2] => { results := [.lit (.bool false)], args := [d1, d2] }
  | _ => none }
def PrepReadyWrongFalsely : Prop := prepReadyRow.holds Tryd.pinned (OpenSpec.ofChange prepReadyWrong)

/-- 'rollbooklaw13.PrepOnce': WHATEVER THE INPUT: true; the input reads as it did. -/
def prepOnceSpec : ChangeSpec := { name := "prepOnce", fn := fun _ => fun
  | [d1, d2] => { results := [.lit (.bool true)], args := [d1, d2] }
  | _ => none }
def prepOnceRow : OpenClaim := { program := "ytbadknkhedjfaaadoor", sum := "3961dfb7da01b72276c1d3441443f6ce443eaf69d9a18dcefe8c4619b1629057", func := "rollbook/rollbooklaw13.PrepOnce", spec := "prepOnce", inPlace := ["internal/abi.NoEscape", "internal/bytealg.CountString", "internal/bytealg.IndexByteString", "internal/bytealg.IndexString", "internal/bytealg.MakeNoZero"], named := ["unicode/utf8.first", "unicode/utf8.acceptRanges", "internal/bytealg.MaxLen"], apart := false, laid := [("unicode/utf8.acceptRanges", laid_unicode_utf8_acceptRanges), ("unicode/utf8.first", laid_unicode_utf8_first)] }
def PrepOnceSaid : Prop := prepOnceRow.holds Tryd.pinned (OpenSpec.ofChange prepOnceSpec)

/-- ITS FALSE NEIGHBOUR: 'it returns false'. Refute it at one input. -/
def prepOnceWrong : ChangeSpec := { name := "prepOnce", fn := fun _ => fun
  | [d1, d2] => { results := [.lit (.bool false)], args := [d1, d2] }
  | _ => none }
def PrepOnceWrongFalsely : Prop := prepOnceRow.holds Tryd.pinned (OpenSpec.ofChange prepOnceWrong)

/-- 'rollbooklaw13.PrepSame': WHATEVER THE INPUT: true; the input reads as it did. -/
def prepSameSpec : ChangeSpec := { name := "prepSame", fn := fun _ => fun
  | [d1, d2, d3] => { results := [.lit (.bool true)], args := [d1, d2, d3] }
  | _ => none }
def prepSameRow : OpenClaim := { program := "ytbadknkhedjfaaadoor", sum := "3961dfb7da01b72276c1d3441443f6ce443eaf69d9a18dcefe8c4619b1629057", func := "rollbook/rollbooklaw13.PrepSame", spec := "prepSame", inPlace := ["internal/abi.NoEscape", "internal/bytealg.CountString", "internal/bytealg.IndexByteString", "internal/bytealg.IndexString", "internal/bytealg.MakeNoZero"], named := ["unicode/utf8.first", "unicode/utf8.acceptRanges", "internal/bytealg.MaxLen"], apart := false, laid := [("unicode/utf8.acceptRanges", laid_unicode_utf8_acceptRanges), ("unicode/utf8.first", laid_unicode_utf8_first)] }
def PrepSameSaid : Prop := prepSameRow.holds Tryd.pinned (OpenSpec.ofChange prepSameSpec)

/-- ITS FALSE NEIGHBOUR: 'it returns false'. Refute it at one input. -/
def prepSameWrong : ChangeSpec := { name := "prepSame", fn := fun _ => fun
  | [d1, d2, d3] => { results := [.lit (.bool false)], args := [d1, d2, d3] }
  | _ => none }
def PrepSameWrongFalsely : Prop := prepSameRow.holds Tryd.pinned (OpenSpec.ofChange prepSameWrong)

/-- 'rollbooklaw13.PrepBlanks': WHATEVER THE INPUT: true; the input reads as it did. -/
def prepBlanksSpec : ChangeSpec := { name := "prepBlanks", fn := fun _ => fun
  | [d1, d2, d3] => { results := [.lit (.bool true)], args := [d1, d2, d3] }
  | _ => none }
def prepBlanksRow : OpenClaim := { program := "ytbadknkhedjfaaadoor", sum := "3961dfb7da01b72276c1d3441443f6ce443eaf69d9a18dcefe8c4619b1629057", func := "rollbook/rollbooklaw13.PrepBlanks", spec := "prepBlanks", inPlace := ["internal/abi.NoEscape", "internal/bytealg.CountString", "internal/bytealg.IndexByteString", "internal/bytealg.IndexString", "internal/bytealg.MakeNoZero"], named := ["unicode/utf8.first", "unicode/utf8.acceptRanges", "internal/bytealg.MaxLen"], apart := false, laid := [("unicode/utf8.acceptRanges", laid_unicode_utf8_acceptRanges), ("unicode/utf8.first", laid_unicode_utf8_first)] }
def PrepBlanksSaid : Prop := prepBlanksRow.holds Tryd.pinned (OpenSpec.ofChange prepBlanksSpec)

/-- ITS FALSE NEIGHBOUR: 'it returns false'. Refute it at one input. -/
def prepBlanksWrong : ChangeSpec := { name := "prepBlanks", fn := fun _ => fun
  | [d1, d2, d3] => { results := [.lit (.bool false)], args := [d1, d2, d3] }
  | _ => none }
def PrepBlanksWrongFalsely : Prop := prepBlanksRow.holds Tryd.pinned (OpenSpec.ofChange prepBlanksWrong)

/- THE SECOND FORM. 'bulk': how many values and letters a reading holds, each counted each time it is reached (what is shared counts as often as it is met; a slice's spare places count too). A statement '..UptoSaid' is the law's where the arguments, and the package variables that the reading takes, are together of bulk at most 1048576: NARROWER than '..Said'. Prove '..Said' where nothing that the law and all that it calls make is longer than what came in: it says more and counts as full. Else prove '..UptoSaid'. A law counts once. -/
mutual
def uptoBulk {H : Type} : DataW H → Nat
  | .lit (.string bytes) => bytes.length + 1
  | .lit _ => 1
  | .nil => 1
  | .ptr d => uptoBulk d + 1
  | .slice elems spare => uptoBulkAll elems + uptoBulkAll spare + 1
  | .agg parts => uptoBulkAll parts + 1
  | .iface _ d => uptoBulk d + 1
  | .map entries => uptoBulkEntries entries + 1
  | .held _ => 1
def uptoBulkAll {H : Type} : List (DataW H) → Nat
  | [] => 0
  | d :: r => uptoBulk d + uptoBulkAll r
def uptoBulkEntries {H : Type} : List (Lit × DataW H) → Nat
  | [] => 0
  | x :: r => uptoBulkEntry x + uptoBulkEntries r
def uptoBulkEntry {H : Type} : Lit × DataW H → Nat
  | (.string bytes, d) => bytes.length + uptoBulk d + 1
  | (_, d) => uptoBulk d + 1
 end
def uptoSmall : (H : Type) → List (DataW H) → Bool := fun _ ds => decide (uptoBulkAll ds ≤ 1048576)
def OpenSpec.upto (s : _root_.Go.ChangeSpec) : _root_.Go.OpenSpec := { _root_.Go.OpenSpec.ofChange s with cond := some uptoSmall }

/-- 'rollbooklaw13.PrepRunes', WHERE WHAT IT READS IS OF BULK AT MOST 1048576: true; the input reads as it did. -/
def prepRunesUptoRow : OpenClaim := { program := "ytbadknkhedjfaaadoor", sum := "3961dfb7da01b72276c1d3441443f6ce443eaf69d9a18dcefe8c4619b1629057", func := "rollbook/rollbooklaw13.PrepRunes", spec := "prepRunes", inPlace := ["internal/abi.NoEscape", "internal/bytealg.CountString", "internal/bytealg.IndexByteString", "internal/bytealg.IndexString", "internal/bytealg.MakeNoZero"], named := ["unicode/utf8.first", "unicode/utf8.acceptRanges", "internal/bytealg.MaxLen"], apart := false, laid := [("unicode/utf8.acceptRanges", laid_unicode_utf8_acceptRanges), ("unicode/utf8.first", laid_unicode_utf8_first)], narrowed := true }
def PrepRunesUptoSaid : Prop := prepRunesUptoRow.holds Tryd.pinned (OpenSpec.upto prepRunesSpec)

/-- 'rollbooklaw13.PrepReady', WHERE WHAT IT READS IS OF BULK AT MOST 1048576: true; the input reads as it did. -/
def prepReadyUptoRow : OpenClaim := { program := "ytbadknkhedjfaaadoor", sum := "3961dfb7da01b72276c1d3441443f6ce443eaf69d9a18dcefe8c4619b1629057", func := "rollbook/rollbooklaw13.PrepReady", spec := "prepReady", inPlace := ["internal/abi.NoEscape", "internal/bytealg.CountString", "internal/bytealg.IndexByteString", "internal/bytealg.IndexString", "internal/bytealg.MakeNoZero"], named := ["unicode/utf8.first", "unicode/utf8.acceptRanges", "internal/bytealg.MaxLen"], apart := false, laid := [("unicode/utf8.acceptRanges", laid_unicode_utf8_acceptRanges), ("unicode/utf8.first", laid_unicode_utf8_first)], narrowed := true }
def PrepReadyUptoSaid : Prop := prepReadyUptoRow.holds Tryd.pinned (OpenSpec.upto prepReadySpec)

/-- 'rollbooklaw13.PrepOnce', WHERE WHAT IT READS IS OF BULK AT MOST 1048576: true; the input reads as it did. -/
def prepOnceUptoRow : OpenClaim := { program := "ytbadknkhedjfaaadoor", sum := "3961dfb7da01b72276c1d3441443f6ce443eaf69d9a18dcefe8c4619b1629057", func := "rollbook/rollbooklaw13.PrepOnce", spec := "prepOnce", inPlace := ["internal/abi.NoEscape", "internal/bytealg.CountString", "internal/bytealg.IndexByteString", "internal/bytealg.IndexString", "internal/bytealg.MakeNoZero"], named := ["unicode/utf8.first", "unicode/utf8.acceptRanges", "internal/bytealg.MaxLen"], apart := false, laid := [("unicode/utf8.acceptRanges", laid_unicode_utf8_acceptRanges), ("unicode/utf8.first", laid_unicode_utf8_first)], narrowed := true }
def PrepOnceUptoSaid : Prop := prepOnceUptoRow.holds Tryd.pinned (OpenSpec.upto prepOnceSpec)

/-- 'rollbooklaw13.PrepSame', WHERE WHAT IT READS IS OF BULK AT MOST 1048576: true; the input reads as it did. -/
def prepSameUptoRow : OpenClaim := { program := "ytbadknkhedjfaaadoor", sum := "3961dfb7da01b72276c1d3441443f6ce443eaf69d9a18dcefe8c4619b1629057", func := "rollbook/rollbooklaw13.PrepSame", spec := "prepSame", inPlace := ["internal/abi.NoEscape", "internal/bytealg.CountString", "internal/bytealg.IndexByteString", "internal/bytealg.IndexString", "internal/bytealg.MakeNoZero"], named := ["unicode/utf8.first", "unicode/utf8.acceptRanges", "internal/bytealg.MaxLen"], apart := false, laid := [("unicode/utf8.acceptRanges", laid_unicode_utf8_acceptRanges), ("unicode/utf8.first", laid_unicode_utf8_first)], narrowed := true }
def PrepSameUptoSaid : Prop := prepSameUptoRow.holds Tryd.pinned (OpenSpec.upto prepSameSpec)

/-- 'rollbooklaw13.PrepBlanks', WHERE WHAT IT READS IS OF BULK AT MOST 1048576: true; the input reads as it did. -/
def prepBlanksUptoRow : OpenClaim := { program := "ytbadknkhedjfaaadoor", sum := "3961dfb7da01b72276c1d3441443f6ce443eaf69d9a18dcefe8c4619b1629057", func := "rollbook/rollbooklaw13.PrepBlanks", spec := "prepBlanks", inPlace := ["internal/abi.NoEscape", "internal/bytealg.CountString", "internal/bytealg.IndexByteString", "internal/bytealg.IndexString", "internal/bytealg.MakeNoZero"], named := ["unicode/utf8.first", "unicode/utf8.acceptRanges", "internal/bytealg.MaxLen"], apart := false, laid := [("unicode/utf8.acceptRanges", laid_unicode_utf8_acceptRanges), ("unicode/utf8.first", laid_unicode_utf8_first)], narrowed := true }
def PrepBlanksUptoSaid : Prop := prepBlanksUptoRow.holds Tryd.pinned (OpenSpec.upto prepBlanksSpec)

end Rows
end Go.Proofs.YtbadknkhedjfaaaDoor

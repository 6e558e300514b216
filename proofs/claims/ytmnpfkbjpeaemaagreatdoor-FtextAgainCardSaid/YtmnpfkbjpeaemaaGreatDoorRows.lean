/-
  NARROWER THAN 'FOR EVERY INPUT', by the rows' own cells (each row's printed sentence says how): EntryReads: laid · SchemaChecks: laid · SchemaClasses: laid · SchemaLess: laid · LdifBuilds: laid · LdifBack: laid · FilterRules: loops, laid · FilterAsks: loops, laid · FilterRight: loops, laid · FtextAgain: laid.
  DERIVED. THE GIVEN ROWS OF THIS SEAT. 10 by the template 'for every input the law returns true; each argument reads behind the call as it read before'; 0 by the template 'total and deterministic' (their statements: YtmnpfkbjpeaemaaGreatDoorTotals.lean).
  GIVEN WITH THE SEED: the statements are not yours to turn. If you find one false, say at which input.
  Laid BY PROGRAM, IN A SANDBOX (cutbox-rows.mjs): the forced cells as the released guide's own fill.sh prints them over the translation 37382df096704262… (all of the seat's roots in one cut). By AI agents, Wed Nov 11 2026. No macro, syntax, notation, axiom, sorry.
-/
import Derived.Test.YtmnpfkbjpeaemaaGreatDoorChecked
import GoSem.PinnedTables
import GoSem.Claim
import GoSem.ClaimJoined
import GoSem.ClaimMapViews
import Derived.JoinedTies
import Derived.KernelRfl
namespace Go.Proofs.YtmnpfkbjpeaemaaGreatDoor
/- THE CELL 'sum', in the pinned program and in every row, IS THE sha256 OF THE DUMP (.gsa) THAT YtmnpfkbjpeaemaaGreatDoorProg.lean LOADS. Nothing in Lean hashes anything: it is a label: what it is worth is what the hold of that sum in a sandbox is worth. -/
noncomputable def Tryz.pinned : Pinned := { name := "ytmnpfkbjpeaemaagreatdoor", sum := "37382df0967042628ce5a543f19e7dd2c57783e6094d8d5929c5091e6edd1a81", checked := Tryz.checked }
namespace Rows
def none {H : Type} : Left H := { results := [], args := [] }

/- WHAT THE LISTED PACKAGE-LEVEL VARIABLES READ AS WHEN THE CALL BEGINS. Each datum BY PROGRAM (the guide's laid-datum.mjs) off the statement by which the dump's own 'gosem.cut.vars' lays the variable. In a bare row this is a premise. The card (YtmnpfkbjpeaemaaGreatDoorCards.lean) ties it to the program's text. -/
def laid_unicode_utf8_acceptRanges {H : Type} : DataW H := .agg [.agg [.lit (.int .u8 128), .lit (.int .u8 191)], .agg [.lit (.int .u8 160), .lit (.int .u8 191)], .agg [.lit (.int .u8 128), .lit (.int .u8 159)], .agg [.lit (.int .u8 144), .lit (.int .u8 191)], .agg [.lit (.int .u8 128), .lit (.int .u8 143)], .agg [.lit (.int .u8 0), .lit (.int .u8 0)], .agg [.lit (.int .u8 0), .lit (.int .u8 0)], .agg [.lit (.int .u8 0), .lit (.int .u8 0)], .agg [.lit (.int .u8 0), .lit (.int .u8 0)], .agg [.lit (.int .u8 0), .lit (.int .u8 0)], .agg [.lit (.int .u8 0), .lit (.int .u8 0)], .agg [.lit (.int .u8 0), .lit (.int .u8 0)], .agg [.lit (.int .u8 0), .lit (.int .u8 0)], .agg [.lit (.int .u8 0), .lit (.int .u8 0)], .agg [.lit (.int .u8 0), .lit (.int .u8 0)], .agg [.lit (.int .u8 0), .lit (.int .u8 0)]]
def laid_rollbook_attr_types {H : Type} : DataW H := .agg [.agg [.lit (.string [99, 110]), .lit (.int .i64 1), .lit (.bool false)], .agg [.lit (.string [100, 99]), .lit (.int .i64 1), .lit (.bool false)], .agg [.lit (.string [100, 101, 115, 99, 114, 105, 112, 116, 105, 111, 110]), .lit (.int .i64 1), .lit (.bool false)], .agg [.lit (.string [101, 110, 97, 98, 108, 101, 100]), .lit (.int .i64 5), .lit (.bool true)], .agg [.lit (.string [108]), .lit (.int .i64 1), .lit (.bool false)], .agg [.lit (.string [108, 105, 109, 105, 116]), .lit (.int .i64 4), .lit (.bool false)], .agg [.lit (.string [109, 97, 105, 108]), .lit (.int .i64 1), .lit (.bool false)], .agg [.lit (.string [109, 101, 109, 98, 101, 114]), .lit (.int .i64 6), .lit (.bool false)], .agg [.lit (.string [111]), .lit (.int .i64 1), .lit (.bool false)], .agg [.lit (.string [111, 98, 106, 101, 99, 116, 99, 108, 97, 115, 115]), .lit (.int .i64 1), .lit (.bool false)], .agg [.lit (.string [111, 117]), .lit (.int .i64 1), .lit (.bool false)], .agg [.lit (.string [112, 104, 111, 116, 111]), .lit (.int .i64 3), .lit (.bool false)], .agg [.lit (.string [115, 101, 101, 97, 108, 115, 111]), .lit (.int .i64 6), .lit (.bool false)], .agg [.lit (.string [115, 101, 114, 105, 97, 108, 110, 117, 109, 98, 101, 114]), .lit (.int .i64 2), .lit (.bool false)], .agg [.lit (.string [115, 110]), .lit (.int .i64 1), .lit (.bool false)], .agg [.lit (.string [116, 101, 108, 101, 112, 104, 111, 110, 101, 110, 117, 109, 98, 101, 114]), .lit (.int .i64 7), .lit (.bool false)], .agg [.lit (.string [116, 105, 116, 108, 101]), .lit (.int .i64 1), .lit (.bool false)], .agg [.lit (.string [117, 105, 100]), .lit (.int .i64 1), .lit (.bool false)], .agg [.lit (.string [117, 105, 100, 110, 117, 109, 98, 101, 114]), .lit (.int .i64 4), .lit (.bool true)], .agg [.lit (.string [117, 115, 101, 114, 112, 97, 115, 115, 119, 111, 114, 100]), .lit (.int .i64 3), .lit (.bool false)]]
/-- One of Go's own tables, pinned by name: the form's constant. -/
def laid_unicode_utf8_first : DataW Unit := Go.Pinned.utf8First
def laid_math_bits_deBruijn32tab {H : Type} : DataW H := .agg [.lit (.int .u8 0), .lit (.int .u8 1), .lit (.int .u8 28), .lit (.int .u8 2), .lit (.int .u8 29), .lit (.int .u8 14), .lit (.int .u8 24), .lit (.int .u8 3), .lit (.int .u8 30), .lit (.int .u8 22), .lit (.int .u8 20), .lit (.int .u8 15), .lit (.int .u8 25), .lit (.int .u8 17), .lit (.int .u8 4), .lit (.int .u8 8), .lit (.int .u8 31), .lit (.int .u8 27), .lit (.int .u8 13), .lit (.int .u8 23), .lit (.int .u8 21), .lit (.int .u8 19), .lit (.int .u8 16), .lit (.int .u8 7), .lit (.int .u8 26), .lit (.int .u8 12), .lit (.int .u8 18), .lit (.int .u8 6), .lit (.int .u8 11), .lit (.int .u8 5), .lit (.int .u8 10), .lit (.int .u8 9)]
def laid_math_bits_deBruijn64tab {H : Type} : DataW H := .agg [.lit (.int .u8 0), .lit (.int .u8 1), .lit (.int .u8 56), .lit (.int .u8 2), .lit (.int .u8 57), .lit (.int .u8 49), .lit (.int .u8 28), .lit (.int .u8 3), .lit (.int .u8 61), .lit (.int .u8 58), .lit (.int .u8 42), .lit (.int .u8 50), .lit (.int .u8 38), .lit (.int .u8 29), .lit (.int .u8 17), .lit (.int .u8 4), .lit (.int .u8 62), .lit (.int .u8 47), .lit (.int .u8 59), .lit (.int .u8 36), .lit (.int .u8 45), .lit (.int .u8 43), .lit (.int .u8 51), .lit (.int .u8 22), .lit (.int .u8 53), .lit (.int .u8 39), .lit (.int .u8 33), .lit (.int .u8 30), .lit (.int .u8 24), .lit (.int .u8 18), .lit (.int .u8 12), .lit (.int .u8 5), .lit (.int .u8 63), .lit (.int .u8 55), .lit (.int .u8 48), .lit (.int .u8 27), .lit (.int .u8 60), .lit (.int .u8 41), .lit (.int .u8 37), .lit (.int .u8 16), .lit (.int .u8 46), .lit (.int .u8 35), .lit (.int .u8 44), .lit (.int .u8 21), .lit (.int .u8 52), .lit (.int .u8 32), .lit (.int .u8 23), .lit (.int .u8 11), .lit (.int .u8 54), .lit (.int .u8 26), .lit (.int .u8 40), .lit (.int .u8 15), .lit (.int .u8 34), .lit (.int .u8 20), .lit (.int .u8 31), .lit (.int .u8 10), .lit (.int .u8 25), .lit (.int .u8 14), .lit (.int .u8 19), .lit (.int .u8 9), .lit (.int .u8 13), .lit (.int .u8 8), .lit (.int .u8 7), .lit (.int .u8 6)]
def laid_internal_strconv_uint64pow10 {H : Type} : DataW H := .agg [.lit (.int .u64 1), .lit (.int .u64 10), .lit (.int .u64 100), .lit (.int .u64 1000), .lit (.int .u64 10000), .lit (.int .u64 100000), .lit (.int .u64 1000000), .lit (.int .u64 10000000), .lit (.int .u64 100000000), .lit (.int .u64 1000000000), .lit (.int .u64 10000000000), .lit (.int .u64 100000000000), .lit (.int .u64 1000000000000), .lit (.int .u64 10000000000000), .lit (.int .u64 100000000000000), .lit (.int .u64 1000000000000000), .lit (.int .u64 10000000000000000), .lit (.int .u64 100000000000000000), .lit (.int .u64 1000000000000000000), .lit (.int .u64 10000000000000000000)]
def laid_strconv_ErrRange {H : Type} : DataW H := .iface "*errors.errorString" (.ptr (.agg [.lit (.string [118, 97, 108, 117, 101, 32, 111, 117, 116, 32, 111, 102, 32, 114, 97, 110, 103, 101])]))
def laid_strconv_ErrSyntax {H : Type} : DataW H := .iface "*errors.errorString" (.ptr (.agg [.lit (.string [105, 110, 118, 97, 108, 105, 100, 32, 115, 121, 110, 116, 97, 120])]))

/-- 'rollbooklaw17.EntryReads': WHATEVER THE INPUT: true; the input reads as it did. -/
def entryReadsSpec : ChangeSpec := { name := "entryReads", fn := fun _ => fun
  | [d] => { results := [.lit (.bool true)], args := [d] }
  | _ => none }
def entryReadsRow : OpenClaim := { program := "ytmnpfkbjpeaemaagreatdoor", sum := "37382df0967042628ce5a543f19e7dd2c57783e6094d8d5929c5091e6edd1a81", func := "rollbook/rollbooklaw17.EntryReads", spec := "entryReads", inPlace := ["internal/abi.NoEscape", "internal/bytealg.CountString", "internal/bytealg.IndexByteString", "internal/bytealg.IndexString", "internal/bytealg.MakeNoZero"], unfollowed := true, recurses := true, named := ["unicode/utf8.first", "unicode/utf8.acceptRanges", "internal/bytealg.MaxLen", "rollbook/attr.types"], apart := false, laid := [("unicode/utf8.acceptRanges", laid_unicode_utf8_acceptRanges), ("rollbook/attr.types", laid_rollbook_attr_types), ("unicode/utf8.first", laid_unicode_utf8_first)] }
def EntryReadsSaid : Prop := entryReadsRow.holds Tryz.pinned (OpenSpec.ofChange entryReadsSpec)

/-- ITS FALSE NEIGHBOUR: 'it returns false'. Refute it at one input. -/
def entryReadsWrong : ChangeSpec := { name := "entryReads", fn := fun _ => fun
  | [d] => { results := [.lit (.bool false)], args := [d] }
  | _ => none }
def EntryReadsWrongFalsely : Prop := entryReadsRow.holds Tryz.pinned (OpenSpec.ofChange entryReadsWrong)

/-- 'rollbooklaw18.SchemaChecks': WHATEVER THE INPUT: true; the input reads as it did. -/
def schemaChecksSpec : ChangeSpec := { name := "schemaChecks", fn := fun _ => fun
  | [d] => { results := [.lit (.bool true)], args := [d] }
  | _ => none }
def schemaChecksRow : OpenClaim := { program := "ytmnpfkbjpeaemaagreatdoor", sum := "37382df0967042628ce5a543f19e7dd2c57783e6094d8d5929c5091e6edd1a81", func := "rollbook/rollbooklaw18.SchemaChecks", spec := "schemaChecks", inPlace := ["internal/abi.NoEscape", "internal/bytealg.CountString", "internal/bytealg.IndexByteString", "internal/bytealg.IndexString", "internal/bytealg.MakeNoZero"], unfollowed := true, recurses := true, named := ["unicode/utf8.first", "unicode/utf8.acceptRanges", "internal/bytealg.MaxLen", "rollbook/attr.types"], apart := false, laid := [("unicode/utf8.acceptRanges", laid_unicode_utf8_acceptRanges), ("rollbook/attr.types", laid_rollbook_attr_types), ("unicode/utf8.first", laid_unicode_utf8_first)] }
def SchemaChecksSaid : Prop := schemaChecksRow.holds Tryz.pinned (OpenSpec.ofChange schemaChecksSpec)

/-- ITS FALSE NEIGHBOUR: 'it returns false'. Refute it at one input. -/
def schemaChecksWrong : ChangeSpec := { name := "schemaChecks", fn := fun _ => fun
  | [d] => { results := [.lit (.bool false)], args := [d] }
  | _ => none }
def SchemaChecksWrongFalsely : Prop := schemaChecksRow.holds Tryz.pinned (OpenSpec.ofChange schemaChecksWrong)

/-- 'rollbooklaw18.SchemaClasses': WHATEVER THE INPUT: true; the input reads as it did. -/
def schemaClassesSpec : ChangeSpec := { name := "schemaClasses", fn := fun _ => fun
  | [d] => { results := [.lit (.bool true)], args := [d] }
  | _ => none }
def schemaClassesRow : OpenClaim := { program := "ytmnpfkbjpeaemaagreatdoor", sum := "37382df0967042628ce5a543f19e7dd2c57783e6094d8d5929c5091e6edd1a81", func := "rollbook/rollbooklaw18.SchemaClasses", spec := "schemaClasses", inPlace := ["internal/abi.NoEscape", "internal/bytealg.CountString", "internal/bytealg.IndexByteString", "internal/bytealg.IndexString", "internal/bytealg.MakeNoZero"], unfollowed := true, recurses := true, named := ["unicode/utf8.first", "unicode/utf8.acceptRanges", "internal/bytealg.MaxLen", "rollbook/attr.types"], apart := false, laid := [("unicode/utf8.acceptRanges", laid_unicode_utf8_acceptRanges), ("rollbook/attr.types", laid_rollbook_attr_types), ("unicode/utf8.first", laid_unicode_utf8_first)] }
def SchemaClassesSaid : Prop := schemaClassesRow.holds Tryz.pinned (OpenSpec.ofChange schemaClassesSpec)

/-- ITS FALSE NEIGHBOUR: 'it returns false'. Refute it at one input. -/
def schemaClassesWrong : ChangeSpec := { name := "schemaClasses", fn := fun _ => fun
  | [d] => { results := [.lit (.bool false)], args := [d] }
  | _ => none }
def SchemaClassesWrongFalsely : Prop := schemaClassesRow.holds Tryz.pinned (OpenSpec.ofChange schemaClassesWrong)

/-- 'rollbooklaw18.SchemaLess': WHATEVER THE INPUT: true; the input reads as it did. -/
def schemaLessSpec : ChangeSpec := { name := "schemaLess", fn := fun _ => fun
  | [d1, d2] => { results := [.lit (.bool true)], args := [d1, d2] }
  | _ => none }
def schemaLessRow : OpenClaim := { program := "ytmnpfkbjpeaemaagreatdoor", sum := "37382df0967042628ce5a543f19e7dd2c57783e6094d8d5929c5091e6edd1a81", func := "rollbook/rollbooklaw18.SchemaLess", spec := "schemaLess", inPlace := ["internal/abi.NoEscape", "internal/bytealg.CountString", "internal/bytealg.IndexByteString", "internal/bytealg.IndexString", "internal/bytealg.MakeNoZero"], unfollowed := true, recurses := true, named := ["unicode/utf8.first", "unicode/utf8.acceptRanges", "internal/bytealg.MaxLen", "rollbook/attr.types"], apart := false, laid := [("unicode/utf8.acceptRanges", laid_unicode_utf8_acceptRanges), ("rollbook/attr.types", laid_rollbook_attr_types), ("unicode/utf8.first", laid_unicode_utf8_first)] }
def SchemaLessSaid : Prop := schemaLessRow.holds Tryz.pinned (OpenSpec.ofChange schemaLessSpec)

/-- ITS FALSE NEIGHBOUR: 'it returns false'. Refute it at one input. -/
def schemaLessWrong : ChangeSpec := { name := "schemaLess", fn := fun _ => fun
  | [d1, d2] => { results := [.lit (.bool false)], args := [d1, d2] }
  | _ => none }
def SchemaLessWrongFalsely : Prop := schemaLessRow.holds Tryz.pinned (OpenSpec.ofChange schemaLessWrong)

/-- 'rollbooklaw21.LdifBuilds': WHATEVER THE INPUT: true; the input reads as it did. -/
def ldifBuildsSpec : ChangeSpec := { name := "ldifBuilds", fn := fun _ => fun
  | [d1, d2, d3] => { results := [.lit (.bool true)], args := [d1, d2, d3] }
  | _ => none }
def ldifBuildsRow : OpenClaim := { program := "ytmnpfkbjpeaemaagreatdoor", sum := "37382df0967042628ce5a543f19e7dd2c57783e6094d8d5929c5091e6edd1a81", func := "rollbook/rollbooklaw21.LdifBuilds", spec := "ldifBuilds", inPlace := ["internal/bytealg.IndexByteString", "internal/bytealg.IndexString", "internal/abi.NoEscape", "internal/bytealg.MakeNoZero", "internal/bytealg.CountString"], unfollowed := true, recurses := true, named := ["internal/bytealg.MaxLen", "unicode/utf8.first", "unicode/utf8.acceptRanges", "rollbook/attr.types"], apart := false, laid := [("unicode/utf8.acceptRanges", laid_unicode_utf8_acceptRanges), ("rollbook/attr.types", laid_rollbook_attr_types), ("unicode/utf8.first", laid_unicode_utf8_first)] }
def LdifBuildsSaid : Prop := ldifBuildsRow.holds Tryz.pinned (OpenSpec.ofChange ldifBuildsSpec)

/-- ITS FALSE NEIGHBOUR: 'it returns false'. Refute it at one input. -/
def ldifBuildsWrong : ChangeSpec := { name := "ldifBuilds", fn := fun _ => fun
  | [d1, d2, d3] => { results := [.lit (.bool false)], args := [d1, d2, d3] }
  | _ => none }
def LdifBuildsWrongFalsely : Prop := ldifBuildsRow.holds Tryz.pinned (OpenSpec.ofChange ldifBuildsWrong)

/-- 'rollbooklaw21.LdifBack': WHATEVER THE INPUT: true; the input reads as it did. -/
def ldifBackSpec : ChangeSpec := { name := "ldifBack", fn := fun _ => fun
  | [d1, d2] => { results := [.lit (.bool true)], args := [d1, d2] }
  | _ => none }
def ldifBackRow : OpenClaim := { program := "ytmnpfkbjpeaemaagreatdoor", sum := "37382df0967042628ce5a543f19e7dd2c57783e6094d8d5929c5091e6edd1a81", func := "rollbook/rollbooklaw21.LdifBack", spec := "ldifBack", inPlace := ["internal/bytealg.IndexByteString", "internal/bytealg.IndexString", "internal/abi.NoEscape", "internal/bytealg.CountString", "internal/bytealg.MakeNoZero"], unfollowed := true, recurses := true, named := ["internal/bytealg.MaxLen", "unicode/utf8.first", "unicode/utf8.acceptRanges", "rollbook/attr.types"], apart := false, laid := [("unicode/utf8.acceptRanges", laid_unicode_utf8_acceptRanges), ("rollbook/attr.types", laid_rollbook_attr_types), ("unicode/utf8.first", laid_unicode_utf8_first)] }
def LdifBackSaid : Prop := ldifBackRow.holds Tryz.pinned (OpenSpec.ofChange ldifBackSpec)

/-- ITS FALSE NEIGHBOUR: 'it returns false'. Refute it at one input. -/
def ldifBackWrong : ChangeSpec := { name := "ldifBack", fn := fun _ => fun
  | [d1, d2] => { results := [.lit (.bool false)], args := [d1, d2] }
  | _ => none }
def LdifBackWrongFalsely : Prop := ldifBackRow.holds Tryz.pinned (OpenSpec.ofChange ldifBackWrong)

/-- 'rollbooklaw19.FilterRules': WHATEVER THE INPUT: true; the input reads as it did. -/
def filterRulesSpec : ChangeSpec := { name := "filterRules", fn := fun _ => fun
  | [d1, d2, d3] => { results := [.lit (.bool true)], args := [d1, d2, d3] }
  | _ => none }
def filterRulesRow : OpenClaim := { program := "ytmnpfkbjpeaemaagreatdoor", sum := "37382df0967042628ce5a543f19e7dd2c57783e6094d8d5929c5091e6edd1a81", func := "rollbook/rollbooklaw19.FilterRules", spec := "filterRules", inPlace := ["internal/abi.NoEscape", "internal/bytealg.CountString", "internal/bytealg.IndexByteString", "internal/bytealg.IndexString", "internal/bytealg.MakeNoZero", "internal/bytealg.abigen_runtime_cmpstring"], unfollowed := true, recurses := true, named := ["rollbook/attr.types", "unicode/utf8.first", "unicode/utf8.acceptRanges", "internal/bytealg.MaxLen", "strconv.ErrSyntax", "strconv.ErrRange", "internal/strconv.uint64pow10", "math/bits.deBruijn32tab", "math/bits.deBruijn64tab"], loops := true, apart := false, laid := [("math/bits.deBruijn32tab", laid_math_bits_deBruijn32tab), ("math/bits.deBruijn64tab", laid_math_bits_deBruijn64tab), ("internal/strconv.uint64pow10", laid_internal_strconv_uint64pow10), ("unicode/utf8.acceptRanges", laid_unicode_utf8_acceptRanges), ("strconv.ErrRange", laid_strconv_ErrRange), ("strconv.ErrSyntax", laid_strconv_ErrSyntax), ("rollbook/attr.types", laid_rollbook_attr_types), ("unicode/utf8.first", laid_unicode_utf8_first)] }
def FilterRulesSaid : Prop := filterRulesRow.holds Tryz.pinned (OpenSpec.ofChange filterRulesSpec)

/-- ITS FALSE NEIGHBOUR: 'it returns false'. Refute it at one input. -/
def filterRulesWrong : ChangeSpec := { name := "filterRules", fn := fun _ => fun
  | [d1, d2, d3] => { results := [.lit (.bool false)], args := [d1, d2, d3] }
  | _ => none }
def FilterRulesWrongFalsely : Prop := filterRulesRow.holds Tryz.pinned (OpenSpec.ofChange filterRulesWrong)

/-- 'rollbooklaw19.FilterAsks': WHATEVER THE INPUT: true; the input reads as it did. -/
def filterAsksSpec : ChangeSpec := { name := "filterAsks", fn := fun _ => fun
  | [d1, d2] => { results := [.lit (.bool true)], args := [d1, d2] }
  | _ => none }
def filterAsksRow : OpenClaim := { program := "ytmnpfkbjpeaemaagreatdoor", sum := "37382df0967042628ce5a543f19e7dd2c57783e6094d8d5929c5091e6edd1a81", func := "rollbook/rollbooklaw19.FilterAsks", spec := "filterAsks", inPlace := ["internal/abi.NoEscape", "internal/bytealg.CountString", "internal/bytealg.IndexByteString", "internal/bytealg.IndexString", "internal/bytealg.MakeNoZero", "internal/bytealg.abigen_runtime_cmpstring"], unfollowed := true, recurses := true, named := ["rollbook/attr.types", "unicode/utf8.first", "unicode/utf8.acceptRanges", "internal/bytealg.MaxLen", "strconv.ErrSyntax", "strconv.ErrRange", "internal/strconv.uint64pow10", "math/bits.deBruijn32tab", "math/bits.deBruijn64tab"], loops := true, apart := false, laid := [("math/bits.deBruijn32tab", laid_math_bits_deBruijn32tab), ("math/bits.deBruijn64tab", laid_math_bits_deBruijn64tab), ("internal/strconv.uint64pow10", laid_internal_strconv_uint64pow10), ("unicode/utf8.acceptRanges", laid_unicode_utf8_acceptRanges), ("strconv.ErrRange", laid_strconv_ErrRange), ("strconv.ErrSyntax", laid_strconv_ErrSyntax), ("rollbook/attr.types", laid_rollbook_attr_types), ("unicode/utf8.first", laid_unicode_utf8_first)] }
def FilterAsksSaid : Prop := filterAsksRow.holds Tryz.pinned (OpenSpec.ofChange filterAsksSpec)

/-- ITS FALSE NEIGHBOUR: 'it returns false'. Refute it at one input. -/
def filterAsksWrong : ChangeSpec := { name := "filterAsks", fn := fun _ => fun
  | [d1, d2] => { results := [.lit (.bool false)], args := [d1, d2] }
  | _ => none }
def FilterAsksWrongFalsely : Prop := filterAsksRow.holds Tryz.pinned (OpenSpec.ofChange filterAsksWrong)

/-- 'rollbooklaw19.FilterRight': WHATEVER THE INPUT: true; the input reads as it did. -/
def filterRightSpec : ChangeSpec := { name := "filterRight", fn := fun _ => fun
  | [d] => { results := [.lit (.bool true)], args := [d] }
  | _ => none }
def filterRightRow : OpenClaim := { program := "ytmnpfkbjpeaemaagreatdoor", sum := "37382df0967042628ce5a543f19e7dd2c57783e6094d8d5929c5091e6edd1a81", func := "rollbook/rollbooklaw19.FilterRight", spec := "filterRight", inPlace := ["internal/abi.NoEscape", "internal/bytealg.CountString", "internal/bytealg.IndexByteString", "internal/bytealg.IndexString", "internal/bytealg.MakeNoZero", "internal/bytealg.abigen_runtime_cmpstring"], unfollowed := true, recurses := true, named := ["rollbook/attr.types", "unicode/utf8.first", "unicode/utf8.acceptRanges", "internal/bytealg.MaxLen", "strconv.ErrSyntax", "strconv.ErrRange", "internal/strconv.uint64pow10", "math/bits.deBruijn32tab", "math/bits.deBruijn64tab"], loops := true, apart := false, laid := [("math/bits.deBruijn32tab", laid_math_bits_deBruijn32tab), ("math/bits.deBruijn64tab", laid_math_bits_deBruijn64tab), ("internal/strconv.uint64pow10", laid_internal_strconv_uint64pow10), ("unicode/utf8.acceptRanges", laid_unicode_utf8_acceptRanges), ("strconv.ErrRange", laid_strconv_ErrRange), ("strconv.ErrSyntax", laid_strconv_ErrSyntax), ("rollbook/attr.types", laid_rollbook_attr_types), ("unicode/utf8.first", laid_unicode_utf8_first)] }
def FilterRightSaid : Prop := filterRightRow.holds Tryz.pinned (OpenSpec.ofChange filterRightSpec)

/-- ITS FALSE NEIGHBOUR: 'it returns false'. Refute it at one input. -/
def filterRightWrong : ChangeSpec := { name := "filterRight", fn := fun _ => fun
  | [d] => { results := [.lit (.bool false)], args := [d] }
  | _ => none }
def FilterRightWrongFalsely : Prop := filterRightRow.holds Tryz.pinned (OpenSpec.ofChange filterRightWrong)

/-- 'rollbooklaw20.FtextAgain': WHATEVER THE INPUT: true; the input reads as it did. -/
def ftextAgainSpec : ChangeSpec := { name := "ftextAgain", fn := fun _ => fun
  | [d1, d2] => { results := [.lit (.bool true)], args := [d1, d2] }
  | _ => none }
def ftextAgainRow : OpenClaim := { program := "ytmnpfkbjpeaemaagreatdoor", sum := "37382df0967042628ce5a543f19e7dd2c57783e6094d8d5929c5091e6edd1a81", func := "rollbook/rollbooklaw20.FtextAgain", spec := "ftextAgain", inPlace := ["internal/bytealg.IndexByteString", "internal/abi.NoEscape", "internal/bytealg.CountString", "internal/bytealg.IndexString", "internal/bytealg.MakeNoZero", "internal/bytealg.abigen_runtime_cmpstring"], unfollowed := true, recurses := true, named := ["rollbook/attr.types", "unicode/utf8.first", "unicode/utf8.acceptRanges", "internal/bytealg.MaxLen", "strconv.ErrSyntax", "strconv.ErrRange", "internal/strconv.uint64pow10", "math/bits.deBruijn32tab", "math/bits.deBruijn64tab"], apart := false, laid := [("math/bits.deBruijn32tab", laid_math_bits_deBruijn32tab), ("math/bits.deBruijn64tab", laid_math_bits_deBruijn64tab), ("internal/strconv.uint64pow10", laid_internal_strconv_uint64pow10), ("unicode/utf8.acceptRanges", laid_unicode_utf8_acceptRanges), ("strconv.ErrRange", laid_strconv_ErrRange), ("strconv.ErrSyntax", laid_strconv_ErrSyntax), ("rollbook/attr.types", laid_rollbook_attr_types), ("unicode/utf8.first", laid_unicode_utf8_first)] }
def FtextAgainSaid : Prop := ftextAgainRow.holds Tryz.pinned (OpenSpec.ofChange ftextAgainSpec)

/-- ITS FALSE NEIGHBOUR: 'it returns false'. Refute it at one input. -/
def ftextAgainWrong : ChangeSpec := { name := "ftextAgain", fn := fun _ => fun
  | [d1, d2] => { results := [.lit (.bool false)], args := [d1, d2] }
  | _ => none }
def FtextAgainWrongFalsely : Prop := ftextAgainRow.holds Tryz.pinned (OpenSpec.ofChange ftextAgainWrong)

/- THE SECOND FORM. 'bulk': how many values and letters a reading holds, each counted each time it is reached (what is shared counts as often as it is met; a slice's spare places count too). A statement '..UptoSaid' is the law's where the arguments, and the package variables that the reading takes, are together of bulk at most 1048576: NARROWER than '..Said'. Prove '..Said' where nothing that the law and all that it calls make is longer than what came in: it says more and counts as full. Else prove '..UptoSaid'. A law counts once. -/
mutual
def uptoBulk {H : Type} : DataW H → Nat
  | .lit (.string bytes) => bytes.length + 1
  | .lit _ => 1
  | .nil => 1
  | .ptr d => uptoBulk d + 1
  | .slice elems spare => uptoBulkAll elems + uptoBulkAll spare + 1
  | .agg parts => uptoBulkAll parts + 1
  | .iface _ d => uptoBulk d + 1
  | .map entries => uptoBulkEntries entries + 1
  | .held _ => 1
def uptoBulkAll {H : Type} : List (DataW H) → Nat
  | [] => 0
  | d :: r => uptoBulk d + uptoBulkAll r
def uptoBulkEntries {H : Type} : List (Lit × DataW H) → Nat
  | [] => 0
  | x :: r => uptoBulkEntry x + uptoBulkEntries r
def uptoBulkEntry {H : Type} : Lit × DataW H → Nat
  | (.string bytes, d) => bytes.length + uptoBulk d + 1
  | (_, d) => uptoBulk d + 1
 end
def uptoSmall : (H : Type) → List (DataW H) → Bool := fun _ ds => decide (uptoBulkAll ds ≤ 1048576)
def OpenSpec.upto (s : _root_.Go.ChangeSpec) : _root_.Go.OpenSpec := { _root_.Go.OpenSpec.ofChange s with cond := some uptoSmall }

/-- 'rollbooklaw17.EntryReads', WHERE WHAT IT READS IS OF BULK AT MOST 1048576: true; the input reads as it did. -/
def entryReadsUptoRow : OpenClaim := { program := "ytmnpfkbjpeaemaagreatdoor", sum := "37382df0967042628ce5a543f19e7dd2c57783e6094d8d5929c5091e6edd1a81", func := "rollbook/rollbooklaw17.EntryReads", spec := "entryReads", inPlace := ["internal/abi.NoEscape", "internal/bytealg.CountString", "internal/bytealg.IndexByteString", "internal/bytealg.IndexString", "internal/bytealg.MakeNoZero"], unfollowed := true, recurses := true, named := ["unicode/utf8.first", "unicode/utf8.acceptRanges", "internal/bytealg.MaxLen", "rollbook/attr.types"], apart := false, laid := [("unicode/utf8.acceptRanges", laid_unicode_utf8_acceptRanges), ("rollbook/attr.types", laid_rollbook_attr_types), ("unicode/utf8.first", laid_unicode_utf8_first)], narrowed := true }
def EntryReadsUptoSaid : Prop := entryReadsUptoRow.holds Tryz.pinned (OpenSpec.upto entryReadsSpec)

/-- 'rollbooklaw18.SchemaChecks', WHERE WHAT IT READS IS OF BULK AT MOST 1048576: true; the input reads as it did. -/
def schemaChecksUptoRow : OpenClaim := { program := "ytmnpfkbjpeaemaagreatdoor", sum := "37382df0967042628ce5a543f19e7dd2c57783e6094d8d5929c5091e6edd1a81", func := "rollbook/rollbooklaw18.SchemaChecks", spec := "schemaChecks", inPlace := ["internal/abi.NoEscape", "internal/bytealg.CountString", "internal/bytealg.IndexByteString", "internal/bytealg.IndexString", "internal/bytealg.MakeNoZero"], unfollowed := true, recurses := true, named := ["unicode/utf8.first", "unicode/utf8.acceptRanges", "internal/bytealg.MaxLen", "rollbook/attr.types"], apart := false, laid := [("unicode/utf8.acceptRanges", laid_unicode_utf8_acceptRanges), ("rollbook/attr.types", laid_rollbook_attr_types), ("unicode/utf8.first", laid_unicode_utf8_first)], narrowed := true }
def SchemaChecksUptoSaid : Prop := schemaChecksUptoRow.holds Tryz.pinned (OpenSpec.upto schemaChecksSpec)

/-- 'rollbooklaw18.SchemaClasses', WHERE WHAT IT READS IS OF BULK AT MOST 1048576: true; the input reads as it did. -/
def schemaClassesUptoRow : OpenClaim := { program := "ytmnpfkbjpeaemaagreatdoor", sum := "37382df0967042628ce5a543f19e7dd2c57783e6094d8d5929c5091e6edd1a81", func := "rollbook/rollbooklaw18.SchemaClasses", spec := "schemaClasses", inPlace := ["internal/abi.NoEscape", "internal/bytealg.CountString", "internal/bytealg.IndexByteString", "internal/bytealg.IndexString", "internal/bytealg.MakeNoZero"], unfollowed := true, recurses := true, named := ["unicode/utf8.first", "unicode/utf8.acceptRanges", "internal/bytealg.MaxLen", "rollbook/attr.types"], apart := false, laid := [("unicode/utf8.acceptRanges", laid_unicode_utf8_acceptRanges), ("rollbook/attr.types", laid_rollbook_attr_types), ("unicode/utf8.first", laid_unicode_utf8_first)], narrowed := true }
def SchemaClassesUptoSaid : Prop := schemaClassesUptoRow.holds Tryz.pinned (OpenSpec.upto schemaClassesSpec)

/-- 'rollbooklaw18.SchemaLess', WHERE WHAT IT READS IS OF BULK AT MOST 1048576: true; the input reads as it did. -/
def schemaLessUptoRow : OpenClaim := { program := "ytmnpfkbjpeaemaagreatdoor", sum := "37382df0967042628ce5a543f19e7dd2c57783e6094d8d5929c5091e6edd1a81", func := "rollbook/rollbooklaw18.SchemaLess", spec := "schemaLess", inPlace := ["internal/abi.NoEscape", "internal/bytealg.CountString", "internal/bytealg.IndexByteString", "internal/bytealg.IndexString", "internal/bytealg.MakeNoZero"], unfollowed := true, recurses := true, named := ["unicode/utf8.first", "unicode/utf8.acceptRanges", "internal/bytealg.MaxLen", "rollbook/attr.types"], apart := false, laid := [("unicode/utf8.acceptRanges", laid_unicode_utf8_acceptRanges), ("rollbook/attr.types", laid_rollbook_attr_types), ("unicode/utf8.first", laid_unicode_utf8_first)], narrowed := true }
def SchemaLessUptoSaid : Prop := schemaLessUptoRow.holds Tryz.pinned (OpenSpec.upto schemaLessSpec)

/-- 'rollbooklaw21.LdifBuilds', WHERE WHAT IT READS IS OF BULK AT MOST 1048576: true; the input reads as it did. -/
def ldifBuildsUptoRow : OpenClaim := { program := "ytmnpfkbjpeaemaagreatdoor", sum := "37382df0967042628ce5a543f19e7dd2c57783e6094d8d5929c5091e6edd1a81", func := "rollbook/rollbooklaw21.LdifBuilds", spec := "ldifBuilds", inPlace := ["internal/bytealg.IndexByteString", "internal/bytealg.IndexString", "internal/abi.NoEscape", "internal/bytealg.MakeNoZero", "internal/bytealg.CountString"], unfollowed := true, recurses := true, named := ["internal/bytealg.MaxLen", "unicode/utf8.first", "unicode/utf8.acceptRanges", "rollbook/attr.types"], apart := false, laid := [("unicode/utf8.acceptRanges", laid_unicode_utf8_acceptRanges), ("rollbook/attr.types", laid_rollbook_attr_types), ("unicode/utf8.first", laid_unicode_utf8_first)], narrowed := true }
def LdifBuildsUptoSaid : Prop := ldifBuildsUptoRow.holds Tryz.pinned (OpenSpec.upto ldifBuildsSpec)

/-- 'rollbooklaw21.LdifBack', WHERE WHAT IT READS IS OF BULK AT MOST 1048576: true; the input reads as it did. -/
def ldifBackUptoRow : OpenClaim := { program := "ytmnpfkbjpeaemaagreatdoor", sum := "37382df0967042628ce5a543f19e7dd2c57783e6094d8d5929c5091e6edd1a81", func := "rollbook/rollbooklaw21.LdifBack", spec := "ldifBack", inPlace := ["internal/bytealg.IndexByteString", "internal/bytealg.IndexString", "internal/abi.NoEscape", "internal/bytealg.CountString", "internal/bytealg.MakeNoZero"], unfollowed := true, recurses := true, named := ["internal/bytealg.MaxLen", "unicode/utf8.first", "unicode/utf8.acceptRanges", "rollbook/attr.types"], apart := false, laid := [("unicode/utf8.acceptRanges", laid_unicode_utf8_acceptRanges), ("rollbook/attr.types", laid_rollbook_attr_types), ("unicode/utf8.first", laid_unicode_utf8_first)], narrowed := true }
def LdifBackUptoSaid : Prop := ldifBackUptoRow.holds Tryz.pinned (OpenSpec.upto ldifBackSpec)

/-- 'rollbooklaw19.FilterRules', WHERE WHAT IT READS IS OF BULK AT MOST 1048576: true; the input reads as it did. -/
def filterRulesUptoRow : OpenClaim := { program := "ytmnpfkbjpeaemaagreatdoor", sum := "37382df0967042628ce5a543f19e7dd2c57783e6094d8d5929c5091e6edd1a81", func := "rollbook/rollbooklaw19.FilterRules", spec := "filterRules", inPlace := ["internal/abi.NoEscape", "internal/bytealg.CountString", "internal/bytealg.IndexByteString", "internal/bytealg.IndexString", "internal/bytealg.MakeNoZero", "internal/bytealg.abigen_runtime_cmpstring"], unfollowed := true, recurses := true, named := ["rollbook/attr.types", "unicode/utf8.first", "unicode/utf8.acceptRanges", "internal/bytealg.MaxLen", "strconv.ErrSyntax", "strconv.ErrRange", "internal/strconv.uint64pow10", "math/bits.deBruijn32tab", "math/bits.deBruijn64tab"], loops := true, apart := false, laid := [("math/bits.deBruijn32tab", laid_math_bits_deBruijn32tab), ("math/bits.deBruijn64tab", laid_math_bits_deBruijn64tab), ("internal/strconv.uint64pow10", laid_internal_strconv_uint64pow10), ("unicode/utf8.acceptRanges", laid_unicode_utf8_acceptRanges), ("strconv.ErrRange", laid_strconv_ErrRange), ("strconv.ErrSyntax", laid_strconv_ErrSyntax), ("rollbook/attr.types", laid_rollbook_attr_types), ("unicode/utf8.first", laid_unicode_utf8_first)], narrowed := true }
def FilterRulesUptoSaid : Prop := filterRulesUptoRow.holds Tryz.pinned (OpenSpec.upto filterRulesSpec)

/-- 'rollbooklaw19.FilterAsks', WHERE WHAT IT READS IS OF BULK AT MOST 1048576: true; the input reads as it did. -/
def filterAsksUptoRow : OpenClaim := { program := "ytmnpfkbjpeaemaagreatdoor", sum := "37382df0967042628ce5a543f19e7dd2c57783e6094d8d5929c5091e6edd1a81", func := "rollbook/rollbooklaw19.FilterAsks", spec := "filterAsks", inPlace := ["internal/abi.NoEscape", "internal/bytealg.CountString", "internal/bytealg.IndexByteString", "internal/bytealg.IndexString", "internal/bytealg.MakeNoZero", "internal/bytealg.abigen_runtime_cmpstring"], unfollowed := true, recurses := true, named := ["rollbook/attr.types", "unicode/utf8.first", "unicode/utf8.acceptRanges", "internal/bytealg.MaxLen", "strconv.ErrSyntax", "strconv.ErrRange", "internal/strconv.uint64pow10", "math/bits.deBruijn32tab", "math/bits.deBruijn64tab"], loops := true, apart := false, laid := [("math/bits.deBruijn32tab", laid_math_bits_deBruijn32tab), ("math/bits.deBruijn64tab", laid_math_bits_deBruijn64tab), ("internal/strconv.uint64pow10", laid_internal_strconv_uint64pow10), ("unicode/utf8.acceptRanges", laid_unicode_utf8_acceptRanges), ("strconv.ErrRange", laid_strconv_ErrRange), ("strconv.ErrSyntax", laid_strconv_ErrSyntax), ("rollbook/attr.types", laid_rollbook_attr_types), ("unicode/utf8.first", laid_unicode_utf8_first)], narrowed := true }
def FilterAsksUptoSaid : Prop := filterAsksUptoRow.holds Tryz.pinned (OpenSpec.upto filterAsksSpec)

/-- 'rollbooklaw19.FilterRight', WHERE WHAT IT READS IS OF BULK AT MOST 1048576: true; the input reads as it did. -/
def filterRightUptoRow : OpenClaim := { program := "ytmnpfkbjpeaemaagreatdoor", sum := "37382df0967042628ce5a543f19e7dd2c57783e6094d8d5929c5091e6edd1a81", func := "rollbook/rollbooklaw19.FilterRight", spec := "filterRight", inPlace := ["internal/abi.NoEscape", "internal/bytealg.CountString", "internal/bytealg.IndexByteString", "internal/bytealg.IndexString", "internal/bytealg.MakeNoZero", "internal/bytealg.abigen_runtime_cmpstring"], unfollowed := true, recurses := true, named := ["rollbook/attr.types", "unicode/utf8.first", "unicode/utf8.acceptRanges", "internal/bytealg.MaxLen", "strconv.ErrSyntax", "strconv.ErrRange", "internal/strconv.uint64pow10", "math/bits.deBruijn32tab", "math/bits.deBruijn64tab"], loops := true, apart := false, laid := [("math/bits.deBruijn32tab", laid_math_bits_deBruijn32tab), ("math/bits.deBruijn64tab", laid_math_bits_deBruijn64tab), ("internal/strconv.uint64pow10", laid_internal_strconv_uint64pow10), ("unicode/utf8.acceptRanges", laid_unicode_utf8_acceptRanges), ("strconv.ErrRange", laid_strconv_ErrRange), ("strconv.ErrSyntax", laid_strconv_ErrSyntax), ("rollbook/attr.types", laid_rollbook_attr_types), ("unicode/utf8.first", laid_unicode_utf8_first)], narrowed := true }
def FilterRightUptoSaid : Prop := filterRightUptoRow.holds Tryz.pinned (OpenSpec.upto filterRightSpec)

/-- 'rollbooklaw20.FtextAgain', WHERE WHAT IT READS IS OF BULK AT MOST 1048576: true; the input reads as it did. -/
def ftextAgainUptoRow : OpenClaim := { program := "ytmnpfkbjpeaemaagreatdoor", sum := "37382df0967042628ce5a543f19e7dd2c57783e6094d8d5929c5091e6edd1a81", func := "rollbook/rollbooklaw20.FtextAgain", spec := "ftextAgain", inPlace := ["internal/bytealg.IndexByteString", "internal/abi.NoEscape", "internal/bytealg.CountString", "internal/bytealg.IndexString", "internal/bytealg.MakeNoZero", "internal/bytealg.abigen_runtime_cmpstring"], unfollowed := true, recurses := true, named := ["rollbook/attr.types", "unicode/utf8.first", "unicode/utf8.acceptRanges", "internal/bytealg.MaxLen", "strconv.ErrSyntax", "strconv.ErrRange", "internal/strconv.uint64pow10", "math/bits.deBruijn32tab", "math/bits.deBruijn64tab"], apart := false, laid := [("math/bits.deBruijn32tab", laid_math_bits_deBruijn32tab), ("math/bits.deBruijn64tab", laid_math_bits_deBruijn64tab), ("internal/strconv.uint64pow10", laid_internal_strconv_uint64pow10), ("unicode/utf8.acceptRanges", laid_unicode_utf8_acceptRanges), ("strconv.ErrRange", laid_strconv_ErrRange), ("strconv.ErrSyntax", laid_strconv_ErrSyntax), ("rollbook/attr.types", laid_rollbook_attr_types), ("unicode/utf8.first", laid_unicode_utf8_first)], narrowed := true }
def FtextAgainUptoSaid : Prop := ftextAgainUptoRow.holds Tryz.pinned (OpenSpec.upto ftextAgainSpec)

end Rows
end Go.Proofs.YtmnpfkbjpeaemaaGreatDoor

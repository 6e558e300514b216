/-
  NARROWER THAN 'FOR EVERY INPUT', by the rows' own cells (each row's printed sentence says how): EntryAsks: laid · EntryBack: laid · EntryChanges: laid · EntryRenames: laid · EntryPacks: laid · EntryReads: laid · SchemaChecks: laid · SchemaClasses: laid · SchemaLess: laid · LdifBuilds: laid · LdifBack: laid.
  DERIVED. THE GIVEN ROWS OF THIS SEAT. 11 by the template 'for every input the law returns true; each argument reads behind the call as it read before'; 0 by the template 'total and deterministic' (their statements: YtcolcogobdgejaaGreatDoorTotals.lean).
  GIVEN WITH THE SEED: the statements are not yours to turn. If you find one false, say at which input.
  Laid BY PROGRAM, IN A SANDBOX (cutbox-rows.mjs): the forced cells as the released guide's own fill.sh prints them over the translation af491c7bdd1c4b51… (all of the seat's roots in one cut). By AI agents, Wed Nov 11 2026. No macro, syntax, notation, axiom, sorry.
-/
import Derived.Test.YtcolcogobdgejaaGreatDoorChecked
import GoSem.PinnedTables
import GoSem.Claim
import GoSem.ClaimJoined
import GoSem.ClaimMapViews
import Derived.JoinedTies
import Derived.KernelRfl
namespace Go.Proofs.YtcolcogobdgejaaGreatDoor
/- THE CELL 'sum', in the pinned program and in every row, IS THE sha256 OF THE DUMP (.gsa) THAT YtcolcogobdgejaaGreatDoorProg.lean LOADS. Nothing in Lean hashes anything: it is a label: what it is worth is what the hold of that sum in a sandbox is worth. -/
noncomputable def Tryz.pinned : Pinned := { name := "ytcolcogobdgejaagreatdoor", sum := "af491c7bdd1c4b51de1ec47caa4bf707523d376d07512fcd3448de3346e45e06", checked := Tryz.checked }
namespace Rows
def none {H : Type} : Left H := { results := [], args := [] }

/- WHAT THE LISTED PACKAGE-LEVEL VARIABLES READ AS WHEN THE CALL BEGINS. Each datum BY PROGRAM (the guide's laid-datum.mjs) off the statement by which the dump's own 'gosem.cut.vars' lays the variable. In a bare row this is a premise. The card (YtcolcogobdgejaaGreatDoorCards.lean) ties it to the program's text. -/
def laid_unicode_utf8_acceptRanges {H : Type} : DataW H := .agg [.agg [.lit (.int .u8 128), .lit (.int .u8 191)], .agg [.lit (.int .u8 160), .lit (.int .u8 191)], .agg [.lit (.int .u8 128), .lit (.int .u8 159)], .agg [.lit (.int .u8 144), .lit (.int .u8 191)], .agg [.lit (.int .u8 128), .lit (.int .u8 143)], .agg [.lit (.int .u8 0), .lit (.int .u8 0)], .agg [.lit (.int .u8 0), .lit (.int .u8 0)], .agg [.lit (.int .u8 0), .lit (.int .u8 0)], .agg [.lit (.int .u8 0), .lit (.int .u8 0)], .agg [.lit (.int .u8 0), .lit (.int .u8 0)], .agg [.lit (.int .u8 0), .lit (.int .u8 0)], .agg [.lit (.int .u8 0), .lit (.int .u8 0)], .agg [.lit (.int .u8 0), .lit (.int .u8 0)], .agg [.lit (.int .u8 0), .lit (.int .u8 0)], .agg [.lit (.int .u8 0), .lit (.int .u8 0)], .agg [.lit (.int .u8 0), .lit (.int .u8 0)]]
def laid_rollbook_attr_types {H : Type} : DataW H := .agg [.agg [.lit (.string [99, 110]), .lit (.int .i64 1), .lit (.bool false)], .agg [.lit (.string [100, 99]), .lit (.int .i64 1), .lit (.bool false)], .agg [.lit (.string [100, 101, 115, 99, 114, 105, 112, 116, 105, 111, 110]), .lit (.int .i64 1), .lit (.bool false)], .agg [.lit (.string [101, 110, 97, 98, 108, 101, 100]), .lit (.int .i64 5), .lit (.bool true)], .agg [.lit (.string [108]), .lit (.int .i64 1), .lit (.bool false)], .agg [.lit (.string [108, 105, 109, 105, 116]), .lit (.int .i64 4), .lit (.bool false)], .agg [.lit (.string [109, 97, 105, 108]), .lit (.int .i64 1), .lit (.bool false)], .agg [.lit (.string [109, 101, 109, 98, 101, 114]), .lit (.int .i64 6), .lit (.bool false)], .agg [.lit (.string [111]), .lit (.int .i64 1), .lit (.bool false)], .agg [.lit (.string [111, 98, 106, 101, 99, 116, 99, 108, 97, 115, 115]), .lit (.int .i64 1), .lit (.bool false)], .agg [.lit (.string [111, 117]), .lit (.int .i64 1), .lit (.bool false)], .agg [.lit (.string [112, 104, 111, 116, 111]), .lit (.int .i64 3), .lit (.bool false)], .agg [.lit (.string [115, 101, 101, 97, 108, 115, 111]), .lit (.int .i64 6), .lit (.bool false)], .agg [.lit (.string [115, 101, 114, 105, 97, 108, 110, 117, 109, 98, 101, 114]), .lit (.int .i64 2), .lit (.bool false)], .agg [.lit (.string [115, 110]), .lit (.int .i64 1), .lit (.bool false)], .agg [.lit (.string [116, 101, 108, 101, 112, 104, 111, 110, 101, 110, 117, 109, 98, 101, 114]), .lit (.int .i64 7), .lit (.bool false)], .agg [.lit (.string [116, 105, 116, 108, 101]), .lit (.int .i64 1), .lit (.bool false)], .agg [.lit (.string [117, 105, 100]), .lit (.int .i64 1), .lit (.bool false)], .agg [.lit (.string [117, 105, 100, 110, 117, 109, 98, 101, 114]), .lit (.int .i64 4), .lit (.bool true)], .agg [.lit (.string [117, 115, 101, 114, 112, 97, 115, 115, 119, 111, 114, 100]), .lit (.int .i64 3), .lit (.bool false)]]
/-- One of Go's own tables, pinned by name: the form's constant. -/
def laid_unicode_utf8_first : DataW Unit := Go.Pinned.utf8First

/-- 'rollbooklaw17.EntryAsks': WHATEVER THE INPUT: true; the input reads as it did. -/
def entryAsksSpec : ChangeSpec := { name := "entryAsks", fn := fun _ => fun
  | [d1, d2, d3] => { results := [.lit (.bool true)], args := [d1, d2, d3] }
  | _ => none }
def entryAsksRow : OpenClaim := { program := "ytcolcogobdgejaagreatdoor", sum := "af491c7bdd1c4b51de1ec47caa4bf707523d376d07512fcd3448de3346e45e06", func := "rollbook/rollbooklaw17.EntryAsks", spec := "entryAsks", inPlace := ["internal/abi.NoEscape", "internal/bytealg.CountString", "internal/bytealg.IndexByteString", "internal/bytealg.IndexString", "internal/bytealg.MakeNoZero"], unfollowed := true, recurses := true, named := ["unicode/utf8.first", "unicode/utf8.acceptRanges", "internal/bytealg.MaxLen", "rollbook/attr.types"], apart := false, laid := [("unicode/utf8.acceptRanges", laid_unicode_utf8_acceptRanges), ("rollbook/attr.types", laid_rollbook_attr_types), ("unicode/utf8.first", laid_unicode_utf8_first)] }
def EntryAsksSaid : Prop := entryAsksRow.holds Tryz.pinned (OpenSpec.ofChange entryAsksSpec)

/-- ITS FALSE NEIGHBOUR: 'it returns false'. Refute it at one input. -/
def entryAsksWrong : ChangeSpec := { name := "entryAsks", fn := fun _ => fun
  | [d1, d2, d3] => { results := [.lit (.bool false)], args := [d1, d2, d3] }
  | _ => none }
def EntryAsksWrongFalsely : Prop := entryAsksRow.holds Tryz.pinned (OpenSpec.ofChange entryAsksWrong)

/-- 'rollbooklaw17.EntryBack': WHATEVER THE INPUT: true; the input reads as it did. -/
def entryBackSpec : ChangeSpec := { name := "entryBack", fn := fun _ => fun
  | [d1, d2, d3] => { results := [.lit (.bool true)], args := [d1, d2, d3] }
  | _ => none }
def entryBackRow : OpenClaim := { program := "ytcolcogobdgejaagreatdoor", sum := "af491c7bdd1c4b51de1ec47caa4bf707523d376d07512fcd3448de3346e45e06", func := "rollbook/rollbooklaw17.EntryBack", spec := "entryBack", inPlace := ["internal/abi.NoEscape", "internal/bytealg.CountString", "internal/bytealg.IndexByteString", "internal/bytealg.IndexString", "internal/bytealg.MakeNoZero"], unfollowed := true, recurses := true, named := ["unicode/utf8.first", "unicode/utf8.acceptRanges", "internal/bytealg.MaxLen", "rollbook/attr.types"], apart := false, laid := [("unicode/utf8.acceptRanges", laid_unicode_utf8_acceptRanges), ("rollbook/attr.types", laid_rollbook_attr_types), ("unicode/utf8.first", laid_unicode_utf8_first)] }
def EntryBackSaid : Prop := entryBackRow.holds Tryz.pinned (OpenSpec.ofChange entryBackSpec)

/-- ITS FALSE NEIGHBOUR: 'it returns false'. Refute it at one input. -/
def entryBackWrong : ChangeSpec := { name := "entryBack", fn := fun _ => fun
  | [d1, d2, d3] => { results := [.lit (.bool false)], args := [d1, d2, d3] }
  | _ => none }
def EntryBackWrongFalsely : Prop := entryBackRow.holds Tryz.pinned (OpenSpec.ofChange entryBackWrong)

/-- 'rollbooklaw17.EntryChanges': WHATEVER THE INPUT: true; the input reads as it did. -/
def entryChangesSpec : ChangeSpec := { name := "entryChanges", fn := fun _ => fun
  | [d1, d2, d3] => { results := [.lit (.bool true)], args := [d1, d2, d3] }
  | _ => none }
def entryChangesRow : OpenClaim := { program := "ytcolcogobdgejaagreatdoor", sum := "af491c7bdd1c4b51de1ec47caa4bf707523d376d07512fcd3448de3346e45e06", func := "rollbook/rollbooklaw17.EntryChanges", spec := "entryChanges", inPlace := ["internal/abi.NoEscape", "internal/bytealg.CountString", "internal/bytealg.IndexByteString", "internal/bytealg.IndexString", "internal/bytealg.MakeNoZero"], unfollowed := true, recurses := true, named := ["unicode/utf8.first", "unicode/utf8.acceptRanges", "internal/bytealg.MaxLen", "rollbook/attr.types"], apart := false, laid := [("unicode/utf8.acceptRanges", laid_unicode_utf8_acceptRanges), ("rollbook/attr.types", laid_rollbook_attr_types), ("unicode/utf8.first", laid_unicode_utf8_first)] }
def EntryChangesSaid : Prop := entryChangesRow.holds Tryz.pinned (OpenSpec.ofChange entryChangesSpec)

/-- ITS FALSE NEIGHBOUR: 'it returns false'. Refute it at one input. -/
def entryChangesWrong : ChangeSpec := { name := "entryChanges", fn := fun _ => fun
  | [d1, d2, d3] => { results := [.lit (.bool false)], args := [d1, d2, d3] }
  | _ => none }
def EntryChangesWrongFalsely : Prop := entryChangesRow.holds Tryz.pinned (OpenSpec.ofChange entryChangesWrong)

/-- 'rollbooklaw17.EntryRenames': WHATEVER THE INPUT: true; the input reads as it did. -/
def entryRenamesSpec : ChangeSpec := { name := "entryRenames", fn := fun _ => fun
  | [d1, d2, d3] => { results := [.lit (.bool true)], args := [d1, d2, d3] }
  | _ => none }
def entryRenamesRow : OpenClaim := { program := "ytcolcogobdgejaagreatdoor", sum := "af491c7bdd1c4b51de1ec47caa4bf707523d376d07512fcd3448de3346e45e06", func := "rollbook/rollbooklaw17.EntryRenames", spec := "entryRenames", inPlace := ["internal/abi.NoEscape", "internal/bytealg.CountString", "internal/bytealg.IndexByteString", "internal/bytealg.IndexString", "internal/bytealg.MakeNoZero"], unfollowed := true, recurses := true, named := ["unicode/utf8.first", "unicode/utf8.acceptRanges", "internal/bytealg.MaxLen", "rollbook/attr.types"], apart := false, laid := [("unicode/utf8.acceptRanges", laid_unicode_utf8_acceptRanges), ("rollbook/attr.types", laid_rollbook_attr_types), ("unicode/utf8.first", laid_unicode_utf8_first)] }
def EntryRenamesSaid : Prop := entryRenamesRow.holds Tryz.pinned (OpenSpec.ofChange entryRenamesSpec)

/-- ITS FALSE NEIGHBOUR: 'it returns false'. Refute it at one input. -/
def entryRenamesWrong : ChangeSpec := { name := "entryRenames", fn := fun _ => fun
  | [d1, d2, d3] => { results := [.lit (.bool false)], args := [d1, d2, d3] }
  | _ => none }
def EntryRenamesWrongFalsely : Prop := entryRenamesRow.holds Tryz.pinned (OpenSpec.ofChange entryRenamesWrong)

/-- 'rollbooklaw17.EntryPacks': WHATEVER THE INPUT: true; the input reads as it did. -/
def entryPacksSpec : ChangeSpec := { name := "entryPacks", fn := fun _ => fun
  | [d] => { results := [.lit (.bool true)], args := [d] }
  | _ => none }
def entryPacksRow : OpenClaim := { program := "ytcolcogobdgejaagreatdoor", sum := "af491c7bdd1c4b51de1ec47caa4bf707523d376d07512fcd3448de3346e45e06", func := "rollbook/rollbooklaw17.EntryPacks", spec := "entryPacks", inPlace := ["internal/abi.NoEscape", "internal/bytealg.CountString", "internal/bytealg.IndexByteString", "internal/bytealg.IndexString", "internal/bytealg.MakeNoZero"], unfollowed := true, recurses := true, named := ["unicode/utf8.first", "unicode/utf8.acceptRanges", "internal/bytealg.MaxLen", "rollbook/attr.types"], apart := false, laid := [("unicode/utf8.acceptRanges", laid_unicode_utf8_acceptRanges), ("rollbook/attr.types", laid_rollbook_attr_types), ("unicode/utf8.first", laid_unicode_utf8_first)] }
def EntryPacksSaid : Prop := entryPacksRow.holds Tryz.pinned (OpenSpec.ofChange entryPacksSpec)

/-- ITS FALSE NEIGHBOUR: 'it returns false'. Refute it at one input. -/
def entryPacksWrong : ChangeSpec := { name := "entryPacks", fn := fun _ => fun
  | [d] => { results := [.lit (.bool false)], args := [d] }
  | _ => none }
def EntryPacksWrongFalsely : Prop := entryPacksRow.holds Tryz.pinned (OpenSpec.ofChange entryPacksWrong)

/-- 'rollbooklaw17.EntryReads': WHATEVER THE INPUT: true; the input reads as it did. -/
def entryReadsSpec : ChangeSpec := { name := "entryReads", fn := fun _ => fun
  | [d] => { results := [.lit (.bool true)], args := [d] }
  | _ => none }
def entryReadsRow : OpenClaim := { program := "ytcolcogobdgejaagreatdoor", sum := "af491c7bdd1c4b51de1ec47caa4bf707523d376d07512fcd3448de3346e45e06", func := "rollbook/rollbooklaw17.EntryReads", spec := "entryReads", inPlace := ["internal/abi.NoEscape", "internal/bytealg.CountString", "internal/bytealg.IndexByteString", "internal/bytealg.IndexString", "internal/bytealg.MakeNoZero"], unfollowed := true, recurses := true, named := ["unicode/utf8.first", "unicode/utf8.acceptRanges", "internal/bytealg.MaxLen", "rollbook/attr.types"], apart := false, laid := [("unicode/utf8.acceptRanges", laid_unicode_utf8_acceptRanges), ("rollbook/attr.types", laid_rollbook_attr_types), ("unicode/utf8.first", laid_unicode_utf8_first)] }
def EntryReadsSaid : Prop := entryReadsRow.holds Tryz.pinned (OpenSpec.ofChange entryReadsSpec)

/-- ITS FALSE NEIGHBOUR: 'it returns false'. Refute it at one input. -/
def entryReadsWrong : ChangeSpec := { name := "entryReads", fn := fun _ => fun
  | [d] => { results := [.lit (.bool false)], args := [d] }
  | _ => none }
def EntryReadsWrongFalsely : Prop := entryReadsRow.holds Tryz.pinned (OpenSpec.ofChange entryReadsWrong)

/-- 'rollbooklaw18.SchemaChecks': WHATEVER THE INPUT: true; the input reads as it did. -/
def schemaChecksSpec : ChangeSpec := { name := "schemaChecks", fn := fun _ => fun
  | [d] => { results := [.lit (.bool true)], args := [d] }
  | _ => none }
def schemaChecksRow : OpenClaim := { program := "ytcolcogobdgejaagreatdoor", sum := "af491c7bdd1c4b51de1ec47caa4bf707523d376d07512fcd3448de3346e45e06", func := "rollbook/rollbooklaw18.SchemaChecks", spec := "schemaChecks", inPlace := ["internal/abi.NoEscape", "internal/bytealg.CountString", "internal/bytealg.IndexByteString", "internal/bytealg.IndexString", "internal/bytealg.MakeNoZero"], unfollowed := true, recurses := true, named := ["unicode/utf8.first", "unicode/utf8.acceptRanges", "internal/bytealg.MaxLen", "rollbook/attr.types"], apart := false, laid := [("unicode/utf8.acceptRanges", laid_unicode_utf8_acceptRanges), ("rollbook/attr.types", laid_rollbook_attr_types), ("unicode/utf8.first", laid_unicode_utf8_first)] }
def SchemaChecksSaid : Prop := schemaChecksRow.holds Tryz.pinned (OpenSpec.ofChange schemaChecksSpec)

/-- ITS FALSE NEIGHBOUR: 'it returns false'. Refute it at one input. -/
def schemaChecksWrong : ChangeSpec := { name := "schemaChecks", fn := fun _ => fun
  | [d] => { results := [.lit (.bool false)], args := [d] }
  | _ => none }
def SchemaChecksWrongFalsely : Prop := schemaChecksRow.holds Tryz.pinned (OpenSpec.ofChange schemaChecksWrong)

/-- 'rollbooklaw18.SchemaClasses': WHATEVER THE INPUT: true; the input reads as it did. -/
def schemaClassesSpec : ChangeSpec := { name := "schemaClasses", fn := fun _ => fun
  | [d] => { results := [.lit (.bool true)], args := [d] }
  | _ => none }
def schemaClassesRow : OpenClaim := { program := "ytcolcogobdgejaagreatdoor", sum := "af491c7bdd1c4b51de1ec47caa4bf707523d376d07512fcd3448de3346e45e06", func := "rollbook/rollbooklaw18.SchemaClasses", spec := "schemaClasses", inPlace := ["internal/abi.NoEscape", "internal/bytealg.CountString", "internal/bytealg.IndexByteString", "internal/bytealg.IndexString", "internal/bytealg.MakeNoZero"], unfollowed := true, recurses := true, named := ["unicode/utf8.first", "unicode/utf8.acceptRanges", "internal/bytealg.MaxLen", "rollbook/attr.types"], apart := false, laid := [("unicode/utf8.acceptRanges", laid_unicode_utf8_acceptRanges), ("rollbook/attr.types", laid_rollbook_attr_types), ("unicode/utf8.first", laid_unicode_utf8_first)] }
def SchemaClassesSaid : Prop := schemaClassesRow.holds Tryz.pinned (OpenSpec.ofChange schemaClassesSpec)

/-- ITS FALSE NEIGHBOUR: 'it returns false'. Refute it at one input. -/
def schemaClassesWrong : ChangeSpec := { name := "schemaClasses", fn := fun _ => fun
  | [d] => { results := [.lit (.bool false)], args := [d] }
  | _ => none }
def SchemaClassesWrongFalsely : Prop := schemaClassesRow.holds Tryz.pinned (OpenSpec.ofChange schemaClassesWrong)

/-- 'rollbooklaw18.SchemaLess': WHATEVER THE INPUT: true; the input reads as it did. -/
def schemaLessSpec : ChangeSpec := { name := "schemaLess", fn := fun _ => fun
  | [d1, d2] => { results := [.lit (.bool true)], args := [d1, d2] }
  | _ => none }
def schemaLessRow : OpenClaim := { program := "ytcolcogobdgejaagreatdoor", sum := "af491c7bdd1c4b51de1ec47caa4bf707523d376d07512fcd3448de3346e45e06", func := "rollbook/rollbooklaw18.SchemaLess", spec := "schemaLess", inPlace := ["internal/abi.NoEscape", "internal/bytealg.CountString", "internal/bytealg.IndexByteString", "internal/bytealg.IndexString", "internal/bytealg.MakeNoZero"], unfollowed := true, recurses := true, named := ["unicode/utf8.first", "unicode/utf8.acceptRanges", "internal/bytealg.MaxLen", "rollbook/attr.types"], apart := false, laid := [("unicode/utf8.acceptRanges", laid_unicode_utf8_acceptRanges), ("rollbook/attr.types", laid_rollbook_attr_types), ("unicode/utf8.first", laid_unicode_utf8_first)] }
def SchemaLessSaid : Prop := schemaLessRow.holds Tryz.pinned (OpenSpec.ofChange schemaLessSpec)

/-- ITS FALSE NEIGHBOUR: 'it returns false'. Refute it at one input. -/
def schemaLessWrong : ChangeSpec := { name := "schemaLess", fn := fun _ => fun
  | [d1, d2] => { results := [.lit (.bool false)], args := [d1, d2] }
  | _ => none }
def SchemaLessWrongFalsely : Prop := schemaLessRow.holds Tryz.pinned (OpenSpec.ofChange schemaLessWrong)

/-- 'rollbooklaw21.LdifBuilds': WHATEVER THE INPUT: true; the input reads as it did. -/
def ldifBuildsSpec : ChangeSpec := { name := "ldifBuilds", fn := fun _ => fun
  | [d1, d2, d3] => { results := [.lit (.bool true)], args := [d1, d2, d3] }
  | _ => none }
def ldifBuildsRow : OpenClaim := { program := "ytcolcogobdgejaagreatdoor", sum := "af491c7bdd1c4b51de1ec47caa4bf707523d376d07512fcd3448de3346e45e06", func := "rollbook/rollbooklaw21.LdifBuilds", spec := "ldifBuilds", inPlace := ["internal/bytealg.IndexByteString", "internal/bytealg.IndexString", "internal/abi.NoEscape", "internal/bytealg.MakeNoZero", "internal/bytealg.CountString"], unfollowed := true, recurses := true, named := ["internal/bytealg.MaxLen", "unicode/utf8.first", "unicode/utf8.acceptRanges", "rollbook/attr.types"], apart := false, laid := [("unicode/utf8.acceptRanges", laid_unicode_utf8_acceptRanges), ("rollbook/attr.types", laid_rollbook_attr_types), ("unicode/utf8.first", laid_unicode_utf8_first)] }
def LdifBuildsSaid : Prop := ldifBuildsRow.holds Tryz.pinned (OpenSpec.ofChange ldifBuildsSpec)

/-- ITS FALSE NEIGHBOUR: 'it returns false'. Refute it at one input. -/
def ldifBuildsWrong : ChangeSpec := { name := "ldifBuilds", fn := fun _ => fun
  | [d1, d2, d3] => { results := [.lit (.bool false)], args := [d1, d2, d3] }
  | _ => none }
def LdifBuildsWrongFalsely : Prop := ldifBuildsRow.holds Tryz.pinned (OpenSpec.ofChange ldifBuildsWrong)

/-- 'rollbooklaw21.LdifBack': WHATEVER THE INPUT: true; the input reads as it did. -/
def ldifBackSpec : ChangeSpec := { name := "ldifBack", fn := fun _ => fun
  | [d1, d2] => { results := [.lit (.bool true)], args := [d1, d2] }
  | _ => none }
def ldifBackRow : OpenClaim := { program := "ytcolcogobdgejaagreatdoor", sum := "af491c7bdd1c4b51de1ec47caa4bf707523d376d07512fcd3448de3346e45e06", func := "rollbook/rollbooklaw21.LdifBack", spec := "ldifBack", inPlace := ["internal/bytealg.IndexByteString", "internal/bytealg.IndexString", "internal/abi.NoEscape", "internal/bytealg.CountString", "internal/bytealg.MakeNoZero"], unfollowed := true, recurses := true, named := ["internal/bytealg.MaxLen", "unicode/utf8.first", "unicode/utf8.acceptRanges", "rollbook/attr.types"], apart := false, laid := [("unicode/utf8.acceptRanges", laid_unicode_utf8_acceptRanges), ("rollbook/attr.types", laid_rollbook_attr_types), ("unicode/utf8.first", laid_unicode_utf8_first)] }
def LdifBackSaid : Prop := ldifBackRow.holds Tryz.pinned (OpenSpec.ofChange ldifBackSpec)

/-- ITS FALSE NEIGHBOUR: 'it returns false'. Refute it at one input. -/
def ldifBackWrong : ChangeSpec := { name := "ldifBack", fn := fun _ => fun
  | [d1, d2] => { results := [.lit (.bool false)], args := [d1, d2] }
  | _ => none }
def LdifBackWrongFalsely : Prop := ldifBackRow.holds Tryz.pinned (OpenSpec.ofChange ldifBackWrong)

/- THE SECOND FORM. 'bulk': how many values and letters a reading holds, each counted each time it is reached (what is shared counts as often as it is met; a slice's spare places count too). A statement '..UptoSaid' is the law's where the arguments, and the package variables that the reading takes, are together of bulk at most 1048576: NARROWER than '..Said'. Prove '..Said' where nothing that the law and all that it calls make is longer than what came in: it says more and counts as full. Else prove '..UptoSaid'. A law counts once. -/
mutual
def uptoBulk {H : Type} : DataW H → Nat
  | .lit (.string bytes) => bytes.length + 1
  | .lit _ => 1
  | .nil => 1
  | .ptr d => uptoBulk d + 1
  | .slice elems spare => uptoBulkAll elems + uptoBulkAll spare + 1
  | .agg parts => uptoBulkAll parts + 1
  | .iface _ d => uptoBulk d + 1
  | .map entries => uptoBulkEntries entries + 1
  | .held _ => 1
def uptoBulkAll {H : Type} : List (DataW H) → Nat
  | [] => 0
  | d :: r => uptoBulk d + uptoBulkAll r
def uptoBulkEntries {H : Type} : List (Lit × DataW H) → Nat
  | [] => 0
  | x :: r => uptoBulkEntry x + uptoBulkEntries r
def uptoBulkEntry {H : Type} : Lit × DataW H → Nat
  | (.string bytes, d) => bytes.length + uptoBulk d + 1
  | (_, d) => uptoBulk d + 1
 end
def uptoSmall : (H : Type) → List (DataW H) → Bool := fun _ ds => decide (uptoBulkAll ds ≤ 1048576)
def OpenSpec.upto (s : _root_.Go.ChangeSpec) : _root_.Go.OpenSpec := { _root_.Go.OpenSpec.ofChange s with cond := some uptoSmall }

/-- 'rollbooklaw17.EntryAsks', WHERE WHAT IT READS IS OF BULK AT MOST 1048576: true; the input reads as it did. -/
def entryAsksUptoRow : OpenClaim := { program := "ytcolcogobdgejaagreatdoor", sum := "af491c7bdd1c4b51de1ec47caa4bf707523d376d07512fcd3448de3346e45e06", func := "rollbook/rollbooklaw17.EntryAsks", spec := "entryAsks", inPlace := ["internal/abi.NoEscape", "internal/bytealg.CountString", "internal/bytealg.IndexByteString", "internal/bytealg.IndexString", "internal/bytealg.MakeNoZero"], unfollowed := true, recurses := true, named := ["unicode/utf8.first", "unicode/utf8.acceptRanges", "internal/bytealg.MaxLen", "rollbook/attr.types"], apart := false, laid := [("unicode/utf8.acceptRanges", laid_unicode_utf8_acceptRanges), ("rollbook/attr.types", laid_rollbook_attr_types), ("unicode/utf8.first", laid_unicode_utf8_first)], narrowed := true }
def EntryAsksUptoSaid : Prop := entryAsksUptoRow.holds Tryz.pinned (OpenSpec.upto entryAsksSpec)

/-- 'rollbooklaw17.EntryBack', WHERE WHAT IT READS IS OF BULK AT MOST 1048576: true; the input reads as it did. -/
def entryBackUptoRow : OpenClaim := { program := "ytcolcogobdgejaagreatdoor", sum := "af491c7bdd1c4b51de1ec47caa4bf707523d376d07512fcd3448de3346e45e06", func := "rollbook/rollbooklaw17.EntryBack", spec := "entryBack", inPlace := ["internal/abi.NoEscape", "internal/bytealg.CountString", "internal/bytealg.IndexByteString", "internal/bytealg.IndexString", "internal/bytealg.MakeNoZero"], unfollowed := true, recurses := true, named := ["unicode/utf8.first", "unicode/utf8.acceptRanges", "internal/bytealg.MaxLen", "rollbook/attr.types"], apart := false, laid := [("unicode/utf8.acceptRanges", laid_unicode_utf8_acceptRanges), ("rollbook/attr.types", laid_rollbook_attr_types), ("unicode/utf8.first", laid_unicode_utf8_first)], narrowed := true }
def EntryBackUptoSaid : Prop := entryBackUptoRow.holds Tryz.pinned (OpenSpec.upto entryBackSpec)

/-- 'rollbooklaw17.EntryChanges', WHERE WHAT IT READS IS OF BULK AT MOST 1048576: true; the input reads as it did. -/
def entryChangesUptoRow : OpenClaim := { program := "ytcolcogobdgejaagreatdoor", sum := "af491c7bdd1c4b51de1ec47caa4bf707523d376d07512fcd3448de3346e45e06", func := "rollbook/rollbooklaw17.EntryChanges", spec := "entryChanges", inPlace := ["internal/abi.NoEscape", "internal/bytealg.CountString", "internal/bytealg.IndexByteString", "internal/bytealg.IndexString", "internal/bytealg.MakeNoZero"], unfollowed := true, recurses := true, named := ["unicode/utf8.first", "unicode/utf8.acceptRanges", "internal/bytealg.MaxLen", "rollbook/attr.types"], apart := false, laid := [("unicode/utf8.acceptRanges", laid_unicode_utf8_acceptRanges), ("rollbook/attr.types", laid_rollbook_attr_types), ("unicode/utf8.first", laid_unicode_utf8_first)], narrowed := true }
def EntryChangesUptoSaid : Prop := entryChangesUptoRow.holds Tryz.pinned (OpenSpec.upto entryChangesSpec)

/-- 'rollbooklaw17.EntryRenames', WHERE WHAT IT READS IS OF BULK AT MOST 1048576: true; the input reads as it did. -/
def entryRenamesUptoRow : OpenClaim := { program := "ytcolcogobdgejaagreatdoor", sum := "af491c7bdd1c4b51de1ec47caa4bf707523d376d07512fcd3448de3346e45e06", func := "rollbook/rollbooklaw17.EntryRenames", spec := "entryRenames", inPlace := ["internal/abi.NoEscape", "internal/bytealg.CountString", "internal/bytealg.IndexByteString", "internal/bytealg.IndexString", "internal/bytealg.MakeNoZero"], unfollowed := true, recurses := true, named := ["unicode/utf8.first", "unicode/utf8.acceptRanges", "internal/bytealg.MaxLen", "rollbook/attr.types"], apart := false, laid := [("unicode/utf8.acceptRanges", laid_unicode_utf8_acceptRanges), ("rollbook/attr.types", laid_rollbook_attr_types), ("unicode/utf8.first", laid_unicode_utf8_first)], narrowed := true }
def EntryRenamesUptoSaid : Prop := entryRenamesUptoRow.holds Tryz.pinned (OpenSpec.upto entryRenamesSpec)

/-- 'rollbooklaw17.EntryPacks', WHERE WHAT IT READS IS OF BULK AT MOST 1048576: true; the input reads as it did. -/
def entryPacksUptoRow : OpenClaim := { program := "ytcolcogobdgejaagreatdoor", sum := "af491c7bdd1c4b51de1ec47caa4bf707523d376d07512fcd3448de3346e45e06", func := "rollbook/rollbooklaw17.EntryPacks", spec := "entryPacks", inPlace := ["internal/abi.NoEscape", "internal/bytealg.CountString", "internal/bytealg.IndexByteString", "internal/bytealg.IndexString", "internal/bytealg.MakeNoZero"], unfollowed := true, recurses := true, named := ["unicode/utf8.first", "unicode/utf8.acceptRanges", "internal/bytealg.MaxLen", "rollbook/attr.types"], apart := false, laid := [("unicode/utf8.acceptRanges", laid_unicode_utf8_acceptRanges), ("rollbook/attr.types", laid_rollbook_attr_types), ("unicode/utf8.first", laid_unicode_utf8_first)], narrowed := true }
def EntryPacksUptoSaid : Prop := entryPacksUptoRow.holds Tryz.pinned (OpenSpec.upto entryPacksSpec)

/-- 'rollbooklaw17.EntryReads', WHERE WHAT IT READS IS OF BULK AT MOST 1048576: true; the input reads as it did. -/
def entryReadsUptoRow : OpenClaim := { program := "ytcolcogobdgejaagreatdoor", sum := "af491c7bdd1c4b51de1ec47caa4bf707523d376d07512fcd3448de3346e45e06", func := "rollbook/rollbooklaw17.EntryReads", spec := "entryReads", inPlace := ["internal/abi.NoEscape", "internal/bytealg.CountString", "internal/bytealg.IndexByteString", "internal/bytealg.IndexString", "internal/bytealg.MakeNoZero"], unfollowed := true, recurses := true, named := ["unicode/utf8.first", "unicode/utf8.acceptRanges", "internal/bytealg.MaxLen", "rollbook/attr.types"], apart := false, laid := [("unicode/utf8.acceptRanges", laid_unicode_utf8_acceptRanges), ("rollbook/attr.types", laid_rollbook_attr_types), ("unicode/utf8.first", laid_unicode_utf8_first)], narrowed := true }
def EntryReadsUptoSaid : Prop := entryReadsUptoRow.holds Tryz.pinned (OpenSpec.upto entryReadsSpec)

/-- 'rollbooklaw18.SchemaChecks', WHERE WHAT IT READS IS OF BULK AT MOST 1048576: true; the input reads as it did. -/
def schemaChecksUptoRow : OpenClaim := { program := "ytcolcogobdgejaagreatdoor", sum := "af491c7bdd1c4b51de1ec47caa4bf707523d376d07512fcd3448de3346e45e06", func := "rollbook/rollbooklaw18.SchemaChecks", spec := "schemaChecks", inPlace := ["internal/abi.NoEscape", "internal/bytealg.CountString", "internal/bytealg.IndexByteString", "internal/bytealg.IndexString", "internal/bytealg.MakeNoZero"], unfollowed := true, recurses := true, named := ["unicode/utf8.first", "unicode/utf8.acceptRanges", "internal/bytealg.MaxLen", "rollbook/attr.types"], apart := false, laid := [("unicode/utf8.acceptRanges", laid_unicode_utf8_acceptRanges), ("rollbook/attr.types", laid_rollbook_attr_types), ("unicode/utf8.first", laid_unicode_utf8_first)], narrowed := true }
def SchemaChecksUptoSaid : Prop := schemaChecksUptoRow.holds Tryz.pinned (OpenSpec.upto schemaChecksSpec)

/-- 'rollbooklaw18.SchemaClasses', WHERE WHAT IT READS IS OF BULK AT MOST 1048576: true; the input reads as it did. -/
def schemaClassesUptoRow : OpenClaim := { program := "ytcolcogobdgejaagreatdoor", sum := "af491c7bdd1c4b51de1ec47caa4bf707523d376d07512fcd3448de3346e45e06", func := "rollbook/rollbooklaw18.SchemaClasses", spec := "schemaClasses", inPlace := ["internal/abi.NoEscape", "internal/bytealg.CountString", "internal/bytealg.IndexByteString", "internal/bytealg.IndexString", "internal/bytealg.MakeNoZero"], unfollowed := true, recurses := true, named := ["unicode/utf8.first", "unicode/utf8.acceptRanges", "internal/bytealg.MaxLen", "rollbook/attr.types"], apart := false, laid := [("unicode/utf8.acceptRanges", laid_unicode_utf8_acceptRanges), ("rollbook/attr.types", laid_rollbook_attr_types), ("unicode/utf8.first", laid_unicode_utf8_first)], narrowed := true }
def SchemaClassesUptoSaid : Prop := schemaClassesUptoRow.holds Tryz.pinned (OpenSpec.upto schemaClassesSpec)

/-- 'rollbooklaw18.SchemaLess', WHERE WHAT IT READS IS OF BULK AT MOST 1048576: true; the input reads as it did. -/
def schemaLessUptoRow : OpenClaim := { program := "ytcolcogobdgejaagreatdoor", sum := "af491c7bdd1c4b51de1ec47caa4bf707523d376d07512fcd3448de3346e45e06", func := "rollbook/rollbooklaw18.SchemaLess", spec := "schemaLess", inPlace := ["internal/abi.NoEscape", "internal/bytealg.CountString", "internal/bytealg.IndexByteString", "internal/bytealg.IndexString", "internal/bytealg.MakeNoZero"], unfollowed := true, recurses := true, named := ["unicode/utf8.first", "unicode/utf8.acceptRanges", "internal/bytealg.MaxLen", "rollbook/attr.types"], apart := false, laid := [("unicode/utf8.acceptRanges", laid_unicode_utf8_acceptRanges), ("rollbook/attr.types", laid_rollbook_attr_types), ("unicode/utf8.first", laid_unicode_utf8_first)], narrowed := true }
def SchemaLessUptoSaid : Prop := schemaLessUptoRow.holds Tryz.pinned (OpenSpec.upto schemaLessSpec)

/-- 'rollbooklaw21.LdifBuilds', WHERE WHAT IT READS IS OF BULK AT MOST 1048576: true; the input reads as it did. -/
def ldifBuildsUptoRow : OpenClaim := { program := "ytcolcogobdgejaagreatdoor", sum := "af491c7bdd1c4b51de1ec47caa4bf707523d376d07512fcd3448de3346e45e06", func := "rollbook/rollbooklaw21.LdifBuilds", spec := "ldifBuilds", inPlace := ["internal/bytealg.IndexByteString", "internal/bytealg.IndexString", "internal/abi.NoEscape", "internal/bytealg.MakeNoZero", "internal/bytealg.CountString"], unfollowed := true, recurses := true, named := ["internal/bytealg.MaxLen", "unicode/utf8.first", "unicode/utf8.acceptRanges", "rollbook/attr.types"], apart := false, laid := [("unicode/utf8.acceptRanges", laid_unicode_utf8_acceptRanges), ("rollbook/attr.types", laid_rollbook_attr_types), ("unicode/utf8.first", laid_unicode_utf8_first)], narrowed := true }
def LdifBuildsUptoSaid : Prop := ldifBuildsUptoRow.holds Tryz.pinned (OpenSpec.upto ldifBuildsSpec)

/-- 'rollbooklaw21.LdifBack', WHERE WHAT IT READS IS OF BULK AT MOST 1048576: true; the input reads as it did. -/
def ldifBackUptoRow : OpenClaim := { program := "ytcolcogobdgejaagreatdoor", sum := "af491c7bdd1c4b51de1ec47caa4bf707523d376d07512fcd3448de3346e45e06", func := "rollbook/rollbooklaw21.LdifBack", spec := "ldifBack", inPlace := ["internal/bytealg.IndexByteString", "internal/bytealg.IndexString", "internal/abi.NoEscape", "internal/bytealg.CountString", "internal/bytealg.MakeNoZero"], unfollowed := true, recurses := true, named := ["internal/bytealg.MaxLen", "unicode/utf8.first", "unicode/utf8.acceptRanges", "rollbook/attr.types"], apart := false, laid := [("unicode/utf8.acceptRanges", laid_unicode_utf8_acceptRanges), ("rollbook/attr.types", laid_rollbook_attr_types), ("unicode/utf8.first", laid_unicode_utf8_first)], narrowed := true }
def LdifBackUptoSaid : Prop := ldifBackUptoRow.holds Tryz.pinned (OpenSpec.upto ldifBackSpec)

end Rows
end Go.Proofs.YtcolcogobdgejaaGreatDoor

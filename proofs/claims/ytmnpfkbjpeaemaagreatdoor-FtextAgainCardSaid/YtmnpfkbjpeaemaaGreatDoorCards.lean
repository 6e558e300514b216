/-
  DERIVED. GIVEN WITH THE SEED: THE CARDS: each row of YtmnpfkbjpeaemaaGreatDoorRows.lean that lists a variable, with what it lists TIED to the program's text (the seventh form; the later family's looks); each row that meets fmt, with fmt's text TOLD by the authors' own Lean function (tested against real Go, not proved from fmt's source: count such statements apart). THE CARD IS WHAT COUNTS. Prove the row's statement (the work); the ties are given (YtmnpfkbjpeaemaaGreatDoorTie.lean); close each card by the builder's one call (the guide's Derived/Test/ToyasCard.lean, 'card_holds'). Laid BY PROGRAM, IN A SANDBOX (cutbox-door.mjs). By AI agents, Wed Nov 11 2026. No macro, syntax, notation, axiom, sorry.
-/
import Derived.Test.YtmnpfkbjpeaemaaGreatDoorRows
import GoSem.ClaimSeven
namespace Go.Proofs.YtmnpfkbjpeaemaaGreatDoor
namespace Rows

/-- THE TIED CARD OF 'rollbooklaw17.EntryReads'. -/
def entryReadsCard : Claim7 := { stood := { row := entryReadsRow, standIns := [], harness := (true, "657c1670889fb9b5c7cc3ec858fcfa3f379b7bbb09180a02db08e3dc57677ccd"), looks := true }, kinds := [], alts := [], laidByText := true, laidKinds := [.data, .data, .pinned], laidTests := true, laidLooks := .later }
def EntryReadsCardSaid : Prop := Claim7.holds Tryz.pinned (.plain (OpenSpec.ofChange entryReadsSpec)) entryReadsCard

/-- THE TIED CARD OF 'rollbooklaw18.SchemaChecks'. -/
def schemaChecksCard : Claim7 := { stood := { row := schemaChecksRow, standIns := [], harness := (true, "657c1670889fb9b5c7cc3ec858fcfa3f379b7bbb09180a02db08e3dc57677ccd"), looks := true }, kinds := [], alts := [], laidByText := true, laidKinds := [.data, .data, .pinned], laidTests := true, laidLooks := .later }
def SchemaChecksCardSaid : Prop := Claim7.holds Tryz.pinned (.plain (OpenSpec.ofChange schemaChecksSpec)) schemaChecksCard

/-- THE TIED CARD OF 'rollbooklaw18.SchemaClasses'. -/
def schemaClassesCard : Claim7 := { stood := { row := schemaClassesRow, standIns := [], harness := (true, "657c1670889fb9b5c7cc3ec858fcfa3f379b7bbb09180a02db08e3dc57677ccd"), looks := true }, kinds := [], alts := [], laidByText := true, laidKinds := [.data, .data, .pinned], laidTests := true, laidLooks := .later }
def SchemaClassesCardSaid : Prop := Claim7.holds Tryz.pinned (.plain (OpenSpec.ofChange schemaClassesSpec)) schemaClassesCard

/-- THE TIED CARD OF 'rollbooklaw18.SchemaLess'. -/
def schemaLessCard : Claim7 := { stood := { row := schemaLessRow, standIns := [], harness := (true, "657c1670889fb9b5c7cc3ec858fcfa3f379b7bbb09180a02db08e3dc57677ccd"), looks := true }, kinds := [], alts := [], laidByText := true, laidKinds := [.data, .data, .pinned], laidTests := true, laidLooks := .later }
def SchemaLessCardSaid : Prop := Claim7.holds Tryz.pinned (.plain (OpenSpec.ofChange schemaLessSpec)) schemaLessCard

/-- THE TIED CARD OF 'rollbooklaw21.LdifBuilds'. -/
def ldifBuildsCard : Claim7 := { stood := { row := ldifBuildsRow, standIns := [], harness := (true, "657c1670889fb9b5c7cc3ec858fcfa3f379b7bbb09180a02db08e3dc57677ccd"), looks := true }, kinds := [], alts := [], laidByText := true, laidKinds := [.data, .data, .pinned], laidTests := true, laidLooks := .later }
def LdifBuildsCardSaid : Prop := Claim7.holds Tryz.pinned (.plain (OpenSpec.ofChange ldifBuildsSpec)) ldifBuildsCard

/-- THE TIED CARD OF 'rollbooklaw21.LdifBack'. -/
def ldifBackCard : Claim7 := { stood := { row := ldifBackRow, standIns := [], harness := (true, "657c1670889fb9b5c7cc3ec858fcfa3f379b7bbb09180a02db08e3dc57677ccd"), looks := true }, kinds := [], alts := [], laidByText := true, laidKinds := [.data, .data, .pinned], laidTests := true, laidLooks := .later }
def LdifBackCardSaid : Prop := Claim7.holds Tryz.pinned (.plain (OpenSpec.ofChange ldifBackSpec)) ldifBackCard

/-- THE TIED CARD OF 'rollbooklaw19.FilterRules'. -/
def filterRulesCard : Claim7 := { stood := { row := filterRulesRow, standIns := [], harness := (true, "657c1670889fb9b5c7cc3ec858fcfa3f379b7bbb09180a02db08e3dc57677ccd"), looks := true }, kinds := [], alts := [], laidByText := true, laidKinds := [.data, .data, .data, .data, .sentinel, .sentinel, .data, .pinned], laidTests := true, laidLooks := .later }
def FilterRulesCardSaid : Prop := Claim7.holds Tryz.pinned (.plain (OpenSpec.ofChange filterRulesSpec)) filterRulesCard

/-- THE TIED CARD OF 'rollbooklaw19.FilterAsks'. -/
def filterAsksCard : Claim7 := { stood := { row := filterAsksRow, standIns := [], harness := (true, "657c1670889fb9b5c7cc3ec858fcfa3f379b7bbb09180a02db08e3dc57677ccd"), looks := true }, kinds := [], alts := [], laidByText := true, laidKinds := [.data, .data, .data, .data, .sentinel, .sentinel, .data, .pinned], laidTests := true, laidLooks := .later }
def FilterAsksCardSaid : Prop := Claim7.holds Tryz.pinned (.plain (OpenSpec.ofChange filterAsksSpec)) filterAsksCard

/-- THE TIED CARD OF 'rollbooklaw19.FilterRight'. -/
def filterRightCard : Claim7 := { stood := { row := filterRightRow, standIns := [], harness := (true, "657c1670889fb9b5c7cc3ec858fcfa3f379b7bbb09180a02db08e3dc57677ccd"), looks := true }, kinds := [], alts := [], laidByText := true, laidKinds := [.data, .data, .data, .data, .sentinel, .sentinel, .data, .pinned], laidTests := true, laidLooks := .later }
def FilterRightCardSaid : Prop := Claim7.holds Tryz.pinned (.plain (OpenSpec.ofChange filterRightSpec)) filterRightCard

/-- THE TIED CARD OF 'rollbooklaw20.FtextAgain'. -/
def ftextAgainCard : Claim7 := { stood := { row := ftextAgainRow, standIns := [], harness := (true, "657c1670889fb9b5c7cc3ec858fcfa3f379b7bbb09180a02db08e3dc57677ccd"), looks := true }, kinds := [], alts := [], laidByText := true, laidKinds := [.data, .data, .data, .data, .sentinel, .sentinel, .data, .pinned], laidTests := true, laidLooks := .later }
def FtextAgainCardSaid : Prop := Claim7.holds Tryz.pinned (.plain (OpenSpec.ofChange ftextAgainSpec)) ftextAgainCard

/-- THE SECOND FORM's CARD OF 'rollbooklaw17.EntryReads'. -/
def entryReadsUptoCard : Claim7 := { stood := { row := entryReadsUptoRow, standIns := [], harness := (true, "657c1670889fb9b5c7cc3ec858fcfa3f379b7bbb09180a02db08e3dc57677ccd"), looks := true }, kinds := [], alts := [], laidByText := true, laidKinds := [.data, .data, .pinned], laidTests := true, laidLooks := .later }
def EntryReadsUptoCardSaid : Prop := Claim7.holds Tryz.pinned (.plain (OpenSpec.upto entryReadsSpec)) entryReadsUptoCard

/-- THE SECOND FORM's CARD OF 'rollbooklaw18.SchemaChecks'. -/
def schemaChecksUptoCard : Claim7 := { stood := { row := schemaChecksUptoRow, standIns := [], harness := (true, "657c1670889fb9b5c7cc3ec858fcfa3f379b7bbb09180a02db08e3dc57677ccd"), looks := true }, kinds := [], alts := [], laidByText := true, laidKinds := [.data, .data, .pinned], laidTests := true, laidLooks := .later }
def SchemaChecksUptoCardSaid : Prop := Claim7.holds Tryz.pinned (.plain (OpenSpec.upto schemaChecksSpec)) schemaChecksUptoCard

/-- THE SECOND FORM's CARD OF 'rollbooklaw18.SchemaClasses'. -/
def schemaClassesUptoCard : Claim7 := { stood := { row := schemaClassesUptoRow, standIns := [], harness := (true, "657c1670889fb9b5c7cc3ec858fcfa3f379b7bbb09180a02db08e3dc57677ccd"), looks := true }, kinds := [], alts := [], laidByText := true, laidKinds := [.data, .data, .pinned], laidTests := true, laidLooks := .later }
def SchemaClassesUptoCardSaid : Prop := Claim7.holds Tryz.pinned (.plain (OpenSpec.upto schemaClassesSpec)) schemaClassesUptoCard

/-- THE SECOND FORM's CARD OF 'rollbooklaw18.SchemaLess'. -/
def schemaLessUptoCard : Claim7 := { stood := { row := schemaLessUptoRow, standIns := [], harness := (true, "657c1670889fb9b5c7cc3ec858fcfa3f379b7bbb09180a02db08e3dc57677ccd"), looks := true }, kinds := [], alts := [], laidByText := true, laidKinds := [.data, .data, .pinned], laidTests := true, laidLooks := .later }
def SchemaLessUptoCardSaid : Prop := Claim7.holds Tryz.pinned (.plain (OpenSpec.upto schemaLessSpec)) schemaLessUptoCard

/-- THE SECOND FORM's CARD OF 'rollbooklaw21.LdifBuilds'. -/
def ldifBuildsUptoCard : Claim7 := { stood := { row := ldifBuildsUptoRow, standIns := [], harness := (true, "657c1670889fb9b5c7cc3ec858fcfa3f379b7bbb09180a02db08e3dc57677ccd"), looks := true }, kinds := [], alts := [], laidByText := true, laidKinds := [.data, .data, .pinned], laidTests := true, laidLooks := .later }
def LdifBuildsUptoCardSaid : Prop := Claim7.holds Tryz.pinned (.plain (OpenSpec.upto ldifBuildsSpec)) ldifBuildsUptoCard

/-- THE SECOND FORM's CARD OF 'rollbooklaw21.LdifBack'. -/
def ldifBackUptoCard : Claim7 := { stood := { row := ldifBackUptoRow, standIns := [], harness := (true, "657c1670889fb9b5c7cc3ec858fcfa3f379b7bbb09180a02db08e3dc57677ccd"), looks := true }, kinds := [], alts := [], laidByText := true, laidKinds := [.data, .data, .pinned], laidTests := true, laidLooks := .later }
def LdifBackUptoCardSaid : Prop := Claim7.holds Tryz.pinned (.plain (OpenSpec.upto ldifBackSpec)) ldifBackUptoCard

/-- THE SECOND FORM's CARD OF 'rollbooklaw19.FilterRules'. -/
def filterRulesUptoCard : Claim7 := { stood := { row := filterRulesUptoRow, standIns := [], harness := (true, "657c1670889fb9b5c7cc3ec858fcfa3f379b7bbb09180a02db08e3dc57677ccd"), looks := true }, kinds := [], alts := [], laidByText := true, laidKinds := [.data, .data, .data, .data, .sentinel, .sentinel, .data, .pinned], laidTests := true, laidLooks := .later }
def FilterRulesUptoCardSaid : Prop := Claim7.holds Tryz.pinned (.plain (OpenSpec.upto filterRulesSpec)) filterRulesUptoCard

/-- THE SECOND FORM's CARD OF 'rollbooklaw19.FilterAsks'. -/
def filterAsksUptoCard : Claim7 := { stood := { row := filterAsksUptoRow, standIns := [], harness := (true, "657c1670889fb9b5c7cc3ec858fcfa3f379b7bbb09180a02db08e3dc57677ccd"), looks := true }, kinds := [], alts := [], laidByText := true, laidKinds := [.data, .data, .data, .data, .sentinel, .sentinel, .data, .pinned], laidTests := true, laidLooks := .later }
def FilterAsksUptoCardSaid : Prop := Claim7.holds Tryz.pinned (.plain (OpenSpec.upto filterAsksSpec)) filterAsksUptoCard

/-- THE SECOND FORM's CARD OF 'rollbooklaw19.FilterRight'. -/
def filterRightUptoCard : Claim7 := { stood := { row := filterRightUptoRow, standIns := [], harness := (true, "657c1670889fb9b5c7cc3ec858fcfa3f379b7bbb09180a02db08e3dc57677ccd"), looks := true }, kinds := [], alts := [], laidByText := true, laidKinds := [.data, .data, .data, .data, .sentinel, .sentinel, .data, .pinned], laidTests := true, laidLooks := .later }
def FilterRightUptoCardSaid : Prop := Claim7.holds Tryz.pinned (.plain (OpenSpec.upto filterRightSpec)) filterRightUptoCard

/-- THE SECOND FORM's CARD OF 'rollbooklaw20.FtextAgain'. -/
def ftextAgainUptoCard : Claim7 := { stood := { row := ftextAgainUptoRow, standIns := [], harness := (true, "657c1670889fb9b5c7cc3ec858fcfa3f379b7bbb09180a02db08e3dc57677ccd"), looks := true }, kinds := [], alts := [], laidByText := true, laidKinds := [.data, .data, .data, .data, .sentinel, .sentinel, .data, .pinned], laidTests := true, laidLooks := .later }
def FtextAgainUptoCardSaid : Prop := Claim7.holds Tryz.pinned (.plain (OpenSpec.upto ftextAgainSpec)) ftextAgainUptoCard
end Rows
end Go.Proofs.YtmnpfkbjpeaemaaGreatDoor

/-
  DERIVED. GIVEN WITH THE SEED: THE CARDS: each row of YtcolcogobdgejaaGreatDoorRows.lean that lists a variable, with what it lists TIED to the program's text (the seventh form; the later family's looks); each row that meets fmt, with fmt's text TOLD by the authors' own Lean function (tested against real Go, not proved from fmt's source: count such statements apart). THE CARD IS WHAT COUNTS. Prove the row's statement (the work); the ties are given (YtcolcogobdgejaaGreatDoorTie.lean); close each card by the builder's one call (the guide's Derived/Test/ToyasCard.lean, 'card_holds'). Laid BY PROGRAM, IN A SANDBOX (cutbox-door.mjs). By AI agents, Wed Nov 11 2026. No macro, syntax, notation, axiom, sorry.
-/
import Derived.Test.YtcolcogobdgejaaGreatDoorRows
import GoSem.ClaimSeven
namespace Go.Proofs.YtcolcogobdgejaaGreatDoor
namespace Rows

/-- THE TIED CARD OF 'rollbooklaw17.EntryAsks'. -/
def entryAsksCard : Claim7 := { stood := { row := entryAsksRow, standIns := [], harness := (true, "5132cbb02d19d9cedd9d0f9d0a525d143b2dde7b835264d48553f8158f644ad6"), looks := false }, kinds := [], alts := [], laidByText := true, laidKinds := [.data, .data, .pinned], laidTests := true, laidLooks := .later }
def EntryAsksCardSaid : Prop := Claim7.holds Tryz.pinned (.plain (OpenSpec.ofChange entryAsksSpec)) entryAsksCard

/-- THE TIED CARD OF 'rollbooklaw17.EntryBack'. -/
def entryBackCard : Claim7 := { stood := { row := entryBackRow, standIns := [], harness := (true, "5132cbb02d19d9cedd9d0f9d0a525d143b2dde7b835264d48553f8158f644ad6"), looks := false }, kinds := [], alts := [], laidByText := true, laidKinds := [.data, .data, .pinned], laidTests := true, laidLooks := .later }
def EntryBackCardSaid : Prop := Claim7.holds Tryz.pinned (.plain (OpenSpec.ofChange entryBackSpec)) entryBackCard

/-- THE TIED CARD OF 'rollbooklaw17.EntryChanges'. -/
def entryChangesCard : Claim7 := { stood := { row := entryChangesRow, standIns := [], harness := (true, "5132cbb02d19d9cedd9d0f9d0a525d143b2dde7b835264d48553f8158f644ad6"), looks := false }, kinds := [], alts := [], laidByText := true, laidKinds := [.data, .data, .pinned], laidTests := true, laidLooks := .later }
def EntryChangesCardSaid : Prop := Claim7.holds Tryz.pinned (.plain (OpenSpec.ofChange entryChangesSpec)) entryChangesCard

/-- THE TIED CARD OF 'rollbooklaw17.EntryRenames'. -/
def entryRenamesCard : Claim7 := { stood := { row := entryRenamesRow, standIns := [], harness := (true, "5132cbb02d19d9cedd9d0f9d0a525d143b2dde7b835264d48553f8158f644ad6"), looks := false }, kinds := [], alts := [], laidByText := true, laidKinds := [.data, .data, .pinned], laidTests := true, laidLooks := .later }
def EntryRenamesCardSaid : Prop := Claim7.holds Tryz.pinned (.plain (OpenSpec.ofChange entryRenamesSpec)) entryRenamesCard

/-- THE TIED CARD OF 'rollbooklaw17.EntryPacks'. -/
def entryPacksCard : Claim7 := { stood := { row := entryPacksRow, standIns := [], harness := (true, "5132cbb02d19d9cedd9d0f9d0a525d143b2dde7b835264d48553f8158f644ad6"), looks := false }, kinds := [], alts := [], laidByText := true, laidKinds := [.data, .data, .pinned], laidTests := true, laidLooks := .later }
def EntryPacksCardSaid : Prop := Claim7.holds Tryz.pinned (.plain (OpenSpec.ofChange entryPacksSpec)) entryPacksCard

/-- THE TIED CARD OF 'rollbooklaw17.EntryReads'. -/
def entryReadsCard : Claim7 := { stood := { row := entryReadsRow, standIns := [], harness := (true, "5132cbb02d19d9cedd9d0f9d0a525d143b2dde7b835264d48553f8158f644ad6"), looks := false }, kinds := [], alts := [], laidByText := true, laidKinds := [.data, .data, .pinned], laidTests := true, laidLooks := .later }
def EntryReadsCardSaid : Prop := Claim7.holds Tryz.pinned (.plain (OpenSpec.ofChange entryReadsSpec)) entryReadsCard

/-- THE TIED CARD OF 'rollbooklaw18.SchemaChecks'. -/
def schemaChecksCard : Claim7 := { stood := { row := schemaChecksRow, standIns := [], harness := (true, "5132cbb02d19d9cedd9d0f9d0a525d143b2dde7b835264d48553f8158f644ad6"), looks := false }, kinds := [], alts := [], laidByText := true, laidKinds := [.data, .data, .pinned], laidTests := true, laidLooks := .later }
def SchemaChecksCardSaid : Prop := Claim7.holds Tryz.pinned (.plain (OpenSpec.ofChange schemaChecksSpec)) schemaChecksCard

/-- THE TIED CARD OF 'rollbooklaw18.SchemaClasses'. -/
def schemaClassesCard : Claim7 := { stood := { row := schemaClassesRow, standIns := [], harness := (true, "5132cbb02d19d9cedd9d0f9d0a525d143b2dde7b835264d48553f8158f644ad6"), looks := false }, kinds := [], alts := [], laidByText := true, laidKinds := [.data, .data, .pinned], laidTests := true, laidLooks := .later }
def SchemaClassesCardSaid : Prop := Claim7.holds Tryz.pinned (.plain (OpenSpec.ofChange schemaClassesSpec)) schemaClassesCard

/-- THE TIED CARD OF 'rollbooklaw18.SchemaLess'. -/
def schemaLessCard : Claim7 := { stood := { row := schemaLessRow, standIns := [], harness := (true, "5132cbb02d19d9cedd9d0f9d0a525d143b2dde7b835264d48553f8158f644ad6"), looks := false }, kinds := [], alts := [], laidByText := true, laidKinds := [.data, .data, .pinned], laidTests := true, laidLooks := .later }
def SchemaLessCardSaid : Prop := Claim7.holds Tryz.pinned (.plain (OpenSpec.ofChange schemaLessSpec)) schemaLessCard

/-- THE TIED CARD OF 'rollbooklaw21.LdifBuilds'. -/
def ldifBuildsCard : Claim7 := { stood := { row := ldifBuildsRow, standIns := [], harness := (true, "5132cbb02d19d9cedd9d0f9d0a525d143b2dde7b835264d48553f8158f644ad6"), looks := false }, kinds := [], alts := [], laidByText := true, laidKinds := [.data, .data, .pinned], laidTests := true, laidLooks := .later }
def LdifBuildsCardSaid : Prop := Claim7.holds Tryz.pinned (.plain (OpenSpec.ofChange ldifBuildsSpec)) ldifBuildsCard

/-- THE TIED CARD OF 'rollbooklaw21.LdifBack'. -/
def ldifBackCard : Claim7 := { stood := { row := ldifBackRow, standIns := [], harness := (true, "5132cbb02d19d9cedd9d0f9d0a525d143b2dde7b835264d48553f8158f644ad6"), looks := false }, kinds := [], alts := [], laidByText := true, laidKinds := [.data, .data, .pinned], laidTests := true, laidLooks := .later }
def LdifBackCardSaid : Prop := Claim7.holds Tryz.pinned (.plain (OpenSpec.ofChange ldifBackSpec)) ldifBackCard

/-- THE SECOND FORM's CARD OF 'rollbooklaw17.EntryAsks'. -/
def entryAsksUptoCard : Claim7 := { stood := { row := entryAsksUptoRow, standIns := [], harness := (true, "5132cbb02d19d9cedd9d0f9d0a525d143b2dde7b835264d48553f8158f644ad6"), looks := false }, kinds := [], alts := [], laidByText := true, laidKinds := [.data, .data, .pinned], laidTests := true, laidLooks := .later }
def EntryAsksUptoCardSaid : Prop := Claim7.holds Tryz.pinned (.plain (OpenSpec.upto entryAsksSpec)) entryAsksUptoCard

/-- THE SECOND FORM's CARD OF 'rollbooklaw17.EntryBack'. -/
def entryBackUptoCard : Claim7 := { stood := { row := entryBackUptoRow, standIns := [], harness := (true, "5132cbb02d19d9cedd9d0f9d0a525d143b2dde7b835264d48553f8158f644ad6"), looks := false }, kinds := [], alts := [], laidByText := true, laidKinds := [.data, .data, .pinned], laidTests := true, laidLooks := .later }
def EntryBackUptoCardSaid : Prop := Claim7.holds Tryz.pinned (.plain (OpenSpec.upto entryBackSpec)) entryBackUptoCard

/-- THE SECOND FORM's CARD OF 'rollbooklaw17.EntryChanges'. -/
def entryChangesUptoCard : Claim7 := { stood := { row := entryChangesUptoRow, standIns := [], harness := (true, "5132cbb02d19d9cedd9d0f9d0a525d143b2dde7b835264d48553f8158f644ad6"), looks := false }, kinds := [], alts := [], laidByText := true, laidKinds := [.data, .data, .pinned], laidTests := true, laidLooks := .later }
def EntryChangesUptoCardSaid : Prop := Claim7.holds Tryz.pinned (.plain (OpenSpec.upto entryChangesSpec)) entryChangesUptoCard

/-- THE SECOND FORM's CARD OF 'rollbooklaw17.EntryRenames'. -/
def entryRenamesUptoCard : Claim7 := { stood := { row := entryRenamesUptoRow, standIns := [], harness := (true, "5132cbb02d19d9cedd9d0f9d0a525d143b2dde7b835264d48553f8158f644ad6"), looks := false }, kinds := [], alts := [], laidByText := true, laidKinds := [.data, .data, .pinned], laidTests := true, laidLooks := .later }
def EntryRenamesUptoCardSaid : Prop := Claim7.holds Tryz.pinned (.plain (OpenSpec.upto entryRenamesSpec)) entryRenamesUptoCard

/-- THE SECOND FORM's CARD OF 'rollbooklaw17.EntryPacks'. -/
def entryPacksUptoCard : Claim7 := { stood := { row := entryPacksUptoRow, standIns := [], harness := (true, "5132cbb02d19d9cedd9d0f9d0a525d143b2dde7b835264d48553f8158f644ad6"), looks := false }, kinds := [], alts := [], laidByText := true, laidKinds := [.data, .data, .pinned], laidTests := true, laidLooks := .later }
def EntryPacksUptoCardSaid : Prop := Claim7.holds Tryz.pinned (.plain (OpenSpec.upto entryPacksSpec)) entryPacksUptoCard

/-- THE SECOND FORM's CARD OF 'rollbooklaw17.EntryReads'. -/
def entryReadsUptoCard : Claim7 := { stood := { row := entryReadsUptoRow, standIns := [], harness := (true, "5132cbb02d19d9cedd9d0f9d0a525d143b2dde7b835264d48553f8158f644ad6"), looks := false }, kinds := [], alts := [], laidByText := true, laidKinds := [.data, .data, .pinned], laidTests := true, laidLooks := .later }
def EntryReadsUptoCardSaid : Prop := Claim7.holds Tryz.pinned (.plain (OpenSpec.upto entryReadsSpec)) entryReadsUptoCard

/-- THE SECOND FORM's CARD OF 'rollbooklaw18.SchemaChecks'. -/
def schemaChecksUptoCard : Claim7 := { stood := { row := schemaChecksUptoRow, standIns := [], harness := (true, "5132cbb02d19d9cedd9d0f9d0a525d143b2dde7b835264d48553f8158f644ad6"), looks := false }, kinds := [], alts := [], laidByText := true, laidKinds := [.data, .data, .pinned], laidTests := true, laidLooks := .later }
def SchemaChecksUptoCardSaid : Prop := Claim7.holds Tryz.pinned (.plain (OpenSpec.upto schemaChecksSpec)) schemaChecksUptoCard

/-- THE SECOND FORM's CARD OF 'rollbooklaw18.SchemaClasses'. -/
def schemaClassesUptoCard : Claim7 := { stood := { row := schemaClassesUptoRow, standIns := [], harness := (true, "5132cbb02d19d9cedd9d0f9d0a525d143b2dde7b835264d48553f8158f644ad6"), looks := false }, kinds := [], alts := [], laidByText := true, laidKinds := [.data, .data, .pinned], laidTests := true, laidLooks := .later }
def SchemaClassesUptoCardSaid : Prop := Claim7.holds Tryz.pinned (.plain (OpenSpec.upto schemaClassesSpec)) schemaClassesUptoCard

/-- THE SECOND FORM's CARD OF 'rollbooklaw18.SchemaLess'. -/
def schemaLessUptoCard : Claim7 := { stood := { row := schemaLessUptoRow, standIns := [], harness := (true, "5132cbb02d19d9cedd9d0f9d0a525d143b2dde7b835264d48553f8158f644ad6"), looks := false }, kinds := [], alts := [], laidByText := true, laidKinds := [.data, .data, .pinned], laidTests := true, laidLooks := .later }
def SchemaLessUptoCardSaid : Prop := Claim7.holds Tryz.pinned (.plain (OpenSpec.upto schemaLessSpec)) schemaLessUptoCard

/-- THE SECOND FORM's CARD OF 'rollbooklaw21.LdifBuilds'. -/
def ldifBuildsUptoCard : Claim7 := { stood := { row := ldifBuildsUptoRow, standIns := [], harness := (true, "5132cbb02d19d9cedd9d0f9d0a525d143b2dde7b835264d48553f8158f644ad6"), looks := false }, kinds := [], alts := [], laidByText := true, laidKinds := [.data, .data, .pinned], laidTests := true, laidLooks := .later }
def LdifBuildsUptoCardSaid : Prop := Claim7.holds Tryz.pinned (.plain (OpenSpec.upto ldifBuildsSpec)) ldifBuildsUptoCard

/-- THE SECOND FORM's CARD OF 'rollbooklaw21.LdifBack'. -/
def ldifBackUptoCard : Claim7 := { stood := { row := ldifBackUptoRow, standIns := [], harness := (true, "5132cbb02d19d9cedd9d0f9d0a525d143b2dde7b835264d48553f8158f644ad6"), looks := false }, kinds := [], alts := [], laidByText := true, laidKinds := [.data, .data, .pinned], laidTests := true, laidLooks := .later }
def LdifBackUptoCardSaid : Prop := Claim7.holds Tryz.pinned (.plain (OpenSpec.upto ldifBackSpec)) ldifBackUptoCard
end Rows
end Go.Proofs.YtcolcogobdgejaaGreatDoor

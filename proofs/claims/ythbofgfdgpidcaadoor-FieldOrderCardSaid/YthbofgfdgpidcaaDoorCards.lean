/-
  DERIVED. GIVEN WITH THE SEED: THE CARDS: each row of YthbofgfdgpidcaaDoorRows.lean that lists a variable, with what it lists TIED to the program's text (the seventh form; the later family's looks); each row that meets fmt, with fmt's text TOLD by the authors' own Lean function (tested against real Go, not proved from fmt's source: count such statements apart). THE CARD IS WHAT COUNTS. Prove the row's statement (the work); the ties are given (YthbofgfdgpidcaaDoorTie.lean); close each card by the builder's one call (the guide's Derived/Test/ToyasCard.lean, 'card_holds'). Laid BY PROGRAM, IN A SANDBOX (cutbox-door.mjs). By AI agents, Wed Nov 11 2026. No macro, syntax, notation, axiom, sorry.
-/
import Derived.Test.YthbofgfdgpidcaaDoorRows
import GoSem.ClaimSeven
namespace Go.Proofs.YthbofgfdgpidcaaDoor
namespace Rows

/-- THE TIED CARD OF 'rollbooklaw01.FieldNumbers'. -/
def fieldNumbersCard : Claim7 := { stood := { row := fieldNumbersRow, standIns := [], harness := (true, "4d0046d97341f04cb6778c0916c914dfa38cbe91dc87631c1b0680220444f3f3"), looks := false }, kinds := [], alts := [], laidByText := true, laidKinds := [.data, .pinned], laidTests := true, laidLooks := .later }
def FieldNumbersCardSaid : Prop := Claim7.holds Tryd.pinned (.plain (OpenSpec.ofChange fieldNumbersSpec)) fieldNumbersCard

/-- THE TIED CARD OF 'rollbooklaw01.FieldOrder'. -/
def fieldOrderCard : Claim7 := { stood := { row := fieldOrderRow, standIns := [], harness := (true, "4d0046d97341f04cb6778c0916c914dfa38cbe91dc87631c1b0680220444f3f3"), looks := false }, kinds := [], alts := [], laidByText := true, laidKinds := [.data, .pinned], laidTests := true, laidLooks := .later }
def FieldOrderCardSaid : Prop := Claim7.holds Tryd.pinned (.plain (OpenSpec.ofChange fieldOrderSpec)) fieldOrderCard

/-- THE TIED CARD OF 'rollbooklaw01.FieldTuples'. -/
def fieldTuplesCard : Claim7 := { stood := { row := fieldTuplesRow, standIns := [], harness := (true, "4d0046d97341f04cb6778c0916c914dfa38cbe91dc87631c1b0680220444f3f3"), looks := false }, kinds := [], alts := [], laidByText := true, laidKinds := [.data, .pinned], laidTests := true, laidLooks := .later }
def FieldTuplesCardSaid : Prop := Claim7.holds Tryd.pinned (.plain (OpenSpec.ofChange fieldTuplesSpec)) fieldTuplesCard

/-- THE TIED CARD OF 'rollbooklaw01.FieldParts'. -/
def fieldPartsCard : Claim7 := { stood := { row := fieldPartsRow, standIns := [], harness := (true, "4d0046d97341f04cb6778c0916c914dfa38cbe91dc87631c1b0680220444f3f3"), looks := false }, kinds := [], alts := [], laidByText := true, laidKinds := [.data, .pinned], laidTests := true, laidLooks := .later }
def FieldPartsCardSaid : Prop := Claim7.holds Tryd.pinned (.plain (OpenSpec.ofChange fieldPartsSpec)) fieldPartsCard

/-- THE TIED CARD OF 'rollbooklaw01.FieldTexts'. -/
def fieldTextsCard : Claim7 := { stood := { row := fieldTextsRow, standIns := [], harness := (true, "4d0046d97341f04cb6778c0916c914dfa38cbe91dc87631c1b0680220444f3f3"), looks := false }, kinds := [], alts := [], laidByText := true, laidKinds := [.data, .pinned], laidTests := true, laidLooks := .later }
def FieldTextsCardSaid : Prop := Claim7.holds Tryd.pinned (.plain (OpenSpec.ofChange fieldTextsSpec)) fieldTextsCard

/-- THE SECOND FORM's CARD OF 'rollbooklaw01.FieldNumbers'. -/
def fieldNumbersUptoCard : Claim7 := { stood := { row := fieldNumbersUptoRow, standIns := [], harness := (true, "4d0046d97341f04cb6778c0916c914dfa38cbe91dc87631c1b0680220444f3f3"), looks := false }, kinds := [], alts := [], laidByText := true, laidKinds := [.data, .pinned], laidTests := true, laidLooks := .later }
def FieldNumbersUptoCardSaid : Prop := Claim7.holds Tryd.pinned (.plain (OpenSpec.upto fieldNumbersSpec)) fieldNumbersUptoCard

/-- THE SECOND FORM's CARD OF 'rollbooklaw01.FieldOrder'. -/
def fieldOrderUptoCard : Claim7 := { stood := { row := fieldOrderUptoRow, standIns := [], harness := (true, "4d0046d97341f04cb6778c0916c914dfa38cbe91dc87631c1b0680220444f3f3"), looks := false }, kinds := [], alts := [], laidByText := true, laidKinds := [.data, .pinned], laidTests := true, laidLooks := .later }
def FieldOrderUptoCardSaid : Prop := Claim7.holds Tryd.pinned (.plain (OpenSpec.upto fieldOrderSpec)) fieldOrderUptoCard

/-- THE SECOND FORM's CARD OF 'rollbooklaw01.FieldTuples'. -/
def fieldTuplesUptoCard : Claim7 := { stood := { row := fieldTuplesUptoRow, standIns := [], harness := (true, "4d0046d97341f04cb6778c0916c914dfa38cbe91dc87631c1b0680220444f3f3"), looks := false }, kinds := [], alts := [], laidByText := true, laidKinds := [.data, .pinned], laidTests := true, laidLooks := .later }
def FieldTuplesUptoCardSaid : Prop := Claim7.holds Tryd.pinned (.plain (OpenSpec.upto fieldTuplesSpec)) fieldTuplesUptoCard

/-- THE SECOND FORM's CARD OF 'rollbooklaw01.FieldParts'. -/
def fieldPartsUptoCard : Claim7 := { stood := { row := fieldPartsUptoRow, standIns := [], harness := (true, "4d0046d97341f04cb6778c0916c914dfa38cbe91dc87631c1b0680220444f3f3"), looks := false }, kinds := [], alts := [], laidByText := true, laidKinds := [.data, .pinned], laidTests := true, laidLooks := .later }
def FieldPartsUptoCardSaid : Prop := Claim7.holds Tryd.pinned (.plain (OpenSpec.upto fieldPartsSpec)) fieldPartsUptoCard

/-- THE SECOND FORM's CARD OF 'rollbooklaw01.FieldTexts'. -/
def fieldTextsUptoCard : Claim7 := { stood := { row := fieldTextsUptoRow, standIns := [], harness := (true, "4d0046d97341f04cb6778c0916c914dfa38cbe91dc87631c1b0680220444f3f3"), looks := false }, kinds := [], alts := [], laidByText := true, laidKinds := [.data, .pinned], laidTests := true, laidLooks := .later }
def FieldTextsUptoCardSaid : Prop := Claim7.holds Tryd.pinned (.plain (OpenSpec.upto fieldTextsSpec)) fieldTextsUptoCard
end Rows
end Go.Proofs.YthbofgfdgpidcaaDoor

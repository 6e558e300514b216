/-
  DERIVED. GIVEN WITH THE SEED: THE CARDS: each row of YtbadknkhedjfaaaDoorRows.lean that lists a variable, with what it lists TIED to the program's text (the seventh form; the later family's looks); each row that meets fmt, with fmt's text TOLD by the authors' own Lean function (tested against real Go, not proved from fmt's source: count such statements apart). THE CARD IS WHAT COUNTS. Prove the row's statement (the work); the ties are given (YtbadknkhedjfaaaDoorTie.lean); close each card by the builder's one call (the guide's Derived/Test/ToyasCard.lean, 'card_holds'). Laid BY PROGRAM, IN A SANDBOX (cutbox-door.mjs). By AI agents, Wed Nov 11 2026. No macro, syntax, notation, axiom, sorry.
-/
import Derived.Test.YtbadknkhedjfaaaDoorRows
import GoSem.ClaimSeven
namespace Go.Proofs.YtbadknkhedjfaaaDoor
namespace Rows

/-- THE TIED CARD OF 'rollbooklaw13.PrepRunes'. -/
def prepRunesCard : Claim7 := { stood := { row := prepRunesRow, standIns := [], harness := (true, "5803ddb8a0b5e51e4451d02aef89648016af251b28b09b97a0e275ca6024c044"), looks := false }, kinds := [], alts := [], laidByText := true, laidKinds := [.data, .pinned], laidTests := true, laidLooks := .later }
def PrepRunesCardSaid : Prop := Claim7.holds Tryd.pinned (.plain (OpenSpec.ofChange prepRunesSpec)) prepRunesCard

/-- THE TIED CARD OF 'rollbooklaw13.PrepReady'. -/
def prepReadyCard : Claim7 := { stood := { row := prepReadyRow, standIns := [], harness := (true, "5803ddb8a0b5e51e4451d02aef89648016af251b28b09b97a0e275ca6024c044"), looks := false }, kinds := [], alts := [], laidByText := true, laidKinds := [.data, .pinned], laidTests := true, laidLooks := .later }
def PrepReadyCardSaid : Prop := Claim7.holds Tryd.pinned (.plain (OpenSpec.ofChange prepReadySpec)) prepReadyCard

/-- THE TIED CARD OF 'rollbooklaw13.PrepOnce'. -/
def prepOnceCard : Claim7 := { stood := { row := prepOnceRow, standIns := [], harness := (true, "5803ddb8a0b5e51e4451d02aef89648016af251b28b09b97a0e275ca6024c044"), looks := false }, kinds := [], alts := [], laidByText := true, laidKinds := [.data, .pinned], laidTests := true, laidLooks := .later }
def PrepOnceCardSaid : Prop := Claim7.holds Tryd.pinned (.plain (OpenSpec.ofChange prepOnceSpec)) prepOnceCard

/-- THE TIED CARD OF 'rollbooklaw13.PrepSame'. -/
def prepSameCard : Claim7 := { stood := { row := prepSameRow, standIns := [], harness := (true, "5803ddb8a0b5e51e4451d02aef89648016af251b28b09b97a0e275ca6024c044"), looks := false }, kinds := [], alts := [], laidByText := true, laidKinds := [.data, .pinned], laidTests := true, laidLooks := .later }
def PrepSameCardSaid : Prop := Claim7.holds Tryd.pinned (.plain (OpenSpec.ofChange prepSameSpec)) prepSameCard

/-- THE TIED CARD OF 'rollbooklaw13.PrepBlanks'. -/
def prepBlanksCard : Claim7 := { stood := { row := prepBlanksRow, standIns := [], harness := (true, "5803ddb8a0b5e51e4451d02aef89648016af251b28b09b97a0e275ca6024c044"), looks := false }, kinds := [], alts := [], laidByText := true, laidKinds := [.data, .pinned], laidTests := true, laidLooks := .later }
def PrepBlanksCardSaid : Prop := Claim7.holds Tryd.pinned (.plain (OpenSpec.ofChange prepBlanksSpec)) prepBlanksCard

/-- THE SECOND FORM's CARD OF 'rollbooklaw13.PrepRunes'. -/
def prepRunesUptoCard : Claim7 := { stood := { row := prepRunesUptoRow, standIns := [], harness := (true, "5803ddb8a0b5e51e4451d02aef89648016af251b28b09b97a0e275ca6024c044"), looks := false }, kinds := [], alts := [], laidByText := true, laidKinds := [.data, .pinned], laidTests := true, laidLooks := .later }
def PrepRunesUptoCardSaid : Prop := Claim7.holds Tryd.pinned (.plain (OpenSpec.upto prepRunesSpec)) prepRunesUptoCard

/-- THE SECOND FORM's CARD OF 'rollbooklaw13.PrepReady'. -/
def prepReadyUptoCard : Claim7 := { stood := { row := prepReadyUptoRow, standIns := [], harness := (true, "5803ddb8a0b5e51e4451d02aef89648016af251b28b09b97a0e275ca6024c044"), looks := false }, kinds := [], alts := [], laidByText := true, laidKinds := [.data, .pinned], laidTests := true, laidLooks := .later }
def PrepReadyUptoCardSaid : Prop := Claim7.holds Tryd.pinned (.plain (OpenSpec.upto prepReadySpec)) prepReadyUptoCard

/-- THE SECOND FORM's CARD OF 'rollbooklaw13.PrepOnce'. -/
def prepOnceUptoCard : Claim7 := { stood := { row := prepOnceUptoRow, standIns := [], harness := (true, "5803ddb8a0b5e51e4451d02aef89648016af251b28b09b97a0e275ca6024c044"), looks := false }, kinds := [], alts := [], laidByText := true, laidKinds := [.data, .pinned], laidTests := true, laidLooks := .later }
def PrepOnceUptoCardSaid : Prop := Claim7.holds Tryd.pinned (.plain (OpenSpec.upto prepOnceSpec)) prepOnceUptoCard

/-- THE SECOND FORM's CARD OF 'rollbooklaw13.PrepSame'. -/
def prepSameUptoCard : Claim7 := { stood := { row := prepSameUptoRow, standIns := [], harness := (true, "5803ddb8a0b5e51e4451d02aef89648016af251b28b09b97a0e275ca6024c044"), looks := false }, kinds := [], alts := [], laidByText := true, laidKinds := [.data, .pinned], laidTests := true, laidLooks := .later }
def PrepSameUptoCardSaid : Prop := Claim7.holds Tryd.pinned (.plain (OpenSpec.upto prepSameSpec)) prepSameUptoCard

/-- THE SECOND FORM's CARD OF 'rollbooklaw13.PrepBlanks'. -/
def prepBlanksUptoCard : Claim7 := { stood := { row := prepBlanksUptoRow, standIns := [], harness := (true, "5803ddb8a0b5e51e4451d02aef89648016af251b28b09b97a0e275ca6024c044"), looks := false }, kinds := [], alts := [], laidByText := true, laidKinds := [.data, .pinned], laidTests := true, laidLooks := .later }
def PrepBlanksUptoCardSaid : Prop := Claim7.holds Tryd.pinned (.plain (OpenSpec.upto prepBlanksSpec)) prepBlanksUptoCard
end Rows
end Go.Proofs.YtbadknkhedjfaaaDoor

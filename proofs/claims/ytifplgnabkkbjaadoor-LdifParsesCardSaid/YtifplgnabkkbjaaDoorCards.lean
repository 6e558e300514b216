/-
  DERIVED. GIVEN WITH THE SEED: THE CARDS: each row of YtifplgnabkkbjaaDoorRows.lean that lists a variable, with what it lists TIED to the program's text (the seventh form; the later family's looks); each row that meets fmt, with fmt's text TOLD by the authors' own Lean function (tested against real Go, not proved from fmt's source: count such statements apart). THE CARD IS WHAT COUNTS. Prove the row's statement (the work); the ties are given (YtifplgnabkkbjaaDoorTie.lean); close each card by the builder's one call (the guide's Derived/Test/ToyasCard.lean, 'card_holds'). Laid BY PROGRAM, IN A SANDBOX (cutbox-door.mjs). By AI agents, Wed Nov 11 2026. No macro, syntax, notation, axiom, sorry.
-/
import Derived.Test.YtifplgnabkkbjaaDoorRows
import GoSem.ClaimSeven
namespace Go.Proofs.YtifplgnabkkbjaaDoor
namespace Rows

/-- THE TIED CARD OF 'rollbooklaw21.LdifParses'. -/
def ldifParsesCard : Claim7 := { stood := { row := ldifParsesRow, standIns := [], harness := (true, "78a58797fdabe9baf16868fe277c06246bd8a35c32bda63022beb86e07690c66"), looks := false }, kinds := [], alts := [], laidByText := true, laidKinds := [.data, .pinned], laidTests := true, laidLooks := .later }
def LdifParsesCardSaid : Prop := Claim7.holds Tryd.pinned (.plain (OpenSpec.ofChange ldifParsesSpec)) ldifParsesCard

/-- THE SECOND FORM's CARD OF 'rollbooklaw21.LdifParses'. -/
def ldifParsesUptoCard : Claim7 := { stood := { row := ldifParsesUptoRow, standIns := [], harness := (true, "78a58797fdabe9baf16868fe277c06246bd8a35c32bda63022beb86e07690c66"), looks := false }, kinds := [], alts := [], laidByText := true, laidKinds := [.data, .pinned], laidTests := true, laidLooks := .later }
def LdifParsesUptoCardSaid : Prop := Claim7.holds Tryd.pinned (.plain (OpenSpec.upto ldifParsesSpec)) ldifParsesUptoCard
end Rows
end Go.Proofs.YtifplgnabkkbjaaDoor

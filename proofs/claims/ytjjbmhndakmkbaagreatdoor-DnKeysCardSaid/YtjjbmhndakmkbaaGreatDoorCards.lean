/-
  DERIVED. GIVEN WITH THE SEED: THE CARDS: each row of YtjjbmhndakmkbaaGreatDoorRows.lean that lists a variable, with what it lists TIED to the program's text (the seventh form; the later family's looks); each row that meets fmt, with fmt's text TOLD by the authors' own Lean function (tested against real Go, not proved from fmt's source: count such statements apart). THE CARD IS WHAT COUNTS. Prove the row's statement (the work); the ties are given (YtjjbmhndakmkbaaGreatDoorTie.lean); close each card by the builder's one call (the guide's Derived/Test/ToyasCard.lean, 'card_holds'). Laid BY PROGRAM, IN A SANDBOX (cutbox-door.mjs). By AI agents, Wed Nov 11 2026. No macro, syntax, notation, axiom, sorry.
-/
import Derived.Test.YtjjbmhndakmkbaaGreatDoorRows
import GoSem.ClaimSeven
namespace Go.Proofs.YtjjbmhndakmkbaaGreatDoor
namespace Rows

/-- THE TIED CARD OF 'rollbooklaw15.DnUnder'. -/
def dnUnderCard : Claim7 := { stood := { row := dnUnderRow, standIns := [], harness := (true, "94a97b81216322cff15a4edceedf55267b7620635ae890013a9db36db79e403d"), looks := false }, kinds := [], alts := [], laidByText := true, laidKinds := [.data, .pinned], laidTests := true, laidLooks := .later }
def DnUnderCardSaid : Prop := Claim7.holds Tryz.pinned (.plain (OpenSpec.ofChange dnUnderSpec)) dnUnderCard

/-- THE TIED CARD OF 'rollbooklaw15.DnKeys'. -/
def dnKeysCard : Claim7 := { stood := { row := dnKeysRow, standIns := [], harness := (true, "94a97b81216322cff15a4edceedf55267b7620635ae890013a9db36db79e403d"), looks := false }, kinds := [], alts := [], laidByText := true, laidKinds := [.data, .pinned], laidTests := true, laidLooks := .later }
def DnKeysCardSaid : Prop := Claim7.holds Tryz.pinned (.plain (OpenSpec.ofChange dnKeysSpec)) dnKeysCard

/-- THE SECOND FORM's CARD OF 'rollbooklaw15.DnUnder'. -/
def dnUnderUptoCard : Claim7 := { stood := { row := dnUnderUptoRow, standIns := [], harness := (true, "94a97b81216322cff15a4edceedf55267b7620635ae890013a9db36db79e403d"), looks := false }, kinds := [], alts := [], laidByText := true, laidKinds := [.data, .pinned], laidTests := true, laidLooks := .later }
def DnUnderUptoCardSaid : Prop := Claim7.holds Tryz.pinned (.plain (OpenSpec.upto dnUnderSpec)) dnUnderUptoCard

/-- THE SECOND FORM's CARD OF 'rollbooklaw15.DnKeys'. -/
def dnKeysUptoCard : Claim7 := { stood := { row := dnKeysUptoRow, standIns := [], harness := (true, "94a97b81216322cff15a4edceedf55267b7620635ae890013a9db36db79e403d"), looks := false }, kinds := [], alts := [], laidByText := true, laidKinds := [.data, .pinned], laidTests := true, laidLooks := .later }
def DnKeysUptoCardSaid : Prop := Claim7.holds Tryz.pinned (.plain (OpenSpec.upto dnKeysSpec)) dnKeysUptoCard
end Rows
end Go.Proofs.YtjjbmhndakmkbaaGreatDoor

/-
  DERIVED. GIVEN WITH THE SEED: THE CARDS: each row of YtjjbmhndakmkbaaDoorRows.lean that lists a variable, with what it lists TIED to the program's text (the seventh form; the later family's looks); each row that meets fmt, with fmt's text TOLD by the authors' own Lean function (tested against real Go, not proved from fmt's source: count such statements apart). THE CARD IS WHAT COUNTS. Prove the row's statement (the work); the ties are given (YtjjbmhndakmkbaaDoorTie.lean); close each card by the builder's one call (the guide's Derived/Test/ToyasCard.lean, 'card_holds'). Laid BY PROGRAM, IN A SANDBOX (cutbox-door.mjs). By AI agents, Wed Nov 11 2026. No macro, syntax, notation, axiom, sorry.
-/
import Derived.Test.YtjjbmhndakmkbaaDoorRows
import GoSem.ClaimSeven
namespace Go.Proofs.YtjjbmhndakmkbaaDoor
namespace Rows

/-- THE TIED CARD OF 'rollbooklaw15.DnParses'. -/
def dnParsesCard : Claim7 := { stood := { row := dnParsesRow, standIns := [], harness := (true, "6bd88864d4ad8f1ddcdcc99da01e738f58bc31d55f4489794562fe15d445bb88"), looks := false }, kinds := [], alts := [], laidByText := true, laidKinds := [.data, .pinned], laidTests := true, laidLooks := .later }
def DnParsesCardSaid : Prop := Claim7.holds Tryd.pinned (.plain (OpenSpec.ofChange dnParsesSpec)) dnParsesCard

/-- THE TIED CARD OF 'rollbooklaw15.DnPrints'. -/
def dnPrintsCard : Claim7 := { stood := { row := dnPrintsRow, standIns := [], harness := (true, "6bd88864d4ad8f1ddcdcc99da01e738f58bc31d55f4489794562fe15d445bb88"), looks := false }, kinds := [], alts := [], laidByText := true, laidKinds := [.data, .pinned], laidTests := true, laidLooks := .later }
def DnPrintsCardSaid : Prop := Claim7.holds Tryd.pinned (.plain (OpenSpec.ofChange dnPrintsSpec)) dnPrintsCard

/-- THE TIED CARD OF 'rollbooklaw15.DnSame'. -/
def dnSameCard : Claim7 := { stood := { row := dnSameRow, standIns := [], harness := (true, "6bd88864d4ad8f1ddcdcc99da01e738f58bc31d55f4489794562fe15d445bb88"), looks := false }, kinds := [], alts := [], laidByText := true, laidKinds := [.data, .pinned], laidTests := true, laidLooks := .later }
def DnSameCardSaid : Prop := Claim7.holds Tryd.pinned (.plain (OpenSpec.ofChange dnSameSpec)) dnSameCard

/-- THE SECOND FORM's CARD OF 'rollbooklaw15.DnParses'. -/
def dnParsesUptoCard : Claim7 := { stood := { row := dnParsesUptoRow, standIns := [], harness := (true, "6bd88864d4ad8f1ddcdcc99da01e738f58bc31d55f4489794562fe15d445bb88"), looks := false }, kinds := [], alts := [], laidByText := true, laidKinds := [.data, .pinned], laidTests := true, laidLooks := .later }
def DnParsesUptoCardSaid : Prop := Claim7.holds Tryd.pinned (.plain (OpenSpec.upto dnParsesSpec)) dnParsesUptoCard

/-- THE SECOND FORM's CARD OF 'rollbooklaw15.DnPrints'. -/
def dnPrintsUptoCard : Claim7 := { stood := { row := dnPrintsUptoRow, standIns := [], harness := (true, "6bd88864d4ad8f1ddcdcc99da01e738f58bc31d55f4489794562fe15d445bb88"), looks := false }, kinds := [], alts := [], laidByText := true, laidKinds := [.data, .pinned], laidTests := true, laidLooks := .later }
def DnPrintsUptoCardSaid : Prop := Claim7.holds Tryd.pinned (.plain (OpenSpec.upto dnPrintsSpec)) dnPrintsUptoCard

/-- THE SECOND FORM's CARD OF 'rollbooklaw15.DnSame'. -/
def dnSameUptoCard : Claim7 := { stood := { row := dnSameUptoRow, standIns := [], harness := (true, "6bd88864d4ad8f1ddcdcc99da01e738f58bc31d55f4489794562fe15d445bb88"), looks := false }, kinds := [], alts := [], laidByText := true, laidKinds := [.data, .pinned], laidTests := true, laidLooks := .later }
def DnSameUptoCardSaid : Prop := Claim7.holds Tryd.pinned (.plain (OpenSpec.upto dnSameSpec)) dnSameUptoCard
end Rows
end Go.Proofs.YtjjbmhndakmkbaaDoor

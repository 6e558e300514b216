/-
  DERIVED. GIVEN WITH THE SEED: THE CARDS: each row of YtckpiaigoeicfaaGreatDoorRows.lean that lists a variable, with what it lists TIED to the program's text (the seventh form; the later family's looks); each row that meets fmt, with fmt's text TOLD by the authors' own Lean function (tested against real Go, not proved from fmt's source: count such statements apart). THE CARD IS WHAT COUNTS. Prove the row's statement (the work); the ties are given (YtckpiaigoeicfaaGreatDoorTie.lean); close each card by the builder's one call (the guide's Derived/Test/ToyasCard.lean, 'card_holds'). Laid BY PROGRAM, IN A SANDBOX (cutbox-door.mjs). By AI agents, Wed Nov 11 2026. No macro, syntax, notation, axiom, sorry.
-/
import Derived.Test.YtckpiaigoeicfaaGreatDoorRows
import GoSem.ClaimSeven
namespace Go.Proofs.YtckpiaigoeicfaaGreatDoor
namespace Rows

/-- THE TIED CARD OF 'rollbooklaw16.AttrHolds'. -/
def attrHoldsCard : Claim7 := { stood := { row := attrHoldsRow, standIns := [], harness := (true, "3e73a1051b54d5615e4126e7d57c5b0d9d10a2c5200b59b9563f0ec0643d0e1f"), looks := true }, kinds := [], alts := [], laidByText := true, laidKinds := [.data, .data, .data, .data, .sentinel, .sentinel, .data, .pinned], laidTests := true, laidLooks := .later }
def AttrHoldsCardSaid : Prop := Claim7.holds Tryz.pinned (.plain (OpenSpec.ofChange attrHoldsSpec)) attrHoldsCard

/-- THE TIED CARD OF 'rollbooklaw16.AttrParts'. -/
def attrPartsCard : Claim7 := { stood := { row := attrPartsRow, standIns := [], harness := (true, "3e73a1051b54d5615e4126e7d57c5b0d9d10a2c5200b59b9563f0ec0643d0e1f"), looks := true }, kinds := [], alts := [], laidByText := true, laidKinds := [.data, .data, .data, .data, .sentinel, .sentinel, .data, .pinned], laidTests := true, laidLooks := .later }
def AttrPartsCardSaid : Prop := Claim7.holds Tryz.pinned (.plain (OpenSpec.ofChange attrPartsSpec)) attrPartsCard

/-- THE TIED CARD OF 'rollbooklaw16.AttrEnds'. -/
def attrEndsCard : Claim7 := { stood := { row := attrEndsRow, standIns := [], harness := (true, "3e73a1051b54d5615e4126e7d57c5b0d9d10a2c5200b59b9563f0ec0643d0e1f"), looks := true }, kinds := [], alts := [], laidByText := true, laidKinds := [.data, .data, .data, .data, .sentinel, .sentinel, .data, .pinned], laidTests := true, laidLooks := .later }
def AttrEndsCardSaid : Prop := Claim7.holds Tryz.pinned (.plain (OpenSpec.ofChange attrEndsSpec)) attrEndsCard

/-- THE TIED CARD OF 'rollbooklaw16.AttrNormals'. -/
def attrNormalsCard : Claim7 := { stood := { row := attrNormalsRow, standIns := [], harness := (true, "3e73a1051b54d5615e4126e7d57c5b0d9d10a2c5200b59b9563f0ec0643d0e1f"), looks := true }, kinds := [], alts := [], laidByText := true, laidKinds := [.data, .data, .data, .data, .sentinel, .sentinel, .data, .pinned], laidTests := true, laidLooks := .later }
def AttrNormalsCardSaid : Prop := Claim7.holds Tryz.pinned (.plain (OpenSpec.ofChange attrNormalsSpec)) attrNormalsCard

/-- THE TIED CARD OF 'rollbooklaw16.AttrOrder'. -/
def attrOrderCard : Claim7 := { stood := { row := attrOrderRow, standIns := [], harness := (true, "3e73a1051b54d5615e4126e7d57c5b0d9d10a2c5200b59b9563f0ec0643d0e1f"), looks := true }, kinds := [], alts := [], laidByText := true, laidKinds := [.data, .data, .data, .data, .sentinel, .sentinel, .data, .pinned], laidTests := true, laidLooks := .later }
def AttrOrderCardSaid : Prop := Claim7.holds Tryz.pinned (.plain (OpenSpec.ofChange attrOrderSpec)) attrOrderCard

/-- THE TIED CARD OF 'rollbooklaw16.AttrFinds'. -/
def attrFindsCard : Claim7 := { stood := { row := attrFindsRow, standIns := [], harness := (true, "3e73a1051b54d5615e4126e7d57c5b0d9d10a2c5200b59b9563f0ec0643d0e1f"), looks := true }, kinds := [], alts := [], laidByText := true, laidKinds := [.data, .data, .data, .data, .sentinel, .sentinel, .data, .pinned], laidTests := true, laidLooks := .later }
def AttrFindsCardSaid : Prop := Claim7.holds Tryz.pinned (.plain (OpenSpec.ofChange attrFindsSpec)) attrFindsCard

/-- THE SECOND FORM's CARD OF 'rollbooklaw16.AttrHolds'. -/
def attrHoldsUptoCard : Claim7 := { stood := { row := attrHoldsUptoRow, standIns := [], harness := (true, "3e73a1051b54d5615e4126e7d57c5b0d9d10a2c5200b59b9563f0ec0643d0e1f"), looks := true }, kinds := [], alts := [], laidByText := true, laidKinds := [.data, .data, .data, .data, .sentinel, .sentinel, .data, .pinned], laidTests := true, laidLooks := .later }
def AttrHoldsUptoCardSaid : Prop := Claim7.holds Tryz.pinned (.plain (OpenSpec.upto attrHoldsSpec)) attrHoldsUptoCard

/-- THE SECOND FORM's CARD OF 'rollbooklaw16.AttrParts'. -/
def attrPartsUptoCard : Claim7 := { stood := { row := attrPartsUptoRow, standIns := [], harness := (true, "3e73a1051b54d5615e4126e7d57c5b0d9d10a2c5200b59b9563f0ec0643d0e1f"), looks := true }, kinds := [], alts := [], laidByText := true, laidKinds := [.data, .data, .data, .data, .sentinel, .sentinel, .data, .pinned], laidTests := true, laidLooks := .later }
def AttrPartsUptoCardSaid : Prop := Claim7.holds Tryz.pinned (.plain (OpenSpec.upto attrPartsSpec)) attrPartsUptoCard

/-- THE SECOND FORM's CARD OF 'rollbooklaw16.AttrEnds'. -/
def attrEndsUptoCard : Claim7 := { stood := { row := attrEndsUptoRow, standIns := [], harness := (true, "3e73a1051b54d5615e4126e7d57c5b0d9d10a2c5200b59b9563f0ec0643d0e1f"), looks := true }, kinds := [], alts := [], laidByText := true, laidKinds := [.data, .data, .data, .data, .sentinel, .sentinel, .data, .pinned], laidTests := true, laidLooks := .later }
def AttrEndsUptoCardSaid : Prop := Claim7.holds Tryz.pinned (.plain (OpenSpec.upto attrEndsSpec)) attrEndsUptoCard

/-- THE SECOND FORM's CARD OF 'rollbooklaw16.AttrNormals'. -/
def attrNormalsUptoCard : Claim7 := { stood := { row := attrNormalsUptoRow, standIns := [], harness := (true, "3e73a1051b54d5615e4126e7d57c5b0d9d10a2c5200b59b9563f0ec0643d0e1f"), looks := true }, kinds := [], alts := [], laidByText := true, laidKinds := [.data, .data, .data, .data, .sentinel, .sentinel, .data, .pinned], laidTests := true, laidLooks := .later }
def AttrNormalsUptoCardSaid : Prop := Claim7.holds Tryz.pinned (.plain (OpenSpec.upto attrNormalsSpec)) attrNormalsUptoCard

/-- THE SECOND FORM's CARD OF 'rollbooklaw16.AttrOrder'. -/
def attrOrderUptoCard : Claim7 := { stood := { row := attrOrderUptoRow, standIns := [], harness := (true, "3e73a1051b54d5615e4126e7d57c5b0d9d10a2c5200b59b9563f0ec0643d0e1f"), looks := true }, kinds := [], alts := [], laidByText := true, laidKinds := [.data, .data, .data, .data, .sentinel, .sentinel, .data, .pinned], laidTests := true, laidLooks := .later }
def AttrOrderUptoCardSaid : Prop := Claim7.holds Tryz.pinned (.plain (OpenSpec.upto attrOrderSpec)) attrOrderUptoCard

/-- THE SECOND FORM's CARD OF 'rollbooklaw16.AttrFinds'. -/
def attrFindsUptoCard : Claim7 := { stood := { row := attrFindsUptoRow, standIns := [], harness := (true, "3e73a1051b54d5615e4126e7d57c5b0d9d10a2c5200b59b9563f0ec0643d0e1f"), looks := true }, kinds := [], alts := [], laidByText := true, laidKinds := [.data, .data, .data, .data, .sentinel, .sentinel, .data, .pinned], laidTests := true, laidLooks := .later }
def AttrFindsUptoCardSaid : Prop := Claim7.holds Tryz.pinned (.plain (OpenSpec.upto attrFindsSpec)) attrFindsUptoCard
end Rows
end Go.Proofs.YtckpiaigoeicfaaGreatDoor

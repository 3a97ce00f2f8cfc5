/-
  DERIVED. GIVEN WITH THE SEED: THE CARDS: each row of YtecaoigobpekdaaGreatDoorRows.lean that lists a variable, with what it lists TIED to the program's text (the seventh form; the later family's looks); each row that meets fmt, with fmt's text TOLD by the authors' own Lean function (tested against real Go, not proved from fmt's source: count such statements apart). THE CARD IS WHAT COUNTS. Prove the row's statement (the work); the ties are given (YtecaoigobpekdaaGreatDoorTie.lean); close each card by the builder's one call (the guide's Derived/Test/ToyasCard.lean, 'card_holds'). Laid BY PROGRAM, IN A SANDBOX (cutbox-door.mjs). By AI agents, Wed Nov 11 2026. No macro, syntax, notation, axiom, sorry.
-/
import Derived.Test.YtecaoigobpekdaaGreatDoorRows
import GoSem.ClaimSeven
namespace Go.Proofs.YtecaoigobpekdaaGreatDoor
namespace Rows

/-- THE TIED CARD OF 'shellgamelaw20.ShapeTraces'. -/
def shapeTracesCard : Claim7 := { stood := { row := shapeTracesRow, standIns := [], harness := (true, "5102714ae3b8f9e7cc2a442b1bf7a7629b30f73464df6ede8457e2caee05b570"), looks := true }, kinds := [], alts := [], laidByText := true, laidKinds := [.handle], laidTests := true, laidLooks := .later }
def ShapeTracesCardSaid : Prop := Claim7.holds Tryz.pinned (.plain (OpenSpec.ofChange shapeTracesSpec)) shapeTracesCard

/-- THE TIED CARD OF 'shellgamelaw20.ShapeParts'. -/
def shapePartsCard : Claim7 := { stood := { row := shapePartsRow, standIns := [], harness := (true, "5102714ae3b8f9e7cc2a442b1bf7a7629b30f73464df6ede8457e2caee05b570"), looks := true }, kinds := [], alts := [], laidByText := true, laidKinds := [.handle], laidTests := true, laidLooks := .later }
def ShapePartsCardSaid : Prop := Claim7.holds Tryz.pinned (.plain (OpenSpec.ofChange shapePartsSpec)) shapePartsCard

/-- THE TIED CARD OF 'shellgamelaw20.ShapeNodes'. -/
def shapeNodesCard : Claim7 := { stood := { row := shapeNodesRow, standIns := [], harness := (true, "5102714ae3b8f9e7cc2a442b1bf7a7629b30f73464df6ede8457e2caee05b570"), looks := true }, kinds := [], alts := [], laidByText := true, laidKinds := [.handle], laidTests := true, laidLooks := .later }
def ShapeNodesCardSaid : Prop := Claim7.holds Tryz.pinned (.plain (OpenSpec.ofChange shapeNodesSpec)) shapeNodesCard

/-- THE TIED CARD OF 'shellgamelaw20.ShapeCounts'. -/
def shapeCountsCard : Claim7 := { stood := { row := shapeCountsRow, standIns := [], harness := (true, "5102714ae3b8f9e7cc2a442b1bf7a7629b30f73464df6ede8457e2caee05b570"), looks := true }, kinds := [], alts := [], laidByText := true, laidKinds := [.handle], laidTests := true, laidLooks := .later }
def ShapeCountsCardSaid : Prop := Claim7.holds Tryz.pinned (.plain (OpenSpec.ofChange shapeCountsSpec)) shapeCountsCard

/-- THE TIED CARD OF 'shellgamelaw20.ShapeWithin'. -/
def shapeWithinCard : Claim7 := { stood := { row := shapeWithinRow, standIns := [], harness := (true, "5102714ae3b8f9e7cc2a442b1bf7a7629b30f73464df6ede8457e2caee05b570"), looks := true }, kinds := [], alts := [], laidByText := true, laidKinds := [.handle], laidTests := true, laidLooks := .later }
def ShapeWithinCardSaid : Prop := Claim7.holds Tryz.pinned (.plain (OpenSpec.ofChange shapeWithinSpec)) shapeWithinCard

/-- THE SECOND FORM's CARD OF 'shellgamelaw20.ShapeTraces'. -/
def shapeTracesUptoCard : Claim7 := { stood := { row := shapeTracesUptoRow, standIns := [], harness := (true, "5102714ae3b8f9e7cc2a442b1bf7a7629b30f73464df6ede8457e2caee05b570"), looks := true }, kinds := [], alts := [], laidByText := true, laidKinds := [.handle], laidTests := true, laidLooks := .later }
def ShapeTracesUptoCardSaid : Prop := Claim7.holds Tryz.pinned (.plain (OpenSpec.upto shapeTracesSpec)) shapeTracesUptoCard

/-- THE SECOND FORM's CARD OF 'shellgamelaw20.ShapeParts'. -/
def shapePartsUptoCard : Claim7 := { stood := { row := shapePartsUptoRow, standIns := [], harness := (true, "5102714ae3b8f9e7cc2a442b1bf7a7629b30f73464df6ede8457e2caee05b570"), looks := true }, kinds := [], alts := [], laidByText := true, laidKinds := [.handle], laidTests := true, laidLooks := .later }
def ShapePartsUptoCardSaid : Prop := Claim7.holds Tryz.pinned (.plain (OpenSpec.upto shapePartsSpec)) shapePartsUptoCard

/-- THE SECOND FORM's CARD OF 'shellgamelaw20.ShapeNodes'. -/
def shapeNodesUptoCard : Claim7 := { stood := { row := shapeNodesUptoRow, standIns := [], harness := (true, "5102714ae3b8f9e7cc2a442b1bf7a7629b30f73464df6ede8457e2caee05b570"), looks := true }, kinds := [], alts := [], laidByText := true, laidKinds := [.handle], laidTests := true, laidLooks := .later }
def ShapeNodesUptoCardSaid : Prop := Claim7.holds Tryz.pinned (.plain (OpenSpec.upto shapeNodesSpec)) shapeNodesUptoCard

/-- THE SECOND FORM's CARD OF 'shellgamelaw20.ShapeCounts'. -/
def shapeCountsUptoCard : Claim7 := { stood := { row := shapeCountsUptoRow, standIns := [], harness := (true, "5102714ae3b8f9e7cc2a442b1bf7a7629b30f73464df6ede8457e2caee05b570"), looks := true }, kinds := [], alts := [], laidByText := true, laidKinds := [.handle], laidTests := true, laidLooks := .later }
def ShapeCountsUptoCardSaid : Prop := Claim7.holds Tryz.pinned (.plain (OpenSpec.upto shapeCountsSpec)) shapeCountsUptoCard

/-- THE SECOND FORM's CARD OF 'shellgamelaw20.ShapeWithin'. -/
def shapeWithinUptoCard : Claim7 := { stood := { row := shapeWithinUptoRow, standIns := [], harness := (true, "5102714ae3b8f9e7cc2a442b1bf7a7629b30f73464df6ede8457e2caee05b570"), looks := true }, kinds := [], alts := [], laidByText := true, laidKinds := [.handle], laidTests := true, laidLooks := .later }
def ShapeWithinUptoCardSaid : Prop := Claim7.holds Tryz.pinned (.plain (OpenSpec.upto shapeWithinSpec)) shapeWithinUptoCard
end Rows
end Go.Proofs.YtecaoigobpekdaaGreatDoor

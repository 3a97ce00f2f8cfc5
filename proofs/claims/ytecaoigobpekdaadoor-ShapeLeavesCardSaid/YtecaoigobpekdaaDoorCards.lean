/-
  DERIVED. GIVEN WITH THE SEED: THE CARDS: each row of YtecaoigobpekdaaDoorRows.lean that lists a variable, with what it lists TIED to the program's text (the seventh form; the later family's looks); each row that meets fmt, with fmt's text TOLD by the authors' own Lean function (tested against real Go, not proved from fmt's source: count such statements apart). THE CARD IS WHAT COUNTS. Prove the row's statement (the work); the ties are given (YtecaoigobpekdaaDoorTie.lean); close each card by the builder's one call (the guide's Derived/Test/ToyasCard.lean, 'card_holds'). Laid BY PROGRAM, IN A SANDBOX (cutbox-door.mjs). By AI agents, Wed Nov 11 2026. No macro, syntax, notation, axiom, sorry.
-/
import Derived.Test.YtecaoigobpekdaaDoorRows
import GoSem.ClaimSeven
namespace Go.Proofs.YtecaoigobpekdaaDoor
namespace Rows

/-- THE TIED CARD OF 'shellgamelaw20.ShapeLeaves'. -/
def shapeLeavesCard : Claim7 := { stood := { row := shapeLeavesRow, standIns := [], harness := (true, "a842df53789d1364f91f94f80b1a5db9a1c87ca0d5a55c479fbb299a04596a12"), looks := true }, kinds := [], alts := [], laidByText := true, laidKinds := [.handle], laidTests := true, laidLooks := .later }
def ShapeLeavesCardSaid : Prop := Claim7.holds Tryd.pinned (.plain (OpenSpec.ofChange shapeLeavesSpec)) shapeLeavesCard

/-- THE SECOND FORM's CARD OF 'shellgamelaw20.ShapeLeaves'. -/
def shapeLeavesUptoCard : Claim7 := { stood := { row := shapeLeavesUptoRow, standIns := [], harness := (true, "a842df53789d1364f91f94f80b1a5db9a1c87ca0d5a55c479fbb299a04596a12"), looks := true }, kinds := [], alts := [], laidByText := true, laidKinds := [.handle], laidTests := true, laidLooks := .later }
def ShapeLeavesUptoCardSaid : Prop := Claim7.holds Tryd.pinned (.plain (OpenSpec.upto shapeLeavesSpec)) shapeLeavesUptoCard
end Rows
end Go.Proofs.YtecaoigobpekdaaDoor

/-
  NARROWER THAN 'FOR EVERY INPUT', by the rows' own cells (each row's printed sentence says how): ShapeTraces: laid · ShapeParts: laid · ShapeNodes: laid · ShapeCounts: laid · ShapeWithin: laid.
  DERIVED. THE GIVEN ROWS OF THIS SEAT. 5 by the template 'for every input the law returns true; each argument reads behind the call as it read before'; 0 by the template 'total and deterministic' (their statements: YtecaoigobpekdaaGreatDoorTotals.lean).
  GIVEN WITH THE SEED: the statements are not yours to turn. If you find one false, say at which input.
  Laid BY PROGRAM, IN A SANDBOX (cutbox-rows.mjs): the forced cells as the released guide's own fill.sh prints them over the translation fc4d1d913e6ecdf4… (all of the seat's roots in one cut). By AI agents, Wed Nov 11 2026. No macro, syntax, notation, axiom, sorry.
-/
import Derived.Test.YtecaoigobpekdaaGreatDoorChecked
import GoSem.Claim
import GoSem.ClaimJoined
import GoSem.ClaimMapViews
import Derived.JoinedTies
import Derived.KernelRfl
namespace Go.Proofs.YtecaoigobpekdaaGreatDoor
/- THE CELL 'sum', in the pinned program and in every row, IS THE sha256 OF THE DUMP (.gsa) THAT YtecaoigobpekdaaGreatDoorProg.lean LOADS. Nothing in Lean hashes anything: it is a label: what it is worth is what the hold of that sum in a sandbox is worth. -/
noncomputable def Tryz.pinned : Pinned := { name := "ytecaoigobpekdaagreatdoor", sum := "fc4d1d913e6ecdf47fb74150a47bd3f39c4b9b4aec453711d20d80e8bc512bd6", checked := Tryz.checked }
namespace Rows
def none {H : Type} : Left H := { results := [], args := [] }

/- WHAT THE LISTED PACKAGE-LEVEL VARIABLES READ AS WHEN THE CALL BEGINS. Each datum BY PROGRAM (the guide's laid-datum.mjs) off the statement by which the dump's own 'gosem.cut.vars' lays the variable. In a bare row this is a premise. The card (YtecaoigobpekdaaGreatDoorCards.lean) ties it to the program's text. -/
def laid_errors_errorType {H : Type} : DataW H := .iface "internal/reflectlite.rtype" (.agg [.ptr (.lit (.string [101, 114, 114, 111, 114]))])

/-- 'shellgamelaw20.ShapeTraces': WHATEVER THE INPUT: true; the input reads as it did. -/
def shapeTracesSpec : ChangeSpec := { name := "shapeTraces", fn := fun _ => fun
  | [d1, d2, d3, d4] => { results := [.lit (.bool true)], args := [d1, d2, d3, d4] }
  | _ => none }
def shapeTracesRow : OpenClaim := { program := "ytecaoigobpekdaagreatdoor", sum := "fc4d1d913e6ecdf47fb74150a47bd3f39c4b9b4aec453711d20d80e8bc512bd6", func := "shellgame/shellgamelaw20.ShapeTraces", spec := "shapeTraces", inPlace := ["internal/reflectlite.ValueOf", "(internal/reflectlite.Value).Type", "(internal/reflectlite.Value).IsNil", "internal/reflectlite.TypeOf", "(internal/reflectlite.Value).Elem", "(internal/reflectlite.Value).Set"], unfollowed := true, recurses := true, named := ["errors.errorType"], apart := false, laid := [("errors.errorType", laid_errors_errorType)] }
def ShapeTracesSaid : Prop := shapeTracesRow.holds Tryz.pinned (OpenSpec.ofChange shapeTracesSpec)

/-- ITS FALSE NEIGHBOUR: 'it returns false'. Refute it at one input. -/
def shapeTracesWrong : ChangeSpec := { name := "shapeTraces", fn := fun _ => fun
  | [d1, d2, d3, d4] => { results := [.lit (.bool false)], args := [d1, d2, d3, d4] }
  | _ => none }
def ShapeTracesWrongFalsely : Prop := shapeTracesRow.holds Tryz.pinned (OpenSpec.ofChange shapeTracesWrong)

/-- 'shellgamelaw20.ShapeParts': WHATEVER THE INPUT: true; the input reads as it did. -/
def shapePartsSpec : ChangeSpec := { name := "shapeParts", fn := fun _ => fun
  | [d1, d2] => { results := [.lit (.bool true)], args := [d1, d2] }
  | _ => none }
def shapePartsRow : OpenClaim := { program := "ytecaoigobpekdaagreatdoor", sum := "fc4d1d913e6ecdf47fb74150a47bd3f39c4b9b4aec453711d20d80e8bc512bd6", func := "shellgame/shellgamelaw20.ShapeParts", spec := "shapeParts", inPlace := ["internal/reflectlite.ValueOf", "(internal/reflectlite.Value).Type", "(internal/reflectlite.Value).IsNil", "internal/reflectlite.TypeOf", "(internal/reflectlite.Value).Elem", "(internal/reflectlite.Value).Set"], unfollowed := true, recurses := true, named := ["errors.errorType"], apart := false, laid := [("errors.errorType", laid_errors_errorType)] }
def ShapePartsSaid : Prop := shapePartsRow.holds Tryz.pinned (OpenSpec.ofChange shapePartsSpec)

/-- ITS FALSE NEIGHBOUR: 'it returns false'. Refute it at one input. -/
def shapePartsWrong : ChangeSpec := { name := "shapeParts", fn := fun _ => fun
  | [d1, d2] => { results := [.lit (.bool false)], args := [d1, d2] }
  | _ => none }
def ShapePartsWrongFalsely : Prop := shapePartsRow.holds Tryz.pinned (OpenSpec.ofChange shapePartsWrong)

/-- 'shellgamelaw20.ShapeNodes': WHATEVER THE INPUT: true; the input reads as it did. -/
def shapeNodesSpec : ChangeSpec := { name := "shapeNodes", fn := fun _ => fun
  | [d] => { results := [.lit (.bool true)], args := [d] }
  | _ => none }
def shapeNodesRow : OpenClaim := { program := "ytecaoigobpekdaagreatdoor", sum := "fc4d1d913e6ecdf47fb74150a47bd3f39c4b9b4aec453711d20d80e8bc512bd6", func := "shellgame/shellgamelaw20.ShapeNodes", spec := "shapeNodes", inPlace := ["internal/reflectlite.ValueOf", "(internal/reflectlite.Value).Type", "(internal/reflectlite.Value).IsNil", "internal/reflectlite.TypeOf", "(internal/reflectlite.Value).Elem", "(internal/reflectlite.Value).Set"], unfollowed := true, recurses := true, named := ["errors.errorType"], apart := false, laid := [("errors.errorType", laid_errors_errorType)] }
def ShapeNodesSaid : Prop := shapeNodesRow.holds Tryz.pinned (OpenSpec.ofChange shapeNodesSpec)

/-- ITS FALSE NEIGHBOUR: 'it returns false'. Refute it at one input. -/
def shapeNodesWrong : ChangeSpec := { name := "shapeNodes", fn := fun _ => fun
  | [d] => { results := [.lit (.bool false)], args := [d] }
  | _ => none }
def ShapeNodesWrongFalsely : Prop := shapeNodesRow.holds Tryz.pinned (OpenSpec.ofChange shapeNodesWrong)

/-- 'shellgamelaw20.ShapeCounts': WHATEVER THE INPUT: true; the input reads as it did. -/
def shapeCountsSpec : ChangeSpec := { name := "shapeCounts", fn := fun _ => fun
  | [d] => { results := [.lit (.bool true)], args := [d] }
  | _ => none }
def shapeCountsRow : OpenClaim := { program := "ytecaoigobpekdaagreatdoor", sum := "fc4d1d913e6ecdf47fb74150a47bd3f39c4b9b4aec453711d20d80e8bc512bd6", func := "shellgame/shellgamelaw20.ShapeCounts", spec := "shapeCounts", inPlace := ["internal/reflectlite.ValueOf", "(internal/reflectlite.Value).Type", "(internal/reflectlite.Value).IsNil", "internal/reflectlite.TypeOf", "(internal/reflectlite.Value).Elem", "(internal/reflectlite.Value).Set"], unfollowed := true, recurses := true, named := ["errors.errorType"], apart := false, laid := [("errors.errorType", laid_errors_errorType)] }
def ShapeCountsSaid : Prop := shapeCountsRow.holds Tryz.pinned (OpenSpec.ofChange shapeCountsSpec)

/-- ITS FALSE NEIGHBOUR: 'it returns false'. Refute it at one input. -/
def shapeCountsWrong : ChangeSpec := { name := "shapeCounts", fn := fun _ => fun
  | [d] => { results := [.lit (.bool false)], args := [d] }
  | _ => none }
def ShapeCountsWrongFalsely : Prop := shapeCountsRow.holds Tryz.pinned (OpenSpec.ofChange shapeCountsWrong)

/-- 'shellgamelaw20.ShapeWithin': WHATEVER THE INPUT: true; the input reads as it did. -/
def shapeWithinSpec : ChangeSpec := { name := "shapeWithin", fn := fun _ => fun
  | [d1, d2, d3] => { results := [.lit (.bool true)], args := [d1, d2, d3] }
  | _ => none }
def shapeWithinRow : OpenClaim := { program := "ytecaoigobpekdaagreatdoor", sum := "fc4d1d913e6ecdf47fb74150a47bd3f39c4b9b4aec453711d20d80e8bc512bd6", func := "shellgame/shellgamelaw20.ShapeWithin", spec := "shapeWithin", inPlace := ["internal/reflectlite.ValueOf", "(internal/reflectlite.Value).Type", "(internal/reflectlite.Value).IsNil", "internal/reflectlite.TypeOf", "(internal/reflectlite.Value).Elem", "(internal/reflectlite.Value).Set"], unfollowed := true, recurses := true, named := ["errors.errorType"], apart := false, laid := [("errors.errorType", laid_errors_errorType)] }
def ShapeWithinSaid : Prop := shapeWithinRow.holds Tryz.pinned (OpenSpec.ofChange shapeWithinSpec)

/-- ITS FALSE NEIGHBOUR: 'it returns false'. Refute it at one input. -/
def shapeWithinWrong : ChangeSpec := { name := "shapeWithin", fn := fun _ => fun
  | [d1, d2, d3] => { results := [.lit (.bool false)], args := [d1, d2, d3] }
  | _ => none }
def ShapeWithinWrongFalsely : Prop := shapeWithinRow.holds Tryz.pinned (OpenSpec.ofChange shapeWithinWrong)

/- THE SECOND FORM. 'bulk': how many values and letters a reading holds, each counted each time it is reached (what is shared counts as often as it is met; a slice's spare places count too). A statement '..UptoSaid' is the law's where the arguments, and the package variables that the reading takes, are together of bulk at most 1048576: NARROWER than '..Said'. Prove '..Said' where nothing that the law and all that it calls make is longer than what came in: it says more and counts as full. Else prove '..UptoSaid'. A law counts once. -/
mutual
def uptoBulk {H : Type} : DataW H → Nat
  | .lit (.string bytes) => bytes.length + 1
  | .lit _ => 1
  | .nil => 1
  | .ptr d => uptoBulk d + 1
  | .slice elems spare => uptoBulkAll elems + uptoBulkAll spare + 1
  | .agg parts => uptoBulkAll parts + 1
  | .iface _ d => uptoBulk d + 1
  | .map entries => uptoBulkEntries entries + 1
  | .held _ => 1
def uptoBulkAll {H : Type} : List (DataW H) → Nat
  | [] => 0
  | d :: r => uptoBulk d + uptoBulkAll r
def uptoBulkEntries {H : Type} : List (Lit × DataW H) → Nat
  | [] => 0
  | x :: r => uptoBulkEntry x + uptoBulkEntries r
def uptoBulkEntry {H : Type} : Lit × DataW H → Nat
  | (.string bytes, d) => bytes.length + uptoBulk d + 1
  | (_, d) => uptoBulk d + 1
 end
def uptoSmall : (H : Type) → List (DataW H) → Bool := fun _ ds => decide (uptoBulkAll ds ≤ 1048576)
def OpenSpec.upto (s : _root_.Go.ChangeSpec) : _root_.Go.OpenSpec := { _root_.Go.OpenSpec.ofChange s with cond := some uptoSmall }

/-- 'shellgamelaw20.ShapeTraces', WHERE WHAT IT READS IS OF BULK AT MOST 1048576: true; the input reads as it did. -/
def shapeTracesUptoRow : OpenClaim := { program := "ytecaoigobpekdaagreatdoor", sum := "fc4d1d913e6ecdf47fb74150a47bd3f39c4b9b4aec453711d20d80e8bc512bd6", func := "shellgame/shellgamelaw20.ShapeTraces", spec := "shapeTraces", inPlace := ["internal/reflectlite.ValueOf", "(internal/reflectlite.Value).Type", "(internal/reflectlite.Value).IsNil", "internal/reflectlite.TypeOf", "(internal/reflectlite.Value).Elem", "(internal/reflectlite.Value).Set"], unfollowed := true, recurses := true, named := ["errors.errorType"], apart := false, laid := [("errors.errorType", laid_errors_errorType)], narrowed := true }
def ShapeTracesUptoSaid : Prop := shapeTracesUptoRow.holds Tryz.pinned (OpenSpec.upto shapeTracesSpec)

/-- 'shellgamelaw20.ShapeParts', WHERE WHAT IT READS IS OF BULK AT MOST 1048576: true; the input reads as it did. -/
def shapePartsUptoRow : OpenClaim := { program := "ytecaoigobpekdaagreatdoor", sum := "fc4d1d913e6ecdf47fb74150a47bd3f39c4b9b4aec453711d20d80e8bc512bd6", func := "shellgame/shellgamelaw20.ShapeParts", spec := "shapeParts", inPlace := ["internal/reflectlite.ValueOf", "(internal/reflectlite.Value).Type", "(internal/reflectlite.Value).IsNil", "internal/reflectlite.TypeOf", "(internal/reflectlite.Value).Elem", "(internal/reflectlite.Value).Set"], unfollowed := true, recurses := true, named := ["errors.errorType"], apart := false, laid := [("errors.errorType", laid_errors_errorType)], narrowed := true }
def ShapePartsUptoSaid : Prop := shapePartsUptoRow.holds Tryz.pinned (OpenSpec.upto shapePartsSpec)

/-- 'shellgamelaw20.ShapeNodes', WHERE WHAT IT READS IS OF BULK AT MOST 1048576: true; the input reads as it did. -/
def shapeNodesUptoRow : OpenClaim := { program := "ytecaoigobpekdaagreatdoor", sum := "fc4d1d913e6ecdf47fb74150a47bd3f39c4b9b4aec453711d20d80e8bc512bd6", func := "shellgame/shellgamelaw20.ShapeNodes", spec := "shapeNodes", inPlace := ["internal/reflectlite.ValueOf", "(internal/reflectlite.Value).Type", "(internal/reflectlite.Value).IsNil", "internal/reflectlite.TypeOf", "(internal/reflectlite.Value).Elem", "(internal/reflectlite.Value).Set"], unfollowed := true, recurses := true, named := ["errors.errorType"], apart := false, laid := [("errors.errorType", laid_errors_errorType)], narrowed := true }
def ShapeNodesUptoSaid : Prop := shapeNodesUptoRow.holds Tryz.pinned (OpenSpec.upto shapeNodesSpec)

/-- 'shellgamelaw20.ShapeCounts', WHERE WHAT IT READS IS OF BULK AT MOST 1048576: true; the input reads as it did. -/
def shapeCountsUptoRow : OpenClaim := { program := "ytecaoigobpekdaagreatdoor", sum := "fc4d1d913e6ecdf47fb74150a47bd3f39c4b9b4aec453711d20d80e8bc512bd6", func := "shellgame/shellgamelaw20.ShapeCounts", spec := "shapeCounts", inPlace := ["internal/reflectlite.ValueOf", "(internal/reflectlite.Value).Type", "(internal/reflectlite.Value).IsNil", "internal/reflectlite.TypeOf", "(internal/reflectlite.Value).Elem", "(internal/reflectlite.Value).Set"], unfollowed := true, recurses := true, named := ["errors.errorType"], apart := false, laid := [("errors.errorType", laid_errors_errorType)], narrowed := true }
def ShapeCountsUptoSaid : Prop := shapeCountsUptoRow.holds Tryz.pinned (OpenSpec.upto shapeCountsSpec)

/-- 'shellgamelaw20.ShapeWithin', WHERE WHAT IT READS IS OF BULK AT MOST 1048576: true; the input reads as it did. -/
def shapeWithinUptoRow : OpenClaim := { program := "ytecaoigobpekdaagreatdoor", sum := "fc4d1d913e6ecdf47fb74150a47bd3f39c4b9b4aec453711d20d80e8bc512bd6", func := "shellgame/shellgamelaw20.ShapeWithin", spec := "shapeWithin", inPlace := ["internal/reflectlite.ValueOf", "(internal/reflectlite.Value).Type", "(internal/reflectlite.Value).IsNil", "internal/reflectlite.TypeOf", "(internal/reflectlite.Value).Elem", "(internal/reflectlite.Value).Set"], unfollowed := true, recurses := true, named := ["errors.errorType"], apart := false, laid := [("errors.errorType", laid_errors_errorType)], narrowed := true }
def ShapeWithinUptoSaid : Prop := shapeWithinUptoRow.holds Tryz.pinned (OpenSpec.upto shapeWithinSpec)

end Rows
end Go.Proofs.YtecaoigobpekdaaGreatDoor

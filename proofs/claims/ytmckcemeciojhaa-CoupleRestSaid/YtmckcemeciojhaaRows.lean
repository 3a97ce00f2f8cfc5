/-
  No cell of these rows narrows 'for every input' (looked for: loops, veiled, ifaces, maps, wideKeys, modest, calm, conditions, laid).
  DERIVED. THE GIVEN ROWS OF THIS SEAT. 8 by the template 'for every input the law returns true; each argument reads behind the call as it read before'; 0 by the template 'total and deterministic' (their statements: YtmckcemeciojhaaTotals.lean).
  GIVEN WITH THE SEED: the statements are not yours to turn. If you find one false, say at which input.
  Laid BY PROGRAM, IN A SANDBOX (cutbox-rows.mjs): the forced cells as the released guide's own fill.sh prints them over the translation 61b20e36ffd60888… (all of the seat's roots in one cut). By AI agents, Wed Nov 11 2026. No macro, syntax, notation, axiom, sorry.
-/
import Derived.Test.YtmckcemeciojhaaChecked
import GoSem.Claim
import GoSem.ClaimJoined
import GoSem.ClaimMapViews
import Derived.JoinedTies
import Derived.KernelRfl
namespace Go.Proofs.Ytmckcemeciojhaa
/- THE CELL 'sum', in the pinned program and in every row, IS THE sha256 OF THE DUMP (.gsa) THAT YtmckcemeciojhaaProg.lean LOADS. Nothing in Lean hashes anything: it is a label: what it is worth is what the hold of that sum in a sandbox is worth. -/
noncomputable def Try.pinned : Pinned := { name := "ytmckcemeciojhaa", sum := "61b20e36ffd60888e185bdf78301f5ad01e41a8ea8f4ce034c913ee3f6af349a", checked := Try.checked }
namespace Rows
def none {H : Type} : Left H := { results := [], args := [] }

/-- 'shellgamelaw2.TapePlays': WHATEVER THE INPUT: true; the input reads as it did. -/
def tapePlaysSpec : ChangeSpec := { name := "tapePlays", fn := fun _ => fun
  | [d1, d2] => { results := [.lit (.bool true)], args := [d1, d2] }
  | _ => none }
def tapePlaysRow : OpenClaim := { program := "ytmckcemeciojhaa", sum := "61b20e36ffd60888e185bdf78301f5ad01e41a8ea8f4ce034c913ee3f6af349a", func := "shellgame/shellgamelaw2.TapePlays", spec := "tapePlays", apart := false }
def TapePlaysSaid : Prop := tapePlaysRow.holds Try.pinned (OpenSpec.ofChange tapePlaysSpec)

/-- ITS FALSE NEIGHBOUR: 'it returns false'. Refute it at one input. -/
def tapePlaysWrong : ChangeSpec := { name := "tapePlays", fn := fun _ => fun
  | [d1, d2] => { results := [.lit (.bool false)], args := [d1, d2] }
  | _ => none }
def TapePlaysWrongFalsely : Prop := tapePlaysRow.holds Try.pinned (OpenSpec.ofChange tapePlaysWrong)

/-- 'shellgamelaw2.TapeOwn': WHATEVER THE INPUT: true; the input reads as it did. -/
def tapeOwnSpec : ChangeSpec := { name := "tapeOwn", fn := fun _ => fun
  | [d1, d2] => { results := [.lit (.bool true)], args := [d1, d2] }
  | _ => none }
def tapeOwnRow : OpenClaim := { program := "ytmckcemeciojhaa", sum := "61b20e36ffd60888e185bdf78301f5ad01e41a8ea8f4ce034c913ee3f6af349a", func := "shellgame/shellgamelaw2.TapeOwn", spec := "tapeOwn", apart := false }
def TapeOwnSaid : Prop := tapeOwnRow.holds Try.pinned (OpenSpec.ofChange tapeOwnSpec)

/-- ITS FALSE NEIGHBOUR: 'it returns false'. Refute it at one input. -/
def tapeOwnWrong : ChangeSpec := { name := "tapeOwn", fn := fun _ => fun
  | [d1, d2] => { results := [.lit (.bool false)], args := [d1, d2] }
  | _ => none }
def TapeOwnWrongFalsely : Prop := tapeOwnRow.holds Try.pinned (OpenSpec.ofChange tapeOwnWrong)

/-- 'shellgamelaw2.TapeParts': WHATEVER THE INPUT: true; the input reads as it did. -/
def tapePartsSpec : ChangeSpec := { name := "tapeParts", fn := fun _ => fun
  | [d1, d2] => { results := [.lit (.bool true)], args := [d1, d2] }
  | _ => none }
def tapePartsRow : OpenClaim := { program := "ytmckcemeciojhaa", sum := "61b20e36ffd60888e185bdf78301f5ad01e41a8ea8f4ce034c913ee3f6af349a", func := "shellgame/shellgamelaw2.TapeParts", spec := "tapeParts", apart := false }
def TapePartsSaid : Prop := tapePartsRow.holds Try.pinned (OpenSpec.ofChange tapePartsSpec)

/-- ITS FALSE NEIGHBOUR: 'it returns false'. Refute it at one input. -/
def tapePartsWrong : ChangeSpec := { name := "tapeParts", fn := fun _ => fun
  | [d1, d2] => { results := [.lit (.bool false)], args := [d1, d2] }
  | _ => none }
def TapePartsWrongFalsely : Prop := tapePartsRow.holds Try.pinned (OpenSpec.ofChange tapePartsWrong)

/-- 'shellgamelaw2.TapeSplit': WHATEVER THE INPUT: true; the input reads as it did. -/
def tapeSplitSpec : ChangeSpec := { name := "tapeSplit", fn := fun _ => fun
  | [d1, d2, d3] => { results := [.lit (.bool true)], args := [d1, d2, d3] }
  | _ => none }
def tapeSplitRow : OpenClaim := { program := "ytmckcemeciojhaa", sum := "61b20e36ffd60888e185bdf78301f5ad01e41a8ea8f4ce034c913ee3f6af349a", func := "shellgame/shellgamelaw2.TapeSplit", spec := "tapeSplit", apart := false }
def TapeSplitSaid : Prop := tapeSplitRow.holds Try.pinned (OpenSpec.ofChange tapeSplitSpec)

/-- ITS FALSE NEIGHBOUR: 'it returns false'. Refute it at one input. -/
def tapeSplitWrong : ChangeSpec := { name := "tapeSplit", fn := fun _ => fun
  | [d1, d2, d3] => { results := [.lit (.bool false)], args := [d1, d2, d3] }
  | _ => none }
def TapeSplitWrongFalsely : Prop := tapeSplitRow.holds Try.pinned (OpenSpec.ofChange tapeSplitWrong)

/-- 'shellgamelaw21.CoupleTurns': WHATEVER THE INPUT: true; the input reads as it did. -/
def coupleTurnsSpec : ChangeSpec := { name := "coupleTurns", fn := fun _ => fun
  | [d1, d2, d3] => { results := [.lit (.bool true)], args := [d1, d2, d3] }
  | _ => none }
def coupleTurnsRow : OpenClaim := { program := "ytmckcemeciojhaa", sum := "61b20e36ffd60888e185bdf78301f5ad01e41a8ea8f4ce034c913ee3f6af349a", func := "shellgame/shellgamelaw21.CoupleTurns", spec := "coupleTurns", apart := false }
def CoupleTurnsSaid : Prop := coupleTurnsRow.holds Try.pinned (OpenSpec.ofChange coupleTurnsSpec)

/-- ITS FALSE NEIGHBOUR: 'it returns false'. Refute it at one input. -/
def coupleTurnsWrong : ChangeSpec := { name := "coupleTurns", fn := fun _ => fun
  | [d1, d2, d3] => { results := [.lit (.bool false)], args := [d1, d2, d3] }
  | _ => none }
def CoupleTurnsWrongFalsely : Prop := coupleTurnsRow.holds Try.pinned (OpenSpec.ofChange coupleTurnsWrong)

/-- 'shellgamelaw21.CoupleBack': WHATEVER THE INPUT: true; the input reads as it did. -/
def coupleBackSpec : ChangeSpec := { name := "coupleBack", fn := fun _ => fun
  | [d1, d2, d3] => { results := [.lit (.bool true)], args := [d1, d2, d3] }
  | _ => none }
def coupleBackRow : OpenClaim := { program := "ytmckcemeciojhaa", sum := "61b20e36ffd60888e185bdf78301f5ad01e41a8ea8f4ce034c913ee3f6af349a", func := "shellgame/shellgamelaw21.CoupleBack", spec := "coupleBack", apart := false }
def CoupleBackSaid : Prop := coupleBackRow.holds Try.pinned (OpenSpec.ofChange coupleBackSpec)

/-- ITS FALSE NEIGHBOUR: 'it returns false'. Refute it at one input. -/
def coupleBackWrong : ChangeSpec := { name := "coupleBack", fn := fun _ => fun
  | [d1, d2, d3] => { results := [.lit (.bool false)], args := [d1, d2, d3] }
  | _ => none }
def CoupleBackWrongFalsely : Prop := coupleBackRow.holds Try.pinned (OpenSpec.ofChange coupleBackWrong)

/-- 'shellgamelaw21.CoupleStill': WHATEVER THE INPUT: true; the input reads as it did. -/
def coupleStillSpec : ChangeSpec := { name := "coupleStill", fn := fun _ => fun
  | [d1, d2, d3, d4] => { results := [.lit (.bool true)], args := [d1, d2, d3, d4] }
  | _ => none }
def coupleStillRow : OpenClaim := { program := "ytmckcemeciojhaa", sum := "61b20e36ffd60888e185bdf78301f5ad01e41a8ea8f4ce034c913ee3f6af349a", func := "shellgame/shellgamelaw21.CoupleStill", spec := "coupleStill", apart := false }
def CoupleStillSaid : Prop := coupleStillRow.holds Try.pinned (OpenSpec.ofChange coupleStillSpec)

/-- ITS FALSE NEIGHBOUR: 'it returns false'. Refute it at one input. -/
def coupleStillWrong : ChangeSpec := { name := "coupleStill", fn := fun _ => fun
  | [d1, d2, d3, d4] => { results := [.lit (.bool false)], args := [d1, d2, d3, d4] }
  | _ => none }
def CoupleStillWrongFalsely : Prop := coupleStillRow.holds Try.pinned (OpenSpec.ofChange coupleStillWrong)

/-- 'shellgamelaw21.CoupleRest': WHATEVER THE INPUT: true; the input reads as it did. -/
def coupleRestSpec : ChangeSpec := { name := "coupleRest", fn := fun _ => fun
  | [d1, d2, d3] => { results := [.lit (.bool true)], args := [d1, d2, d3] }
  | _ => none }
def coupleRestRow : OpenClaim := { program := "ytmckcemeciojhaa", sum := "61b20e36ffd60888e185bdf78301f5ad01e41a8ea8f4ce034c913ee3f6af349a", func := "shellgame/shellgamelaw21.CoupleRest", spec := "coupleRest", apart := false }
def CoupleRestSaid : Prop := coupleRestRow.holds Try.pinned (OpenSpec.ofChange coupleRestSpec)

/-- ITS FALSE NEIGHBOUR: 'it returns false'. Refute it at one input. -/
def coupleRestWrong : ChangeSpec := { name := "coupleRest", fn := fun _ => fun
  | [d1, d2, d3] => { results := [.lit (.bool false)], args := [d1, d2, d3] }
  | _ => none }
def CoupleRestWrongFalsely : Prop := coupleRestRow.holds Try.pinned (OpenSpec.ofChange coupleRestWrong)

/- THE SECOND FORM. 'bulk': how many values and letters a reading holds, each counted each time it is reached (what is shared counts as often as it is met; a slice's spare places count too). A statement '..UptoSaid' is the law's where the arguments, and the package variables that the reading takes, are together of bulk at most 1048576: NARROWER than '..Said'. Prove '..Said' where nothing that the law and all that it calls make is longer than what came in: it says more and counts as full. Else prove '..UptoSaid'. A law counts once. -/
mutual
def uptoBulk {H : Type} : DataW H → Nat
  | .lit (.string bytes) => bytes.length + 1
  | .lit _ => 1
  | .nil => 1
  | .ptr d => uptoBulk d + 1
  | .slice elems spare => uptoBulkAll elems + uptoBulkAll spare + 1
  | .agg parts => uptoBulkAll parts + 1
  | .iface _ d => uptoBulk d + 1
  | .map entries => uptoBulkEntries entries + 1
  | .held _ => 1
def uptoBulkAll {H : Type} : List (DataW H) → Nat
  | [] => 0
  | d :: r => uptoBulk d + uptoBulkAll r
def uptoBulkEntries {H : Type} : List (Lit × DataW H) → Nat
  | [] => 0
  | x :: r => uptoBulkEntry x + uptoBulkEntries r
def uptoBulkEntry {H : Type} : Lit × DataW H → Nat
  | (.string bytes, d) => bytes.length + uptoBulk d + 1
  | (_, d) => uptoBulk d + 1
 end
def uptoSmall : (H : Type) → List (DataW H) → Bool := fun _ ds => decide (uptoBulkAll ds ≤ 1048576)
def OpenSpec.upto (s : _root_.Go.ChangeSpec) : _root_.Go.OpenSpec := { _root_.Go.OpenSpec.ofChange s with cond := some uptoSmall }

/-- 'shellgamelaw2.TapePlays', WHERE WHAT IT READS IS OF BULK AT MOST 1048576: true; the input reads as it did. -/
def tapePlaysUptoRow : OpenClaim := { program := "ytmckcemeciojhaa", sum := "61b20e36ffd60888e185bdf78301f5ad01e41a8ea8f4ce034c913ee3f6af349a", func := "shellgame/shellgamelaw2.TapePlays", spec := "tapePlays", apart := false, narrowed := true }
def TapePlaysUptoSaid : Prop := tapePlaysUptoRow.holds Try.pinned (OpenSpec.upto tapePlaysSpec)

/-- 'shellgamelaw2.TapeOwn', WHERE WHAT IT READS IS OF BULK AT MOST 1048576: true; the input reads as it did. -/
def tapeOwnUptoRow : OpenClaim := { program := "ytmckcemeciojhaa", sum := "61b20e36ffd60888e185bdf78301f5ad01e41a8ea8f4ce034c913ee3f6af349a", func := "shellgame/shellgamelaw2.TapeOwn", spec := "tapeOwn", apart := false, narrowed := true }
def TapeOwnUptoSaid : Prop := tapeOwnUptoRow.holds Try.pinned (OpenSpec.upto tapeOwnSpec)

/-- 'shellgamelaw2.TapeParts', WHERE WHAT IT READS IS OF BULK AT MOST 1048576: true; the input reads as it did. -/
def tapePartsUptoRow : OpenClaim := { program := "ytmckcemeciojhaa", sum := "61b20e36ffd60888e185bdf78301f5ad01e41a8ea8f4ce034c913ee3f6af349a", func := "shellgame/shellgamelaw2.TapeParts", spec := "tapeParts", apart := false, narrowed := true }
def TapePartsUptoSaid : Prop := tapePartsUptoRow.holds Try.pinned (OpenSpec.upto tapePartsSpec)

/-- 'shellgamelaw2.TapeSplit', WHERE WHAT IT READS IS OF BULK AT MOST 1048576: true; the input reads as it did. -/
def tapeSplitUptoRow : OpenClaim := { program := "ytmckcemeciojhaa", sum := "61b20e36ffd60888e185bdf78301f5ad01e41a8ea8f4ce034c913ee3f6af349a", func := "shellgame/shellgamelaw2.TapeSplit", spec := "tapeSplit", apart := false, narrowed := true }
def TapeSplitUptoSaid : Prop := tapeSplitUptoRow.holds Try.pinned (OpenSpec.upto tapeSplitSpec)

/-- 'shellgamelaw21.CoupleTurns', WHERE WHAT IT READS IS OF BULK AT MOST 1048576: true; the input reads as it did. -/
def coupleTurnsUptoRow : OpenClaim := { program := "ytmckcemeciojhaa", sum := "61b20e36ffd60888e185bdf78301f5ad01e41a8ea8f4ce034c913ee3f6af349a", func := "shellgame/shellgamelaw21.CoupleTurns", spec := "coupleTurns", apart := false, narrowed := true }
def CoupleTurnsUptoSaid : Prop := coupleTurnsUptoRow.holds Try.pinned (OpenSpec.upto coupleTurnsSpec)

/-- 'shellgamelaw21.CoupleBack', WHERE WHAT IT READS IS OF BULK AT MOST 1048576: true; the input reads as it did. -/
def coupleBackUptoRow : OpenClaim := { program := "ytmckcemeciojhaa", sum := "61b20e36ffd60888e185bdf78301f5ad01e41a8ea8f4ce034c913ee3f6af349a", func := "shellgame/shellgamelaw21.CoupleBack", spec := "coupleBack", apart := false, narrowed := true }
def CoupleBackUptoSaid : Prop := coupleBackUptoRow.holds Try.pinned (OpenSpec.upto coupleBackSpec)

/-- 'shellgamelaw21.CoupleStill', WHERE WHAT IT READS IS OF BULK AT MOST 1048576: true; the input reads as it did. -/
def coupleStillUptoRow : OpenClaim := { program := "ytmckcemeciojhaa", sum := "61b20e36ffd60888e185bdf78301f5ad01e41a8ea8f4ce034c913ee3f6af349a", func := "shellgame/shellgamelaw21.CoupleStill", spec := "coupleStill", apart := false, narrowed := true }
def CoupleStillUptoSaid : Prop := coupleStillUptoRow.holds Try.pinned (OpenSpec.upto coupleStillSpec)

/-- 'shellgamelaw21.CoupleRest', WHERE WHAT IT READS IS OF BULK AT MOST 1048576: true; the input reads as it did. -/
def coupleRestUptoRow : OpenClaim := { program := "ytmckcemeciojhaa", sum := "61b20e36ffd60888e185bdf78301f5ad01e41a8ea8f4ce034c913ee3f6af349a", func := "shellgame/shellgamelaw21.CoupleRest", spec := "coupleRest", apart := false, narrowed := true }
def CoupleRestUptoSaid : Prop := coupleRestUptoRow.holds Try.pinned (OpenSpec.upto coupleRestSpec)

end Rows
end Go.Proofs.Ytmckcemeciojhaa

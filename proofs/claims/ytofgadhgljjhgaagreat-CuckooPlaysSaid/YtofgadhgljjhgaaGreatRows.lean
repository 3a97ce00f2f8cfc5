/-
  No cell of these rows narrows 'for every input' (looked for: loops, veiled, ifaces, maps, wideKeys, modest, calm, conditions, laid).
  DERIVED. THE GIVEN ROWS OF THIS SEAT. 7 by the template 'for every input the law returns true; each argument reads behind the call as it read before'; 0 by the template 'total and deterministic' (their statements: YtofgadhgljjhgaaGreatTotals.lean).
  GIVEN WITH THE SEED: the statements are not yours to turn. If you find one false, say at which input.
  Laid BY PROGRAM, IN A SANDBOX (cutbox-rows.mjs): the forced cells as the released guide's own fill.sh prints them over the translation a1f047c83776eae9… (all of the seat's roots in one cut). By AI agents, Wed Nov 11 2026. No macro, syntax, notation, axiom, sorry.
-/
import Derived.Test.YtofgadhgljjhgaaGreatChecked
import GoSem.Claim
import GoSem.ClaimJoined
import GoSem.ClaimMapViews
import Derived.JoinedTies
import Derived.KernelRfl
namespace Go.Proofs.YtofgadhgljjhgaaGreat
/- THE CELL 'sum', in the pinned program and in every row, IS THE sha256 OF THE DUMP (.gsa) THAT YtofgadhgljjhgaaGreatProg.lean LOADS. Nothing in Lean hashes anything: it is a label: what it is worth is what the hold of that sum in a sandbox is worth. -/
noncomputable def Tryz.pinned : Pinned := { name := "ytofgadhgljjhgaagreat", sum := "a1f047c83776eae9fa3d51e93b94469ffe2e57f7f796dc37e78568b746a4392d", checked := Tryz.checked }
namespace Rows
def none {H : Type} : Left H := { results := [], args := [] }

/-- 'shellgamelaw14.CuckooKeeps': WHATEVER THE INPUT: true; the input reads as it did. -/
def cuckooKeepsSpec : ChangeSpec := { name := "cuckooKeeps", fn := fun _ => fun
  | [d1, d2, d3] => { results := [.lit (.bool true)], args := [d1, d2, d3] }
  | _ => none }
def cuckooKeepsRow : OpenClaim := { program := "ytofgadhgljjhgaagreat", sum := "a1f047c83776eae9fa3d51e93b94469ffe2e57f7f796dc37e78568b746a4392d", func := "shellgame/shellgamelaw14.CuckooKeeps", spec := "cuckooKeeps", inPlace := ["math/bits.Sub64"], unfollowed := true, recurses := true, apart := false }
def CuckooKeepsSaid : Prop := cuckooKeepsRow.holds Tryz.pinned (OpenSpec.ofChange cuckooKeepsSpec)

/-- ITS FALSE NEIGHBOUR: 'it returns false'. Refute it at one input. -/
def cuckooKeepsWrong : ChangeSpec := { name := "cuckooKeeps", fn := fun _ => fun
  | [d1, d2, d3] => { results := [.lit (.bool false)], args := [d1, d2, d3] }
  | _ => none }
def CuckooKeepsWrongFalsely : Prop := cuckooKeepsRow.holds Tryz.pinned (OpenSpec.ofChange cuckooKeepsWrong)

/-- 'shellgamelaw14.CuckooSame': WHATEVER THE INPUT: true; the input reads as it did. -/
def cuckooSameSpec : ChangeSpec := { name := "cuckooSame", fn := fun _ => fun
  | [d1, d2, d3, d4, d5] => { results := [.lit (.bool true)], args := [d1, d2, d3, d4, d5] }
  | _ => none }
def cuckooSameRow : OpenClaim := { program := "ytofgadhgljjhgaagreat", sum := "a1f047c83776eae9fa3d51e93b94469ffe2e57f7f796dc37e78568b746a4392d", func := "shellgame/shellgamelaw14.CuckooSame", spec := "cuckooSame", inPlace := ["math/bits.Sub64"], unfollowed := true, recurses := true, apart := false }
def CuckooSameSaid : Prop := cuckooSameRow.holds Tryz.pinned (OpenSpec.ofChange cuckooSameSpec)

/-- ITS FALSE NEIGHBOUR: 'it returns false'. Refute it at one input. -/
def cuckooSameWrong : ChangeSpec := { name := "cuckooSame", fn := fun _ => fun
  | [d1, d2, d3, d4, d5] => { results := [.lit (.bool false)], args := [d1, d2, d3, d4, d5] }
  | _ => none }
def CuckooSameWrongFalsely : Prop := cuckooSameRow.holds Tryz.pinned (OpenSpec.ofChange cuckooSameWrong)

/-- 'shellgamelaw14.CuckooPlays': WHATEVER THE INPUT: true; the input reads as it did. -/
def cuckooPlaysSpec : ChangeSpec := { name := "cuckooPlays", fn := fun _ => fun
  | [d1, d2, d3] => { results := [.lit (.bool true)], args := [d1, d2, d3] }
  | _ => none }
def cuckooPlaysRow : OpenClaim := { program := "ytofgadhgljjhgaagreat", sum := "a1f047c83776eae9fa3d51e93b94469ffe2e57f7f796dc37e78568b746a4392d", func := "shellgame/shellgamelaw14.CuckooPlays", spec := "cuckooPlays", inPlace := ["math/bits.Sub64"], unfollowed := true, recurses := true, apart := false }
def CuckooPlaysSaid : Prop := cuckooPlaysRow.holds Tryz.pinned (OpenSpec.ofChange cuckooPlaysSpec)

/-- ITS FALSE NEIGHBOUR: 'it returns false'. Refute it at one input. -/
def cuckooPlaysWrong : ChangeSpec := { name := "cuckooPlays", fn := fun _ => fun
  | [d1, d2, d3] => { results := [.lit (.bool false)], args := [d1, d2, d3] }
  | _ => none }
def CuckooPlaysWrongFalsely : Prop := cuckooPlaysRow.holds Tryz.pinned (OpenSpec.ofChange cuckooPlaysWrong)

/-- 'shellgamelaw14.CuckooRoom': WHATEVER THE INPUT: true; the input reads as it did. -/
def cuckooRoomSpec : ChangeSpec := { name := "cuckooRoom", fn := fun _ => fun
  | [d1, d2, d3] => { results := [.lit (.bool true)], args := [d1, d2, d3] }
  | _ => none }
def cuckooRoomRow : OpenClaim := { program := "ytofgadhgljjhgaagreat", sum := "a1f047c83776eae9fa3d51e93b94469ffe2e57f7f796dc37e78568b746a4392d", func := "shellgame/shellgamelaw14.CuckooRoom", spec := "cuckooRoom", inPlace := ["math/bits.Sub64"], unfollowed := true, recurses := true, apart := false }
def CuckooRoomSaid : Prop := cuckooRoomRow.holds Tryz.pinned (OpenSpec.ofChange cuckooRoomSpec)

/-- ITS FALSE NEIGHBOUR: 'it returns false'. Refute it at one input. -/
def cuckooRoomWrong : ChangeSpec := { name := "cuckooRoom", fn := fun _ => fun
  | [d1, d2, d3] => { results := [.lit (.bool false)], args := [d1, d2, d3] }
  | _ => none }
def CuckooRoomWrongFalsely : Prop := cuckooRoomRow.holds Tryz.pinned (OpenSpec.ofChange cuckooRoomWrong)

/-- 'shellgamelaw14.CuckooSpills': WHATEVER THE INPUT: true; the input reads as it did. -/
def cuckooSpillsSpec : ChangeSpec := { name := "cuckooSpills", fn := fun _ => fun
  | [d1, d2, d3] => { results := [.lit (.bool true)], args := [d1, d2, d3] }
  | _ => none }
def cuckooSpillsRow : OpenClaim := { program := "ytofgadhgljjhgaagreat", sum := "a1f047c83776eae9fa3d51e93b94469ffe2e57f7f796dc37e78568b746a4392d", func := "shellgame/shellgamelaw14.CuckooSpills", spec := "cuckooSpills", inPlace := ["math/bits.Sub64"], unfollowed := true, recurses := true, apart := false }
def CuckooSpillsSaid : Prop := cuckooSpillsRow.holds Tryz.pinned (OpenSpec.ofChange cuckooSpillsSpec)

/-- ITS FALSE NEIGHBOUR: 'it returns false'. Refute it at one input. -/
def cuckooSpillsWrong : ChangeSpec := { name := "cuckooSpills", fn := fun _ => fun
  | [d1, d2, d3] => { results := [.lit (.bool false)], args := [d1, d2, d3] }
  | _ => none }
def CuckooSpillsWrongFalsely : Prop := cuckooSpillsRow.holds Tryz.pinned (OpenSpec.ofChange cuckooSpillsWrong)

/-- 'shellgamelaw14.CuckooOff': WHATEVER THE INPUT: true; the input reads as it did. -/
def cuckooOffSpec : ChangeSpec := { name := "cuckooOff", fn := fun _ => fun
  | [d1, d2, d3, d4] => { results := [.lit (.bool true)], args := [d1, d2, d3, d4] }
  | _ => none }
def cuckooOffRow : OpenClaim := { program := "ytofgadhgljjhgaagreat", sum := "a1f047c83776eae9fa3d51e93b94469ffe2e57f7f796dc37e78568b746a4392d", func := "shellgame/shellgamelaw14.CuckooOff", spec := "cuckooOff", inPlace := ["math/bits.Sub64"], unfollowed := true, recurses := true, apart := false }
def CuckooOffSaid : Prop := cuckooOffRow.holds Tryz.pinned (OpenSpec.ofChange cuckooOffSpec)

/-- ITS FALSE NEIGHBOUR: 'it returns false'. Refute it at one input. -/
def cuckooOffWrong : ChangeSpec := { name := "cuckooOff", fn := fun _ => fun
  | [d1, d2, d3, d4] => { results := [.lit (.bool false)], args := [d1, d2, d3, d4] }
  | _ => none }
def CuckooOffWrongFalsely : Prop := cuckooOffRow.holds Tryz.pinned (OpenSpec.ofChange cuckooOffWrong)

/-- 'shellgamelaw14.CuckooBlind': WHATEVER THE INPUT: true; the input reads as it did. -/
def cuckooBlindSpec : ChangeSpec := { name := "cuckooBlind", fn := fun _ => fun
  | [d1, d2, d3] => { results := [.lit (.bool true)], args := [d1, d2, d3] }
  | _ => none }
def cuckooBlindRow : OpenClaim := { program := "ytofgadhgljjhgaagreat", sum := "a1f047c83776eae9fa3d51e93b94469ffe2e57f7f796dc37e78568b746a4392d", func := "shellgame/shellgamelaw14.CuckooBlind", spec := "cuckooBlind", inPlace := ["math/bits.Sub64"], unfollowed := true, recurses := true, apart := false }
def CuckooBlindSaid : Prop := cuckooBlindRow.holds Tryz.pinned (OpenSpec.ofChange cuckooBlindSpec)

/-- ITS FALSE NEIGHBOUR: 'it returns false'. Refute it at one input. -/
def cuckooBlindWrong : ChangeSpec := { name := "cuckooBlind", fn := fun _ => fun
  | [d1, d2, d3] => { results := [.lit (.bool false)], args := [d1, d2, d3] }
  | _ => none }
def CuckooBlindWrongFalsely : Prop := cuckooBlindRow.holds Tryz.pinned (OpenSpec.ofChange cuckooBlindWrong)

/- THE SECOND FORM. 'bulk': how many values and letters a reading holds, each counted each time it is reached (what is shared counts as often as it is met; a slice's spare places count too). A statement '..UptoSaid' is the law's where the arguments, and the package variables that the reading takes, are together of bulk at most 1048576: NARROWER than '..Said'. Prove '..Said' where nothing that the law and all that it calls make is longer than what came in: it says more and counts as full. Else prove '..UptoSaid'. A law counts once. -/
mutual
def uptoBulk {H : Type} : DataW H → Nat
  | .lit (.string bytes) => bytes.length + 1
  | .lit _ => 1
  | .nil => 1
  | .ptr d => uptoBulk d + 1
  | .slice elems spare => uptoBulkAll elems + uptoBulkAll spare + 1
  | .agg parts => uptoBulkAll parts + 1
  | .iface _ d => uptoBulk d + 1
  | .map entries => uptoBulkEntries entries + 1
  | .held _ => 1
def uptoBulkAll {H : Type} : List (DataW H) → Nat
  | [] => 0
  | d :: r => uptoBulk d + uptoBulkAll r
def uptoBulkEntries {H : Type} : List (Lit × DataW H) → Nat
  | [] => 0
  | x :: r => uptoBulkEntry x + uptoBulkEntries r
def uptoBulkEntry {H : Type} : Lit × DataW H → Nat
  | (.string bytes, d) => bytes.length + uptoBulk d + 1
  | (_, d) => uptoBulk d + 1
 end
def uptoSmall : (H : Type) → List (DataW H) → Bool := fun _ ds => decide (uptoBulkAll ds ≤ 1048576)
def OpenSpec.upto (s : _root_.Go.ChangeSpec) : _root_.Go.OpenSpec := { _root_.Go.OpenSpec.ofChange s with cond := some uptoSmall }

/-- 'shellgamelaw14.CuckooKeeps', WHERE WHAT IT READS IS OF BULK AT MOST 1048576: true; the input reads as it did. -/
def cuckooKeepsUptoRow : OpenClaim := { program := "ytofgadhgljjhgaagreat", sum := "a1f047c83776eae9fa3d51e93b94469ffe2e57f7f796dc37e78568b746a4392d", func := "shellgame/shellgamelaw14.CuckooKeeps", spec := "cuckooKeeps", inPlace := ["math/bits.Sub64"], unfollowed := true, recurses := true, apart := false, narrowed := true }
def CuckooKeepsUptoSaid : Prop := cuckooKeepsUptoRow.holds Tryz.pinned (OpenSpec.upto cuckooKeepsSpec)

/-- 'shellgamelaw14.CuckooSame', WHERE WHAT IT READS IS OF BULK AT MOST 1048576: true; the input reads as it did. -/
def cuckooSameUptoRow : OpenClaim := { program := "ytofgadhgljjhgaagreat", sum := "a1f047c83776eae9fa3d51e93b94469ffe2e57f7f796dc37e78568b746a4392d", func := "shellgame/shellgamelaw14.CuckooSame", spec := "cuckooSame", inPlace := ["math/bits.Sub64"], unfollowed := true, recurses := true, apart := false, narrowed := true }
def CuckooSameUptoSaid : Prop := cuckooSameUptoRow.holds Tryz.pinned (OpenSpec.upto cuckooSameSpec)

/-- 'shellgamelaw14.CuckooPlays', WHERE WHAT IT READS IS OF BULK AT MOST 1048576: true; the input reads as it did. -/
def cuckooPlaysUptoRow : OpenClaim := { program := "ytofgadhgljjhgaagreat", sum := "a1f047c83776eae9fa3d51e93b94469ffe2e57f7f796dc37e78568b746a4392d", func := "shellgame/shellgamelaw14.CuckooPlays", spec := "cuckooPlays", inPlace := ["math/bits.Sub64"], unfollowed := true, recurses := true, apart := false, narrowed := true }
def CuckooPlaysUptoSaid : Prop := cuckooPlaysUptoRow.holds Tryz.pinned (OpenSpec.upto cuckooPlaysSpec)

/-- 'shellgamelaw14.CuckooRoom', WHERE WHAT IT READS IS OF BULK AT MOST 1048576: true; the input reads as it did. -/
def cuckooRoomUptoRow : OpenClaim := { program := "ytofgadhgljjhgaagreat", sum := "a1f047c83776eae9fa3d51e93b94469ffe2e57f7f796dc37e78568b746a4392d", func := "shellgame/shellgamelaw14.CuckooRoom", spec := "cuckooRoom", inPlace := ["math/bits.Sub64"], unfollowed := true, recurses := true, apart := false, narrowed := true }
def CuckooRoomUptoSaid : Prop := cuckooRoomUptoRow.holds Tryz.pinned (OpenSpec.upto cuckooRoomSpec)

/-- 'shellgamelaw14.CuckooSpills', WHERE WHAT IT READS IS OF BULK AT MOST 1048576: true; the input reads as it did. -/
def cuckooSpillsUptoRow : OpenClaim := { program := "ytofgadhgljjhgaagreat", sum := "a1f047c83776eae9fa3d51e93b94469ffe2e57f7f796dc37e78568b746a4392d", func := "shellgame/shellgamelaw14.CuckooSpills", spec := "cuckooSpills", inPlace := ["math/bits.Sub64"], unfollowed := true, recurses := true, apart := false, narrowed := true }
def CuckooSpillsUptoSaid : Prop := cuckooSpillsUptoRow.holds Tryz.pinned (OpenSpec.upto cuckooSpillsSpec)

/-- 'shellgamelaw14.CuckooOff', WHERE WHAT IT READS IS OF BULK AT MOST 1048576: true; the input reads as it did. -/
def cuckooOffUptoRow : OpenClaim := { program := "ytofgadhgljjhgaagreat", sum := "a1f047c83776eae9fa3d51e93b94469ffe2e57f7f796dc37e78568b746a4392d", func := "shellgame/shellgamelaw14.CuckooOff", spec := "cuckooOff", inPlace := ["math/bits.Sub64"], unfollowed := true, recurses := true, apart := false, narrowed := true }
def CuckooOffUptoSaid : Prop := cuckooOffUptoRow.holds Tryz.pinned (OpenSpec.upto cuckooOffSpec)

/-- 'shellgamelaw14.CuckooBlind', WHERE WHAT IT READS IS OF BULK AT MOST 1048576: true; the input reads as it did. -/
def cuckooBlindUptoRow : OpenClaim := { program := "ytofgadhgljjhgaagreat", sum := "a1f047c83776eae9fa3d51e93b94469ffe2e57f7f796dc37e78568b746a4392d", func := "shellgame/shellgamelaw14.CuckooBlind", spec := "cuckooBlind", inPlace := ["math/bits.Sub64"], unfollowed := true, recurses := true, apart := false, narrowed := true }
def CuckooBlindUptoSaid : Prop := cuckooBlindUptoRow.holds Tryz.pinned (OpenSpec.upto cuckooBlindSpec)

end Rows
end Go.Proofs.YtofgadhgljjhgaaGreat

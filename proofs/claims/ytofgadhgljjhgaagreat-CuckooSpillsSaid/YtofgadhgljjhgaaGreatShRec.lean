/- Rows of structs of numbers and truths, that come as arguments: opened. -/
import Derived.Test.YtofgadhgljjhgaaGreatShRow
import Derived.Test.YtofgadhgljjhgaaGreatShRows
import Derived.Deep.Slices
namespace Go.Sh
open Go Go.RowKit Go.ChangeShapes Go.WideShapes Go.ChangeAt
def ckOk:Option IntKind→Value→Prop
 | some k,v=>∃n,v= .int k n∧(Lit.int k n).wf=true
 | none,v=>∃b,v= .bool b
section
variable {H:Type} {enc:TypeId×Value→H} {P:Program} {W:World} {base:Nat}
end
structure StepV where
 op:Int
 id:UInt64
 n:UInt64
 lo: -9223372036854775808≤op
 hi:op≤9223372036854775807
def stepv (x:StepV):List Value:=[.int .i64 x.op,vu x.id,vu x.n]
section
variable {H:Type} {enc:TypeId×Value→H} {P:Program} {W:World} {base:Nat}
end
end Go.Sh

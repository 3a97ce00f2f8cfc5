import Derived.Test.YtegdpmgnhnccaaaGreatMemT
namespace Go.Proofs.Tryz
open Go Go.cQ Go.RowKit
set_option maxRecDepth 8000
section
variable {T:TypeId} {tb dp:Nat} {ws:List a8} {u:Nat} {h:ai}
theorem acI (t:ni T tb dp ws u h):aw 21 [bu ⟨tb,0⟩] h λv ag=>v=U u/\ag=h:=by
 obtain⟨s,e,_⟩:=t;refine xa _ ?_;unfold R6;exact⟨_,aF e rfl,rfl,rfl⟩
theorem acJ (t:ni T tb dp ws u h):aw 22 [bu ⟨tb,0⟩] h λv ag=>v= .bool (decide (ws.length<u))/\ag=h:=by
 obtain⟨s,e,_⟩:=t;refine tr _ ?_;unfold R7;exact⟨_,aF e rfl,rfl,rfl⟩
end

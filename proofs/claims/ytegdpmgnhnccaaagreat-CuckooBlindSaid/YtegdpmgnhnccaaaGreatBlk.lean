import Derived.Test.YtegdpmgnhnccaaaGreatLevG
import Derived.Lib.Walk
import Derived.Lib.Small
namespace Go.Proofs.Tryz
open Go Go.cR Go.RowKit
set_option maxHeartbeats 4000000 in
set_option maxRecDepth 100000 in
section
variable {T:TypeId} {m:jQ} {R:dY} {a8:List dk} {es:ao} {h:ak}
theorem ahr {P:dx}{f:Nat}(o:P.dt)(L:q8 m P f)(M:c8 T m R a8 es h) :
 aq 90 [bm ⟨m.b,0⟩,U f,.agg #[U (2 ^ P.k),U P.s,U P.t]] h λv af=>∃(bf mp:Nat),v= .tuple #[bm ⟨bf,0⟩,U 0]/\af bf=ev (n3 P m.b f false mp) 198/\nA af mp []/\h bf=none/\h mp=none/\bf≠mp/\bL h af:=by
 have ol:=o.gS;have bc:=L.bc;have mO:=L.fl;refine ahs _ _ _ _ _ ?_;unfold UL;refine bP λae aa f1 aH aD=>kQ aH ?_;refine(ahp ol).to λad aB=>⟨_,_,_,rfl,kQ (aB.get aH) ?_⟩;refine(IN ol).to λan aG=>⟨_,rfl,b3 rfl ?_⟩;have n4:=(aD.trans aB).trans aG;have lH:=(aB.trans aG).get aH;have gH:=M.bA n4;have UM:((2 ^ P.k:Nat):Int)=2 ^ P.k:=by simp
 have hf:((P.s*(2 ^ (P.k+1)-1):Nat):Int)=P.s*(2*2 ^ P.k-1):=by
  have aP:1<=2 ^ P.k:=aEf;rw[aD_,aEA,Int.natCast_sub (by omega)];simp[Int.mul_comm]
 refine(tZ gH (r:=f) (by omega)).mono ?_;rintro _ _ ⟨rfl,rfl⟩;refine⟨_,rfl,b3 ?_ ?_⟩
 .show decide (((m.cx f:Nat):Int)<_)=false;rw[L.iD,hf];exact gT
 rw[show al ((f:Int)+1)=((f+1:Nat):Int) by rw[bt];omega,show al ((f:Int)+2)=((f+2:Nat):Int) by rw[bt];omega];refine(tZ gH (r:=f+1) (by omega)).mono ?_;rintro _ _ ⟨rfl,rfl⟩;refine⟨_,rfl,b3 ?_ ?_⟩
 .show decide (((m.cx (f+1):Nat):Int)<_)=false;rw[L.eD];exact gT
 refine(tZ gH (r:=f+2) (by omega)).mono ?_;rintro _ _ ⟨rfl,rfl⟩;refine⟨_,rfl,b3 ?_ ?_⟩
 .show decide (((m.cx (f+2):Nat):Int)<_)=false;rw[L.fK,L.mj];simp
 refine kQ lH (bP λax aJ f4 b6 bd=>bP λaM aR f5 cG bF=>?_);have n32:ax≠aM:=λe=>by rw[<-e,b6] at f5;cases f5
 exact⟨aM,ax,rfl,cG,⟨[],0,bF.get b6,rfl⟩,(n4.trans bd).free f5,n4.free f4,aDC n32,(n4.trans bd).trans bF⟩
end

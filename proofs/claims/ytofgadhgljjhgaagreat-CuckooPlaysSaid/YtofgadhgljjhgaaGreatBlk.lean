import Derived.Test.YtofgadhgljjhgaaGreatLevG
import Derived.Lib.Walk
import Derived.Lib.Small
namespace Go.Proofs.Tryz
open Go Go.cD Go.RowKit
set_option maxHeartbeats 4000000 in
set_option maxRecDepth 100000 in
theorem afd {h:ak}{ba:Nat}{c:Array Value}{t:TypeId}{b:Bool}(e:h ba=some (.cells c t (0,0)))(ad:c[5]? =some (.bool b)) :
 ao 49 [bg ⟨ba,0⟩] h λv ah=>v= .bool b/\ah=h:=by
 refine afe _ ?_
 unfold S3
 exact⟨_,az e ad,rfl,rfl⟩
section
variable {T:TypeId} {m:jw} {R:dF} {a7:List de} {es:ar} {h:ak}
theorem aff {P:db}{f:Nat}(o:P.da)(L:qo m P f)(M:cV T m R a7 es h) :
 ao 74 [bg ⟨m.b,0⟩,U f,.agg #[U (2 ^ P.k),U P.s,U P.t]] h λv ah=>∃(ba mp:Nat),v= .tuple #[bg ⟨ba,0⟩,U 0]/\ah ba=some (.cells (nv P m.b f false mp) 193 (0,0))/\m2 ah mp []/\h ba=none/\h mp=none/\ba≠mp/\bL h ah:=by
 have ol:=o.gy
 have a_:=L.a_
 have md:=L.eX
 refine afg _ _ _ _ _ ?_
 unfold S4
 refine bM λae aa f1 aF aE=>k7 aF ?_
 refine(afb ol).to λad aC=>⟨_,_,_,rfl,k7 (aC.get aF) ?_⟩
 refine(LI ol).to λan aI=>⟨_,rfl,bS rfl ?_⟩
 have nw:=(aE.trans aC).trans aI
 have mG:=(aC.trans aI).get aF
 have gj:=M.bD nw
 have ayQ:((2 ^ P.k:Nat):Int)=2 ^ P.k:=by simp
 have jh:((P.s*(2 ^ (P.k+1)-1):Nat):Int)=P.s*(2*2 ^ P.k-1):=by
  have aS:1<=2 ^ P.k:=Nat.one_le_two_pow
  rw[Nat.pow_succ,Int.natCast_mul,Int.natCast_sub (by omega)];simp[Int.mul_comm]
 refine(ta gj (r:=f) (by omega)).mono ?_
 rintro _ _ ⟨rfl,rfl⟩
 refine⟨_,rfl,bS ?_ ?_⟩
 .show decide (((m.cf f:Nat):Int)<_)=false
  rw[L.h2,jh];exact decide_eq_false (by omega)
 rw[show al ((f:Int)+1)=((f+1:Nat):Int) by rw[bf (by omega) (by omega)];omega,show al ((f:Int)+2)=((f+2:Nat):Int) by rw[bf (by omega) (by omega)];omega]
 refine(ta gj (r:=f+1) (by omega)).mono ?_
 rintro _ _ ⟨rfl,rfl⟩
 refine⟨_,rfl,bS ?_ ?_⟩
 .show decide (((m.cf (f+1):Nat):Int)<_)=false
  rw[L.ew];exact decide_eq_false (by omega)
 refine(ta gj (r:=f+2) (by omega)).mono ?_
 rintro _ _ ⟨rfl,rfl⟩
 refine⟨_,rfl,bS ?_ ?_⟩
 .show decide (((m.cf (f+2):Nat):Int)<_)=false
  rw[L.fF,L.mc];simp
 refine k7 mG (bM λay aK f4 b1 bh=>bM λaN aR f5 cy bE=>?_)
 have n32:ay≠aN:=λe=>by rw[<-e,b1] at f5;cases f5
 exact⟨aN,ay,rfl,cy,⟨[],0,bE.get b1,rfl⟩,(nw.trans bh).free f5,nw.free f4,Ne.symm n32,(nw.trans bh).trans bE⟩
end

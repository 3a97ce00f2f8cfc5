import Derived.Test.YtegdpmgnhnccaaaGreatStoN
import Derived.Test.YtegdpmgnhnccaaaGreatStoL
import Derived.Test.YtegdpmgnhnccaaaGreatPla
namespace Go.cR
def dN (c:Int)(n:Nat):Nat:=(if c<0 then -(c+1) else c).toNat%n
theorem kS (c:Int){n:Nat}(h:0<n):dN c n<n:=aEk _ h
end Go.cR
namespace Go.Proofs.Tryz
open Go Go.cR Go.RowKit
set_option maxRecDepth 8000
end Go.Proofs.Tryz
namespace Go.Proofs.Tryz
open Go Go.cR Go.RowKit
set_option maxRecDepth 8000
def Fm (m s t L:Nat):cq:=⟨m,L,s,t,λh=>jJ (hL (m-2*h) s t),1⟩
theorem ai6 {m s t L:Nat}(hm:m<=10)(aV:1<=s/\s<=8)(bG:1<=t/\t<=64)(eg:1<=L/\L<=4):(Fm m s t L).dt:=by
 refine⟨hm,eg,λh=>?_⟩;have lo:lG (m-2*h) (s:Int) (t:Int):=⟨by omega,by omega,by omega⟩;have ar:=lo.zv;have F3:=lo.IM;refine⟨(show m-2*h<=10 by omega),aV,bG,?_,?_⟩
 .show jJ (hL (m-2*h) s t)<=8;exact OY (by omega) (by simp;omega)
 .have e:mj (m-2*h) s t=2 ^ jJ (hL (m-2*h) s t):=JZ _;have a_:hL (m-2*h) s t=(((Fm m s t L).ew h).n:Nat):=Pt ((Fm m s t L).ew h);show((Fm m s t L).ew h).n<=2 ^ jJ (hL (m-2*h) s t);have b7:((2 ^ jJ (hL (m-2*h) s t):Nat):Int)=2 ^ jJ (hL (m-2*h) s t):=by simp
  refine Int.ofNat_le.1 ?_;rw[b7,<-a_,<-e];exact F3.1
theorem Fo {n k:Int}(ah:2<=k)(aa: -9223372036854775808<=n)(ad:n<=9223372036854775807): -9223372036854775808<=n.tdiv k/\n.tdiv k<=9223372036854775807:=by
 have h:(n.tdiv k).natAbs=n.natAbs/k.natAbs:=Int.natAbs_tdiv n k;have an:n.natAbs/k.natAbs<=n.natAbs/2:=Nat.div_le_div_left (by omega) (by decide);omega
def xN (m s t h:Nat):List Nat:=[s*(2 ^ (m-2*h+1)-1),t,2 ^ jJ (hL (m-2*h) s t)]
def s7 (p m s t L n:Nat):List Nat:=p::2 ^ (m-2*(L-1))::(List.range n).flatMap (xN m s t)
theorem Pu (p m s t L n:Nat):s7 p m s t L (n+1)=s7 p m s t L n++xN m s t n:=by simp[s7,aDQ]
theorem Wm (p m s t L n:Nat):(s7 p m s t L n).length=3*n+2:=by
 induction n with
 | zero=>rfl
 | succ n dI=>rw[Pu,aDs,dI];simp[xN];omega
theorem zS (p m s t L:Nat):∀n h j,h<n->j<3->(s7 p m s t L n).getD (2+3*h+j) 0=(xN m s t h).getD j 0
 | 0,h,j,b2,_=>by omega
 | n+1,h,j,b2,aU=>by
  rw[Pu];have aT:=Wm p m s t L n;by_cases c:h<n
  .have:(s7 p m s t L n++xN m s t n).getD (2+3*h+j) 0=(s7 p m s t L n).getD (2+3*h+j) 0:=by
    simp only[List.getD];rw[aD0 (by omega)]
   rw[this];exact zS p m s t L n h j c aU
  .have:h=n:=by omega
   subst this;simp only[List.getD];rw[aFe (by omega),aT,show 2+3*h+j-(3*h+2)=j by omega]
theorem amE {m s t:Nat}(h:Nat):wk m s t h=(xN m s t h).map λn:Nat=>(n:Int):=by
 have aP:1<=2 ^ (m-2*h):=aEf;have e:mj (m-2*h) s t=2 ^ jJ (hL (m-2*h) s t):=JZ _;unfold wk xN;rw[e];simp only[aEs,List.map_nil];rw[aD_,aEA,Int.natCast_sub (by omega)];simp[Int.mul_comm]
theorem Wl (p m s t L:Nat):∀n,(p:Int)::sk m s t L n=(s7 p m s t L n).map λn:Nat=>(n:Int)
 | 0=>by simp[sk,s7]
 | n+1=>by rw[Pv,Pu,aD4,<-Wl p m s t L n,amE];rfl
end Go.Proofs.Tryz
namespace Go.Proofs.Tryz
open Go Go.cR Go.RowKit
set_option maxRecDepth 8000
def zP:c7:=⟨λ_ _=>fm,0,λ_=>false,λ_=>[],[]⟩
abbrev gy:ao:=⟨none,0,0,none⟩
end Go.Proofs.Tryz
namespace Go.cR
theorem YD {G:cq}{w:Nat->aE}{u:Nat}{op:fv}{x:Nat}:∀h v p S,∃l,(kl G w u op x h v p S).1.gone=S.gone++l
 | 0,v,p,S=>⟨_,rfl⟩
 | h+1,v,p,S=>by
  obtain⟨l,e⟩:=YD (G:=G) (w:=w) (u:=u) (op:=op) (x:=x) h (ih (G.old (h+1) (cT x (h+1)) (gd v p (G.leaf w (h+1) (G.bQ u (h+1)+1),G.bQ u (h+1)+1)).1 { S with gone:=S.gone++[gd v p (G.leaf w (h+1) (G.bQ u (h+1)+1),G.bQ u (h+1)+1)] }).1 (2*(x/4 ^ h%4))) (ih (G.old (h+1) (cT x (h+1)) (gd v p (G.leaf w (h+1) (G.bQ u (h+1)+1),G.bQ u (h+1)+1)).1 { S with gone:=S.gone++[gd v p (G.leaf w (h+1) (G.bQ u (h+1)+1),G.bQ u (h+1)+1)] }).1 (2*(x/4 ^ h%4)+1))
   (G.acc (h+1) (.part (2*(x/4 ^ h%4)) (UInt64.ofNat (G.leaf w h (G.bQ u h)+1)) (UInt64.ofNat (G.bQ u h))) (cT x (h+1)) (gd v p (G.leaf w (h+1) (G.bQ u (h+1)+1),G.bQ u (h+1)+1)).1 (G.leaf w (h+1) (G.bQ u (h+1))) { S with gone:=S.gone++[gd v p (G.leaf w (h+1) (G.bQ u (h+1)+1),G.bQ u (h+1)+1)] })
  exact⟨[gd v p (G.leaf w (h+1) (G.bQ u (h+1)+1),G.bQ u (h+1)+1)]++l,e.trans (aDD ..)⟩
theorem Vp {G:cq}{w:Nat->aE}{op:fv}{x:Nat}{S:c7}:∃l,(de G w op x S).1.gone=S.gone++l:=YD ..
end Go.cR
namespace Go.Proofs.Tryz
open Go Go.cR Go.RowKit
set_option maxRecDepth 8000
theorem YE {m:Nat}{s t:Int}{L:Nat}{first:Int}{ls n_:List Int}:∀n,(∀i,i<n->ls.getD i 0=n_.getD i 0)->k8 m s t L first ls n=k8 m s t L first n_ n
 | 0,_=>rfl
 | n+1,h=>by rw[vD,vD,YE n (λi hi=>h i (by omega)),h n (by omega)]
theorem Vn {m:Nat}{s t:Int}{L:Nat}{first:Int}{l fw:List Int}(h:L<=l.length):oH m s t L first (l++fw)=oH m s t L first l:=by
 unfold oH;rw[YE (ls:=l++fw) (n_:=l) L λi hi=>by simp[List.getD,aD0 (show i<l.length by omega)]]
theorem ahN {m:Nat}{s t:Int}{L:Nat}{first:Int}{l fw:List Int}(n:Nat):n*L<=l.length->oG m s t L first (l++fw) n=oG m s t L first l n:=by
 induction n with
 | zero=>intro _;simp only[oG,List.range_zero,List.flatMap_nil]
 | succ n dI =>
  intro h;rw[aFP] at h;rw[ER,ER,dI (by omega),aFv (by omega),Vn (by rw[aDY];omega)]
structure aCm (G:cq)(ws:List aE)(B:j4)(a:Nat)(S:c7)(a8:List dk)(es gs:ao)(h:ak):Prop where
 r:h8 G ws B S a8 es gs h
 e2:lk G (wf ws) 0 S.used S
 us:S.used=0+2*G.L*a
 n5:S.gone.length=G.L*a
 a8:a8=oG G.m G.s G.t G.L G.f (S.gone.map λy=>(y.1:Int)) a
section
variable {G:cq} {ws:List aE} {B:j4} {a:Nat} {S:c7} {a8:List dk} {es gs:ao} {h af:ak}
end
end Go.Proofs.Tryz
namespace Go.cR
theorem YF {op:fv}{id:aE}{l:List aE}:(meets op id l).length<=l.length+1:=by
 cases op<;>simp only[meets]
 .omega
 .split<;>simp
 .split<;>simp
 .omega
theorem YG {G:cq}{w:Nat->aE}(op:fv)(u x:Nat):∀h v p S af,((kl G w u op x h v p S).1.ids af).length<=(S.ids af).length+1
 | 0,v,p,S,af=>by
  by_cases c:af=0
  .show(if af=0 then meets op (cT x 0) (S.ids 0) else S.ids af).length<=_
   rw[aDr c,c];exact YF
  .show(if af=0 then meets op (cT x 0) (S.ids 0) else S.ids af).length<=_
   rw[aDq c];omega
 | h+1,v,p,S,af=>by
  let fz:c7:={ S with gone:=S.gone++[gd v p (G.leaf w (h+1) (G.bQ u (h+1)+1),G.bQ u (h+1)+1)] };let cy:fv:= .part (2*(x/4 ^ h%4)) (UInt64.ofNat (G.leaf w h (G.bQ u h)+1)) (UInt64.ofNat (G.bQ u h));let fF:=G.acc (h+1) cy (cT x (h+1)) (gd v p (G.leaf w (h+1) (G.bQ u (h+1)+1),G.bQ u (h+1)+1)).1 (G.leaf w (h+1) (G.bQ u (h+1))) fz;let ol:=(G.old (h+1) (cT x (h+1)) (gd v p (G.leaf w (h+1) (G.bQ u (h+1)+1),G.bQ u (h+1)+1)).1 fz).1;show((kl G w u op x h (ih ol (2*(x/4 ^ h%4))) (ih ol (2*(x/4 ^ h%4)+1)) fF).1.ids af).length<=_;by_cases c:af=h+1
  .rw[(Pw op u x h _ _ fF af (by omega)).2];show(if af=h+1 then meets cy (cT x (h+1)) (S.ids (h+1)) else S.ids af).length<=_;rw[aDr c,c];exact YF
  .have:=YG (G:=G) (w:=w) op u x h (ih ol (2*(x/4 ^ h%4))) (ih ol (2*(x/4 ^ h%4)+1)) fF af;have e:fF.ids af=S.ids af:=by
    show(if af=h+1 then meets cy (cT x (h+1)) (S.ids (h+1)) else S.ids af)=_;rw[aDq c]
   rw[e] at this;exact this
theorem amF {G:cq}{w:Nat->aE}(op:fv)(x:Nat)(S:c7)(af:Nat):((de G w op x S).1.ids af).length<=(S.ids af).length+1:=YG ..
end Go.cR
namespace Go.Proofs.Tryz
open Go Go.cR Go.RowKit
set_option maxRecDepth 8000
end Go.Proofs.Tryz
namespace Go.cR
theorem YH {G:cq}{w:Nat->aE}(op:fv)(u x:Nat):∀h v p S af,(kl G w u op x h v p S).1.over af=false->S.over af=false
 | 0,v,p,S,af,bc=>by
  by_cases c:af=0
  .have bc:(if af=0 then S.over 0||_ else S.over af)=false:=bc;rw[aDr c,aFj] at bc;rw[c];exact bc.1
  .have bc:(if af=0 then S.over 0||_ else S.over af)=false:=bc;rw[aDq c] at bc;exact bc
 | h+1,v,p,S,af,bc=>by
  let fz:c7:={ S with gone:=S.gone++[gd v p (G.leaf w (h+1) (G.bQ u (h+1)+1),G.bQ u (h+1)+1)] };let cy:fv:= .part (2*(x/4 ^ h%4)) (UInt64.ofNat (G.leaf w h (G.bQ u h)+1)) (UInt64.ofNat (G.bQ u h));let fF:=G.acc (h+1) cy (cT x (h+1)) (gd v p (G.leaf w (h+1) (G.bQ u (h+1)+1),G.bQ u (h+1)+1)).1 (G.leaf w (h+1) (G.bQ u (h+1))) fz;let ol:=(G.old (h+1) (cT x (h+1)) (gd v p (G.leaf w (h+1) (G.bQ u (h+1)+1),G.bQ u (h+1)+1)).1 fz).1;have ad:fF.over af=false:=YH op u x h (ih ol (2*(x/4 ^ h%4))) (ih ol (2*(x/4 ^ h%4)+1)) fF af bc;by_cases c:af=h+1
  .have ad:(if af=h+1 then S.over (h+1)||_ else S.over af)=false:=ad;rw[aDr c,aFj] at ad;rw[c];exact ad.1
  .have ad:(if af=h+1 then S.over (h+1)||_ else S.over af)=false:=ad;rw[aDq c] at ad;exact ad
theorem ahx {G:cq}{w:Nat->aE}(op:fv)(x:Nat)(S:c7)(af:Nat):(de G w op x S).1.over af=false->S.over af=false:=YH op _ x _ _ _ _ af
def aCn (k:Int)(d:c_):fv:=if k=0 then .look else if k=1 then .put d else .drop
def Live (G:cq)(S:c7)(A:aE->Option c_):Prop:=∃gB K,xP G S gB K A
def zx (A:aE->Option c_)(op:fv)(x:aE):aE->Option c_:=λid=>if id=x then op.now (pb A id).1 (pb A id).2 else A id
theorem Nm {A:aE->Option c_}{op:fv}{x id:aE}(h:id≠x):zx A op x id=A id:=aDq h
theorem Nl {A:aE->Option c_}{op:fv}{x:aE}:zx A op x x=op.now (pb A x).1 (pb A x).2:=aDr rfl
theorem ahw (x:Nat):cT x 0=UInt64.ofNat x:=by unfold cT;simp
end Go.cR
namespace Go.Proofs.Tryz
open Go Go.cR Go.RowKit
set_option maxRecDepth 8000
section
variable {G:cq} {ws:List aE} {B:j4} {a:Nat} {S:c7} {a8:List dk} {es gs:ao} {h:ak}
end

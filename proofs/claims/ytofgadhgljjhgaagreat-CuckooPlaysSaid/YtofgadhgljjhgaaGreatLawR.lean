import Derived.Test.YtofgadhgljjhgaaGreatStoN
import Derived.Test.YtofgadhgljjhgaaGreatStoL
import Derived.Test.YtofgadhgljjhgaaGreatPla
namespace Go.cD
def e_ (c:Int)(n:Nat):Nat:=(if c<0 then -(c+1) else c).toNat%n
theorem mL (c:Int){n:Nat}(h:0<n):e_ c n<n:=Nat.mod_lt _ h
end Go.cD
namespace Go.Proofs.Tryz
open Go Go.cD Go.RowKit
set_option maxRecDepth 8000
end Go.Proofs.Tryz
namespace Go.Proofs.Tryz
open Go Go.cD Go.RowKit
set_option maxRecDepth 8000
def Ee (m s t L:Nat):cG:=⟨m,L,s,t,λh=>lb (iw (m-2*h) s t),1⟩
theorem agM {m s t L:Nat}(hm:m<=10)(aU:1<=s/\s<=8)(bw:1<=t/\t<=64)(dY:1<=L/\L<=4):(Ee m s t L).da:=by
 refine⟨hm,dY,λh=>?_⟩
 have lo:lR (m-2*h) (s:Int) (t:Int):=⟨by omega,by omega,by omega⟩
 have au:=lo.AM
 have IH:=lo.LG
 refine⟨(show m-2*h<=10 by omega),aU,bw,?_,?_⟩
 .show lb (iw (m-2*h) s t)<=8
  exact VU (by omega) (by simp;omega)
 .have e:mc (m-2*h) s t=2 ^ lb (iw (m-2*h) s t):=Nm _
  have a8:iw (m-2*h) s t=(((Ee m s t L).d_ h).n:Nat):=Nz ((Ee m s t L).d_ h)
  show((Ee m s t L).d_ h).n<=2 ^ lb (iw (m-2*h) s t)
  have b0:((2 ^ lb (iw (m-2*h) s t):Nat):Int)=2 ^ lb (iw (m-2*h) s t):=by simp
  refine Int.ofNat_le.1 ?_
  rw[b0,<-a8,<-e];exact IH.1
theorem Ef {n k:Int}(ag:2<=k)(aa: -9223372036854775808<=n)(ad:n<=9223372036854775807): -9223372036854775808<=n.tdiv k/\n.tdiv k<=9223372036854775807:=by
 have h:(n.tdiv k).natAbs=n.natAbs/k.natAbs:=Int.natAbs_tdiv n k
 have an:n.natAbs/k.natAbs<=n.natAbs/2:=Nat.div_le_div_left (by omega) (by decide)
 omega
def wS (m s t h:Nat):List Nat:=[s*(2 ^ (m-2*h+1)-1),t,2 ^ lb (iw (m-2*h) s t)]
def sr (p m s t L n:Nat):List Nat:=p::2 ^ (m-2*(L-1))::(List.range n).flatMap (wS m s t)
theorem NA (p m s t L n:Nat):sr p m s t L (n+1)=sr p m s t L n++wS m s t n:=by simp[sr,List.range_succ]
theorem UE (p m s t L n:Nat):(sr p m s t L n).length=3*n+2:=by
 induction n with
 | zero=>rfl
 | succ n dK=>rw[NA,List.length_append,dK];simp[wS];omega
theorem yV (p m s t L:Nat):∀n h j,h<n->j<3->(sr p m s t L n).getD (2+3*h+j) 0=(wS m s t h).getD j 0
 | 0,h,j,bR,_=>by omega
 | n+1,h,j,bR,aV=>by
  rw[NA]
  have aT:=UE p m s t L n
  by_cases c:h<n
  .have:(sr p m s t L n++wS m s t n).getD (2+3*h+j) 0=(sr p m s t L n).getD (2+3*h+j) 0:=by
    simp only[List.getD];rw[List.getElem?_append_left (by omega)]
   rw[this];exact yV p m s t L n h j c aV
  .have:h=n:=by omega
   subst this
   simp only[List.getD]
   rw[List.getElem?_append_right (by omega),aT,show 2+3*h+j-(3*h+2)=j by omega]
theorem ajr {m s t:Nat}(h:Nat):vb m s t h=(wS m s t h).map λn:Nat=>(n:Int):=by
 have aS:1<=2 ^ (m-2*h):=Nat.one_le_two_pow
 have e:mc (m-2*h) s t=2 ^ lb (iw (m-2*h) s t):=Nm _
 unfold vb wS
 rw[e]
 simp only[List.map_cons,List.map_nil]
 rw[Nat.pow_succ,Int.natCast_mul,Int.natCast_sub (by omega)]
 simp[Int.mul_comm]
theorem UD (p m s t L:Nat):∀n,(p:Int)::rD m s t L n=(sr p m s t L n).map λn:Nat=>(n:Int)
 | 0=>by simp[rD,sr]
 | n+1=>by rw[NB,NA,List.map_append,<-UD p m s t L n,ajr];rfl
end Go.Proofs.Tryz
namespace Go.Proofs.Tryz
open Go Go.cD Go.RowKit
set_option maxRecDepth 8000
def yS:cU:=⟨λ_ _=>e6,0,λ_=>false,λ_=>[],[]⟩
abbrev gD:ar:=⟨none,0,0,none⟩
end Go.Proofs.Tryz
namespace Go.cD
theorem Wa {G:cG}{w:Nat->UInt64}{u:Nat}{op:fg}{x:Nat}:∀h v p S,∃l,(jR G w u op x h v p S).1.gone=S.gone++l
 | 0,v,p,S=>⟨_,rfl⟩
 | h+1,v,p,S=>by
  obtain⟨l,e⟩:=Wa (G:=G) (w:=w) (u:=u) (op:=op) (x:=x) h (hP (G.old (h+1) (cE x (h+1)) (fM v p (G.leaf w (h+1) (G.bH u (h+1)+1),G.bH u (h+1)+1)).1 { S with gone:=S.gone++[fM v p (G.leaf w (h+1) (G.bH u (h+1)+1),G.bH u (h+1)+1)] }).1 (2*(x/4 ^ h%4))) (hP (G.old (h+1) (cE x (h+1)) (fM v p (G.leaf w (h+1) (G.bH u (h+1)+1),G.bH u (h+1)+1)).1 { S with gone:=S.gone++[fM v p (G.leaf w (h+1) (G.bH u (h+1)+1),G.bH u (h+1)+1)] }).1 (2*(x/4 ^ h%4)+1))
   (G.acc (h+1) (.part (2*(x/4 ^ h%4)) (UInt64.ofNat (G.leaf w h (G.bH u h)+1)) (UInt64.ofNat (G.bH u h))) (cE x (h+1)) (fM v p (G.leaf w (h+1) (G.bH u (h+1)+1),G.bH u (h+1)+1)).1 (G.leaf w (h+1) (G.bH u (h+1))) { S with gone:=S.gone++[fM v p (G.leaf w (h+1) (G.bH u (h+1)+1),G.bH u (h+1)+1)] })
  exact⟨[fM v p (G.leaf w (h+1) (G.bH u (h+1)+1),G.bH u (h+1)+1)]++l,e.trans (List.append_assoc ..)⟩
theorem TE {G:cG}{w:Nat->UInt64}{op:fg}{x:Nat}{S:cU}:∃l,(c3 G w op x S).1.gone=S.gone++l:=Wa ..
end Go.cD
namespace Go.Proofs.Tryz
open Go Go.cD Go.RowKit
set_option maxRecDepth 8000
theorem Wb {m:Nat}{s t:Int}{L:Nat}{first:Int}{ls DN:List Int}:∀n,(∀i,i<n->ls.getD i 0=DN.getD i 0)->oc m s t L first ls n=oc m s t L first DN n
 | 0,_=>rfl
 | n+1,h=>by rw[BD,BD,Wb n (λi hi=>h i (by omega)),h n (by omega)]
theorem af1 {m:Nat}{s t:Int}{L:Nat}{first:Int}{l fx:List Int}(h:L<=l.length):qw m s t L first (l++fx)=qw m s t L first l:=by
 unfold qw
 rw[Wb (ls:=l++fx) (DN:=l) L λi hi=>by simp[List.getD,List.getElem?_append_left (show i<l.length by omega)]]
structure aze (G:cG)(ws:List UInt64)(B:jy)(a:Nat)(S:cU)(a7:List de)(es gs:ar)(h:ak):Prop where
 r:hH G ws B S a7 es gs h
 eJ:kQ G (λp=>ws.getD p 0) 0 S.used S
 us:S.used=0+2*G.L*a
 oy:S.gone.length=G.L*a
 a7:a7=ajb G.m G.s G.t G.L G.f (S.gone.map λy=>(y.1:Int)) a
section
variable {G:cG} {ws:List UInt64} {B:jy} {a:Nat} {S:cU} {a7:List de} {es gs:ar} {h ah:ak}
end
end Go.Proofs.Tryz
namespace Go.cD
theorem Wc {op:fg}{id:UInt64}{l:List UInt64}:(meets op id l).length<=l.length+1:=by
 cases op<;>simp only[meets]
 .omega
 .split<;>simp
 .split<;>simp
 .omega
theorem Wd {G:cG}{w:Nat->UInt64}(op:fg)(u x:Nat):∀h v p S ah,((jR G w u op x h v p S).1.ids ah).length<=(S.ids ah).length+1
 | 0,v,p,S,ah=>by
  by_cases c:ah=0
  .show(if ah=0 then meets op (cE x 0) (S.ids 0) else S.ids ah).length<=_
   rw[if_pos c,c];exact Wc
  .show(if ah=0 then meets op (cE x 0) (S.ids 0) else S.ids ah).length<=_
   rw[if_neg c];omega
 | h+1,v,p,S,ah=>by
  let fm:cU:={ S with gone:=S.gone++[fM v p (G.leaf w (h+1) (G.bH u (h+1)+1),G.bH u (h+1)+1)] }
  let cj:fg:= .part (2*(x/4 ^ h%4)) (UInt64.ofNat (G.leaf w h (G.bH u h)+1)) (UInt64.ofNat (G.bH u h))
  let fy:=G.acc (h+1) cj (cE x (h+1)) (fM v p (G.leaf w (h+1) (G.bH u (h+1)+1),G.bH u (h+1)+1)).1 (G.leaf w (h+1) (G.bH u (h+1))) fm
  let ol:=(G.old (h+1) (cE x (h+1)) (fM v p (G.leaf w (h+1) (G.bH u (h+1)+1),G.bH u (h+1)+1)).1 fm).1
  show((jR G w u op x h (hP ol (2*(x/4 ^ h%4))) (hP ol (2*(x/4 ^ h%4)+1)) fy).1.ids ah).length<=_
  by_cases c:ah=h+1
  .rw[(NC op u x h _ _ fy ah (by omega)).2]
   show(if ah=h+1 then meets cj (cE x (h+1)) (S.ids (h+1)) else S.ids ah).length<=_
   rw[if_pos c,c];exact Wc
  .have:=Wd (G:=G) (w:=w) op u x h (hP ol (2*(x/4 ^ h%4))) (hP ol (2*(x/4 ^ h%4)+1)) fy ah
   have e:fy.ids ah=S.ids ah:=by
    show(if ah=h+1 then meets cj (cE x (h+1)) (S.ids (h+1)) else S.ids ah)=_
    rw[if_neg c]
   rw[e] at this;exact this
theorem ajs {G:cG}{w:Nat->UInt64}(op:fg)(x:Nat)(S:cU)(ah:Nat):((c3 G w op x S).1.ids ah).length<=(S.ids ah).length+1:=Wd ..
end Go.cD
namespace Go.Proofs.Tryz
open Go Go.cD Go.RowKit
set_option maxRecDepth 8000
end Go.Proofs.Tryz
namespace Go.cD
theorem We {G:cG}{w:Nat->UInt64}(op:fg)(u x:Nat):∀h v p S ah,(jR G w u op x h v p S).1.over ah=false->S.over ah=false
 | 0,v,p,S,ah,a_=>by
  by_cases c:ah=0
  .have a_:(if ah=0 then S.over 0||_ else S.over ah)=false:=a_
   rw[if_pos c,Bool.or_eq_false_iff] at a_
   rw[c];exact a_.1
  .have a_:(if ah=0 then S.over 0||_ else S.over ah)=false:=a_
   rw[if_neg c] at a_;exact a_
 | h+1,v,p,S,ah,a_=>by
  let fm:cU:={ S with gone:=S.gone++[fM v p (G.leaf w (h+1) (G.bH u (h+1)+1),G.bH u (h+1)+1)] }
  let cj:fg:= .part (2*(x/4 ^ h%4)) (UInt64.ofNat (G.leaf w h (G.bH u h)+1)) (UInt64.ofNat (G.bH u h))
  let fy:=G.acc (h+1) cj (cE x (h+1)) (fM v p (G.leaf w (h+1) (G.bH u (h+1)+1),G.bH u (h+1)+1)).1 (G.leaf w (h+1) (G.bH u (h+1))) fm
  let ol:=(G.old (h+1) (cE x (h+1)) (fM v p (G.leaf w (h+1) (G.bH u (h+1)+1),G.bH u (h+1)+1)).1 fm).1
  have ad:fy.over ah=false:=We op u x h (hP ol (2*(x/4 ^ h%4))) (hP ol (2*(x/4 ^ h%4)+1)) fy ah a_
  by_cases c:ah=h+1
  .have ad:(if ah=h+1 then S.over (h+1)||_ else S.over ah)=false:=ad
   rw[if_pos c,Bool.or_eq_false_iff] at ad
   rw[c];exact ad.1
  .have ad:(if ah=h+1 then S.over (h+1)||_ else S.over ah)=false:=ad
   rw[if_neg c] at ad;exact ad
theorem afl {G:cG}{w:Nat->UInt64}(op:fg)(x:Nat)(S:cU)(ah:Nat):(c3 G w op x S).1.over ah=false->S.over ah=false:=We op _ x _ _ _ _ ah
def azf (k:Int)(d:c0):fg:=if k=0 then .look else if k=1 then .put d else .drop
def Live (G:cG)(S:cU)(A:UInt64->Option c0):Prop:=∃gb K,wU G S gb K A
def yy (A:UInt64->Option c0)(op:fg)(x:UInt64):UInt64->Option c0:=λid=>if id=x then op.now (oz A id).1 (oz A id).2 else A id
theorem LQ {A:UInt64->Option c0}{op:fg}{x id:UInt64}(h:id≠x):yy A op x id=A id:=if_neg h
theorem LP {A:UInt64->Option c0}{op:fg}{x:UInt64}:yy A op x x=op.now (oz A x).1 (oz A x).2:=if_pos rfl
theorem afk (x:Nat):cE x 0=UInt64.ofNat x:=by unfold cE;simp
end Go.cD
namespace Go.Proofs.Tryz
open Go Go.cD Go.RowKit
set_option maxRecDepth 8000
section
variable {G:cG} {ws:List UInt64} {B:jy} {a:Nat} {S:cU} {a7:List de} {es gs:ar} {h:ak}
end

import Derived.Test.YtegdpmgnhnccaaaGreatStoZ
import Derived.Test.YtegdpmgnhnccaaaGreatRdL
import Derived.Test.YtegdpmgnhnccaaaGreatStoN
import Derived.Test.YtegdpmgnhnccaaaGreatStoL
import Derived.Test.YtegdpmgnhnccaaaGreatPla
namespace Go.cQ
def hV (c:Int)(n:Nat):Nat:=(if c<0 then -(c+1) else c).toNat%n
theorem p4 (c:Int){n:Nat}(h:0<n):hV c n<n:=aum _ h
def qN (n:a8):ei:=Vector.ofFn λi:Fin 8=>n*UInt64.ofNat (2*i.val+3)+UInt64.ofNat i.val
def arM (c:Int):Int:=[0,1,1,3].getD (hV c 4) 0
end Go.cQ
namespace Go.Proofs.Tryz
open Go Go.cQ Go.RowKit
set_option maxRecDepth 8000
theorem EF {c:Int}(aa: -9223372036854775808<=c)(ad:c<=9223372036854775807){n:Nat}(aH:0<n):eu prog 38 [U c,U n] (U (hV c n)):=by
 intro h;refine abT _ _ ?_;unfold P7;refine b6 (λb1=>⟨by omega,?_,bB.refl h⟩) λc3=>⟨by omega,?_,bB.refl h⟩
 .have e:al (0-al (c+1))=((-(c+1)).toNat:Nat):=by rw[bl (n:=c+1),bl];omega
  rw[e];unfold hV;rw[as8 b1];congr 1
 .obtain⟨k,rfl⟩:=auU (show 0<=c by omega);unfold hV;rw[as7 c3];congr 1
theorem EG (n:a8):eu prog 14 [ak n] (ec (qN n)):=by
 intro h;refine m7 _ ?_;unfold P8;refine bL λaj aa f1 aC aE=>bL λaB ad f2 a7 az=>?_;have eA:=aE.trans az;have f20:=aE.free f2;have cE:aB≠aj:=λe=>by rw[e,aC] at f2;cases f2
 let D:Nat->ei:=λi=>Vector.ofFn λj:Fin 8=>if j.val<i then n*UInt64.ofNat (2*j.val+3)+UInt64.ofNat j.val else 0
 refine⟨λbO q1 aP ax g bI=>n=bO/\q1=⟨aj,0⟩/\aP=⟨aB,0⟩/\∃i:Nat,ax=i/\i<=8/\bI=8-i/\g aB=some (.cells (ae.cells (.ws 8 (D i))).toArray 49 (0,0))/\g aj=ad aj/\bB h g,
  ⟨8,rfl,rfl,rfl,0,rfl,by omega,rfl,?_,rfl,eA⟩,?_⟩
 .rw[a7];rfl
 rintro bO q1 aP ax g bI ⟨rfl,rfl,rfl,i,rfl,hi,rfl,g2,g1,cv⟩;refine b6 (λb1=>?_) λc3=>?_
 .have bN:i<8:=by omega
  refine⟨by omega,by omega,?_⟩;rw[show 0+Int.toNat (i:Int)*1=i by omega,show al (al (2*(i:Int))+3)=((2*i+3:Nat):Int) by rw[bl (n:=2*(i:Int)),bl];omega,jr (by omega),jr (by omega)];refine ob cv f20 g2 bN λbg gq IL il=>⟨8-(i+1),by omega,rfl,rfl,rfl,i+1,bl,by omega,rfl,?_,(il _ (atf cE)).trans g1,gq⟩;rw[IL];have:(D i).set i (n*UInt64.ofNat (2*i+3)+UInt64.ofNat i)=D (i+1):=by
   apply aub;intro j aL;simp only[D,atL,auD];by_cases c:i=j
   .subst c;rw[as8 rfl,d_]
   .rw[as7 c];by_cases aZ:j<i
    .rw[as8 aZ,d_]
    .rw[as7 aZ,cS]
  rw[this]
 .have bN:i=8:=by omega
  subst bN;have ew:D 8=qN n:=by
   apply aub;intro j aL;simp only[D,qN,auD];rw[as8 aL]
  rw[ew] at g2;refine⟨_,da g2,m8 (n:=8) cv f1 (g1.trans (az.get aC)) rfl λbg gq EH _=>⟨_,da EH,rfl,gq⟩⟩
end Go.Proofs.Tryz
namespace Go.Proofs.Tryz
open Go Go.cQ Go.RowKit
set_option maxRecDepth 8000
def mL (m s t L:Nat):c2:=⟨m,L,s,t,λh=>j1 (ht (m-2*h) s t),1⟩
theorem EI {m s t L:Nat}(hm:m<=10)(aR:1<=s/\s<=8)(bz:1<=t/\t<=64)(fp:1<=L/\L<=4):(mL m s t L).dk:=by
 refine⟨hm,fp,λh=>?_⟩;have lo:kv (m-2*h) (s:Int) (t:Int):=⟨by omega,by omega,by omega⟩;have au:=lo.ys;have EJ:=lo.H3;refine⟨(show m-2*h<=10 by omega),aR,bz,?_,?_⟩
 .show j1 (ht (m-2*h) s t)<=8;exact PW (by omega) (by simp;omega)
 .have e:kO (m-2*h) s t=2 ^ j1 (ht (m-2*h) s t):=Iy _;have a7:ht (m-2*h) s t=(((mL m s t L).dP h).n:Nat):=IM ((mL m s t L).dP h);show((mL m s t L).dP h).n<=2 ^ j1 (ht (m-2*h) s t);have b2:((2 ^ j1 (ht (m-2*h) s t):Nat):Int)=2 ^ j1 (ht (m-2*h) s t):=by simp
  refine Int.ofNat_le.1 ?_;rw[b2,<-a7,<-e];exact EJ.1
def iD (n:Int):c2:=mL (hV n 6) (1+hV (n.tdiv 6) 3) (1+hV (n.tdiv 18) 8) (1+hV (n.tdiv 144) 3)
theorem abU (n:Int):(iD n).dk:=by
 have aa:=p4 n (n:=6) (by decide);have ad:=p4 (n.tdiv 6) (n:=3) (by decide);have aq:=p4 (n.tdiv 18) (n:=8) (by decide);have aJ:=p4 (n.tdiv 144) (n:=3) (by decide);exact EI (by omega) (by omega) (by omega) (by omega)
theorem IN {n k:Int}(ab:2<=k)(aa: -9223372036854775808<=n)(ad:n<=9223372036854775807): -9223372036854775808<=n.tdiv k/\n.tdiv k<=9223372036854775807:=by
 have h:(n.tdiv k).natAbs=n.natAbs/k.natAbs:=Int.natAbs_tdiv n k;have aq:n.natAbs/k.natAbs<=n.natAbs/2:=Nat.div_le_div_left (by omega) (by decide);omega
theorem abV {n:Int}(aa: -9223372036854775808<=n)(ad:n<=9223372036854775807):eu prog 7 [U n] (v4 (iD n).m (iD n).s (iD n).t (iD n).L):=by
 intro h;have hF:=p4 n (n:=6) (by decide);have jt:=p4 (n.tdiv 6) (n:=3) (by decide);have yK:=p4 (n.tdiv 18) (n:=8) (by decide);have sW:=p4 (n.tdiv 144) (n:=3) (by decide);have t1:=IN (k:=6) (by decide) aa ad;have t2:=IN (k:=18) (by decide) aa ad;have t3:=IN (k:=144) (by decide) aa ad;refine fL _ ?_;unfold P9;refine bL λaj qO f1 aC aE=>⟨by decide,by decide,by decide,?_⟩;rw[iN t1.1 t1.2,iN t2.1 t2.2,iN t3.1 t3.2];refine(EF aa ad (n:=6) (by decide)).to λg1 g_=>⟨_,rfl,by omega,?_⟩;refine(EF t1.1 t1.2 (n:=3) (by decide)).to λg2 hW=>⟨_,rfl,?_⟩;refine(EF t2.1 t2.2 (n:=8) (by decide)).to λg3 qP=>⟨_,rfl,?_⟩;refine(EF t3.1 t3.2 (n:=3) (by decide)).to λg4 uy=>⟨_,rfl,?_⟩;have P_:=(g_.trans hW).trans (qP.trans uy);have IP:min (Int.toNat ((hV n 6:Nat):Int)) 64=hV n 6:=by omega
 have wE:2 ^ hV n 6<=2 ^ 5:=atg (by decide) (by omega);have abW:(2:Int) ^ hV n 6=((2 ^ hV n 6:Nat):Int):=by simp
 have ah: -9223372036854775808<=(2:Int) ^ hV n 6/\(2:Int) ^ hV n 6<=9223372036854775807:=by
  rw[abW];generalize 2 ^ hV n 6=y at wE;omega
 rw[IP];refine kC (aE.trans P_) f1 (P_.get aC) rfl λg5 mM cD _=>⟨_,aF cD rfl,_,aF cD rfl,_,aF cD rfl,_,aF cD rfl,?_,mM⟩;rw[Int.one_mul,iN (n:=(2:Int) ^ hV n 6) ah.1 ah.2,iN (n:=1+((hV (n.tdiv 6) 3:Nat):Int)) (by omega) (by omega),iN (n:=1+((hV (n.tdiv 18) 8:Nat):Int)) (by omega) (by omega),iN (n:=1+((hV (n.tdiv 144) 3:Nat):Int)) (by omega) (by omega)];show _=v4 (hV n 6) ((1+hV (n.tdiv 6) 3:Nat):Int) ((1+hV (n.tdiv 18) 8:Nat):Int) (1+hV (n.tdiv 144) 3);simp
def uC (m s t h:Nat):List Nat:=[s*(2 ^ (m-2*h+1)-1),t,2 ^ j1 (ht (m-2*h) s t)]
def oc (m s t L n:Nat):List Nat:=1::2 ^ (m-2*(L-1))::(List.range n).flatMap (uC m s t)
theorem IQ (m s t L n:Nat):oc m s t L (n+1)=oc m s t L n++uC m s t n:=by simp[oc,ato]
theorem IS (m s t L n:Nat):(oc m s t L n).length=3*n+2:=by
 induction n with
 | zero=>rfl
 | succ n c6=>rw[IQ,as9,c6];simp[uC];omega
theorem wF (m s t L:Nat):∀n h j,h<n->j<3->(oc m s t L n).getD (2+3*h+j) 0=(uC m s t h).getD j 0
 | 0,h,j,bT,_=>by omega
 | n+1,h,j,bT,aL=>by
  rw[IQ];have aO:=IS m s t L n;by_cases c:h<n
  .have:(oc m s t L n++uC m s t n).getD (2+3*h+j) 0=(oc m s t L n).getD (2+3*h+j) 0:=by
    simp only[List.getD];rw[atB (by omega)]
   rw[this];exact wF m s t L n h j c aL
  .have:h=n:=by omega
   subst this;simp only[List.getD];rw[auN (by omega),aO,show 2+3*h+j-(3*h+2)=j by omega]
theorem abX {m s t:Nat}(h:Nat):o1 m s t h=(uC m s t h).map λn:Nat=>(n:Int):=by
 have aM:1<=2 ^ (m-2*h):=auJ;have e:kO (m-2*h) s t=2 ^ j1 (ht (m-2*h) s t):=Iy _;unfold o1 uC;rw[e];simp only[at1,List.map_nil];rw[atP,ava,Int.natCast_sub (by omega)];simp[Int.mul_comm]
theorem IT (m s t L:Nat):∀n,(1:Int)::mb m s t L n=(oc m s t L n).map λn:Nat=>(n:Int)
 | 0=>by simp[mb,oc]
 | n+1=>by rw[EK,IQ,atD,<-IT m s t L n,abX];rfl
end Go.Proofs.Tryz
namespace Go.Proofs.Tryz
open Go Go.cQ Go.RowKit
set_option maxRecDepth 8000
def qQ:fj:=⟨λ_ _=>gz,0,λ_=>false,λ_=>[],[]⟩
abbrev e9:an:=⟨none,0,0,none⟩
theorem Qa {m s t L:Nat}(hm:m<=8)(aR:1<=s/\s<=8)(bz:1<=t/\t<=64)(fp:1<=L/\L<=4):∀n∈oc m s t L L,1<=n/\n<=4096:=by
 have o:=EI (m:=m) (s:=s) (t:=t) (L:=L) (by omega) aR bz fp;intro n IU;unfold oc at IU;simp only[at3,List.mem_flatMap,atq] at IU;have aM:∀a,a<=8->1<=2 ^ a/\2 ^ a<=256:=λa bV=>⟨auJ,atg (n:=2) (by decide) bV⟩;rcases IU with rfl|rfl|⟨i,_,hi⟩
 .omega
 .have:=aM (m-2*(L-1)) (by omega);omega
 .unfold uC at hi;simp only[at3,List.not_mem_nil,or_false] at hi;rcases hi with rfl|rfl|rfl
  .have aa:=aM (m-2*i) (by omega);rw[atP];generalize 2 ^ (m-2*i)=y at *;have a7:s*(y*2-1)<=8*511:=atI aR.2 (by omega);have b2:1*1<=s*(y*2-1):=atI aR.1 (by omega);omega
  .omega
  .have:=aM (j1 (ht (m-2*i) s t)) (o.fu i).E;omega
theorem Qb {m s t L:Nat}(hm:m<=8)(aR:1<=s/\s<=8)(bz:1<=t/\t<=64)(fp:1<=L/\L<=4){h:ai}{ws:List a8}{dG:an}(p5:ey ak h dG ws)(BE:ws.length*8<=140737488355328) :
 aw 8 [v4 m s t L,aU dG] h λv ag=>∃B:kR,v= .tuple #[bu ⟨B.m.b,0⟩,bu ⟨B.tb,0⟩,bu ⟨B.cm,0⟩]/\fM (mL m s t L) ws B qQ [] e9 e9 ag/\wG (mL m s t L) B/\(∀x,fv (mL m s t L) B e9 e9 x->h x=none)/\bB h ag/\B.m.ep=3*L+2/\∀i,B.m.cq i=(oc m s t L L).getD i 0:=by
 have o:=EI (m:=m) (s:=s) (t:=t) (L:=L) (by omega) aR bz fp;have dX:mK m s t L:=o.st;refine ha _ _ _ _ _ ?_;unfold Qc;refine bL λaj aa f1 aC aE=>bL λaB ad f2 a7 az=>?_;have aX:=az.get aC;have f20:=aE.free f2;have cE:aB≠aj:=λe=>by rw[e,aC] at f2;cases f2
 refine⟨_,aF aX rfl,_,aF aX rfl,_,aF aX rfl,_,aF aX rfl,?_⟩;refine(abY dX ad).mono ?_;rintro _ aq ⟨s1,rfl,cB,aD⟩;have jX:=(aE.trans az).trans aD;have fJ:b9 dg h aq ⟨some ⟨aB,0⟩,1,1,none⟩ [1]:=b9.nu f20 (aD.get a7) rfl rfl;have jd:=EL m s t L L;refine⟨s1,rfl,b9.app oU qD fJ cB.rd (λb au=>jX.free au) (by simp[jd];omega) (by decide) ?_⟩;intro s2 aJ ez p6 _ _;have p7:=qK fJ jX p6;rw[show [(1:Int)]++mb m s t L L=(1:Int)::mb m s t L L from rfl,IT] at ez;have aH:=IS m s t L L;refine(abZ ez.rd (by omega) (by omega) (Qa hm aR bz fp)).mono ?_;rintro _ aW ⟨mN,mm,rfl,M,jq,ln,ab0,bU⟩;have hy:=p7.trans bU;refine⟨some ⟨mm.b,0⟩,_,rfl,?_⟩;refine(ab1 (p5.bE hy) BE).mono ?_;rintro _ bd ⟨cw,tb,dp,rfl,ab2,Qd,IV,cb⟩;refine⟨some ⟨tb,0⟩,rfl,b0 rfl (b0 rfl ?_)⟩;have p8:=hy.trans cb;have fC:bd aj=_:=cb.get (bU.get ((p6 aj (by rw[aD.get aX];simp) λq ah e=>by cases ah;exact cE e.symm).trans (aD.get aX)));refine⟨_,aF fC rfl,_,aF fC rfl,_,aF fC rfl,_,aF fC rfl,?_⟩;have kS:=M.bE cb;have nB:∀i,i<(mL m s t L).L->oR mm ((mL m s t L).dP i) ((mL m s t L).base i):=λi hi=>by
  have hi:i<L:=hi;have hU:(mL m s t L).base i=2+3*i+0:=by show 1+1+3*i=_;omega
  rw[hU];refine⟨by omega,by rw[jq,aH];omega,?_,?_,?_,rfl⟩
  .rw[ln,wF m s t L L i 0 hi (by decide)];rfl
  .rw[ln,show 2+3*i+0+1=2+3*i+1 by omega,wF m s t L L i 1 hi (by decide)];rfl
  .rw[ln,show 2+3*i+0+2=2+3*i+2 by omega,wF m s t L L i 2 hi (by decide)];rfl
 have BF:dp≠tb->bd dp≠none:=λcX=>(IV cX).2;refine(ab3 (G:=mL m s t L) (u:=0) o nB (by rw[jq,aH];show 1<3*L+2;omega) (by rw[ln];rfl) kS ab2 BF ?_ ?_).mono ?_
 .exact λIW=>M.dv IW Qd
 .exact λcX IW=>M.dv IW (IV cX).1
 rintro _ cg ⟨B,rfl,EM,IX,ab4,s3,ab5,uD,cV⟩;refine⟨some ⟨B.cm,0⟩,_,rfl,B,by rw[EM,IX];rfl,s3,ab5,?_,p8.trans cV,by rw[EM,jq,aH],λi=>by rw[EM];exact ln i⟩;rintro x (af|⟨p,af⟩)
 .rw[EM] at af;exact p7.free (ab0 x af)
 .by_cases aX:p= .tb
  .subst aX;have af:x=B.tb:=af;rw[af,IX];exact hy.free Qd
  .by_cases aZ:p= .dp
   .subst aZ;have aa:=af.1;have ad:=af.2;rw[ab4] at aa ad;rw[IX] at ad;rw[aa];exact hy.free (IV ad).1
   .exact p8.free (uD p x aX aZ af)
theorem ab6 {m s t L:Nat}(hm:m<=8)(aR:1<=s/\s<=8)(bz:1<=t/\t<=64)(fp:1<=L/\L<=4){h:ai}{ws:List a8}{dG:an}(p5:ey ak h dG ws)(BE:ws.length*8<=140737488355328) :
 aw 8 [v4 m s t L,aU dG] h λv ag=>∃B:kR,v= .tuple #[bu ⟨B.m.b,0⟩,bu ⟨B.tb,0⟩,bu ⟨B.cm,0⟩]/\fM (mL m s t L) ws B qQ [] e9 e9 ag/\wG (mL m s t L) B/\(∀x,fv (mL m s t L) B e9 e9 x->h x=none)/\bB h ag:=by
 refine(Qb hm aR bz fp p5 BE).mono ?_;rintro _ ag ⟨B,e,r,st,f,k,_⟩;exact⟨B,e,r,st,f,k⟩
end Go.Proofs.Tryz
namespace Go.cQ
theorem Qe {G:c2}{w:Nat->a8}{u:Nat}{op:fN}{x:Nat}:∀h v p S,∃l,(j2 G w u op x h v p S).1.gone=S.gone++l
 | 0,v,p,S=>⟨_,rfl⟩
 | h+1,v,p,S=>by
  obtain⟨l,e⟩:=Qe (G:=G) (w:=w) (u:=u) (op:=op) (x:=x) h (hJ (G.old (h+1) (cu x (h+1)) (fD v p (G.leaf w (h+1) (G.bG u (h+1)+1),G.bG u (h+1)+1)).1 { S with gone:=S.gone++[fD v p (G.leaf w (h+1) (G.bG u (h+1)+1),G.bG u (h+1)+1)] }).1 (2*(x/4 ^ h%4))) (hJ (G.old (h+1) (cu x (h+1)) (fD v p (G.leaf w (h+1) (G.bG u (h+1)+1),G.bG u (h+1)+1)).1 { S with gone:=S.gone++[fD v p (G.leaf w (h+1) (G.bG u (h+1)+1),G.bG u (h+1)+1)] }).1 (2*(x/4 ^ h%4)+1))
   (G.acc (h+1) (.part (2*(x/4 ^ h%4)) (UInt64.ofNat (G.leaf w h (G.bG u h)+1)) (UInt64.ofNat (G.bG u h))) (cu x (h+1)) (fD v p (G.leaf w (h+1) (G.bG u (h+1)+1),G.bG u (h+1)+1)).1 (G.leaf w (h+1) (G.bG u (h+1))) { S with gone:=S.gone++[fD v p (G.leaf w (h+1) (G.bG u (h+1)+1),G.bG u (h+1)+1)] })
  exact⟨[fD v p (G.leaf w (h+1) (G.bG u (h+1)+1),G.bG u (h+1)+1)]++l,e.trans (atr ..)⟩
theorem Qf {G:c2}{w:Nat->a8}{op:fN}{x:Nat}{S:fj}:∃l,(gV G w op x S).1.gone=S.gone++l:=Qe ..
end Go.cQ
namespace Go.Proofs.Tryz
open Go Go.cQ Go.RowKit
set_option maxRecDepth 8000
theorem Qg {m:Nat}{s t:Int}{L:Nat}{first:Int}{ls IY:List Int}:∀n,(∀i,i<n->ls.getD i 0=IY.getD i 0)->mJ m s t L first ls n=mJ m s t L first IY n
 | 0,_=>rfl
 | n+1,h=>by rw[yJ,yJ,Qg n (λi hi=>h i (by omega)),h n (by omega)]
theorem ab7 {m:Nat}{s t:Int}{L:Nat}{first:Int}{l eF:List Int}(h:L<=l.length):qM m s t L first (l++eF)=qM m s t L first l:=by
 unfold qM;rw[Qg (ls:=l++eF) (IY:=l) L λi hi=>by simp[List.getD,atB (show i<l.length by omega)]]
theorem Qh {m:Nat}{s t:Int}{L:Nat}{first:Int}{l eF:List Int}(n:Nat):n*L<=l.length->s0 m s t L first (l++eF) n=s0 m s t L first l n:=by
 induction n with
 | zero=>intro _;simp only[s0,List.range_zero,List.flatMap_nil]
 | succ n c6 =>
  intro h;rw[Nat.succ_mul] at h;rw[BD,BD,c6 (by omega),List.drop_append_of_le_length (by omega),ab7 (by rw[auF];omega)]
structure nC (G:c2)(ws:List a8)(B:kR)(a:Nat)(S:fj)(a_:List dt)(es gs:an)(h:ai):Prop where
 r:fM G ws B S a_ es gs h
 dY:kD G (wf ws) 0 S.used S
 us:S.used=0+2*G.L*a
 kT:S.gone.length=G.L*a
 a_:a_=s0 G.m G.s G.t G.L G.f (S.gone.map λy=>(y.1:Int)) a
section
variable {G:c2} {ws:List a8} {B:kR} {a:Nat} {S:fj} {a_:List dt} {es gs:an} {h ag:ai}
theorem nC.bE (R:nC G ws B a S a_ es gs h)(o:G.dk)(k:bB h ag):nC G ws B a S a_ es gs ag:=⟨R.r.bE o k,R.dY,R.us,R.kT,R.a_⟩
theorem nC.zero (r:fM G ws B qQ [] e9 e9 h):nC G ws B 0 qQ [] e9 e9 h:=⟨r,kD.zero (λ_ _=>rfl) rfl,rfl,rfl,rfl⟩
theorem IZ (o:G.dk)(st:wG G B)(R:nC G ws B a S a_ es gs h)(bV:a<=1000){op:fN}{k:Int}{d:ei}(fE:wH op k 0 d)(ab:k=0∨k=1∨k=3){x:Nat}(af:x<2 ^ G.m) :
 aw 13 [bu ⟨B.cm,0⟩,U k,ak (UInt64.ofNat x),ec d] h λr ag=>∃eJ bb gl,r= .tuple #[ec (gV G (wf ws) op x S).2.1,.bool (gV G (wf ws) op x S).2.2]/\nC G ws B (a+1) (gV G (wf ws) op x S).1 eJ bb gl ag/\cn (fv G B es gs) h (fv G B bb gl) ag:=by
 have fp:=o.L;have aa:2*G.L*a<=2*4*1000:=atI (by omega) bV;have ad:G.L*a<=4*1000:=atI (by omega) bV;have hu:=R.us;have cR:=R.kT;have wI:=IK o.st (G.f:Int) (S.gone.map λy=>(y.1:Int)) a;rw[<-R.a_] at wI;obtain⟨aj,aB,aS⟩:=Qi o R.us (by omega) R.dY R.kT (op:=op) af (BG o af);refine(Qj o st R.r fE ab af R.dY R.us R.kT (by omega) (by omega) (by omega)).mono ?_;rintro _ g ⟨eJ,bb,gl,rfl,e1,eL,he⟩;refine⟨eJ,bb,gl,rfl,⟨e1,by rw[aS];exact aj,by rw[aS,hu,Nat.mul_succ];omega,aB,?_⟩,eL⟩;obtain⟨l,aO⟩:=Qf (G:=G) (w:=wf ws) (op:=op) (x:=x) (S:=S);rw[aO] at he ⊢;rw[he,R.a_,List.drop_left,atD,BD,Qh a (by rw[ath,cR,atK];exact as_ _)];have:(S.gone.map (λy=>(y.1:Int))++l.map λy=>(y.1:Int)).drop (a*G.L)=l.map λy=>(y.1:Int):=by
  rw[show a*G.L=(S.gone.map λy=>(y.1:Int)).length by rw[ath,cR,atK],List.drop_left]
 rw[this]
end
end Go.Proofs.Tryz
namespace Go.cQ
theorem Qk {op:fN}{id:a8}{l:List a8}:(meets op id l).length<=l.length+1:=by
 cases op<;>simp only[meets]
 .omega
 .split<;>simp
 .split<;>simp
 .omega
theorem Ql {G:c2}{w:Nat->a8}(op:fN)(u x:Nat):∀h v p S ag,((j2 G w u op x h v p S).1.ids ag).length<=(S.ids ag).length+1
 | 0,v,p,S,ag=>by
  by_cases c:ag=0
  .show(if ag=0 then meets op (cu x 0) (S.ids 0) else S.ids ag).length<=_
   rw[as8 c,c];exact Qk
  .show(if ag=0 then meets op (cu x 0) (S.ids 0) else S.ids ag).length<=_
   rw[as7 c];omega
 | h+1,v,p,S,ag=>by
  let hK:fj:={ S with gone:=S.gone++[fD v p (G.leaf w (h+1) (G.bG u (h+1)+1),G.bG u (h+1)+1)] };let cB:fN:= .part (2*(x/4 ^ h%4)) (UInt64.ofNat (G.leaf w h (G.bG u h)+1)) (UInt64.ofNat (G.bG u h));let eV:=G.acc (h+1) cB (cu x (h+1)) (fD v p (G.leaf w (h+1) (G.bG u (h+1)+1),G.bG u (h+1)+1)).1 (G.leaf w (h+1) (G.bG u (h+1))) hK;let ol:=(G.old (h+1) (cu x (h+1)) (fD v p (G.leaf w (h+1) (G.bG u (h+1)+1),G.bG u (h+1)+1)).1 hK).1;show((j2 G w u op x h (hJ ol (2*(x/4 ^ h%4))) (hJ ol (2*(x/4 ^ h%4)+1)) eV).1.ids ag).length<=_;by_cases c:ag=h+1
  .rw[(I0 op u x h _ _ eV ag (by omega)).2];show(if ag=h+1 then meets cB (cu x (h+1)) (S.ids (h+1)) else S.ids ag).length<=_;rw[as8 c,c];exact Qk
  .have:=Ql (G:=G) (w:=w) op u x h (hJ ol (2*(x/4 ^ h%4))) (hJ ol (2*(x/4 ^ h%4)+1)) eV ag;have e:eV.ids ag=S.ids ag:=by
    show(if ag=h+1 then meets cB (cu x (h+1)) (S.ids (h+1)) else S.ids ag)=_;rw[as7 c]
   rw[e] at this;exact this
theorem yL {G:c2}{w:Nat->a8}(op:fN)(x:Nat)(S:fj)(ag:Nat):((gV G w op x S).1.ids ag).length<=(S.ids ag).length+1:=Ql ..
end Go.cQ
namespace Go.Proofs.Tryz
open Go Go.cQ Go.RowKit
set_option maxRecDepth 8000
theorem I1 {G:c2}{ws:List a8}{B:kR}{a:Nat}{S:fj}{a_:List dt}{es gs:an}{h:ai}(o:G.dk)(R:nC G ws B a S a_ es gs h){op:fN}{x:Nat}(bV:a<=1000)(af:x<2 ^ G.m){fF:rP}{K:qR}{A:a8->Option ei}(n:s4 G S fF K A)
 (fin:(∀h,h<G.L->(gV G (wf ws) op x S).1.over h=false)∨(∀h,h<G.L->S.over h=false/\((gV G (wf ws) op x S).1.ids h).length<=G.t)) :
 ∃s5,s4 G (gV G (wf ws) op x S).1 s5 (od G (wf ws) S.used x K 0) (λid=>if id=cu x 0 then op.now (m9 A id).1 (m9 A id).2 else A id)/\(gV G (wf ws) op x S).2=m9 A (cu x 0) /\
  (gV G (wf ws) op x S).1.gone=S.gone++(List.range G.L).map (λi=>uE G (wf ws) S.used x K (G.L-1-i))/\∀h,h<G.L->(gV G (wf ws) op x S).1.over h=false:=by
 have fp:=o.L;have aa:2*G.L*a<=2*4*1000:=atI (by omega) bV;have hu:=R.us;exact ab8 o R.us (by omega) R.dY R.kT af (BG o af) n fin
theorem Qm {A:a8->Option ei}{id:a8}{v:Option ei}(h:A id=v):m9 A id=m9 (λ_=>v) id:=by unfold m9;rw[h]
theorem any_false {L:Nat}{f:Nat->Bool}(h:∀i,i<L->f i=false):(List.range L).any f=false:=by
 rw[List.any_eq_false];intro i hi;rw[h i (atq.1 hi)];simp
theorem ab9:eu prog 6 [] (.bool true):=by
 intro h;refine fC ?_;unfold Qn;have o:=EI (m:=2) (s:=2) (t:=4) (L:=1) (by decide) (by decide) (by decide) (by decide);refine bL λaj aa f1 aC aE=>?_;have p5:ey ak aa ⟨some ⟨aj,0⟩,6,6,none⟩ [3,1,4,1,5,9]:=(b9.nu (f:=ak) (h0:=h) (l:=[3,1,4,1,5,9]) (n:=6) f1 aC rfl rfl).rd;refine(ab6 (m:=2) (s:=2) (t:=4) (L:=1) (by decide) (by decide) (by decide) (by decide) p5 (by decide)).mono ?_;rintro _ ad ⟨B,rfl,wJ,st,uD,az⟩;generalize aY:mL 2 2 4 1=G at *;have yM:G.m=2:=by rw[<-aY];rfl
 have arN:G.L=1:=by rw[<-aY];rfl
 have I2:G.t=4:=by rw[<-aY];rfl
 have eA:=aE.trans az;have ab_:∀x,fv G B e9 e9 x->h x=none:=λx af=>aE.free (uD x af);have fB:=nC.zero wJ;refine⟨some ⟨B.m.b,0⟩,some ⟨B.tb,0⟩,some ⟨B.cm,0⟩,rfl,b0 rfl ?_⟩;refine(EG 5).to λaq aD=>⟨_,rfl,?_⟩;have Qo:=fB.bE o aD;have i0:∀y,qQ.ids y=[]:=λ_=>rfl;refine(IZ o st Qo (by omega) (op:= .put (qN 5)) (k:=1) (d:=qN 5) ⟨rfl,rfl⟩ (.inr (.inl rfl)) (x:=3) (by rw[yM];decide)).mono ?_;rintro _ aJ ⟨aca,mO,acb,rfl,kU,acd⟩;obtain⟨arO,aQ,ez,_,dc⟩:=I1 o Qo (op:= .put (qN 5)) (x:=3) (by omega) (by rw[yM];decide) (s4.zero (λ_ _=>rfl)) (.inr λy aA=>⟨rfl,by have:=yL (G:=G) (w:=wf [3,1,4,1,5,9]) (.put (qN 5)) 3 qQ y;rw[i0,avc] at this;rw[I2];omega⟩);have i4:=λy=>yL (G:=G) (w:=wf [3,1,4,1,5,9]) (.put (qN 5)) 3 qQ y;obtain⟨BH,rN⟩:=acd.bE (eA.trans aD) ab_;generalize arP:gV G (wf [3,1,4,1,5,9]) (.put (qN 5)) 3 qQ=qS at *;refine⟨_,_,rfl,bL λaB aW f5 cD bU=>?_⟩;refine fG (n:=8) ((iC (BH.trans bU) (λ_=>False))) (BH.free f5) cD rfl λbd v6 dK eI=>?_;have rQ:bB h bd:=λy aA=>v6.2.1 y aA id;have rR:nC G [3,1,4,1,5,9] B 1 qS.1 aca mO acb bd:=⟨kU.r.same λy aA=>by rw[eI y λe=>kU.r.out o f5 (e▸aA),bU y (kU.r.jM o aA)],kU.dY,kU.us,kU.kT,kU.a_⟩;have arQ:∀y,y<G.L->qS.1.over y=false:=dc;refine(IZ o st rR (by omega) (op:= .look) (k:=0) (d:=kE) rfl (.inl rfl) (x:=3) (by rw[yM];decide)).mono ?_;rintro _ cg ⟨ace,s6,Qp,rfl,uF,acf⟩;obtain⟨arR,bh,eU,_,fL⟩:=I1 o rR (op:= .look) (x:=3) (by omega) (by rw[yM];decide) aQ (.inr λy aA=>⟨dc y aA,by have aa:=yL (G:=G) (w:=wf [3,1,4,1,5,9]) .look 3 qS.1 y;have ad:=i4 y;rw[i0,avc] at ad;rw[I2];omega⟩);have i7:=λy=>yL (G:=G) (w:=wf [3,1,4,1,5,9]) .look 3 qS.1 y;obtain⟨wK,BI⟩:=acf.bE rQ rN;generalize arS:gV G (wf [3,1,4,1,5,9]) .look 3 qS.1=yN at *;refine⟨_,_,rfl,bL λaS cl f8 gg dT=>?_⟩;refine fG (n:=8) ((iC (wK.trans dT) (λ_=>False))) (wK.free f8) gg rfl λcL v9 iE e2=>?_;have acg:bB h cL:=λy aA=>v9.2.1 y aA id;have Qq:nC G [3,1,4,1,5,9] B 2 yN.1 ace s6 Qp cL:=⟨uF.r.same λy aA=>by rw[e2 y λe=>uF.r.out o f8 (e▸aA),dT y (uF.r.jM o aA)],uF.dY,uF.us,uF.kT,uF.a_⟩;have Qr:¬fv G B s6 Qp aS:=uF.r.out o f8;refine(IZ o st Qq (by omega) (op:= .look) (k:=0) (d:=kE) rfl (.inl rfl) (x:=2) (by rw[yM];decide)).mono ?_;rintro _ cT ⟨ach,Qs,aci,rfl,s7,I3⟩;obtain⟨arT,cz,hz,_,j3⟩:=I1 o Qq (op:= .look) (x:=2) (by omega) (by rw[yM];decide) bh (.inr λy aA=>⟨fL y aA,by have aa:=yL (G:=G) (w:=wf [3,1,4,1,5,9]) .look 2 yN.1 y;have ad:=i4 y;have aq:=i7 y;rw[i0,avc] at ad;rw[I2];omega⟩);obtain⟨Qt,arU⟩:=I3.bE acg BI;have uG:=I3.get iE Qr;have arV:=I3.out (by rw[iE];simp) Qr;generalize arW:gV G (wf [3,1,4,1,5,9]) .look 2 yN.1=Qu at *;refine⟨_,_,rfl,bL λb7 cO f11 wL h8=>?_⟩;refine fG (n:=8) ((iC (Qt.trans h8) (λ_=>False))) (Qt.free f11) wL rfl λcH kF m_ je=>?_;have BJ:bB h cH:=λy aA=>kF.2.1 y aA id;have rS:nC G [3,1,4,1,5,9] B 3 Qu.1 ach Qs aci cH:=⟨s7.r.same λy aA=>by rw[je y λe=>s7.r.out o f11 (e▸aA),h8 y (s7.r.jM o aA)],s7.dY,s7.us,s7.kT,s7.a_⟩;have n43:aS≠b7:=λe=>by rw[<-e,uG] at f11;cases f11
 have I4:cH aS=_:=(je _ n43).trans (h8.get uG);have bJ:qS.2=(kE,false):=ez;have dj:yN.2=(qN 5,true):=by rw[eU];exact(Qm (v:=some (qN 5)) (as8 rfl)).trans rfl
 have ed:Qu.2=(kE,false):=by
  rw[hz];exact(Qm (v:=none) ((as7 (by decide)).trans (as7 (by decide)))).trans rfl
 rw[bJ,dj,ed];rw[dj] at I4;refine eh rfl (eh rfl ⟨_,da I4,?_⟩);refine(EG 5).to λdL iS=>⟨_,rfl,da (iS.get I4),eh (by simp) (eh rfl ?_)⟩;refine(Qv o (rS.r.bE o iS)).mono ?_;rintro _ _ ⟨rfl,rfl⟩;refine⟨_,rfl,?_,BJ.trans iS⟩;rw[any_false j3];rfl
end Go.Proofs.Tryz
namespace Go.cQ
def Qw (k:Int)(d:ei):fN:=if k=0 then .look else if k=1 then .put d else .drop
def Live (G:c2)(S:fj)(A:a8->Option ei):Prop:=∃fF K,s4 G S fF K A
def arX (A:a8->Option ei)(op:fN)(x:a8):a8->Option ei:=λid=>if id=x then op.now (m9 A id).1 (m9 A id).2 else A id
end Go.cQ
namespace Go.Proofs.Tryz
open Go Go.cQ Go.RowKit
set_option maxRecDepth 8000
theorem acj {k:Int}(ab:k=0∨k=1∨k=3)(d:ei):wH (Qw k d) k 0 d:=by
 rcases ab with rfl|rfl|rfl
 .exact rfl
 .exact⟨rfl,rfl⟩
 .exact rfl
section
variable {G:c2} {ws:List a8} {B:kR} {a:Nat} {S:fj} {a_:List dt} {es gs:an} {h:ai}
end

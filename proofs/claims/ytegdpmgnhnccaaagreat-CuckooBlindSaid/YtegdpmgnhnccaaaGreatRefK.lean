import Derived.Test.YtegdpmgnhnccaaaGreatCukF
import Derived.Test.YtegdpmgnhnccaaaGreatCukQ
import Derived.Test.YtegdpmgnhnccaaaGreatRefT
namespace Go.cR
theorem avq (x:aE):dX x (UInt64.toNat 29)=x/536870912:=by
 apply aDE.1;unfold dX;rw[show 2 ^ (min (UInt64.toNat 29) 64)=536870912 from rfl,aDw,UInt64.toNat_div];have:=x.toNat_lt;show x.toNat/536870912%2 ^ 64=x.toNat/536870912;omega
theorem avr (x:aE):dX x (UInt64.toNat 32)=x/4294967296:=by
 apply aDE.1;unfold dX;rw[show 2 ^ (min (UInt64.toNat 32) 64)=4294967296 from rfl,aDw,UInt64.toNat_div];have:=x.toNat_lt;show x.toNat/4294967296%2 ^ 64=x.toNat/4294967296;omega
theorem avs (x:aE):uh x (UInt64.toNat 1) ||| 1=2*x+1:=by
 apply aDE.1;have h:=x.toNat_lt;have e:(uh x (UInt64.toNat 1)).toNat=2 ^ 1*(x.toNat%2 ^ 63):=by
  unfold uh cX;rw[show((2:Int) ^ (min (UInt64.toNat 1) 64))=2 from rfl,aDw];omega
 rw[UInt64.toNat_or,e,show UInt64.toNat 1=1 from rfl,<-Nat.two_pow_add_eq_or_of_lt (by decide),aEt,UInt64.toNat_mul,show UInt64.toNat 1=1 from rfl,show UInt64.toNat 2=2 from rfl];omega
theorem avt (x:aE):B3 x=(x ^^^ x/536870912)*11400714819323198485 ^^^ (x ^^^ x/536870912)*11400714819323198485/4294967296:=by
 unfold B3;rw[avr,avq]
theorem adq {key:aE}{d:c_}(h0:d[0]=1)(aa:d[1]=key+1):kR key (ix d)=some d[2]:=by
 have e:(nB d).1=key:=by
  show d[1]-1=key;rw[aa];apply aDE.1;rw[aE5,aEt];have:=key.toNat_lt;simp;omega
 unfold ix kR;rw[aDr h0];simp only;rw[aDr e];rfl
theorem LI {key:aE}{d:c_}(h:d[0]=1->d[1]≠key+1):kR key (ix d)=none:=by
 unfold ix;by_cases h0:d[0]=1
 .rw[aDr h0];unfold kR;simp only;rw[aDq];intro e;refine h h0 ?_;rw[<-show d[1]-1=key from e];apply aDE.1;rw[aEt,aE5];have:=d[1].toNat_lt;simp;omega
 .rw[aDq h0];rfl
end Go.cR
namespace Go.Proofs.Tryz
open Go Go.cR Go.RowKit
set_option maxRecDepth 8000
theorem avu {a b c d:aE}{k t:Nat}{key:aE}(ah:k<=3):ql a b c d (2 ^ k) t key=(B3 (key*(2*(if t=0 then a else c)+1)+(if t=0 then b else d))%cX ((2 ^ k:Nat):Int)).toNat:=by
 have sd:1<=2 ^ k:=aEf;have se:2 ^ k<=2 ^ 3:=aDy (by decide) ah;unfold ql;rw[avs,UInt64.toNat_and,bt,show((2 ^ k:Nat):Int)-1=((2 ^ k-1:Nat):Int) by omega,vi (by omega),aFo,vi (by omega)];exact aFt _ _
theorem adr (x:aE):fc prog 170 [ab x] (ab (B3 x)):=by
 intro h;refine atx _ ?_;unfold acv;refine⟨by decide,by decide,?_,bL.refl h⟩;rw[avt]
theorem avv {k:Nat}(ah:k<=3)(a b c d:aE){t:Nat}(bG:t<2)(key:aE):fc prog 151 [.agg #[ab a,ab b,ab c,ab d],U t,ab key,U ((2 ^ k:Nat):Int)] (U (ql a b c d (2 ^ k) t key:Nat)):=by
 intro h;have sd:1<=2 ^ k:=aEf;have se:2 ^ k<=2 ^ 3:=aDy (by decide) ah;have lL:=ND (a:=a) (b:=b) (c:=c) (d:=d) (t:=t) (key:=key) sd (by omega);rw[avu ah] at lL ⊢;refine as4 _ _ _ _ _ _ _ ?_;unfold acm;refine bP λae aa f1 aH aD=>⟨λay bu aA q1 aL ad bW=>(t:Int)=ay/\key=bu/\((2 ^ k:Nat):Int)=aA/\(⟨ae,0⟩:aF)=q1/\aa=ad/\∃j:Nat,aL=((2 ^ j:Nat):Int)/\j<=k/\bW=k-j,⟨k,rfl,rfl,rfl,rfl,rfl,0,rfl,by omega,rfl⟩,?_⟩;rintro ay bu aA q1 aL ad bW ⟨rfl,rfl,rfl,rfl,rfl,j,rfl,aU,rfl⟩;refine cj (λcl=>?_) λdH=>?_
 .have kb:j<k:=by
   rcases aDZ j k with h|h
   .exact h
   .have:j=k:=by omega
    subst this;omega
  have ad:2 ^ (j+1)<=2 ^ k:=aDy (by decide) kb;have an:2 ^ (j+1)=2*2 ^ j:=by rw[aD_];omega
  refine dF (show decide (((2 ^ j:Nat):Int)<1024)=true from pa) ⟨k-(j+1),by omega,rfl,rfl,rfl,rfl,rfl,j+1,?_,by omega,rfl⟩;rw[bt,an];omega
 .have kb:j=k:=by
   rcases aDZ j k with h|h
   .have:=aFA (a:=2) (by decide) h;omega
   .omega
  subst kb;refine b3 (by simp) (b3 (show decide ((t:Int)<0)=false from gT) (b3 (show decide (1<(t:Int))=false from gT) ⟨_,az aH rfl,_,az aH rfl,?_⟩));have bn:cX ((2 ^ j:Nat):Int)=0->False:=λe=>by
   have:=congrArg UInt64.toNat e;rw[vi (by omega)] at this;simp at this
  have:t=0∨t=1:=by omega
  rcases this with rfl|rfl
  .refine b3 rfl ((adr _).to λg aB=>⟨_,rfl,bn,?_,aD.trans aB⟩);rw[aDr rfl,aDr rfl] at lL ⊢;rw[bt]
  .refine dF rfl ⟨_,az aH rfl,_,az aH rfl,(adr _).to λg aB=>⟨_,rfl,bn,?_,aD.trans aB⟩⟩;rw[aDq (by decide),aDq (by decide)] at lL ⊢;rw[bt]
section
variable {T:TypeId} {m:jQ} {R:dY} {a8:List dk} {es:ao} {h:ak}
theorem avw (M:c8 T m R a8 es h){r:Nat}(aQ:r<m.fl){key:Nat}(ah:key<12)(n:aE)(aT:a8.length<4000000000000) :
 aq 150 [bm ⟨m.b,0⟩,U r,U key,ab n] h λv af=>∃aX,v= .tuple #[ab (kT (gO (λi=>(R r i)[key]==n) (m.cx r))),ez (ui (R r) (gO (λi=>(R r i)[key]==n) (m.cx r))),ab (mask (gO (λi=>(R r i)[key]==n) (m.cx r)).isSome)]/\c8 T m R (a8++reads r (m.cx r)) aX af/\bT (bS m es) h (bS m aX) af:=by
 have pf:=M.cx r aQ;refine as2 _ _ _ _ ?_;unfold ack;refine bP λae aa f1 aH aD=>bP λax ad f2 a_ aB=>?_;have cd:ax≠ae:=λe=>by rw[e,aH] at f2;cases f2
 have M2:=M.bA (aD.trans aB);have f20:=aD.free f2;generalize aP:(λi=>(R r i)[key]==n)=p at *;refine⟨λq1 ay aA bu aI bK ch bb aL g k=>q1=⟨m.b,0⟩/\ay=r/\aA=key/\n=bu/\aI=⟨ae,0⟩/\bb=⟨ax,0⟩/\∃i aX,aL=(i:Nat)/\i<=m.cx r/\k=m.cx r-i/\bK=kT (gO p i)/\ch=mask (gO p i).isSome/\c8 T m R (a8++reads r i) aX g/\bT (bS m es) h (bS m aX) g/\¬bS m aX ae/\¬bS m aX ax /\
  g ae=some (.cells (ag.cells (.ws 12 fm)).toArray 69 (0,0))/\g ax=some (.cells (ag.cells (.ws 12 (ui (R r) (gO p i)))).toArray 69 (0,0)),
  ⟨m.cx r,rfl,rfl,rfl,rfl,rfl,rfl,0,es,rfl,by omega,rfl,rfl,rfl,by simpa [reads] using M2,hj (aD.trans aB) _,M.out f1,M.out f20,aB.get aH,a_⟩,?_⟩
 rintro q1 ay aA bu aI bK ch bb aL g k ⟨rfl,rfl,rfl,rfl,rfl,rfl,i,aX,rfl,hi,rfl,rfl,rfl,gI,gl,e9,jT,g1,g2⟩;have rf:=rh r i;refine(ux gI aQ).mono ?_;rintro _ _ ⟨rfl,rfl⟩;refine⟨_,rfl,cj (λcl=>?_) λdH=>?_⟩
 .have cb:i<m.cx r:=by omega
  refine(w1 gI aQ cb (by rw[aDs,rf];omega)).mono ?_;rintro _ g3 ⟨hp,rfl,gH,v3⟩;have lZ:=gl.trans v3;have mS:=v3.get g1 e9;have sZ:=v3.get g2 jT;have n9:=v3.out (by rw[g1];simp) e9;have w7:=v3.out (by rw[g2];simp) jT;refine⟨_,rfl,bP λaM g4 f4 b6 bd=>fN (n:=12) (lZ.more bd) (lZ.2.2 aM f4) b6 rfl λg5 v5 cG cz=>?_⟩;have n31:ae≠aM:=λe=>by rw[<-e,mS] at f4;cases f4
  have n32:ax≠aM:=λe=>by rw[<-e,sZ] at f4;cases f4
  have qm:=(cz ae n31).trans (bd.get mS);have yO:=(cz ax n32).trans (bd.get sZ);have iU:=(gH.bA bd).move λy aC=>cz y λe=>gH.out f4 (e▸aC);rw[aDD,<-EV] at iU;have uj:((R r i)[key]==n)=p i:=by rw[<-aP]
  refine dF (pa) (dF (show decide ((key:Int)<12)=true from pa) ?_);have A1:∀ {bR:ak} {bK ch:aE},bK=kT (gO p (i+1))->ch=mask (gO p (i+1)).isSome->c8 T m R (a8++reads r (i+1)) hp bR->bT (bS m es) h (bS m hp) bR->bR ae=g5 ae->bR ax=some (.cells (ag.cells (.ws 12 (ui (R r) (gO p (i+1))))).toArray 69 (0,0))->∀ {P:Nat->Prop},(∀aG,aG=m.cx r-(i+1)->(∃i2 d_,al ((i:Int)+1)=(i2:Nat)/\i2<=m.cx r/\aG=m.cx r-i2/\bK=kT (gO p i2)/\ch=mask (gO p i2).isSome/\c8 T m R (a8++reads r i2) d_ bR/\bT (bS m es) h (bS m d_) bR/\¬bS m d_ ae/\¬bS m d_ ax/\bR ae=some (.cells (ag.cells (.ws 12 fm)).toArray 69 (0,0))/\bR ax=some (.cells (ag.cells (.ws 12 (ui (R r) (gO p i2)))).toArray 69 (0,0)))->P aG)->∃aG,aG<m.cx r-i/\P aG:=λ{bR bK ch} av aN a3 a4 a5 jf P jg =>
   ⟨m.cx r-(i+1),by omega,jg _ rfl ⟨i+1,hp,bt,by omega,rfl,av,aN,a3,a4,n9,w7,a5.trans qm,jf⟩⟩
  cases aV:gO p i with
  | some j =>
   have qb:gO p (i+1)=some j:=by rw[B4,aV]
   refine b3 (by rw[show mask (some j).isSome=18446744073709551615 from rfl];rfl) ?_;rw[aV] at yO;exact A1 (by rw[qb]) (by rw[qb]) iU v5 rfl (by rw[qb];exact yO) λaG yJ ⟨i2,d_,b2⟩=>⟨rfl,rfl,rfl,rfl,rfl,rfl,i2,d_,b2⟩
  | none =>
   refine dF rfl ⟨by omega,by omega,_,by rw[show 0+Int.toNat (key:Int)*1=key by simp];exact fs cG ah,?_⟩;rw[aV] at yO;refine iN (λai=>?_) λai=>?_
   .have ai:decide ((R r i)[key]=n)=true:=ai;have RF:p i=true:=by rw[<-uj];exact aFi.2 (aDN ai)
    have qb:gO p (i+1)=some i:=by rw[B4,aV,RF];rfl
    refine⟨_,dL cG,fN (n:=12) v5 f20 yO (by simp[ag.cells]) λg6 v6 dP ek=>?_⟩;exact A1 (by rw[qb];exact jU (by omega)) (by rw[qb];rfl) (iU.move λy aC=>ek y λe=>w7 (e▸aC)) v6 (ek _ (aDC cd)) (by rw[qb];exact dP) λaG yJ ⟨i2,d_,b2⟩=>⟨rfl,rfl,rfl,rfl,rfl,rfl,i2,d_,b2⟩
   .have ai:decide ((R r i)[key]=n)=false:=ai;have RF:p i=false:=by rw[<-uj];exact beq_eq_false_iff_ne.2 (aD3 ai)
    have qb:gO p (i+1)=none:=by rw[B4,aV,RF];rfl
    exact A1 (by rw[qb]) (by rw[qb]) iU v5 rfl (by rw[qb];exact yO) λaG yJ ⟨i2,d_,b2⟩=>⟨rfl,rfl,rfl,rfl,rfl,rfl,i2,d_,b2⟩
 .have:i=m.cx r:=by omega
  subst this;refine⟨_,dL g2,fN (n:=12) gl f1 g1 (by simp[ag.cells]) λg5 v5 cG cz=>⟨_,dL cG,aX,rfl,gI.move λy aC=>cz y λe=>e9 (e▸aC),v5⟩⟩
end
def Ow (B:mn)(X:eE)(y:km):Array Value:=#[bm ⟨B.cO,0⟩,bm ⟨B.m.b,0⟩,U 0,U X.T,U X.K,ab y.a,ab y.b,ab y.c,ab y.d]
structure lW (G:cq)(B:mn)(X:eE)(y:km):Prop where
 c:qi G X
 st:RG G B
 k:∃k,k<=3/\X.T=2 ^ k
 pl:∀t key,X.pl t key=ql y.a y.b y.c y.d X.T t key
 fl:0<B.m.fl
 cx:B.m.cx 0=X.sp
 K:X.K<=16
structure gQ (G:cq)(ws:List aE)(B:mn)(X:eE)(y:km)(a:Nat)(e:cW)(S:c7)(a8:List dk)(V:j5)(h:ak):Prop where
 r:h4 G ws B S a8 V h
 p:iE G (wf ws) a S
 oa:a8=ij G X.sp (ng S.gone) e
 oI:e.a=a
 cA:h y.cP=ev (Ow B X y) 238
 ju:¬dh B G.L V y.cP
 ta:∀q,B.ed.q=some q->0<ws.length->q.b≠y.cP
 q:oe (G.ew 0) (G.bV 0 S.R)
 xT:∀i,(S.ids i).length<=a
section
variable {G:cq} {ws:List aE} {B:mn} {X:eE} {y:km} {a:Nat} {e:cW} {S:c7} {a8:List dk} {V:j5} {h af:ak}
theorem gQ.bA (R:gQ G ws B X y a e S a8 V h)(F:lW G B X y)(k:bL h af):gQ G ws B X y a e S a8 V af:=⟨R.r.bA F.c.o k,R.p,R.oa,R.oI,k.get R.cA,R.ju,R.ta,R.q,R.xT⟩
theorem gQ.dK (R:gQ G ws B X y a e S a8 V h)(F:lW G B X y){z:Nat}(bn:dh B G.L V z∨z=y.cP):h z≠none:=by
 rcases bn with bn|rfl
 .exact R.r.mT F.c.o bn
 .rw[R.cA];simp
theorem gQ.new (R:gQ G ws B X y a e S a8 V h){b:Nat}{h0:ak}{F0:Nat->Prop}(v:bT F0 h0 (dh B G.L V) h)(ar:h0 b=none)(hw:∀q,B.ed.q=some q->0<ws.length->h0 q.b≠none)(ai:h0 y.cP≠none)(hG:¬dh B G.L V b)(o:∀z,z≠b->af z=h z):gQ G ws B X y a e S a8 V af :=
 ⟨R.r.loc hG (λq aj aT e=>hw q aj aT (e▸ar)) o,R.p,R.oa,R.oI,(o _ λe:y.cP=b=>ai (by rw[e];exact ar)).trans R.cA,R.ju,R.ta,R.q,R.xT⟩
theorem gQ.loc (R:gQ G ws B X y a e S a8 V h)(F:lW G B X y){b:Nat}{aa ad:ak}(f:h b=none)(k:bL h aa)(cz:∀z,z≠b->ad z=aa z):gQ G ws B X y a e S a8 V ad :=
 (R.bA F k).new (hj k _) f (λq aj aT=>(R.r.kM q aj aT).1) (by rw[R.cA];simp) (R.r.out F.c.o f) cz
theorem gQ.el (R:gQ G ws B X y a e S a8 V h)(F:lW G B X y):a8.length<=5000000*e.n:=by rw[R.oa];exact EX F.c.o F.c.sp _ _
theorem DR (F:lW G B X y)(R:gQ G ws B X y a e S a8 V h)(bY:a<=10000)(he:e.n<=10000){op:fv}{k:Int}{d:c_}(fV:zD op k 0 d)(ah:k=0∨k=1∨k=3)(aj:∀old there z,kC old->op.now old there=some z->kC z){x:Nat}(ai:x<2*X.T) :
 aq 15 [bm ⟨B.cO,0⟩,U k,ab (UInt64.ofNat x),ez d] h λr af=>∃cm cQ,r= .tuple #[ez (de G (wf ws) op x S).2.1,.bool (de G (wf ws) op x S).2.2]/\gQ G ws B X y (a+1) (e+1) (de G (wf ws) op x S).1 cm cQ af/\bT (dh B G.L V) h (dh B G.L cQ) af/\kC (de G (wf ws) op x S).2.1:=by
 have o:=F.c.o;have eg:=o.L;have aa:2*G.L*a<=2*4*10000:=aDP (by omega) bY;have ad:G.L*a<=4*10000:=aDP (by omega) bY;have hu:=R.p.us;have dd:=R.p.n5;have zE:=R.el F;have hx:x<2 ^ G.m:=by rw[F.c.m];exact ai
 have LJ:=R.xT;refine(avx o F.st R.r fV ah hx R.p.e2 R.p.us R.p.n5 (by omega) (by omega) (by omega) λi=>aFb (LJ i) (by omega)).mono ?_;rintro _ g ⟨cm,cQ,rfl,dG,gx,nD⟩;obtain⟨q1,aI⟩:=ai4 o R.p (by omega) hx aj R.q;refine⟨cm,cQ,rfl,⟨dG,R.p.acc o (by omega) hx,?_,congrArg (·+1) R.oI,gx.get R.cA R.ju,gx.out (by rw[R.cA];simp) R.ju,R.ta,q1,λi=>aE_ (amF op x S i) (Nat.succ_le_succ (LJ i))⟩,gx,aI⟩;obtain⟨l,aT⟩:=Vp (G:=G) (w:=wf ws) (op:=op) (x:=x) (S:=S);have vK:=R.oI;rw[nD,R.oa,aT];show _=ij G X.sp (ng (S.gone++l)) e++oH G.m G.s G.t G.L G.f ((ng (S.gone++l)).drop (G.L*e.a));unfold ng;rw[aD4,EW e (by rw[aDF,vK,dd];exact aDt _),vK,<-dd,aFR];congr 2;rw[<-aD4,<-List.map_drop,aFR]
theorem oe.ig (c:qi G X){q:oe (G.ew 0) (G.bV 0 S.R)}{i:Nat}{z:cM}:oe (G.ew 0) (G.bV 0 (ig S (0,i) z).R):=q.view λr j aQ=>by
 show fM S.R (0,i) z (G.base 0+r) j=_;unfold fM cq.base;rw[aDq (by simp)];rfl
theorem ads (F:lW G B X y)(R:gQ G ws B X y a e S a8 V h)(he:e.n<=10000)(at_:aE)(c:cM)(d:Bool) :
 aq 67 [bm ⟨B.m.b,0⟩,U 0,ab at_,ez c,ab (mask d)] h λv af=>∃cm cQ,v= .tuple #[]/\gQ G ws B X y a e.wr (if at_.toNat<X.sp/\d=true then ig S (0,at_.toNat) c else S) cm cQ af/\bT (dh B G.L V) h (dh B G.L cQ) af:=by
 have zE:=R.el F;refine(adt R.r.mem F.fl at_ c d (by omega)).mono ?_;rintro _ g ⟨aX,rfl,M,v⟩;obtain⟨df,ff⟩:=R.r.vL F.c.o M v;rw[F.cx] at df;refine⟨a8++writes ((0:Nat):Int) X.sp,_,rfl,⟨?_,?_,?_,R.oI,ff.get R.cA R.ju,ff.out (by rw[R.cA];simp) R.ju,R.ta,?_,?_⟩,ff⟩
 .by_cases aS:at_.toNat<X.sp/\d=true
  .rw[aDr aS] at df ⊢;exact df
  .rw[aDq aS] at df ⊢;exact df
 .by_cases aS:at_.toNat<X.sp/\d=true
  .rw[aDr aS];exact R.p.ig F.c.f
  .rw[aDq aS];exact R.p
 .rw[R.oa];by_cases aS:at_.toNat<X.sp/\d=true
  .rw[aDr aS];rfl
  .rw[aDq aS];rfl
 .by_cases aS:at_.toNat<X.sp/\d=true
  .rw[aDr aS];exact oe.ig F.c (q:=R.q)
  .rw[aDq aS];exact R.q
 .by_cases aS:at_.toNat<X.sp/\d=true
  .rw[aDr aS];exact R.xT
  .rw[aDq aS];exact R.xT
theorem adu (F:lW G B X y)(R:gQ G ws B X y a e S a8 V h)(he:e.n<=10000){key:Nat}(ah:key<12)(n:aE) :
 aq 150 [bm ⟨B.m.b,0⟩,U 0,U key,ab n] h λv af=>∃cm cQ,v= .tuple #[ab (kT (gO (λi=>(S.R 0 i)[key]==n) X.sp)),ez (ui (S.R 0) (gO (λi=>(S.R 0 i)[key]==n) X.sp)),ab (mask (gO (λi=>(S.R 0 i)[key]==n) X.sp).isSome)]/\gQ G ws B X y a e.rd S cm cQ af/\bT (dh B G.L V) h (dh B G.L cQ) af:=by
 have zE:=R.el F;refine(avw R.r.mem F.fl ah n (by omega)).mono ?_;rintro _ g ⟨aX,rfl,M,v⟩;obtain⟨df,ff⟩:=R.r.vL F.c.o M v;rw[F.cx] at df ⊢;exact⟨_,_,rfl,⟨df,R.p,by rw[R.oa];rfl,R.oI,ff.get R.cA R.ju,ff.out (by rw[R.cA];simp) R.ju,R.ta,R.q,R.xT⟩,ff⟩
theorem RH (F:lW G B X y){t:Nat}(bG:t<2)(key:aE):fc prog 151 [.agg #[ab y.a,ab y.b,ab y.c,ab y.d],U t,ab key,U (X.T:Nat)] (U (X.pl t key:Nat)):=by
 obtain⟨k,ah,gf⟩:=F.k;have a1:=avv ah y.a y.b y.c y.d bG key;rw[<-gf,<-F.pl] at a1;exact a1
theorem LK (F:lW G B X y)(cA:h y.cP=ev (Ow B X y) 238){t:Nat}(bG:t<2)(key:aE):aq 149 [bm ⟨y.cP,0⟩,U t,ab key] h λv af=>v=ab (UInt64.ofNat (X.bp t key))/\bL h af:=by
 refine as0 _ _ _ ?_;unfold acj;refine⟨_,az cA rfl,_,az cA rfl,_,az cA rfl,_,az cA rfl,_,az cA rfl,_,az cA rfl,(RH F bG key).to λg aD=>⟨_,rfl,⟨az (aD.get cA) rfl,trivial⟩,?_,aD⟩⟩;have gf:=F.c.T;have cl:=F.c.fE.pl t key;have hm:(t:Int)*(X.T:Int)=((t*X.T:Nat):Int):=by rw[aEA]
 have aa:t*X.T<=1*1000:=aDP (by omega) gf;rw[hm,iK (n:=((t*X.T:Nat):Int)) (by omega) (by omega),bt,show((t*X.T:Nat):Int)+((X.pl t key:Nat):Int)=((t*X.T+X.pl t key:Nat):Int) by omega,jU (by omega)];rfl
theorem RI (F:lW G B X y)(R:gQ G ws B X y a e S a8 V h)(bY:a<=10000)(he:e.n<=10000) :
 aq 152 [bm ⟨y.cP,0⟩] h λv af=>∃cm cQ,v= .tuple #[]/\gQ G ws B X y (a+1) (e+1) (k5 G (wf ws) S) cm cQ af/\bT (dh B G.L V) h (dh B G.L cQ) af:=by
 refine as6 _ ?_;unfold acn;have gf:=F.c.fE.T;refine⟨some ⟨B.cO,0⟩,az R.cA rfl,?_⟩;refine(DR F R bY he (op:= .look) (k:=0) (d:=j7) rfl (.inl rfl) (λold there z q h=>by cases there with
  | true=>exact aDX h▸q
  | false=>cases h) (x:=0) (by omega)).mono ?_
 rintro _ g ⟨cm,cQ,rfl,dG,v,_⟩;exact⟨_,_,rfl,cm,cQ,rfl,dG,v⟩
theorem adv:∀(old:c_) (there:Bool) (z:c_),kC old->fv.now .look old there=some z->kC z:=λold there z q h=>by
 cases there with
 | true=>exact aDX h▸q
 | false=>cases h
theorem ahY (F:lW G B X y)(R:gQ G ws B X y a e S a8 V h)(bY:a<=9000)(he:e.n<=9000)(key:aE) :
 aq 101 [bm ⟨y.cP,0⟩,ab key] h λv af=>∃cm cQ,v= .agg #[U (hg G (wf ws) X key S).2.1,ab (hg G (wf ws) X key S).2.2.1,ab (hg G (wf ws) X key S).2.2.2]/\gQ G ws B X y (a+2) (e+2).rd (hg G (wf ws) X key S).1 cm cQ af/\bT (dh B G.L V) h (dh B G.L cQ) af:=by
 suffices H:∀Q:Value->ak->Prop,(∀v af,(∃cm cQ,v= .agg #[U (hg G (wf ws) X key S).2.1,ab (hg G (wf ws) X key S).2.2.1,ab (hg G (wf ws) X key S).2.2.2]/\gQ G ws B X y (a+2) (e+2).rd (hg G (wf ws) X key S).1 cm cQ af/\bT (dh B G.L V) h (dh B G.L cQ) af)->Q v af)->aq 101 [bm ⟨y.cP,0⟩,ab key] h Q from H _ λ_ _ h=>h
 intro Q fI;have xS:hg G (wf ws) X key S=((de G (wf ws) .look (X.bp 1 key) (de G (wf ws) .look (X.bp 0 key) S).1).1,X.spot key (ix (de G (wf ws) .look (X.bp 0 key) S).2.1) (ix (de G (wf ws) .look (X.bp 1 key) (de G (wf ws) .look (X.bp 0 key) S).1).2.1) (S.R 0)):=rfl;rw[xS] at fI;refine arX _ _ ?_;unfold abT;refine bP λae aa f1 aH aD=>?_;have fG:=R.bA F aD;have e9:¬dh B G.L V ae:=R.r.out F.c.o f1;have hw:∀q,B.ed.q=some q->0<ws.length->h q.b≠none:=λq aj aT=>(R.r.kM q aj aT).1;have AZ:h y.cP≠none:=by rw[R.cA];simp
 refine⟨some ⟨B.cO,0⟩,az fG.cA rfl,(LK F fG.cA (t:=0) (by decide) key).mono ?_⟩;rintro _ ad ⟨rfl,aB⟩;have df:=fG.bA F aB;refine⟨_,rfl,⟨az df.cA rfl,trivial⟩,?_⟩;refine(DR F df (by omega) (by omega) (op:= .look) (k:=0) (d:=j7) rfl (.inl rfl) adv (x:=X.bp 0 key) (eE.ml F.c.fE (by decide) key)).mono ?_;rintro _ an ⟨oJ,kG,rfl,ob,v3,_⟩;have lZ:=(hj (aD.trans aB) (dh B G.L V)).trans v3;have lH:=v3.get (aB.get aH) e9;have cJ:=v3.out (by rw[aB.get aH];simp) e9;refine⟨_,_,rfl,bP λax aJ f4 b6 bd=>?_⟩;have f20:h ax=none:=lZ.2.2 _ f4;refine fN (n:=8) (lZ.more bd) f20 b6 rfl λaR v5 cG cz=>?_;have cd:ae≠ax:=λe=>by rw[<-e,lH] at f4;cases f4
 have pd:aR ae=_:=(cz ae cd).trans (bd.get lH);have n25:¬dh B G.L kG ax:=ob.r.out F.c.o f4;have jV:=ob.loc F f4 bd cz;refine⟨some ⟨B.cO,0⟩,az jV.cA rfl,(LK F jV.cA (t:=1) (by decide) key).mono ?_⟩;rintro _ bj ⟨rfl,cn⟩;have mv:=jV.bA F cn;refine⟨_,rfl,⟨az mv.cA rfl,trivial⟩,?_⟩;refine(DR F mv (by omega) (by rw[cW.jt];omega) (op:= .look) (k:=0) (d:=j7) rfl (.inl rfl) adv (x:=X.bp 1 key) (eE.ml F.c.fE (by decide) key)).mono ?_;rintro _ bU ⟨NU,mJ,rfl,I8,ee,_⟩;have I9:=(v5.more cn).trans ee;have pG:=ee.get (cn.get pd) cJ;have dm:=ee.out (by rw[cn.get pd];simp) cJ;have uQ:=ee.get (cn.get cG) n25;have n27:=ee.out (by rw[cn.get cG];simp) n25;refine⟨_,_,rfl,bP λaM bR f8 fO eO=>?_⟩;have f30:h aM=none:=I9.2.2 _ f8;refine fN (n:=8) (I9.more eO) f30 fO rfl λb9 v9 gm e3=>?_;have avy:ae≠aM:=λe=>by rw[<-e,pG] at f8;cases f8
 have avz:ax≠aM:=λe=>by rw[<-e,uQ] at f8;cases f8
 have oh:b9 ae=_:=(e3 ae avy).trans (eO.get pG);have uy:b9 ax=_:=(e3 ax avz).trans (eO.get uQ);have n39:¬dh B G.L mJ aM:=I8.r.out F.c.o f8;have nh:=I8.loc F f8 eO e3;have zG:(de G (wf ws) .look (X.bp 1 key) (de G (wf ws) .look (X.bp 0 key) S).1).1.R 0=S.R 0:=(r9 F.c.f _ _ _).trans (r9 F.c.f _ _ _);generalize (de G (wf ws) .look (X.bp 1 key) (de G (wf ws) .look (X.bp 0 key) S).1).2.1=d2 at *;generalize (de G (wf ws) .look (X.bp 1 key) (de G (wf ws) .look (X.bp 0 key) S).1).1=fF at *;generalize (de G (wf ws) .look (X.bp 0 key) S).2.1=d1 at *;refine⟨some ⟨B.m.b,0⟩,az nh.cA rfl,_,az nh.cA rfl,?_⟩;refine(adu F nh (by show(e+1+1).n<=10000;rw[cW.jt,cW.jt];omega) (key:=1) (by decide) (key+1)).mono ?_;rintro _ cp ⟨aj0,KG,rfl,JC,v10⟩;rw[zG];generalize ep:gO (λi=>(S.R 0 i)[1]==key+1) X.sp=o at *;have adw:=v9.trans v10;have avA:=v10.get oh dm;have avB:=v10.out (by rw[oh];simp) dm;have RJ:=v10.get uy n27;have JD:=v10.get gm n39;refine⟨_,_,_,rfl,bP λbM cf f11 mr gE=>?_⟩;have f40:h bM=none:=adw.2.2 _ f11;refine fN (n:=12) (adw.more gE) f40 mr rfl λbN iV ik gP=>?_;have RK:∀ {b:Nat} {e7:Obj},cp b=some e7->bN b=some e7:=λ{b e7} ar=>(gP b λe=>by rw[<-e,ar] at f11;cases f11).trans (gE.get ar);have mx:=JC.loc F f11 gE gP;have avC:=RK avA;have LL:=RK RJ;have LM:=RK JD;have aCQ:ae≠y.cP:=λe=>by have:=R.cA;rw[<-e,f1] at this;cases this
 have done:∀(s:r8),X.spot key (ix d1) (ix d2) (S.R 0)=s->∀g,bL bN g->aW g ⟨ae,0⟩ [U s.1,ab s.2.1,ab s.2.2] λcC=>∃aO:Int,bx cC ae 0=some (U aO)/\∃fr:aE,bx cC ae (0+1)=some (ab fr)/\∃gp:aE,bx cC ae (0+1+1)=some (ab gp)/\Q (.agg #[U aO,ab fr,ab gp]) cC:=λs aV g cY=>by
  rw[aV] at fI;have dJ:=mx.bA F cY;have gl:=iV.more cY;refine lY gl f1 (cY.get avC) rfl λcC jI pO ka=>⟨_,az pO rfl,_,az pO rfl,_,az pO rfl,fI _ _ ⟨_,_,rfl,dJ.new gl f1 hw AZ avB ka,jI⟩⟩
 have gf:=F.c.T;have aP:=λt=>F.c.fE.pl t key;have adx:kR key (ix d1)=none->kR key (ix d2)=none->∀K:Value->ak->Prop,Q=K->bl (decide (0<mask o.isSome)) (Int.NonNeg 2/\Int.NonNeg 9/\∃o7:aE,bx bN bM 2=some (ab o7)/\aW bN ⟨ae,0⟩ [U 2,ab (kT o),ab o7] λcC=>∃aO:Int,bx cC ae 0=some (U aO)/\∃fr:aE,bx cC ae (0+1)=some (ab fr)/\∃gp:aE,bx cC ae (0+1+1)=some (ab gp)/\K (.agg #[U aO,ab fr,ab gp]) cC)
  (aW bN ⟨ae,0⟩ [U (-1),ab 0,ab 0] λcC=>∃aO:Int,bx cC ae 0=some (U aO)/\∃fr:aE,bx cC ae (0+1)=some (ab fr)/\∃gp:aE,bx cC ae (0+1+1)=some (ab gp)/\K (.agg #[U aO,ab fr,ab gp]) cC):=λay aA K eL=>by
  subst eL;cases o with
  | some i=>exact dF rfl ⟨Int.NonNeg.mk _,Int.NonNeg.mk _,_,fs ik (i:=2) (by decide),done (2,UInt64.ofNat i,(S.R 0 i)[2]) (by unfold eE.spot;rw[ay,aA];simp only;rw[ep]) _ (bL.refl _)⟩
  | none=>exact b3 rfl (done (-1,0,0) (by unfold eE.spot;rw[ay,aA];simp only;rw[ep]) _ (bL.refl _))
 have avD:kR key (ix d1)=none->d2[0]=1->d2[1]=key+1->X.spot key (ix d1) (ix d2) (S.R 0)=((1:Int),UInt64.ofNat (X.pl 1 key),d2[2]):=λay h0 aa=>by unfold eE.spot;rw[ay,adq h0 aa]
 refine⟨Int.NonNeg.mk _,Int.NonNeg.mk _,_,fs LL (i:=0) (by decide),?_⟩;have sec:kR key (ix d1)=none->∀K:Value->ak->Prop,Q=K->Int.NonNeg 0/\Int.NonNeg 7/\∃kc:aE,bx bN aM 0=some (ab kc)/\bl (decide (kc=1)) (Int.NonNeg 1/\Int.NonNeg 6/\∃ko:aE,bx bN aM 1=some (ab ko)/\bl (bif true then decide (ko=key+1) else false) (∃j8:aE,bx bN y.cP (0+5)=some (ab j8)/\∃kn:aE,bx bN y.cP (0+5+1)=some (ab kn)/\∃l0:aE,bx bN y.cP (0+5+1+1)=some (ab l0)/\∃o6:aE,bx bN y.cP (0+5+1+1+1)=some (ab o6)/\∃bh:Int,bx bN y.cP (0+3)=some (U bh)/\Int.NonNeg 2/\Int.NonNeg 5/\∃nV:aE,bx bN aM 2=some (ab nV)/\aq 151 [.agg #[ab j8,ab kn,ab l0,ab o6],U 1,ab key,U bh] bN λee dT=>∃bB:Int,ee=U bB/\(bx dT aM 2=some (ab nV)/\True)/\aW dT ⟨ae,0⟩ [U 1,ab (cX bB),ab nV] λcC=>∃aO:Int,bx cC ae 0=some (U aO)/\∃fr:aE,bx cC ae (0+1)=some (ab fr)/\∃gp:aE,bx cC ae (0+1+1)=some (ab gp)/\K (.agg #[U aO,ab fr,ab gp]) cC)
  (bl (decide (0<mask o.isSome)) (Int.NonNeg 2/\Int.NonNeg 9/\∃o7:aE,bx bN bM 2=some (ab o7)/\aW bN ⟨ae,0⟩ [U 2,ab (kT o),ab o7] λcC=>∃aO:Int,bx cC ae 0=some (U aO)/\∃fr:aE,bx cC ae (0+1)=some (ab fr)/\∃gp:aE,bx cC ae (0+1+1)=some (ab gp)/\K (.agg #[U aO,ab fr,ab gp]) cC)
   (aW bN ⟨ae,0⟩ [U (-1),ab 0,ab 0] λcC=>∃aO:Int,bx cC ae 0=some (U aO)/\∃fr:aE,bx cC ae (0+1)=some (ab fr)/\∃gp:aE,bx cC ae (0+1+1)=some (ab gp)/\K (.agg #[U aO,ab fr,ab gp]) cC)))
  (bl (decide (0<mask o.isSome)) (Int.NonNeg 2/\Int.NonNeg 9/\∃o7:aE,bx bN bM 2=some (ab o7)/\aW bN ⟨ae,0⟩ [U 2,ab (kT o),ab o7] λcC=>∃aO:Int,bx cC ae 0=some (U aO)/\∃fr:aE,bx cC ae (0+1)=some (ab fr)/\∃gp:aE,bx cC ae (0+1+1)=some (ab gp)/\K (.agg #[U aO,ab fr,ab gp]) cC)
   (aW bN ⟨ae,0⟩ [U (-1),ab 0,ab 0] λcC=>∃aO:Int,bx cC ae 0=some (U aO)/\∃fr:aE,bx cC ae (0+1)=some (ab fr)/\∃gp:aE,bx cC ae (0+1+1)=some (ab gp)/\K (.agg #[U aO,ab fr,ab gp]) cC)):=λay K eL=>by
  refine⟨Int.NonNeg.mk _,Int.NonNeg.mk _,_,fs LM (i:=0) (by decide),?_⟩;by_cases ha:d2[0]=1
  .refine dF (aDA ha) ⟨Int.NonNeg.mk _,Int.NonNeg.mk _,_,fs LM (i:=1) (by decide),?_⟩;by_cases aS:d2[1]=key+1
   .refine dF (show decide (d2[1]=key+1)=true from aDA aS) ⟨_,az mx.cA rfl,_,az mx.cA rfl,_,az mx.cA rfl,_,az mx.cA rfl,_,az mx.cA rfl,Int.NonNeg.mk _,Int.NonNeg.mk _,_,fs LM (i:=2) (by decide),?_⟩;refine(RH F (t:=1) (by decide) key).to λg cY=>⟨_,rfl,⟨fs (cY.get LM) (i:=2) (by decide),trivial⟩,?_⟩;rw[jU (by have:=aP 1;omega),<-eL];exact done (1,UInt64.ofNat (X.pl 1 key),d2[2]) (avD ay ha aS) g cY
   .exact b3 (show decide (d2[1]=key+1)=false from aDz aS) (adx ay (LI λ_=>aS) K eL)
  .exact b3 (aDz ha) (adx ay (LI λh=>absurd h ha) K eL)
 by_cases ha:d1[0]=1
 .refine dF (aDA ha) ⟨Int.NonNeg.mk _,Int.NonNeg.mk _,_,fs LL (i:=1) (by decide),?_⟩;by_cases aS:d1[1]=key+1
  .refine dF (show decide (d1[1]=key+1)=true from aDA aS) ⟨_,az mx.cA rfl,_,az mx.cA rfl,_,az mx.cA rfl,_,az mx.cA rfl,_,az mx.cA rfl,Int.NonNeg.mk _,Int.NonNeg.mk _,_,fs LL (i:=2) (by decide),?_⟩;refine(RH F (t:=0) (by decide) key).to λg cY=>⟨_,rfl,⟨fs (cY.get LL) (i:=2) (by decide),trivial⟩,?_⟩;rw[jU (by have:=aP 0;omega)];exact done (0,UInt64.ofNat (X.pl 0 key),d1[2]) (by unfold eE.spot;rw[adq ha aS]) g cY
  .exact b3 (show decide (d1[1]=key+1)=false from aDz aS) (sec (LI λ_=>aS) Q rfl)
 .exact b3 (aDz ha) (sec (LI λh=>absurd h ha) Q rfl)
end
end Go.Proofs.Tryz
namespace Go.Proofs.Tryz
open Go Go.cR Go.RowKit
set_option maxRecDepth 8000
theorem avE:ph prog 242 244 9 (.agg zH) 72:=⟨by kernel_rfl,by kernel_rfl,by kernel_rfl,by kernel_rfl,rfl⟩
def yP (d:c_):Nat->cM
 | 0=>fm
 | n+1=>if h:n<8 then (yP d n).set n d[n] else yP d n
theorem avF {d:c_}{n:Nat}(h:n<8):yP d (n+1)=(yP d n).set n d[n]:=dif_pos h
theorem avG (e:gN):yP (gb e) 3=nC e:=rfl
theorem ady {d:c_}(q:kC d):∀(old:c_) (there:Bool) (z:c_),kC old->fv.now (.put d) old there=some z->kC z:=λ_ _ _ _ h=>aDX h▸q
theorem avH:∀(old:c_) (there:Bool) (z:c_),kC old->fv.now .drop old there=some z->kC z:=λ_ _ _ _ h=>by cases h
section
variable {G:cq} {ws:List aE} {B:mn} {X:eE} {y:km} {a:Nat} {e:cW} {S:c7} {a8:List dk} {V:j5} {h af:ak}
theorem adz (F:lW G B X y)(R:gQ G ws B X y a e S a8 V h)(he:e.n<=10000){ae:Nat}{T1:TypeId}{t:Int}{at_ cell:aE}(aH:h ae=some (.cells #[U t,ab at_,ab cell] T1 (0,0)))(d:Bool){K:ak->Prop}
 (ah:∀cm cQ g,gQ G ws B X y a e.wr (if at_.toNat<X.sp/\d=true then ig S (0,at_.toNat) fm else S) cm cQ g->bT (dh B G.L V) h (dh B G.L cQ) g->K g) :
 ∃(cg:Option aF),bx h y.cP (0+1)=some (a7 cg)/\∃(aO:Int),bx h y.cP (0+2)=some (U aO)/\∃(ch:aE),bx h ae 1=some (ab ch)/\aq 67 [a7 cg,U aO,ab ch,ez fm,ab (mask d)] h λv4 aR=>v4= .tuple #[]/\K aR:=by
 refine⟨some ⟨B.m.b,0⟩,az R.cA rfl,_,az R.cA rfl,_,az aH rfl,(ads F R he at_ fm d).mono ?_⟩;rintro _ g ⟨cm,cQ,rfl,dG,v⟩;exact⟨rfl,ah cm cQ g dG v⟩
theorem avI (F:lW G B X y)(R:gQ G ws B X y a e S a8 V h)(he:e.n<=10000){ae:Nat}{T1:TypeId}{t:Int}{at_ cell:aE}(aH:h ae=some (.cells #[U t,ab at_,ab cell] T1 (0,0)))(on:Bool){K:ak->Prop}
 (ah:∀cm cQ g,gQ G ws B X y a e.wr (if on&&t==2&&decide (at_.toNat<X.sp) then ig S (0,at_.toNat) fm else S) cm cQ g->bT (dh B G.L V) h (dh B G.L cQ) g->K g) :
 bl on (∃(aL:Int),bx h ae 0=some (U aL)/\bl (bif true then decide (aL=2) else false)
  (∃(cg:Option aF),bx h y.cP (0+1)=some (a7 cg)/\∃(aO:Int),bx h y.cP (0+2)=some (U aO)/\∃(ch:aE),bx h ae 1=some (ab ch)/\aq 67 [a7 cg,U aO,ab ch,ez fm,ab 18446744073709551615] h λv4 aR=>v4= .tuple #[]/\K aR)
  (∃(cg:Option aF),bx h y.cP (0+1)=some (a7 cg)/\∃(aO:Int),bx h y.cP (0+2)=some (U aO)/\∃(ch:aE),bx h ae 1=some (ab ch)/\aq 67 [a7 cg,U aO,ab ch,ez fm,ab 0] h λv4 aR=>v4= .tuple #[]/\K aR))
  (∃(cg:Option aF),bx h y.cP (0+1)=some (a7 cg)/\∃(aO:Int),bx h y.cP (0+2)=some (U aO)/\∃(ch:aE),bx h ae 1=some (ab ch)/\aq 67 [a7 cg,U aO,ab ch,ez fm,ab 0] h λv4 aR=>v4= .tuple #[]/\K aR):=by
 have no:(on&&t==2)=false->∃(cg:Option aF),bx h y.cP (0+1)=some (a7 cg)/\∃(aO:Int),bx h y.cP (0+2)=some (U aO)/\∃(ch:aE),bx h ae 1=some (ab ch)/\aq 67 [a7 cg,U aO,ab ch,ez fm,ab 0] h λv4 aR=>v4= .tuple #[]/\K aR:=λaK=>by
  refine adz F R he aH false λcm cQ g dG v=>ah cm cQ g ?_ v;rw[aK,aDq (by simp)];rw[aDq (by simp)] at dG;exact dG
 cases on with
 | false=>exact b3 rfl (no rfl)
 | true =>
  refine dF rfl ⟨_,az aH rfl,?_⟩;by_cases c:t=2
  .refine dF (show decide (t=2)=true from aDA c) ?_;refine adz F R he aH true λcm cQ bw dG v=>ah cm cQ bw ?_ v;by_cases aY:at_.toNat<X.sp
   .rw[aDr (by simp[c,aY])];rw[aDr ⟨aY,rfl⟩] at dG;exact dG
   .rw[aDq (by simp[aY])];rw[aDq (λh=>aY h.1)] at dG;exact dG
  .refine b3 (show decide (t=2)=false from aDz c) (no (by simp[c]))
theorem ah4 (F:lW G B X y)(R:gQ G ws B X y a e S a8 V h)(bY:a<=9000)(he:e.n<=9000)(key:aE)(t:Int)(at_ cell:aE)(on:Bool) :
 aq 103 [bm ⟨y.cP,0⟩,ab key,.agg #[U t,ab at_,ab cell],.bool on] h λv af=>∃cm cQ,v= .tuple #[]/\gQ G ws B X y (a+1) (e+1).wr (na G (wf ws) X key t at_ on S) cm cQ af/\bT (dh B G.L V) h (dh B G.L cQ) af:=by
 suffices H:∀Q:Value->ak->Prop,(∀af,(∃cm cQ,gQ G ws B X y (a+1) (e+1).wr (na G (wf ws) X key t at_ on S) cm cQ af/\bT (dh B G.L V) h (dh B G.L cQ) af)->Q (.tuple #[]) af)->aq 103 [bm ⟨y.cP,0⟩,ab key,.agg #[U t,ab at_,ab cell],.bool on] h Q from H _ λaf ⟨cm,cQ,b2⟩=>⟨cm,cQ,rfl,b2⟩
 intro Q fI;refine ar1 _ _ _ _ _ _ ?_;unfold ab1;refine bP λae aa f1 aH aD=>?_;have fG:=R.bA F aD;have e9:¬dh B G.L V ae:=R.r.out F.c.o f1;have tail:∀fe ff g2,gQ G ws B X y (a+1) (e+1) (if on&&(t==0||t==1) then (de G (wf ws) .drop (X.bp t.toNat key) S).1 else k5 G (wf ws) S) fe ff g2->bT (dh B G.L V) aa (dh B G.L ff) g2->_:=λfe ff g2 df v2=>avI (K:=λaR=>Q (.tuple #[]) aR) F df (by rw[cW.jt];omega) (v2.get aH e9) on λcm cQ g dG v=>fI g ⟨cm,cQ,dG,((hj aD _).trans v2).trans v⟩;have E3:((on&&(t==0||t==1))=false)->∀K:Value->ak->Prop,(∀fe ff g2,gQ G ws B X y (a+1) (e+1) (if on&&(t==0||t==1) then (de G (wf ws) .drop (X.bp t.toNat key) S).1 else k5 G (wf ws) S) fe ff g2->bT (dh B G.L V) aa (dh B G.L ff) g2->K (.tuple #[]) g2)->aq 152 [bm ⟨y.cP,0⟩] aa K:=λaK K eL=>by
  refine(RI F fG (by omega) (by omega)).mono ?_;rintro _ g2 ⟨fe,ff,rfl,df,v2⟩;refine eL fe ff g2 ?_ v2;rw[aK,aDq (by simp)];exact df
 have adA:∀ {i:Nat},i<2->t=i->(on&&(t==0||t==1))=true->∀K:Value->ak->Prop,(∀(c:c_) (tb:Bool) fe ff g2,gQ G ws B X y (a+1) (e+1) (if on&&(t==0||t==1) then (de G (wf ws) .drop (X.bp t.toNat key) S).1 else k5 G (wf ws) S) fe ff g2->bT (dh B G.L V) aa (dh B G.L ff) g2->K (.tuple #[ez c,.bool tb]) g2)->∃(cy:Option aF),bx aa y.cP 0=some (a7 cy)/\∃(aA:Int),bx aa ae 0=some (U aA)/\aq 149 [bm ⟨y.cP,0⟩,U aA,ab key] aa λv1 ad=>∃(bu:aE),v1=ab bu/\(bx ad y.cP 0=some (a7 cy)/\True)/\aq 15 [a7 cy,U 3,ab bu,ez j7] ad K:=λ{i} hi bG aK K eL=>by
  subst bG;refine⟨some ⟨B.cO,0⟩,az fG.cA rfl,_,az aH rfl,(LK F fG.cA hi key).mono ?_⟩;rintro _ ad ⟨rfl,aB⟩;have df:=fG.bA F aB;refine⟨_,rfl,⟨az df.cA rfl,trivial⟩,?_⟩;refine(DR F df (by omega) (by omega) (op:= .drop) (k:=3) (d:=j7) rfl (.inr (.inr rfl)) avH (x:=X.bp i key) (eE.ml F.c.fE hi key)).mono ?_;rintro _ g ⟨cm,cQ,rfl,dG,v,_⟩;refine eL _ _ cm cQ g ?_ ((hj aB _).trans v);rw[aK,aDr rfl];exact dG
 cases on with
 | false =>
  refine b3 rfl (E3 rfl _ λfe ff g2 df v2=>⟨rfl,tail fe ff g2 df v2⟩)
 | true =>
  refine dF rfl ⟨_,az aH rfl,?_⟩;by_cases ha:t=0
  .refine dF (aDA ha) (adA (i:=0) (by decide) ha (by simp[ha]) _ λc tb fe ff g2 df v2=>⟨_,_,rfl,tail fe ff g2 df v2⟩)
  .refine b3 (aDz ha) ⟨_,az aH rfl,?_⟩;by_cases aS:t=1
   .refine dF (show decide (t=1)=true from aDA aS) (adA (i:=1) (by decide) aS (by simp[aS]) _ λc tb fe ff g2 df v2=>⟨_,_,rfl,tail fe ff g2 df v2⟩)
   .exact b3 (show decide (t=1)=false from aDz aS) (E3 (by simp[ha,aS]) _ λfe ff g2 df v2=>⟨rfl,tail fe ff g2 df v2⟩)
end
end Go.Proofs.Tryz
namespace Go.Proofs.Tryz
open Go Go.cR Go.RowKit
set_option maxRecDepth 8000
section
variable {G:cq} {ws:List aE} {B:mn} {X:eE} {y:km} {a:Nat} {e:cW} {S:c7} {a8:List dk} {V:j5} {h af:ak}
structure RL (G:cq)(B:mn)(V:j5)(h g:ak)(ae:Nat)(s:ao)(jx:Int)(i:Nat)(pD:c_)(r:E4)(AW:Bool):Prop where
 aS:g ae=some (.cells (ag.cells (.ws 8 pD)).toArray 49 (0,0))
 ay:¬dh B G.L V ae
 t:AW=r.2.2.1
 tb:AW=true->jx=((i%2:Nat):Int)
 d:AW=true->pD=gb r.2.1
 O:ct 9 jj h g s r.2.2.2
 j9:∀q,s.q=some q->¬dh B G.L V q.b/\q.b≠ae
 l:r.2.2.2.length<=i
 q:∀c∈r.2.2.2,kC c.2
theorem avJ (F:lW G B X y)(R:gQ G ws B X y a e S a8 V h)(bY:a+X.K<=9500)(he:e.n+X.K<=9500){lp:Bool}{L:List (Nat×c_)}{s:ao}{h0:ak}{F0:Nat->Prop}(v0:bT F0 h0 (dh B G.L V) h)(O:ct 9 jj h0 h s L)(j9:∀q,s.q=some q->¬dh B G.L V q.b)(eg:lp=true->L.length=X.K)(ar:∀c∈L,c.1<2*X.T)(aj:∀c∈L,kC c.2){Q:Value->ak->Prop}
 (fI:∀cm cQ af,gQ G ws B X y (a+X.K) (e+X.K) (pn G (wf ws) lp L S X.K) cm cQ af->bT F0 h0 (dh B G.L cQ) af->Q (.bool (!lp)) af) :
 ∃(gn:aF->Bool->ao->Int->ak->Nat->Prop),(∃(eO:Nat),gn ⟨y.cP,0⟩ lp s (al ((X.K:Int)-1)) h eO)/\∀(ea:aF) (t5:Bool) (cZ:ao) (bq:Int) (eB:ak) (en:Nat),gn ea t5 cZ bq eB en->bl (decide (0<=bq)) (bl (!t5) (aq 152 [bm ea] eB λv6 eR=>v6= .tuple #[]/\∃(eZ:Nat),eZ<en/\gn ea t5 cZ (al (bq-1)) eR eZ)
  (∃(dq:Option aF),bx eB ea.b ea.o=some (a7 dq)/\∃(eU:aF),ao.q cZ=some eU/\0<=bq/\bq+1<=(cZ.len:Int)/\∃(il:aE),bx eB eU.b (eU.o+Int.toNat bq*9)=some (ab il)/\∃(eV:aF),ao.q cZ=some eV/\0<=bq/\bq+1<=(cZ.len:Int)/\∃(gK:bo 8),b5 eB eV.b (eV.o+Int.toNat bq*9+1) gK/\aq 15 [a7 dq,U 1,ab il,.agg (Array.map ab gK.toArray)] eB λee fx=>∃(hX:bo 8),∃(t6:Bool),ee= .tuple #[.agg (Array.map ab hX.toArray),.bool t6]/\∃(gE:Nat),gE<en/\gn ea t5 cZ (al (bq-1)) fx gE))
  (Q (.bool (!t5)) eB):=by
 have NZ:=F.K;refine⟨λea t5 cZ bq g bW=>(⟨y.cP,0⟩:aF)=ea/\lp=t5/\s=cZ/\∃(j:Nat) (cm:List dk) (cQ:j5),bq=(X.K:Int)-1-j/\j<=X.K/\bW=X.K-j/\gQ G ws B X y (a+j) (e+j) (pn G (wf ws) lp L S j) cm cQ g/\bT (dh B G.L V) h (dh B G.L cQ) g,
  ⟨X.K,rfl,rfl,rfl,0,a8,V,by rw[bt];omega,by omega,rfl,?_,bT.refl _ _⟩,?_⟩
 .have:pn G (wf ws) lp L S 0=S:=by unfold pn;cases lp<;>simp[m_,k6]
  rw[this];exact R
 rintro ea t5 cZ bq g bW ⟨rfl,rfl,rfl,j,cm,cQ,rfl,aU,rfl,dJ,gl⟩;refine cj (λh0=>?_) λaK=>?_
 .have kb:j<X.K:=by omega
  have hw:al ((X.K:Int)-1-j-1)=(X.K:Int)-1-(j+1:Nat):=by rw[bt];omega
  cases lp with
  | false =>
   refine dF rfl ((RI F dJ (by omega) (by rw[cW.jt];omega)).mono ?_);rintro _ g2 ⟨fe,ff,rfl,df,v2⟩;rw[<-VK (L:=L)] at df;exact⟨rfl,X.K-(j+1),by omega,rfl,rfl,rfl,j+1,fe,ff,hw,by omega,rfl,df,gl.trans v2⟩
  | true =>
   have eg:=eg rfl;have s4:X.K-1-j<L.length:=by omega
   have vS:Int.toNat ((X.K:Int)-1-j)=X.K-1-j:=by omega
   have eM:fR jj g s L:=O.rd.move λq eG aT=>gl.2.1 _ (O.bp eG).2 (j9 q eG);have kq:=eM.len;obtain⟨q,eG⟩:=eM.ptr (by omega);have a1:=sT vQ (eM.rd q eG) s4;have N0:bx g q.b (q.o+(X.K-1-j)*9)=some (ab (UInt64.ofNat L[X.K-1-j].1)):=a1.1;have xF:b5 g q.b (q.o+(X.K-1-j)*9+1) L[X.K-1-j].2:=λi hi=>by
    have ad:fW g q.b (q.o+(X.K-1-j)*9+1) (ag.cells (ag.ws 8 L[X.K-1-j].2)):=a1.2;rw[pJ] at ad;have:=ad i (by simp[ag.cells,hi]);simpa [ag.cells] using this
   refine b3 rfl ⟨some ⟨B.cO,0⟩,az dJ.cA rfl,q,eG,by omega,by omega,_,by rw[vS];exact N0,q,eG,by omega,by omega,_,by rw[vS];exact xF,?_⟩;refine(DR F dJ (by omega) (by rw[cW.jt];omega) (op:= .put L[X.K-1-j].2) (k:=1) (d:=L[X.K-1-j].2) ⟨rfl,rfl⟩ (.inr (.inl rfl)) (ady (aj _ (aDR s4))) (ar _ (aDR s4))).mono ?_;rintro _ g2 ⟨fe,ff,rfl,df,v2,_⟩;have kB:=VJ (G:=G) (w:=wf ws) (L:=L) (S:=S) (j:=j) (by omega);simp only[eg] at kB;rw[<-kB] at df;exact⟨_,_,rfl,X.K-(j+1),by omega,rfl,rfl,rfl,j+1,fe,ff,hw,by omega,rfl,df,gl.trans v2⟩
 .have:j=X.K:=by omega
  subst this;exact fI cm cQ g dJ (v0.trans gl)
set_option maxHeartbeats 1000000 in
theorem ah3 (F:lW G B X y)(R:gQ G ws B X y a e S a8 V h)(bY:a<=9000)(he:e.n<=9000)(key cell:aE)(on:Bool) :
 aq 102 [bm ⟨y.cP,0⟩,ab key,ab cell,.bool on] h λv af=>∃cm cQ,v= .bool (iy G (wf ws) X key cell on S).2/\gQ G ws B X y (a+2*X.K) ((e+X.K).rd.wr+X.K) (iy G (wf ws) X key cell on S).1 cm cQ af/\bT (dh B G.L V) h (dh B G.L cQ) af:=by
 suffices H:∀Q:Value->ak->Prop,(∀v af,(∃cm cQ,v= .bool (iy G (wf ws) X key cell on S).2/\gQ G ws B X y (a+2*X.K) ((e+X.K).rd.wr+X.K) (iy G (wf ws) X key cell on S).1 cm cQ af/\bT (dh B G.L V) h (dh B G.L cQ) af)->Q v af)->aq 102 [bm ⟨y.cP,0⟩,ab key,ab cell,.bool on] h Q from H _ λ_ _ h=>h
 intro Q fI;have NZ:=F.K;have hw:∀q,B.ed.q=some q->0<ws.length->h q.b≠none:=λq aj aT=>(R.r.kM q aj aT).1;have AZ:h y.cP≠none:=by rw[R.cA];simp
 refine arZ _ _ _ _ ?_;unfold ab0;refine bP λae aa f1 aH aD=>⟨Int.NonNeg.mk _,Int.NonNeg.mk _,?_⟩;refine nq (n:=8) (c:=j7) (i:=0) (hj aD (dh B G.L V)) f1 aH (by decide) λad v2 a_ cg=>⟨Int.NonNeg.mk _,Int.NonNeg.mk _,?_⟩;refine nq (n:=8) (i:=1) v2 f1 a_ (by decide) λan v3 b7 da=>⟨Int.NonNeg.mk _,Int.NonNeg.mk _,?_⟩;refine nq (n:=8) (i:=2) v3 f1 b7 (by decide) λaJ v4 b6 dq=>?_;have b6:aJ ae=some (.cells (ag.cells (.ws 8 (gb (key,cell)))).toArray 49 (0,0)):=b6;have kU:gQ G ws B X y a e S a8 V aJ:=R.loc F f1 aD λz bn=>by rw[dq z bn,da z bn,cg z bn]
 have e9:¬dh B G.L V ae:=R.r.out F.c.o f1;refine⟨λq1 t1 aI ay s1 aA g bW=>(⟨y.cP,0⟩:aF)=q1/\(⟨ae,0⟩:aF)=aI/\∃(i:Nat) (cm:List dk) (cQ:j5) (pD:c_),aA=i/\i<=X.K/\bW=X.K-i/\gQ G ws B X y (a+i) (e+i) (fo G (wf ws) X i 0 S (key,cell) on []).1 cm cQ g/\bT (dh B G.L V) h (dh B G.L cQ) g/\RL G B cQ h g ae s1 ay i pD (fo G (wf ws) X i 0 S (key,cell) on []) t1,
  ⟨X.K,rfl,rfl,0,a8,V,_,rfl,by omega,rfl,kU,v4,⟨b6,e9,rfl,λ_=>rfl,λ_=>rfl,ct.gy ..,(λq aj=>by cases aj),aDt _,(λc a1=>by cases a1)⟩⟩,?_⟩
 rintro q1 t1 aI ay s1 aA g bW ⟨rfl,rfl,i,cm,cQ,pD,rfl,hi,rfl,dJ,gl,hK⟩;refine⟨_,az dJ.cA rfl,cj (λcl=>?_) λdH=>?_⟩
 .have cb:i<X.K:=by omega
  have avK:al ((i:Int)+1)=((i+1:Nat):Int):=bt;have xD:=I6 (G:=G) (w:=wf ws) (X:=X) i 0 S (key,cell) on [];rw[aEX] at xD;have A1:∀(RM:Bool) (Fb:Int) (yQ:ao) (g2:ak) (fe:List dk) (ff:j5) (d2:c_),gQ G ws B X y (a+(i+1)) (e+(i+1)) (E5 G (wf ws) X i (fo G (wf ws) X i 0 S (key,cell) on [])).1 fe ff g2->bT (dh B G.L V) h (dh B G.L ff) g2->RL G B ff h g2 ae yQ Fb (i+1) d2 (E5 G (wf ws) X i (fo G (wf ws) X i 0 S (key,cell) on [])) RM ->
   ∃aG,aG<X.K-i/\(⟨y.cP,0⟩:aF)=⟨y.cP,0⟩/\(⟨ae,0⟩:aF)=⟨ae,0⟩/\∃(dO:Nat) (cm:List dk) (cQ:j5) (pD:c_),al ((i:Int)+1)=dO/\dO<=X.K/\aG=X.K-dO/\gQ G ws B X y (a+dO) (e+dO) (fo G (wf ws) X dO 0 S (key,cell) on []).1 cm cQ g2/\bT (dh B G.L V) h (dh B G.L cQ) g2/\RL G B cQ h g2 ae yQ Fb dO pD (fo G (wf ws) X dO 0 S (key,cell) on []) RM :=
   λRM Fb yQ g2 fe ff d2 eD fK oT=>⟨X.K-(i+1),by omega,rfl,rfl,i+1,fe,ff,d2,avK,by omega,rfl,by rw[xD];exact eD,fK,by rw[xD];exact oT⟩
  clear xD;generalize fo G (wf ws) X i 0 S (key,cell) on []=r at *;obtain⟨fz,kN,B9,eX⟩:=r;have bG:t1=B9:=hK.t;subst bG;cases t1 with
  | false =>
   refine dF rfl ((RI F dJ (by omega) (by rw[cW.jt];omega)).mono ?_);rintro _ g2 ⟨fe,ff,rfl,df,v2⟩;exact⟨rfl,A1 _ _ _ _ fe ff pD df (gl.trans v2) ⟨v2.get hK.aS hK.ay,v2.out (by rw[hK.aS];simp) hK.ay,rfl,(λh=>by cases h),(λh=>by cases h),hK.O.move λq aj=>v2.2.1 _ (hK.O.bp aj).2 (hK.j9 q aj).1,λq aj=>⟨v2.out (hK.O.bp aj).2 (hK.j9 q aj).1,(hK.j9 q aj).2⟩,(by have:eX.length<=i:=hK.l;show eX.length<=i+1;omega),hK.q⟩⟩
  | true =>
   have Gg:pD=gb kN:=hK.d rfl;have vS:=hK.tb rfl;subst Gg vS;have kz:i%2<2:=aEk _ (by decide);have kO:(gb kN)[1]-1=kN.1:=by
    show kN.1+1-1=kN.1;apply aDE.1;rw[aE5,aEt];have:=kN.1.toNat_lt;simp;omega
   refine b3 rfl ⟨Int.NonNeg.mk _,Int.NonNeg.mk _,_,fs hK.aS (i:=1) (by decide),?_⟩;rw[kO];refine(LK F dJ.cA kz kN.1).mono ?_;rintro _ g2 ⟨rfl,eJ⟩;have df:=dJ.bA F eJ;refine⟨_,rfl,some ⟨B.cO,0⟩,az df.cA rfl,_,dL (eJ.get hK.aS),?_⟩;refine(DR F df (by omega) (by rw[cW.jt];omega) (op:= .put (gb kN)) (k:=1) (d:=gb kN) ⟨rfl,rfl⟩ (.inr (.inl rfl)) (ady (kC.e kN)) (eE.ml F.c.fE kz kN.1)).mono ?_;rintro _ g3 ⟨oJ,kG,rfl,ob,v3,bb⟩;have E8:E5 G (wf ws) X i (fz,kN,true,eX)=((de G (wf ws) (.put (gb kN)) (X.bp (i%2) kN.1) fz).1,nB (de G (wf ws) (.put (gb kN)) (X.bp (i%2) kN.1) fz).2.1,(de G (wf ws) (.put (gb kN)) (X.bp (i%2) kN.1) fz).2.1[0]==1,eX++[(X.bp (i%2) kN.1,(de G (wf ws) (.put (gb kN)) (X.bp (i%2) kN.1) fz).2.1)]):=rfl;rw[E8] at A1;clear E8;generalize (de G (wf ws) (.put (gb kN)) (X.bp (i%2) kN.1) fz).1=fF at *;generalize (de G (wf ws) (.put (gb kN)) (X.bp (i%2) kN.1) fz).2.2=I_ at *;generalize (de G (wf ws) (.put (gb kN)) (X.bp (i%2) kN.1) fz).2.1=d2 at *;have lZ:=(gl.more eJ).trans v3;have l_:=v3.get (eJ.get hK.aS) hK.ay;have cJ:=v3.out (by rw[eJ.get hK.aS];simp) hK.ay;have lQ:ct 9 jj h g3 s1 eX:=(hK.O.bA eJ).move λq aj=>v3.2.1 _ (by rw[eJ _ (hK.O.bp aj).2];exact(hK.O.bp aj).2) (hK.j9 q aj).1;have adB:∀q,s1.q=some q->¬dh B G.L kG q.b:=λq aj=>v3.out (by rw[eJ _ (hK.O.bp aj).2];exact(hK.O.bp aj).2) (hK.j9 q aj).1;refine⟨_,_,rfl,bP λax g4 f4 Jg LN=>?_⟩;have f20:h ax=none:=lZ.2.2 _ f4;refine fN (n:=8) (lZ.more LN) f20 Jg rfl λg5 v5 cG cz=>⟨_,dL cG,?_⟩;have cd:ae≠ax:=λe=>by rw[<-e,l_] at f4;cases f4
   have nW:g5 ae=_:=(cz ae cd).trans (LN.get l_);have jT:¬dh B G.L kG ax:=ob.r.out F.c.o f4;have jV:=ob.loc F f4 LN cz;have vR:∀q,s1.q=some q->q.b≠ax:=λq aj e=>(lQ.bp aj).2 (by rw[e];exact f4);have m4:ct 9 jj h g5 s1 eX:=(lQ.bA LN).move λq aj=>cz _ (vR q aj);rw[aD5,aD5];have aT:eX.length<=i:=hK.l;refine ct.push avE vQ VF m4 [(X.bp (i%2) kN.1,d2)] (by simp[jj]) rfl (λb ar=>v5.2.2 b ar) (by simp;omega) (by decide) λs2 g9 Cb pk xE E9=>?_;have v9:bT (dh B G.L V) h (dh B G.L kG) g9:=v5.app pk E9 λq aj=>(m4.bp aj).1;have gm:g9 ax=_:=(pk ax (by rw[cG];simp) λq aj e=>vR q aj e.symm).trans cG;have po:g9 ae=_:=(pk ae (by rw[nW];simp) λq aj e=>(hK.j9 q aj).2 e.symm).trans nW;have adC:∀q,s1.q=some q->h q.b=none:=λq aj=>(m4.bp aj).1;have nh:gQ G ws B X y (a+i+1) (e+i+1) fF oJ kG g9:=⟨jV.r.same (λx ai=>pk x (jV.dK F (.inl ai)) λq aj e=>adB q aj (e▸ai)) λq aj aT=>pk _ (jV.r.kM q aj aT).1 λdE eG e=>hw q aj aT (by rw[e];exact adC dE eG),jV.p,jV.oa,jV.oI,(pk _ (jV.dK F (.inr rfl)) λq aj e=>AZ (by rw[e];exact adC q aj)).trans jV.cA,jV.ju,jV.ta,jV.q,jV.xT⟩;have adD:∀q,s2.q=some q->¬dh B G.L kG q.b/\q.b≠ae:=λq aj=>by
    rcases xE q aj with ⟨p,aP,e⟩|aK
    .rw[e];exact⟨adB p aP,(hK.j9 p aP).2⟩
    .exact⟨jV.r.out F.c.o aK,λe=>by rw[e,nW] at aK;cases aK⟩
   refine⟨Int.NonNeg.mk _,Int.NonNeg.mk _,_,fs gm (i:=0) (by decide),_,dL gm,?_⟩;refine fN (n:=8) v9 f1 po (by simp[ag.cells]) λre v10 pe fH=>A1 _ _ _ _ oJ kG d2 (nh.new v9 f1 hw AZ cJ fH) v10 ⟨pe,cJ,?_,λ_=>?_,λaa=>?_,Cb.move λq aj=>fH _ (adD q aj).2,adD,by show(eX++[_]).length<=i+1;rw[aDs,aDS];omega,λc a1=>?_⟩
   .show decide (d2[0]=1)=(d2[0]==1);rw[aDV];simp
   .rw[bt];omega
   .exact kC.one bb (aDN aa)
   .rcases aDO.1 a1 with a1|a1
    .exact hK.q c a1
    .rw[aEw] at a1;rw[a1];exact bb
 .have cb:i=X.K:=by omega
  subst cb;have zG:=(BU F.c.o F.c.fE F.c.m F.c.f X.K 0 a S (key,cell) on [] R.p (by omega)).2;have hlen:=EO (G:=G) (w:=wf ws) (X:=X) X.K 0 S (key,cell) on [];have zJ:=EP (G:=G) (w:=wf ws) F.c.fE X.K 0 S (key,cell) on [] (by simp);generalize aQ:fo G (wf ws) X X.K 0 S (key,cell) on []=r at *;have bG:=hK.t;subst bG;refine⟨some ⟨B.m.b,0⟩,az dJ.cA rfl,_,az dJ.cA rfl,?_⟩;refine(adu F dJ (by rw[cW.jt];omega) (key:=0) (by decide) 0).mono ?_;rintro _ g2 ⟨fe,ff,rfl,df,v2⟩;rw[zG];generalize ep:gO (λi=>(S.R 0 i)[0]==0) X.sp=o at *;have Ff:=gl.trans v2;have mz:=v2.get hK.aS hK.ay;have cd:=v2.out (by rw[hK.aS];simp) hK.ay;have ft:ct 9 jj h g2 s1 r.2.2.2:=hK.O.move λq aj=>v2.2.1 _ (hK.O.bp aj).2 (hK.j9 q aj).1;have ur:∀q,s1.q=some q->¬dh B G.L ff q.b:=λq aj=>v2.out (hK.O.bp aj).2 (hK.j9 q aj).1;refine⟨_,_,_,rfl,bP λbM g3 f3 pt uo=>?_⟩;have f40:h bM=none:=Ff.2.2 _ f3;refine fN (n:=12) (Ff.more uo) f40 pt rfl λg4 v4 Jg Fg=>bP λb1 g5 f5 cG xG=>?_;have f50:h b1=none:=v4.2.2 _ f5;have rm:∀ {b:Nat},g2 b≠none->g4 b=g2 b:=λ{b} ar=>by rw[Fg b λe=>ar (by rw[e];exact f3),uo b ar]
  have RN:bL g2 g5:=λb ar=>by rw[xG b (by rw[rm ar];exact ar),rm ar]
  have f52:g2 b1=none:=by
   cases c:g2 b1 with
   | none=>rfl
   | some e7=>have:=rm (b:=b1) (by rw[c];simp);rw[f5,c] at this;cases this
  have jV:=df.bA F RN;have avL:¬dh B G.L ff b1:=df.r.out F.c.o f52;have nW:=RN.get mz;have dr:ae≠b1:=λe=>by rw[<-e,mz] at f52;cases f52
  have m4:=ft.bA RN;have cZ:∀q,s1.q=some q->q.b≠b1:=λq aj e=>(ft.bp aj).2 (by rw[e];exact f52);refine⟨λbb t3 bH bz e_ fq cH bh bw cn=>(⟨y.cP,0⟩:aF)=bb/\r.2.2.1=t3/\(⟨ae,0⟩:aF)=bH/\s1=bz/\kT o=e_/\mask o.isSome=fq/\(⟨b1,0⟩:aF)=cH/\∃j:Nat,bh=j/\j<=3/\cn=3-j/\bT (dh B G.L V) h (dh B G.L ff) bw/\bw b1=some (.cells (ag.cells (.ws 12 (yP pD j))).toArray 69 (0,0))/\∀z,z≠b1->bw z=g5 z,
   ⟨3,rfl,rfl,rfl,rfl,rfl,rfl,rfl,0,rfl,by omega,rfl,v4.more xG,cG,λ_ _=>rfl⟩,?_⟩
  rintro bb t3 bH bz e_ fq cH bh bw cn ⟨rfl,rfl,rfl,rfl,rfl,rfl,rfl,j,rfl,aU,rfl,gx,cc,iF⟩;have NV:bw ae=_:=(iF ae dr).trans nW;refine cj (λmE=>?_) λuw=>?_
  .have adE:j<8:=by omega
   refine⟨by omega,by omega,_,by rw[show 0+Int.toNat (j:Int)*1=j by simp];exact fs NV adE,by omega,by omega,?_⟩;rw[show 0+Int.toNat (j:Int)*1=j by simp];refine nq (n:=12) (i:=j) gx f50 cc (by omega) λg6 v6 dP ek=>⟨3-(j+1),by omega,rfl,rfl,rfl,rfl,rfl,rfl,rfl,j+1,bt,by omega,rfl,v6,?_,λz bn=>(ek z bn).trans (iF z bn)⟩;rw[avF adE];exact dP
  have avM:j=3:=by omega
  subst avM;have mv:gQ G ws B X y (a+X.K) (e+X.K).rd r.1 fe ff bw:=jV.new (v4.more xG) f50 hw AZ avL iF;have p2:ct 9 jj h bw s1 r.2.2.2:=m4.move λq aj=>iF _ (cZ q aj);refine⟨λdi t4 bZ gz dW gv g7=>(⟨y.cP,0⟩:aF)=di/\(r.2.2.1&&o.isNone)=t4/\s1=bZ/\kT o=gz/\(⟨b1,0⟩:aF)=dW/\mask (r.2.2.1&&o.isSome)=gv/\bw=g7,?_,?_⟩
  .cases r.2.2.1<;>cases o
   .exact b3 rfl ⟨rfl,rfl,rfl,rfl,rfl,rfl,rfl⟩
   .exact b3 rfl ⟨rfl,rfl,rfl,rfl,rfl,rfl,rfl⟩
   .exact dF rfl (b3 rfl ⟨rfl,rfl,rfl,rfl,rfl,rfl,rfl⟩)
   .exact dF rfl (dF rfl ⟨rfl,rfl,rfl,rfl,rfl,rfl,rfl⟩)
  rintro di t4 bZ gz dW gv g7 ⟨rfl,rfl,rfl,rfl,rfl,rfl,rfl⟩;refine⟨some ⟨B.m.b,0⟩,az mv.cA rfl,_,az mv.cA rfl,_,dL cc,?_⟩;refine(ads F mv (by show(e+X.K).n+1<=10000;rw[cW.jt];omega) (kT o) (yP pD 3) (r.2.2.1&&o.isSome)).mono ?_;rintro _ sY ⟨aiW,P0,rfl,xI,v11⟩;have hh:(if (kT o).toNat<X.sp/\(r.2.2.1&&o.isSome)=true then ig r.1 (0,(kT o).toNat) (yP pD 3) else r.1)=Fe r o:=by
   unfold Fe;by_cases c:(r.2.2.1&&o.isSome)=true
   .rw[aDr c];have b4:=hK.d (aEi _ _▸c:_/\_).1;cases o with
    | none=>simp at c
    | some i =>
     have hi:=(BP ep).1;have iL:=F.c.sp;have:(kT (some i)).toNat=i:=by show(UInt64.ofNat i).toNat=i;rw[aDw];omega
     rw[aDr ⟨by rw[this];exact hi,c⟩,b4,avG]
   .rw[aDq c,aDq (λh=>c h.2)]
  rw[hh] at xI;have N7:ct 9 jj h sY s1 r.2.2.2:=p2.move λq aj=>v11.2.1 _ (p2.bp aj).2 (ur q aj);have N8:∀q,s1.q=some q->¬dh B G.L P0 q.b:=λq aj=>v11.out (p2.bp aj).2 (ur q aj);have Jm:(r.2.2.1&&o.isNone)=true->r.2.2.2.length=X.K:=λh=>by
   have:=hlen (aEi _ _▸h:_/\_).1;rw[aEW,aEX] at this;exact this
  have heq:=VV (G:=G) (w:=wf ws) F.c.sp key cell on S aQ ep λh=>⟨rfl,Jm h⟩;rw[heq] at fI;refine⟨rfl,_,az xI.cA rfl,avJ F xI (by omega) (by show(e+X.K).n+1+1+X.K<=9500;rw[cW.jt];omega) (gx.trans v11) N7 N8 Jm zJ hK.q λcm cQ af dG gx=>fI _ _ ⟨cm,cQ,rfl,?_,gx⟩⟩;rw[show a+2*X.K=a+X.K+X.K by omega];exact dG
end

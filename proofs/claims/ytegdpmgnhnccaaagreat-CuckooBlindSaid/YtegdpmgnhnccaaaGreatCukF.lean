import Derived.Test.YtegdpmgnhnccaaaGreatCuk
import Derived.Test.YtegdpmgnhnccaaaGreatLevG
import Derived.Test.YtegdpmgnhnccaaaGreatStoL
import Derived.Test.YtegdpmgnhnccaaaGreatLawR
import Derived.Test.YtegdpmgnhnccaaaGreatRd
namespace Go.cR
def B3 (n:aE):aE:=(n ^^^ dX n (UInt64.toNat 29))*11400714819323198485 ^^^ dX ((n ^^^ dX n (UInt64.toNat 29))*11400714819323198485) (UInt64.toNat 32)
noncomputable def ql (a b c d:aE)(T:Nat)(t:Nat)(key:aE):Nat:=(B3 (key*(uh (if t=0 then a else c) (UInt64.toNat 1) ||| 1)+(if t=0 then b else d)) &&& cX (al ((T:Int)-1))).toNat
end Go.cR
namespace Go.Proofs.Tryz
open Go Go.cR Go.RowKit
set_option maxRecDepth 8000
theorem ND {a b c d:aE}{T t:Nat}{key:aE}(aa:1<=T)(ad:T<=1000):ql a b c d T t key<T:=by
 unfold ql;rw[UInt64.toNat_and,bt,show(T:Int)-1=((T-1:Nat):Int) by omega,jU (by omega),aDw];refine aFb Nat.and_le_right ?_;omega
theorem ah5 {k:Nat}(ah:k<=3):al (oF BinOp.and IntKind.i64 ((2 ^ k:Nat):Int) (al (((2 ^ k:Nat):Int)-1)))=0:=by
 have sd:1<=2 ^ k:=aEf;have se:2 ^ k<=2 ^ 3:=aDy (by decide) ah;rw[iK (n:=((2 ^ k:Nat):Int)-1) (by omega) (by omega)];have h0:oF BinOp.and IntKind.i64 ((2 ^ k:Nat):Int) (((2 ^ k:Nat):Int)-1)=0:=by
  have:k=0∨k=1∨k=2∨k=3:=by omega
  rcases this with rfl|rfl|rfl|rfl<;>decide
 rw[h0];exact iK (by decide) (by decide)
theorem ah6 {k:Nat}(ah:k<=3)(a b c d:aE){t:Nat}(bG:t<2)(key:aE):fc prog 169 [.agg #[ab a,ab b,ab c,ab d],U t,ab key,U ((2 ^ k:Nat):Int)] (U (ql a b c d (2 ^ k) t key:Nat)):=by
 intro h;have sd:1<=2 ^ k:=aEf;have se:2 ^ k<=2 ^ 3:=aDy (by decide) ah;have lL:=ND (a:=a) (b:=b) (c:=c) (d:=d) (t:=t) (key:=key) sd (by omega);refine ah7 _ _ _ _ _ _ _ ?_;unfold Vb;refine bP λae aa f1 aH aD=>bP λax ad f2 a_ aB=>bP λaM an f3 b7 aG=>?_;have lH:=aG.get (aB.get aH);have sf:=aG.get a_;refine⟨_,az b7 rfl,b3 (gT) ⟨_,az b7 rfl,b3 (show decide ((1024:Int)<((2 ^ k:Nat):Int))=false from gT) ⟨_,az b7 rfl,_,az b7 rfl,b3 ?_ ?_⟩⟩⟩
 .show decide (0<al (oF BinOp.and IntKind.i64 ((2 ^ k:Nat):Int) (al (((2 ^ k:Nat):Int)-1))))=false;rw[ah5 ah];rfl
 have Vc:∀x y:aE,aq 189 [ab x,ab y,bm ⟨ax,0⟩,bm ⟨aM,0⟩] an λv g=>v=U (al ((B3 (key*(uh x (UInt64.toNat 1) ||| 1)+y) &&& cX (al (((2 ^ k:Nat):Int)-1))).toNat:Int))/\g=an:=λx y=>by
  refine ah8 _ _ _ _ ?_;unfold Vd;refine⟨_,az sf rfl,_,az b7 rfl,?_⟩;refine ah9 _ ?_;unfold Ve;exact⟨_,rfl,⟨az b7 rfl,trivial⟩,rfl,rfl⟩
 have ln:bL h an:=(aD.trans aB).trans aG;have:t=0∨t=1:=by omega
 rcases this with rfl|rfl
 .refine dF rfl ⟨_,az lH rfl,_,az lH rfl,(Vc a b).mono ?_⟩;rintro _ _ ⟨rfl,rfl⟩;refine⟨_,rfl,?_,ln⟩;rw[iK (by omega) (by have:ql a b c d (2 ^ k) 0 key<2 ^ k:=lL;unfold ql at this;rw[aDr rfl,aDr rfl] at this;omega)];rfl
 .refine b3 rfl (dF rfl ⟨_,az lH rfl,_,az lH rfl,(Vc c d).mono ?_⟩);rintro _ _ ⟨rfl,rfl⟩;refine⟨_,rfl,?_,ln⟩;rw[iK (by omega) (by have:ql a b c d (2 ^ k) 1 key<2 ^ k:=lL;unfold ql at this;rw[aDq (by decide),aDq (by decide)] at this;omega)];rfl
theorem Vf (d:c_):fc prog 143 [ez d] (.tuple #[.agg #[ab (nB d).1,ab (nB d).2],.bool (decide (d[0]=1))]):=by
 intro h;refine ah_ _ ?_;unfold Vg;refine bP λae aa f1 aH aD=>bP λax ad f2 a_ aB=>?_;have ik:=aB.get aH;have cU:ae≠ax:=λe=>by rw[<-e,aH] at f2;cases f2
 refine⟨Int.NonNeg.mk _,Int.NonNeg.mk _,_,fs ik (i:=1) (by decide),Int.NonNeg.mk _,Int.NonNeg.mk _,_,fs ik (i:=2) (by decide),Int.NonNeg.mk _,Int.NonNeg.mk _,_,fs ik (i:=0) (by decide),?_⟩;refine iH (aD.trans aB) (aD.free f2) a_ rfl λan aG b7 da=>⟨⟨?_,trivial⟩,_,az b7 rfl,_,az b7 rfl,rfl,aG⟩;exact fs ((da ae cU).trans ik) (i:=0) (by decide)
theorem Vh (e:gN):fc prog 142 [.agg #[ab e.1,ab e.2]] (ez (gb e)):=by
 intro h;refine aia _ _ ?_;unfold Vi;refine bP λae aa f1 aH aD=>bP λax ad f2 a_ aB=>?_;have ik:=aB.get aH;refine⟨_,az ik rfl,_,az ik rfl,iH (aD.trans aB) (aD.free f2) a_ rfl λan aG b7 _=>⟨gb e,?_,rfl,aG⟩⟩;have:an ax=some (.cells (ag.cells (.ws 8 (gb e))).toArray 49 (0,0)):=by rw[b7];rfl
 exact dL this
theorem aib (c:cM){k:Nat}(ah:k<12)(n:aE):fc prog 167 [ez c,U k,ab n] (ab (mask (c[k]==n))):=by
 intro h;refine aic _ _ _ ?_;unfold Vj;refine bP λae aa f1 aH aD=>b3 (gT) (b3 (show decide ((12:Int)<=(k:Int))=false from gT) ⟨by omega,by omega,c[k],?_,?_⟩)
 .rw[show 0+Int.toNat (k:Int)*1=k by simp];exact fs aH ah
 .exact(NF _ _).to λg aB=>⟨_,rfl,rfl,aD.trans aB⟩
theorem aid (c d:Bool):mask c &&& ~~~(mask d)=mask (c&&!d):=by cases c<;>cases d<;>decide
theorem aie (c d:Bool):mask c ||| mask d=mask (c||d):=by cases c<;>cases d<;>decide
theorem B4 (p:Nat->Bool)(m:Nat):gO p (m+1)=match gO p m with|some i=>some i|none=>if p m then some m else none:=rfl
def kT (o:Option Nat):aE:=match o with|some i=>UInt64.ofNat i|none=>0
def ui (f:Nat->cM)(o:Option Nat):cM:=match o with|some i=>f i|none=>fm
section
variable {T:TypeId} {m:jQ} {R:dY} {a8:List dk} {es:ao} {h:ak}
theorem aif (M:c8 T m R a8 es h){r:Nat}(aQ:r<m.fl){key:Nat}(ah:key<12)(n:aE)(aT:a8.length<4000000000000) :
 aq 144 [bm ⟨m.b,0⟩,U r,U key,ab n] h λv af=>∃aX,v= .tuple #[ab (kT (gO (λi=>(R r i)[key]==n) (m.cx r))),ez (ui (R r) (gO (λi=>(R r i)[key]==n) (m.cx r))),ab (mask (gO (λi=>(R r i)[key]==n) (m.cx r)).isSome)]/\c8 T m R (a8++reads r (m.cx r)) aX af/\bT (bS m es) h (bS m aX) af:=by
 have pf:=M.cx r aQ;refine aih _ _ _ _ ?_;unfold Vk;refine bP λae aa f1 aH aD=>?_;have M2:=M.bA aD;refine(tZ M2 aQ).mono ?_;rintro _ ad ⟨rfl,rfl⟩;generalize aP:(λi=>(R r i)[key]==n)=p at *;refine⟨_,rfl,λq1 aA aL bu bK aI ch aO bh g k=>q1=⟨m.b,0⟩/\aA=r/\aL=key/\n=bu/\aI=⟨ae,0⟩/\aO=(m.cx r:Nat)/\∃i aX,bh=(i:Nat)/\i<=m.cx r/\k=m.cx r-i/\bK=kT (gO p i)/\ch=mask (gO p i).isSome/\c8 T m R (a8++reads r i) aX g/\bT (bS m es) h (bS m aX) g/\¬bS m aX ae /\
  g ae=some (.cells (ag.cells (.ws 12 (ui (R r) (gO p i)))).toArray 69 (0,0)),
  ⟨m.cx r,rfl,rfl,rfl,rfl,rfl,rfl,0,es,rfl,by omega,rfl,rfl,rfl,by simpa [reads] using M2,hj aD _,M.out f1,aH⟩,?_⟩
 rintro q1 aA aL bu bK aI ch aO bh g k ⟨rfl,rfl,rfl,rfl,rfl,rfl,i,aX,rfl,hi,rfl,rfl,rfl,gI,gl,e9,g1⟩;have rf:=rh r i;refine cj (λcl=>?_) λdH=>?_
 .have cb:i<m.cx r:=by omega
  refine(xC gI aQ cb (by rw[aDs,rf];omega)).mono ?_;rintro _ g3 ⟨hp,rfl,gH,v3⟩;have lZ:=gl.trans v3;have mS:=v3.get g1 e9;have n9:=v3.out (by rw[g1];simp) e9;refine⟨_,rfl,bP λax g4 f4 b6 bd=>?_⟩;have hN:h ax=none:=(lZ.2.2 ax f4);have cd:ae≠ax:=λe=>by rw[<-e,mS] at f4;cases f4
  refine fN (n:=12) (lZ.more bd) hN b6 rfl λg5 v5 cG cz=>⟨_,dL cG,?_⟩;have iU:c8 T m R (a8++reads r i++[⟨r,i,false⟩]) hp g5:=(gH.bA bd).move λy aC=>cz y λe=>gH.out f4 (e▸aC);have qm:g5 ae=_:=(cz ae cd).trans (bd.get mS);refine(aib _ ah n).to λg6 cn=>⟨_,rfl,?_⟩;have uj:((R r i)[key]==n)=p i:=by rw[<-aP]
  rw[uj,aid];refine(Vl _ _ _).to λg7 c3=>⟨_,rfl,_,dL (c3.get (cn.get cG)),_,dL (c3.get (cn.get qm)),?_⟩;refine(NG _ _ _).to λg8 eO=>⟨_,rfl,?_⟩;have nf:=(cn.trans c3).trans eO;refine fN (n:=12) (v5.more nf) f1 (nf.get qm) (by simp[ag.cells]) λg9 v9 gm e3=>⟨m.cx r-(i+1),by omega,rfl,rfl,rfl,rfl,rfl,rfl,i+1,hp,bt,by omega,rfl,?_,?_,?_,v9,n9,?_⟩
  .rw[jU (by omega),B4];cases gO p i with
   | some j=>simp[kT]
   | none=>cases p i<;>simp[kT]
  .rw[aie,B4];cases gO p i with
   | some j=>simp
   | none=>cases p i<;>simp
  .rw[EV,<-aDD];exact(iU.bA nf).move λy aC=>e3 y λe=>n9 (e▸aC)
  .rw[gm,B4];cases gO p i with
   | some j=>simp[ui]
   | none=>cases p i<;>simp[ui]
 .have:i=m.cx r:=by omega
  subst this;refine⟨_,dL g1,fN (n:=12) gl f1 g1 (by simp[ag.cells]) λg5 v5 cG cz=>⟨_,dL cG,aX,rfl,gI.move λy aC=>cz y λe=>e9 (e▸aC),v5⟩⟩
def aii (p:Nat->Bool):Nat->Nat
 | 0=>0
 | m+1=>aii p m+if p m then 1 else 0
end
end Go.Proofs.Tryz
namespace Go.cR
open Go Go.RowKit
structure km where
 cP:Nat
 a:aE
 b:aE
 c:aE
 d:aE
end Go.cR
namespace Go.Proofs.Tryz
open Go Go.cR Go.RowKit
set_option maxRecDepth 8000
def I1 (B:j4)(X:eE)(x:km):Array Value:=#[bm ⟨B.cO,0⟩,bm ⟨B.m.b,0⟩,U 0,U X.T,U X.K,ab x.a,ab x.b,ab x.c,ab x.d]
structure ll (G:cq)(B:j4)(X:eE)(x:km):Prop where
 c:qi G X
 st:NH G B
 k:∃k,k<=3/\X.T=2 ^ k
 pl:∀t key,X.pl t key=ql x.a x.b x.c x.d X.T t key
 fl:0<B.m.fl
 cx:B.m.cx 0=X.sp
 K:X.K<=16
def ng (l:List (Nat×Nat)):List Int:=l.map λy=>(y.1:Int)
inductive cW where
 | nil
 | ac (l:cW)
 | rd (l:cW)
 | wr (l:cW)
def cW.n:cW->Nat
 | .nil=>0
 | .ac l=>l.n+1
 | .rd l=>l.n+1
 | .wr l=>l.n+1
def cW.a:cW->Nat
 | .nil=>0
 | .ac l=>l.a+1
 | .rd l=>l.a
 | .wr l=>l.a
def cW.Vm (l:cW):Nat->cW
 | 0=>l
 | n+1=> .ac (l.Vm n)
instance:HAdd cW Nat cW:=⟨cW.Vm⟩
theorem cW.jt (l:cW):∀i:Nat,(l+i).n=l.n+i
 | 0=>rfl
 | i+1=>by have:=cW.jt l i;show(l+i).n+1=_;omega
theorem cW.IV (l:cW):∀i:Nat,(l+i).a=l.a+i
 | 0=>rfl
 | i+1=>by have:=cW.IV l i;show(l+i).a+1=_;omega
def ij (G:cq)(sp:Nat)(ls:List Int):cW->List dk
 | .nil=>[]
 | .ac l=>ij G sp ls l++oH G.m G.s G.t G.L G.f (ls.drop (G.L*l.a))
 | .rd l=>ij G sp ls l++reads ((0:Nat):Int) sp
 | .wr l=>ij G sp ls l++writes ((0:Nat):Int) sp
theorem EW {G:cq}{sp:Nat}{ls n_:List Int}:∀(l:cW),G.L*l.a<=ls.length->ij G sp (ls++n_) l=ij G sp ls l
 | .nil,_=>rfl
 | .rd l,h=>by unfold ij;rw[EW l h]
 | .wr l,h=>by unfold ij;rw[EW l h]
 | .ac l,h=>by
  have e:G.L*(cW.ac l).a=G.L*l.a+G.L:=by show G.L*(l.a+1)=_;rw[Nat.mul_succ]
  rw[e] at h;unfold ij;rw[EW l (by omega),aFv (by omega),Vn (by rw[aDY];omega)]
theorem EX {G:cq}(o:G.dt){sp:Nat}(iL:sp<=1000)(ls:List Int):∀l:cW,(ij G sp ls l).length<=5000000*l.n
 | .nil=>aDM _
 | .ac l=>by
  have h:=EX o iL ls l;have aT:=Vo o.st (G.f:Int) (ls.drop (G.L*l.a));show(ij G sp ls l++_).length<=5000000*(l.n+1);rw[aDs];omega
 | .rd l=>by
  have h:=EX o iL ls l;have aT:=rh ((0:Nat):Int) sp;show(ij G sp ls l++_).length<=5000000*(l.n+1);rw[aDs];omega
 | .wr l=>by
  have h:=EX o iL ls l;have aT:=n6 ((0:Nat):Int) sp;show(ij G sp ls l++_).length<=5000000*(l.n+1);rw[aDs];omega
structure gw (G:cq)(ws:List aE)(B:j4)(X:eE)(x:km)(a:Nat)(e:cW)(S:c7)(a8:List dk)(es gs:ao)(h:ak):Prop where
 r:h8 G ws B S a8 es gs h
 p:iE G (wf ws) a S
 oa:a8=ij G X.sp (ng S.gone) e
 oI:e.a=a
 cA:h x.cP=ev (I1 B X x) 224
 ju:¬cV G B es gs x.cP
section
variable {G:cq} {ws:List aE} {B:j4} {X:eE} {x:km} {a:Nat} {e:cW} {S:c7} {a8:List dk} {es gs:ao} {h:ak}
theorem gw.same (R:gw G ws B X x a e S a8 es gs h){af:ak}(aV:∀y,cV G B es gs y∨y=x.cP->af y=h y):gw G ws B X x a e S a8 es gs af :=
 ⟨R.r.same λy aC=>aV y (.inl aC),R.p,R.oa,R.oI,(aV _ (.inr rfl)).trans R.cA,R.ju⟩
theorem gw.dK (R:gw G ws B X x a e S a8 es gs h)(F:ll G B X x){y:Nat}(aC:cV G B es gs y∨y=x.cP):h y≠none:=by
 rcases aC with aC|rfl
 .exact R.r.mT F.c.o aC
 .rw[R.cA];simp
theorem gw.bA (R:gw G ws B X x a e S a8 es gs h)(F:ll G B X x){af:ak}(k:bL h af):gw G ws B X x a e S a8 es gs af:=R.same λy aC=>k y (R.dK F aC)
theorem gw.loc (R:gw G ws B X x a e S a8 es gs h)(F:ll G B X x){b:Nat}{aa ad:ak}(f:h b=none)(k:bL h aa)(cz:∀y,y≠b->ad y=aa y):gw G ws B X x a e S a8 es gs ad :=
 R.same λy aC=>by rw[cz y λe=>R.dK F aC (e▸f),k y (R.dK F aC)]
theorem gw.el (R:gw G ws B X x a e S a8 es gs h)(F:ll G B X x):a8.length<=5000000*e.n:=by rw[R.oa];exact EX F.c.o F.c.sp _ _
theorem B5 (F:ll G B X x)(R:gw G ws B X x a e S a8 es gs h)(bY:a<=10000)(he:e.n<=10000){op:fv}{k:Int}{d:c_}(fV:zD op k 0 d)(ah:k=0∨k=1∨k=3){y:Nat}(aC:y<2*X.T) :
 aq 13 [bm ⟨B.cO,0⟩,U k,ab (UInt64.ofNat y),ez d] h λr af=>∃cm aX c0,r= .tuple #[ez (de G (wf ws) op y S).2.1,.bool (de G (wf ws) op y S).2.2]/\gw G ws B X x (a+1) (e+1) (de G (wf ws) op y S).1 cm aX c0 af/\bT (cV G B es gs) h (cV G B aX c0) af:=by
 have o:=F.c.o;have eg:=o.L;have aa:2*G.L*a<=2*4*10000:=aDP (by omega) bY;have ad:G.L*a<=4*10000:=aDP (by omega) bY;have hu:=R.p.us;have dd:=R.p.n5;have zE:=R.el F;have ai:y<2 ^ G.m:=by rw[F.c.m];exact aC
 refine(aij o F.st R.r fV ah ai R.p.e2 R.p.us R.p.n5 (by omega) (by omega) (by omega)).mono ?_;rintro _ g ⟨cm,aX,c0,rfl,dG,cQ,nD⟩;refine⟨cm,aX,c0,rfl,⟨dG,R.p.acc o (by omega) ai,?_,congrArg (·+1) R.oI,cQ.get R.cA R.ju,cQ.out (by rw[R.cA];simp) R.ju⟩,cQ⟩;obtain⟨l,aT⟩:=Vp (G:=G) (w:=wf ws) (op:=op) (x:=y) (S:=S);have vK:=R.oI;rw[nD,R.oa,aT];show _=ij G X.sp (ng (S.gone++l)) e++oH G.m G.s G.t G.L G.f ((ng (S.gone++l)).drop (G.L*e.a));unfold ng;rw[aD4,EW e (by rw[aDF,vK,dd];exact aDt _),vK,<-dd,aFR];congr 2;rw[<-aD4,<-List.map_drop,aFR]
theorem Vq (F:ll G B X x)(R:gw G ws B X x a e S a8 es gs h)(he:e.n<=10000)(at_:aE)(c:cM)(d:Bool) :
 aq 60 [bm ⟨B.m.b,0⟩,U 0,ab at_,ez c,ab (mask d)] h λv af=>∃cm aX,v= .tuple #[]/\gw G ws B X x a e.wr (if at_.toNat<X.sp/\d=true then ig S (0,at_.toNat) c else S) cm aX gs af/\bT (cV G B es gs) h (cV G B aX gs) af:=by
 have zE:=R.el F;have iL:=F.c.sp;refine(Vr R.r.mem F.fl at_ c d (by omega)).mono ?_;rintro _ g ⟨aX,rfl,M,v⟩;obtain⟨df,ff⟩:=R.r.vL F.c.o M v;rw[F.cx] at df;have sW:=n6 0 (B.m.cx 0);refine⟨a8++writes ((0:Nat):Int) X.sp,aX,rfl,⟨?_,?_,?_,R.oI,ff.get R.cA R.ju,ff.out (by rw[R.cA];simp) R.ju⟩,ff⟩
 .by_cases aS:at_.toNat<X.sp/\d=true
  .rw[aDr aS] at df ⊢;exact df
  .rw[aDq aS] at df ⊢;exact df
 .by_cases aS:at_.toNat<X.sp/\d=true
  .rw[aDr aS];exact R.p.ig F.c.f
  .rw[aDq aS];exact R.p
 .rw[R.oa];by_cases aS:at_.toNat<X.sp/\d=true
  .rw[aDr aS];rfl
  .rw[aDq aS];rfl
theorem Vs (F:ll G B X x)(R:gw G ws B X x a e S a8 es gs h)(he:e.n<=10000){key:Nat}(ah:key<12)(n:aE) :
 aq 144 [bm ⟨B.m.b,0⟩,U 0,U key,ab n] h λv af=>∃cm aX,v= .tuple #[ab (kT (gO (λi=>(S.R 0 i)[key]==n) X.sp)),ez (ui (S.R 0) (gO (λi=>(S.R 0 i)[key]==n) X.sp)),ab (mask (gO (λi=>(S.R 0 i)[key]==n) X.sp).isSome)]/\gw G ws B X x a e.rd S cm aX gs af/\bT (cV G B es gs) h (cV G B aX gs) af:=by
 have zE:=R.el F;have iL:=F.c.sp;refine(aif R.r.mem F.fl ah n (by omega)).mono ?_;rintro _ g ⟨aX,rfl,M,v⟩;obtain⟨df,ff⟩:=R.r.vL F.c.o M v;rw[F.cx] at df ⊢;exact⟨_,aX,rfl,⟨df,R.p,by rw[R.oa];rfl,R.oI,ff.get R.cA R.ju,ff.out (by rw[R.cA];simp) R.ju⟩,ff⟩
theorem Vt (F:ll G B X x)(cA:h x.cP=ev (I1 B X x) 224){t:Nat}(bG:t<2)(key:aE):aq 146 [bm ⟨x.cP,0⟩,U t,ab key] h λv af=>v=ab (UInt64.ofNat (X.pl t key))/\bL h af:=by
 obtain⟨k,ah,gf⟩:=F.k;refine aik _ _ _ ?_;unfold Vu;refine⟨_,az cA rfl,_,az cA rfl,_,az cA rfl,_,az cA rfl,_,az cA rfl,?_⟩;have a1:=ah6 ah x.a x.b x.c x.d bG key;rw[<-gf] at a1;refine a1.to λg aD=>⟨_,rfl,?_,aD⟩;have cl:=F.c.fE.pl t key;have aBL:=F.c.T;rw[F.pl] at cl ⊢;rw[jU (by omega)]
theorem I2 (F:ll G B X x)(cA:h x.cP=ev (I1 B X x) 224){t:Nat}(bG:t<2)(key:aE):aq 141 [bm ⟨x.cP,0⟩,U t,ab key] h λv af=>v=ab (UInt64.ofNat (X.bp t key))/\bL h af:=by
 refine ail _ _ _ ?_;unfold Vv;refine⟨_,az cA rfl,(Vt F cA bG key).mono ?_⟩;rintro _ g ⟨rfl,aD⟩;refine⟨_,rfl,⟨az (aD.get cA) rfl,trivial⟩,?_,aD⟩;have gf:=F.c.T;have cl:=F.c.fE.pl t key;have hm:(t:Int)*(X.T:Int)=((t*X.T:Nat):Int):=by rw[aEA]
 have aa:t*X.T<=1*1000:=aDP (by omega) gf;show ab (cX (al ((t:Int)*(X.T:Int)))+UInt64.ofNat (X.pl t key))=_;rw[hm,bt,jU (by omega)];congr 1;unfold eE.bp;apply aDE.1;rw[aEt,aDw,aDw,aDw];omega
theorem NI (F:ll G B X x)(R:gw G ws B X x a e S a8 es gs h)(bY:a<=10000)(he:e.n<=10000) :
 aq 140 [bm ⟨x.cP,0⟩] h λv af=>∃cm aX c0,v= .tuple #[]/\gw G ws B X x (a+1) (e+1) (k5 G (wf ws) S) cm aX c0 af/\bT (cV G B es gs) h (cV G B aX c0) af:=by
 refine aim _ ?_;unfold Vw;have gf:=F.c.fE.T;refine⟨some ⟨B.cO,0⟩,az R.cA rfl,?_⟩;refine(B5 F R bY he (op:= .look) (k:=0) (d:=j7) rfl (.inl rfl) (y:=0) (by omega)).mono ?_;rintro _ g ⟨cm,aX,c0,rfl,dG,v⟩;exact⟨_,_,rfl,cm,aX,c0,rfl,dG,v⟩
def Vx (G:cq)(w:Nat->aE)(X:eE)(key:aE)(S:c7)(t:Nat):c7×c_×Bool:=de G w .look (X.bp t key) S
def vM (G:cq)(w:Nat->aE)(X:eE)(key:aE)(S:c7):Nat->c7
 | 0=>S
 | t+1=>(Vx G w X key (vM G w X key S t) t).1
def vN (X:eE)(key:aE)(t:Nat)(d:c_)(s:r8):r8:=if s.1= -1 then (match kR key (ix d) with|some c=>((t:Int),UInt64.ofNat (X.pl t key),c)|none=>s) else s
def vO (G:cq)(w:Nat->aE)(X:eE)(key:aE)(S:c7):Nat->r8
 | 0=>(-1,0,0)
 | t+1=>vN X key t (Vx G w X key (vM G w X key S t) t).2.1 (vO G w X key S t)
def vP (X:eE)(key:aE)(f:Nat->cM)(s:r8):r8:=if s.1= -1 then (match gO (λi=>(f i)[1]==key+1) X.sp with|some i=>(2,UInt64.ofNat i,(f i)[2])|none=>s) else s
theorem find_eq {w:Nat->aE}(key:aE)(S:c7):hg G w X key S=(vM G w X key S 2,vP X key (S.R 0) (vO G w X key S 2)):=by
 show((de G w .look (X.bp 1 key) (de G w .look (X.bp 0 key) S).1).1,X.spot key (ix (de G w .look (X.bp 0 key) S).2.1) (ix (de G w .look (X.bp 1 key) (de G w .look (X.bp 0 key) S).1).2.1) (S.R 0))=(_,vP X key (S.R 0) (vN X key 1 (de G w .look (X.bp 1 key) (de G w .look (X.bp 0 key) S).1).2.1 (vN X key 0 (de G w .look (X.bp 0 key) S).2.1 (-1,0,0))));congr 1;unfold eE.spot vN vP;cases kR key (ix (de G w .look (X.bp 0 key) S).2.1) with
 | some c=>rfl
 | none =>
  cases kR key (ix (de G w .look (X.bp 1 key) (de G w .look (X.bp 0 key) S).1).2.1) with
  | some c=>rfl
  | none=>rfl
theorem NJ {key:aE}{t:Nat}{d:c_}{s:r8}(h:s.1= -1->kR key (ix d)=none):vN X key t d s=s:=by
 unfold vN;by_cases c:s.1= -1
 .rw[aDr c,h c]
 .rw[aDq c]
theorem ain {key:aE}{t:Nat}{d:c_}{s:r8}(h0:d[0]=1)(aa:(nB d).1=key)(ad:s.1= -1):vN X key t d s=((t:Int),UInt64.ofNat (X.pl t key),(nB d).2):=by
 unfold vN;rw[aDr ad];have:kR key (ix d)=some (nB d).2:=by unfold ix kR;rw[aDr h0];simp only;rw[aDr aa]
 rw[this]
theorem NK {mq:c7}{cm:List dk}{aX c0:ao}{eh:Nat}{cc:cW}{g:ak}(R:gw G ws B X x eh cc mq cm aX c0 g)(v:bT (cV G B es gs) h (cV G B aX c0) g){ae ax:Nat}(nG:h ae=none)(e9:¬cV G B aX c0 ae)(dA:ae≠x.cP){T1 vI:TypeId}(aH:g ae=some (.cells #[U 0,.int .u64 0,.int .u64 0] T1 (0,0))){s:r8}(a_:g ax=some (.cells #[U s.1,ab s.2.1,ab s.2.2] vI (0,0)))
 {K:Value->ak->Prop} (ah:∀bw,gw G ws B X x eh cc mq cm aX c0 bw->bT (cV G B es gs) h (cV G B aX c0) bw->K (.agg #[U s.1,ab s.2.1,ab s.2.2]) bw) :
 ∃br:Int,bx g ax 0=some (U br)/\∃ko:aE,bx g ax (0+1)=some (ab ko)/\∃j8:aE,bx g ax (0+1+1)=some (ab j8)/\aW g ⟨ae,0⟩ [U br,ab ko,ab j8] λds=>∃bq:Int,bx ds ae 0=some (U bq)/\∃kn:aE,bx ds ae (0+1)=some (ab kn)/\∃l0:aE,bx ds ae (0+1+1)=some (ab l0)/\K (.agg #[U bq,ab kn,ab l0]) ds:=by
 refine⟨_,az a_ rfl,_,az a_ rfl,_,az a_ rfl,lY v nG aH rfl λbw gx cc iF=>⟨_,az cc rfl,_,az cc rfl,_,az cc rfl,ah bw (R.same λy aC=>iF y λe=>?_) gx⟩⟩;rcases aC with aC|aC
 .exact e9 (e▸aC)
 .exact dA (e.symm.trans aC)
theorem Ny (F:ll G B X x)(R:gw G ws B X x a e S a8 es gs h)(bY:a<=9000)(he:e.n<=9000)(key:aE) :
 aq 92 [bm ⟨x.cP,0⟩,ab key] h λv af=>∃cm aX c0,v= .agg #[U (hg G (wf ws) X key S).2.1,ab (hg G (wf ws) X key S).2.2.1,ab (hg G (wf ws) X key S).2.2.2]/\gw G ws B X x (a+2) (e+2).rd (hg G (wf ws) X key S).1 cm aX c0 af/\bT (cV G B es gs) h (cV G B aX c0) af:=by
 suffices H:∀Q:Value->ak->Prop,(∀v af,(∃cm aX c0,v= .agg #[U (hg G (wf ws) X key S).2.1,ab (hg G (wf ws) X key S).2.2.1,ab (hg G (wf ws) X key S).2.2.2]/\gw G ws B X x (a+2) (e+2).rd (hg G (wf ws) X key S).1 cm aX c0 af/\bT (cV G B es gs) h (cV G B aX c0) af)->Q v af)->aq 92 [bm ⟨x.cP,0⟩,ab key] h Q from H _ λ_ _ h=>h
 intro Q fI;rw[find_eq] at fI;refine aio _ _ ?_;unfold Vy;refine bP λae aa f1 aH aD=>bP λax ad f2 a_ aB=>?_;have f20:=aD.free f2;have cU:ae≠ax:=λe=>by rw[<-e,aH] at f2;cases f2
 refine iH (aD.trans aB) f20 a_ rfl λan aG b7 da=>?_;have ob:=R.bA F aG;have lH:an ae=_:=(da ae cU).trans (aB.get aH);have e9:¬cV G B es gs ae:=R.r.out F.c.o f1;have jT:¬cV G B es gs ax:=R.r.out F.c.o f20;refine⟨λq1 bu aI bb ay g bW=>(⟨x.cP,0⟩:aF)=q1/\key=bu/\(⟨ae,0⟩:aF)=aI/\(⟨ax,0⟩:aF)=bb/\∃(i:Nat) (cm:List dk) (aX c0:ao),ay=i/\i<=2/\bW=2-i/\gw G ws B X x (a+i) (e+i) (vM G (wf ws) X key S i) cm aX c0 g/\bT (cV G B es gs) h (cV G B aX c0) g/\¬cV G B aX c0 ae/\¬cV G B aX c0 ax /\
  g ae=some (.cells #[U 0,.int .u64 0,.int .u64 0] 166 (0,0))/\g ax=some (.cells #[U (vO G (wf ws) X key S i).1,ab (vO G (wf ws) X key S i).2.1,ab (vO G (wf ws) X key S i).2.2] 166 (0,0)),
  ⟨2,rfl,rfl,rfl,rfl,0,a8,es,gs,rfl,by omega,rfl,ob,hj aG _,e9,jT,lH,b7⟩,?_⟩
 rintro q1 bu aI bb ay g bW ⟨rfl,rfl,rfl,rfl,i,cm,aX,c0,rfl,hi,rfl,dJ,gl,EY,EZ,g1,g2⟩;refine cj (λcl=>?_) λdH=>?_
 .have cb:i<2:=by omega
  refine⟨some ⟨B.cO,0⟩,az dJ.cA rfl,(I2 F dJ.cA cb key).mono ?_⟩;rintro _ g3 ⟨rfl,sg⟩;have ob:=dJ.bA F sg;refine⟨_,rfl,⟨az ob.cA rfl,trivial⟩,?_⟩;refine(B5 F ob (by omega) (by rw[cW.jt];omega) (op:= .look) (k:=0) (d:=j7) rfl (.inl rfl) (y:=X.bp i key) (eE.ml F.c.fE cb key)).mono ?_;rintro _ g4 ⟨E0,mU,E1,rfl,kU,v4⟩;have Vz:=(gl.more sg).trans v4;have NL:=v4.get (sg.get g1) EY;have VA:=v4.get (sg.get g2) EZ;have db:=v4.out (by rw[sg.get g1];simp) EY;have eT:=v4.out (by rw[sg.get g2];simp) EZ;have I3:vO G (wf ws) X key S (i+1)=vN X key i (de G (wf ws) .look (X.bp i key) (vM G (wf ws) X key S i)).2.1 (vO G (wf ws) X key S i):=rfl;have kU:gw G ws B X x (a+(i+1)) (e+(i+1)) (vM G (wf ws) X key S (i+1)) E0 mU E1 g4:=kU;generalize (de G (wf ws) .look (X.bp i key) (vM G (wf ws) X key S i)).2.1=d at *;generalize (de G (wf ws) .look (X.bp i key) (vM G (wf ws) X key S i)).2.2=qn at *;generalize vO G (wf ws) X key S i=sp at *;refine⟨_,_,rfl,bP λaM g5 f5 cG bF=>?_⟩;have uk:h aM=none:=Vz.2.2 aM f5;have jV:=kU.bA F bF;refine fN (n:=8) (Vz.more bF) uk cG rfl λg6 v6 dP ek=>⟨_,dL dP,?_⟩;have cJ:ae≠aM:=λe=>by rw[<-e,NL] at f5;cases f5
  have ey:ax≠aM:=λe=>by rw[<-e,VA] at f5;cases f5
  have B6:g6 ae=_:=(ek ae cJ).trans (bF.get NL);have zF:g6 ax=_:=(ek ax ey).trans (bF.get VA);have mv:=kU.loc F f5 bF ek;refine(Vf d).to λg7 c3=>⟨_,_,_,rfl,bP λbM g8 f8 fO eO=>?_⟩;have sX:=c3.trans eO;have fh:=v6.more sX;have pg:h bM=none:=v6.2.2 bM (c3.free f8);refine lY fh pg fO rfl λg9 v9 gm e3=>?_;have aip:ae≠bM:=λe=>by rw[<-e,c3.get B6] at f8;cases f8
  have aiq:ax≠bM:=λe=>by rw[<-e,c3.get zF] at f8;cases f8
  have I4:g9 ae=_:=(e3 ae aip).trans (sX.get B6);have E2:g9 ax=_:=(e3 ax aiq).trans (sX.get zF);have nh:=(mv.bA F c3).loc F f8 eO e3;have aBM:g9 bM=_:=gm;have NM:ax≠x.cP:=λe=>by have:=R.cA;rw[<-e,f20] at this;cases this
  by_cases ha:d[0]=1
  .refine dF (aDA ha) ⟨_,az gm rfl,?_⟩;by_cases aS:(nB d).1=key
   .refine dF (show decide ((nB d).1=key)=true from aDA aS) ⟨_,az E2 rfl,?_⟩;by_cases aY:sp.1= -1
    .refine dF (show decide (sp.1= -1)=true from aDA aY) ⟨_,az gm rfl,(Vt F nh.cA cb key).mono ?_⟩;rintro _ re ⟨rfl,eZ⟩;refine⟨_,rfl,⟨az (eZ.get gm) rfl,trivial⟩,?_⟩;refine lY (v9.more eZ) f20 (eZ.get E2) rfl λsY v11 mr hq=>⟨2-(i+1),by omega,rfl,rfl,rfl,rfl,i+1,E0,mU,E1,bt,by omega,rfl,(nh.bA F eZ).same λy aC=>hq y λe=>?_,v11,db,eT,(hq ae cU).trans (eZ.get I4),?_⟩
     .rcases aC with aC|aC
      .exact eT (e▸aC)
      .exact NM (e.symm.trans aC)
     .rw[mr,I3,ain ha aS aY]
    .exact b3 (show decide (sp.1= -1)=false from aDz aY) ⟨2-(i+1),by omega,rfl,rfl,rfl,rfl,i+1,E0,mU,E1,bt,by omega,rfl,nh,v9,db,eT,I4,by rw[I3,NJ (λh=>absurd h aY)];exact E2⟩
   .have aK:kR key (ix d)=none:=by unfold ix kR;rw[aDr ha];simp only;rw[aDq aS]
    exact b3 (show decide ((nB d).1=key)=false from aDz aS) ⟨2-(i+1),by omega,rfl,rfl,rfl,rfl,i+1,E0,mU,E1,bt,by omega,rfl,nh,v9,db,eT,I4,by rw[I3,NJ (λ_=>aK)];exact E2⟩
  .have aK:kR key (ix d)=none:=by unfold ix;rw[aDq ha];rfl
   exact b3 (aDz ha) ⟨2-(i+1),by omega,rfl,rfl,rfl,rfl,i+1,E0,mU,E1,bt,by omega,rfl,nh,v9,db,eT,I4,by rw[I3,NJ (λ_=>aK)];exact E2⟩
 .have:i=2:=by omega
  subst this;have NN:ae≠x.cP:=λe=>by have:=R.cA;rw[<-e,f1] at this;cases this
  have NM:ax≠x.cP:=λe=>by have:=R.cA;rw[<-e,f20] at this;cases this
  have zG:(vM G (wf ws) X key S 2).R 0=S.R 0:=(r9 F.c.f _ _ _).trans (r9 F.c.f _ _ _);generalize vO G (wf ws) X key S 2=sp at *;refine⟨some ⟨B.m.b,0⟩,az dJ.cA rfl,_,az dJ.cA rfl,(Vs F dJ (by rw[cW.jt];omega) (key:=1) (by decide) (key+1)).mono ?_⟩;rintro _ g3 ⟨oJ,hp,rfl,air,v3⟩;rw[zG];have lZ:=gl.trans v3;have mS:=v3.get g1 EY;have sZ:=v3.get g2 EZ;have cJ:=v3.out (by rw[g1];simp) EY;have ey:=v3.out (by rw[g2];simp) EZ;refine⟨_,_,_,rfl,bP λb1 g5 f5 cG bF=>?_⟩;have um:h b1=none:=lZ.2.2 b1 f5;refine fN (n:=12) (lZ.more bF) um cG rfl λg6 v6 dP ek=>?_;have dr:ae≠b1:=λe=>by rw[<-e,mS] at f5;cases f5
  have n25:ax≠b1:=λe=>by rw[<-e,sZ] at f5;cases f5
  have B6:g6 ae=_:=(ek ae dr).trans (bF.get mS);have zF:g6 ax=_:=(ek ax n25).trans (bF.get sZ);have mv:=air.loc F f5 bF ek;refine⟨_,az zF rfl,?_⟩;by_cases aY:sp.1= -1
  .refine dF (aDA aY) ?_;cases aV:gO (λi=>(S.R 0 i)[1]==key+1) X.sp with
   | some i =>
    have he:vP X key (S.R 0) sp=((2,UInt64.ofNat i,(S.R 0 i)[2]):r8):=by unfold vP;rw[aDr aY,aV]
    rw[he] at fI;rw[aV] at dP;refine dF rfl ⟨Int.NonNeg.mk _,Int.NonNeg.mk _,_,fs dP (i:=2) (by decide),?_⟩;refine lY v6 f20 zF rfl λg7 ee fa eF=>?_;refine NK (s:=((2:Int),UInt64.ofNat i,(S.R 0 i)[2])) (mv.same λy aC=>eF y λe=>?_) ee f1 cJ NN ((eF ae cU).trans B6) fa λbw dG gx=>fI _ _ ⟨_,_,_,rfl,dG,gx⟩;rcases aC with aC|aC
    .exact ey (e▸aC)
    .exact NM (e.symm.trans aC)
   | none =>
    have he:vP X key (S.R 0) sp=sp:=by unfold vP;rw[aDr aY,aV]
    rw[he] at fI;refine b3 rfl ?_;refine NK (s:=sp) mv v6 f1 cJ NN B6 zF λbw dG gx=>fI _ _ ⟨_,_,_,rfl,dG,gx⟩
  .have he:vP X key (S.R 0) sp=sp:=by unfold vP;rw[aDq aY]
   rw[he] at fI;refine b3 (aDz aY) ?_;refine NK (s:=sp) mv v6 f1 cJ NN B6 zF λbw dG gx=>fI _ _ ⟨_,_,_,rfl,dG,gx⟩
end
end Go.Proofs.Tryz
namespace Go.Proofs.Tryz
open Go Go.cR Go.RowKit
set_option maxRecDepth 8000
section
variable {G:cq} {ws:List aE} {B:j4} {X:eE} {x:km} {a:Nat} {e:cW} {S:c7} {a8:List dk} {es gs:ao} {h:ak}
theorem VB (F:ll G B X x)(R:gw G ws B X x a e S a8 es gs h)(he:e.n<=10000){ae:Nat}{T1:TypeId}{t:Int}{at_ cell:aE}(aH:h ae=some (.cells #[U t,ab at_,ab cell] T1 (0,0)))(d:Bool){K:ak->Prop}
 (ah:∀cm aX g,gw G ws B X x a e.wr (if at_.toNat<X.sp/\d=true then ig S (0,at_.toNat) fm else S) cm aX gs g->bT (cV G B es gs) h (cV G B aX gs) g->K g) :
 ∃(cg:Option aF),bx h x.cP (0+1)=some (a7 cg)/\∃(aO:Int),bx h x.cP (0+2)=some (U aO)/\∃(ch:aE),bx h ae 1=some (ab ch)/\aq 60 [a7 cg,U aO,ab ch,ez fm,ab (mask d)] h λv4 aR=>v4= .tuple #[]/\K aR:=by
 refine⟨some ⟨B.m.b,0⟩,az R.cA rfl,_,az R.cA rfl,_,az aH rfl,(Vq F R he at_ fm d).mono ?_⟩;rintro _ g ⟨cm,aX,rfl,dG,v⟩;exact⟨rfl,ah cm aX g dG v⟩
theorem ais (F:ll G B X x)(R:gw G ws B X x a e S a8 es gs h)(he:e.n<=10000){ae:Nat}{T1:TypeId}{t:Int}{at_ cell:aE}(aH:h ae=some (.cells #[U t,ab at_,ab cell] T1 (0,0)))(on:Bool){K:ak->Prop}
 (ah:∀cm aX g,gw G ws B X x a e.wr (if on&&t==2&&decide (at_.toNat<X.sp) then ig S (0,at_.toNat) fm else S) cm aX gs g->bT (cV G B es gs) h (cV G B aX gs) g->K g) :
 bl on (∃(aL:Int),bx h ae 0=some (U aL)/\bl (bif true then decide (aL=2) else false)
  (aq 61 [ab 0] h λv3 aJ=>∃(bK:aE),v3=ab bK/\∃(cg:Option aF),bx aJ x.cP (0+1)=some (a7 cg)/\∃(aO:Int),bx aJ x.cP (0+2)=some (U aO)/\∃(ch:aE),bx aJ ae 1=some (ab ch)/\aq 60 [a7 cg,U aO,ab ch,ez fm,ab bK] aJ λv4 aR=>v4= .tuple #[]/\K aR)
  (∃(cg:Option aF),bx h x.cP (0+1)=some (a7 cg)/\∃(aO:Int),bx h x.cP (0+2)=some (U aO)/\∃(ch:aE),bx h ae 1=some (ab ch)/\aq 60 [a7 cg,U aO,ab ch,ez fm,ab 0] h λv4 aR=>v4= .tuple #[]/\K aR))
  (∃(cg:Option aF),bx h x.cP (0+1)=some (a7 cg)/\∃(aO:Int),bx h x.cP (0+2)=some (U aO)/\∃(ch:aE),bx h ae 1=some (ab ch)/\aq 60 [a7 cg,U aO,ab ch,ez fm,ab 0] h λv4 aR=>v4= .tuple #[]/\K aR):=by
 have off:(on&&t==2&&decide (at_.toNat<X.sp))=false∨∃d:Bool,True:= .inr ⟨true,trivial⟩;have no:(on&&t==2)=false->∃(cg:Option aF),bx h x.cP (0+1)=some (a7 cg)/\∃(aO:Int),bx h x.cP (0+2)=some (U aO)/\∃(ch:aE),bx h ae 1=some (ab ch)/\aq 60 [a7 cg,U aO,ab ch,ez fm,ab 0] h λv4 aR=>v4= .tuple #[]/\K aR:=λaK=>by
  refine VB F R he aH false λcm aX g dG v=>ah cm aX g ?_ v;rw[aK,aDq (by simp)];rw[aDq (by simp)] at dG;exact dG
 cases on with
 | false=>exact b3 rfl (no rfl)
 | true =>
  refine dF rfl ⟨_,az aH rfl,?_⟩;by_cases c:t=2
  .refine dF (show decide (t=2)=true from aDA c) ?_;refine(NO 0).to λg k=>⟨_,rfl,?_⟩;refine VB F (R.bA F k) he (k.get aH) ((0:aE)==0) λcm aX bw dG v=>ah cm aX bw ?_ ((hj k _).trans v);have h0:((0:aE)==0)=true:=rfl;rw[h0] at dG;by_cases aY:at_.toNat<X.sp
   .rw[aDr (by simp[c,aY])];rw[aDr ⟨aY,rfl⟩] at dG;exact dG
   .rw[aDq (by simp[aY])];rw[aDq (λh=>aY h.1)] at dG;exact dG
  .refine b3 (show decide (t=2)=false from aDz c) (no (by simp[c]))
theorem Va (F:ll G B X x)(R:gw G ws B X x a e S a8 es gs h)(bY:a<=9000)(he:e.n<=9000)(key:aE)(t:Int)(at_ cell:aE)(on:Bool) :
 aq 93 [bm ⟨x.cP,0⟩,ab key,.agg #[U t,ab at_,ab cell],.bool on] h λv af=>∃cm aX c0,v= .tuple #[]/\gw G ws B X x (a+1) (e+1).wr (na G (wf ws) X key t at_ on S) cm aX c0 af/\bT (cV G B es gs) h (cV G B aX c0) af:=by
 suffices H:∀Q:Value->ak->Prop,(∀af,(∃cm aX c0,gw G ws B X x (a+1) (e+1).wr (na G (wf ws) X key t at_ on S) cm aX c0 af/\bT (cV G B es gs) h (cV G B aX c0) af)->Q (.tuple #[]) af)->aq 93 [bm ⟨x.cP,0⟩,ab key,.agg #[U t,ab at_,ab cell],.bool on] h Q from H _ λaf ⟨cm,aX,c0,b2⟩=>⟨cm,aX,c0,rfl,b2⟩
 intro Q fI;refine ait _ _ _ _ _ _ ?_;unfold VC;refine bP λae aa f1 aH aD=>?_;have fG:=R.bA F aD;have e9:¬cV G B es gs ae:=R.r.out F.c.o f1;have E3:((on&&(t==0||t==1))=false)->∀K:Value->ak->Prop,(∀fe d_ jG g2,gw G ws B X x (a+1) (e+1) (if on&&(t==0||t==1) then (de G (wf ws) .drop (X.bp t.toNat key) S).1 else k5 G (wf ws) S) fe d_ jG g2->bT (cV G B es gs) aa (cV G B d_ jG) g2->K (.tuple #[]) g2)->aq 140 [bm ⟨x.cP,0⟩] aa K:=λaK K eL=>by
  refine(NI F fG (by omega) (by omega)).mono ?_;rintro _ g2 ⟨fe,d_,jG,rfl,df,v2⟩;refine eL fe d_ jG g2 ?_ v2;rw[aK,aDq (by simp)];exact df
 have tail:∀fe d_ jG g2,gw G ws B X x (a+1) (e+1) (if on&&(t==0||t==1) then (de G (wf ws) .drop (X.bp t.toNat key) S).1 else k5 G (wf ws) S) fe d_ jG g2->bT (cV G B es gs) aa (cV G B d_ jG) g2->_:=λfe d_ jG g2 df v2=>ais (K:=λaR=>Q (.tuple #[]) aR) F df (by rw[cW.jt];omega) (v2.get aH e9) on λcm aX g dG v=>fI g ⟨cm,aX,jG,dG,((hj aD _).trans v2).trans v⟩;cases on with
 | false =>
  refine b3 rfl (E3 rfl _ λfe d_ jG g2 df v2=>⟨rfl,tail fe d_ jG g2 df v2⟩)
 | true =>
  refine dF rfl ⟨_,az aH rfl,?_⟩;by_cases ha:t=0
  .subst ha;refine dF rfl ⟨some ⟨B.cO,0⟩,az fG.cA rfl,_,az aH rfl,(I2 F fG.cA (t:=0) (by decide) key).mono ?_⟩;rintro _ g2 ⟨rfl,aB⟩;refine⟨_,rfl,⟨az (aB.get fG.cA) rfl,trivial⟩,(B5 F (fG.bA F aB) (by omega) (by omega) (op:= .drop) (k:=3) (d:=j7) rfl (.inr (.inr rfl)) (eE.ml F.c.fE (by decide) key)).mono ?_⟩;rintro _ g3 ⟨oJ,hp,NP,rfl,ob,v3⟩;exact⟨_,_,rfl,tail oJ hp NP g3 ob ((hj aB _).trans v3)⟩
  .refine b3 (aDz ha) ⟨_,az aH rfl,?_⟩;by_cases aS:t=1
   .subst aS;refine dF rfl ⟨some ⟨B.cO,0⟩,az fG.cA rfl,_,az aH rfl,(I2 F fG.cA (t:=1) (by decide) key).mono ?_⟩;rintro _ g2 ⟨rfl,aB⟩;refine⟨_,rfl,⟨az (aB.get fG.cA) rfl,trivial⟩,(B5 F (fG.bA F aB) (by omega) (by omega) (op:= .drop) (k:=3) (d:=j7) rfl (.inr (.inr rfl)) (eE.ml F.c.fE (by decide) key)).mono ?_⟩;rintro _ g3 ⟨oJ,hp,NP,rfl,ob,v3⟩;exact⟨_,_,rfl,tail oJ hp NP g3 ob ((hj aB _).trans v3)⟩
   .refine b3 (show decide (t=1)=false from aDz aS) (E3 (by simp[ha,aS]) _ λfe d_ jG g2 df v2=>⟨rfl,tail fe d_ jG g2 df v2⟩)
end
end Go.Proofs.Tryz
namespace Go.cR
open Go.Proofs.Tryz
section
variable {G:cq} {w:Nat->aE} {X:eE}
abbrev E4:=c7×gN×Bool×List (Nat×c_)
def E5 (G:cq)(w:Nat->aE)(X:eE)(j:Nat)(r:E4):E4 :=
 if r.2.2.1 then
  ((de G w (.put (gb r.2.1)) (X.bp (j%2) r.2.1.1) r.1).1,nB (de G w (.put (gb r.2.1)) (X.bp (j%2) r.2.1.1) r.1).2.1,(de G w (.put (gb r.2.1)) (X.bp (j%2) r.2.1.1) r.1).2.1[0]==1,
    r.2.2.2++[(X.bp (j%2) r.2.1.1,(de G w (.put (gb r.2.1)) (X.bp (j%2) r.2.1.1) r.1).2.1)])
 else (k5 G w r.1,r.2.1,r.2.2.1,r.2.2.2)
theorem NQ (n i:Nat)(S:c7)(e:gN)(eX:List (Nat×c_)):fo G w X (n+1) i S e true eX=fo G w X n (i+1) (de G w (.put (gb e)) (X.bp (i%2) e.1) S).1 (nB (de G w (.put (gb e)) (X.bp (i%2) e.1) S).2.1) ((de G w (.put (gb e)) (X.bp (i%2) e.1) S).2.1[0]==1) (eX++[(X.bp (i%2) e.1,(de G w (.put (gb e)) (X.bp (i%2) e.1) S).2.1)]):=rfl
theorem NR (n i:Nat)(S:c7)(e:gN)(eX:List (Nat×c_)):fo G w X (n+1) i S e false eX=fo G w X n (i+1) (k5 G w S) e false eX:=rfl
theorem I5 (i:Nat)(S:c7)(e:gN)(on:Bool)(eX:List (Nat×c_)):fo G w X 0 i S e on eX=(S,e,on,eX):=rfl
theorem I6:∀n i S e on eX,fo G w X (n+1) i S e on eX=E5 G w X (i+n) (fo G w X n i S e on eX)
 | 0,i,S,e,on,eX=>by
  cases on
  .rw[NR,I5,I5];rfl
  .rw[NQ,I5,I5];rfl
 | n+1,i,S,e,on,eX=>by
  rw[show i+(n+1)=i+1+n by omega];cases on with
  | true=>rw[NQ (n+1),I6 n,NQ n]
  | false=>rw[NR (n+1),I6 n,NR n]
theorem VD:∀n S,k6 G w (n+1) S=k5 G w (k6 G w n S)
 | 0,_=>rfl
 | n+1,S=>VD n (k5 G w S)
theorem VE:∀(l:List (Nat×c_)) (x:Nat×c_) S,m_ G w (l++[x]) S=(de G w (.put x.2) x.1 (m_ G w l S)).1
 | [],_,_=>rfl
 | (b,d)::l,x,S=>VE l x _
end
end Go.cR
namespace Go.Proofs.Tryz
open Go Go.cR Go.RowKit
set_option maxRecDepth 8000
def jj (c:Nat×c_):List Value:=ab (UInt64.ofNat c.1)::ag.cells (ag.ws 8 c.2)
theorem vQ (c:Nat×c_):(jj c).length=9:=by simp[jj,ag.cells]
theorem VF (c:Nat×c_):∀v∈jj c,v.oneCell'=true:=by
 intro v b0;simp only[jj,ag.cells,aEr,aD2] at b0;rcases b0 with rfl|⟨_,_,rfl⟩<;>rfl
theorem aiu:ph prog 222 227 9 (.agg zH) 72:=⟨by kernel_rfl,by kernel_rfl,by kernel_rfl,by kernel_rfl,rfl⟩
theorem NS {h:ak}{b:Nat}{T:TypeId}{c:Nat×c_}(e:h b=some (.cells (jj c).toArray T (0,0))):bx h b 0=some (ab (UInt64.ofNat c.1))/\b5 h b 1 c.2:=by
 refine⟨az e rfl,λi hi=>?_⟩;rw[B7 e,show 1+i=i+1 by omega];simp[jj,ag.cells,hi]
theorem aiv (y:aE)(d:c_)(z:Array Value)(bn:z.size=9)(h0:z[0]? =some (ab y)):iI z (0+1) (ag.cells (ag.ws 8 d))=(ab y::ag.cells (ag.ws 8 d)).toArray:=by
 have aT:(ag.cells (ag.ws 8 d)).length=8:=by simp[ag.cells]
 apply aFO;intro i;rw[xA,aT,bn];by_cases ha:i=0
 .subst ha;rw[cS,h0];rfl
 .obtain⟨j,rfl⟩:∃j,i=j+1:=⟨i-1,by omega⟩;by_cases aS:j<8
  .rw[eY,show j+1-(0+1)=j by omega];simp
  .rw[cS,Array.getElem?_eq_none (by omega),aD1,aDJ,aEu (by omega)]
theorem aiw (e:gN):iI gD 0 ((gb e).toList.map ab)=(ag.cells (.ws 12 (nC e))).toArray:=by
 have aa:(gb e).toList.map ab=[ab 1,ab (e.1+1),ab e.2,ab 0,ab 0,ab 0,ab 0,ab 0]:=by simp[gb]
 have ad:ag.cells (.ws 12 (nC e))=[ab 1,ab (e.1+1),ab e.2,ab 0,ab 0,ab 0,ab 0,ab 0,ab 0,ab 0,ab 0,ab 0]:=by simp[ag.cells,nC]
 rw[aa,ad];rfl
theorem bT.app {F dZ:Nat->Prop}{h g bw:ak}{s:ao}(v:bT F h dZ g)(off:∀b,g b≠none->(∀q,s.q=some q->b≠q.b)->bw b=g b)(aw:∀b,bw b=none->g b=none)(aV:∀q,s.q=some q->h q.b=none):bT F h dZ bw :=
 ⟨v.1,λb ar aK=>by
  have aa:=v.2.1 b ar aK;rw[off b (by rw[aa];exact ar) λq aj e=>ar (e▸aV q aj),aa],λb ar=>v.2.2 b (aw b ar)⟩
section
variable {G:cq} {ws:List aE} {B:j4} {X:eE} {x:km} {a:Nat} {e:cW} {S:c7} {a8:List dk} {es gs:ao} {h:ak}
structure NT (G:cq)(B:j4)(x:km)(aX c0:ao)(ae ax aM:Nat)(s:ao)(g:ak)(on:Bool)(k:gN):Prop where
 aS:g ae=some (.cells #[bm ⟨x.cP,0⟩] 86 (0,0))
 aY:g ax=some (.cells #[.bool on] 4 (0,0))
 cB:g aM=some (.cells #[ab k.1,ab k.2] 221 (0,0))
 ay:¬cV G B aX c0 ae
 aA:¬cV G B aX c0 ax
 aL:¬cV G B aX c0 aM
 j9:∀q,s.q=some q->¬cV G B aX c0 q.b/\q.b≠ae/\q.b≠ax/\q.b≠aM/\q.b≠x.cP
theorem aix (F:ll G B X x)(hb:gw G ws B X x a e S a8 es gs h)(bY:a<=9000)(he:e.n<=9000)(key cell:aE)(on:Bool){ae ax aM:Nat}(d12:ae≠ax)(d13:ae≠aM)(d23:ax≠aM)(bu:ae≠x.cP)(bK:ax≠x.cP)(ch:aM≠x.cP)
 (f1:h ae=none) (f2:h ax=none) (f3:h aM=none) {i:Nat} (hi:i<X.K) {cm:List dk} {aX c0 s:ao} {g:ak} (R:gw G ws B X x (a+i) (e+i) (fo G (wf ws) X i 0 S (key,cell) on []).1 cm aX c0 g) (v:bT (cV G B es gs) h (cV G B aX c0) g)
 (L:NT G B x aX c0 ae ax aM s g (fo G (wf ws) X i 0 S (key,cell) on []).2.2.1 (fo G (wf ws) X i 0 S (key,cell) on []).2.1) (O:ct 9 jj h g s (fo G (wf ws) X i 0 S (key,cell) on []).2.2.2) (aT:(fo G (wf ws) X i 0 S (key,cell) on []).2.2.2.length<=i) {K:ao->ak->Prop}
 (ah:∀fe d_ jG s2 g2,gw G ws B X x (a+(i+1)) (e+(i+1)) (fo G (wf ws) X (i+1) 0 S (key,cell) on []).1 fe d_ jG g2->bT (cV G B es gs) h (cV G B d_ jG) g2 ->
  NT G B x d_ jG ae ax aM s2 g2 (fo G (wf ws) X (i+1) 0 S (key,cell) on []).2.2.1 (fo G (wf ws) X (i+1) 0 S (key,cell) on []).2.1->ct 9 jj h g2 s2 (fo G (wf ws) X (i+1) 0 S (key,cell) on []).2.2.2->(fo G (wf ws) X (i+1) 0 S (key,cell) on []).2.2.2.length<=i+1->K s2 g2) :
 ∃(t2:Bool),bx g ax 0=some (Value.bool t2)/\bl (!t2)
  (∃(cg:Option aF),bx g ae 0=some (a7 cg)/\aq 140 [a7 cg] g λv1 bj=>v1=Value.tuple #[]/\K s bj)
  (∃(da:Option aF),bx g ae 0=some (a7 da)/\(Int.ofNat 2=0->False)/\∃(mw:aE),bx g aM 0=some (ab mw)/\aq 141 [a7 da,Value.int IntKind.i64 (Int.tmod (i:Int) 2),ab mw] g λv2 bU=>∃(k9:aE),v2=ab k9 /\
   bg bU (Obj.cells #[Value.int IntKind.u64 0,Value.int IntKind.u64 0,Value.int IntKind.u64 0,Value.int IntKind.u64 0,Value.int IntKind.u64 0,Value.int IntKind.u64 0,Value.int IntKind.u64 0,Value.int IntKind.u64 0,Value.int IntKind.u64 0] 227) λbM bR=>aW bR { b:=bM,o:=0 } [ab k9,ab 0,ab 0,ab 0,ab 0,ab 0,ab 0,ab 0,ab 0] λb9 =>
   ∃(dq:Option aF),bx b9 ae 0=some (a7 dq)/\∃(cH:aF),dq=some cH/\∃(cz:Option aF),bx b9 cH.b cH.o=some (a7 cz)/\∃(ni:aE),bx b9 bM 0=some (ab ni)/\∃(s0:aE),bx b9 aM 0=some (ab s0)/\∃(jk:aE),bx b9 aM (0+1)=some (ab jk) /\
   aq 142 [Value.agg #[ab s0,ab jk]] b9 λv3 cp=>∃(aS:bo 8),v3=Value.agg (Array.map ab aS.toArray)/\(bx cp bM 0=some (ab ni)/\True)/\(bx cp cH.b cH.o=some (a7 cz)/\True)/\(bx cp ae 0=some (a7 dq)/\True) /\
   aq 13 [a7 cz,Value.int IntKind.i64 1,ab ni,Value.agg (Array.map ab aS.toArray)] cp λv4 cf=>∃(aY:bo 8),∃(t3:Bool),v4=Value.tuple #[Value.agg (Array.map ab aY.toArray),Value.bool t3]/\aW cf { b:=bM,o:=0+1 } (ag.cells (ag.ws 8 aY)) λbN =>
   ∃(pj:aE),bx bN bM 0=some (ab pj)/\∃(cB:bo 8),b5 bN bM (0+1) cB/\bg bN (Obj.cells (List.toArray (ab pj::(ag.cells (ag.ws 8 cB)++[]++[]))) 227) λb1 dB=>eI prog 222 s (ag.s { p:=some { b:=b1,o:=0 },len:=1,cap:=1 }) dB λs2 cC =>
   ∃(dQ:bo 8),b5 cC bM 1 dQ/\aq 143 [Value.agg (Array.map ab dQ.toArray)] cC λv5 dT=>∃(qo:aE),∃(B8:aE),∃(t4:Bool),v5=Value.tuple #[Value.agg #[ab qo,ab B8],Value.bool t4]/\aW dT ⟨aM,0⟩ [ab qo,ab B8] λcK=>aW cK ⟨ax,0⟩ [Value.bool t4] λdu=>K s2 du):=by
 have xD:=I6 (G:=G) (w:=wf ws) (X:=X) i 0 S (key,cell) on [];rw[aEX] at xD;rw[xD] at ah;clear xD;generalize fo G (wf ws) X i 0 S (key,cell) on []=r at *;obtain⟨fz,aD,B9,eX⟩:=r;have aBN:=F.K;refine⟨B9,az L.aY rfl,?_⟩;cases B9 with
 | false =>
  refine dF rfl ⟨some ⟨x.cP,0⟩,az L.aS rfl,(NI F R (by omega) (by rw[cW.jt];omega)).mono ?_⟩;rintro _ g2 ⟨fe,d_,jG,rfl,df,v2⟩;have p:∀ {b:Nat} {o:Obj},g b=some o->¬cV G B aX c0 b->g2 b=some o/\¬cV G B d_ jG b:=λar aK=>⟨v2.get ar aK,v2.out (by rw[ar];simp) aK⟩;refine⟨rfl,ah fe d_ jG s g2 df (v.trans v2) ⟨(p L.aS L.ay).1,(p L.aY L.aA).1,(p L.cB L.aL).1,(p L.aS L.ay).2,(p L.aY L.aA).2,(p L.cB L.aL).2,λq aj=>⟨v2.out (O.bp aj).2 (L.j9 q aj).1,(L.j9 q aj).2⟩⟩ (O.move λq aj=>v2.2.1 _ (O.bp aj).2 (L.j9 q aj).1) (by show eX.length<=i+1;have:eX.length<=i:=aT;omega)⟩
 | true =>
  refine b3 rfl ⟨some ⟨x.cP,0⟩,az L.aS rfl,by decide,_,az L.cB rfl,?_⟩;rw[show Int.tmod (i:Int) 2=((i%2:Nat):Int) from rfl];have kz:i%2<2:=aEk _ (by decide);refine(I2 F R.cA kz aD.1).mono ?_;rintro _ g2 ⟨rfl,eJ⟩;refine⟨_,rfl,bP λbM g3 f4 b6 uo=>?_⟩;have I7:=eJ.trans uo;have pg:h bM=none:=v.2.2 bM (eJ.free f4);have E6:∀ {b:Nat} {o:Obj},g b=some o->b≠bM:=λar e=>by
   have:=eJ.get ar;rw[e,f4] at this;cases this
  refine lY (v.more I7) pg b6 rfl λg5 v5 cG cz=>?_;have B_:∀ {b:Nat} {o:Obj},g b=some o->g5 b=some o:=λar=>(cz _ (E6 ar)).trans (I7.get ar);have jV:=(R.bA F eJ).loc F f4 uo cz;have VG:¬cV G B aX c0 bM:=(R.bA F eJ).r.out F.c.o f4;refine⟨some ⟨x.cP,0⟩,az (B_ L.aS) rfl,_,rfl,some ⟨B.cO,0⟩,az jV.cA rfl,_,az cG rfl,_,az (B_ L.cB) rfl,_,az (B_ L.cB) rfl,?_⟩;refine(Vh aD).to λg6 oK=>⟨_,rfl,⟨az (oK.get cG) rfl,trivial⟩,⟨az (oK.get jV.cA) rfl,trivial⟩,⟨az (oK.get (B_ L.aS)) rfl,trivial⟩,?_⟩;have mv:=jV.bA F oK;refine(B5 F mv (by omega) (by rw[cW.jt];omega) (op:= .put (gb aD)) (k:=1) (d:=gb aD) ⟨rfl,rfl⟩ (.inr (.inl rfl)) (eE.ml F.c.fE kz aD.1)).mono ?_;rintro _ g7 ⟨NU,ri,Ca,rfl,I8,ee⟩;have dP:=oK.get cG;have fa:=ee.get dP VG;have aiy:=ee.out (by rw[dP];simp) VG;have I9:=(v5.more oK).trans ee;have E7:∀ {b:Nat} {o:Obj},g b=some o->¬cV G B aX c0 b->g7 b=some o/\¬cV G B ri Ca b:=λar aK=>⟨ee.get (oK.get (B_ ar)) aK,ee.out (by rw[oK.get (B_ ar)];simp) aK⟩;have qp:ct 9 jj h g7 s eX:=O.move λq aj=>by
   have ar:=(O.bp aj).2;have oL:q.b≠bM:=λe=>ar (by rw[e];exact eJ.free f4);have aR:g5 q.b=g q.b:=by rw[cz _ oL,I7 _ ar]
   rw[ee.2.1 _ (by rw[oK _ (by rw[aR];exact ar),aR];exact ar) (L.j9 q aj).1,oK _ (by rw[aR];exact ar),aR]
  have VH:∀q,s.q=some q->¬cV G B ri Ca q.b:=λq aj=>by
   have ar:=(O.bp aj).2;have oL:q.b≠bM:=λe=>ar (by rw[e];exact eJ.free f4);have aR:g5 q.b=g q.b:=by rw[cz _ oL,I7 _ ar]
   exact ee.out (by rw[oK _ (by rw[aR];exact ar),aR];exact ar) (L.j9 q aj).1
  have E8:E5 G (wf ws) X i (fz,aD,true,eX)=((de G (wf ws) (.put (gb aD)) (X.bp (i%2) aD.1) fz).1,nB (de G (wf ws) (.put (gb aD)) (X.bp (i%2) aD.1) fz).2.1,(de G (wf ws) (.put (gb aD)) (X.bp (i%2) aD.1) fz).2.1[0]==1,eX++[(X.bp (i%2) aD.1,(de G (wf ws) (.put (gb aD)) (X.bp (i%2) aD.1) fz).2.1)]):=rfl;rw[E8] at ah;clear E8;generalize (de G (wf ws) (.put (gb aD)) (X.bp (i%2) aD.1) fz).1=fF at *;generalize (de G (wf ws) (.put (gb aD)) (X.bp (i%2) aD.1) fz).2.2=I_ at *;generalize (de G (wf ws) (.put (gb aD)) (X.bp (i%2) aD.1) fz).2.1=d2 at *;refine⟨_,_,rfl,?_⟩;refine stM I9 pg fa (by simp[ag.cells]) λg8 fh fO e6=>?_;rw[aiv (UInt64.ofNat (X.bp (i%2) aD.1)) d2 _ rfl rfl] at fO;have fO:g8 bM=some (.cells (jj (X.bp (i%2) aD.1,d2)).toArray 227 (0,0)):=fO;obtain⟨aiz,aiA⟩:=NS fO;have aBO:∀ {b:Nat} {o:Obj},g b=some o->b≠bM:=E6;have s3:=I8.same (af:=g8) λy aC=>e6 y λe=>by
   rcases aC with aC|aC
   .exact aiy (e▸aC)
   .have:=R.cA;exact E6 this (aC.symm.trans e)
  have bZ:∀q,s.q=some q->q.b≠bM:=λq aj e=>(O.bp aj).2 (by rw[e];exact eJ.free f4);have VI:ct 9 jj h g8 s eX:=qp.move λq aj=>e6 _ (bZ q aj);refine⟨_,aiz,_,aiA,?_⟩;rw[aD5,aD5];have aBP:eX.length<=i:=aT;refine ct.push aiu vQ VF VI [(X.bp (i%2) aD.1,d2)] (by simp[jj]) rfl (λb ar=>fh.2.2 b ar) (by simp;omega) (by decide) λs2 g9 Cb pk xE E9=>?_;have v9:bT (cV G B es gs) h (cV G B ri Ca) g9:=fh.app pk E9 λq aj=>(VI.bp aj).1;have gm:g9 bM=_:=(pk bM (by rw[fO];simp) λq aj e=>bZ q aj e.symm).trans fO;have eU:∀ {b:Nat} {o:Obj},g b=some o->¬cV G B aX c0 b->(∀q,s.q=some q->q.b≠b)->g9 b=some o:=λ{b o} ar aK aV=>by
   have bR:g8 b=some o:=(e6 b (E6 ar)).trans (E7 ar aK).1;rw[pk b (by rw[bR];simp) λq aj e=>aV q aj e.symm,bR]
  have nh:gw G ws B X x (a+i+1) (e+i+1) fF NU ri Ca g9:=s3.same λy aC=>pk y (s3.dK F aC) λq aj e=>by
   rcases aC with aC|aC
   .exact VH q aj (e▸aC)
   .exact(L.j9 q aj).2.2.2.2 (e.symm.trans aC)
  have vR:∀q,s2.q=some q->¬cV G B ri Ca q.b/\q.b≠ae/\q.b≠ax/\q.b≠aM/\q.b≠x.cP:=λq aj=>by
   rcases xE q aj with ⟨p,aP,e⟩|aK
   .rw[e];exact⟨VH p aP,(L.j9 p aP).2⟩
   .have b2:∀ {b:Nat} {o:Obj},g b=some o->¬cV G B aX c0 b->q.b≠b:=λ{b o} ar oc e=>by
     have bR:g8 b=some o:=(e6 b (E6 ar)).trans (E7 ar oc).1;rw[e,bR] at aK;cases aK
    exact⟨s3.r.out F.c.o aK,b2 L.aS L.ay,b2 L.aY L.aA,b2 L.cB L.aL,b2 R.cA R.ju⟩
  obtain⟨_,aiB⟩:=NS gm;refine⟨_,aiB,?_⟩;refine(Vf d2).to λre Cc=>⟨_,_,_,rfl,?_⟩;have E_:=Cc.get (eU L.cB L.aL λq aj=>(L.j9 q aj).2.2.2.1);have Cd:=Cc.get (eU L.aY L.aA λq aj=>(L.j9 q aj).2.2.1);have NV:=Cc.get (eU L.aS L.ay λq aj=>(L.j9 q aj).2.1);have dm:=(E7 L.aS L.ay).2;have n27:=(E7 L.aY L.aA).2;have n37:=(E7 L.cB L.aL).2;refine lY (v9.more Cc) f3 E_ rfl λsY v11 mr hq=>?_;refine lY v11 f2 ((hq ax d23).trans Cd) rfl λsh iV ik gP=>?_;have mx:=((nh.bA F Cc).same (af:=sY) λy aC=>hq y λe=>by
   rcases aC with aC|aC
   .exact n37 (e▸aC)
   .exact ch (e.symm.trans aC)).same (af:=sh) λy aC=>gP y λe=>by
   rcases aC with aC|aC
   .exact n27 (e▸aC)
   .exact bK (e.symm.trans aC)
  refine ah NU ri Ca s2 sh mx iV ⟨(gP ae d12).trans ((hq ae d13).trans NV),ik,(gP aM (aDC d23)).trans mr,dm,n27,n37,vR⟩ ?_ (by rw[aDs,aDS];omega);exact(Cb.bA Cc).move λq aj=>by rw[gP _ (vR q aj).2.2.1,hq _ (vR q aj).2.2.2.1]
end
end Go.Proofs.Tryz
namespace Go.Proofs.Tryz
open Go Go.cR Go.RowKit
set_option maxRecDepth 8000
theorem aiC {F dZ:Nat->Prop}{g hA kA:ak}{k:Nat}{eD fK:Obj}(ah:g k=some eD)(bW:bL g hA)(v:bT F (bD hA k fK) dZ kA):bT F g dZ (bD kA k eD):=by
 refine⟨λb ar=>?_,λb ar aK=>?_,λb ar=>?_⟩
 .rcases v.1 b ar with h|h
  .exact .inl h
  .by_cases c:b=k
   .rw[c,eC] at h;cases h
   .rw[cu _ _ c] at h;exact .inr (bW.free h)
 .by_cases c:b=k
  .rw[c,eC,ah]
  .have aa:bD hA k fK b=g b:=by rw[cu _ _ c,bW b ar]
   rw[cu _ _ c,v.2.1 b (by rw[aa];exact ar) aK,aa]
 .by_cases c:b=k
  .rw[c,eC] at ar;cases ar
  .rw[cu _ _ c] at ar;have:=v.2.2 b ar;rw[cu _ _ c] at this;exact bW.free this
section
variable {G:cq} {ws:List aE} {B:j4} {X:eE} {x:km} {a:Nat} {e:cW} {S:c7} {a8:List dk} {es gs:ao} {h:ak}
def pn (G:cq)(w:Nat->aE)(lp:Bool)(L:List (Nat×c_))(S:c7)(j:Nat):c7:=if lp then m_ G w (L.reverse.take j) S else k6 G w j S
theorem VJ {w:Nat->aE}{L:List (Nat×c_)}{S:c7}{j:Nat}(aU:j<L.length):pn G w true L S (j+1)=(de G w (.put (L[L.length-1-j]'(by omega)).2) (L[L.length-1-j]'(by omega)).1 (pn G w true L S j)).1:=by
 have aQ:j<L.reverse.length:=by rw[aE3];exact aU
 show m_ G w (L.reverse.take (j+1)) S=_;rw[<-List.take_append_getElem aQ,VE];have:L.reverse[j]=L[L.length-1-j]'(by omega):=by rw[List.getElem_reverse]
 rw[this];rfl
theorem VK {w:Nat->aE}{L:List (Nat×c_)}{S:c7}{j:Nat}:pn G w false L S (j+1)=k5 G w (pn G w false L S j):=VD j S
theorem aiD (F:ll G B X x)(R:gw G ws B X x a e S a8 es gs h)(bY:a+X.K<=9500)(he:e.n+X.K<=9500){ae ax:Nat}{T1 vI:TypeId}{lp:Bool}(aS:h ae=some (.cells #[bm ⟨x.cP,0⟩] T1 (0,0)))(aY:h ax=some (.cells #[.bool lp] vI (0,0)))(ay:¬cV G B es gs ae)(aA:¬cV G B es gs ax)
 {s:ao} {L:List (Nat×c_)} (rs:fR jj h s L) (eg:L.length=X.K) (j9:∀q,s.q=some q->0<L.length->¬cV G B es gs q.b) (ar:lp=true->∀y∈L,y.1<2*X.T) {Q:Value->ak->Prop}
 (fI:∀cm aX c0 af,gw G ws B X x (a+X.K) (e+X.K) (pn G (wf ws) lp L S X.K) cm aX c0 af->bT (cV G B es gs) h (cV G B aX c0) af->Q (.bool (!lp)) af) :
 aq 145 [aZ s] h λv9 jl=>∃(v10:Value),v9=v10/\True/\∀(dD:Loop) (bF:Nat),jl bF=none ->
  (∀(v11:Value) (ko:aE) (hX:bo 8) (jW:ak) (gn:Value->ak->Prop),jW bF=some (eA dD) ->
   (bg jW (Obj.cells #[Value.int IntKind.u64 0,Value.int IntKind.u64 0,Value.int IntKind.u64 0,Value.int IntKind.u64 0,Value.int IntKind.u64 0,Value.int IntKind.u64 0,Value.int IntKind.u64 0,Value.int IntKind.u64 0,Value.int IntKind.u64 0] 227) λkp l1=>aW l1 { b:=kp,o:=0 } (ab ko::(ag.cells (ag.ws 8 hX)++[])) λhA=>hA bF=some (eA dD)/\∃(t9:Bool),bx (bD hA bF (dn dD)) ax 0=some (Value.bool t9)/\bl (!t9)
    (∃(j_:Option aF),bx (bD hA bF (dn dD)) ae 0=some (a7 j_)/\aq 140 [a7 j_] (bD hA bF (dn dD)) λiV od=>iV=Value.tuple #[]/\od bF=some (dn dD)/\gn (Value.bool true) (bD od bF (eA dD)))
    (∃(ka:Option aF),bx (bD hA bF (dn dD)) ae 0=some (a7 ka)/\∃(iW:aF),ka=some iW/\∃(mV:Option aF),bx (bD hA bF (dn dD)) iW.b iW.o=some (a7 mV)/\∃(j8:aE),bx (bD hA bF (dn dD)) kp 0=some (ab j8)/\∃(jH:bo 8),b5 (bD hA bF (dn dD)) kp 1 jH/\aq 13 [a7 mV,Value.int IntKind.i64 1,ab j8,Value.agg (Array.map ab jH.toArray)] (bD hA bF (dn dD)) λiA kA=>∃(jX:bo 8),∃(t10:Bool),iA=Value.tuple #[Value.agg (Array.map ab jX.toArray),Value.bool t10]/\kA bF=some (dn dD)/\gn (Value.bool true) (bD kA bF (eA dD)))) ->
   nj prog bF [v11,Value.agg (List.toArray (ab ko::(ag.cells (ag.ws 8 hX)++[])))] jW λjI pI=>gn jI pI) ->
  rj prog v10 [lM bF] (bD jl bF (eA dD)) λ_ mW=>mW bF=some (eA dD)/\∃(t11:Bool),bx (bD mW bF (im dD none)) ax 0=some (Value.bool t11)/\Q (Value.bool (!t11)) (bD mW bF (im dD none)):=by
 refine aiE _ ?_;unfold VL;refine bP λVM jl Fa Ja NW=>⟨_,rfl,trivial,λz bF Jb aQ=>⟨rfl,?_⟩⟩;have NX:=R.bA F NW;have rk:bL jl (bD jl bF (eA z)):=(bL.refl jl).bD Jb _;have VN:¬cV G B es gs bF:=NX.r.out F.c.o Jb;have aiF:¬cV G B es gs VM:=R.r.out F.c.o Fa;have NY:bF≠x.cP:=λe=>by have:=NX.cA;rw[<-e,Jb] at this;cases this
 have aiG:=NX.bA F rk;have Jc:=NW.trans rk;have jX:=Jc.get aS;have uq:=Jc.get aY;have VO:=rk.get Ja;have VP:=rs.bA vQ Jc;have z0:bD jl bF (eA z) bF=some (eA z):=eC _ _ _;generalize aBQ:bD jl bF (eA z)=g0 at *;have NZ:=F.K;have kq:=rs.len;refine aiH _ _ ?_;unfold VQ;refine⟨s,az VO rfl,?_⟩;refine⟨λv1 q1 ay g bW=>lM bF=v1/\(⟨VM,0⟩:aF)=q1/\∃(j:Nat) (cm:List dk) (aX c0:ao),ay=(X.K:Int)-1-j/\j<=X.K/\bW=X.K-j/\gw G ws B X x (a+j) (e+j) (pn G (wf ws) lp L S j) cm aX c0 g/\bT (cV G B es gs) g0 (cV G B aX c0) g,
  ⟨X.K,rfl,rfl,0,a8,es,gs,by rw[bt];omega,by omega,rfl,?_,bT.refl _ _⟩,?_⟩
 .have:pn G (wf ws) lp L S 0=S:=by unfold pn;cases lp<;>simp[m_,k6]
  rw[this];exact aiG
 rintro v1 q1 Fb g bW ⟨rfl,rfl,j,cm,aX,c0,rfl,aU,rfl,dJ,gl⟩;have Fc:=gl.get z0 VN;have Jd:=gl.out (by rw[z0];simp) VN;have VR:=gl.get jX ay;have VS:=gl.get uq aA;have EY:=gl.out (by rw[jX];simp) ay;have EZ:=gl.out (by rw[uq];simp) aA;have aiI:=gl.get VO aiF;have d1:ae≠bF:=λe=>by rw[e,z0] at jX;cases jX
 have d2:ax≠bF:=λe=>by rw[e,z0] at uq;cases uq
 refine cj (λh0=>?_) λaK=>?_
 .have kb:j<X.K:=by omega
  have s4:X.K-1-j<L.length:=by omega
  have vS:Int.toNat ((X.K:Int)-1-j)=X.K-1-j:=by omega
  have VT:fR jj g s L:=VP.move λq aj aT=>gl.2.1 _ (VP.there vQ aj aT) (j9 q aj aT);obtain⟨q,aj⟩:=VT.ptr (by omega);have a1:=sT vQ (VT.rd q aj) s4;have N0:bx g q.b (q.o+(X.K-1-j)*9)=some (ab (UInt64.ofNat L[X.K-1-j].1)):=a1.1;have xF:b5 g q.b (q.o+(X.K-1-j)*9+1) L[X.K-1-j].2:=λi hi=>by
   have ad:fW g q.b (q.o+(X.K-1-j)*9+1) (ag.cells (ag.ws 8 L[X.K-1-j].2)):=a1.2;rw[pJ] at ad;have:=ad i (by simp[ag.cells,hi]);simpa [ag.cells] using this
  refine⟨s,az aiI rfl,q,aj,by omega,by omega,_,by rw[vS];exact N0,_,by rw[vS];exact xF,rfl,rfl,?_⟩;refine aQ _ _ _ g _ Fc ?_;refine bP λkp l1 f11 mr gE=>?_;rw[aD5];refine iH gE f11 mr (by simp[ag.cells]) λhA vT EU zI=>⟨vT.get Fc,?_⟩;have EU:hA kp=some (.cells (jj L[X.K-1-j]).toArray 227 (0,0)):=EU;have d11:kp≠bF:=λe=>by rw[e,Fc] at f11;cases f11
  have dC:∀ {b:Nat} {o:Obj},hA b=some o->b≠bF->bD hA bF (dn z) b=some o:=λar aK=>by rw[cu _ _ aK];exact ar
  have qq:gw G ws B X x (a+j) (e+j) (pn G (wf ws) lp L S j) cm aX c0 (bD hA bF (dn z)):=(dJ.bA F vT).same λy aC=>cu _ _ λe=>by
   rcases aC with aC|aC
   .exact Jd (e▸aC)
   .exact NY (e.symm.trans aC)
  have VU:bD hA bF (dn z) bF=some (dn z):=eC _ _ _;refine⟨lp,az (dC (vT.get VS) d2) rfl,?_⟩;have done:∀ {fe:List dk} {d_ jG:ao} {kA:ak},gw G ws B X x (a+j+1) (e+j+1) (pn G (wf ws) lp L S (j+1)) fe d_ jG kA->bT (cV G B aX c0) (bD hA bF (dn z)) (cV G B d_ jG) kA->kA bF=some (dn z)/\gw G ws B X x (a+(j+1)) (e+(j+1)) (pn G (wf ws) lp L S (j+1)) fe d_ jG (bD kA bF (eA z))/\bT (cV G B es gs) g0 (cV G B d_ jG) (bD kA bF (eA z)):=λ{fe d_ jG kA} df v2=>by
   have aiJ:=v2.out (by rw[VU];simp) Jd;refine⟨v2.get VU Jd,df.same λy aC=>cu _ _ λe=>?_,gl.trans (aiC Fc vT v2)⟩;rcases aC with aC|aC
   .exact aiJ (e▸aC)
   .exact NY (e.symm.trans aC)
  cases lp with
  | false =>
   refine dF rfl ⟨some ⟨x.cP,0⟩,az (dC (vT.get VR) d1) rfl,(NI F qq (by omega) (by rw[cW.jt];omega)).mono ?_⟩;rintro _ kA ⟨fe,d_,jG,rfl,df,v2⟩;rw[<-VK (L:=L)] at df;obtain⟨h7,ob,v3⟩:=done df v2;exact⟨rfl,h7,true,rfl,X.K-(j+1),by omega,rfl,rfl,j+1,fe,d_,jG,by rw[bt];omega,by omega,rfl,ob,v3⟩
  | true =>
   obtain⟨aiK,Je⟩:=NS (dC EU d11);refine b3 rfl ⟨some ⟨x.cP,0⟩,az (dC (vT.get VR) d1) rfl,_,rfl,some ⟨B.cO,0⟩,az qq.cA rfl,_,aiK,_,Je,?_⟩;refine(B5 F qq (by omega) (by rw[cW.jt];omega) (op:= .put L[X.K-1-j].2) (k:=1) (d:=L[X.K-1-j].2) ⟨rfl,rfl⟩ (.inr (.inl rfl)) (ar rfl _ (aDR s4))).mono ?_;rintro _ kA ⟨fe,d_,jG,rfl,df,v2⟩;have kB:=VJ (G:=G) (w:=wf ws) (L:=L) (S:=S) (j:=j) (by omega);simp only[eg] at kB;rw[<-kB] at df;obtain⟨h7,ob,v3⟩:=done df v2;exact⟨_,_,rfl,h7,true,rfl,X.K-(j+1),by omega,rfl,rfl,j+1,fe,d_,jG,by rw[bt];omega,by omega,rfl,ob,v3⟩
 .have kb:j=X.K:=by omega
  subst kb;refine⟨Fc,lp,az (by rw[cu _ _ d2];exact VS) rfl,fI cm aX c0 _ (dJ.same λy aC=>cu _ _ λe=>?_) ?_⟩
  .rcases aC with aC|aC
   .exact Jd (e▸aC)
   .exact NY (e.symm.trans aC)
  .have v:=(hj Jc (cV G B es gs)).trans gl;have ah:h bF=none:=NW.free Jb;refine⟨v.1,λb hY my=>?_,λb hY=>?_⟩
   .have:b≠bF:=λe=>hY (by rw[e];exact ah);rw[cu _ _ this];exact v.2.1 b hY my
   .by_cases c:b=bF
    .rw[c];exact ah
    .rw[cu _ _ c] at hY;exact v.2.2 b hY
end
end Go.Proofs.Tryz
namespace Go.Proofs.Tryz
open Go Go.cR Go.RowKit
set_option maxRecDepth 8000
section
variable {G:cq} {ws:List aE} {B:j4} {X:eE} {x:km} {a:Nat} {e:cW} {S:c7} {a8:List dk} {es gs:ao} {h:ak}
theorem aiL (c:Bool):decide (mask c=0)= !c:=by cases c<;>decide
theorem aiM {n:Nat}:(lq (if n*9=0 then #[] else Value.cells (.agg zH)) (n*9))=((List.replicate n (0,j7)).flatMap jj).toArray:=by
 have bn:Value.cells (.agg zH)=Array.replicate 9 (ab 0):=rfl;have a1:jj (0,j7)=List.replicate 9 (ab 0):=rfl;apply aFO;intro i;have aT:((List.replicate n (0,j7)).flatMap jj).length=n*9:=by rw[nx vQ];simp
 by_cases c:i<n*9
 .rw[cS,bn];have aa:=IJ vQ (l:=List.replicate n (0,j7)) (i:=i/9) (j:=i%9) (by simp;omega) (by omega);rw[show i/9*9+i%9=i by omega] at aa;simp only[List.getElem_replicate,a1] at aa;have ad:((List.replicate n (0,j7)).flatMap jj).toArray[i]? =(List.replicate 9 (ab 0))[i%9]?:=by rw[aD1,aa]
  rw[ad];unfold lq;rw[Array.getElem?_map,Array.getElem?_range,aDr c,aEx];have aiN:i%9<9:=aEk _ (by decide);have b9:(Array.replicate 9 (ab 0))[i%(Array.replicate 9 (ab 0)).size]! =ab 0:=by
   rw[show(Array.replicate 9 (ab 0)).size=9 by simp,getElem!_pos (Array.replicate 9 (ab 0)) (i%9) (by simp;omega)];simp
  rw[b9,List.getElem?_replicate,aDr aiN]
 .rw[Array.getElem?_eq_none (by rw[N1];omega),aD1,aEu (by rw[aT];omega)]
def Fe (r:E4)(o:Option Nat):c7:=if r.2.2.1&&o.isSome then ig r.1 (0,(kT o).toNat) (nC r.2.1) else r.1
theorem VV {w:Nat->aE}(iL:X.sp<=1000)(key cell:aE)(on:Bool)(S:c7){r:E4}(aQ:fo G w X X.K 0 S (key,cell) on []=r){o:Option Nat}(ep:gO (λi=>(S.R 0 i)[0]==0) X.sp=o){L:List (Nat×c_)}(eg:(r.2.2.1&&o.isNone)=true->L=r.2.2.2/\L.length=X.K) :
 iy G w X key cell on S=(pn G w (r.2.2.1&&o.isNone) L (Fe r o) X.K,!(r.2.2.1&&o.isNone)):=by
 unfold iy;simp only;rw[aQ,ep];obtain⟨fz,k,B9,eX⟩:=r;cases B9 with
 | false=>rfl
 | true =>
  cases o with
  | some i =>
   have hi:=(BP ep).1;show(k6 G w X.K (ig fz (0,i) (nC k)),true)=(k6 G w X.K (ig fz (0,(kT (some i)).toNat) (nC k)),true);have:(kT (some i)).toNat=i:=by show(UInt64.ofNat i).toNat=i;rw[aDw];omega
   rw[this]
  | none =>
   obtain⟨aa,ad⟩:=eg rfl;show(m_ G w eX.reverse fz,false)=(m_ G w (L.reverse.take X.K) fz,false);rw[aEd (by rw[aE3];omega),aa]
theorem U9 (F:ll G B X x)(R:gw G ws B X x a e S a8 es gs h)(bY:a<=9000)(he:e.n<=9000)(key cell:aE)(on:Bool) :
 aq 91 [bm ⟨x.cP,0⟩,ab key,ab cell,.bool on] h λv af=>∃cm aX c0,v= .bool (iy G (wf ws) X key cell on S).2/\gw G ws B X x (a+2*X.K) ((e+X.K).rd.wr+X.K) (iy G (wf ws) X key cell on S).1 cm aX c0 af/\bT (cV G B es gs) h (cV G B aX c0) af:=by
 suffices H:∀Q:Value->ak->Prop,(∀v af,(∃cm aX c0,v= .bool (iy G (wf ws) X key cell on S).2/\gw G ws B X x (a+2*X.K) ((e+X.K).rd.wr+X.K) (iy G (wf ws) X key cell on S).1 cm aX c0 af/\bT (cV G B es gs) h (cV G B aX c0) af)->Q v af)->aq 91 [bm ⟨x.cP,0⟩,ab key,ab cell,.bool on] h Q from H _ λ_ _ h=>h
 intro Q fI;have NZ:=F.K;refine aiO _ _ _ _ ?_;unfold VW;refine bP λae aa f1 aH aD=>bP λax ad f2 a_ aB=>bP λaM an f3 b7 aG=>?_;have f20:=aD.free f2;have f30:=aD.free (aB.free f3);have d12:ae≠ax:=λe=>by rw[<-e,aH] at f2;cases f2
 have d13:ae≠aM:=λe=>by rw[<-e,aB.get aH] at f3;cases f3
 have d23:ax≠aM:=λe=>by rw[<-e,a_] at f3;cases f3
 have bu:ae≠x.cP:=λe=>by have:=R.cA;rw[<-e,f1] at this;cases this
 have bK:ax≠x.cP:=λe=>by have:=R.cA;rw[<-e,f20] at this;cases this
 have ch:aM≠x.cP:=λe=>by have:=R.cA;rw[<-e,f30] at this;cases this
 refine iH ((aD.trans aB).trans aG) f30 b7 rfl λaJ bd b6 dq=>?_;have nF:aJ ae=_:=(dq ae d13).trans (aG.get (aB.get aH));have vJ:aJ ax=_:=(dq ax d23).trans (aG.get a_);have kU:=R.bA F bd;refine⟨some ⟨x.cP,0⟩,az nF rfl,_,rfl,_,az kU.cA rfl,?_⟩;refine⟨λaI bb t1 bH s1 aA aL g bW=>(⟨ae,0⟩:aF)=aI/\(⟨ax,0⟩:aF)=bb/\(⟨aM,0⟩:aF)=bH/\aA=(X.K:Int)/\∃(i:Nat) (cm:List dk) (aX c0:ao),aL=i/\i<=X.K/\bW=X.K-i/\gw G ws B X x (a+i) (e+i) (fo G (wf ws) X i 0 S (key,cell) on []).1 cm aX c0 g/\bT (cV G B es gs) h (cV G B aX c0) g /\
  NT G B x aX c0 ae ax aM s1 g (fo G (wf ws) X i 0 S (key,cell) on []).2.2.1 (fo G (wf ws) X i 0 S (key,cell) on []).2.1/\ct 9 jj h g s1 (fo G (wf ws) X i 0 S (key,cell) on []).2.2.2/\(fo G (wf ws) X i 0 S (key,cell) on []).2.2.2.length<=i,
  ⟨X.K,rfl,rfl,rfl,rfl,0,a8,es,gs,rfl,by omega,rfl,kU,hj bd _,⟨nF,vJ,b6,R.r.out F.c.o f1,R.r.out F.c.o f20,R.r.out F.c.o f30,λq aj=>by cases aj⟩,ct.gy ..,aDt _⟩,?_⟩
 rintro aI bb t1 bH s1 aA aL g bW ⟨rfl,rfl,rfl,rfl,i,cm,aX,c0,rfl,hi,rfl,dJ,gl,cW,eM,aiP⟩;refine cj (λcl=>?_) λdH=>?_
 .have cb:i<X.K:=by omega
  refine aix F R bY he key cell on d12 d13 d23 bu bK ch f1 f20 f30 cb dJ gl cW eM aiP λfe d_ jG s2 g2 df v2 Jf ft Ce=>⟨X.K-(i+1),by omega,rfl,rfl,rfl,rfl,i+1,fe,d_,jG,bt,by omega,rfl,df,v2,Jf,ft,Ce⟩
 .have cb:i=X.K:=by omega
  subst cb;have zG:=(BU F.c.o F.c.fE F.c.m F.c.f X.K 0 a S (key,cell) on [] R.p (by omega)).2;have hlen:=EO (G:=G) (w:=wf ws) (X:=X) X.K 0 S (key,cell) on [];have zJ:=EP (G:=G) (w:=wf ws) F.c.fE X.K 0 S (key,cell) on [] (by simp);generalize aQ:fo G (wf ws) X X.K 0 S (key,cell) on []=r at *;refine⟨some ⟨x.cP,0⟩,az cW.aS rfl,_,rfl,some ⟨B.m.b,0⟩,az dJ.cA rfl,some ⟨x.cP,0⟩,az cW.aS rfl,_,rfl,_,az dJ.cA rfl,?_⟩;refine(Vs F dJ (by rw[Go.Proofs.Tryz.cW.jt];omega) (key:=0) (by decide) 0).mono ?_;rintro _ g2 ⟨fe,d_,rfl,df,v2⟩;rw[zG];generalize ep:gO (λi=>(S.R 0 i)[0]==0) X.sp=o at *;have iz:∀ {b:Nat} {e7:Obj},g b=some e7->¬cV G B aX c0 b->g2 b=some e7/\¬cV G B d_ c0 b:=λar aK=>⟨v2.get ar aK,v2.out (by rw[ar];simp) aK⟩;have Ff:=gl.trans v2;have ft:ct 9 jj h g2 s1 r.2.2.2:=eM.move λq aj=>v2.2.1 _ (eM.bp aj).2 (cW.j9 q aj).1;have ur:∀q,s1.q=some q->¬cV G B d_ c0 q.b:=λq aj=>v2.out (eM.bp aj).2 (cW.j9 q aj).1;obtain⟨mz,cd⟩:=iz cW.aS cW.ay;obtain⟨uu,fu⟩:=iz cW.aY cW.aA;obtain⟨aiQ,n32⟩:=iz cW.cB cW.aL;refine⟨_,_,_,rfl,bP λdU g3 f6 dP uo=>?_⟩;have zK:h dU=none:=Ff.2.2 dU f6;refine fN (n:=12) (Ff.more uo) zK dP rfl λg4 v4 Jg Fg=>?_;have vU:∀ {b:Nat} {e7:Obj},g2 b=some e7->g4 b=some e7:=λar=>(Fg _ λe=>by rw[e,f6] at ar;cases ar).trans (uo.get ar);have N2:=df.loc F f6 uo Fg;have jv:ct 9 jj h g4 s1 r.2.2.2:=ft.move λq aj=>by
   have ar:=(ft.bp aj).2;rw[Fg _ λe=>ar (by rw[e];exact f6),uo _ ar]
  refine bP λeQ g5 f7 fa xG=>?_;have Cf:h eQ=none:=v4.2.2 eQ f7;have VX:=xG.get (vU aiQ);refine⟨_,az VX rfl,_,az VX rfl,?_⟩;refine(Vh r.2.1).to λg6 oK=>⟨_,rfl,bP λfS g7 f8 fO VY=>?_⟩;have VZ:=(xG.trans oK).trans VY;have Jh:h fS=none:=v4.2.2 fS (xG.free (oK.free f8));have ee:=v4.more VZ;have aiR:=VY.get (oK.get fa);have d78:eQ≠fS:=λe=>by have:=oK.get fa;rw[e,f8] at this;cases this
  refine fN (n:=8) ee Jh fO rfl λg8 fh Ji e6=>?_;have xH:g8 eQ=_:=(e6 eQ d78).trans aiR;have iO:e4 ab g8 ⟨fX (some ⟨fS,0⟩) 0 8 1,8,8,none⟩ (gb r.2.1).toList:=by
   refine⟨by simp,aDt _,(by intro h;cases h),λq aj i hi=>?_⟩;cases aj;have cb:i<8:=by simpa using hi
   have:=fs Ji cb;simpa using this
  refine Jj iO (q:=⟨eQ,0⟩) rfl (c:=8) (by simp) ?_;rw[aEd (by simp)];refine stM fh Cf xH (by simp) λg9 v9 gm e3=>?_;rw[aiw] at gm;have f74:g4 eQ=none:=f7;have f84:g4 fS=none:=xG.free (oK.free f8);have N3:∀ {b:Nat} {e7:Obj},g4 b=some e7->g9 b=some e7:=λ{b e7} ar=>by
   have bU:b≠eQ:=λe=>by rw[e,f74] at ar;cases ar
   have bR:b≠fS:=λe=>by rw[e,f84] at ar;cases ar
   rw[e3 b bU,e6 b bR];exact VZ.get ar
  have V0:bL g4 g9:=λb ar=>by
   cases b2:g4 b with
   | none=>exact absurd b2 ar
   | some e7=>exact N3 b2
  have nh:=N2.bA F V0;have Cb:=jv.bA V0;have po:=N3 (vU mz);have Cg:=N3 (vU uu);have aiS:¬cV G B d_ c0 eQ:=N2.r.out F.c.o f74;have d72:ax≠eQ:=λe=>by have:=vU uu;rw[e,f74] at this;cases this
  have d71:ae≠eQ:=λe=>by have:=vU mz;rw[e,f74] at this;cases this
  have aBR:eQ≠x.cP:=λe=>by have:=N2.cA;rw[<-e,f74] at this;cases this
  have dV:∀q,s1.q=some q->q.b≠ax:=λq aj=>(cW.j9 q aj).2.2.1;refine⟨λea eU t6 bz gp eV kc bw=>(⟨ae,0⟩:aF)=ea/\(⟨ax,0⟩:aF)=eU/\s1=bz/\kT o=gp/\(⟨eQ,0⟩:aF)=eV/\mask (r.2.2.1&&o.isSome)=kc/\gw G ws B X x (a+X.K) (e+X.K).rd r.1 fe d_ c0 bw/\bT (cV G B es gs) h (cV G B d_ c0) bw/\bw ae=some (.cells #[bm ⟨x.cP,0⟩] 86 (0,0))/\bw ax=some (.cells #[.bool (r.2.2.1&&o.isNone)] 4 (0,0))/\bw eQ=some (.cells (ag.cells (.ws 12 (nC r.2.1))).toArray 69 (0,0))/\ct 9 jj h bw s1 r.2.2.2,?_,?_⟩
  .refine⟨_,az Cg rfl,?_⟩;cases jR:r.2.2.1 with
   | false =>
    refine b3 rfl ⟨rfl,rfl,rfl,rfl,rfl,rfl,nh,v9,po,?_,gm,Cb⟩;rw[jR] at Cg;exact Cg
   | true =>
    refine dF rfl (lY v9 f20 Cg rfl λre v10 pe fH=>⟨rfl,rfl,rfl,rfl,rfl,?_,nh.same λy aC=>fH y λe=>?_,v10,(fH ae d12).trans po,?_,(fH eQ (aDC d72)).trans gm,Cb.move λq aj=>fH _ (dV q aj)⟩)
    .rw[Bool.true_and]
    .rcases aC with aC|aC
     .exact fu (e▸aC)
     .exact bK (e.symm.trans aC)
    .rw[pe,aiL,Bool.true_and];cases o<;>rfl
  rintro ea eU t6 bz gp eV kc bw ⟨rfl,rfl,rfl,rfl,rfl,rfl,N4,aiT,N5,aiU,aiV,N6⟩;refine⟨some ⟨x.cP,0⟩,az N5 rfl,_,rfl,some ⟨B.m.b,0⟩,az N4.cA rfl,some ⟨x.cP,0⟩,az N5 rfl,_,rfl,_,az N4.cA rfl,_,dL aiV,?_⟩;refine(Vq F N4 (by show(e+X.K).n+1<=10000;rw[Go.Proofs.Tryz.cW.jt];omega) (kT o) (nC r.2.1) (r.2.2.1&&o.isSome)).mono ?_;rintro _ sY ⟨aiW,Fh,rfl,xI,v11⟩;have hh:(if (kT o).toNat<X.sp/\(r.2.2.1&&o.isSome)=true then ig r.1 (0,(kT o).toNat) (nC r.2.1) else r.1)=Fe r o:=by
   unfold Fe;by_cases c:(r.2.2.1&&o.isSome)=true
   .rw[aDr c];cases o with
    | none=>simp at c
    | some i =>
     have hi:=(BP ep).1;have iL:=F.c.sp;have:(kT (some i)).toNat=i:=by show(UInt64.ofNat i).toNat=i;rw[aDw];omega
     rw[aDr ⟨by rw[this];exact hi,c⟩]
   .rw[aDq c,aDq (λh=>c h.2)]
  rw[hh] at xI;have V1:∀ {b:Nat} {e7:Obj},bw b=some e7->¬cV G B d_ c0 b->sY b=some e7/\¬cV G B Fh c0 b:=λar aK=>⟨v11.get ar aK,v11.out (by rw[ar];simp) aK⟩;obtain⟨Jk,aiX⟩:=V1 N5 cd;obtain⟨Jl,aiY⟩:=V1 aiU fu;have aiZ:=aiT.trans v11;have N7:ct 9 jj h sY s1 r.2.2.2:=N6.move λq aj=>v11.2.1 _ (N6.bp aj).2 (ur q aj);have N8:∀q,s1.q=some q->¬cV G B Fh c0 q.b:=λq aj=>v11.out (N6.bp aj).2 (ur q aj);refine⟨rfl,λfC iq t8 bZ sh=>(⟨ae,0⟩:aF)=fC/\(⟨ax,0⟩:aF)=iq/\∃L:List (Nat×c_),fR jj sh bZ L/\L.length=X.K/\(∀q,bZ.q=some q->0<L.length->¬cV G B Fh c0 q.b)/\((r.2.2.1&&o.isNone)=true->L=r.2.2.2)/\bL sY sh,?_,?_⟩
  .refine⟨_,az Jl rfl,?_⟩;cases Ch:(r.2.2.1&&o.isNone) with
   | true =>
    have jR:r.2.2.1=true:=(aEi _ _▸Ch:_/\_).1;have Ce:=hlen jR;exact b3 rfl ⟨rfl,rfl,r.2.2.2,N7.rd,by rw[Ce];simp,λq aj _=>N8 q aj,λ_=>rfl,bL.refl _⟩
   | false =>
    refine dF rfl ⟨some ⟨x.cP,0⟩,az Jk rfl,_,rfl,_,az xI.cA rfl,by omega,by omega,by omega,by omega,bP λpK sh f12 ik jd=>?_⟩;rw[Int.toNat_natCast] at ik ⊢;rw[aiM] at ik;refine⟨rfl,rfl,List.replicate X.K (0,j7),(ct.qs (k:=9) vQ (h0:=sY) f12 ik rfl (by simp)).rd,by simp,λq aj _=>?_,(λh=>by cases h),jd⟩;cases aj;exact xI.r.out F.c.o f12
  rintro fC iq t8 bZ sh ⟨rfl,rfl,L,rs,eg,ai0,Ch,jd⟩;have Jm:(r.2.2.1&&o.isNone)=true->L=r.2.2.2/\L.length=X.K:=λh=>⟨Ch h,eg⟩;have heq:=VV (G:=G) (w:=wf ws) F.c.sp key cell on S aQ ep Jm;rw[heq] at fI;refine aiD F (xI.bA F jd) (by omega) (by show(e+X.K).n+1+1+X.K<=9500;rw[Go.Proofs.Tryz.cW.jt];omega) (jd.get Jk) (jd.get Jl) aiX aiY rs eg ai0 (λh y aC=>zJ y (by rw[<-Ch h];exact aC)) λcm aX c0 af dG gx=>fI _ _ ⟨cm,aX,c0,rfl,?_,aiZ.trans ((hj jd _).trans gx)⟩;have:=dG;rw[show a+2*X.K=a+X.K+X.K by omega];exact this
end

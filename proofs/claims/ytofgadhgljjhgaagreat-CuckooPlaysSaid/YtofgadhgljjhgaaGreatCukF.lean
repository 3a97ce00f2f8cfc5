import Derived.Test.YtofgadhgljjhgaaGreatCuk
import Derived.Test.YtofgadhgljjhgaaGreatLevG
import Derived.Test.YtofgadhgljjhgaaGreatStoL
import Derived.Test.YtofgadhgljjhgaaGreatLawR
import Derived.Test.YtofgadhgljjhgaaGreatRd
namespace Go.cD
def A3 (n:UInt64):UInt64:=(n ^^^ dD n (UInt64.toNat 29))*11400714819323198485 ^^^ dD ((n ^^^ dD n (UInt64.toNat 29))*11400714819323198485) (UInt64.toNat 32)
noncomputable def pH (a b c d:UInt64)(T:Nat)(t:Nat)(key:UInt64):Nat:=(A3 (key*(ti (if t=0 then a else c) (UInt64.toNat 1) ||| 1)+(if t=0 then b else d)) &&& cI (al ((T:Int)-1))).toNat
end Go.cD
namespace Go.Proofs.Tryz
open Go Go.cD Go.RowKit
set_option maxRecDepth 8000
theorem L2 {a b c d:UInt64}{T t:Nat}{key:UInt64}(aa:1<=T)(ad:T<=1000):pH a b c d T t key<T:=by
 unfold pH
 rw[UInt64.toNat_and,bf (by omega) (by omega),show(T:Int)-1=((T-1:Nat):Int) by omega,jk (by omega),UInt64.toNat_ofNat']
 refine Nat.lt_of_le_of_lt Nat.and_le_right ?_
 omega
theorem afN {k:Nat}(ag:k<=3):al (nV BinOp.and IntKind.i64 ((2 ^ k:Nat):Int) (al (((2 ^ k:Nat):Int)-1)))=0:=by
 have rp:1<=2 ^ k:=Nat.one_le_two_pow
 have rq:2 ^ k<=2 ^ 3:=Nat.pow_le_pow_right (by decide) ag
 rw[bf (n:=((2 ^ k:Nat):Int)-1) (by omega) (by omega)]
 have h0:nV BinOp.and IntKind.i64 ((2 ^ k:Nat):Int) (((2 ^ k:Nat):Int)-1)=0:=by
  have:k=0∨k=1∨k=2∨k=3:=by omega
  rcases this with rfl|rfl|rfl|rfl<;>decide
 rw[h0]
 exact bf (by decide) (by decide)
theorem afO {k:Nat}(ag:k<=3)(a b c d:UInt64){t:Nat}(bw:t<2)(key:UInt64):eW prog 90 [.agg #[ab a,ab b,ab c,ab d],U t,ab key,U ((2 ^ k:Nat):Int)] (U (pH a b c d (2 ^ k) t key:Nat)):=by
 intro h
 have rp:1<=2 ^ k:=Nat.one_le_two_pow
 have rq:2 ^ k<=2 ^ 3:=Nat.pow_le_pow_right (by decide) ag
 have lV:=L2 (a:=a) (b:=b) (c:=c) (d:=d) (t:=t) (key:=key) rp (by omega)
 refine afP _ _ _ _ _ _ _ ?_
 unfold Ts
 refine bM λae aa f1 aF aE=>bM λay ad f2 a8 aC=>bM λaN an f3 b0 aI=>?_
 have mG:=aI.get (aC.get aF)
 have rr:=aI.get a8
 refine⟨_,az b0 rfl,bS (decide_eq_false (by omega)) ⟨_,az b0 rfl,bS (show decide ((1024:Int)<((2 ^ k:Nat):Int))=false from decide_eq_false (by omega)) ⟨_,az b0 rfl,_,az b0 rfl,bS ?_ ?_⟩⟩⟩
 .show decide (0<al (nV BinOp.and IntKind.i64 ((2 ^ k:Nat):Int) (al (((2 ^ k:Nat):Int)-1))))=false
  rw[afN ag];rfl
 have Tt:∀x y:UInt64,ao 119 [ab x,ab y,bg ⟨ay,0⟩,bg ⟨aN,0⟩] an λv g=>v=U (al ((A3 (key*(ti x (UInt64.toNat 1) ||| 1)+y) &&& cI (al (((2 ^ k:Nat):Int)-1))).toNat:Int))/\g=an:=λx y=>by
  refine afQ _ _ _ _ ?_
  unfold Tu
  refine⟨_,az rr rfl,_,az b0 rfl,?_⟩
  refine afR _ ?_
  unfold Tv
  exact⟨_,rfl,⟨az b0 rfl,trivial⟩,rfl,rfl⟩
 have mi:bL h an:=(aE.trans aC).trans aI
 have:t=0∨t=1:=by omega
 rcases this with rfl|rfl
 .refine dg rfl ⟨_,az mG rfl,_,az mG rfl,(Tt a b).mono ?_⟩
  rintro _ _ ⟨rfl,rfl⟩
  refine⟨_,rfl,?_,mi⟩
  rw[bf (by omega) (by have:pH a b c d (2 ^ k) 0 key<2 ^ k:=lV;unfold pH at this;rw[if_pos rfl,if_pos rfl] at this;omega)]
  rfl
 .refine bS rfl (dg rfl ⟨_,az mG rfl,_,az mG rfl,(Tt c d).mono ?_⟩)
  rintro _ _ ⟨rfl,rfl⟩
  refine⟨_,rfl,?_,mi⟩
  rw[bf (by omega) (by have:pH a b c d (2 ^ k) 1 key<2 ^ k:=lV;unfold pH at this;rw[if_neg (by decide),if_neg (by decide)] at this;omega)]
  rfl
theorem Tw (d:c0):eW prog 45 [ea d] (.tuple #[.agg #[ab (m3 d).1,ab (m3 d).2],.bool (decide (d[0]=1))]):=by
 intro h
 refine afS _ ?_
 unfold Tx
 refine bM λae aa f1 aF aE=>bM λay ad f2 a8 aC=>?_
 have hQ:=aC.get aF
 have cZ:ae≠ay:=λe=>by rw[<-e,aF] at f2;cases f2
 refine⟨Int.NonNeg.mk _,Int.NonNeg.mk _,_,fb hQ (i:=1) (by decide),Int.NonNeg.mk _,Int.NonNeg.mk _,_,fb hQ (i:=2) (by decide),Int.NonNeg.mk _,Int.NonNeg.mk _,_,fb hQ (i:=0) (by decide),?_⟩
 refine jl (aE.trans aC) (aE.free f2) a8 rfl λan aI b0 c7=>⟨⟨?_,trivial⟩,_,az b0 rfl,_,az b0 rfl,rfl,aI⟩
 exact fb ((c7 ae cZ).trans hQ) (i:=0) (by decide)
theorem Ty (e:gr):eW prog 51 [.agg #[ab e.1,ab e.2]] (ea (fL e)):=by
 intro h
 refine afT _ _ ?_
 unfold Tz
 refine bM λae aa f1 aF aE=>bM λay ad f2 a8 aC=>?_
 have hQ:=aC.get aF
 refine⟨_,az hQ rfl,_,az hQ rfl,jl (aE.trans aC) (aE.free f2) a8 rfl λan aI b0 _=>⟨fL e,?_,rfl,aI⟩⟩
 have:an ay=some (.cells (af.cells (.ws 8 (fL e))).toArray 100 (0,0)):=by rw[b0];rfl
 exact dv this
theorem afU (c:cv){k:Nat}(ag:k<12)(n:UInt64):eW prog 61 [ea c,U k,ab n] (ab (mask (c[k]==n))):=by
 intro h
 refine afV _ _ _ ?_
 unfold TA
 refine bM λae aa f1 aF aE=>bS (decide_eq_false (by omega)) (bS (show decide ((12:Int)<=(k:Int))=false from decide_eq_false (by omega)) ⟨by omega,by omega,c[k],?_,?_⟩)
 .rw[show 0+Int.toNat (k:Int)*1=k by simp];exact fb aF ag
 .exact(L3 _ _).to λg aC=>⟨_,rfl,rfl,aE.trans aC⟩
theorem afW (c d:Bool):mask c &&& ~~~(mask d)=mask (c&&!d):=by cases c<;>cases d<;>decide
theorem afX (c d:Bool):mask c ||| mask d=mask (c||d):=by cases c<;>cases d<;>decide
theorem A4 (p:Nat->Bool)(m:Nat):gu p (m+1)=match gu p m with|some i=>some i|none=>if p m then some m else none:=rfl
def kq (o:Option Nat):UInt64:=match o with|some i=>UInt64.ofNat i|none=>0
def tj (f:Nat->cv)(o:Option Nat):cv:=match o with|some i=>f i|none=>e6
section
variable {T:TypeId} {m:jw} {R:dF} {a7:List de} {es:ar} {h:ak}
theorem afY (M:cV T m R a7 es h){r:Nat}(aP:r<m.eX){key:Nat}(ag:key<12)(n:UInt64)(aT:a7.length<4000000000000) :
 ao 47 [bg ⟨m.b,0⟩,U r,U key,ab n] h λv ah=>∃aW,v= .tuple #[ab (kq (gu (λi=>(R r i)[key]==n) (m.cf r))),ea (tj (R r) (gu (λi=>(R r i)[key]==n) (m.cf r))),ab (mask (gu (λi=>(R r i)[key]==n) (m.cf r)).isSome)]/\cV T m R (a7++reads r (m.cf r)) aW ah/\bT (bF m es) h (bF m aW) ah:=by
 have oD:=M.cf r aP
 refine afZ _ _ _ _ ?_
 unfold TB
 refine bM λae aa f1 aF aE=>?_
 have M2:=M.bD aE
 refine(ta M2 aP).mono ?_
 rintro _ ad ⟨rfl,rfl⟩
 generalize aS:(λi=>(R r i)[key]==n)=p at *
 refine⟨_,rfl,λq1 aA aL bq bz aJ b8 aO bm g k=>q1=⟨m.b,0⟩/\aA=r/\aL=key/\n=bq/\aJ=⟨ae,0⟩/\aO=(m.cf r:Nat)/\∃i aW,bm=(i:Nat)/\i<=m.cf r/\k=m.cf r-i/\bz=kq (gu p i)/\b8=mask (gu p i).isSome/\cV T m R (a7++reads r i) aW g/\bT (bF m es) h (bF m aW) g/\¬bF m aW ae /\
  g ae=some (.cells (af.cells (.ws 12 (tj (R r) (gu p i)))).toArray 56 (0,0)),
  ⟨m.cf r,rfl,rfl,rfl,rfl,rfl,rfl,0,es,rfl,by omega,rfl,rfl,rfl,by simpa [reads] using M2,hF aE _,M.out f1,aF⟩,?_⟩
 rintro q1 aA aL bq bz aJ b8 aO bm g k ⟨rfl,rfl,rfl,rfl,rfl,rfl,i,aW,rfl,hi,rfl,rfl,rfl,gk,fS,e1,g1⟩
 have qv:=wG r i
 refine cd (λca=>?_) λdx=>?_
 .have b5:i<m.cf r:=by omega
  refine(uK gk aP b5 (by rw[List.length_append,qv];omega)).mono ?_
  rintro _ g3 ⟨gQ,rfl,gj,v3⟩
  have lv:=fS.trans v3
  have mj:=v3.get g1 e1
  have nz:=v3.out (by rw[g1];simp) e1
  refine⟨_,rfl,bM λay g4 f4 b1 bh=>?_⟩
  have hZ:h ay=none:=(lv.2.2 ay f4)
  have cA:ae≠ay:=λe=>by rw[<-e,mj] at f4;cases f4
  refine fB (n:=12) (lv.more bh) hZ b1 rfl λg5 v5 cy cm=>⟨_,dv cy,?_⟩
  have ij:cV T m R (a7++reads r i++[⟨r,i,false⟩]) gQ g5:=(gj.bD bh).move λy aB=>cm y λe=>gj.out f4 (e▸aB)
  have pI:g5 ae=_:=(cm ae cA).trans (bh.get mj)
  refine(afU _ ag n).to λg6 ch=>⟨_,rfl,?_⟩
  have tk:((R r i)[key]==n)=p i:=by rw[<-aS]
  rw[tk,afW]
  refine(TC _ _ _).to λg7 c9=>⟨_,rfl,_,dv (c9.get (ch.get cy)),_,dv (c9.get (ch.get pI)),?_⟩
  refine(L4 _ _ _).to λg8 eN=>⟨_,rfl,?_⟩
  have mM:=(ch.trans c9).trans eN
  refine fB (n:=12) (v5.more mM) f1 (mM.get pI) (by simp[af.cells]) λg9 v9 gd eO=>⟨m.cf r-(i+1),by omega,rfl,rfl,rfl,rfl,rfl,rfl,i+1,gQ,bf (by omega) (by omega),by omega,rfl,?_,?_,?_,v9,nz,?_⟩
  .rw[jk (by omega),A4]
   cases gu p i with
   | some j=>simp[kq]
   | none=>cases p i<;>simp[kq]
  .rw[afX,A4]
   cases gu p i with
   | some j=>simp
   | none=>cases p i<;>simp
  .rw[HE,<-List.append_assoc]
   exact(ij.bD mM).move λy aB=>eO y λe=>nz (e▸aB)
  .rw[gd,A4]
   cases gu p i with
   | some j=>simp[tj]
   | none=>cases p i<;>simp[tj]
 .have:i=m.cf r:=by omega
  subst this
  refine⟨_,dv g1,fB (n:=12) fS f1 g1 (by simp[af.cells]) λg5 v5 cy cm=>⟨_,dv cy,aW,rfl,gk.move λy aB=>cm y λe=>e1 (e▸aB),v5⟩⟩
def af0 (p:Nat->Bool):Nat->Nat
 | 0=>0
 | m+1=>af0 p m+if p m then 1 else 0
end
end Go.Proofs.Tryz
namespace Go.cD
open Go Go.RowKit
structure ko where
 cz:Nat
 a:UInt64
 b:UInt64
 c:UInt64
 d:UInt64
end Go.cD
namespace Go.Proofs.Tryz
open Go Go.cD Go.RowKit
set_option maxRecDepth 8000
def HF (B:jy)(X:ek)(x:ko):Array Value:=#[bg ⟨B.cr,0⟩,bg ⟨B.m.b,0⟩,U 0,U X.T,U X.K,ab x.a,ab x.b,ab x.c,ab x.d]
structure kR (G:cG)(B:jy)(X:ek)(x:ko):Prop where
 c:pF G X
 st:L5 G B
 k:∃k,k<=3/\X.T=2 ^ k
 pl:∀t key,X.pl t key=pH x.a x.b x.c x.d X.T t key
 eX:0<B.m.eX
 cf:B.m.cf 0=X.sp
 K:X.K<=16
def wH (l:List (Nat×Nat)):List Int:=l.map λy=>(y.1:Int)
inductive c1 where
 | nil
 | ac (l:c1)
 | rd (l:c1)
 | wr (l:c1)
def c1.n:c1->Nat
 | .nil=>0
 | .ac l=>l.n+1
 | .rd l=>l.n+1
 | .wr l=>l.n+1
def c1.a:c1->Nat
 | .nil=>0
 | .ac l=>l.a+1
 | .rd l=>l.a
 | .wr l=>l.a
def c1.TD (l:c1):Nat->c1
 | 0=>l
 | n+1=> .ac (l.TD n)
instance:HAdd c1 Nat c1:=⟨c1.TD⟩
theorem c1.iT (l:c1):∀i:Nat,(l+i).n=l.n+i
 | 0=>rfl
 | i+1=>by have:=c1.iT l i;show(l+i).n+1=_;omega
def oE (G:cG)(sp:Nat)(ls:List Int):c1->List de
 | .nil=>[]
 | .ac l=>oE G sp ls l++qw G.m G.s G.t G.L G.f (ls.drop (G.L*l.a))
 | .rd l=>oE G sp ls l++reads ((0:Nat):Int) sp
 | .wr l=>oE G sp ls l++writes ((0:Nat):Int) sp
theorem DM {G:cG}{sp:Nat}{ls DN:List Int}:∀(l:c1),G.L*l.a<=ls.length->oE G sp (ls++DN) l=oE G sp ls l
 | .nil,_=>rfl
 | .rd l,h=>by unfold oE;rw[DM l h]
 | .wr l,h=>by unfold oE;rw[DM l h]
 | .ac l,h=>by
  have e:G.L*(c1.ac l).a=G.L*l.a+G.L:=by show G.L*(l.a+1)=_;rw[Nat.mul_succ]
  rw[e] at h
  unfold oE
  rw[DM l (by omega),List.drop_append_of_le_length (by omega),af1 (by rw[List.length_drop];omega)]
theorem DO {G:cG}(o:G.da){sp:Nat}(ix:sp<=1000)(ls:List Int):∀l:c1,(oE G sp ls l).length<=5000000*l.n
 | .nil=>Nat.zero_le _
 | .ac l=>by
  have h:=DO o ix ls l
  have aT:=af2 o.st (G.f:Int) (ls.drop (G.L*l.a))
  show(oE G sp ls l++_).length<=5000000*(l.n+1)
  rw[List.length_append];omega
 | .rd l=>by
  have h:=DO o ix ls l
  have aT:=wG ((0:Nat):Int) sp
  show(oE G sp ls l++_).length<=5000000*(l.n+1)
  rw[List.length_append];omega
 | .wr l=>by
  have h:=DO o ix ls l
  have aT:=ru ((0:Nat):Int) sp
  show(oE G sp ls l++_).length<=5000000*(l.n+1)
  rw[List.length_append];omega
structure fX (G:cG)(ws:List UInt64)(B:jy)(X:ek)(x:ko)(a:Nat)(e:c1)(S:cU)(a7:List de)(es gs:ar)(h:ak):Prop where
 r:hH G ws B S a7 es gs h
 p:h3 G (λp=>ws.getD p 0) a S
 oF:a7=oE G X.sp (wH S.gone) e
 oG:e.a=a
 cp:h x.cz=some (.cells (HF B X x) 103 (0,0))
 jA:¬cH G B es gs x.cz
section
variable {G:cG} {ws:List UInt64} {B:jy} {X:ek} {x:ko} {a:Nat} {e:c1} {S:cU} {a7:List de} {es gs:ar} {h:ak}
theorem fX.same (R:fX G ws B X x a e S a7 es gs h){ah:ak}(aU:∀y,cH G B es gs y∨y=x.cz->ah y=h y):fX G ws B X x a e S a7 es gs ah :=
 ⟨R.r.same λy aB=>aU y (.inl aB),R.p,R.oF,R.oG,(aU _ (.inr rfl)).trans R.cp,R.jA⟩
theorem fX.dn (R:fX G ws B X x a e S a7 es gs h)(F:kR G B X x){y:Nat}(aB:cH G B es gs y∨y=x.cz):h y≠none:=by
 rcases aB with aB|rfl
 .exact R.r.ml F.c.o aB
 .rw[R.cp];simp
theorem fX.bD (R:fX G ws B X x a e S a7 es gs h)(F:kR G B X x){ah:ak}(k:bL h ah):fX G ws B X x a e S a7 es gs ah:=R.same λy aB=>k y (R.dn F aB)
theorem fX.loc (R:fX G ws B X x a e S a7 es gs h)(F:kR G B X x){b:Nat}{aa ad:ak}(f:h b=none)(k:bL h aa)(cm:∀y,y≠b->ad y=aa y):fX G ws B X x a e S a7 es gs ad :=
 R.same λy aB=>by rw[cm y λe=>R.dn F aB (e▸f),k y (R.dn F aB)]
theorem fX.el (R:fX G ws B X x a e S a7 es gs h)(F:kR G B X x):a7.length<=5000000*e.n:=by rw[R.oF];exact DO F.c.o F.c.sp _ _
theorem A5 (F:kR G B X x)(R:fX G ws B X x a e S a7 es gs h)(bO:a<=10000)(he:e.n<=10000){op:fg}{k:Int}{d:c0}(fY:yG op k 0 d)(ag:k=0∨k=1∨k=3){y:Nat}(aB:y<2*X.T) :
 ao 43 [bg ⟨B.cr,0⟩,U k,ab (UInt64.ofNat y),ea d] h λr ah=>∃b_ aW cN,r= .tuple #[ea (c3 G (λp=>ws.getD p 0) op y S).2.1,.bool (c3 G (λp=>ws.getD p 0) op y S).2.2]/\fX G ws B X x (a+1) (e+1) (c3 G (λp=>ws.getD p 0) op y S).1 b_ aW cN ah/\bT (cH G B es gs) h (cH G B aW cN) ah:=by
 have o:=F.c.o
 have dY:=o.L
 have aa:2*G.L*a<=2*4*10000:=Nat.mul_le_mul (by omega) bO
 have ad:G.L*a<=4*10000:=Nat.mul_le_mul (by omega) bO
 have hu:=R.p.us
 have c_:=R.p.oy
 have yH:=R.el F
 have ai:y<2 ^ G.m:=by rw[F.c.m];exact aB
 refine(af3 o F.st R.r fY ag ai R.p.eJ R.p.us R.p.oy (by omega) (by omega) (by omega)).mono ?_
 rintro _ g ⟨b_,aW,cN,rfl,dm,cB,m5⟩
 refine⟨b_,aW,cN,rfl,⟨dm,R.p.acc o (by omega) ai,?_,congrArg (·+1) R.oG,cB.get R.cp R.jA,cB.out (by rw[R.cp];simp) R.jA⟩,cB⟩
 obtain⟨l,aT⟩:=TE (G:=G) (w:=λp=>ws.getD p 0) (op:=op) (x:=y) (S:=S)
 have DP:=R.oG
 rw[m5,R.oF,aT]
 show _=oE G X.sp (wH (S.gone++l)) e++qw G.m G.s G.t G.L G.f ((wH (S.gone++l)).drop (G.L*e.a))
 unfold wH
 rw[List.map_append,DM e (by rw[List.length_map,DP,c_];exact Nat.le_refl _),DP,<-c_,List.drop_left]
 congr 2
 rw[<-List.map_append,<-List.map_drop,List.drop_left]
theorem TF (F:kR G B X x)(R:fX G ws B X x a e S a7 es gs h)(he:e.n<=10000)(at_:UInt64)(c:cv)(d:Bool) :
 ao 52 [bg ⟨B.m.b,0⟩,U 0,ab at_,ea c,ab (mask d)] h λv ah=>∃b_ aW,v= .tuple #[]/\fX G ws B X x a e.wr (if at_.toNat<X.sp/\d=true then hO S (0,at_.toNat) c else S) b_ aW gs ah/\bT (cH G B es gs) h (cH G B aW gs) ah:=by
 have yH:=R.el F
 have ix:=F.c.sp
 refine(TG R.r.mem F.eX at_ c d (by omega)).mono ?_
 rintro _ g ⟨aW,rfl,M,v⟩
 obtain⟨c4,eY⟩:=R.r.uL F.c.o M v
 rw[F.cf] at c4
 have uM:=ru 0 (B.m.cf 0)
 refine⟨a7++writes ((0:Nat):Int) X.sp,aW,rfl,⟨?_,?_,?_,R.oG,eY.get R.cp R.jA,eY.out (by rw[R.cp];simp) R.jA⟩,eY⟩
 .by_cases aQ:at_.toNat<X.sp/\d=true
  .rw[if_pos aQ] at c4 ⊢;exact c4
  .rw[if_neg aQ] at c4 ⊢;exact c4
 .by_cases aQ:at_.toNat<X.sp/\d=true
  .rw[if_pos aQ];exact R.p.hO F.c.f
  .rw[if_neg aQ];exact R.p
 .rw[R.oF]
  by_cases aQ:at_.toNat<X.sp/\d=true
  .rw[if_pos aQ];rfl
  .rw[if_neg aQ];rfl
theorem TH (F:kR G B X x)(R:fX G ws B X x a e S a7 es gs h)(he:e.n<=10000){key:Nat}(ag:key<12)(n:UInt64) :
 ao 47 [bg ⟨B.m.b,0⟩,U 0,U key,ab n] h λv ah=>∃b_ aW,v= .tuple #[ab (kq (gu (λi=>(S.R 0 i)[key]==n) X.sp)),ea (tj (S.R 0) (gu (λi=>(S.R 0 i)[key]==n) X.sp)),ab (mask (gu (λi=>(S.R 0 i)[key]==n) X.sp).isSome)]/\fX G ws B X x a e.rd S b_ aW gs ah/\bT (cH G B es gs) h (cH G B aW gs) ah:=by
 have yH:=R.el F
 have ix:=F.c.sp
 refine(afY R.r.mem F.eX ag n (by omega)).mono ?_
 rintro _ g ⟨aW,rfl,M,v⟩
 obtain⟨c4,eY⟩:=R.r.uL F.c.o M v
 rw[F.cf] at c4 ⊢
 exact⟨_,aW,rfl,⟨c4,R.p,by rw[R.oF];rfl,R.oG,eY.get R.cp R.jA,eY.out (by rw[R.cp];simp) R.jA⟩,eY⟩
theorem TI (F:kR G B X x)(cp:h x.cz=some (.cells (HF B X x) 103 (0,0))){t:Nat}(bw:t<2)(key:UInt64):ao 46 [bg ⟨x.cz,0⟩,U t,ab key] h λv ah=>v=ab (UInt64.ofNat (X.pl t key))/\bL h ah:=by
 obtain⟨k,ag,fW⟩:=F.k
 refine af4 _ _ _ ?_
 unfold TJ
 refine⟨_,az cp rfl,_,az cp rfl,_,az cp rfl,_,az cp rfl,_,az cp rfl,?_⟩
 have aZ:=afO ag x.a x.b x.c x.d bw key
 rw[<-fW] at aZ
 refine aZ.to λg aE=>⟨_,rfl,?_,aE⟩
 have ca:=F.c.fv.pl t key
 have ayT:=F.c.T
 rw[F.pl] at ca ⊢
 rw[jk (by omega)]
theorem HG (F:kR G B X x)(cp:h x.cz=some (.cells (HF B X x) 103 (0,0))){t:Nat}(bw:t<2)(key:UInt64):ao 44 [bg ⟨x.cz,0⟩,U t,ab key] h λv ah=>v=ab (UInt64.ofNat (X.bl t key))/\bL h ah:=by
 refine af5 _ _ _ ?_
 unfold TK
 refine⟨_,az cp rfl,(TI F cp bw key).mono ?_⟩
 rintro _ g ⟨rfl,aE⟩
 refine⟨_,rfl,⟨az (aE.get cp) rfl,trivial⟩,?_,aE⟩
 have fW:=F.c.T
 have ca:=F.c.fv.pl t key
 have hm:(t:Int)*(X.T:Int)=((t*X.T:Nat):Int):=by rw[Int.natCast_mul]
 have aa:t*X.T<=1*1000:=Nat.mul_le_mul (by omega) fW
 show ab (cI (al ((t:Int)*(X.T:Int)))+UInt64.ofNat (X.pl t key))=_
 rw[hm,bf (by omega) (by omega),jk (by omega)]
 congr 1
 unfold ek.bl
 apply UInt64.toNat_inj.1
 rw[UInt64.toNat_add,UInt64.toNat_ofNat',UInt64.toNat_ofNat',UInt64.toNat_ofNat']
 omega
theorem L6 (F:kR G B X x)(R:fX G ws B X x a e S a7 es gs h)(bO:a<=10000)(he:e.n<=10000) :
 ao 50 [bg ⟨x.cz,0⟩] h λv ah=>∃b_ aW cN,v= .tuple #[]/\fX G ws B X x (a+1) (e+1) (kC G (λp=>ws.getD p 0) S) b_ aW cN ah/\bT (cH G B es gs) h (cH G B aW cN) ah:=by
 refine af6 _ ?_
 unfold TL
 have fW:=F.c.fv.T
 refine⟨some ⟨B.cr,0⟩,az R.cp rfl,?_⟩
 refine(A5 F R bO he (op:= .look) (k:=0) (d:=jB) rfl (.inl rfl) (y:=0) (by omega)).mono ?_
 rintro _ g ⟨b_,aW,cN,rfl,dm,v⟩
 exact⟨_,_,rfl,b_,aW,cN,rfl,dm,v⟩
def TM (G:cG)(w:Nat->UInt64)(X:ek)(key:UInt64)(S:cU)(t:Nat):cU×c0×Bool:=c3 G w .look (X.bl t key) S
def uN (G:cG)(w:Nat->UInt64)(X:ek)(key:UInt64)(S:cU):Nat->cU
 | 0=>S
 | t+1=>(TM G w X key (uN G w X key S t) t).1
def uO (X:ek)(key:UInt64)(t:Nat)(d:c0)(s:rk):rk:=if s.1= -1 then (match kn key (hW d) with|some c=>((t:Int),UInt64.ofNat (X.pl t key),c)|none=>s) else s
def uP (G:cG)(w:Nat->UInt64)(X:ek)(key:UInt64)(S:cU):Nat->rk
 | 0=>(-1,0,0)
 | t+1=>uO X key t (TM G w X key (uN G w X key S t) t).2.1 (uP G w X key S t)
def uQ (X:ek)(key:UInt64)(f:Nat->cv)(s:rk):rk:=if s.1= -1 then (match gu (λi=>(f i)[1]==key+1) X.sp with|some i=>(2,UInt64.ofNat i,(f i)[2])|none=>s) else s
theorem find_eq {w:Nat->UInt64}(key:UInt64)(S:cU):gK G w X key S=(uN G w X key S 2,uQ X key (S.R 0) (uP G w X key S 2)):=by
 show((c3 G w .look (X.bl 1 key) (c3 G w .look (X.bl 0 key) S).1).1,X.spot key (hW (c3 G w .look (X.bl 0 key) S).2.1) (hW (c3 G w .look (X.bl 1 key) (c3 G w .look (X.bl 0 key) S).1).2.1) (S.R 0))=(_,uQ X key (S.R 0) (uO X key 1 (c3 G w .look (X.bl 1 key) (c3 G w .look (X.bl 0 key) S).1).2.1 (uO X key 0 (c3 G w .look (X.bl 0 key) S).2.1 (-1,0,0))))
 congr 1
 unfold ek.spot uO uQ
 cases kn key (hW (c3 G w .look (X.bl 0 key) S).2.1) with
 | some c=>rfl
 | none =>
  cases kn key (hW (c3 G w .look (X.bl 1 key) (c3 G w .look (X.bl 0 key) S).1).2.1) with
  | some c=>rfl
  | none=>rfl
theorem L7 {key:UInt64}{t:Nat}{d:c0}{s:rk}(h:s.1= -1->kn key (hW d)=none):uO X key t d s=s:=by
 unfold uO
 by_cases c:s.1= -1
 .rw[if_pos c,h c]
 .rw[if_neg c]
theorem af7 {key:UInt64}{t:Nat}{d:c0}{s:rk}(h0:d[0]=1)(aa:(m3 d).1=key)(ad:s.1= -1):uO X key t d s=((t:Int),UInt64.ofNat (X.pl t key),(m3 d).2):=by
 unfold uO
 rw[if_pos ad]
 have:kn key (hW d)=some (m3 d).2:=by unfold hW kn;rw[if_pos h0];simp only;rw[if_pos aa]
 rw[this]
theorem L8 {pG:cU}{b_:List de}{aW cN:ar}{dT:Nat}{b4:c1}{g:ak}(R:fX G ws B X x dT b4 pG b_ aW cN g)(v:bT (cH G B es gs) h (cH G B aW cN) g){ae ay:Nat}(pJ:h ae=none)(e1:¬cH G B aW cN ae)(df:ae≠x.cz){T1 uJ:TypeId}(aF:g ae=some (.cells #[U 0,.int .u64 0,.int .u64 0] T1 (0,0))){s:rk}(a8:g ay=some (.cells #[U s.1,ab s.2.1,ab s.2.2] uJ (0,0)))
 {K:Value->ak->Prop} (ag:∀bo,fX G ws B X x dT b4 pG b_ aW cN bo->bT (cH G B es gs) h (cH G B aW cN) bo->K (.agg #[U s.1,ab s.2.1,ab s.2.2]) bo) :
 ∃bu:Int,br g ay 0=some (U bu)/\∃jU:UInt64,br g ay (0+1)=some (ab jU)/\∃jC:UInt64,br g ay (0+1+1)=some (ab jC)/\aX g ⟨ae,0⟩ [U bu,ab jU,ab jC] λdy=>∃bt:Int,br dy ae 0=some (U bt)/\∃jT:UInt64,br dy ae (0+1)=some (ab jT)/\∃lx:UInt64,br dy ae (0+1+1)=some (ab lx)/\K (.agg #[U bt,ab jT,ab lx]) dy:=by
 refine⟨_,az a8 rfl,_,az a8 rfl,_,az a8 rfl,lu v pJ aF rfl λbo fZ b4 iE=>⟨_,az b4 rfl,_,az b4 rfl,_,az b4 rfl,ag bo (R.same λy aB=>iE y λe=>?_) fZ⟩⟩
 rcases aB with aB|aB
 .exact e1 (e▸aB)
 .exact df (e.symm.trans aB)
theorem LY (F:kR G B X x)(R:fX G ws B X x a e S a7 es gs h)(bO:a<=9000)(he:e.n<=9000)(key:UInt64) :
 ao 12 [bg ⟨x.cz,0⟩,ab key] h λv ah=>∃b_ aW cN,v= .agg #[U (gK G (λp=>ws.getD p 0) X key S).2.1,ab (gK G (λp=>ws.getD p 0) X key S).2.2.1,ab (gK G (λp=>ws.getD p 0) X key S).2.2.2]/\fX G ws B X x (a+2) (e+2).rd (gK G (λp=>ws.getD p 0) X key S).1 b_ aW cN ah/\bT (cH G B es gs) h (cH G B aW cN) ah:=by
 suffices H:∀Q:Value->ak->Prop,(∀v ah,(∃b_ aW cN,v= .agg #[U (gK G (λp=>ws.getD p 0) X key S).2.1,ab (gK G (λp=>ws.getD p 0) X key S).2.2.1,ab (gK G (λp=>ws.getD p 0) X key S).2.2.2]/\fX G ws B X x (a+2) (e+2).rd (gK G (λp=>ws.getD p 0) X key S).1 b_ aW cN ah/\bT (cH G B es gs) h (cH G B aW cN) ah)->Q v ah)->ao 12 [bg ⟨x.cz,0⟩,ab key] h Q from H _ λ_ _ h=>h
 intro Q fI
 rw[find_eq] at fI
 refine lW _ _ ?_
 unfold TN
 refine bM λae aa f1 aF aE=>bM λay ad f2 a8 aC=>?_
 have f20:=aE.free f2
 have cZ:ae≠ay:=λe=>by rw[<-e,aF] at f2;cases f2
 refine jl (aE.trans aC) f20 a8 rfl λan aI b0 c7=>?_
 have nA:=R.bD F aI
 have mG:an ae=_:=(c7 ae cZ).trans (aC.get aF)
 have e1:¬cH G B es gs ae:=R.r.out F.c.o f1
 have kp:¬cH G B es gs ay:=R.r.out F.c.o f20
 refine⟨λq1 bq aJ bd aw g bP=>(⟨x.cz,0⟩:aD)=q1/\key=bq/\(⟨ae,0⟩:aD)=aJ/\(⟨ay,0⟩:aD)=bd/\∃(i:Nat) (b_:List de) (aW cN:ar),aw=i/\i<=2/\bP=2-i/\fX G ws B X x (a+i) (e+i) (uN G (λp=>ws.getD p 0) X key S i) b_ aW cN g/\bT (cH G B es gs) h (cH G B aW cN) g/\¬cH G B aW cN ae/\¬cH G B aW cN ay /\
  g ae=some (.cells #[U 0,.int .u64 0,.int .u64 0] 40 (0,0))/\g ay=some (.cells #[U (uP G (λp=>ws.getD p 0) X key S i).1,ab (uP G (λp=>ws.getD p 0) X key S i).2.1,ab (uP G (λp=>ws.getD p 0) X key S i).2.2] 40 (0,0)),
  ⟨2,rfl,rfl,rfl,rfl,0,a7,es,gs,rfl,by omega,rfl,nA,hF aI _,e1,kp,mG,b0⟩,?_⟩
 rintro q1 bq aJ bd aw g bP ⟨rfl,rfl,rfl,rfl,i,b_,aW,cN,rfl,hi,rfl,du,fS,DQ,DR,g1,g2⟩
 refine cd (λca=>?_) λdx=>?_
 .have b5:i<2:=by omega
  refine⟨some ⟨B.cr,0⟩,az du.cp rfl,(HG F du.cp b5 key).mono ?_⟩
  rintro _ g3 ⟨rfl,A6⟩
  have nA:=du.bD F A6
  refine⟨_,rfl,⟨az nA.cp rfl,trivial⟩,?_⟩
  refine(A5 F nA (by omega) (by rw[c1.iT];omega) (op:= .look) (k:=0) (d:=jB) rfl (.inl rfl) (y:=X.bl i key) (ek.lS F.c.fv b5 key)).mono ?_
  rintro _ g4 ⟨DS,mn,DT,rfl,kr,v4⟩
  have TO:=(fS.more A6).trans v4
  have L9:=v4.get (A6.get g1) DQ
  have TP:=v4.get (A6.get g2) DR
  have dd:=v4.out (by rw[A6.get g1];simp) DQ
  have fs:=v4.out (by rw[A6.get g2];simp) DR
  have HH:uP G (λp=>ws.getD p 0) X key S (i+1)=uO X key i (c3 G (λp=>ws.getD p 0) .look (X.bl i key) (uN G (λp=>ws.getD p 0) X key S i)).2.1 (uP G (λp=>ws.getD p 0) X key S i):=rfl
  have kr:fX G ws B X x (a+(i+1)) (e+(i+1)) (uN G (λp=>ws.getD p 0) X key S (i+1)) DS mn DT g4:=kr
  generalize (c3 G (λp=>ws.getD p 0) .look (X.bl i key) (uN G (λp=>ws.getD p 0) X key S i)).2.1=d at *
  generalize (c3 G (λp=>ws.getD p 0) .look (X.bl i key) (uN G (λp=>ws.getD p 0) X key S i)).2.2=pK at *
  generalize uP G (λp=>ws.getD p 0) X key S i=sp at *
  refine⟨_,_,rfl,bM λaN g5 f5 cy bE=>?_⟩
  have tl:h aN=none:=TO.2.2 aN f5
  have jm:=kr.bD F bE
  refine fB (n:=8) (TO.more bE) tl cy rfl λg6 v6 dE dZ=>⟨_,dv dE,?_⟩
  have cJ:ae≠aN:=λe=>by rw[<-e,L9] at f5;cases f5
  have fc:ay≠aN:=λe=>by rw[<-e,TP] at f5;cases f5
  have A7:g6 ae=_:=(dZ ae cJ).trans (bE.get L9)
  have yI:g6 ay=_:=(dZ ay fc).trans (bE.get TP)
  have lX:=kr.loc F f5 bE dZ
  refine(Tw d).to λg7 c9=>⟨_,_,_,rfl,bM λbJ g8 f8 fP eN=>?_⟩
  have sg:=c9.trans eN
  have fr:=v6.more sg
  have oH:h bJ=none:=v6.2.2 bJ (c9.free f8)
  refine lu fr oH fP rfl λg9 v9 gd eO=>?_
  have af8:ae≠bJ:=λe=>by rw[<-e,c9.get A7] at f8;cases f8
  have af9:ay≠bJ:=λe=>by rw[<-e,c9.get yI] at f8;cases f8
  have HI:g9 ae=_:=(eO ae af8).trans (sg.get A7)
  have DU:g9 ay=_:=(eO ay af9).trans (sg.get yI)
  have mN:=(lX.bD F c9).loc F f8 eN eO
  have ayU:g9 bJ=_:=gd
  have L_:ay≠x.cz:=λe=>by have:=R.cp;rw[<-e,f20] at this;cases this
  by_cases gG:d[0]=1
  .refine dg (decide_eq_true gG) ⟨_,az gd rfl,?_⟩
   by_cases aQ:(m3 d).1=key
   .refine dg (show decide ((m3 d).1=key)=true from decide_eq_true aQ) ⟨_,az DU rfl,?_⟩
    by_cases aY:sp.1= -1
    .refine dg (show decide (sp.1= -1)=true from decide_eq_true aY) ⟨_,az gd rfl,(TI F mN.cp b5 key).mono ?_⟩
     rintro _ qu ⟨rfl,fC⟩
     refine⟨_,rfl,⟨az (fC.get gd) rfl,trivial⟩,?_⟩
     refine lu (v9.more fC) f20 (fC.get DU) rfl λsh v11 nW hd=>⟨2-(i+1),by omega,rfl,rfl,rfl,rfl,i+1,DS,mn,DT,bf (by omega) (by omega),by omega,rfl,(mN.bD F fC).same λy aB=>hd y λe=>?_,v11,dd,fs,(hd ae cZ).trans (fC.get HI),?_⟩
     .rcases aB with aB|aB
      .exact fs (e▸aB)
      .exact L_ (e.symm.trans aB)
     .rw[nW,HH,af7 gG aQ aY]
    .exact bS (show decide (sp.1= -1)=false from decide_eq_false aY) ⟨2-(i+1),by omega,rfl,rfl,rfl,rfl,i+1,DS,mn,DT,bf (by omega) (by omega),by omega,rfl,mN,v9,dd,fs,HI,by rw[HH,L7 (λh=>absurd h aY)];exact DU⟩
   .have aH:kn key (hW d)=none:=by unfold hW kn;rw[if_pos gG];simp only;rw[if_neg aQ]
    exact bS (show decide ((m3 d).1=key)=false from decide_eq_false aQ) ⟨2-(i+1),by omega,rfl,rfl,rfl,rfl,i+1,DS,mn,DT,bf (by omega) (by omega),by omega,rfl,mN,v9,dd,fs,HI,by rw[HH,L7 (λ_=>aH)];exact DU⟩
  .have aH:kn key (hW d)=none:=by unfold hW;rw[if_neg gG];rfl
   exact bS (decide_eq_false gG) ⟨2-(i+1),by omega,rfl,rfl,rfl,rfl,i+1,DS,mn,DT,bf (by omega) (by omega),by omega,rfl,mN,v9,dd,fs,HI,by rw[HH,L7 (λ_=>aH)];exact DU⟩
 .have:i=2:=by omega
  subst this
  have Ma:ae≠x.cz:=λe=>by have:=R.cp;rw[<-e,f1] at this;cases this
  have L_:ay≠x.cz:=λe=>by have:=R.cp;rw[<-e,f20] at this;cases this
  have yJ:(uN G (λp=>ws.getD p 0) X key S 2).R 0=S.R 0:=(rm F.c.f _ _ _).trans (rm F.c.f _ _ _)
  generalize uP G (λp=>ws.getD p 0) X key S 2=sp at *
  refine⟨some ⟨B.m.b,0⟩,az du.cp rfl,_,az du.cp rfl,(TH F du (by rw[c1.iT];omega) (key:=1) (by decide) (key+1)).mono ?_⟩
  rintro _ g3 ⟨nX,gQ,rfl,af_,v3⟩
  rw[yJ]
  have lv:=fS.trans v3
  have mj:=v3.get g1 DQ
  have si:=v3.get g2 DR
  have cJ:=v3.out (by rw[g1];simp) DQ
  have fc:=v3.out (by rw[g2];simp) DR
  refine⟨_,_,_,rfl,bM λbZ g5 f5 cy bE=>?_⟩
  have tm:h bZ=none:=lv.2.2 bZ f5
  refine fB (n:=12) (lv.more bE) tm cy rfl λg6 v6 dE dZ=>?_
  have dV:ae≠bZ:=λe=>by rw[<-e,mj] at f5;cases f5
  have n25:ay≠bZ:=λe=>by rw[<-e,si] at f5;cases f5
  have A7:g6 ae=_:=(dZ ae dV).trans (bE.get mj)
  have yI:g6 ay=_:=(dZ ay n25).trans (bE.get si)
  have lX:=af_.loc F f5 bE dZ
  refine⟨_,az yI rfl,?_⟩
  by_cases aY:sp.1= -1
  .refine dg (decide_eq_true aY) ?_
   cases aU:gu (λi=>(S.R 0 i)[1]==key+1) X.sp with
   | some i =>
    have he:uQ X key (S.R 0) sp=((2,UInt64.ofNat i,(S.R 0 i)[2]):rk):=by unfold uQ;rw[if_pos aY,aU]
    rw[he] at fI
    rw[aU] at dE
    refine dg rfl ⟨Int.NonNeg.mk _,Int.NonNeg.mk _,_,fb dE (i:=2) (by decide),?_⟩
    refine lu v6 f20 yI rfl λg7 ed fo eK=>?_
    refine L8 (s:=((2:Int),UInt64.ofNat i,(S.R 0 i)[2])) (lX.same λy aB=>eK y λe=>?_) ed f1 cJ Ma ((eK ae cZ).trans A7) fo λbo dm fZ=>fI _ _ ⟨_,_,_,rfl,dm,fZ⟩
    rcases aB with aB|aB
    .exact fc (e▸aB)
    .exact L_ (e.symm.trans aB)
   | none =>
    have he:uQ X key (S.R 0) sp=sp:=by unfold uQ;rw[if_pos aY,aU]
    rw[he] at fI
    refine bS rfl ?_
    refine L8 (s:=sp) lX v6 f1 cJ Ma A7 yI λbo dm fZ=>fI _ _ ⟨_,_,_,rfl,dm,fZ⟩
  .have he:uQ X key (S.R 0) sp=sp:=by unfold uQ;rw[if_neg aY]
   rw[he] at fI
   refine bS (decide_eq_false aY) ?_
   refine L8 (s:=sp) lX v6 f1 cJ Ma A7 yI λbo dm fZ=>fI _ _ ⟨_,_,_,rfl,dm,fZ⟩
end
end Go.Proofs.Tryz
namespace Go.Proofs.Tryz
open Go Go.cD Go.RowKit
set_option maxRecDepth 8000
section
variable {G:cG} {ws:List UInt64} {B:jy} {X:ek} {x:ko} {a:Nat} {e:c1} {S:cU} {a7:List de} {es gs:ar} {h:ak}
theorem TQ (F:kR G B X x)(R:fX G ws B X x a e S a7 es gs h)(he:e.n<=10000){ae:Nat}{T1:TypeId}{t:Int}{at_ cell:UInt64}(aF:h ae=some (.cells #[U t,ab at_,ab cell] T1 (0,0)))(d:Bool){K:ak->Prop}
 (ag:∀b_ aW g,fX G ws B X x a e.wr (if at_.toNat<X.sp/\d=true then hO S (0,at_.toNat) e6 else S) b_ aW gs g->bT (cH G B es gs) h (cH G B aW gs) g->K g) :
 ∃(cb:Option aD),br h x.cz (0+1)=some (a1 cb)/\∃(aO:Int),br h x.cz (0+2)=some (U aO)/\∃(b8:UInt64),br h ae 1=some (ab b8)/\ao 52 [a1 cb,U aO,ab b8,ea e6,ab (mask d)] h λv4 aR=>v4= .tuple #[]/\K aR:=by
 refine⟨some ⟨B.m.b,0⟩,az R.cp rfl,_,az R.cp rfl,_,az aF rfl,(TF F R he at_ e6 d).mono ?_⟩
 rintro _ g ⟨b_,aW,rfl,dm,v⟩
 exact⟨rfl,ag b_ aW g dm v⟩
theorem aga (F:kR G B X x)(R:fX G ws B X x a e S a7 es gs h)(he:e.n<=10000){ae:Nat}{T1:TypeId}{t:Int}{at_ cell:UInt64}(aF:h ae=some (.cells #[U t,ab at_,ab cell] T1 (0,0)))(on:Bool){K:ak->Prop}
 (ag:∀b_ aW g,fX G ws B X x a e.wr (if on&&t==2&&decide (at_.toNat<X.sp) then hO S (0,at_.toNat) e6 else S) b_ aW gs g->bT (cH G B es gs) h (cH G B aW gs) g->K g) :
 aG on (∃(aL:Int),br h ae 0=some (U aL)/\aG (bif true then decide (aL=2) else false)
  (ao 54 [ab 0] h λv3 aK=>∃(bz:UInt64),v3=ab bz/\∃(cb:Option aD),br aK x.cz (0+1)=some (a1 cb)/\∃(aO:Int),br aK x.cz (0+2)=some (U aO)/\∃(b8:UInt64),br aK ae 1=some (ab b8)/\ao 52 [a1 cb,U aO,ab b8,ea e6,ab bz] aK λv4 aR=>v4= .tuple #[]/\K aR)
  (∃(cb:Option aD),br h x.cz (0+1)=some (a1 cb)/\∃(aO:Int),br h x.cz (0+2)=some (U aO)/\∃(b8:UInt64),br h ae 1=some (ab b8)/\ao 52 [a1 cb,U aO,ab b8,ea e6,ab 0] h λv4 aR=>v4= .tuple #[]/\K aR))
  (∃(cb:Option aD),br h x.cz (0+1)=some (a1 cb)/\∃(aO:Int),br h x.cz (0+2)=some (U aO)/\∃(b8:UInt64),br h ae 1=some (ab b8)/\ao 52 [a1 cb,U aO,ab b8,ea e6,ab 0] h λv4 aR=>v4= .tuple #[]/\K aR):=by
 have off:(on&&t==2&&decide (at_.toNat<X.sp))=false∨∃d:Bool,True:= .inr ⟨true,trivial⟩
 have no:(on&&t==2)=false->∃(cb:Option aD),br h x.cz (0+1)=some (a1 cb)/\∃(aO:Int),br h x.cz (0+2)=some (U aO)/\∃(b8:UInt64),br h ae 1=some (ab b8)/\ao 52 [a1 cb,U aO,ab b8,ea e6,ab 0] h λv4 aR=>v4= .tuple #[]/\K aR:=λaH=>by
  refine TQ F R he aF false λb_ aW g dm v=>ag b_ aW g ?_ v
  rw[aH,if_neg (by simp)]
  rw[if_neg (by simp)] at dm
  exact dm
 cases on with
 | false=>exact bS rfl (no rfl)
 | true =>
  refine dg rfl ⟨_,az aF rfl,?_⟩
  by_cases c:t=2
  .refine dg (show decide (t=2)=true from decide_eq_true c) ?_
   refine(Mb 0).to λg k=>⟨_,rfl,?_⟩
   refine TQ F (R.bD F k) he (k.get aF) ((0:UInt64)==0) λb_ aW bo dm v=>ag b_ aW bo ?_ ((hF k _).trans v)
   have h0:((0:UInt64)==0)=true:=rfl
   rw[h0] at dm
   by_cases aY:at_.toNat<X.sp
   .rw[if_pos (by simp[c,aY])]
    rw[if_pos ⟨aY,rfl⟩] at dm
    exact dm
   .rw[if_neg (by simp[aY])]
    rw[if_neg (λh=>aY h.1)] at dm
    exact dm
  .refine bS (show decide (t=2)=false from decide_eq_false c) (no (by simp[c]))
theorem Tr (F:kR G B X x)(R:fX G ws B X x a e S a7 es gs h)(bO:a<=9000)(he:e.n<=9000)(key:UInt64)(t:Int)(at_ cell:UInt64)(on:Bool) :
 ao 16 [bg ⟨x.cz,0⟩,ab key,.agg #[U t,ab at_,ab cell],.bool on] h λv ah=>∃b_ aW cN,v= .tuple #[]/\fX G ws B X x (a+1) (e+1).wr (mI G (λp=>ws.getD p 0) X key t at_ on S) b_ aW cN ah/\bT (cH G B es gs) h (cH G B aW cN) ah:=by
 suffices H:∀Q:Value->ak->Prop,(∀ah,(∃b_ aW cN,fX G ws B X x (a+1) (e+1).wr (mI G (λp=>ws.getD p 0) X key t at_ on S) b_ aW cN ah/\bT (cH G B es gs) h (cH G B aW cN) ah)->Q (.tuple #[]) ah)->ao 16 [bg ⟨x.cz,0⟩,ab key,.agg #[U t,ab at_,ab cell],.bool on] h Q from H _ λah ⟨b_,aW,cN,bR⟩=>⟨b_,aW,cN,rfl,bR⟩
 intro Q fI
 refine sj _ _ _ _ _ _ ?_
 unfold TR
 refine bM λae aa f1 aF aE=>?_
 have fz:=R.bD F aE
 have e1:¬cH G B es gs ae:=R.r.out F.c.o f1
 have DV:((on&&(t==0||t==1))=false)->∀K:Value->ak->Prop,(∀eL ds jc g2,fX G ws B X x (a+1) (e+1) (if on&&(t==0||t==1) then (c3 G (λp=>ws.getD p 0) .drop (X.bl t.toNat key) S).1 else kC G (λp=>ws.getD p 0) S) eL ds jc g2->bT (cH G B es gs) aa (cH G B ds jc) g2->K (.tuple #[]) g2)->ao 50 [bg ⟨x.cz,0⟩] aa K:=λaH K eM=>by
  refine(L6 F fz (by omega) (by omega)).mono ?_
  rintro _ g2 ⟨eL,ds,jc,rfl,c4,v2⟩
  refine eM eL ds jc g2 ?_ v2
  rw[aH,if_neg (by simp)];exact c4
 have tail:∀eL ds jc g2,fX G ws B X x (a+1) (e+1) (if on&&(t==0||t==1) then (c3 G (λp=>ws.getD p 0) .drop (X.bl t.toNat key) S).1 else kC G (λp=>ws.getD p 0) S) eL ds jc g2->bT (cH G B es gs) aa (cH G B ds jc) g2->_:=λeL ds jc g2 c4 v2=>aga (K:=λaR=>Q (.tuple #[]) aR) F c4 (by rw[c1.iT];omega) (v2.get aF e1) on λb_ aW g dm v=>fI g ⟨b_,aW,jc,dm,((hF aE _).trans v2).trans v⟩
 cases on with
 | false =>
  refine bS rfl (DV rfl _ λeL ds jc g2 c4 v2=>⟨rfl,tail eL ds jc g2 c4 v2⟩)
 | true =>
  refine dg rfl ⟨_,az aF rfl,?_⟩
  by_cases gG:t=0
  .subst gG
   refine dg rfl ⟨some ⟨B.cr,0⟩,az fz.cp rfl,_,az aF rfl,(HG F fz.cp (t:=0) (by decide) key).mono ?_⟩
   rintro _ g2 ⟨rfl,aC⟩
   refine⟨_,rfl,⟨az (aC.get fz.cp) rfl,trivial⟩,(A5 F (fz.bD F aC) (by omega) (by omega) (op:= .drop) (k:=3) (d:=jB) rfl (.inr (.inr rfl)) (ek.lS F.c.fv (by decide) key)).mono ?_⟩
   rintro _ g3 ⟨nX,gQ,Mc,rfl,nA,v3⟩
   exact⟨_,_,rfl,tail nX gQ Mc g3 nA ((hF aC _).trans v3)⟩
  .refine bS (decide_eq_false gG) ⟨_,az aF rfl,?_⟩
   by_cases aQ:t=1
   .subst aQ
    refine dg rfl ⟨some ⟨B.cr,0⟩,az fz.cp rfl,_,az aF rfl,(HG F fz.cp (t:=1) (by decide) key).mono ?_⟩
    rintro _ g2 ⟨rfl,aC⟩
    refine⟨_,rfl,⟨az (aC.get fz.cp) rfl,trivial⟩,(A5 F (fz.bD F aC) (by omega) (by omega) (op:= .drop) (k:=3) (d:=jB) rfl (.inr (.inr rfl)) (ek.lS F.c.fv (by decide) key)).mono ?_⟩
    rintro _ g3 ⟨nX,gQ,Mc,rfl,nA,v3⟩
    exact⟨_,_,rfl,tail nX gQ Mc g3 nA ((hF aC _).trans v3)⟩
   .refine bS (show decide (t=1)=false from decide_eq_false aQ) (DV (by simp[gG,aQ]) _ λeL ds jc g2 c4 v2=>⟨rfl,tail eL ds jc g2 c4 v2⟩)
end
end Go.Proofs.Tryz
namespace Go.cD
open Go.Proofs.Tryz
section
variable {G:cG} {w:Nat->UInt64} {X:ek}
abbrev DW:=cU×gr×Bool×List (Nat×c0)
def DX (G:cG)(w:Nat->UInt64)(X:ek)(j:Nat)(r:DW):DW :=
 if r.2.2.1 then
  ((c3 G w (.put (fL r.2.1)) (X.bl (j%2) r.2.1.1) r.1).1,m3 (c3 G w (.put (fL r.2.1)) (X.bl (j%2) r.2.1.1) r.1).2.1,(c3 G w (.put (fL r.2.1)) (X.bl (j%2) r.2.1.1) r.1).2.1[0]==1,
    r.2.2.2++[(X.bl (j%2) r.2.1.1,(c3 G w (.put (fL r.2.1)) (X.bl (j%2) r.2.1.1) r.1).2.1)])
 else (kC G w r.1,r.2.1,r.2.2.1,r.2.2.2)
theorem Md (n i:Nat)(S:cU)(e:gr)(ey:List (Nat×c0)):e7 G w X (n+1) i S e true ey=e7 G w X n (i+1) (c3 G w (.put (fL e)) (X.bl (i%2) e.1) S).1 (m3 (c3 G w (.put (fL e)) (X.bl (i%2) e.1) S).2.1) ((c3 G w (.put (fL e)) (X.bl (i%2) e.1) S).2.1[0]==1) (ey++[(X.bl (i%2) e.1,(c3 G w (.put (fL e)) (X.bl (i%2) e.1) S).2.1)]):=rfl
theorem Me (n i:Nat)(S:cU)(e:gr)(ey:List (Nat×c0)):e7 G w X (n+1) i S e false ey=e7 G w X n (i+1) (kC G w S) e false ey:=rfl
theorem HJ (i:Nat)(S:cU)(e:gr)(on:Bool)(ey:List (Nat×c0)):e7 G w X 0 i S e on ey=(S,e,on,ey):=rfl
theorem HK:∀n i S e on ey,e7 G w X (n+1) i S e on ey=DX G w X (i+n) (e7 G w X n i S e on ey)
 | 0,i,S,e,on,ey=>by
  cases on
  .rw[Me,HJ,HJ];rfl
  .rw[Md,HJ,HJ];rfl
 | n+1,i,S,e,on,ey=>by
  rw[show i+(n+1)=i+1+n by omega]
  cases on with
  | true=>rw[Md (n+1),HK n,Md n]
  | false=>rw[Me (n+1),HK n,Me n]
theorem TS:∀n S,kD G w (n+1) S=kC G w (kD G w n S)
 | 0,_=>rfl
 | n+1,S=>TS n (kC G w S)
theorem TT:∀(l:List (Nat×c0)) (x:Nat×c0) S,mH G w (l++[x]) S=(c3 G w (.put x.2) x.1 (mH G w l S)).1
 | [],_,_=>rfl
 | (b,d)::l,x,S=>TT l x _
end
end Go.cD
namespace Go.Proofs.Tryz
open Go Go.cD Go.RowKit
set_option maxRecDepth 8000
def iG (c:Nat×c0):List Value:=ab (UInt64.ofNat c.1)::af.cells (af.ws 8 c.2)
theorem uR (c:Nat×c0):(iG c).length=9:=by simp[iG,af.cells]
theorem TU (c:Nat×c0):∀v∈iG c,v.oneCell'=true:=by
 intro v bQ
 simp only[iG,af.cells,List.mem_cons,List.mem_map] at bQ
 rcases bQ with rfl|⟨_,_,rfl⟩<;>rfl
theorem agb:oZ prog 119 121 9 (.agg #[.int .u64 0,.int .u64 0,.int .u64 0,.int .u64 0,.int .u64 0,.int .u64 0,.int .u64 0,.int .u64 0,.int .u64 0]) 72:=⟨by kernel_rfl,by kernel_rfl,by kernel_rfl,by kernel_rfl,rfl⟩
theorem Mf {h:ak}{b:Nat}{T:TypeId}{c:Nat×c0}(e:h b=some (.cells (iG c).toArray T (0,0))):br h b 0=some (ab (UInt64.ofNat c.1))/\bU h b 1 c.2:=by
 refine⟨az e rfl,λi hi=>?_⟩
 rw[A8 e]
 rw[show 1+i=i+1 by omega]
 simp[iG,af.cells,hi]
theorem agc (y:UInt64)(d:c0)(z:Array Value)(bc:z.size=9)(h0:z[0]? =some (ab y)):h5 z (0+1) (af.cells (af.ws 8 d))=(ab y::af.cells (af.ws 8 d)).toArray:=by
 have aT:(af.cells (af.ws 8 d)).length=8:=by simp[af.cells]
 apply Array.ext_getElem?
 intro i
 rw[wC,aT,bc]
 by_cases gG:i=0
 .subst gG;rw[if_neg (by omega),h0];rfl
 .obtain⟨j,rfl⟩:∃j,i=j+1:=⟨i-1,by omega⟩
  by_cases aQ:j<8
  .rw[if_pos (by omega),show j+1-(0+1)=j by omega];simp
  .rw[if_neg (by omega),Array.getElem?_eq_none (by omega)]
   rw[List.getElem?_toArray,List.getElem?_cons_succ,List.getElem?_eq_none (by omega)]
theorem agd (e:gr):h5 #[Value.int .u64 0,.int .u64 0,.int .u64 0,.int .u64 0,.int .u64 0,.int .u64 0,.int .u64 0,.int .u64 0,.int .u64 0,.int .u64 0,.int .u64 0,.int .u64 0] 0 ((fL e).toList.map ab)=(af.cells (.ws 12 (m4 e))).toArray:=by
 have aa:(fL e).toList.map ab=[ab 1,ab (e.1+1),ab e.2,ab 0,ab 0,ab 0,ab 0,ab 0]:=by simp[fL]
 have ad:af.cells (.ws 12 (m4 e))=[ab 1,ab (e.1+1),ab e.2,ab 0,ab 0,ab 0,ab 0,ab 0,ab 0,ab 0,ab 0,ab 0]:=by simp[af.cells,m4]
 rw[aa,ad];rfl
theorem bT.app {F dW:Nat->Prop}{h g bo:ak}{s:ar}(v:bT F h dW g)(off:∀b,g b≠none->(∀q,s.q=some q->b≠q.b)->bo b=g b)(av:∀b,bo b=none->g b=none)(aU:∀q,s.q=some q->h q.b=none):bT F h dW bo :=
 ⟨v.1,λb au aH=>by
  have aa:=v.2.1 b au aH
  rw[off b (by rw[aa];exact au) λq aj e=>au (e▸aU q aj),aa],λb au=>v.2.2 b (av b au)⟩
section
variable {G:cG} {ws:List UInt64} {B:jy} {X:ek} {x:ko} {a:Nat} {e:c1} {S:cU} {a7:List de} {es gs:ar} {h:ak}
structure Mg (G:cG)(B:jy)(x:ko)(aW cN:ar)(ae ay aN:Nat)(s:ar)(g:ak)(on:Bool)(k:gr):Prop where
 aQ:g ae=some (.cells #[bg ⟨x.cz,0⟩] 27 (0,0))
 aY:g ay=some (.cells #[.bool on] 4 (0,0))
 ck:g aN=some (.cells #[ab k.1,ab k.2] 107 (0,0))
 aw:¬cH G B aW cN ae
 aA:¬cH G B aW cN ay
 aL:¬cH G B aW cN aN
 jD:∀q,s.q=some q->¬cH G B aW cN q.b/\q.b≠ae/\q.b≠ay/\q.b≠aN/\q.b≠x.cz
theorem age (F:kR G B X x)(gH:fX G ws B X x a e S a7 es gs h)(bO:a<=9000)(he:e.n<=9000)(key cell:UInt64)(on:Bool){ae ay aN:Nat}(d12:ae≠ay)(d13:ae≠aN)(d23:ay≠aN)(bq:ae≠x.cz)(bz:ay≠x.cz)(b8:aN≠x.cz)
 (f1:h ae=none) (f2:h ay=none) (f3:h aN=none) {i:Nat} (hi:i<X.K) {b_:List de} {aW cN s:ar} {g:ak} (R:fX G ws B X x (a+i) (e+i) (e7 G (λp=>ws.getD p 0) X i 0 S (key,cell) on []).1 b_ aW cN g) (v:bT (cH G B es gs) h (cH G B aW cN) g)
 (L:Mg G B x aW cN ae ay aN s g (e7 G (λp=>ws.getD p 0) X i 0 S (key,cell) on []).2.2.1 (e7 G (λp=>ws.getD p 0) X i 0 S (key,cell) on []).2.1) (O:cF 9 iG h g s (e7 G (λp=>ws.getD p 0) X i 0 S (key,cell) on []).2.2.2) (aT:(e7 G (λp=>ws.getD p 0) X i 0 S (key,cell) on []).2.2.2.length<=i) {K:ar->ak->Prop}
 (ag:∀eL ds jc s2 g2,fX G ws B X x (a+(i+1)) (e+(i+1)) (e7 G (λp=>ws.getD p 0) X (i+1) 0 S (key,cell) on []).1 eL ds jc g2->bT (cH G B es gs) h (cH G B ds jc) g2 ->
  Mg G B x ds jc ae ay aN s2 g2 (e7 G (λp=>ws.getD p 0) X (i+1) 0 S (key,cell) on []).2.2.1 (e7 G (λp=>ws.getD p 0) X (i+1) 0 S (key,cell) on []).2.1->cF 9 iG h g2 s2 (e7 G (λp=>ws.getD p 0) X (i+1) 0 S (key,cell) on []).2.2.2->(e7 G (λp=>ws.getD p 0) X (i+1) 0 S (key,cell) on []).2.2.2.length<=i+1->K s2 g2) :
 ∃(t2:Bool),br g ay 0=some (Value.bool t2)/\aG (!t2)
  (∃(cb:Option aD),br g ae 0=some (a1 cb)/\ao 50 [a1 cb] g λv1 bp=>v1=Value.tuple #[]/\K s bp)
  (∃(c7:Option aD),br g ae 0=some (a1 c7)/\(Int.ofNat 2=0->False)/\∃(lY:UInt64),br g aN 0=some (ab lY)/\ao 44 [a1 c7,Value.int IntKind.i64 (Int.tmod (i:Int) 2),ab lY] g λv2 b3=>∃(kE:UInt64),v2=ab kE /\
   bj b3 (Obj.cells #[Value.int IntKind.u64 0,Value.int IntKind.u64 0,Value.int IntKind.u64 0,Value.int IntKind.u64 0,Value.int IntKind.u64 0,Value.int IntKind.u64 0,Value.int IntKind.u64 0,Value.int IntKind.u64 0,Value.int IntKind.u64 0] 121) λbJ bW=>aX bW { b:=bJ,o:=0 } [ab kE,ab 0,ab 0,ab 0,ab 0,ab 0,ab 0,ab 0,ab 0] λb7 =>
   ∃(dr:Option aD),br b7 ae 0=some (a1 dr)/\∃(c2:aD),dr=some c2/\∃(cm:Option aD),br b7 c2.b c2.o=some (a1 cm)/\∃(nB:UInt64),br b7 bJ 0=some (ab nB)/\∃(sk:UInt64),br b7 aN 0=some (ab sk)/\∃(iH:UInt64),br b7 aN (0+1)=some (ab iH) /\
   ao 51 [Value.agg #[ab sk,ab iH]] b7 λv3 ct=>∃(aQ:Vector UInt64 8),v3=Value.agg (Array.map ab aQ.toArray)/\(br ct bJ 0=some (ab nB)/\True)/\(br ct c2.b c2.o=some (a1 cm)/\True)/\(br ct ae 0=some (a1 dr)/\True) /\
   ao 43 [a1 cm,Value.int IntKind.i64 1,ab nB,Value.agg (Array.map ab aQ.toArray)] ct λv4 cw=>∃(aY:Vector UInt64 8),∃(t3:Bool),v4=Value.tuple #[Value.agg (Array.map ab aY.toArray),Value.bool t3]/\aX cw { b:=bJ,o:=0+1 } (af.cells (af.ws 8 aY)) λbK =>
   ∃(oI:UInt64),br bK bJ 0=some (ab oI)/\∃(ck:Vector UInt64 8),bU bK bJ (0+1) ck/\bj bK (Obj.cells (List.toArray (ab oI::(af.cells (af.ws 8 ck)++[]++[]))) 121) λbZ dI=>fh prog 119 s (af.s { p:=some { b:=bZ,o:=0 },len:=1,cap:=1 }) dI λs2 cu =>
   ∃(dz:Vector UInt64 8),bU cu bJ 1 dz/\ao 45 [Value.agg (Array.map ab dz.toArray)] cu λv5 dM=>∃(pL:UInt64),∃(A9:UInt64),∃(t4:Bool),v5=Value.tuple #[Value.agg #[ab pL,ab A9],Value.bool t4]/\aX dM ⟨aN,0⟩ [ab pL,ab A9] λcM=>aX cM ⟨ay,0⟩ [Value.bool t4] λdX=>K s2 dX):=by
 have wI:=HK (G:=G) (w:=λp=>ws.getD p 0) (X:=X) i 0 S (key,cell) on []
 rw[Nat.zero_add] at wI
 rw[wI] at ag
 clear wI
 generalize e7 G (λp=>ws.getD p 0) X i 0 S (key,cell) on []=r at *
 obtain⟨fm,aE,A_,ey⟩:=r
 have ayV:=F.K
 refine⟨A_,az L.aY rfl,?_⟩
 cases A_ with
 | false =>
  refine dg rfl ⟨some ⟨x.cz,0⟩,az L.aQ rfl,(L6 F R (by omega) (by rw[c1.iT];omega)).mono ?_⟩
  rintro _ g2 ⟨eL,ds,jc,rfl,c4,v2⟩
  have p:∀ {b:Nat} {o:Obj},g b=some o->¬cH G B aW cN b->g2 b=some o/\¬cH G B ds jc b:=λau aH=>⟨v2.get au aH,v2.out (by rw[au];simp) aH⟩
  refine⟨rfl,ag eL ds jc s g2 c4 (v.trans v2) ⟨(p L.aQ L.aw).1,(p L.aY L.aA).1,(p L.ck L.aL).1,(p L.aQ L.aw).2,(p L.aY L.aA).2,(p L.ck L.aL).2,λq aj=>⟨v2.out (O.bl aj).2 (L.jD q aj).1,(L.jD q aj).2⟩⟩ (O.move λq aj=>v2.2.1 _ (O.bl aj).2 (L.jD q aj).1) (by show ey.length<=i+1;have:ey.length<=i:=aT;omega)⟩
 | true =>
  refine bS rfl ⟨some ⟨x.cz,0⟩,az L.aQ rfl,by decide,_,az L.ck rfl,?_⟩
  rw[show Int.tmod (i:Int) 2=((i%2:Nat):Int) from rfl]
  have j3:i%2<2:=Nat.mod_lt _ (by decide)
  refine(HG F R.cp j3 aE.1).mono ?_
  rintro _ g2 ⟨rfl,eh⟩
  refine⟨_,rfl,bM λbJ g3 f4 b1 tn=>?_⟩
  have HL:=eh.trans tn
  have oH:h bJ=none:=v.2.2 bJ (eh.free f4)
  have DY:∀ {b:Nat} {o:Obj},g b=some o->b≠bJ:=λau e=>by
   have:=eh.get au
   rw[e,f4] at this;cases this
  refine lu (v.more HL) oH b1 rfl λg5 v5 cy cm=>?_
  have Ba:∀ {b:Nat} {o:Obj},g b=some o->g5 b=some o:=λau=>(cm _ (DY au)).trans (HL.get au)
  have jm:=(R.bD F eh).loc F f4 tn cm
  have TV:¬cH G B aW cN bJ:=(R.bD F eh).r.out F.c.o f4
  refine⟨some ⟨x.cz,0⟩,az (Ba L.aQ) rfl,_,rfl,some ⟨B.cr,0⟩,az jm.cp rfl,_,az cy rfl,_,az (Ba L.ck) rfl,_,az (Ba L.ck) rfl,?_⟩
  refine(Ty aE).to λg6 nY=>⟨_,rfl,⟨az (nY.get cy) rfl,trivial⟩,⟨az (nY.get jm.cp) rfl,trivial⟩,⟨az (nY.get (Ba L.aQ)) rfl,trivial⟩,?_⟩
  have lX:=jm.bD F nY
  refine(A5 F lX (by omega) (by rw[c1.iT];omega) (op:= .put (fL aE)) (k:=1) (d:=fL aE) ⟨rfl,rfl⟩ (.inr (.inl rfl)) (ek.lS F.c.fv j3 aE.1)).mono ?_
  rintro _ g7 ⟨Mh,qx,Bb,rfl,HM,ed⟩
  have dE:=nY.get cy
  have fo:=ed.get dE TV
  have agf:=ed.out (by rw[dE];simp) TV
  have HN:=(v5.more nY).trans ed
  have DZ:∀ {b:Nat} {o:Obj},g b=some o->¬cH G B aW cN b->g7 b=some o/\¬cH G B qx Bb b:=λau aH=>⟨ed.get (nY.get (Ba au)) aH,ed.out (by rw[nY.get (Ba au)];simp) aH⟩
  have pM:cF 9 iG h g7 s ey:=O.move λq aj=>by
   have au:=(O.bl aj).2
   have nZ:q.b≠bJ:=λe=>au (by rw[e];exact eh.free f4)
   have aR:g5 q.b=g q.b:=by rw[cm _ nZ,HL _ au]
   rw[ed.2.1 _ (by rw[nY _ (by rw[aR];exact au),aR];exact au) (L.jD q aj).1,nY _ (by rw[aR];exact au),aR]
  have TW:∀q,s.q=some q->¬cH G B qx Bb q.b:=λq aj=>by
   have au:=(O.bl aj).2
   have nZ:q.b≠bJ:=λe=>au (by rw[e];exact eh.free f4)
   have aR:g5 q.b=g q.b:=by rw[cm _ nZ,HL _ au]
   exact ed.out (by rw[nY _ (by rw[aR];exact au),aR];exact au) (L.jD q aj).1
  have D0:DX G (λp=>ws.getD p 0) X i (fm,aE,true,ey)=((c3 G (λp=>ws.getD p 0) (.put (fL aE)) (X.bl (i%2) aE.1) fm).1,m3 (c3 G (λp=>ws.getD p 0) (.put (fL aE)) (X.bl (i%2) aE.1) fm).2.1,(c3 G (λp=>ws.getD p 0) (.put (fL aE)) (X.bl (i%2) aE.1) fm).2.1[0]==1,ey++[(X.bl (i%2) aE.1,(c3 G (λp=>ws.getD p 0) (.put (fL aE)) (X.bl (i%2) aE.1) fm).2.1)]):=rfl
  rw[D0] at ag
  clear D0
  generalize (c3 G (λp=>ws.getD p 0) (.put (fL aE)) (X.bl (i%2) aE.1) fm).1=fy at *
  generalize (c3 G (λp=>ws.getD p 0) (.put (fL aE)) (X.bl (i%2) aE.1) fm).2.2=HO at *
  generalize (c3 G (λp=>ws.getD p 0) (.put (fL aE)) (X.bl (i%2) aE.1) fm).2.1=d2 at *
  refine⟨_,_,rfl,?_⟩
  refine stM HN oH fo (by simp[af.cells]) λg8 fr fP eT=>?_
  rw[agc (UInt64.ofNat (X.bl (i%2) aE.1)) d2 _ rfl rfl] at fP
  have fP:g8 bJ=some (.cells (iG (X.bl (i%2) aE.1,d2)).toArray 121 (0,0)):=fP
  obtain⟨agh,agi⟩:=Mf fP
  have ayW:∀ {b:Nat} {o:Obj},g b=some o->b≠bJ:=DY
  have sl:=HM.same (ah:=g8) λy aB=>eT y λe=>by
   rcases aB with aB|aB
   .exact agf (e▸aB)
   .have:=R.cp;exact DY this (aB.symm.trans e)
  have bX:∀q,s.q=some q->q.b≠bJ:=λq aj e=>(O.bl aj).2 (by rw[e];exact eh.free f4)
  have TX:cF 9 iG h g8 s ey:=pM.move λq aj=>eT _ (bX q aj)
  refine⟨_,agh,_,agi,?_⟩
  rw[List.append_nil,List.append_nil]
  have ayX:ey.length<=i:=aT
  refine cF.push agb uR TU TX [(X.bl (i%2) aE.1,d2)] (by simp[iG]) rfl (λb au=>fr.2.2 b au) (by simp;omega) (by decide) λs2 g9 Bc oJ wJ D1=>?_
  have v9:bT (cH G B es gs) h (cH G B qx Bb) g9:=fr.app oJ D1 λq aj=>(TX.bl aj).1
  have gd:g9 bJ=_:=(oJ bJ (by rw[fP];simp) λq aj e=>bX q aj e.symm).trans fP
  have et:∀ {b:Nat} {o:Obj},g b=some o->¬cH G B aW cN b->(∀q,s.q=some q->q.b≠b)->g9 b=some o:=λ{b o} au aH aU=>by
   have bW:g8 b=some o:=(eT b (DY au)).trans (DZ au aH).1
   rw[oJ b (by rw[bW];simp) λq aj e=>aU q aj e.symm,bW]
  have mN:fX G ws B X x (a+i+1) (e+i+1) fy Mh qx Bb g9:=sl.same λy aB=>oJ y (sl.dn F aB) λq aj e=>by
   rcases aB with aB|aB
   .exact TW q aj (e▸aB)
   .exact(L.jD q aj).2.2.2.2 (e.symm.trans aB)
  have uS:∀q,s2.q=some q->¬cH G B qx Bb q.b/\q.b≠ae/\q.b≠ay/\q.b≠aN/\q.b≠x.cz:=λq aj=>by
   rcases wJ q aj with ⟨p,aS,e⟩|aH
   .rw[e];exact⟨TW p aS,(L.jD p aS).2⟩
   .have bR:∀ {b:Nat} {o:Obj},g b=some o->¬cH G B aW cN b->q.b≠b:=λ{b o} au nC e=>by
     have bW:g8 b=some o:=(eT b (DY au)).trans (DZ au nC).1
     rw[e,bW] at aH;cases aH
    exact⟨sl.r.out F.c.o aH,bR L.aQ L.aw,bR L.aY L.aA,bR L.ck L.aL,bR R.cp R.jA⟩
  obtain⟨_,agj⟩:=Mf gd
  refine⟨_,agj,?_⟩
  refine(Tw d2).to λqu Bd=>⟨_,_,_,rfl,?_⟩
  have D2:=Bd.get (et L.ck L.aL λq aj=>(L.jD q aj).2.2.2.1)
  have Be:=Bd.get (et L.aY L.aA λq aj=>(L.jD q aj).2.2.1)
  have Mi:=Bd.get (et L.aQ L.aw λq aj=>(L.jD q aj).2.1)
  have dp:=(DZ L.aQ L.aw).2
  have n27:=(DZ L.aY L.aA).2
  have n37:=(DZ L.ck L.aL).2
  refine lu (v9.more Bd) f3 D2 rfl λsh v11 nW hd=>?_
  refine lu v11 f2 ((hd ay d23).trans Be) rfl λrv iI hQ gz=>?_
  have lZ:=((mN.bD F Bd).same (ah:=sh) λy aB=>hd y λe=>by
   rcases aB with aB|aB
   .exact n37 (e▸aB)
   .exact b8 (e.symm.trans aB)).same (ah:=rv) λy aB=>gz y λe=>by
   rcases aB with aB|aB
   .exact n27 (e▸aB)
   .exact bz (e.symm.trans aB)
  refine ag Mh qx Bb s2 rv lZ iI ⟨(gz ae d12).trans ((hd ae d13).trans Mi),hQ,(gz aN (Ne.symm d23)).trans nW,dp,n27,n37,uS⟩ ?_ (by rw[List.length_append,List.length_singleton];omega)
  exact(Bc.bD Bd).move λq aj=>by rw[gz _ (uS q aj).2.2.1,hd _ (uS q aj).2.2.2.1]
end
end Go.Proofs.Tryz
namespace Go.Proofs.Tryz
open Go Go.cD Go.RowKit
set_option maxRecDepth 8000
theorem agk {F dW:Nat->Prop}{g gY j4:ak}{k:Nat}{ew fF:Obj}(ag:g k=some ew)(bP:bL g gY)(v:bT F (bA gY k fF) dW j4):bT F g dW (bA j4 k ew):=by
 refine⟨λb au=>?_,λb au aH=>?_,λb au=>?_⟩
 .rcases v.1 b au with h|h
  .exact .inl h
  .by_cases c:b=k
   .rw[c,eH] at h;cases h
   .rw[cQ _ _ c] at h;exact .inr (bP.free h)
 .by_cases c:b=k
  .rw[c,eH,ag]
  .have aa:bA gY k fF b=g b:=by rw[cQ _ _ c,bP b au]
   rw[cQ _ _ c,v.2.1 b (by rw[aa];exact au) aH,aa]
 .by_cases c:b=k
  .rw[c,eH] at au;cases au
  .rw[cQ _ _ c] at au
   have:=v.2.2 b au
   rw[cQ _ _ c] at this
   exact bP.free this
section
variable {G:cG} {ws:List UInt64} {B:jy} {X:ek} {x:ko} {a:Nat} {e:c1} {S:cU} {a7:List de} {es gs:ar} {h:ak}
def oK (G:cG)(w:Nat->UInt64)(kS:Bool)(L:List (Nat×c0))(S:cU)(j:Nat):cU:=if kS then mH G w (L.reverse.take j) S else kD G w j S
theorem TY {w:Nat->UInt64}{L:List (Nat×c0)}{S:cU}{j:Nat}(aV:j<L.length):oK G w true L S (j+1)=(c3 G w (.put (L[L.length-1-j]'(by omega)).2) (L[L.length-1-j]'(by omega)).1 (oK G w true L S j)).1:=by
 have aP:j<L.reverse.length:=by rw[List.length_reverse];exact aV
 show mH G w (L.reverse.take (j+1)) S=_
 rw[<-List.take_append_getElem aP,TT]
 have:L.reverse[j]=L[L.length-1-j]'(by omega):=by rw[List.getElem_reverse]
 rw[this];rfl
theorem TZ {w:Nat->UInt64}{L:List (Nat×c0)}{S:cU}{j:Nat}:oK G w false L S (j+1)=kC G w (oK G w false L S j):=TS j S
theorem agl (F:kR G B X x)(R:fX G ws B X x a e S a7 es gs h)(bO:a+X.K<=9500)(he:e.n+X.K<=9500){ae ay:Nat}{T1 uJ:TypeId}{kS:Bool}(aQ:h ae=some (.cells #[bg ⟨x.cz,0⟩] T1 (0,0)))(aY:h ay=some (.cells #[.bool kS] uJ (0,0)))(aw:¬cH G B es gs ae)(aA:¬cH G B es gs ay)
 {s:ar} {L:List (Nat×c0)} (rs:fN iG h s L) (dY:L.length=X.K) (jD:∀q,s.q=some q->0<L.length->¬cH G B es gs q.b) (au:kS=true->∀y∈L,y.1<2*X.T) {Q:Value->ak->Prop}
 (fI:∀b_ aW cN ah,fX G ws B X x (a+X.K) (e+X.K) (oK G (λp=>ws.getD p 0) kS L S X.K) b_ aW cN ah->bT (cH G B es gs) h (cH G B aW cN) ah->Q (.bool (!kS)) ah) :
 ao 53 [bb s] h λv9 iJ=>∃(v10:Value),v9=v10/\True/\∀(ee:Loop) (bE:Nat),iJ bE=none ->
  (∀(v11:Value) (jU:UInt64) (hz:Vector UInt64 8) (jn:ak) (gv:Value->ak->Prop),jn bE=some (eD ee) ->
   (bj jn (Obj.cells #[Value.int IntKind.u64 0,Value.int IntKind.u64 0,Value.int IntKind.u64 0,Value.int IntKind.u64 0,Value.int IntKind.u64 0,Value.int IntKind.u64 0,Value.int IntKind.u64 0,Value.int IntKind.u64 0,Value.int IntKind.u64 0] 121) λjV ly=>aX ly { b:=jV,o:=0 } (ab jU::(af.cells (af.ws 8 hz)++[])) λgY=>gY bE=some (eD ee)/\∃(t9:Bool),br (bA gY bE (dO ee)) ay 0=some (Value.bool t9)/\aG (!t9)
    (∃(j5:Option aD),br (bA gY bE (dO ee)) ae 0=some (a1 j5)/\ao 50 [a1 j5] (bA gY bE (dO ee)) λiI nD=>iI=Value.tuple #[]/\nD bE=some (dO ee)/\gv (Value.bool true) (bA nD bE (eD ee)))
    (∃(jW:Option aD),br (bA gY bE (dO ee)) ae 0=some (a1 jW)/\∃(ik:aD),jW=some ik/\∃(mo:Option aD),br (bA gY bE (dO ee)) ik.b ik.o=some (a1 mo)/\∃(jC:UInt64),br (bA gY bE (dO ee)) jV 0=some (ab jC)/\∃(jE:Vector UInt64 8),bU (bA gY bE (dO ee)) jV 1 jE/\ao 43 [a1 mo,Value.int IntKind.i64 1,ab jC,Value.agg (Array.map ab jE.toArray)] (bA gY bE (dO ee)) λiK j4=>∃(jo:Vector UInt64 8),∃(t10:Bool),iK=Value.tuple #[Value.agg (Array.map ab jo.toArray),Value.bool t10]/\j4 bE=some (dO ee)/\gv (Value.bool true) (bA j4 bE (eD ee)))) ->
   m8 prog bE [v11,Value.agg (List.toArray (ab jU::(af.cells (af.ws 8 hz)++[])))] jn λjF o0=>gv jF o0) ->
  ry prog v10 [l0 bE] (bA iJ bE (eD ee)) λ_ mq=>mq bE=some (eD ee)/\∃(t11:Bool),br (bA mq bE (ia ee none)) ay 0=some (Value.bool t11)/\Q (Value.bool (!t11)) (bA mq bE (ia ee none)):=by
 refine agm _ ?_
 unfold T0
 refine bM λT2 iJ D3 HP Mj=>⟨_,rfl,trivial,λz bE HQ aP=>⟨rfl,?_⟩⟩
 have Mk:=R.bD F Mj
 have qy:bL iJ (bA iJ bE (eD z)):=(bL.refl iJ).bA HQ _
 have T3:¬cH G B es gs bE:=Mk.r.out F.c.o HQ
 have agn:¬cH G B es gs T2:=R.r.out F.c.o D3
 have Ml:bE≠x.cz:=λe=>by have:=Mk.cp;rw[<-e,HQ] at this;cases this
 have ago:=Mk.bD F qy
 have HR:=Mj.trans qy
 have jo:=HR.get aQ
 have rz:=HR.get aY
 have T4:=qy.get HP
 have T5:=rs.bD uR HR
 have z0:bA iJ bE (eD z) bE=some (eD z):=eH _ _ _
 generalize ayY:bA iJ bE (eD z)=g0 at *
 have Mm:=F.K
 have kt:=rs.len
 refine agp _ _ ?_
 unfold T6
 refine⟨s,az T4 rfl,?_⟩
 refine⟨λv1 q1 aw g bP=>l0 bE=v1/\(⟨T2,0⟩:aD)=q1/\∃(j:Nat) (b_:List de) (aW cN:ar),aw=(X.K:Int)-1-j/\j<=X.K/\bP=X.K-j/\fX G ws B X x (a+j) (e+j) (oK G (λp=>ws.getD p 0) kS L S j) b_ aW cN g/\bT (cH G B es gs) g0 (cH G B aW cN) g,
  ⟨X.K,rfl,rfl,0,a7,es,gs,by rw[bf (by omega) (by omega)];omega,by omega,rfl,?_,bT.refl _ _⟩,?_⟩
 .have:oK G (λp=>ws.getD p 0) kS L S 0=S:=by unfold oK;cases kS<;>simp[mH,kD]
  rw[this];exact ago
 rintro v1 q1 D4 g bP ⟨rfl,rfl,j,b_,aW,cN,rfl,aV,rfl,du,fS⟩
 have D5:=fS.get z0 T3
 have HS:=fS.out (by rw[z0];simp) T3
 have T7:=fS.get jo aw
 have T8:=fS.get rz aA
 have DQ:=fS.out (by rw[jo];simp) aw
 have DR:=fS.out (by rw[rz];simp) aA
 have agq:=fS.get T4 agn
 have d1:ae≠bE:=λe=>by rw[e,z0] at jo;cases jo
 have d2:ay≠bE:=λe=>by rw[e,z0] at rz;cases rz
 refine cd (λh0=>?_) λaH=>?_
 .have j6:j<X.K:=by omega
  have sm:X.K-1-j<L.length:=by omega
  have uT:Int.toNat ((X.K:Int)-1-j)=X.K-1-j:=by omega
  have T9:fN iG g s L:=T5.move λq aj aT=>fS.2.1 _ (T5.there uR aj aT) (jD q aj aT)
  obtain⟨q,aj⟩:=T9.ptr (by omega)
  have aZ:=wD uR (T9.rd q aj) sm
  have Mn:br g q.b (q.o+(X.K-1-j)*9)=some (ab (UInt64.ofNat L[X.K-1-j].1)):=aZ.1
  have wK:bU g q.b (q.o+(X.K-1-j)*9+1) L[X.K-1-j].2:=λi hi=>by
   have ad:fQ g q.b (q.o+(X.K-1-j)*9+1) (af.cells (af.ws 8 L[X.K-1-j].2)):=aZ.2
   rw[pN] at ad
   have:=ad i (by simp[af.cells,hi])
   simpa [af.cells] using this
  refine⟨s,az agq rfl,q,aj,by omega,by omega,_,by rw[uT];exact Mn,_,by rw[uT];exact wK,rfl,rfl,?_⟩
  refine aP _ _ _ g _ D5 ?_
  refine bM λjV ly f11 nW hn=>?_
  rw[List.append_nil]
  refine jl hn f11 nW (by simp[af.cells]) λgY uU DL yK=>⟨uU.get D5,?_⟩
  have DL:gY jV=some (.cells (iG L[X.K-1-j]).toArray 121 (0,0)):=DL
  have d11:jV≠bE:=λe=>by rw[e,D5] at f11;cases f11
  have dh:∀ {b:Nat} {o:Obj},gY b=some o->b≠bE->bA gY bE (dO z) b=some o:=λau aH=>by rw[cQ _ _ aH];exact au
  have pO:fX G ws B X x (a+j) (e+j) (oK G (λp=>ws.getD p 0) kS L S j) b_ aW cN (bA gY bE (dO z)):=(du.bD F uU).same λy aB=>cQ _ _ λe=>by
   rcases aB with aB|aB
   .exact HS (e▸aB)
   .exact Ml (e.symm.trans aB)
  have T_:bA gY bE (dO z) bE=some (dO z):=eH _ _ _
  refine⟨kS,az (dh (uU.get T8) d2) rfl,?_⟩
  have done:∀ {eL:List de} {ds jc:ar} {j4:ak},fX G ws B X x (a+j+1) (e+j+1) (oK G (λp=>ws.getD p 0) kS L S (j+1)) eL ds jc j4->bT (cH G B aW cN) (bA gY bE (dO z)) (cH G B ds jc) j4->j4 bE=some (dO z)/\fX G ws B X x (a+(j+1)) (e+(j+1)) (oK G (λp=>ws.getD p 0) kS L S (j+1)) eL ds jc (bA j4 bE (eD z))/\bT (cH G B es gs) g0 (cH G B ds jc) (bA j4 bE (eD z)):=λ{eL ds jc j4} c4 v2=>by
   have agr:=v2.out (by rw[T_];simp) HS
   refine⟨v2.get T_ HS,c4.same λy aB=>cQ _ _ λe=>?_,fS.trans (agk D5 uU v2)⟩
   rcases aB with aB|aB
   .exact agr (e▸aB)
   .exact Ml (e.symm.trans aB)
  cases kS with
  | false =>
   refine dg rfl ⟨some ⟨x.cz,0⟩,az (dh (uU.get T7) d1) rfl,(L6 F pO (by omega) (by rw[c1.iT];omega)).mono ?_⟩
   rintro _ j4 ⟨eL,ds,jc,rfl,c4,v2⟩
   rw[<-TZ (L:=L)] at c4
   obtain⟨hG,nA,v3⟩:=done c4 v2
   exact⟨rfl,hG,true,rfl,X.K-(j+1),by omega,rfl,rfl,j+1,eL,ds,jc,by rw[bf (by omega) (by omega)];omega,by omega,rfl,nA,v3⟩
  | true =>
   obtain⟨ags,HT⟩:=Mf (dh DL d11)
   refine bS rfl ⟨some ⟨x.cz,0⟩,az (dh (uU.get T7) d1) rfl,_,rfl,some ⟨B.cr,0⟩,az pO.cp rfl,_,ags,_,HT,?_⟩
   refine(A5 F pO (by omega) (by rw[c1.iT];omega) (op:= .put L[X.K-1-j].2) (k:=1) (d:=L[X.K-1-j].2) ⟨rfl,rfl⟩ (.inr (.inl rfl)) (au rfl _ (List.getElem_mem sm))).mono ?_
   rintro _ j4 ⟨eL,ds,jc,rfl,c4,v2⟩
   have j7:=TY (G:=G) (w:=λp=>ws.getD p 0) (L:=L) (S:=S) (j:=j) (by omega)
   simp only[dY] at j7
   rw[<-j7] at c4
   obtain⟨hG,nA,v3⟩:=done c4 v2
   exact⟨_,_,rfl,hG,true,rfl,X.K-(j+1),by omega,rfl,rfl,j+1,eL,ds,jc,by rw[bf (by omega) (by omega)];omega,by omega,rfl,nA,v3⟩
 .have j6:j=X.K:=by omega
  subst j6
  refine⟨D5,kS,az (by rw[cQ _ _ d2];exact T8) rfl,fI b_ aW cN _ (du.same λy aB=>cQ _ _ λe=>?_) ?_⟩
  .rcases aB with aB|aB
   .exact HS (e▸aB)
   .exact Ml (e.symm.trans aB)
  .have v:=(hF HR (cH G B es gs)).trans fS
   have ag:h bE=none:=Mj.free HQ
   refine⟨v.1,λb hA l1=>?_,λb hA=>?_⟩
   .have:b≠bE:=λe=>hA (by rw[e];exact ag)
    rw[cQ _ _ this];exact v.2.1 b hA l1
   .by_cases c:b=bE
    .rw[c];exact ag
    .rw[cQ _ _ c] at hA;exact v.2.2 b hA
end
end Go.Proofs.Tryz
namespace Go.Proofs.Tryz
open Go Go.cD Go.RowKit
set_option maxRecDepth 8000
section
variable {G:cG} {ws:List UInt64} {B:jy} {X:ek} {x:ko} {a:Nat} {e:c1} {S:cU} {a7:List de} {es gs:ar} {h:ak}
theorem agt (c:Bool):decide (mask c=0)= !c:=by cases c<;>decide
theorem agu {n:Nat}:(kT (if n*9=0 then #[] else Value.cells (.agg #[.int .u64 0,.int .u64 0,.int .u64 0,.int .u64 0,.int .u64 0,.int .u64 0,.int .u64 0,.int .u64 0,.int .u64 0])) (n*9))=((List.replicate n (0,jB)).flatMap iG).toArray:=by
 have bc:Value.cells (.agg #[.int .u64 0,.int .u64 0,.int .u64 0,.int .u64 0,.int .u64 0,.int .u64 0,.int .u64 0,.int .u64 0,.int .u64 0])=Array.replicate 9 (ab 0):=rfl
 have aZ:iG (0,jB)=List.replicate 9 (ab 0):=rfl
 apply Array.ext_getElem?
 intro i
 have aT:((List.replicate n (0,jB)).flatMap iG).length=n*9:=by rw[nu uR];simp
 by_cases c:i<n*9
 .rw[if_neg (by omega),bc]
  have aa:=Ht uR (l:=List.replicate n (0,jB)) (i:=i/9) (j:=i%9) (by simp;omega) (by omega)
  rw[show i/9*9+i%9=i by omega] at aa
  simp only[List.getElem_replicate,aZ] at aa
  have ad:((List.replicate n (0,jB)).flatMap iG).toArray[i]? =(List.replicate 9 (ab 0))[i%9]?:=by rw[List.getElem?_toArray,aa]
  rw[ad]
  unfold kT
  rw[Array.getElem?_map,Array.getElem?_range,if_pos c,Option.map_some]
  have agv:i%9<9:=Nat.mod_lt _ (by decide)
  have b7:(Array.replicate 9 (ab 0))[i%(Array.replicate 9 (ab 0)).size]! =ab 0:=by
   rw[show(Array.replicate 9 (ab 0)).size=9 by simp,getElem!_pos (Array.replicate 9 (ab 0)) (i%9) (by simp;omega)];simp
  rw[b7,List.getElem?_replicate,if_pos agv]
 .rw[Array.getElem?_eq_none (by rw[Mo];omega),List.getElem?_toArray,List.getElem?_eq_none (by rw[aT];omega)]
def D6 (r:DW)(o:Option Nat):cU:=if r.2.2.1&&o.isSome then hO r.1 (0,(kq o).toNat) (m4 r.2.1) else r.1
theorem Ua {w:Nat->UInt64}(ix:X.sp<=1000)(key cell:UInt64)(on:Bool)(S:cU){r:DW}(aP:e7 G w X X.K 0 S (key,cell) on []=r){o:Option Nat}(dS:gu (λi=>(S.R 0 i)[0]==0) X.sp=o){L:List (Nat×c0)}(dY:(r.2.2.1&&o.isNone)=true->L=r.2.2.2/\L.length=X.K) :
 hX G w X key cell on S=(oK G w (r.2.2.1&&o.isNone) L (D6 r o) X.K,!(r.2.2.1&&o.isNone)):=by
 unfold hX
 simp only
 rw[aP,dS]
 obtain⟨fm,k,A_,ey⟩:=r
 cases A_ with
 | false=>rfl
 | true =>
  cases o with
  | some i =>
   have hi:=(AN dS).1
   show(kD G w X.K (hO fm (0,i) (m4 k)),true)=(kD G w X.K (hO fm (0,(kq (some i)).toNat) (m4 k)),true)
   have:(kq (some i)).toNat=i:=by show(UInt64.ofNat i).toNat=i;rw[UInt64.toNat_ofNat'];omega
   rw[this]
  | none =>
   obtain⟨aa,ad⟩:=dY rfl
   show(mH G w ey.reverse fm,false)=(mH G w (L.reverse.take X.K) fm,false)
   rw[List.take_of_length_le (by rw[List.length_reverse];omega),aa]
theorem Tp (F:kR G B X x)(R:fX G ws B X x a e S a7 es gs h)(bO:a<=9000)(he:e.n<=9000)(key cell:UInt64)(on:Bool) :
 ao 15 [bg ⟨x.cz,0⟩,ab key,ab cell,.bool on] h λv ah=>∃b_ aW cN,v= .bool (hX G (λp=>ws.getD p 0) X key cell on S).2/\fX G ws B X x (a+2*X.K) ((e+X.K).rd.wr+X.K) (hX G (λp=>ws.getD p 0) X key cell on S).1 b_ aW cN ah/\bT (cH G B es gs) h (cH G B aW cN) ah:=by
 suffices H:∀Q:Value->ak->Prop,(∀v ah,(∃b_ aW cN,v= .bool (hX G (λp=>ws.getD p 0) X key cell on S).2/\fX G ws B X x (a+2*X.K) ((e+X.K).rd.wr+X.K) (hX G (λp=>ws.getD p 0) X key cell on S).1 b_ aW cN ah/\bT (cH G B es gs) h (cH G B aW cN) ah)->Q v ah)->ao 15 [bg ⟨x.cz,0⟩,ab key,ab cell,.bool on] h Q from H _ λ_ _ h=>h
 intro Q fI
 have Mm:=F.K
 refine m9 _ _ _ _ ?_
 unfold Ub
 refine bM λae aa f1 aF aE=>bM λay ad f2 a8 aC=>bM λaN an f3 b0 aI=>?_
 have f20:=aE.free f2
 have f30:=aE.free (aC.free f3)
 have d12:ae≠ay:=λe=>by rw[<-e,aF] at f2;cases f2
 have d13:ae≠aN:=λe=>by rw[<-e,aC.get aF] at f3;cases f3
 have d23:ay≠aN:=λe=>by rw[<-e,a8] at f3;cases f3
 have bq:ae≠x.cz:=λe=>by have:=R.cp;rw[<-e,f1] at this;cases this
 have bz:ay≠x.cz:=λe=>by have:=R.cp;rw[<-e,f20] at this;cases this
 have b8:aN≠x.cz:=λe=>by have:=R.cp;rw[<-e,f30] at this;cases this
 refine jl ((aE.trans aC).trans aI) f30 b0 rfl λaK bh b1 dr=>?_
 have mh:aK ae=_:=(dr ae d13).trans (aI.get (aC.get aF))
 have sf:aK ay=_:=(dr ay d23).trans (aI.get a8)
 have kr:=R.bD F bh
 refine⟨some ⟨x.cz,0⟩,az mh rfl,_,rfl,_,az kr.cp rfl,?_⟩
 refine⟨λaJ bd t1 bI s1 aA aL g bP=>(⟨ae,0⟩:aD)=aJ/\(⟨ay,0⟩:aD)=bd/\(⟨aN,0⟩:aD)=bI/\aA=(X.K:Int)/\∃(i:Nat) (b_:List de) (aW cN:ar),aL=i/\i<=X.K/\bP=X.K-i/\fX G ws B X x (a+i) (e+i) (e7 G (λp=>ws.getD p 0) X i 0 S (key,cell) on []).1 b_ aW cN g/\bT (cH G B es gs) h (cH G B aW cN) g /\
  Mg G B x aW cN ae ay aN s1 g (e7 G (λp=>ws.getD p 0) X i 0 S (key,cell) on []).2.2.1 (e7 G (λp=>ws.getD p 0) X i 0 S (key,cell) on []).2.1/\cF 9 iG h g s1 (e7 G (λp=>ws.getD p 0) X i 0 S (key,cell) on []).2.2.2/\(e7 G (λp=>ws.getD p 0) X i 0 S (key,cell) on []).2.2.2.length<=i,
  ⟨X.K,rfl,rfl,rfl,rfl,0,a7,es,gs,rfl,by omega,rfl,kr,hF bh _,⟨mh,sf,b1,R.r.out F.c.o f1,R.r.out F.c.o f20,R.r.out F.c.o f30,λq aj=>by cases aj⟩,cF.gD ..,Nat.le_refl _⟩,?_⟩
 rintro aJ bd t1 bI s1 aA aL g bP ⟨rfl,rfl,rfl,rfl,i,b_,aW,cN,rfl,hi,rfl,du,fS,c1,ei,agw⟩
 refine cd (λca=>?_) λdx=>?_
 .have b5:i<X.K:=by omega
  refine age F R bO he key cell on d12 d13 d23 bq bz b8 f1 f20 f30 b5 du fS c1 ei agw λeL ds jc s2 g2 c4 v2 HU fe Bf=>⟨X.K-(i+1),by omega,rfl,rfl,rfl,rfl,i+1,eL,ds,jc,bf (by omega) (by omega),by omega,rfl,c4,v2,HU,fe,Bf⟩
 .have b5:i=X.K:=by omega
  subst b5
  have yJ:=(AS F.c.o F.c.fv F.c.m F.c.f X.K 0 a S (key,cell) on [] R.p (by omega)).2
  have hlen:=DJ (G:=G) (w:=λp=>ws.getD p 0) (X:=X) X.K 0 S (key,cell) on []
  have yL:=DK (G:=G) (w:=λp=>ws.getD p 0) F.c.fv X.K 0 S (key,cell) on [] (by simp)
  generalize aP:e7 G (λp=>ws.getD p 0) X X.K 0 S (key,cell) on []=r at *
  refine⟨some ⟨x.cz,0⟩,az c1.aQ rfl,_,rfl,some ⟨B.m.b,0⟩,az du.cp rfl,some ⟨x.cz,0⟩,az c1.aQ rfl,_,rfl,_,az du.cp rfl,?_⟩
  refine(TH F du (by rw[Go.Proofs.Tryz.c1.iT];omega) (key:=0) (by decide) 0).mono ?_
  rintro _ g2 ⟨eL,ds,rfl,c4,v2⟩
  rw[yJ]
  generalize dS:gu (λi=>(S.R 0 i)[0]==0) X.sp=o at *
  have h9:∀ {b:Nat} {e3:Obj},g b=some e3->¬cH G B aW cN b->g2 b=some e3/\¬cH G B ds cN b:=λau aH=>⟨v2.get au aH,v2.out (by rw[au];simp) aH⟩
  have D7:=fS.trans v2
  have fe:cF 9 iG h g2 s1 r.2.2.2:=ei.move λq aj=>v2.2.1 _ (ei.bl aj).2 (c1.jD q aj).1
  have tp:∀q,s1.q=some q->¬cH G B ds cN q.b:=λq aj=>v2.out (ei.bl aj).2 (c1.jD q aj).1
  obtain⟨lW,cA⟩:=h9 c1.aQ c1.aw
  obtain⟨rA,gf⟩:=h9 c1.aY c1.aA
  obtain⟨agx,n32⟩:=h9 c1.ck c1.aL
  refine⟨_,_,_,rfl,bM λdC g3 f6 dE tn=>?_⟩
  have yM:h dC=none:=D7.2.2 dC f6
  refine fB (n:=12) (D7.more tn) yM dE rfl λg4 v4 HV D8=>?_
  have D9:∀ {b:Nat} {e3:Obj},g2 b=some e3->g4 b=some e3:=λau=>(D8 _ λe=>by rw[e,f6] at au;cases au).trans (tn.get au)
  have Mp:=c4.loc F f6 tn D8
  have iU:cF 9 iG h g4 s1 r.2.2.2:=fe.move λq aj=>by
   have au:=(fe.bl aj).2
   rw[D8 _ λe=>au (by rw[e];exact f6),tn _ au]
  refine bM λeo g5 f7 fo wL=>?_
  have Bg:h eo=none:=v4.2.2 eo f7
  have HW:=wL.get (D9 agx)
  refine⟨_,az HW rfl,_,az HW rfl,?_⟩
  refine(Ty r.2.1).to λg6 nY=>⟨_,rfl,bM λfG g7 f8 fP Uc=>?_⟩
  have Ud:=(wL.trans nY).trans Uc
  have HX:h fG=none:=v4.2.2 fG (wL.free (nY.free f8))
  have ed:=v4.more Ud
  have agy:=Uc.get (nY.get fo)
  have d78:eo≠fG:=λe=>by have:=nY.get fo;rw[e,f8] at this;cases this
  refine fB (n:=8) ed HX fP rfl λg8 fr HY eT=>?_
  have wM:g8 eo=_:=(eT eo d78).trans agy
  have jq:fi ab g8 ⟨gA (some ⟨fG,0⟩) 0 8 1,8,8,none⟩ (fL r.2.1).toList:=by
   refine⟨by simp,Nat.le_refl _,(by intro h;cases h),λq aj i hi=>?_⟩
   cases aj
   have b5:i<8:=by simpa using hi
   have:=fb HY b5
   simpa using this
  refine HZ jq (q:=⟨eo,0⟩) rfl (c:=8) (by simp) ?_
  rw[List.take_of_length_le (by simp)]
  refine stM fr Bg wM (by simp) λg9 v9 gd eO=>?_
  rw[agd] at gd
  have f74:g4 eo=none:=f7
  have f84:g4 fG=none:=wL.free (nY.free f8)
  have Mq:∀ {b:Nat} {e3:Obj},g4 b=some e3->g9 b=some e3:=λ{b e3} au=>by
   have b3:b≠eo:=λe=>by rw[e,f74] at au;cases au
   have bW:b≠fG:=λe=>by rw[e,f84] at au;cases au
   rw[eO b b3,eT b bW];exact Ud.get au
  have Ue:bL g4 g9:=λb au=>by
   cases bR:g4 b with
   | none=>exact absurd bR au
   | some e3=>exact Mq bR
  have mN:=Mp.bD F Ue
  have Bc:=iU.bD Ue
  have nx:=Mq (D9 lW)
  have Bh:=Mq (D9 rA)
  have agz:¬cH G B ds cN eo:=Mp.r.out F.c.o f74
  have d72:ay≠eo:=λe=>by have:=D9 rA;rw[e,f74] at this;cases this
  have d71:ae≠eo:=λe=>by have:=D9 lW;rw[e,f74] at this;cases this
  have ayZ:eo≠x.cz:=λe=>by have:=Mp.cp;rw[<-e,f74] at this;cases this
  have eb:∀q,s1.q=some q->q.b≠ay:=λq aj=>(c1.jD q aj).2.2.1
  refine⟨λdJ et t6 bG fT ez jG bo=>(⟨ae,0⟩:aD)=dJ/\(⟨ay,0⟩:aD)=et/\s1=bG/\kq o=fT/\(⟨eo,0⟩:aD)=ez/\mask (r.2.2.1&&o.isSome)=jG/\fX G ws B X x (a+X.K) (e+X.K).rd r.1 eL ds cN bo/\bT (cH G B es gs) h (cH G B ds cN) bo/\bo ae=some (.cells #[bg ⟨x.cz,0⟩] 27 (0,0))/\bo ay=some (.cells #[.bool (r.2.2.1&&o.isNone)] 4 (0,0))/\bo eo=some (.cells (af.cells (.ws 12 (m4 r.2.1))).toArray 56 (0,0))/\cF 9 iG h bo s1 r.2.2.2,?_,?_⟩
  .refine⟨_,az Bh rfl,?_⟩
   cases jj:r.2.2.1 with
   | false =>
    refine bS rfl ⟨rfl,rfl,rfl,rfl,rfl,rfl,mN,v9,nx,?_,gd,Bc⟩
    rw[jj] at Bh;exact Bh
   | true =>
    refine dg rfl (lu v9 f20 Bh rfl λqu v10 sd fO=>⟨rfl,rfl,rfl,rfl,rfl,?_,mN.same λy aB=>fO y λe=>?_,v10,(fO ae d12).trans nx,?_,(fO eo (Ne.symm d72)).trans gd,Bc.move λq aj=>fO _ (eb q aj)⟩)
    .rw[Bool.true_and]
    .rcases aB with aB|aB
     .exact gf (e▸aB)
     .exact bz (e.symm.trans aB)
    .rw[sd,agt,Bool.true_and];cases o<;>rfl
  rintro dJ et t6 bG fT ez jG bo ⟨rfl,rfl,rfl,rfl,rfl,rfl,Mr,agA,Ms,agB,agC,Mt⟩
  refine⟨some ⟨x.cz,0⟩,az Ms rfl,_,rfl,some ⟨B.m.b,0⟩,az Mr.cp rfl,some ⟨x.cz,0⟩,az Ms rfl,_,rfl,_,az Mr.cp rfl,_,dv agC,?_⟩
  refine(TF F Mr (by show(e+X.K).n+1<=10000;rw[Go.Proofs.Tryz.c1.iT];omega) (kq o) (m4 r.2.1) (r.2.2.1&&o.isSome)).mono ?_
  rintro _ sh ⟨agD,D_,rfl,wN,v11⟩
  have hY:(if (kq o).toNat<X.sp/\(r.2.2.1&&o.isSome)=true then hO r.1 (0,(kq o).toNat) (m4 r.2.1) else r.1)=D6 r o:=by
   unfold D6
   by_cases c:(r.2.2.1&&o.isSome)=true
   .rw[if_pos c]
    cases o with
    | none=>simp at c
    | some i =>
     have hi:=(AN dS).1
     have ix:=F.c.sp
     have:(kq (some i)).toNat=i:=by show(UInt64.ofNat i).toNat=i;rw[UInt64.toNat_ofNat'];omega
     rw[if_pos ⟨by rw[this];exact hi,c⟩]
   .rw[if_neg c,if_neg (λh=>c h.2)]
  rw[hY] at wN
  have Uf:∀ {b:Nat} {e3:Obj},bo b=some e3->¬cH G B ds cN b->sh b=some e3/\¬cH G B D_ cN b:=λau aH=>⟨v11.get au aH,v11.out (by rw[au];simp) aH⟩
  obtain⟨H0,agE⟩:=Uf Ms cA
  obtain⟨Ug,agF⟩:=Uf agB gf
  have agG:=agA.trans v11
  have Mu:cF 9 iG h sh s1 r.2.2.2:=Mt.move λq aj=>v11.2.1 _ (Mt.bl aj).2 (tp q aj)
  have Mv:∀q,s1.q=some q->¬cH G B D_ cN q.b:=λq aj=>v11.out (Mt.bl aj).2 (tp q aj)
  refine⟨rfl,λft hS t8 bX rv=>(⟨ae,0⟩:aD)=ft/\(⟨ay,0⟩:aD)=hS/\∃L:List (Nat×c0),fN iG rv bX L/\L.length=X.K/\(∀q,bX.q=some q->0<L.length->¬cH G B D_ cN q.b)/\((r.2.2.1&&o.isNone)=true->L=r.2.2.2)/\bL sh rv,?_,?_⟩
  .refine⟨_,az Ug rfl,?_⟩
   cases Bi:(r.2.2.1&&o.isNone) with
   | true =>
    have jj:r.2.2.1=true:=(Bool.and_eq_true _ _▸Bi:_/\_).1
    have Bf:=hlen jj
    exact bS rfl ⟨rfl,rfl,r.2.2.2,Mu.rd,by rw[Bf];simp,λq aj _=>Mv q aj,λ_=>rfl,bL.refl _⟩
   | false =>
    refine dg rfl ⟨some ⟨x.cz,0⟩,az H0 rfl,_,rfl,_,az wN.cp rfl,by omega,by omega,by omega,by omega,bM λo1 rv f12 hQ kU=>?_⟩
    rw[Int.toNat_natCast] at hQ ⊢
    rw[agu] at hQ
    refine⟨rfl,rfl,List.replicate X.K (0,jB),(cF.qz (k:=9) uR (h0:=sh) f12 hQ rfl (by simp)).rd,by simp,λq aj _=>?_,(λh=>by cases h),kU⟩
    cases aj
    exact wN.r.out F.c.o f12
  rintro ft hS t8 bX rv ⟨rfl,rfl,L,rs,dY,agH,Bi,kU⟩
  have H2:(r.2.2.1&&o.isNone)=true->L=r.2.2.2/\L.length=X.K:=λh=>⟨Bi h,dY⟩
  have heq:=Ua (G:=G) (w:=λp=>ws.getD p 0) F.c.sp key cell on S aP dS H2
  rw[heq] at fI
  refine agl F (wN.bD F kU) (by omega) (by show(e+X.K).n+1+1+X.K<=9500;rw[Go.Proofs.Tryz.c1.iT];omega) (kU.get H0) (kU.get Ug) agE agF rs dY agH (λh y aB=>yL y (by rw[<-Bi h];exact aB)) λb_ aW cN ah dm fZ=>fI _ _ ⟨b_,aW,cN,rfl,?_,agG.trans ((hF kU _).trans fZ)⟩
  have:=dm
  rw[show a+2*X.K=a+X.K+X.K by omega]
  exact this
end

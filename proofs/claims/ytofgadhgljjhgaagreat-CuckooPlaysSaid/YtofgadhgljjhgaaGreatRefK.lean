import Derived.Test.YtofgadhgljjhgaaGreatCukF
import Derived.Test.YtofgadhgljjhgaaGreatCukQ
import Derived.Test.YtofgadhgljjhgaaGreatRefT
namespace Go.cD
theorem aso (x:UInt64):dD x (UInt64.toNat 29)=x/536870912:=by
 apply UInt64.toNat_inj.1
 unfold dD
 rw[show 2 ^ (min (UInt64.toNat 29) 64)=536870912 from rfl,UInt64.toNat_ofNat',UInt64.toNat_div]
 have:=x.toNat_lt
 show x.toNat/536870912%2 ^ 64=x.toNat/536870912
 omega
theorem asp (x:UInt64):dD x (UInt64.toNat 32)=x/4294967296:=by
 apply UInt64.toNat_inj.1
 unfold dD
 rw[show 2 ^ (min (UInt64.toNat 32) 64)=4294967296 from rfl,UInt64.toNat_ofNat',UInt64.toNat_div]
 have:=x.toNat_lt
 show x.toNat/4294967296%2 ^ 64=x.toNat/4294967296
 omega
theorem asq (x:UInt64):ti x (UInt64.toNat 1) ||| 1=2*x+1:=by
 apply UInt64.toNat_inj.1
 have h:=x.toNat_lt
 have e:(ti x (UInt64.toNat 1)).toNat=2 ^ 1*(x.toNat%2 ^ 63):=by
  unfold ti cI
  rw[show((2:Int) ^ (min (UInt64.toNat 1) 64))=2 from rfl,UInt64.toNat_ofNat']
  omega
 rw[UInt64.toNat_or,e,show UInt64.toNat 1=1 from rfl,<-Nat.two_pow_add_eq_or_of_lt (by decide),UInt64.toNat_add,UInt64.toNat_mul,show UInt64.toNat 1=1 from rfl,show UInt64.toNat 2=2 from rfl]
 omega
theorem asr (x:UInt64):A3 x=(x ^^^ x/536870912)*11400714819323198485 ^^^ (x ^^^ x/536870912)*11400714819323198485/4294967296:=by
 unfold A3
 rw[asp,aso]
theorem aa3 {key:UInt64}{d:c0}(h0:d[0]=1)(aa:d[1]=key+1):kn key (hW d)=some d[2]:=by
 have e:(m3 d).1=key:=by
  show d[1]-1=key
  rw[aa]
  apply UInt64.toNat_inj.1
  rw[UInt64.toNat_sub,UInt64.toNat_add]
  have:=key.toNat_lt
  simp;omega
 unfold hW kn
 rw[if_pos h0];simp only;rw[if_pos e];rfl
theorem Ka {key:UInt64}{d:c0}(h:d[0]=1->d[1]≠key+1):kn key (hW d)=none:=by
 unfold hW
 by_cases h0:d[0]=1
 .rw[if_pos h0]
  unfold kn
  simp only
  rw[if_neg]
  intro e
  refine h h0 ?_
  rw[<-show d[1]-1=key from e]
  apply UInt64.toNat_inj.1
  rw[UInt64.toNat_add,UInt64.toNat_sub]
  have:=d[1].toNat_lt
  simp;omega
 .rw[if_neg h0];rfl
end Go.cD
namespace Go.Proofs.Tryz
open Go Go.cD Go.RowKit
set_option maxRecDepth 8000
theorem ass {a b c d:UInt64}{k t:Nat}{key:UInt64}(ag:k<=3):pH a b c d (2 ^ k) t key=(A3 (key*(2*(if t=0 then a else c)+1)+(if t=0 then b else d))%cI ((2 ^ k:Nat):Int)).toNat:=by
 have rp:1<=2 ^ k:=Nat.one_le_two_pow
 have rq:2 ^ k<=2 ^ 3:=Nat.pow_le_pow_right (by decide) ag
 unfold pH
 rw[asq,UInt64.toNat_and,bf (by omega) (by omega),show((2 ^ k:Nat):Int)-1=((2 ^ k-1:Nat):Int) by omega,uh (by omega),UInt64.toNat_mod,uh (by omega)]
 exact Nat.and_two_pow_sub_one_eq_mod _ _
theorem aa4 (x:UInt64):eW prog 125 [ab x] (ab (A3 x)):=by
 intro h
 refine apP _ ?_
 unfold ZU
 refine⟨by decide,by decide,?_,bL.refl h⟩
 rw[asr]
theorem ast {k:Nat}(ag:k<=3)(a b c d:UInt64){t:Nat}(bw:t<2)(key:UInt64):eW prog 101 [.agg #[ab a,ab b,ab c,ab d],U t,ab key,U ((2 ^ k:Nat):Int)] (U (pH a b c d (2 ^ k) t key:Nat)):=by
 intro h
 have rp:1<=2 ^ k:=Nat.one_le_two_pow
 have rq:2 ^ k<=2 ^ 3:=Nat.pow_le_pow_right (by decide) ag
 have lV:=L2 (a:=a) (b:=b) (c:=c) (d:=d) (t:=t) (key:=key) rp (by omega)
 rw[ass ag] at lV ⊢
 refine aph _ _ _ _ _ _ _ ?_
 unfold ZH
 refine bM λae aa f1 aF aE=>⟨λaw bq aA q1 aL ad bP=>(t:Int)=aw/\key=bq/\((2 ^ k:Nat):Int)=aA/\(⟨ae,0⟩:aD)=q1/\aa=ad/\∃j:Nat,aL=((2 ^ j:Nat):Int)/\j<=k/\bP=k-j,⟨k,rfl,rfl,rfl,rfl,rfl,0,rfl,by omega,rfl⟩,?_⟩
 rintro aw bq aA q1 aL ad bP ⟨rfl,rfl,rfl,rfl,rfl,j,rfl,aV,rfl⟩
 refine cd (λca=>?_) λdx=>?_
 .have j6:j<k:=by
   rcases Nat.lt_or_ge j k with h|h
   .exact h
   .have:j=k:=by omega
    subst this;omega
  have ad:2 ^ (j+1)<=2 ^ k:=Nat.pow_le_pow_right (by decide) j6
  have an:2 ^ (j+1)=2*2 ^ j:=by rw[Nat.pow_succ];omega
  refine dg (show decide (((2 ^ j:Nat):Int)<1024)=true from decide_eq_true (by omega)) ⟨k-(j+1),by omega,rfl,rfl,rfl,rfl,rfl,j+1,?_,by omega,rfl⟩
  rw[bf (by omega) (by omega),an];omega
 .have j6:j=k:=by
   rcases Nat.lt_or_ge j k with h|h
   .have:=Nat.pow_lt_pow_right (a:=2) (by decide) h
    omega
   .omega
  subst j6
  refine bS (by simp) (bS (show decide ((t:Int)<0)=false from decide_eq_false (by omega)) (bS (show decide (1<(t:Int))=false from decide_eq_false (by omega)) ⟨_,az aF rfl,_,az aF rfl,?_⟩))
  have bc:cI ((2 ^ j:Nat):Int)=0->False:=λe=>by
   have:=congrArg UInt64.toNat e
   rw[uh (by omega)] at this
   simp at this
  have:t=0∨t=1:=by omega
  rcases this with rfl|rfl
  .refine bS rfl ((aa4 _).to λg aC=>⟨_,rfl,bc,?_,aE.trans aC⟩)
   rw[if_pos rfl,if_pos rfl] at lV ⊢
   rw[bf (by omega) (by omega)]
  .refine dg rfl ⟨_,az aF rfl,_,az aF rfl,(aa4 _).to λg aC=>⟨_,rfl,bc,?_,aE.trans aC⟩⟩
   rw[if_neg (by decide),if_neg (by decide)] at lV ⊢
   rw[bf (by omega) (by omega)]
section
variable {T:TypeId} {m:jw} {R:dF} {a7:List de} {es:ar} {h:ak}
theorem asu (M:cV T m R a7 es h){r:Nat}(aP:r<m.eX){key:Nat}(ag:key<12)(n:UInt64)(aT:a7.length<4000000000000) :
 ao 100 [bg ⟨m.b,0⟩,U r,U key,ab n] h λv ah=>∃aW,v= .tuple #[ab (kq (gu (λi=>(R r i)[key]==n) (m.cf r))),ea (tj (R r) (gu (λi=>(R r i)[key]==n) (m.cf r))),ab (mask (gu (λi=>(R r i)[key]==n) (m.cf r)).isSome)]/\cV T m R (a7++reads r (m.cf r)) aW ah/\bT (bF m es) h (bF m aW) ah:=by
 have oD:=M.cf r aP
 refine apf _ _ _ _ ?_
 unfold ZG
 refine bM λae aa f1 aF aE=>bM λay ad f2 a8 aC=>?_
 have cA:ay≠ae:=λe=>by rw[e,aF] at f2;cases f2
 have M2:=M.bD (aE.trans aC)
 have f20:=aE.free f2
 generalize aS:(λi=>(R r i)[key]==n)=p at *
 refine⟨λq1 aw aA bq aJ bz b8 bd aL g k=>q1=⟨m.b,0⟩/\aw=r/\aA=key/\n=bq/\aJ=⟨ae,0⟩/\bd=⟨ay,0⟩/\∃i aW,aL=(i:Nat)/\i<=m.cf r/\k=m.cf r-i/\bz=kq (gu p i)/\b8=mask (gu p i).isSome/\cV T m R (a7++reads r i) aW g/\bT (bF m es) h (bF m aW) g/\¬bF m aW ae/\¬bF m aW ay /\
  g ae=some (.cells (af.cells (.ws 12 e6)).toArray 56 (0,0))/\g ay=some (.cells (af.cells (.ws 12 (tj (R r) (gu p i)))).toArray 56 (0,0)),
  ⟨m.cf r,rfl,rfl,rfl,rfl,rfl,rfl,0,es,rfl,by omega,rfl,rfl,rfl,by simpa [reads] using M2,hF (aE.trans aC) _,M.out f1,M.out f20,aC.get aF,a8⟩,?_⟩
 rintro q1 aw aA bq aJ bz b8 bd aL g k ⟨rfl,rfl,rfl,rfl,rfl,rfl,i,aW,rfl,hi,rfl,rfl,rfl,gk,fS,e1,kp,g1,g2⟩
 have qv:=wG r i
 refine(sq gk aP).mono ?_
 rintro _ _ ⟨rfl,rfl⟩
 refine⟨_,rfl,cd (λca=>?_) λdx=>?_⟩
 .have b5:i<m.cf r:=by omega
  refine(tJ gk aP b5 (by rw[List.length_append,qv];omega)).mono ?_
  rintro _ g3 ⟨gQ,rfl,gj,v3⟩
  have lv:=fS.trans v3
  have mj:=v3.get g1 e1
  have si:=v3.get g2 kp
  have nz:=v3.out (by rw[g1];simp) e1
  have vR:=v3.out (by rw[g2];simp) kp
  refine⟨_,rfl,bM λaN g4 f4 b1 bh=>fB (n:=12) (lv.more bh) (lv.2.2 aN f4) b1 rfl λg5 v5 cy cm=>?_⟩
  have n31:ae≠aN:=λe=>by rw[<-e,mj] at f4;cases f4
  have n32:ay≠aN:=λe=>by rw[<-e,si] at f4;cases f4
  have pI:=(cm ae n31).trans (bh.get mj)
  have xQ:=(cm ay n32).trans (bh.get si)
  have ij:=(gj.bD bh).move λy aB=>cm y λe=>gj.out f4 (e▸aB)
  rw[List.append_assoc,<-HE] at ij
  have tk:((R r i)[key]==n)=p i:=by rw[<-aS]
  refine dg (decide_eq_true (by omega)) (dg (show decide ((key:Int)<12)=true from decide_eq_true (by omega)) ?_)
  have zS:∀ {bW:ak} {bz b8:UInt64},bz=kq (gu p (i+1))->b8=mask (gu p (i+1)).isSome->cV T m R (a7++reads r (i+1)) gQ bW->bT (bF m es) h (bF m gQ) bW->bW ae=g5 ae->bW ay=some (.cells (af.cells (.ws 12 (tj (R r) (gu p (i+1))))).toArray 56 (0,0))->∀ {P:Nat->Prop},(∀aI,aI=m.cf r-(i+1)->(∃i2 ds,al ((i:Int)+1)=(i2:Nat)/\i2<=m.cf r/\aI=m.cf r-i2/\bz=kq (gu p i2)/\b8=mask (gu p i2).isSome/\cV T m R (a7++reads r i2) ds bW/\bT (bF m es) h (bF m ds) bW/\¬bF m ds ae/\¬bF m ds ay/\bW ae=some (.cells (af.cells (.ws 12 e6)).toArray 56 (0,0))/\bW ay=some (.cells (af.cells (.ws 12 (tj (R r) (gu p i2)))).toArray 56 (0,0)))->P aI)->∃aI,aI<m.cf r-i/\P aI:=λ{bW bz b8} aq aM a3 a4 a5 iB P iC =>
   ⟨m.cf r-(i+1),by omega,iC _ rfl ⟨i+1,gQ,bf (by omega) (by omega),by omega,rfl,aq,aM,a3,a4,nz,vR,a5.trans pI,iB⟩⟩
  cases aU:gu p i with
  | some j =>
   have px:gu p (i+1)=some j:=by rw[A4,aU]
   refine bS (by rw[show mask (some j).isSome=18446744073709551615 from rfl];rfl) ?_
   rw[aU] at xQ
   exact zS (by rw[px]) (by rw[px]) ij v5 rfl (by rw[px];exact xQ) λaI xL ⟨i2,ds,bR⟩=>⟨rfl,rfl,rfl,rfl,rfl,rfl,i2,ds,bR⟩
  | none =>
   refine dg rfl ⟨by omega,by omega,_,by rw[show 0+Int.toNat (key:Int)*1=key by simp];exact fb cy ag,?_⟩
   rw[aU] at xQ
   refine h4 (λai=>?_) λai=>?_
   .have ai:decide ((R r i)[key]=n)=true:=ai
    have PT:p i=true:=by rw[<-tk];exact beq_iff_eq.2 (of_decide_eq_true ai)
    have px:gu p (i+1)=some i:=by rw[A4,aU,PT];rfl
    refine⟨_,dv cy,fB (n:=12) v5 f20 xQ (by simp[af.cells]) λg6 v6 dE dZ=>?_⟩
    exact zS (by rw[px];exact jk (by omega)) (by rw[px];rfl) (ij.move λy aB=>dZ y λe=>vR (e▸aB)) v6 (dZ _ (Ne.symm cA)) (by rw[px];exact dE) λaI xL ⟨i2,ds,bR⟩=>⟨rfl,rfl,rfl,rfl,rfl,rfl,i2,ds,bR⟩
   .have ai:decide ((R r i)[key]=n)=false:=ai
    have PT:p i=false:=by rw[<-tk];exact beq_eq_false_iff_ne.2 (of_decide_eq_false ai)
    have px:gu p (i+1)=none:=by rw[A4,aU,PT];rfl
    exact zS (by rw[px]) (by rw[px]) ij v5 rfl (by rw[px];exact xQ) λaI xL ⟨i2,ds,bR⟩=>⟨rfl,rfl,rfl,rfl,rfl,rfl,i2,ds,bR⟩
 .have:i=m.cf r:=by omega
  subst this
  refine⟨_,dv g2,fB (n:=12) fS f1 g1 (by simp[af.cells]) λg5 v5 cy cm=>⟨_,dv cy,aW,rfl,gk.move λy aB=>cm y λe=>e1 (e▸aB),v5⟩⟩
end
def MQ (B:lT)(X:ek)(y:ko):Array Value:=#[bg ⟨B.cr,0⟩,bg ⟨B.m.b,0⟩,U 0,U X.T,U X.K,ab y.a,ab y.b,ab y.c,ab y.d]
structure lq (G:cG)(B:lT)(X:ek)(y:ko):Prop where
 c:pF G X
 st:PU G B
 k:∃k,k<=3/\X.T=2 ^ k
 pl:∀t key,X.pl t key=pH y.a y.b y.c y.d X.T t key
 eX:0<B.m.eX
 cf:B.m.cf 0=X.sp
 K:X.K<=16
structure gw (G:cG)(ws:List UInt64)(B:lT)(X:ek)(y:ko)(a:Nat)(e:c1)(S:cU)(a7:List de)(V:jz)(h:ak):Prop where
 r:hr G ws B S a7 V h
 p:h3 G (λp=>ws.getD p 0) a S
 oF:a7=oE G X.sp (wH S.gone) e
 oG:e.a=a
 cp:h y.cz=some (.cells (MQ B X y) 172 (0,0))
 jA:¬c8 B G.L V y.cz
 sw:∀q,B.dQ.q=some q->0<ws.length->q.b≠y.cz
 q:nE (G.d_ 0) (G.b2 0 S.R)
 wX:∀i,(S.ids i).length<=a
section
variable {G:cG} {ws:List UInt64} {B:lT} {X:ek} {y:ko} {a:Nat} {e:c1} {S:cU} {a7:List de} {V:jz} {h ah:ak}
theorem gw.bD (R:gw G ws B X y a e S a7 V h)(F:lq G B X y)(k:bL h ah):gw G ws B X y a e S a7 V ah:=⟨R.r.bD F.c.o k,R.p,R.oF,R.oG,k.get R.cp,R.jA,R.sw,R.q,R.wX⟩
theorem gw.dn (R:gw G ws B X y a e S a7 V h)(F:lq G B X y){z:Nat}(bc:c8 B G.L V z∨z=y.cz):h z≠none:=by
 rcases bc with bc|rfl
 .exact R.r.ml F.c.o bc
 .rw[R.cp];simp
theorem gw.new (R:gw G ws B X y a e S a7 V h){b:Nat}{h0:ak}{F0:Nat->Prop}(v:bT F0 h0 (c8 B G.L V) h)(au:h0 b=none)(hw:∀q,B.dQ.q=some q->0<ws.length->h0 q.b≠none)(ai:h0 y.cz≠none)(hg:¬c8 B G.L V b)(o:∀z,z≠b->ah z=h z):gw G ws B X y a e S a7 V ah :=
 ⟨R.r.loc hg (λq aj aT e=>hw q aj aT (e▸au)) o,R.p,R.oF,R.oG,(o _ λe:y.cz=b=>ai (by rw[e];exact au)).trans R.cp,R.jA,R.sw,R.q,R.wX⟩
theorem gw.loc (R:gw G ws B X y a e S a7 V h)(F:lq G B X y){b:Nat}{aa ad:ak}(f:h b=none)(k:bL h aa)(cm:∀z,z≠b->ad z=aa z):gw G ws B X y a e S a7 V ad :=
 (R.bD F k).new (hF k _) f (λq aj aT=>(R.r.kj q aj aT).1) (by rw[R.cp];simp) (R.r.out F.c.o f) cm
theorem gw.el (R:gw G ws B X y a e S a7 V h)(F:lq G B X y):a7.length<=5000000*e.n:=by rw[R.oF];exact DO F.c.o F.c.sp _ _
theorem CJ (F:lq G B X y)(R:gw G ws B X y a e S a7 V h)(bO:a<=10000)(he:e.n<=10000){op:fg}{k:Int}{d:c0}(fY:yG op k 0 d)(ag:k=0∨k=1∨k=3)(aj:∀old there z,j8 old->op.now old there=some z->j8 z){x:Nat}(ai:x<2*X.T) :
 ao 98 [bg ⟨B.cr,0⟩,U k,ab (UInt64.ofNat x),ea d] h λr ah=>∃b_ cB,r= .tuple #[ea (c3 G (λp=>ws.getD p 0) op x S).2.1,.bool (c3 G (λp=>ws.getD p 0) op x S).2.2]/\gw G ws B X y (a+1) (e+1) (c3 G (λp=>ws.getD p 0) op x S).1 b_ cB ah/\bT (c8 B G.L V) h (c8 B G.L cB) ah/\j8 (c3 G (λp=>ws.getD p 0) op x S).2.1:=by
 have o:=F.c.o
 have dY:=o.L
 have aa:2*G.L*a<=2*4*10000:=Nat.mul_le_mul (by omega) bO
 have ad:G.L*a<=4*10000:=Nat.mul_le_mul (by omega) bO
 have hu:=R.p.us
 have c_:=R.p.oy
 have yH:=R.el F
 have gV:x<2 ^ G.m:=by rw[F.c.m];exact ai
 have Kb:=R.wX
 refine(asv o F.st R.r fY ag gV R.p.eJ R.p.us R.p.oy (by omega) (by omega) (by omega) λi=>Nat.lt_of_le_of_lt (Kb i) (by omega)).mono ?_
 rintro _ g ⟨b_,cB,rfl,dm,fZ,m5⟩
 obtain⟨q1,aJ⟩:=agL o R.p (by omega) gV aj R.q
 refine⟨b_,cB,rfl,⟨dm,R.p.acc o (by omega) gV,?_,congrArg (·+1) R.oG,fZ.get R.cp R.jA,fZ.out (by rw[R.cp];simp) R.jA,R.sw,q1,λi=>Nat.le_trans (ajs op x S i) (Nat.succ_le_succ (Kb i))⟩,fZ,aJ⟩
 obtain⟨l,aT⟩:=TE (G:=G) (w:=λp=>ws.getD p 0) (op:=op) (x:=x) (S:=S)
 have DP:=R.oG
 rw[m5,R.oF,aT]
 show _=oE G X.sp (wH (S.gone++l)) e++qw G.m G.s G.t G.L G.f ((wH (S.gone++l)).drop (G.L*e.a))
 unfold wH
 rw[List.map_append,DM e (by rw[List.length_map,DP,c_];exact Nat.le_refl _),DP,<-c_,List.drop_left]
 congr 2
 rw[<-List.map_append,<-List.map_drop,List.drop_left]
theorem nE.hO (c:pF G X){q:nE (G.d_ 0) (G.b2 0 S.R)}{i:Nat}{z:cv}:nE (G.d_ 0) (G.b2 0 (hO S (0,i) z).R):=q.view λr j aP=>by
 show fA S.R (0,i) z (G.base 0+r) j=_
 unfold fA cG.base
 rw[if_neg (by simp)];rfl
theorem aa5 (F:lq G B X y)(R:gw G ws B X y a e S a7 V h)(he:e.n<=10000)(at_:UInt64)(c:cv)(d:Bool) :
 ao 103 [bg ⟨B.m.b,0⟩,U 0,ab at_,ea c,ab (mask d)] h λv ah=>∃b_ cB,v= .tuple #[]/\gw G ws B X y a e.wr (if at_.toNat<X.sp/\d=true then hO S (0,at_.toNat) c else S) b_ cB ah/\bT (c8 B G.L V) h (c8 B G.L cB) ah:=by
 have yH:=R.el F
 refine(aa6 R.r.mem F.eX at_ c d (by omega)).mono ?_
 rintro _ g ⟨aW,rfl,M,v⟩
 obtain⟨c4,eY⟩:=R.r.uL F.c.o M v
 rw[F.cf] at c4
 refine⟨a7++writes ((0:Nat):Int) X.sp,_,rfl,⟨?_,?_,?_,R.oG,eY.get R.cp R.jA,eY.out (by rw[R.cp];simp) R.jA,R.sw,?_,?_⟩,eY⟩
 .by_cases aQ:at_.toNat<X.sp/\d=true
  .rw[if_pos aQ] at c4 ⊢;exact c4
  .rw[if_neg aQ] at c4 ⊢;exact c4
 .by_cases aQ:at_.toNat<X.sp/\d=true
  .rw[if_pos aQ];exact R.p.hO F.c.f
  .rw[if_neg aQ];exact R.p
 .rw[R.oF]
  by_cases aQ:at_.toNat<X.sp/\d=true
  .rw[if_pos aQ];rfl
  .rw[if_neg aQ];rfl
 .by_cases aQ:at_.toNat<X.sp/\d=true
  .rw[if_pos aQ];exact nE.hO F.c (q:=R.q)
  .rw[if_neg aQ];exact R.q
 .by_cases aQ:at_.toNat<X.sp/\d=true
  .rw[if_pos aQ];exact R.wX
  .rw[if_neg aQ];exact R.wX
theorem aa7 (F:lq G B X y)(R:gw G ws B X y a e S a7 V h)(he:e.n<=10000){key:Nat}(ag:key<12)(n:UInt64) :
 ao 100 [bg ⟨B.m.b,0⟩,U 0,U key,ab n] h λv ah=>∃b_ cB,v= .tuple #[ab (kq (gu (λi=>(S.R 0 i)[key]==n) X.sp)),ea (tj (S.R 0) (gu (λi=>(S.R 0 i)[key]==n) X.sp)),ab (mask (gu (λi=>(S.R 0 i)[key]==n) X.sp).isSome)]/\gw G ws B X y a e.rd S b_ cB ah/\bT (c8 B G.L V) h (c8 B G.L cB) ah:=by
 have yH:=R.el F
 refine(asu R.r.mem F.eX ag n (by omega)).mono ?_
 rintro _ g ⟨aW,rfl,M,v⟩
 obtain⟨c4,eY⟩:=R.r.uL F.c.o M v
 rw[F.cf] at c4 ⊢
 exact⟨_,_,rfl,⟨c4,R.p,by rw[R.oF];rfl,R.oG,eY.get R.cp R.jA,eY.out (by rw[R.cp];simp) R.jA,R.sw,R.q,R.wX⟩,eY⟩
theorem PV (F:lq G B X y){t:Nat}(bw:t<2)(key:UInt64):eW prog 101 [.agg #[ab y.a,ab y.b,ab y.c,ab y.d],U t,ab key,U (X.T:Nat)] (U (X.pl t key:Nat)):=by
 obtain⟨k,ag,fW⟩:=F.k
 have aZ:=ast ag y.a y.b y.c y.d bw key
 rw[<-fW,<-F.pl] at aZ
 exact aZ
theorem Kc (F:lq G B X y)(cp:h y.cz=some (.cells (MQ B X y) 172 (0,0))){t:Nat}(bw:t<2)(key:UInt64):ao 99 [bg ⟨y.cz,0⟩,U t,ab key] h λv ah=>v=ab (UInt64.ofNat (X.bl t key))/\bL h ah:=by
 refine apd _ _ _ ?_
 unfold ZF
 refine⟨_,az cp rfl,_,az cp rfl,_,az cp rfl,_,az cp rfl,_,az cp rfl,_,az cp rfl,(PV F bw key).to λg aE=>⟨_,rfl,⟨az (aE.get cp) rfl,trivial⟩,?_,aE⟩⟩
 have fW:=F.c.T
 have ca:=F.c.fv.pl t key
 have hm:(t:Int)*(X.T:Int)=((t*X.T:Nat):Int):=by rw[Int.natCast_mul]
 have aa:t*X.T<=1*1000:=Nat.mul_le_mul (by omega) fW
 rw[hm,bf (n:=((t*X.T:Nat):Int)) (by omega) (by omega),bf (by omega) (by omega),show((t*X.T:Nat):Int)+((X.pl t key:Nat):Int)=((t*X.T+X.pl t key:Nat):Int) by omega,jk (by omega)]
 rfl
theorem PW (F:lq G B X y)(R:gw G ws B X y a e S a7 V h)(bO:a<=10000)(he:e.n<=10000) :
 ao 102 [bg ⟨y.cz,0⟩] h λv ah=>∃b_ cB,v= .tuple #[]/\gw G ws B X y (a+1) (e+1) (kC G (λp=>ws.getD p 0) S) b_ cB ah/\bT (c8 B G.L V) h (c8 B G.L cB) ah:=by
 refine apj _ ?_
 unfold ZI
 have fW:=F.c.fv.T
 refine⟨some ⟨B.cr,0⟩,az R.cp rfl,?_⟩
 refine(CJ F R bO he (op:= .look) (k:=0) (d:=jB) rfl (.inl rfl) (λold there z q h=>by cases there with
  | true=>exact Option.some.inj h▸q
  | false=>cases h) (x:=0) (by omega)).mono ?_
 rintro _ g ⟨b_,cB,rfl,dm,v,_⟩
 exact⟨_,_,rfl,b_,cB,rfl,dm,v⟩
theorem aa8:∀(old:c0) (there:Bool) (z:c0),j8 old->fg.now .look old there=some z->j8 z:=λold there z q h=>by
 cases there with
 | true=>exact Option.some.inj h▸q
 | false=>cases h
theorem afG (F:lq G B X y)(R:gw G ws B X y a e S a7 V h)(bO:a<=9000)(he:e.n<=9000)(key:UInt64) :
 ao 55 [bg ⟨y.cz,0⟩,ab key] h λv ah=>∃b_ cB,v= .agg #[U (gK G (λp=>ws.getD p 0) X key S).2.1,ab (gK G (λp=>ws.getD p 0) X key S).2.2.1,ab (gK G (λp=>ws.getD p 0) X key S).2.2.2]/\gw G ws B X y (a+2) (e+2).rd (gK G (λp=>ws.getD p 0) X key S).1 b_ cB ah/\bT (c8 B G.L V) h (c8 B G.L cB) ah:=by
 suffices H:∀Q:Value->ak->Prop,(∀v ah,(∃b_ cB,v= .agg #[U (gK G (λp=>ws.getD p 0) X key S).2.1,ab (gK G (λp=>ws.getD p 0) X key S).2.2.1,ab (gK G (λp=>ws.getD p 0) X key S).2.2.2]/\gw G ws B X y (a+2) (e+2).rd (gK G (λp=>ws.getD p 0) X key S).1 b_ cB ah/\bT (c8 B G.L V) h (c8 B G.L cB) ah)->Q v ah)->ao 55 [bg ⟨y.cz,0⟩,ab key] h Q from H _ λ_ _ h=>h
 intro Q fI
 have wW:gK G (λp=>ws.getD p 0) X key S=((c3 G (λp=>ws.getD p 0) .look (X.bl 1 key) (c3 G (λp=>ws.getD p 0) .look (X.bl 0 key) S).1).1,X.spot key (hW (c3 G (λp=>ws.getD p 0) .look (X.bl 0 key) S).2.1) (hW (c3 G (λp=>ws.getD p 0) .look (X.bl 1 key) (c3 G (λp=>ws.getD p 0) .look (X.bl 0 key) S).1).2.1) (S.R 0)):=rfl
 rw[wW] at fI
 refine an7 _ _ ?_
 unfold Zb
 refine bM λae aa f1 aF aE=>?_
 have fz:=R.bD F aE
 have e1:¬c8 B G.L V ae:=R.r.out F.c.o f1
 have hw:∀q,B.dQ.q=some q->0<ws.length->h q.b≠none:=λq aj aT=>(R.r.kj q aj aT).1
 have zQ:h y.cz≠none:=by rw[R.cp];simp
 refine⟨some ⟨B.cr,0⟩,az fz.cp rfl,(Kc F fz.cp (t:=0) (by decide) key).mono ?_⟩
 rintro _ ad ⟨rfl,aC⟩
 have c4:=fz.bD F aC
 refine⟨_,rfl,⟨az c4.cp rfl,trivial⟩,?_⟩
 refine(CJ F c4 (by omega) (by omega) (op:= .look) (k:=0) (d:=jB) rfl (.inl rfl) aa8 (x:=X.bl 0 key) (ek.lS F.c.fv (by decide) key)).mono ?_
 rintro _ an ⟨nX,kd,rfl,nA,v3,_⟩
 have lv:=(hF (aE.trans aC) (c8 B G.L V)).trans v3
 have mG:=v3.get (aC.get aF) e1
 have cJ:=v3.out (by rw[aC.get aF];simp) e1
 refine⟨_,_,rfl,bM λay aK f4 b1 bh=>?_⟩
 have f20:h ay=none:=lv.2.2 _ f4
 refine fB (n:=8) (lv.more bh) f20 b1 rfl λaR v5 cy cm=>?_
 have cA:ae≠ay:=λe=>by rw[<-e,mG] at f4;cases f4
 have oC:aR ae=_:=(cm ae cA).trans (bh.get mG)
 have n25:¬c8 B G.L kd ay:=nA.r.out F.c.o f4
 have jm:=nA.loc F f4 bh cm
 refine⟨some ⟨B.cr,0⟩,az jm.cp rfl,(Kc F jm.cp (t:=1) (by decide) key).mono ?_⟩
 rintro _ bp ⟨rfl,ch⟩
 have lX:=jm.bD F ch
 refine⟨_,rfl,⟨az lX.cp rfl,trivial⟩,?_⟩
 refine(CJ F lX (by omega) (by rw[c1.iT];omega) (op:= .look) (k:=0) (d:=jB) rfl (.inl rfl) aa8 (x:=X.bl 1 key) (ek.lS F.c.fv (by decide) key)).mono ?_
 rintro _ b3 ⟨Mh,l7,rfl,HM,ed,_⟩
 have HN:=(v5.more ch).trans ed
 have tg:=ed.get (ch.get oC) cJ
 have dp:=ed.out (by rw[ch.get oC];simp) cJ
 have aa9:=ed.get (ch.get cy) n25
 have n27:=ed.out (by rw[ch.get cy];simp) n25
 refine⟨_,_,rfl,bM λaN bW f8 fP eN=>?_⟩
 have f30:h aN=none:=HN.2.2 _ f8
 refine fB (n:=8) (HN.more eN) f30 fP rfl λb7 v9 gd eO=>?_
 have asw:ae≠aN:=λe=>by rw[<-e,tg] at f8;cases f8
 have asx:ay≠aN:=λe=>by rw[<-e,aa9] at f8;cases f8
 have nF:b7 ae=_:=(eO ae asw).trans (eN.get tg)
 have tr:b7 ay=_:=(eO ay asx).trans (eN.get aa9)
 have n39:¬c8 B G.L l7 aN:=HM.r.out F.c.o f8
 have mN:=HM.loc F f8 eN eO
 have yJ:(c3 G (λp=>ws.getD p 0) .look (X.bl 1 key) (c3 G (λp=>ws.getD p 0) .look (X.bl 0 key) S).1).1.R 0=S.R 0:=(rm F.c.f _ _ _).trans (rm F.c.f _ _ _)
 generalize (c3 G (λp=>ws.getD p 0) .look (X.bl 1 key) (c3 G (λp=>ws.getD p 0) .look (X.bl 0 key) S).1).2.1=d2 at *
 generalize (c3 G (λp=>ws.getD p 0) .look (X.bl 1 key) (c3 G (λp=>ws.getD p 0) .look (X.bl 0 key) S).1).1=fy at *
 generalize (c3 G (λp=>ws.getD p 0) .look (X.bl 0 key) S).2.1=d1 at *
 refine⟨some ⟨B.m.b,0⟩,az mN.cp rfl,_,az mN.cp rfl,?_⟩
 refine(aa7 F mN (by show(e+1+1).n<=10000;rw[c1.iT,c1.iT];omega) (key:=1) (by decide) (key+1)).mono ?_
 rintro _ ct ⟨ahF,I8,rfl,Ig,v10⟩
 rw[yJ]
 generalize dS:gu (λi=>(S.R 0 i)[1]==key+1) X.sp=o at *
 have aa_:=v9.trans v10
 have asy:=v10.get nF dp
 have asz:=v10.out (by rw[nF];simp) dp
 have PX:=v10.get tr n27
 have Ih:=v10.get gd n39
 refine⟨_,_,_,rfl,bM λbJ cw f11 nW hn=>?_⟩
 have f40:h bJ=none:=aa_.2.2 _ f11
 refine fB (n:=12) (aa_.more hn) f40 nW rfl λbK iI hQ gz=>?_
 have PY:∀ {b:Nat} {e3:Obj},ct b=some e3->bK b=some e3:=λ{b e3} au=>(gz b λe=>by rw[<-e,au] at f11;cases f11).trans (hn.get au)
 have lZ:=Ig.loc F f11 hn gz
 have asA:=PY asy
 have Kd:=PY PX
 have Ke:=PY Ih
 have azG:ae≠y.cz:=λe=>by have:=R.cp;rw[<-e,f1] at this;cases this
 have done:∀(s:rk),X.spot key (hW d1) (hW d2) (S.R 0)=s->∀g,bL bK g->aX g ⟨ae,0⟩ [U s.1,ab s.2.1,ab s.2.2] λcu=>∃aO:Int,br cu ae 0=some (U aO)/\∃fa:UInt64,br cu ae (0+1)=some (ab fa)/\∃fT:UInt64,br cu ae (0+1+1)=some (ab fT)/\Q (.agg #[U aO,ab fa,ab fT]) cu:=λs aU g cO=>by
  rw[aU] at fI
  have du:=lZ.bD F cO
  have fS:=iI.more cO
  refine lu fS f1 (cO.get asA) rfl λcu jF uW jW=>⟨_,az uW rfl,_,az uW rfl,_,az uW rfl,fI _ _ ⟨_,_,rfl,du.new fS f1 hw zQ asz jW,jF⟩⟩
 have fW:=F.c.T
 have aS:=λt=>F.c.fv.pl t key
 have aba:kn key (hW d1)=none->kn key (hW d2)=none->∀K:Value->ak->Prop,Q=K->aG (decide (0<mask o.isSome)) (Int.NonNeg 2/\Int.NonNeg 9/\∃ou:UInt64,br bK bJ 2=some (ab ou)/\aX bK ⟨ae,0⟩ [U 2,ab (kq o),ab ou] λcu=>∃aO:Int,br cu ae 0=some (U aO)/\∃fa:UInt64,br cu ae (0+1)=some (ab fa)/\∃fT:UInt64,br cu ae (0+1+1)=some (ab fT)/\K (.agg #[U aO,ab fa,ab fT]) cu)
  (aX bK ⟨ae,0⟩ [U (-1),ab 0,ab 0] λcu=>∃aO:Int,br cu ae 0=some (U aO)/\∃fa:UInt64,br cu ae (0+1)=some (ab fa)/\∃fT:UInt64,br cu ae (0+1+1)=some (ab fT)/\K (.agg #[U aO,ab fa,ab fT]) cu):=λaw aA K eM=>by
  subst eM
  cases o with
  | some i=>exact dg rfl ⟨Int.NonNeg.mk _,Int.NonNeg.mk _,_,fb hQ (i:=2) (by decide),done (2,UInt64.ofNat i,(S.R 0 i)[2]) (by unfold ek.spot;rw[aw,aA];simp only;rw[dS]) _ (bL.refl _)⟩
  | none=>exact bS rfl (done (-1,0,0) (by unfold ek.spot;rw[aw,aA];simp only;rw[dS]) _ (bL.refl _))
 have asB:kn key (hW d1)=none->d2[0]=1->d2[1]=key+1->X.spot key (hW d1) (hW d2) (S.R 0)=((1:Int),UInt64.ofNat (X.pl 1 key),d2[2]):=λaw h0 aa=>by unfold ek.spot;rw[aw,aa3 h0 aa]
 refine⟨Int.NonNeg.mk _,Int.NonNeg.mk _,_,fb Kd (i:=0) (by decide),?_⟩
 have sec:kn key (hW d1)=none->∀K:Value->ak->Prop,Q=K->Int.NonNeg 0/\Int.NonNeg 7/\∃jG:UInt64,br bK aN 0=some (ab jG)/\aG (decide (jG=1)) (Int.NonNeg 1/\Int.NonNeg 6/\∃jU:UInt64,br bK aN 1=some (ab jU)/\aG (bif true then decide (jU=key+1) else false) (∃jC:UInt64,br bK y.cz (0+5)=some (ab jC)/\∃jT:UInt64,br bK y.cz (0+5+1)=some (ab jT)/\∃lx:UInt64,br bK y.cz (0+5+1+1)=some (ab lx)/\∃ot:UInt64,br bK y.cz (0+5+1+1+1)=some (ab ot)/\∃bm:Int,br bK y.cz (0+3)=some (U bm)/\Int.NonNeg 2/\Int.NonNeg 5/\∃nn:UInt64,br bK aN 2=some (ab nn)/\ao 101 [.agg #[ab jC,ab jT,ab lx,ab ot],U 1,ab key,U bm] bK λed dM=>∃bx:Int,ed=U bx/\(br dM aN 2=some (ab nn)/\True)/\aX dM ⟨ae,0⟩ [U 1,ab (cI bx),ab nn] λcu=>∃aO:Int,br cu ae 0=some (U aO)/\∃fa:UInt64,br cu ae (0+1)=some (ab fa)/\∃fT:UInt64,br cu ae (0+1+1)=some (ab fT)/\K (.agg #[U aO,ab fa,ab fT]) cu)
  (aG (decide (0<mask o.isSome)) (Int.NonNeg 2/\Int.NonNeg 9/\∃ou:UInt64,br bK bJ 2=some (ab ou)/\aX bK ⟨ae,0⟩ [U 2,ab (kq o),ab ou] λcu=>∃aO:Int,br cu ae 0=some (U aO)/\∃fa:UInt64,br cu ae (0+1)=some (ab fa)/\∃fT:UInt64,br cu ae (0+1+1)=some (ab fT)/\K (.agg #[U aO,ab fa,ab fT]) cu)
   (aX bK ⟨ae,0⟩ [U (-1),ab 0,ab 0] λcu=>∃aO:Int,br cu ae 0=some (U aO)/\∃fa:UInt64,br cu ae (0+1)=some (ab fa)/\∃fT:UInt64,br cu ae (0+1+1)=some (ab fT)/\K (.agg #[U aO,ab fa,ab fT]) cu)))
  (aG (decide (0<mask o.isSome)) (Int.NonNeg 2/\Int.NonNeg 9/\∃ou:UInt64,br bK bJ 2=some (ab ou)/\aX bK ⟨ae,0⟩ [U 2,ab (kq o),ab ou] λcu=>∃aO:Int,br cu ae 0=some (U aO)/\∃fa:UInt64,br cu ae (0+1)=some (ab fa)/\∃fT:UInt64,br cu ae (0+1+1)=some (ab fT)/\K (.agg #[U aO,ab fa,ab fT]) cu)
   (aX bK ⟨ae,0⟩ [U (-1),ab 0,ab 0] λcu=>∃aO:Int,br cu ae 0=some (U aO)/\∃fa:UInt64,br cu ae (0+1)=some (ab fa)/\∃fT:UInt64,br cu ae (0+1+1)=some (ab fT)/\K (.agg #[U aO,ab fa,ab fT]) cu)):=λaw K eM=>by
  refine⟨Int.NonNeg.mk _,Int.NonNeg.mk _,_,fb Ke (i:=0) (by decide),?_⟩
  by_cases gG:d2[0]=1
  .refine dg (decide_eq_true gG) ⟨Int.NonNeg.mk _,Int.NonNeg.mk _,_,fb Ke (i:=1) (by decide),?_⟩
   by_cases aQ:d2[1]=key+1
   .refine dg (show decide (d2[1]=key+1)=true from decide_eq_true aQ) ⟨_,az lZ.cp rfl,_,az lZ.cp rfl,_,az lZ.cp rfl,_,az lZ.cp rfl,_,az lZ.cp rfl,Int.NonNeg.mk _,Int.NonNeg.mk _,_,fb Ke (i:=2) (by decide),?_⟩
    refine(PV F (t:=1) (by decide) key).to λg cO=>⟨_,rfl,⟨fb (cO.get Ke) (i:=2) (by decide),trivial⟩,?_⟩
    rw[jk (by have:=aS 1;omega),<-eM]
    exact done (1,UInt64.ofNat (X.pl 1 key),d2[2]) (asB aw gG aQ) g cO
   .exact bS (show decide (d2[1]=key+1)=false from decide_eq_false aQ) (aba aw (Ka λ_=>aQ) K eM)
  .exact bS (decide_eq_false gG) (aba aw (Ka λh=>absurd h gG) K eM)
 by_cases gG:d1[0]=1
 .refine dg (decide_eq_true gG) ⟨Int.NonNeg.mk _,Int.NonNeg.mk _,_,fb Kd (i:=1) (by decide),?_⟩
  by_cases aQ:d1[1]=key+1
  .refine dg (show decide (d1[1]=key+1)=true from decide_eq_true aQ) ⟨_,az lZ.cp rfl,_,az lZ.cp rfl,_,az lZ.cp rfl,_,az lZ.cp rfl,_,az lZ.cp rfl,Int.NonNeg.mk _,Int.NonNeg.mk _,_,fb Kd (i:=2) (by decide),?_⟩
   refine(PV F (t:=0) (by decide) key).to λg cO=>⟨_,rfl,⟨fb (cO.get Kd) (i:=2) (by decide),trivial⟩,?_⟩
   rw[jk (by have:=aS 0;omega)]
   exact done (0,UInt64.ofNat (X.pl 0 key),d1[2]) (by unfold ek.spot;rw[aa3 gG aQ]) g cO
  .exact bS (show decide (d1[1]=key+1)=false from decide_eq_false aQ) (sec (Ka λ_=>aQ) Q rfl)
 .exact bS (decide_eq_false gG) (sec (Ka λh=>absurd h gG) Q rfl)
end
end Go.Proofs.Tryz
namespace Go.Proofs.Tryz
open Go Go.cD Go.RowKit
set_option maxRecDepth 8000
theorem asC:oZ prog 200 202 9 (.agg #[.int .u64 0,.int .u64 0,.int .u64 0,.int .u64 0,.int .u64 0,.int .u64 0,.int .u64 0,.int .u64 0,.int .u64 0]) 72:=⟨by kernel_rfl,by kernel_rfl,by kernel_rfl,by kernel_rfl,rfl⟩
def xR (d:c0):Nat->cv
 | 0=>e6
 | n+1=>if h:n<8 then (xR d n).set n d[n] else xR d n
theorem asD {d:c0}{n:Nat}(h:n<8):xR d (n+1)=(xR d n).set n d[n]:=dif_pos h
theorem asE (e:gr):xR (fL e) 3=m4 e:=rfl
theorem abb {d:c0}(q:j8 d):∀(old:c0) (there:Bool) (z:c0),j8 old->fg.now (.put d) old there=some z->j8 z:=λ_ _ _ _ h=>Option.some.inj h▸q
theorem asF:∀(old:c0) (there:Bool) (z:c0),j8 old->fg.now .drop old there=some z->j8 z:=λ_ _ _ _ h=>by cases h
section
variable {G:cG} {ws:List UInt64} {B:lT} {X:ek} {y:ko} {a:Nat} {e:c1} {S:cU} {a7:List de} {V:jz} {h ah:ak}
theorem abc (F:lq G B X y)(R:gw G ws B X y a e S a7 V h)(he:e.n<=10000){ae:Nat}{T1:TypeId}{t:Int}{at_ cell:UInt64}(aF:h ae=some (.cells #[U t,ab at_,ab cell] T1 (0,0)))(d:Bool){K:ak->Prop}
 (ag:∀b_ cB g,gw G ws B X y a e.wr (if at_.toNat<X.sp/\d=true then hO S (0,at_.toNat) e6 else S) b_ cB g->bT (c8 B G.L V) h (c8 B G.L cB) g->K g) :
 ∃(cb:Option aD),br h y.cz (0+1)=some (a1 cb)/\∃(aO:Int),br h y.cz (0+2)=some (U aO)/\∃(b8:UInt64),br h ae 1=some (ab b8)/\ao 103 [a1 cb,U aO,ab b8,ea e6,ab (mask d)] h λv4 aR=>v4= .tuple #[]/\K aR:=by
 refine⟨some ⟨B.m.b,0⟩,az R.cp rfl,_,az R.cp rfl,_,az aF rfl,(aa5 F R he at_ e6 d).mono ?_⟩
 rintro _ g ⟨b_,cB,rfl,dm,v⟩
 exact⟨rfl,ag b_ cB g dm v⟩
theorem asG (F:lq G B X y)(R:gw G ws B X y a e S a7 V h)(he:e.n<=10000){ae:Nat}{T1:TypeId}{t:Int}{at_ cell:UInt64}(aF:h ae=some (.cells #[U t,ab at_,ab cell] T1 (0,0)))(on:Bool){K:ak->Prop}
 (ag:∀b_ cB g,gw G ws B X y a e.wr (if on&&t==2&&decide (at_.toNat<X.sp) then hO S (0,at_.toNat) e6 else S) b_ cB g->bT (c8 B G.L V) h (c8 B G.L cB) g->K g) :
 aG on (∃(aL:Int),br h ae 0=some (U aL)/\aG (bif true then decide (aL=2) else false)
  (∃(cb:Option aD),br h y.cz (0+1)=some (a1 cb)/\∃(aO:Int),br h y.cz (0+2)=some (U aO)/\∃(b8:UInt64),br h ae 1=some (ab b8)/\ao 103 [a1 cb,U aO,ab b8,ea e6,ab 18446744073709551615] h λv4 aR=>v4= .tuple #[]/\K aR)
  (∃(cb:Option aD),br h y.cz (0+1)=some (a1 cb)/\∃(aO:Int),br h y.cz (0+2)=some (U aO)/\∃(b8:UInt64),br h ae 1=some (ab b8)/\ao 103 [a1 cb,U aO,ab b8,ea e6,ab 0] h λv4 aR=>v4= .tuple #[]/\K aR))
  (∃(cb:Option aD),br h y.cz (0+1)=some (a1 cb)/\∃(aO:Int),br h y.cz (0+2)=some (U aO)/\∃(b8:UInt64),br h ae 1=some (ab b8)/\ao 103 [a1 cb,U aO,ab b8,ea e6,ab 0] h λv4 aR=>v4= .tuple #[]/\K aR):=by
 have no:(on&&t==2)=false->∃(cb:Option aD),br h y.cz (0+1)=some (a1 cb)/\∃(aO:Int),br h y.cz (0+2)=some (U aO)/\∃(b8:UInt64),br h ae 1=some (ab b8)/\ao 103 [a1 cb,U aO,ab b8,ea e6,ab 0] h λv4 aR=>v4= .tuple #[]/\K aR:=λaH=>by
  refine abc F R he aF false λb_ cB g dm v=>ag b_ cB g ?_ v
  rw[aH,if_neg (by simp)]
  rw[if_neg (by simp)] at dm
  exact dm
 cases on with
 | false=>exact bS rfl (no rfl)
 | true =>
  refine dg rfl ⟨_,az aF rfl,?_⟩
  by_cases c:t=2
  .refine dg (show decide (t=2)=true from decide_eq_true c) ?_
   refine abc F R he aF true λb_ cB bo dm v=>ag b_ cB bo ?_ v
   by_cases aY:at_.toNat<X.sp
   .rw[if_pos (by simp[c,aY])]
    rw[if_pos ⟨aY,rfl⟩] at dm
    exact dm
   .rw[if_neg (by simp[aY])]
    rw[if_neg (λh=>aY h.1)] at dm
    exact dm
  .refine bS (show decide (t=2)=false from decide_eq_false c) (no (by simp[c]))
theorem afM (F:lq G B X y)(R:gw G ws B X y a e S a7 V h)(bO:a<=9000)(he:e.n<=9000)(key:UInt64)(t:Int)(at_ cell:UInt64)(on:Bool) :
 ao 57 [bg ⟨y.cz,0⟩,ab key,.agg #[U t,ab at_,ab cell],.bool on] h λv ah=>∃b_ cB,v= .tuple #[]/\gw G ws B X y (a+1) (e+1).wr (mI G (λp=>ws.getD p 0) X key t at_ on S) b_ cB ah/\bT (c8 B G.L V) h (c8 B G.L cB) ah:=by
 suffices H:∀Q:Value->ak->Prop,(∀ah,(∃b_ cB,gw G ws B X y (a+1) (e+1).wr (mI G (λp=>ws.getD p 0) X key t at_ on S) b_ cB ah/\bT (c8 B G.L V) h (c8 B G.L cB) ah)->Q (.tuple #[]) ah)->ao 57 [bg ⟨y.cz,0⟩,ab key,.agg #[U t,ab at_,ab cell],.bool on] h Q from H _ λah ⟨b_,cB,bR⟩=>⟨b_,cB,rfl,bR⟩
 intro Q fI
 refine aoa _ _ _ _ _ _ ?_
 unfold Zj
 refine bM λae aa f1 aF aE=>?_
 have fz:=R.bD F aE
 have e1:¬c8 B G.L V ae:=R.r.out F.c.o f1
 have tail:∀eL eY g2,gw G ws B X y (a+1) (e+1) (if on&&(t==0||t==1) then (c3 G (λp=>ws.getD p 0) .drop (X.bl t.toNat key) S).1 else kC G (λp=>ws.getD p 0) S) eL eY g2->bT (c8 B G.L V) aa (c8 B G.L eY) g2->_:=λeL eY g2 c4 v2=>asG (K:=λaR=>Q (.tuple #[]) aR) F c4 (by rw[c1.iT];omega) (v2.get aF e1) on λb_ cB g dm v=>fI g ⟨b_,cB,dm,((hF aE _).trans v2).trans v⟩
 have DV:((on&&(t==0||t==1))=false)->∀K:Value->ak->Prop,(∀eL eY g2,gw G ws B X y (a+1) (e+1) (if on&&(t==0||t==1) then (c3 G (λp=>ws.getD p 0) .drop (X.bl t.toNat key) S).1 else kC G (λp=>ws.getD p 0) S) eL eY g2->bT (c8 B G.L V) aa (c8 B G.L eY) g2->K (.tuple #[]) g2)->ao 102 [bg ⟨y.cz,0⟩] aa K:=λaH K eM=>by
  refine(PW F fz (by omega) (by omega)).mono ?_
  rintro _ g2 ⟨eL,eY,rfl,c4,v2⟩
  refine eM eL eY g2 ?_ v2
  rw[aH,if_neg (by simp)];exact c4
 have abd:∀ {i:Nat},i<2->t=i->(on&&(t==0||t==1))=true->∀K:Value->ak->Prop,(∀(c:c0) (tb:Bool) eL eY g2,gw G ws B X y (a+1) (e+1) (if on&&(t==0||t==1) then (c3 G (λp=>ws.getD p 0) .drop (X.bl t.toNat key) S).1 else kC G (λp=>ws.getD p 0) S) eL eY g2->bT (c8 B G.L V) aa (c8 B G.L eY) g2->K (.tuple #[ea c,.bool tb]) g2)->∃(cj:Option aD),br aa y.cz 0=some (a1 cj)/\∃(aA:Int),br aa ae 0=some (U aA)/\ao 99 [bg ⟨y.cz,0⟩,U aA,ab key] aa λv1 ad=>∃(bq:UInt64),v1=ab bq/\(br ad y.cz 0=some (a1 cj)/\True)/\ao 98 [a1 cj,U 3,ab bq,ea jB] ad K:=λ{i} hi bw aH K eM=>by
  subst bw
  refine⟨some ⟨B.cr,0⟩,az fz.cp rfl,_,az aF rfl,(Kc F fz.cp hi key).mono ?_⟩
  rintro _ ad ⟨rfl,aC⟩
  have c4:=fz.bD F aC
  refine⟨_,rfl,⟨az c4.cp rfl,trivial⟩,?_⟩
  refine(CJ F c4 (by omega) (by omega) (op:= .drop) (k:=3) (d:=jB) rfl (.inr (.inr rfl)) asF (x:=X.bl i key) (ek.lS F.c.fv hi key)).mono ?_
  rintro _ g ⟨b_,cB,rfl,dm,v,_⟩
  refine eM _ _ b_ cB g ?_ ((hF aC _).trans v)
  rw[aH,if_pos rfl];exact dm
 cases on with
 | false =>
  refine bS rfl (DV rfl _ λeL eY g2 c4 v2=>⟨rfl,tail eL eY g2 c4 v2⟩)
 | true =>
  refine dg rfl ⟨_,az aF rfl,?_⟩
  by_cases gG:t=0
  .refine dg (decide_eq_true gG) (abd (i:=0) (by decide) gG (by simp[gG]) _ λc tb eL eY g2 c4 v2=>⟨_,_,rfl,tail eL eY g2 c4 v2⟩)
  .refine bS (decide_eq_false gG) ⟨_,az aF rfl,?_⟩
   by_cases aQ:t=1
   .refine dg (show decide (t=1)=true from decide_eq_true aQ) (abd (i:=1) (by decide) aQ (by simp[aQ]) _ λc tb eL eY g2 c4 v2=>⟨_,_,rfl,tail eL eY g2 c4 v2⟩)
   .exact bS (show decide (t=1)=false from decide_eq_false aQ) (DV (by simp[gG,aQ]) _ λeL eY g2 c4 v2=>⟨rfl,tail eL eY g2 c4 v2⟩)
theorem ajl (o:G.da)(R:hr G ws B S a7 V h):ao 18 [bg ⟨B.cr,0⟩] h λv ah=>v= .bool ((List.range G.L).any S.over)/\ah=h:=by
 have dY:=o.L
 have aT:=R.l_.len
 simp only[List.length_map,List.length_range] at aT
 refine qX _ ?_
 unfold Yo
 refine⟨λq1 aw g k=>q1=⟨B.cr,0⟩/\∃i:Nat,aw=i/\i<=G.L/\k=G.L-i/\g=h/\(List.range i).any S.over=false,⟨G.L,rfl,0,rfl,by omega,rfl,rfl,rfl⟩,?_⟩
 rintro q1 aw g k ⟨rfl,i,rfl,hi,rfl,rfl,aU⟩
 refine⟨_,az R.top rfl,cd (λca=>?_) λdx=>⟨?_,rfl⟩⟩
 .have b5:i<G.L:=by omega
  obtain⟨q,aj,aZ⟩:=R.l_.at (i:=i) (by simp;omega)
  simp at aZ
  refine⟨_,az R.top rfl,q,aj,by omega,by omega,some ⟨B.ba i,0⟩,by rw[show q.o+Int.toNat (i:Int)*1=q.o+i by simp];exact aZ,⟨B.ba i,0⟩,rfl,S.over i,az (R.gy i b5) rfl,?_⟩
  cases dS:S.over i with
  | true =>
   refine dg rfl ⟨?_,rfl⟩
   rw[List.any_eq_true.2 ⟨i,List.mem_range.2 b5,dS⟩]
  | false =>
   refine bS rfl ⟨G.L-(i+1),by omega,rfl,i+1,bf (by omega) (by omega),by omega,rfl,rfl,?_⟩
   rw[List.range_succ,List.any_append,aU]
   simp[dS]
 .have:i=G.L:=by omega
  subst this
  rw[aU]
end
end Go.Proofs.Tryz
namespace Go.Proofs.Tryz
open Go Go.cD Go.RowKit
set_option maxRecDepth 8000
section
variable {G:cG} {ws:List UInt64} {B:lT} {X:ek} {y:ko} {a:Nat} {e:c1} {S:cU} {a7:List de} {V:jz} {h ah:ak}
structure PZ (G:cG)(B:lT)(V:jz)(h g:ak)(ae:Nat)(s:ar)(iW:Int)(i:Nat)(oT:c0)(r:DW)(zN:Bool):Prop where
 aQ:g ae=some (.cells (af.cells (.ws 8 oT)).toArray 100 (0,0))
 aw:¬c8 B G.L V ae
 t:zN=r.2.2.1
 tb:zN=true->iW=((i%2:Nat):Int)
 d:zN=true->oT=fL r.2.1
 O:cF 9 iG h g s r.2.2.2
 jD:∀q,s.q=some q->¬c8 B G.L V q.b/\q.b≠ae
 l:r.2.2.2.length<=i
 q:∀c∈r.2.2.2,j8 c.2
theorem asH (F:lq G B X y)(R:gw G ws B X y a e S a7 V h)(bO:a+X.K<=9500)(he:e.n+X.K<=9500){kS:Bool}{L:List (Nat×c0)}{s:ar}{h0:ak}{F0:Nat->Prop}(v0:bT F0 h0 (c8 B G.L V) h)(O:cF 9 iG h0 h s L)(jD:∀q,s.q=some q->¬c8 B G.L V q.b)(dY:kS=true->L.length=X.K)(au:∀c∈L,c.1<2*X.T)(aj:∀c∈L,j8 c.2){Q:Value->ak->Prop}
 (fI:∀b_ cB ah,gw G ws B X y (a+X.K) (e+X.K) (oK G (λp=>ws.getD p 0) kS L S X.K) b_ cB ah->bT F0 h0 (c8 B G.L cB) ah->Q (.bool (!kS)) ah) :
 ∃(gv:aD->Bool->ar->Int->ak->Nat->Prop),(∃(eN:Nat),gv ⟨y.cz,0⟩ kS s (al ((X.K:Int)-1)) h eN)/\∀(dJ:aD) (t5:Bool) (c5:ar) (bt:Int) (eA:ak) (e9:Nat),gv dJ t5 c5 bt eA e9->aG (decide (0<=bt)) (aG (!t5) (ao 102 [bg dJ] eA λv6 eP=>v6= .tuple #[]/\∃(fC:Nat),fC<e9/\gv dJ t5 c5 (al (bt-1)) eP fC)
  (∃(dr:Option aD),br eA dJ.b dJ.o=some (a1 dr)/\∃(et:aD),ar.q c5=some et/\0<=bt/\bt+1<=(c5.len:Int)/\∃(hR:UInt64),br eA et.b (et.o+Int.toNat bt*9)=some (ab hR)/\∃(ez:aD),ar.q c5=some ez/\0<=bt/\bt+1<=(c5.len:Int)/\∃(gm:Vector UInt64 8),bU eA ez.b (ez.o+Int.toNat bt*9+1) gm/\ao 98 [a1 dr,U 1,ab hR,.agg (Array.map ab gm.toArray)] eA λed fw=>∃(hz:Vector UInt64 8),∃(t6:Bool),ed= .tuple #[.agg (Array.map ab hz.toArray),.bool t6]/\∃(hn:Nat),hn<e9/\gv dJ t5 c5 (al (bt-1)) fw hn))
  (Q (.bool (!t5)) eA):=by
 have Mm:=F.K
 refine⟨λdJ t5 c5 bt g bP=>(⟨y.cz,0⟩:aD)=dJ/\kS=t5/\s=c5/\∃(j:Nat) (b_:List de) (cB:jz),bt=(X.K:Int)-1-j/\j<=X.K/\bP=X.K-j/\gw G ws B X y (a+j) (e+j) (oK G (λp=>ws.getD p 0) kS L S j) b_ cB g/\bT (c8 B G.L V) h (c8 B G.L cB) g,
  ⟨X.K,rfl,rfl,rfl,0,a7,V,by rw[bf (by omega) (by omega)];omega,by omega,rfl,?_,bT.refl _ _⟩,?_⟩
 .have:oK G (λp=>ws.getD p 0) kS L S 0=S:=by unfold oK;cases kS<;>simp[mH,kD]
  rw[this];exact R
 rintro dJ t5 c5 bt g bP ⟨rfl,rfl,rfl,j,b_,cB,rfl,aV,rfl,du,fS⟩
 refine cd (λh0=>?_) λaH=>?_
 .have j6:j<X.K:=by omega
  have hw:al ((X.K:Int)-1-j-1)=(X.K:Int)-1-(j+1:Nat):=by rw[bf (by omega) (by omega)];omega
  cases kS with
  | false =>
   refine dg rfl ((PW F du (by omega) (by rw[c1.iT];omega)).mono ?_)
   rintro _ g2 ⟨eL,eY,rfl,c4,v2⟩
   rw[<-TZ (L:=L)] at c4
   exact⟨rfl,X.K-(j+1),by omega,rfl,rfl,rfl,j+1,eL,eY,hw,by omega,rfl,c4,fS.trans v2⟩
  | true =>
   have dY:=dY rfl
   have sm:X.K-1-j<L.length:=by omega
   have uT:Int.toNat ((X.K:Int)-1-j)=X.K-1-j:=by omega
   have ei:fN iG g s L:=O.rd.move λq eB aT=>fS.2.1 _ (O.bl eB).2 (jD q eB)
   have kt:=ei.len
   obtain⟨q,eB⟩:=ei.ptr (by omega)
   have aZ:=wD uR (ei.rd q eB) sm
   have Mn:br g q.b (q.o+(X.K-1-j)*9)=some (ab (UInt64.ofNat L[X.K-1-j].1)):=aZ.1
   have wK:bU g q.b (q.o+(X.K-1-j)*9+1) L[X.K-1-j].2:=λi hi=>by
    have ad:fQ g q.b (q.o+(X.K-1-j)*9+1) (af.cells (af.ws 8 L[X.K-1-j].2)):=aZ.2
    rw[pN] at ad
    have:=ad i (by simp[af.cells,hi])
    simpa [af.cells] using this
   refine bS rfl ⟨some ⟨B.cr,0⟩,az du.cp rfl,q,eB,by omega,by omega,_,by rw[uT];exact Mn,q,eB,by omega,by omega,_,by rw[uT];exact wK,?_⟩
   refine(CJ F du (by omega) (by rw[c1.iT];omega) (op:= .put L[X.K-1-j].2) (k:=1) (d:=L[X.K-1-j].2) ⟨rfl,rfl⟩ (.inr (.inl rfl)) (abb (aj _ (List.getElem_mem sm))) (au _ (List.getElem_mem sm))).mono ?_
   rintro _ g2 ⟨eL,eY,rfl,c4,v2,_⟩
   have j7:=TY (G:=G) (w:=λp=>ws.getD p 0) (L:=L) (S:=S) (j:=j) (by omega)
   simp only[dY] at j7
   rw[<-j7] at c4
   exact⟨_,_,rfl,X.K-(j+1),by omega,rfl,rfl,rfl,j+1,eL,eY,hw,by omega,rfl,c4,fS.trans v2⟩
 .have:j=X.K:=by omega
  subst this
  exact fI b_ cB g du (v0.trans fS)
set_option maxHeartbeats 1000000 in
theorem afL (F:lq G B X y)(R:gw G ws B X y a e S a7 V h)(bO:a<=9000)(he:e.n<=9000)(key cell:UInt64)(on:Bool) :
 ao 56 [bg ⟨y.cz,0⟩,ab key,ab cell,.bool on] h λv ah=>∃b_ cB,v= .bool (hX G (λp=>ws.getD p 0) X key cell on S).2/\gw G ws B X y (a+2*X.K) ((e+X.K).rd.wr+X.K) (hX G (λp=>ws.getD p 0) X key cell on S).1 b_ cB ah/\bT (c8 B G.L V) h (c8 B G.L cB) ah:=by
 suffices H:∀Q:Value->ak->Prop,(∀v ah,(∃b_ cB,v= .bool (hX G (λp=>ws.getD p 0) X key cell on S).2/\gw G ws B X y (a+2*X.K) ((e+X.K).rd.wr+X.K) (hX G (λp=>ws.getD p 0) X key cell on S).1 b_ cB ah/\bT (c8 B G.L V) h (c8 B G.L cB) ah)->Q v ah)->ao 56 [bg ⟨y.cz,0⟩,ab key,ab cell,.bool on] h Q from H _ λ_ _ h=>h
 intro Q fI
 have Mm:=F.K
 have hw:∀q,B.dQ.q=some q->0<ws.length->h q.b≠none:=λq aj aT=>(R.r.kj q aj aT).1
 have zQ:h y.cz≠none:=by rw[R.cp];simp
 refine an9 _ _ _ _ ?_
 unfold Zi
 refine bM λae aa f1 aF aE=>⟨Int.NonNeg.mk _,Int.NonNeg.mk _,?_⟩
 refine mU (n:=8) (c:=jB) (i:=0) (hF aE (c8 B G.L V)) f1 aF (by decide) λad v2 a8 cb=>⟨Int.NonNeg.mk _,Int.NonNeg.mk _,?_⟩
 refine mU (n:=8) (i:=1) v2 f1 a8 (by decide) λan v3 b0 c7=>⟨Int.NonNeg.mk _,Int.NonNeg.mk _,?_⟩
 refine mU (n:=8) (i:=2) v3 f1 b0 (by decide) λaK v4 b1 dr=>?_
 have b1:aK ae=some (.cells (af.cells (.ws 8 (fL (key,cell)))).toArray 100 (0,0)):=b1
 have kr:gw G ws B X y a e S a7 V aK:=R.loc F f1 aE λz bc=>by rw[dr z bc,c7 z bc,cb z bc]
 have e1:¬c8 B G.L V ae:=R.r.out F.c.o f1
 refine⟨λq1 t1 aJ aw s1 aA g bP=>(⟨y.cz,0⟩:aD)=q1/\(⟨ae,0⟩:aD)=aJ/\∃(i:Nat) (b_:List de) (cB:jz) (oT:c0),aA=i/\i<=X.K/\bP=X.K-i/\gw G ws B X y (a+i) (e+i) (e7 G (λp=>ws.getD p 0) X i 0 S (key,cell) on []).1 b_ cB g/\bT (c8 B G.L V) h (c8 B G.L cB) g/\PZ G B cB h g ae s1 aw i oT (e7 G (λp=>ws.getD p 0) X i 0 S (key,cell) on []) t1,
  ⟨X.K,rfl,rfl,0,a7,V,_,rfl,by omega,rfl,kr,v4,⟨b1,e1,rfl,λ_=>rfl,λ_=>rfl,cF.gD ..,(λq aj=>by cases aj),Nat.le_refl _,(λc aZ=>by cases aZ)⟩⟩,?_⟩
 rintro q1 t1 aJ aw s1 aA g bP ⟨rfl,rfl,i,b_,cB,oT,rfl,hi,rfl,du,fS,hk⟩
 refine⟨_,az du.cp rfl,cd (λca=>?_) λdx=>?_⟩
 .have b5:i<X.K:=by omega
  have asI:al ((i:Int)+1)=((i+1:Nat):Int):=bf (by omega) (by omega)
  have wI:=HK (G:=G) (w:=λp=>ws.getD p 0) (X:=X) i 0 S (key,cell) on []
  rw[Nat.zero_add] at wI
  have zS:∀(P0:Bool) (D4:Int) (xS:ar) (g2:ak) (eL:List de) (eY:jz) (d2:c0),gw G ws B X y (a+(i+1)) (e+(i+1)) (DX G (λp=>ws.getD p 0) X i (e7 G (λp=>ws.getD p 0) X i 0 S (key,cell) on [])).1 eL eY g2->bT (c8 B G.L V) h (c8 B G.L eY) g2->PZ G B eY h g2 ae xS D4 (i+1) d2 (DX G (λp=>ws.getD p 0) X i (e7 G (λp=>ws.getD p 0) X i 0 S (key,cell) on [])) P0 ->
   ∃aI,aI<X.K-i/\(⟨y.cz,0⟩:aD)=⟨y.cz,0⟩/\(⟨ae,0⟩:aD)=⟨ae,0⟩/\∃(dw:Nat) (b_:List de) (cB:jz) (oT:c0),al ((i:Int)+1)=dw/\dw<=X.K/\aI=X.K-dw/\gw G ws B X y (a+dw) (e+dw) (e7 G (λp=>ws.getD p 0) X dw 0 S (key,cell) on []).1 b_ cB g2/\bT (c8 B G.L V) h (c8 B G.L cB) g2/\PZ G B cB h g2 ae xS D4 dw oT (e7 G (λp=>ws.getD p 0) X dw 0 S (key,cell) on []) P0 :=
   λP0 D4 xS g2 eL eY d2 ew fF n8=>⟨X.K-(i+1),by omega,rfl,rfl,i+1,eL,eY,d2,asI,by omega,rfl,by rw[wI];exact ew,fF,by rw[wI];exact n8⟩
  clear wI
  generalize e7 G (λp=>ws.getD p 0) X i 0 S (key,cell) on []=r at *
  obtain⟨fm,kk,A_,ey⟩:=r
  have bw:t1=A_:=hk.t
  subst bw
  cases t1 with
  | false =>
   refine dg rfl ((PW F du (by omega) (by rw[c1.iT];omega)).mono ?_)
   rintro _ g2 ⟨eL,eY,rfl,c4,v2⟩
   exact⟨rfl,zS _ _ _ _ eL eY oT c4 (fS.trans v2) ⟨v2.get hk.aQ hk.aw,v2.out (by rw[hk.aQ];simp) hk.aw,rfl,(λh=>by cases h),(λh=>by cases h),hk.O.move λq aj=>v2.2.1 _ (hk.O.bl aj).2 (hk.jD q aj).1,λq aj=>⟨v2.out (hk.O.bl aj).2 (hk.jD q aj).1,(hk.jD q aj).2⟩,(by have:ey.length<=i:=hk.l;show ey.length<=i+1;omega),hk.q⟩⟩
  | true =>
   have E2:oT=fL kk:=hk.d rfl
   have uT:=hk.tb rfl
   subst E2 uT
   have j3:i%2<2:=Nat.mod_lt _ (by decide)
   have kl:(fL kk)[1]-1=kk.1:=by
    show kk.1+1-1=kk.1
    apply UInt64.toNat_inj.1
    rw[UInt64.toNat_sub,UInt64.toNat_add]
    have:=kk.1.toNat_lt
    simp;omega
   refine bS rfl ⟨Int.NonNeg.mk _,Int.NonNeg.mk _,_,fb hk.aQ (i:=1) (by decide),?_⟩
   rw[kl]
   refine(Kc F du.cp j3 kk.1).mono ?_
   rintro _ g2 ⟨rfl,eh⟩
   have c4:=du.bD F eh
   refine⟨_,rfl,some ⟨B.cr,0⟩,az c4.cp rfl,_,dv (eh.get hk.aQ),?_⟩
   refine(CJ F c4 (by omega) (by rw[c1.iT];omega) (op:= .put (fL kk)) (k:=1) (d:=fL kk) ⟨rfl,rfl⟩ (.inr (.inl rfl)) (abb (j8.e kk)) (ek.lS F.c.fv j3 kk.1)).mono ?_
   rintro _ g3 ⟨nX,kd,rfl,nA,v3,bd⟩
   have D0:DX G (λp=>ws.getD p 0) X i (fm,kk,true,ey)=((c3 G (λp=>ws.getD p 0) (.put (fL kk)) (X.bl (i%2) kk.1) fm).1,m3 (c3 G (λp=>ws.getD p 0) (.put (fL kk)) (X.bl (i%2) kk.1) fm).2.1,(c3 G (λp=>ws.getD p 0) (.put (fL kk)) (X.bl (i%2) kk.1) fm).2.1[0]==1,ey++[(X.bl (i%2) kk.1,(c3 G (λp=>ws.getD p 0) (.put (fL kk)) (X.bl (i%2) kk.1) fm).2.1)]):=rfl
   rw[D0] at zS
   clear D0
   generalize (c3 G (λp=>ws.getD p 0) (.put (fL kk)) (X.bl (i%2) kk.1) fm).1=fy at *
   generalize (c3 G (λp=>ws.getD p 0) (.put (fL kk)) (X.bl (i%2) kk.1) fm).2.2=HO at *
   generalize (c3 G (λp=>ws.getD p 0) (.put (fL kk)) (X.bl (i%2) kk.1) fm).2.1=d2 at *
   have lv:=(fS.more eh).trans v3
   have lI:=v3.get (eh.get hk.aQ) hk.aw
   have cJ:=v3.out (by rw[eh.get hk.aQ];simp) hk.aw
   have kJ:cF 9 iG h g3 s1 ey:=(hk.O.bD eh).move λq aj=>v3.2.1 _ (by rw[eh _ (hk.O.bl aj).2];exact(hk.O.bl aj).2) (hk.jD q aj).1
   have abe:∀q,s1.q=some q->¬c8 B G.L kd q.b:=λq aj=>v3.out (by rw[eh _ (hk.O.bl aj).2];exact(hk.O.bl aj).2) (hk.jD q aj).1
   refine⟨_,_,rfl,bM λay g4 f4 HV Kf=>?_⟩
   have f20:h ay=none:=lv.2.2 _ f4
   refine fB (n:=8) (lv.more Kf) f20 HV rfl λg5 v5 cy cm=>⟨_,dv cy,?_⟩
   have cA:ae≠ay:=λe=>by rw[<-e,lI] at f4;cases f4
   have m9:g5 ae=_:=(cm ae cA).trans (Kf.get lI)
   have kp:¬c8 B G.L kd ay:=nA.r.out F.c.o f4
   have jm:=nA.loc F f4 Kf cm
   have uS:∀q,s1.q=some q->q.b≠ay:=λq aj e=>(kJ.bl aj).2 (by rw[e];exact f4)
   have mA:cF 9 iG h g5 s1 ey:=(kJ.bD Kf).move λq aj=>cm _ (uS q aj)
   rw[List.append_nil,List.append_nil]
   have aT:ey.length<=i:=hk.l
   refine cF.push asC uR TU mA [(X.bl (i%2) kk.1,d2)] (by simp[iG]) rfl (λb au=>v5.2.2 b au) (by simp;omega) (by decide) λs2 g9 Bc oJ wJ D1=>?_
   have v9:bT (c8 B G.L V) h (c8 B G.L kd) g9:=v5.app oJ D1 λq aj=>(mA.bl aj).1
   have gd:g9 ay=_:=(oJ ay (by rw[cy];simp) λq aj e=>uS q aj e.symm).trans cy
   have nx:g9 ae=_:=(oJ ae (by rw[m9];simp) λq aj e=>(hk.jD q aj).2 e.symm).trans m9
   have abf:∀q,s1.q=some q->h q.b=none:=λq aj=>(mA.bl aj).1
   have mN:gw G ws B X y (a+i+1) (e+i+1) fy nX kd g9:=⟨jm.r.same (λx ai=>oJ x (jm.dn F (.inl ai)) λq aj e=>abe q aj (e▸ai)) λq aj aT=>oJ _ (jm.r.kj q aj aT).1 λdL eB e=>hw q aj aT (by rw[e];exact abf dL eB),jm.p,jm.oF,jm.oG,(oJ _ (jm.dn F (.inr rfl)) λq aj e=>zQ (by rw[e];exact abf q aj)).trans jm.cp,jm.jA,jm.sw,jm.q,jm.wX⟩
   have abg:∀q,s2.q=some q->¬c8 B G.L kd q.b/\q.b≠ae:=λq aj=>by
    rcases wJ q aj with ⟨p,aS,e⟩|aH
    .rw[e];exact⟨abe p aS,(hk.jD p aS).2⟩
    .exact⟨jm.r.out F.c.o aH,λe=>by rw[e,m9] at aH;cases aH⟩
   refine⟨Int.NonNeg.mk _,Int.NonNeg.mk _,_,fb gd (i:=0) (by decide),_,dv gd,?_⟩
   refine fB (n:=8) v9 f1 nx (by simp[af.cells]) λqu v10 sd fO=>zS _ _ _ _ nX kd d2 (mN.new v9 f1 hw zQ cJ fO) v10 ⟨sd,cJ,?_,λ_=>?_,λaa=>?_,Bc.move λq aj=>fO _ (abg q aj).2,abg,by show(ey++[_]).length<=i+1;rw[List.length_append,List.length_singleton];omega,λc aZ=>?_⟩
   .show decide (d2[0]=1)=(d2[0]==1)
    rw[Bool.eq_iff_iff];simp
   .rw[bf (by omega) (by omega)];omega
   .exact j8.one bd (of_decide_eq_true aa)
   .rcases List.mem_append.1 aZ with aZ|aZ
    .exact hk.q c aZ
    .rw[List.mem_singleton] at aZ;rw[aZ];exact bd
 .have b5:i=X.K:=by omega
  subst b5
  have yJ:=(AS F.c.o F.c.fv F.c.m F.c.f X.K 0 a S (key,cell) on [] R.p (by omega)).2
  have hlen:=DJ (G:=G) (w:=λp=>ws.getD p 0) (X:=X) X.K 0 S (key,cell) on []
  have yL:=DK (G:=G) (w:=λp=>ws.getD p 0) F.c.fv X.K 0 S (key,cell) on [] (by simp)
  generalize aP:e7 G (λp=>ws.getD p 0) X X.K 0 S (key,cell) on []=r at *
  have bw:=hk.t
  subst bw
  refine⟨some ⟨B.m.b,0⟩,az du.cp rfl,_,az du.cp rfl,?_⟩
  refine(aa7 F du (by rw[c1.iT];omega) (key:=0) (by decide) 0).mono ?_
  rintro _ g2 ⟨eL,eY,rfl,c4,v2⟩
  rw[yJ]
  generalize dS:gu (λi=>(S.R 0 i)[0]==0) X.sp=o at *
  have D7:=fS.trans v2
  have lW:=v2.get hk.aQ hk.aw
  have cA:=v2.out (by rw[hk.aQ];simp) hk.aw
  have fe:cF 9 iG h g2 s1 r.2.2.2:=hk.O.move λq aj=>v2.2.1 _ (hk.O.bl aj).2 (hk.jD q aj).1
  have tp:∀q,s1.q=some q->¬c8 B G.L eY q.b:=λq aj=>v2.out (hk.O.bl aj).2 (hk.jD q aj).1
  refine⟨_,_,_,rfl,bM λbJ g3 f3 oO tn=>?_⟩
  have f40:h bJ=none:=D7.2.2 _ f3
  refine fB (n:=12) (D7.more tn) f40 oO rfl λg4 v4 HV D8=>bM λbZ g5 f5 cy wL=>?_
  have f50:h bZ=none:=v4.2.2 _ f5
  have qB:∀ {b:Nat},g2 b≠none->g4 b=g2 b:=λ{b} au=>by rw[D8 b λe=>au (by rw[e];exact f3),tn b au]
  have P1:bL g2 g5:=λb au=>by rw[wL b (by rw[qB au];exact au),qB au]
  have f52:g2 bZ=none:=by
   cases c:g2 bZ with
   | none=>rfl
   | some e3=>have:=qB (b:=bZ) (by rw[c];simp);rw[f5,c] at this;cases this
  have jm:=c4.bD F P1
  have asJ:¬c8 B G.L eY bZ:=c4.r.out F.c.o f52
  have m9:=P1.get lW
  have dV:ae≠bZ:=λe=>by rw[<-e,lW] at f52;cases f52
  have mA:=fe.bD P1
  have c5:∀q,s1.q=some q->q.b≠bZ:=λq aj e=>(fe.bl aj).2 (by rw[e];exact f52)
  refine⟨λbd t3 bI bG e2 fj c2 bm bo ch=>(⟨y.cz,0⟩:aD)=bd/\r.2.2.1=t3/\(⟨ae,0⟩:aD)=bI/\s1=bG/\kq o=e2/\mask o.isSome=fj/\(⟨bZ,0⟩:aD)=c2/\∃j:Nat,bm=j/\j<=3/\ch=3-j/\bT (c8 B G.L V) h (c8 B G.L eY) bo/\bo bZ=some (.cells (af.cells (.ws 12 (xR oT j))).toArray 56 (0,0))/\∀z,z≠bZ->bo z=g5 z,
   ⟨3,rfl,rfl,rfl,rfl,rfl,rfl,rfl,0,rfl,by omega,rfl,v4.more wL,cy,λ_ _=>rfl⟩,?_⟩
  rintro bd t3 bI bG e2 fj c2 bm bo ch ⟨rfl,rfl,rfl,rfl,rfl,rfl,rfl,j,rfl,aV,rfl,fZ,b4,iE⟩
  have Mi:bo ae=_:=(iE ae dV).trans m9
  refine cd (λmR=>?_) λwP=>?_
  .have abh:j<8:=by omega
   refine⟨by omega,by omega,_,by rw[show 0+Int.toNat (j:Int)*1=j by simp];exact fb Mi abh,by omega,by omega,?_⟩
   rw[show 0+Int.toNat (j:Int)*1=j by simp]
   refine mU (n:=12) (i:=j) fZ f50 b4 (by omega) λg6 v6 dE dZ=>⟨3-(j+1),by omega,rfl,rfl,rfl,rfl,rfl,rfl,rfl,j+1,bf (by omega) (by omega),by omega,rfl,v6,?_,λz bc=>(dZ z bc).trans (iE z bc)⟩
   rw[asD abh];exact dE
  have asK:j=3:=by omega
  subst asK
  have lX:gw G ws B X y (a+X.K) (e+X.K).rd r.1 eL eY bo:=jm.new (v4.more wL) f50 hw zQ asJ iE
  have pj:cF 9 iG h bo s1 r.2.2.2:=mA.move λq aj=>iE _ (c5 q aj)
  refine⟨λdj t4 bX f_ dP fV g7=>(⟨y.cz,0⟩:aD)=dj/\(r.2.2.1&&o.isNone)=t4/\s1=bX/\kq o=f_/\(⟨bZ,0⟩:aD)=dP/\mask (r.2.2.1&&o.isSome)=fV/\bo=g7,?_,?_⟩
  .cases r.2.2.1<;>cases o
   .exact bS rfl ⟨rfl,rfl,rfl,rfl,rfl,rfl,rfl⟩
   .exact bS rfl ⟨rfl,rfl,rfl,rfl,rfl,rfl,rfl⟩
   .exact dg rfl (bS rfl ⟨rfl,rfl,rfl,rfl,rfl,rfl,rfl⟩)
   .exact dg rfl (dg rfl ⟨rfl,rfl,rfl,rfl,rfl,rfl,rfl⟩)
  rintro dj t4 bX f_ dP fV g7 ⟨rfl,rfl,rfl,rfl,rfl,rfl,rfl⟩
  refine⟨some ⟨B.m.b,0⟩,az lX.cp rfl,_,az lX.cp rfl,_,dv b4,?_⟩
  refine(aa5 F lX (by show(e+X.K).n+1<=10000;rw[c1.iT];omega) (kq o) (xR oT 3) (r.2.2.1&&o.isSome)).mono ?_
  rintro _ sh ⟨agD,N6,rfl,wN,v11⟩
  have hY:(if (kq o).toNat<X.sp/\(r.2.2.1&&o.isSome)=true then hO r.1 (0,(kq o).toNat) (xR oT 3) else r.1)=D6 r o:=by
   unfold D6
   by_cases c:(r.2.2.1&&o.isSome)=true
   .rw[if_pos c]
    have bV:=hk.d (Bool.and_eq_true _ _▸c:_/\_).1
    cases o with
    | none=>simp at c
    | some i =>
     have hi:=(AN dS).1
     have ix:=F.c.sp
     have:(kq (some i)).toNat=i:=by show(UInt64.ofNat i).toNat=i;rw[UInt64.toNat_ofNat'];omega
     rw[if_pos ⟨by rw[this];exact hi,c⟩,bV,asE]
   .rw[if_neg c,if_neg (λh=>c h.2)]
  rw[hY] at wN
  have Mu:cF 9 iG h sh s1 r.2.2.2:=pj.move λq aj=>v11.2.1 _ (pj.bl aj).2 (tp q aj)
  have Mv:∀q,s1.q=some q->¬c8 B G.L N6 q.b:=λq aj=>v11.out (pj.bl aj).2 (tp q aj)
  have H2:(r.2.2.1&&o.isNone)=true->r.2.2.2.length=X.K:=λh=>by
   have:=hlen (Bool.and_eq_true _ _▸h:_/\_).1
   rw[List.length_nil,Nat.zero_add] at this
   exact this
  have heq:=Ua (G:=G) (w:=λp=>ws.getD p 0) F.c.sp key cell on S aP dS λh=>⟨rfl,H2 h⟩
  rw[heq] at fI
  refine⟨rfl,_,az wN.cp rfl,asH F wN (by omega) (by show(e+X.K).n+1+1+X.K<=9500;rw[c1.iT];omega) (fZ.trans v11) Mu Mv H2 yL hk.q λb_ cB ah dm fZ=>fI _ _ ⟨b_,cB,rfl,?_,fZ⟩⟩
  rw[show a+2*X.K=a+X.K+X.K by omega]
  exact dm
end

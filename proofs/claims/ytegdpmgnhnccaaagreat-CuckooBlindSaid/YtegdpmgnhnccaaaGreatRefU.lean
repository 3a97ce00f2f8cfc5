import Derived.Test.YtegdpmgnhnccaaaGreatRefT
import Derived.Test.YtegdpmgnhnccaaaGreatRefN
namespace Go.Proofs.Tryz
open Go Go.cR Go.RowKit
set_option maxRecDepth 8000
section
variable {G:cq} {ws:List aE} {R:dY} {a8:List dk} {es ed:ao} {h:ak} {mm:jQ} {pP c5:TypeId} {tb u:Nat}
theorem awO {l:List Nat}{a i:Nat}(h:i<l.length):(l++[a]).getD i 0=l.getD i 0:=by simp[List.getD,aD0 h]
theorem awP {l:List Nat}{a:Nat}:(l++[a]).getD l.length 0=a:=by simp[List.getD]
theorem Ec {l:List Nat}{i:Nat}(h:i<l.length):l.getD i 0∈l:=by simp[List.getD,h]
set_option maxHeartbeats 1000000 in
theorem ajx (o:G.dt)(pQ:∀i,i<G.L->q8 mm (G.ew i) (G.base i))(rV:G.f<mm.fl)(rW:mm.cx G.f=G.top)(M:c8 pP mm R a8 es h)(sj:e4 ab h ed ws)(j3:h tb=some (.cells #[aZ ed,U u] c5 (0,0)))(Fv:¬bS mm es tb)(vX:∀q,ed.q=some q->0<ws.length->¬bS mm es q.b/\q.b≠tb) :
 aq 12 [bm ⟨mm.b,0⟩,U G.f,v4 G.m G.s G.t G.L,bm ⟨tb,0⟩] h λv af=>∃(B:mn) (V:j5),v= .tuple #[bm ⟨B.cO,0⟩,U 0]/\B.m=mm/\B.tb=tb/\B.ed=ed/\V.es=es/\h4 G ws B ⟨R,u,λ_=>false,λ_=>[],[]⟩ a8 V af/\RG G B/\(∀p x,p≠.tb->fD B G.L V p x->h x=none)/\bL h af:=by
 have fj:=o.st;have mO:=M.fl;have eg:=o.L;have bc:G.f<=100:=by have:=(pQ 0 (by omega)).bc;unfold cq.base at this;omega
 refine mz _ _ _ _ _ _ _ ?_;unfold aaL;refine bP λae g1 f1 aH aD=>⟨_,az aH rfl,_,az aH rfl,_,az aH rfl,_,az aH rfl,?_⟩;refine(ad1 fj).to λg2 aB=>⟨_,rfl,b3 rfl ?_⟩;have a_:=aB.get aH;have fQ:=aD.trans aB;refine⟨_,az a_ rfl,_,az a_ rfl,_,az a_ rfl,_,az a_ rfl,_,az a_ rfl,?_⟩;refine(ux (M.bA fQ) (r:=G.f) rV).mono ?_;rintro _ g3 ⟨rfl,rfl⟩;refine⟨_,rfl,⟨az a_ rfl,trivial⟩,⟨az a_ rfl,az a_ rfl,az a_ rfl,az a_ rfl,trivial⟩,?_⟩;rw[show al ((G.L:Int)-1)=((G.L-1:Nat):Int) by rw[bt];omega];refine(LV fj (G.L-1) (by omega)).to λg4 bd=>⟨_,rfl,b3 ?_ ?_⟩
 .show(!decide ((mm.cx G.f:Int)=2 ^ (G.m-2*(G.L-1))))=false
  rw[rW,aDA (show((G.top:Nat):Int)=(2:Int) ^ (G.m-2*(G.L-1)) by unfold cq.top;simp)];rfl
 have b6:=bd.get a_;have wy:=fQ.trans bd;refine⟨_,az b6 rfl,_,az b6 rfl,_,az b6 rfl,_,az b6 rfl,bP λax g5 f5 cG bF=>?_⟩;have jM:=wy.trans bF;have hN:h ax=none:=wy.free f5;have pd:=bF.get b6;have cd:ae≠ax:=λe=>by rw[<-e,b6] at f5;cases f5
 have KX:∀i,i<G.L->lG (G.m-2*i) G.s G.t:=λi hi=>fj.gS i;refine⟨λq1 dj aI cy dm g bW=>(⟨mm.b,0⟩:aF)=q1/\dj=(G.f:Int)/\(⟨ae,0⟩:aF)=aI/\cy=some ⟨ax,0⟩/\∃(i:Nat) (x:ao) (cN:List Nat),dm=i/\i<=G.L/\bW=G.L-i/\cN.length=i /\
  g ax=some (.cells #[bm ⟨mm.b,0⟩,U G.f,U (2 ^ G.m),U G.s,U G.t,U G.L,bm ⟨tb,0⟩,aZ x,aZ ⟨none,0,0,none⟩,aZ ⟨none,0,0,none⟩] 66 (0,0))/\c4 (λb:Nat=>bm ⟨b,0⟩) g5 g x cN/\(∀y,y≠ax->g5 y≠none->g y=g5 y)/\bL h g /\
  (∀j,j<i->g (cN.getD j 0)=ev (qT (G.ew j) mm.b (G.base j) false ⟨none,0,0,none⟩) 141)/\cN.Nodup/\(∀z,z∈cN->g5 z=none)/\(∀q,x.q=some q->q.b∉cN),
  ⟨G.L,rfl,rfl,rfl,rfl,0,_,[],rfl,by omega,rfl,rfl,cG,c4.gy ..,λ_ _ _=>rfl,jM,λj aU=>absurd aU (by omega),aE7,(λz bn=>by cases bn),(λq aj=>by cases aj)⟩,?_⟩
 rintro q1 dj aI cy dm g bW ⟨rfl,rfl,rfl,rfl,i,x,cN,rfl,hi,rfl,SI,iX,hv,of,cY,Be,ja,aw,ju⟩;have HR:g ae=_:=(of ae cd (by rw[pd];simp)).trans pd;have aeH:∀z,z∈cN->g z≠none:=λz bn=>by
  obtain⟨j,aU,e⟩:=aEh bn;have:=Be j (by omega);rw[show cN.getD j 0=z by simp[List.getD,aU,e]] at this;rw[this];simp
 refine⟨_,az HR rfl,cj (λcl=>?_) λdH=>?_⟩
 .have cb:i<G.L:=by omega
  refine⟨_,az HR rfl,_,az HR rfl,_,az HR rfl,_,az HR rfl,?_⟩;refine(RZ fj i (by omega)).to λg7 c3=>⟨_,_,_,rfl,?_⟩;have iu:al (al ((G.f:Int)+1)+al (3*(i:Int)))=((G.base i:Nat):Int):=by
   rw[bt (n:=(G.f:Int)+1),bt (n:=3*(i:Int)),bt];unfold cq.base;omega
  rw[iu];have bV:=pQ i cb;have aP:1<=2 ^ (G.m-2*i):=aEf;refine(awb (M.bA (cY.trans c3)) (KX i cb) (f:=G.base i) bV.fl ?_ ?_ ?_).mono ?_
  .rw[bV.iD];show(G.s:Int)*_<=((G.s*(2 ^ (G.m-2*i+1)-1):Nat):Int);rw[aD_,aEA,Int.natCast_sub (by omega)];simp[Int.mul_comm]
  .rw[bV.eD];exact Int.le_refl _
  .rw[bV.fK];have e:mj (G.m-2*i) G.s G.t=2 ^ (G.ew i).E:=bV.mj;rw[e];simp
  rintro _ g8 ⟨pU,rfl,xb,SJ,eO⟩;have sX:=c3.trans eO;have Mj:=sX.get iX;refine⟨some ⟨pU,0⟩,_,rfl,b3 rfl ⟨_,rfl,_,az Mj rfl,?_⟩⟩;have J7:∀y,g y=none->g5 y=none:=λy aC=>by
   cases e:g5 y with
   | none=>rfl
   | some e7 =>
    by_cases c:y=ax
    .subst c;rw[iX] at aC;cases aC
    .rw[of y c (by rw[e];simp),e] at aC;cases aC
  have Ed:g pU=none:=c3.free xb;refine c4.zX awc (λ_=>rfl) (hv.bA sX) pU (λy aC=>J7 y (sX.free aC)) (by omega) (by decide) ?_;intro cE g9 yL pk xE E9;have aeI:∀q,x.q=some q->q.b≠ax:=λq aj e=>by have:=(hv.bp aj).1;rw[e,cG] at this;cases this
  have awQ:g9 ax=_:=(pk ax (by rw[Mj];simp) λq aj e=>aeI q aj e.symm).trans Mj;have aeJ:∀y,g5 y≠none->y≠ax->g9 y=g5 y:=λy aC aK=>by
   have aa:=of y aK aC;have ad:g8 y=g y:=sX y (by rw[aa];exact aC);rw[pk y (by rw[ad,aa];exact aC) λq aj e=>by have:=(hv.bp aj).1;rw[<-e] at this;exact aC this,ad,aa]
  have awR:bL h g9:=λy aC=>by
   have awS:y≠ax:=λe=>aC (e▸hN);rw[aeJ y (by rw[jM y aC];exact aC) awS,jM y aC]
  have awT:∀q,cE.q=some q->q.b≠ax:=λq aj e=>by
   rcases xE q aj with ⟨p,aP,cc⟩|aK
   .exact aeI p aP (cc.symm.trans e)
   .rw[e,Mj] at aK;cases aK
  have aeK:∀q,x.q=some q->g q.b≠none:=λq aj=>(hv.bp aj).2;have awU:pU≠ax:=λe=>by rw[e,iX] at Ed;cases Ed
  have awV:pU∉cN:=λbn=>aeH pU bn Ed;have awW:g9 pU=_:=(pk pU (by rw[SJ];simp) λq aj e=>aeK q aj (e▸Ed)).trans SJ;have awX:∀q,cE.q=some q->q.b∉cN++[pU]:=λq aj hm=>by
   rcases xE q aj with ⟨p,aP,cc⟩|aK
   .rw[cc] at hm;rcases aDO.1 hm with h|h
    .exact ju p aP h
    .rw[aEw] at h;exact aeK p aP (h▸Ed)
   .rcases aDO.1 hm with h|h
    .exact aeH _ h (sX.free aK)
    .rw[aEw] at h;rw[h,SJ] at aK;cases aK
  refine⟨_,rfl,qh awR hN awQ (by simp) λre eZ pe fH=>⟨G.L-(i+1),by omega,rfl,rfl,rfl,rfl,i+1,cE,cN++[pU],bt,by omega,rfl,by rw[aDs,SI];rfl,by rw[pe];rfl,yL.move λq aj=>fH _ (awT q aj),λy aC aK=>by rw[fH y aC,aeJ y aK aC],eZ,λj aU=>?_,?_,λz bn=>?_,awX⟩⟩
  .by_cases c:j<i
   .rw[awO (by omega)];have hm:=Ec (l:=cN) (i:=j) (by omega);have dd:=Be j c;have aR:=aw _ hm;rw[fH _ (λe=>by rw[e,cG] at aR;cases aR),pk _ (by rw[sX.get dd];simp) (λq aj e=>ju q aj (e▸hm)),sX.get dd]
   .have lF:j=i:=by omega
    subst lF;rw[show(cN++[pU]).getD j 0=pU by rw[<-SI];exact awP,fH _ awU,awW];rfl
  .rw[aFg];exact⟨ja,by simp,λa bY b ar e=>by rw[aEw] at ar;rw[e,ar] at bY;exact awV bY⟩
  .rcases aDO.1 bn with h|h
   .exact aw z h
   .rw[aEw] at h;rw[h];exact J7 _ Ed
 .have:i=G.L:=by omega
  subst this;obtain⟨B,dC⟩:∃B:mn,B=⟨ax,tb,x,λj=>cN.getD j 0,λ_=>141,pP,66,c5,mm,ed⟩:=⟨_,rfl⟩;obtain⟨V,jA⟩:∃V:j5,V=⟨es,⟨none,0,0,none⟩,⟨none,0,0,none⟩,λ_=>⟨none,0,0,none⟩⟩:=⟨_,rfl⟩;have F3:∀ {z:Nat},g5 z=none->z≠tb:=λbn e=>by rw[e,jM.get j3] at bn;cases bn
  have SK:∀p z,fD B G.L V p z->p≠.tb->(p= .cO/\z=ax)∨(p= .bV/\∃q,x.q=some q/\z=q.b)∨∃j,p= .bf j/\j<G.L/\z=cN.getD j 0:=λp z bn aP=>by
   rw[dC,jA] at bn;cases p with
   | cO=>exact .inl ⟨rfl,bn⟩
   | tb=>exact absurd rfl aP
   | bV=>exact .inr (.inl ⟨rfl,bn⟩)
   | fj=>obtain⟨q,aj,_⟩:=bn;cases aj
   | le=>obtain⟨q,aj,_⟩:=bn;cases aj
   | bf j=>exact .inr (.inr ⟨j,rfl,bn⟩)
   | is j=>obtain⟨_,q,aj,_⟩:=bn;cases aj
  have fresh:∀p z,p≠.tb->fD B G.L V p z->h z=none:=λp z aP bn=>by
   rcases SK p z bn aP with ⟨_,rfl⟩|⟨_,q,aj,rfl⟩|⟨j,_,aU,rfl⟩
   .exact hN
   .exact jM.free (hv.bp aj).1
   .exact jM.free (aw _ (Ec (by omega)))
  have Mk:∀z,fD B G.L V .tb z->z=tb:=λz bn=>by rw[dC] at bn;exact bn
  refine⟨B,V,(by rw[dC];rfl),by rw[dC],by rw[dC],by rw[dC],by rw[jA],⟨by rw[dC,jA];exact iX,by rw[dC,jA];exact M.bA cY,by rw[dC];exact cY.get j3,by rw[dC];exact sj.bA cY,?_,λj aU=>by rw[dC,jA];exact Be j aU,λj aU=>by rw[jA];exact c4.gy ..,by rw[jA];exact c4.gy ..,by rw[jA];exact c4.gy ..,?_,?_,?_⟩,⟨by rw[dC];exact pQ,by rw[dC];exact rV,by rw[dC];exact rW⟩,fresh,cY⟩
  .have e:(List.range G.L).map B.bf=cN:=by
    rw[dC];apply aEG
    .simp[SI]
    .intro j av aN;simp[List.getD,aN]
   rw[e,dC];exact hv.rd
  .intro p eW z bn w8
   by_cases c:p= .tb
   .by_cases cr:eW= .tb
    .rw[c,cr]
    .subst c;have:=fresh eW z cr w8;rw[Mk z bn,j3] at this;cases this
   .by_cases cr:eW= .tb
    .subst cr;have:=fresh p z c bn;rw[Mk z w8,j3] at this;cases this
    .rcases SK p z bn c with ⟨aa,px⟩|⟨aa,q,aj,px⟩|⟨j,aa,aU,px⟩<;>rcases SK eW z w8 cr with ⟨ad,oS⟩|⟨ad,dE,eG,oS⟩|⟨c6,ad,kb,oS⟩
     .rw[aa,ad]
     .have:=(hv.bp eG).1;rw[<-oS,px,cG] at this;cases this
     .have:=aw _ (Ec (l:=cN) (i:=c6) (by omega));rw[<-oS,px,cG] at this;cases this
     .have:=(hv.bp aj).1;rw[<-px,oS,cG] at this;cases this
     .rw[aa,ad]
     .exact absurd (by rw[<-px,oS];exact Ec (by omega)) (ju q aj)
     .have:=aw _ (Ec (l:=cN) (i:=j) (by omega));rw[<-px,oS,cG] at this;cases this
     .exact absurd (by rw[<-oS,px];exact Ec (by omega)) (ju dE eG)
     .have:=C5 ja (i:=j) (j:=c6) (by omega) (by omega) (px.symm.trans oS);rw[aa,ad,this]
  .intro p z bn hm
   rw[dC,jA] at hm;by_cases c:p= .tb
   .subst c;rw[Mk z bn] at hm;exact Fv hm
   .exact M.dK hm (fresh p z c bn)
  .intro q aj aT
   have aj:ed.q=some q:=by rw[dC] at aj;exact aj
   have b4:=sj.there aj aT;obtain⟨ji,h6⟩:=vX q aj aT;refine⟨by rw[cY _ b4];exact b4,?_⟩;rintro (hm|⟨p,bn⟩)
   .rw[dC,jA] at hm;exact ji hm
   .by_cases c:p= .tb
    .subst c;exact h6 (Mk _ bn)
    .exact b4 (fresh p _ c bn)
end

import Derived.Test.YtegdpmgnhnccaaaGreatRefT
import Derived.Test.YtegdpmgnhnccaaaGreatRefN
namespace Go.Proofs.Tryz
open Go Go.cQ Go.RowKit
set_option maxRecDepth 8000
section
variable {G:c2} {ws:List a8} {R:dw} {a_:List dt} {es dG:an} {h:ai} {mm:jo} {mN cw:TypeId} {tb u:Nat}
theorem amu {l:List Nat}{a i:Nat}(h:i<l.length):(l++[a]).getD i 0=l.getD i 0:=by simp[List.getD,atB h]
theorem amv {l:List Nat}{a:Nat}:(l++[a]).getD l.length 0=a:=by simp[List.getD]
theorem Ax {l:List Nat}{i:Nat}(h:i<l.length):l.getD i 0∈l:=by simp[List.getD,h]
set_option maxHeartbeats 1000000 in
theorem acz (o:G.dk)(nB:∀i,i<G.L->oR mm (G.dP i) (G.base i))(pD:G.f<mm.ep)(pE:mm.cq G.f=G.top)(M:cN mN mm R a_ es h)(p5:ey ak h dG ws)(uJ:h tb=some (.cells #[aU dG,U u] cw (0,0)))(MH:¬bA mm es tb)(s8:∀q,dG.q=some q->0<ws.length->¬bA mm es q.b/\q.b≠tb) :
 aw 12 [bu ⟨mm.b,0⟩,U G.f,v4 G.m G.s G.t G.L,bu ⟨tb,0⟩] h λv ag=>∃(B:p_) (V:mc),v= .tuple #[bu ⟨B.cm,0⟩,U 0]/\B.m=mm/\B.tb=tb/\B.dG=dG/\V.es=es/\fY G ws B ⟨R,u,λ_=>false,λ_=>[],[]⟩ a_ V ag/\I5 G B/\(∀p x,p≠.tb->eK B G.L V p x->h x=none)/\bB h ag:=by
 have dX:=o.st;have jq:=M.ep;have fp:=o.L;have bf:G.f<=100:=by have:=(nB 0 (by omega)).bf;unfold c2.base at this;omega
 refine nj _ _ _ _ _ _ _ ?_;unfold S6;refine bL λaj g1 f1 aC aE=>⟨_,aF aC rfl,_,aF aC rfl,_,aF aC rfl,_,aF aC rfl,?_⟩;refine(WG dX).to λg2 az=>⟨_,rfl,b0 rfl ?_⟩;have a7:=az.get aC;have eA:=aE.trans az;refine⟨_,aF a7 rfl,_,aF a7 rfl,_,aF a7 rfl,_,aF a7 rfl,_,aF a7 rfl,?_⟩;refine(s9 (M.bE eA) (r:=G.f) pD).mono ?_;rintro _ g3 ⟨rfl,rfl⟩;refine⟨_,rfl,⟨aF a7 rfl,trivial⟩,⟨aF a7 rfl,aF a7 rfl,aF a7 rfl,aF a7 rfl,trivial⟩,?_⟩;rw[show al ((G.L:Int)-1)=((G.L-1:Nat):Int) by rw[bl];omega];refine(GC dX (G.L-1) (by omega)).to λg4 bc=>⟨_,rfl,b0 ?_ ?_⟩
 .show(!decide ((mm.cq G.f:Int)=2 ^ (G.m-2*(G.L-1))))=false
  rw[pE,atl (show((G.top:Nat):Int)=(2:Int) ^ (G.m-2*(G.L-1)) by unfold c2.top;simp)];rfl
 have b5:=bc.get a7;have p7:=eA.trans bc;refine⟨_,aF b5 rfl,_,aF b5 rfl,_,aF b5 rfl,_,aF b5 rfl,bL λaB g5 f5 cD bU=>?_⟩;have hy:=p7.trans bU;have gI:h aB=none:=p7.free f5;have r8:=bU.get b5;have ct:aj≠aB:=λe=>by rw[<-e,b5] at f5;cases f5
 have FC:∀i,i<G.L->kv (G.m-2*i) G.s G.t:=λi hi=>dX.fu i;refine⟨λq1 c5 aP cB dh g bI=>(⟨mm.b,0⟩:aG)=q1/\c5=(G.f:Int)/\(⟨aj,0⟩:aG)=aP/\cB=some ⟨aB,0⟩/\∃(i:Nat) (x:an) (cc:List Nat),dh=i/\i<=G.L/\bI=G.L-i/\cc.length=i /\
  g aB=some (.cells #[bu ⟨mm.b,0⟩,U G.f,U (2 ^ G.m),U G.s,U G.t,U G.L,bu ⟨tb,0⟩,aU x,aU ⟨none,0,0,none⟩,aU ⟨none,0,0,none⟩] 66 (0,0))/\b9 (λb:Nat=>bu ⟨b,0⟩) g5 g x cc/\(∀y,y≠aB->g5 y≠none->g y=g5 y)/\bB h g /\
  (∀j,j<i->g (cc.getD j 0)=dB (oC (G.dP j) mm.b (G.base j) false ⟨none,0,0,none⟩) 141)/\cc.Nodup/\(∀z,z∈cc->g5 z=none)/\(∀q,x.q=some q->q.b∉cc),
  ⟨G.L,rfl,rfl,rfl,rfl,0,_,[],rfl,by omega,rfl,rfl,cD,b9.e9 ..,λ_ _ _=>rfl,hy,λj aL=>absurd aL (by omega),auG,(λz bt=>by cases bt),(λq ah=>by cases ah)⟩,?_⟩
 rintro q1 c5 aP cB dh g bI ⟨rfl,rfl,rfl,rfl,i,x,cc,rfl,hi,rfl,MI,hU,eY,of,cv,xO,hk,ao,rM⟩;have Di:g aj=_:=(of aj ct (by rw[r8];simp)).trans r8;have Xq:∀z,z∈cc->g z≠none:=λz bt=>by
  obtain⟨j,aL,e⟩:=atT bt;have:=xO j (by omega);rw[show cc.getD j 0=z by simp[List.getD,aL,e]] at this;rw[this];simp
 refine⟨_,aF Di rfl,b6 (λb1=>?_) λc3=>?_⟩
 .have bN:i<G.L:=by omega
  refine⟨_,aF Di rfl,_,aF Di rfl,_,aF Di rfl,_,aF Di rfl,?_⟩;refine(LY dX i (by omega)).to λg7 cV=>⟨_,_,_,rfl,?_⟩;have hB:al (al ((G.f:Int)+1)+al (3*(i:Int)))=((G.base i:Nat):Int):=by
   rw[bl (n:=(G.f:Int)+1),bl (n:=3*(i:Int)),bl];unfold c2.base;omega
  rw[hB];have bS:=nB i bN;have aM:1<=2 ^ (G.m-2*i):=auJ;refine(alS (M.bE (cv.trans cV)) (FC i bN) (f:=G.base i) bS.ep ?_ ?_ ?_).mono ?_
  .rw[bS.gT];show(G.s:Int)*_<=((G.s*(2 ^ (G.m-2*i+1)-1):Nat):Int);rw[atP,ava,Int.natCast_sub (by omega)];simp[Int.mul_comm]
  .rw[bS.ev];exact Int.le_refl _
  .rw[bS.e5];have e:kO (G.m-2*i) G.s G.t=2 ^ (G.dP i).E:=bS.kO;rw[e];simp
  rintro _ g8 ⟨qs,rfl,tU,MJ,dT⟩;have xP:=cV.trans dT;have G3:=xP.get hU;refine⟨some ⟨qs,0⟩,_,rfl,b0 rfl ⟨_,rfl,_,aF G3 rfl,?_⟩⟩;have Xr:∀y,g y=none->g5 y=none:=λy aA=>by
   cases e:g5 y with
   | none=>rfl
   | some fJ =>
    by_cases c:y=aB
    .subst c;rw[hU] at aA;cases aA
    .rw[of y c (by rw[e];simp),e] at aA;cases aA
  have Ay:g qs=none:=cV.free tU;refine b9.sU alT (λ_=>rfl) (eY.bE xP) qs (λy aA=>Xr y (xP.free aA)) (by omega) (by decide) ?_;intro cx g9 vw wO Af WH;have Xs:∀q,x.q=some q->q.b≠aB:=λq ah e=>by have:=(eY.b_ ah).1;rw[e,cD] at this;cases this
  have amw:g9 aB=_:=(wO aB (by rw[G3];simp) λq ah e=>Xs q ah e.symm).trans G3;have Xt:∀y,g5 y≠none->y≠aB->g9 y=g5 y:=λy aA aH=>by
   have aa:=of y aH aA;have ad:g8 y=g y:=xP y (by rw[aa];exact aA);rw[wO y (by rw[ad,aa];exact aA) λq ah e=>by have:=(eY.b_ ah).1;rw[<-e] at this;exact aA this,ad,aa]
  have amx:bB h g9:=λy aA=>by
   have amy:y≠aB:=λe=>aA (e▸gI);rw[Xt y (by rw[hy y aA];exact aA) amy,hy y aA]
  have amz:∀q,cx.q=some q->q.b≠aB:=λq ah e=>by
   rcases Af q ah with ⟨p,aM,ch⟩|aH
   .exact Xs p aM (ch.symm.trans e)
   .rw[e,G3] at aH;cases aH
  have Xu:∀q,x.q=some q->g q.b≠none:=λq ah=>(eY.b_ ah).2;have amA:qs≠aB:=λe=>by rw[e,hU] at Ay;cases Ay
  have amB:qs∉cc:=λbt=>Xq qs bt Ay;have amC:g9 qs=_:=(wO qs (by rw[MJ];simp) λq ah e=>Xu q ah (e▸Ay)).trans MJ;have amD:∀q,cx.q=some q->q.b∉cc++[qs]:=λq ah hm=>by
   rcases Af q ah with ⟨p,aM,ch⟩|aH
   .rw[ch] at hm;rcases atw.1 hm with h|h
    .exact rM p aM h
    .rw[aus] at h;exact Xu p aM (h▸Ay)
   .rcases atw.1 hm with h|h
    .exact Xq _ h (xP.free aH)
    .rw[aus] at h;rw[h,MJ] at aH;cases aH
  refine⟨_,rfl,n0 amx gI amw (by simp) λAd f_ uG hz=>⟨G.L-(i+1),by omega,rfl,rfl,rfl,rfl,i+1,cx,cc++[qs],bl,by omega,rfl,by rw[as9,MI];rfl,by rw[uG];rfl,vw.move λq ah=>hz _ (amz q ah),λy aA aH=>by rw[hz y aA,Xt y aH aA],f_,λj aL=>?_,?_,λz bt=>?_,amD⟩⟩
  .by_cases c:j<i
   .rw[amu (by omega)];have hm:=Ax (l:=cc) (i:=j) (by omega);have cR:=xO j c;have aW:=ao _ hm;rw[hz _ (λe=>by rw[e,cD] at aW;cases aW),wO _ (by rw[xP.get cR];simp) (λq ah e=>rM q ah (e▸hm)),xP.get cR]
   .have jU:j=i:=by omega
    subst jU;rw[show(cc++[qs]).getD j 0=qs by rw[<-MI];exact amv,hz _ amA,amC];rfl
  .rw[auP];exact⟨hk,by simp,λa bV b au e=>by rw[aus] at au;rw[e,au] at bV;exact amB bV⟩
  .rcases atw.1 bt with h|h
   .exact ao z h
   .rw[aus] at h;rw[h];exact Xr _ Ay
 .have:i=G.L:=by omega
  subst this;obtain⟨B,c7⟩:∃B:p_,B=⟨aB,tb,x,λj=>cc.getD j 0,λ_=>141,mN,66,cw,mm,dG⟩:=⟨_,rfl⟩;obtain⟨V,h3⟩:∃V:mc,V=⟨es,⟨none,0,0,none⟩,⟨none,0,0,none⟩,λ_=>⟨none,0,0,none⟩⟩:=⟨_,rfl⟩;have EJ:∀ {z:Nat},g5 z=none->z≠tb:=λbt e=>by rw[e,hy.get uJ] at bt;cases bt
  have MK:∀p z,eK B G.L V p z->p≠.tb->(p= .cm/\z=aB)∨(p= .bS/\∃q,x.q=some q/\z=q.b)∨∃j,p= .aV j/\j<G.L/\z=cc.getD j 0:=λp z bt aM=>by
   rw[c7,h3] at bt;cases p with
   | cm=>exact .inl ⟨rfl,bt⟩
   | tb=>exact absurd rfl aM
   | bS=>exact .inr (.inl ⟨rfl,bt⟩)
   | dX=>obtain⟨q,ah,_⟩:=bt;cases ah
   | le=>obtain⟨q,ah,_⟩:=bt;cases ah
   | aV j=>exact .inr (.inr ⟨j,rfl,bt⟩)
   | is j=>obtain⟨_,q,ah,_⟩:=bt;cases ah
  have fresh:∀p z,p≠.tb->eK B G.L V p z->h z=none:=λp z aM bt=>by
   rcases MK p z bt aM with ⟨_,rfl⟩|⟨_,q,ah,rfl⟩|⟨j,_,aL,rfl⟩
   .exact gI
   .exact hy.free (eY.b_ ah).1
   .exact hy.free (ao _ (Ax (by omega)))
  have G4:∀z,eK B G.L V .tb z->z=tb:=λz bt=>by rw[c7] at bt;exact bt
  refine⟨B,V,(by rw[c7];rfl),by rw[c7],by rw[c7],by rw[c7],by rw[h3],⟨by rw[c7,h3];exact hU,by rw[c7,h3];exact M.bE cv,by rw[c7];exact cv.get uJ,by rw[c7];exact p5.bE cv,?_,λj aL=>by rw[c7,h3];exact xO j aL,λj aL=>by rw[h3];exact b9.e9 ..,by rw[h3];exact b9.e9 ..,by rw[h3];exact b9.e9 ..,?_,?_,?_⟩,⟨by rw[c7];exact nB,by rw[c7];exact pD,by rw[c7];exact pE⟩,fresh,cv⟩
  .have e:(List.range G.L).map B.aV=cc:=by
    rw[c7];apply aue
    .simp[MI]
    .intro j ar aN;simp[List.getD,aN]
   rw[e,c7];exact eY.rd
  .intro p dF z bt tO
   by_cases c:p= .tb
   .by_cases b8:dF= .tb
    .rw[c,b8]
    .subst c;have:=fresh dF z b8 tO;rw[G4 z bt,uJ] at this;cases this
   .by_cases b8:dF= .tb
    .subst b8;have:=fresh p z c bt;rw[G4 z tO,uJ] at this;cases this
    .rcases MK p z bt c with ⟨aa,ov⟩|⟨aa,q,ah,ov⟩|⟨j,aa,aL,ov⟩<;>rcases MK dF z tO b8 with ⟨ad,nw⟩|⟨ad,df,ek,nw⟩|⟨cy,ad,lg,nw⟩
     .rw[aa,ad]
     .have:=(eY.b_ ek).1;rw[<-nw,ov,cD] at this;cases this
     .have:=ao _ (Ax (l:=cc) (i:=cy) (by omega));rw[<-nw,ov,cD] at this;cases this
     .have:=(eY.b_ ah).1;rw[<-ov,nw,cD] at this;cases this
     .rw[aa,ad]
     .exact absurd (by rw[<-ov,nw];exact Ax (by omega)) (rM q ah)
     .have:=ao _ (Ax (l:=cc) (i:=j) (by omega));rw[<-ov,nw,cD] at this;cases this
     .exact absurd (by rw[<-nw,ov];exact Ax (by omega)) (rM df ek)
     .have:=zj hk (i:=j) (j:=cy) (by omega) (by omega) (ov.symm.trans nw);rw[aa,ad,this]
  .intro p z bt hm
   rw[c7,h3] at hm;by_cases c:p= .tb
   .subst c;rw[G4 z bt] at hm;exact MH hm
   .exact M.dv hm (fresh p z c bt)
  .intro q ah aO
   have ah:dG.q=some q:=by rw[c7] at ah;exact ah
   have bK:=p5.there ah aO;obtain⟨jJ,iO⟩:=s8 q ah aO;refine⟨by rw[cv _ bK];exact bK,?_⟩;rintro (hm|⟨p,bt⟩)
   .rw[c7,h3] at hm;exact jJ hm
   .by_cases c:p= .tb
    .subst c;exact iO (G4 _ bt)
    .exact bK (fresh p _ c bt)
end

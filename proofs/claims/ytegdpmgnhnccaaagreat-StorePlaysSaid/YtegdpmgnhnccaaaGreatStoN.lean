import Derived.Test.YtegdpmgnhnccaaaGreatStoL
namespace Go.Proofs.Tryz
open Go Go.cQ Go.RowKit
set_option maxRecDepth 8000
theorem arf:ti prog 109 129 (.pointer none) 8:=⟨by kernel_rfl,by kernel_rfl,by kernel_rfl,by kernel_rfl,rfl⟩
theorem qy {l:List Nat}{i:Nat}(h:i<l.length):l.getD i 0∈l:=by simp[List.getD,h]
theorem Oq {l:List Nat}{a i:Nat}(h:i<l.length):(l++[a]).getD i 0=l.getD i 0:=by simp[List.getD,atB h]
theorem Ot {l:List Nat}{a:Nat}:(l++[a]).getD l.length 0=a:=by simp[List.getD]
theorem ZQ {l:List Nat}{a:Nat}(h:l.Nodup)(bV:a∉l):(l++[a]).Nodup:=by
 rw[auP];refine⟨h,by simp,λx af y aA e=>?_⟩;simp at aA;subst aA;subst e;exact bV af
section
variable {G:c2} {ws:List a8} {R:dw} {a_:List dt} {es:an} {h:ai} {m:jo} {mN cw:TypeId} {tb dp u:Nat}
set_option maxHeartbeats 1000000 in
theorem ab3 (o:G.dk)(nB:∀i,i<G.L->oR m (G.dP i) (G.base i))(pD:G.f<m.ep)(pE:m.cq G.f=G.top)(M:cN mN m R a_ es h)(t:ni cw tb dp ws u h)(BF:dp≠tb->h dp≠none)(MH:¬bA m es tb)(arh:dp≠tb->¬bA m es dp) :
 aw 41 [bu ⟨m.b,0⟩,U G.f,v4 G.m G.s G.t G.L,bu ⟨tb,0⟩] h λv ag=>∃B:kR,v= .tuple #[bu ⟨B.cm,0⟩,U 0]/\B.m=m/\B.tb=tb/\B.dp=dp/\fM G ws B ⟨R,u,λ_=>false,λ_=>[],[]⟩ a_ es ⟨none,0,0,none⟩ ag/\wG G B/\(∀p x,p≠.tb->p≠.dp->B.gS G.L ⟨none,0,0,none⟩ p x->h x=none)/\bB h ag:=by
 have dX:=o.st;have fp:=o.L;have bf:G.f<=100:=by have:=(nB 0 (by omega)).bf;unfold c2.base at this;omega
 refine ahn _ _ _ _ _ _ _ ?_;unfold Uw;refine bL λaj aa f1 aC aE=>⟨_,aF aC rfl,_,aF aC rfl,_,aF aC rfl,_,aF aC rfl,?_⟩;refine(Zd dX).to λad az=>⟨_,rfl,b0 rfl ⟨_,aF (az.get aC) rfl,_,aF (az.get aC) rfl,_,aF (az.get aC) rfl,_,aF (az.get aC) rfl,?_⟩⟩;have eA:=aE.trans az;refine(uw (M.bE eA) pD).mono ?_;rintro _ _ ⟨rfl,rfl⟩;have aZ:=az.get aC;refine⟨_,rfl,⟨aF aZ rfl,aF aZ rfl,aF aZ rfl,aF aZ rfl,trivial⟩,?_⟩;refine(Zb dX).to λaJ bc=>⟨_,rfl,b0 ?_ ?_⟩
 .show(!decide (((m.cq G.f:Nat):Int)=(2:Int) ^ (G.m-2*(G.L-1))))=false
  rw[pE,atl (show((G.top:Nat):Int)=(2:Int) ^ (G.m-2*(G.L-1)) by unfold c2.top;simp)];rfl
 have dc:=bc.get aZ;refine⟨_,aF dc rfl,_,aF dc rfl,_,aF dc rfl,_,aF dc rfl,bL λaB aW f5 cD bU=>⟨_,aF (bU.get dc) rfl,?_⟩⟩;have hy:=(eA.trans bc).trans bU;have f20:h aB=none:=(eA.trans bc).free f5;have cE:aB≠aj:=λe=>by rw[e,dc] at f5;cases f5
 refine⟨λq1 c5 aP cB dh ck g bI=>q1=⟨m.b,0⟩/\c5=(G.f:Nat)/\aP=⟨aj,0⟩/\cB=some ⟨aB,0⟩/\dh=(G.L:Nat)/\∃(i:Nat) (bS:an) (lb ld:List Nat),ck=i/\i<=G.L/\bI=G.L-i/\lb.length=i/\ld.length=i /\
  g aB=some (.cells #[U (2 ^ G.m),U G.s,U G.t,U G.L,bu ⟨m.b,0⟩,U G.f,bu ⟨tb,0⟩,aU bS,aU ⟨none,0,0,none⟩] 112 (0,0))/\b9 (λb:Nat=>bu ⟨b,0⟩) h g bS lb/\(∀j,j<i->g (lb.getD j 0)=dB (l3 (G.dP j) m.b (G.base j) false (ld.getD j 0)) 198)/\(∀j,j<i->lf g (ld.getD j 0) []) /\
  lb.Nodup/\ld.Nodup/\(∀x,x∈lb->x∉ld/\x≠aB/\h x=none)/\(∀x,x∈ld->x≠aB/\h x=none)/\(∀q,bS.q=some q->q.b≠aj/\q.b≠aB/\q.b∉lb/\q.b∉ld)/\g aj=some (.cells #[U (2 ^ G.m),U G.s,U G.t,U G.L] 26 (0,0))/\bB h g,
  ⟨G.L,rfl,rfl,rfl,rfl,rfl,0,_,[],[],rfl,by omega,rfl,rfl,rfl,cD,b9.e9 ..,λj aL=>absurd aL (by omega),λj aL=>absurd aL (by omega),auG,auG,λx af=>(by cases af),λx af=>(by cases af),λq ah=>(by cases ah),bU.get dc,hy⟩,?_⟩
 rintro q1 c5 aP cB dh ck g bI ⟨rfl,rfl,rfl,rfl,rfl,i,bS,lb,ld,rfl,hi,rfl,Ou,Ov,g2,eY,xO,Ow,nl,Ag,q5,D9,oP,g1,cv⟩;refine b6 (λb1=>?_) λc3=>?_
 .have bN:i<G.L:=by omega
  refine⟨_,aF g1 rfl,_,aF g1 rfl,_,aF g1 rfl,_,aF g1 rfl,?_⟩;refine(Oa dX i (by omega)).to λnU nY=>⟨_,_,_,rfl,?_⟩;have hB:al (al ((G.f:Int)+1)+al (3*(i:Int)))=((G.base i:Nat):Int):=by
   rw[bl (n:=(G.f:Int)+1),bl (n:=3*(i:Int)),bl];unfold c2.base;omega
  rw[hB];refine(aam (o.fu i) (nB i bN) (M.bE (cv.trans nY))).mono ?_;rintro _ np ⟨aV,mp,rfl,CT,emp,flb,ZR,ari,pg⟩;have yp:=nY.trans pg;have arj:h aV=none:=cv.free (nY.free flb);have ark:h mp=none:=cv.free (nY.free ZR);have A7:g aV=none:=nY.free flb;have A8:g mp=none:=nY.free ZR;have dl:∀x,x∈lb->g x≠none:=λx af=>by
   obtain⟨j,aL,e⟩:=atT af;have:=xO j (by omega);rw[show lb.getD j 0=x by simp[List.getD,aL,e]] at this;rw[this];simp
  have HT:∀x,x∈ld->g x≠none:=λx af=>by
   obtain⟨j,aL,e⟩:=atT af;have:=Ow j (by omega);rw[show ld.getD j 0=x by simp[List.getD,aL,e]] at this;exact this.dv
  have g_:aV∉lb:=λaf=>dl aV af A7;have hW:aV∉ld:=λaf=>HT aV af A7;have mG:mp∉lb:=λaf=>dl mp af A8;have m6:mp∉ld:=λaf=>HT mp af A8;have ZS:aV≠aB:=λe=>by rw[e,g2] at A7;cases A7
  have ZT:mp≠aB:=λe=>by rw[e,g2] at A8;cases A8
  have arl:=eY.bE yp;have arn:=yp.get g2;have as4:=yp.get g1;refine⟨some ⟨aV,0⟩,_,rfl,b0 rfl ⟨_,rfl,_,aF arn rfl,?_⟩⟩;refine b9.sU arf (λ_=>rfl) arl aV (λb au=>cv.free (yp.free au)) (by omega) (by decide) ?_;intro ri qq aro Ox arp as5;have yi:∀x,g x≠none->(∀q,bS.q=some q->x≠q.b)->qq x=g x:=λx af ah=>by
   rw[Ox x (by rw[yp x af];exact af) ah,yp x af]
  have arq:qq aB=_:=(yi aB (by rw[g2];simp) λq ah e=>(oP q ah).2.1 e.symm).trans g2;have ars:qq aj=_:=(yi aj (by rw[g1];simp) λq ah e=>(oP q ah).1 e.symm).trans g1;have HU:∀q,bS.q=some q->g q.b≠none:=λq ah=>(eY.b_ ah).2;have art:qq aV=_:=(Ox aV (by rw[CT];simp) λq ah e=>HU q ah (e▸A7)).trans CT;have aru:lf qq mp []:=emp.move (Ox mp emp.dv λq ah e=>HU q ah (e▸A8));have ZU:∀q,ri.q=some q->q.b≠aj/\q.b≠aB/\q.b∉lb++[aV]/\q.b∉ld++[mp]:=λq ah=>by
   rcases arp q ah with ⟨p,aM,e⟩|aH
   .rw[e];refine⟨(oP p aM).1,(oP p aM).2.1,λhm=>?_,λhm=>?_⟩
    .rcases atw.1 hm with h|h
     .exact(oP p aM).2.2.1 h
     .simp at h;exact HU p aM (h▸A7)
    .rcases atw.1 hm with h|h
     .exact(oP p aM).2.2.2 h
     .simp at h;exact HU p aM (h▸A8)
   .have old:∀x,g x≠none->q.b≠x:=λx af e=>by rw[e,yp x af] at aH;exact af aH
    refine⟨old aj (by rw[g1];simp),old aB (by rw[g2];simp),λhm=>?_,λhm=>?_⟩
    .rcases atw.1 hm with h|h
     .exact old _ (dl _ h) rfl
     .simp at h;rw[h,CT] at aH;cases aH
    .rcases atw.1 hm with h|h
     .exact old _ (HT _ h) rfl
     .simp at h;rw[h] at aH;exact emp.dv aH
  have rq:bB h qq:=λx af=>by
   have arv:g x≠none:=by rw[cv x af];exact af
   rw[yi x arv λq ah e=>af (e▸(eY.b_ ah).1),cv x af]
  refine⟨_,rfl,n0 rq f20 arq (by simp) λAl D6 arw kM=>⟨G.L-(i+1),by omega,rfl,rfl,rfl,rfl,rfl,i+1,ri,lb++[aV],ld++[mp],bl,by omega,rfl,by simp[Ou],by simp[Ov],by rw[arw];rfl,aro.move λq ah=>kM _ (ZU q ah).2.1,λj aL=>?_,λj aL=>?_,ZQ nl g_,ZQ Ag m6,λx af=>?_,λx af=>?_,ZU,(kM _ (atf cE)).trans ars,D6⟩⟩
  .by_cases c:j<i
   .rw[Oq (by omega),Oq (by omega)];have hm:=qy (l:=lb) (i:=j) (by omega);rw[kM _ (q5 _ hm).2.1,yi _ (dl _ hm) λq ah e=>(oP q ah).2.2.1 (e▸hm)];exact xO j c
   .have jU:j=i:=by omega
    subst jU;rw[show(lb++[aV]).getD j 0=aV by rw[<-Ou];exact Ot,show(ld++[mp]).getD j 0=mp by rw[<-Ov];exact Ot,kM _ ZS];exact art
  .by_cases c:j<i
   .rw[Oq (by omega)];have hm:=qy (l:=ld) (i:=j) (by omega);exact(Ow j c).move (by rw[kM _ (D9 _ hm).1,yi _ (HT _ hm) λq ah e=>(oP q ah).2.2.2 (e▸hm)])
   .have jU:j=i:=by omega
    subst jU;rw[show(ld++[mp]).getD j 0=mp by rw[<-Ov];exact Ot];exact aru.move (kM _ ZT)
  .rcases atw.1 af with h|h
   .refine⟨λhm=>?_,(q5 x h).2⟩;rcases atw.1 hm with ad|ad
    .exact(q5 x h).1 ad
    .simp at ad;exact mG (ad▸h)
   .simp at h;subst h;refine⟨λhm=>?_,ZS,arj⟩;rcases atw.1 hm with ad|ad
    .exact hW ad
    .simp at ad;exact ari ad
  .rcases atw.1 af with h|h
   .exact D9 x h
   .simp at h;subst h;exact⟨ZT,ark⟩
 .have bN:i=G.L:=by omega
  subst bN;let B:kR:={ cm:=aB,tb:=tb,dp:=dp,bS:=bS,aV:=λj=>lb.getD j 0,mp:=λj=>ld.getD j 0,hN:=λ_=>198,mN:=mN,qp:=112,cw:=cw,m:=m };have arx:=t.dv;have fresh:∀p x,p≠.tb->p≠.dp->B.gS G.L ⟨none,0,0,none⟩ p x->h x=none:=by
   intro p x aa ad af;cases p with
   | cm=>rw[show x=aB from af];exact f20
   | tb=>exact absurd rfl aa
   | dp=>exact absurd rfl ad
   | bS=>obtain⟨q,ah,rfl⟩:=af;exact(eY.b_ ah).1
   | gs=>obtain⟨q,ah,_⟩:=af;cases ah
   | aV j=>rw[af.2];exact(q5 _ (qy (by have:=af.1;omega))).2.2
   | mp j=>rw[af.2];exact(D9 _ (qy (by have:=af.1;omega))).2
  have old:∀p x,(p= .tb∨p= .dp)->B.gS G.L ⟨none,0,0,none⟩ p x->h x≠none:=by
   rintro p x (rfl|rfl) af
   .rw[show x=tb from af];exact arx
   .rw[show x=dp from af.1];exact BF af.2
  refine⟨B,rfl,rfl,rfl,rfl,⟨g2,M.bE cv,t.bE cv,λcX=>by rw[cv dp (BF cX)];exact BF cX,?_,λj aL=>xO j aL,λj aL=>Ow j aL,cI.e9 ..,?_,?_⟩,⟨nB,pD,pE⟩,fresh,cv⟩
  .have e:(List.range G.L).map B.aV=lb:=by
    apply aue
    .simp[Ou]
    .intro j ar aN;simp[B,List.getD,aN]
   rw[e];exact eY.rd
  .intro p dF x af gD
   by_cases c:p= .tb∨p= .dp
   .by_cases b8:dF= .tb∨dF= .dp
    .rcases c with rfl|rfl
     .rcases b8 with rfl|rfl
      .rfl
      .exact absurd (gD.1.symm.trans af) gD.2
     .rcases b8 with rfl|rfl
      .exact absurd (af.1.symm.trans gD) af.2
      .rfl
    .exact absurd (fresh dF x (λe=>b8 (.inl e)) (λe=>b8 (.inr e)) gD) (old p x c af)
   .by_cases b8:dF= .tb∨dF= .dp
    .exact absurd (fresh p x (λe=>c (.inl e)) (λe=>c (.inr e)) af) (old dF x b8 gD)
    .cases p with
     | tb=>exact absurd (.inl rfl) c
     | dp=>exact absurd (.inr rfl) c
     | gs=>obtain⟨q,ah,_⟩:=af;cases ah
     | cm =>
      have af:x=aB:=af;subst af;cases dF with
      | cm=>rfl
      | tb=>exact absurd (.inl rfl) b8
      | dp=>exact absurd (.inr rfl) b8
      | gs=>obtain⟨q,ah,_⟩:=gD;cases ah
      | bS=>obtain⟨q,ah,e⟩:=gD;exact absurd e.symm (oP q ah).2.1
      | aV j=>exact absurd gD.2.symm (q5 _ (qy (by have:=gD.1;omega))).2.1
      | mp j=>exact absurd gD.2.symm (D9 _ (qy (by have:=gD.1;omega))).1
     | bS =>
      obtain⟨q,ah,rfl⟩:=af;cases dF with
      | cm=>exact absurd gD (oP q ah).2.1
      | tb=>exact absurd (.inl rfl) b8
      | dp=>exact absurd (.inr rfl) b8
      | gs=>obtain⟨q,ah,_⟩:=gD;cases ah
      | bS=>rfl
      | aV j=>exact absurd (gD.2▸qy (by have:=gD.1;omega)) (oP q ah).2.2.1
      | mp j=>exact absurd (gD.2▸qy (by have:=gD.1;omega)) (oP q ah).2.2.2
     | aV i =>
      obtain⟨hi,rfl⟩:=af;have hm:=qy (l:=lb) (i:=i) (by omega);cases dF with
      | cm=>exact absurd gD (q5 _ hm).2.1
      | tb=>exact absurd (.inl rfl) b8
      | dp=>exact absurd (.inr rfl) b8
      | gs=>obtain⟨q,ah,_⟩:=gD;cases ah
      | bS=>obtain⟨q,ah,e⟩:=gD;exact absurd (e▸hm) (oP q ah).2.2.1
      | aV j =>
       have:=zj nl (i:=i) (j:=j) (by omega) (by have:=gD.1;omega) gD.2;rw[this]
      | mp j=>exact absurd ((show lb.getD i 0=ld.getD j 0 from gD.2)▸qy (by have:=gD.1;omega)) (q5 _ hm).1
     | mp i =>
      obtain⟨hi,rfl⟩:=af;have hm:=qy (l:=ld) (i:=i) (by omega);cases dF with
      | cm=>exact absurd gD (D9 _ hm).1
      | tb=>exact absurd (.inl rfl) b8
      | dp=>exact absurd (.inr rfl) b8
      | gs=>obtain⟨q,ah,_⟩:=gD;cases ah
      | bS=>obtain⟨q,ah,e⟩:=gD;exact absurd (e▸hm) (oP q ah).2.2.2
      | aV j =>
       have xG:=qy (l:=lb) (i:=j) (by have:=gD.1;omega);exact absurd ((show ld.getD i 0=lb.getD j 0 from gD.2)▸hm) (q5 _ xG).1
      | mp j =>
       have:=zj Ag (i:=i) (j:=j) (by omega) (by have:=gD.1;omega) gD.2;rw[this]
  .intro p x af hm
   by_cases c:p= .tb∨p= .dp
   .rcases c with rfl|rfl
    .have af:x=tb:=af;rw[af] at hm;exact MH hm
    .have l1:x=dp:=af.1;rw[l1] at hm;exact arh af.2 hm
   .exact M.dv hm (fresh p x (λe=>c (.inl e)) (λe=>c (.inr e)) af)
end

import Derived.Test.YtegdpmgnhnccaaaGreatStoL
namespace Go.Proofs.Tryz
open Go Go.cR Go.RowKit
set_option maxRecDepth 8000
theorem aBo:wA prog 109 129 (.pointer none) 8:=⟨by kernel_rfl,by kernel_rfl,by kernel_rfl,by kernel_rfl,rfl⟩
theorem sL {l:List Nat}{i:Nat}(h:i<l.length):l.getD i 0∈l:=by simp[List.getD,h]
theorem Uj {l:List Nat}{a i:Nat}(h:i<l.length):(l++[a]).getD i 0=l.getD i 0:=by simp[List.getD,aD0 h]
theorem Uk {l:List Nat}{a:Nat}:(l++[a]).getD l.length 0=a:=by simp[List.getD]
theorem agZ {l:List Nat}{a:Nat}(h:l.Nodup)(bY:a∉l):(l++[a]).Nodup:=by
 rw[aFg];refine⟨h,by simp,λx ai y aC e=>?_⟩;simp at aC;subst aC;subst e;exact bY ai
section
variable {G:cq} {ws:List aE} {R:dY} {a8:List dk} {es:ao} {h:ak} {m:jQ} {pP c5:TypeId} {tb ef u:Nat}
set_option maxHeartbeats 1000000 in
theorem aju (o:G.dt)(pQ:∀i,i<G.L->q8 m (G.ew i) (G.base i))(rV:G.f<m.fl)(rW:m.cx G.f=G.top)(M:c8 pP m R a8 es h)(t:qQ c5 tb ef ws u h)(Fu:ef≠tb->h ef≠none)(Fv:¬bS m es tb)(Oj:ef≠tb->¬bS m es ef) :
 aq 41 [bm ⟨m.b,0⟩,U G.f,v4 G.m G.s G.t G.L,bm ⟨tb,0⟩] h λv af=>∃B:j4,v= .tuple #[bm ⟨B.cO,0⟩,U 0]/\B.m=m/\B.tb=tb/\B.ef=ef/\h8 G ws B ⟨R,u,λ_=>false,λ_=>[],[]⟩ a8 es ⟨none,0,0,none⟩ af/\NH G B/\(∀p x,p≠.tb->p≠.ef->B.iC G.L ⟨none,0,0,none⟩ p x->h x=none)/\bL h af:=by
 have fj:=o.st;have eg:=o.L;have bc:G.f<=100:=by have:=(pQ 0 (by omega)).bc;unfold cq.base at this;omega
 refine aqH _ _ _ _ _ _ _ ?_;unfold abw;refine bP λae aa f1 aH aD=>⟨_,az aH rfl,_,az aH rfl,_,az aH rfl,_,az aH rfl,?_⟩;refine(XY fj).to λad aB=>⟨_,rfl,b3 rfl ⟨_,az (aB.get aH) rfl,_,az (aB.get aH) rfl,_,az (aB.get aH) rfl,_,az (aB.get aH) rfl,?_⟩⟩;have fQ:=aD.trans aB;refine(tZ (M.bA fQ) rV).mono ?_;rintro _ _ ⟨rfl,rfl⟩;have aY:=aB.get aH;refine⟨_,rfl,⟨az aY rfl,az aY rfl,az aY rfl,az aY rfl,trivial⟩,?_⟩;refine(Pc fj).to λaJ bd=>⟨_,rfl,b3 ?_ ?_⟩
 .show(!decide (((m.cx G.f:Nat):Int)=(2:Int) ^ (G.m-2*(G.L-1))))=false
  rw[rW,aDA (show((G.top:Nat):Int)=(2:Int) ^ (G.m-2*(G.L-1)) by unfold cq.top;simp)];rfl
 have dQ:=bd.get aY;refine⟨_,az dQ rfl,_,az dQ rfl,_,az dQ rfl,_,az dQ rfl,bP λax aR f5 cG bF=>⟨_,az (bF.get dQ) rfl,?_⟩⟩;have jM:=(fQ.trans bd).trans bF;have f20:h ax=none:=(fQ.trans bd).free f5;have cU:ax≠ae:=λe=>by rw[e,dQ] at f5;cases f5
 refine⟨λq1 dj aI cy dm cw g bW=>q1=⟨m.b,0⟩/\dj=(G.f:Nat)/\aI=⟨ae,0⟩/\cy=some ⟨ax,0⟩/\dm=(G.L:Nat)/\∃(i:Nat) (bV:ao) (m8 m9:List Nat),cw=i/\i<=G.L/\bW=G.L-i/\m8.length=i/\m9.length=i /\
  g ax=some (.cells #[U (2 ^ G.m),U G.s,U G.t,U G.L,bm ⟨m.b,0⟩,U G.f,bm ⟨tb,0⟩,aZ bV,aZ ⟨none,0,0,none⟩] 112 (0,0))/\c4 (λb:Nat=>bm ⟨b,0⟩) h g bV m8/\(∀j,j<i->g (m8.getD j 0)=ev (n3 (G.ew j) m.b (G.base j) false (m9.getD j 0)) 198)/\(∀j,j<i->nA g (m9.getD j 0) []) /\
  m8.Nodup/\m9.Nodup/\(∀x,x∈m8->x∉m9/\x≠ax/\h x=none)/\(∀x,x∈m9->x≠ax/\h x=none)/\(∀q,bV.q=some q->q.b≠ae/\q.b≠ax/\q.b∉m8/\q.b∉m9)/\g ae=some (.cells #[U (2 ^ G.m),U G.s,U G.t,U G.L] 26 (0,0))/\bL h g,
  ⟨G.L,rfl,rfl,rfl,rfl,rfl,0,_,[],[],rfl,by omega,rfl,rfl,rfl,cG,c4.gy ..,λj aU=>absurd aU (by omega),λj aU=>absurd aU (by omega),aE7,aE7,λx ai=>(by cases ai),λx ai=>(by cases ai),λq aj=>(by cases aj),bF.get dQ,jM⟩,?_⟩
 rintro q1 dj aI cy dm cw g bW ⟨rfl,rfl,rfl,rfl,rfl,i,bV,m8,m9,rfl,hi,rfl,Ul,Um,g2,hv,Be,Un,nl,DY,tz,IG,q7,g1,cY⟩;refine cj (λcl=>?_) λdH=>?_
 .have cb:i<G.L:=by omega
  refine⟨_,az g1 rfl,_,az g1 rfl,_,az g1 rfl,_,az g1 rfl,?_⟩;refine(Pl fj i (by omega)).to λqd oj=>⟨_,_,_,rfl,?_⟩;have iu:al (al ((G.f:Int)+1)+al (3*(i:Int)))=((G.base i:Nat):Int):=by
   rw[bt (n:=(G.f:Int)+1),bt (n:=3*(i:Int)),bt];unfold cq.base;omega
  rw[iu];refine(ahr (o.gS i) (pQ i cb) (M.bA (cY.trans oj))).mono ?_;rintro _ pE ⟨bf,mp,rfl,Hx,emp,flb,ag0,aBp,rK⟩;have BM:=oj.trans rK;have aBq:h bf=none:=cY.free (oj.free flb);have aBr:h mp=none:=cY.free (oj.free ag0);have EJ:g bf=none:=oj.free flb;have EK:g mp=none:=oj.free ag0;have dl:∀x,x∈m8->g x≠none:=λx ai=>by
   obtain⟨j,aU,e⟩:=aEh ai;have:=Be j (by omega);rw[show m8.getD j 0=x by simp[List.getD,aU,e]] at this;rw[this];simp
  have M6:∀x,x∈m9->g x≠none:=λx ai=>by
   obtain⟨j,aU,e⟩:=aEh ai;have:=Un j (by omega);rw[show m9.getD j 0=x by simp[List.getD,aU,e]] at this;exact this.dK
  have hz:bf∉m8:=λai=>dl bf ai EJ;have gg:bf∉m9:=λai=>M6 bf ai EJ;have mu:mp∉m8:=λai=>dl mp ai EK;have pH:mp∉m9:=λai=>M6 mp ai EK;have ag1:bf≠ax:=λe=>by rw[e,g2] at EJ;cases EJ
  have ag2:mp≠ax:=λe=>by rw[e,g2] at EK;cases EK
  have aBs:=hv.bA BM;have aBt:=BM.get g2;have aDn:=BM.get g1;refine⟨some ⟨bf,0⟩,_,rfl,b3 rfl ⟨_,rfl,_,az aBt rfl,?_⟩⟩;refine c4.zX aBo (λ_=>rfl) aBs bf (λb ar=>cY.free (BM.free ar)) (by omega) (by decide) ?_;intro tN sF aBu Uo aBv aDo;have BG:∀x,g x≠none->(∀q,bV.q=some q->x≠q.b)->sF x=g x:=λx ai aj=>by
   rw[Uo x (by rw[BM x ai];exact ai) aj,BM x ai]
  have aBw:sF ax=_:=(BG ax (by rw[g2];simp) λq aj e=>(q7 q aj).2.1 e.symm).trans g2;have aBx:sF ae=_:=(BG ae (by rw[g1];simp) λq aj e=>(q7 q aj).1 e.symm).trans g1;have M7:∀q,bV.q=some q->g q.b≠none:=λq aj=>(hv.bp aj).2;have aBy:sF bf=_:=(Uo bf (by rw[Hx];simp) λq aj e=>M7 q aj (e▸EJ)).trans Hx;have aBz:nA sF mp []:=emp.move (Uo mp emp.dK λq aj e=>M7 q aj (e▸EK));have ag3:∀q,tN.q=some q->q.b≠ae/\q.b≠ax/\q.b∉m8++[bf]/\q.b∉m9++[mp]:=λq aj=>by
   rcases aBv q aj with ⟨p,aP,e⟩|aK
   .rw[e];refine⟨(q7 p aP).1,(q7 p aP).2.1,λhm=>?_,λhm=>?_⟩
    .rcases aDO.1 hm with h|h
     .exact(q7 p aP).2.2.1 h
     .simp at h;exact M7 p aP (h▸EJ)
    .rcases aDO.1 hm with h|h
     .exact(q7 p aP).2.2.2 h
     .simp at h;exact M7 p aP (h▸EK)
   .have old:∀x,g x≠none->q.b≠x:=λx ai e=>by rw[e,BM x ai] at aK;exact ai aK
    refine⟨old ae (by rw[g1];simp),old ax (by rw[g2];simp),λhm=>?_,λhm=>?_⟩
    .rcases aDO.1 hm with h|h
     .exact old _ (dl _ h) rfl
     .simp at h;rw[h,Hx] at aK;cases aK
    .rcases aDO.1 hm with h|h
     .exact old _ (M6 _ h) rfl
     .simp at h;rw[h] at aK;exact emp.dK aK
  have tU:bL h sF:=λx ai=>by
   have aBA:g x≠none:=by rw[cY x ai];exact ai
   rw[BG x aBA λq aj e=>ai (e▸(hv.bp aj).1),cY x ai]
  refine⟨_,rfl,qh tU f20 aBw (by simp) λD2 IF aBB mM=>⟨G.L-(i+1),by omega,rfl,rfl,rfl,rfl,rfl,i+1,tN,m8++[bf],m9++[mp],bt,by omega,rfl,by simp[Ul],by simp[Um],by rw[aBB];rfl,aBu.move λq aj=>mM _ (ag3 q aj).2.1,λj aU=>?_,λj aU=>?_,agZ nl hz,agZ DY pH,λx ai=>?_,λx ai=>?_,ag3,(mM _ (aDC cU)).trans aBx,IF⟩⟩
  .by_cases c:j<i
   .rw[Uj (by omega),Uj (by omega)];have hm:=sL (l:=m8) (i:=j) (by omega);rw[mM _ (tz _ hm).2.1,BG _ (dl _ hm) λq aj e=>(q7 q aj).2.2.1 (e▸hm)];exact Be j c
   .have lF:j=i:=by omega
    subst lF;rw[show(m8++[bf]).getD j 0=bf by rw[<-Ul];exact Uk,show(m9++[mp]).getD j 0=mp by rw[<-Um];exact Uk,mM _ ag1];exact aBy
  .by_cases c:j<i
   .rw[Uj (by omega)];have hm:=sL (l:=m9) (i:=j) (by omega);exact(Un j c).move (by rw[mM _ (IG _ hm).1,BG _ (M6 _ hm) λq aj e=>(q7 q aj).2.2.2 (e▸hm)])
   .have lF:j=i:=by omega
    subst lF;rw[show(m9++[mp]).getD j 0=mp by rw[<-Um];exact Uk];exact aBz.move (mM _ ag2)
  .rcases aDO.1 ai with h|h
   .refine⟨λhm=>?_,(tz x h).2⟩;rcases aDO.1 hm with ad|ad
    .exact(tz x h).1 ad
    .simp at ad;exact mu (ad▸h)
   .simp at h;subst h;refine⟨λhm=>?_,ag1,aBq⟩;rcases aDO.1 hm with ad|ad
    .exact gg ad
    .simp at ad;exact aBp ad
  .rcases aDO.1 ai with h|h
   .exact IG x h
   .simp at h;subst h;exact⟨ag2,aBr⟩
 .have cb:i=G.L:=by omega
  subst cb;let B:j4:={ cO:=ax,tb:=tb,ef:=ef,bV:=bV,bf:=λj=>m8.getD j 0,mp:=λj=>m9.getD j 0,jo:=λ_=>198,pP:=pP,sE:=112,c5:=c5,m:=m };have aBC:=t.dK;have fresh:∀p x,p≠.tb->p≠.ef->B.iC G.L ⟨none,0,0,none⟩ p x->h x=none:=by
   intro p x aa ad ai;cases p with
   | cO=>rw[show x=ax from ai];exact f20
   | tb=>exact absurd rfl aa
   | ef=>exact absurd rfl ad
   | bV=>obtain⟨q,aj,rfl⟩:=ai;exact(hv.bp aj).1
   | gs=>obtain⟨q,aj,_⟩:=ai;cases aj
   | bf j=>rw[ai.2];exact(tz _ (sL (by have:=ai.1;omega))).2.2
   | mp j=>rw[ai.2];exact(IG _ (sL (by have:=ai.1;omega))).2
  have old:∀p x,(p= .tb∨p= .ef)->B.iC G.L ⟨none,0,0,none⟩ p x->h x≠none:=by
   rintro p x (rfl|rfl) ai
   .rw[show x=tb from ai];exact aBC
   .rw[show x=ef from ai.1];exact Fu ai.2
  refine⟨B,rfl,rfl,rfl,rfl,⟨g2,M.bA cY,t.bA cY,λdA=>by rw[cY ef (Fu dA)];exact Fu dA,?_,λj aU=>Be j aU,λj aU=>Un j aU,ct.gy ..,?_,?_⟩,⟨pQ,rV,rW⟩,fresh,cY⟩
  .have e:(List.range G.L).map B.bf=m8:=by
    apply aEG
    .simp[Ul]
    .intro j av aN;simp[B,List.getD,aN]
   rw[e];exact hv.rd
  .intro p eW x ai hx
   by_cases c:p= .tb∨p= .ef
   .by_cases cr:eW= .tb∨eW= .ef
    .rcases c with rfl|rfl
     .rcases cr with rfl|rfl
      .rfl
      .exact absurd (hx.1.symm.trans ai) hx.2
     .rcases cr with rfl|rfl
      .exact absurd (ai.1.symm.trans hx) ai.2
      .rfl
    .exact absurd (fresh eW x (λe=>cr (.inl e)) (λe=>cr (.inr e)) hx) (old p x c ai)
   .by_cases cr:eW= .tb∨eW= .ef
    .exact absurd (fresh p x (λe=>c (.inl e)) (λe=>c (.inr e)) ai) (old eW x cr hx)
    .cases p with
     | tb=>exact absurd (.inl rfl) c
     | ef=>exact absurd (.inr rfl) c
     | gs=>obtain⟨q,aj,_⟩:=ai;cases aj
     | cO =>
      have ai:x=ax:=ai;subst ai;cases eW with
      | cO=>rfl
      | tb=>exact absurd (.inl rfl) cr
      | ef=>exact absurd (.inr rfl) cr
      | gs=>obtain⟨q,aj,_⟩:=hx;cases aj
      | bV=>obtain⟨q,aj,e⟩:=hx;exact absurd e.symm (q7 q aj).2.1
      | bf j=>exact absurd hx.2.symm (tz _ (sL (by have:=hx.1;omega))).2.1
      | mp j=>exact absurd hx.2.symm (IG _ (sL (by have:=hx.1;omega))).1
     | bV =>
      obtain⟨q,aj,rfl⟩:=ai;cases eW with
      | cO=>exact absurd hx (q7 q aj).2.1
      | tb=>exact absurd (.inl rfl) cr
      | ef=>exact absurd (.inr rfl) cr
      | gs=>obtain⟨q,aj,_⟩:=hx;cases aj
      | bV=>rfl
      | bf j=>exact absurd (hx.2▸sL (by have:=hx.1;omega)) (q7 q aj).2.2.1
      | mp j=>exact absurd (hx.2▸sL (by have:=hx.1;omega)) (q7 q aj).2.2.2
     | bf i =>
      obtain⟨hi,rfl⟩:=ai;have hm:=sL (l:=m8) (i:=i) (by omega);cases eW with
      | cO=>exact absurd hx (tz _ hm).2.1
      | tb=>exact absurd (.inl rfl) cr
      | ef=>exact absurd (.inr rfl) cr
      | gs=>obtain⟨q,aj,_⟩:=hx;cases aj
      | bV=>obtain⟨q,aj,e⟩:=hx;exact absurd (e▸hm) (q7 q aj).2.2.1
      | bf j =>
       have:=C5 nl (i:=i) (j:=j) (by omega) (by have:=hx.1;omega) hx.2;rw[this]
      | mp j=>exact absurd ((show m8.getD i 0=m9.getD j 0 from hx.2)▸sL (by have:=hx.1;omega)) (tz _ hm).1
     | mp i =>
      obtain⟨hi,rfl⟩:=ai;have hm:=sL (l:=m9) (i:=i) (by omega);cases eW with
      | cO=>exact absurd hx (IG _ hm).1
      | tb=>exact absurd (.inl rfl) cr
      | ef=>exact absurd (.inr rfl) cr
      | gs=>obtain⟨q,aj,_⟩:=hx;cases aj
      | bV=>obtain⟨q,aj,e⟩:=hx;exact absurd (e▸hm) (q7 q aj).2.2.2
      | bf j =>
       have A7:=sL (l:=m8) (i:=j) (by have:=hx.1;omega);exact absurd ((show m9.getD i 0=m8.getD j 0 from hx.2)▸hm) (tz _ A7).1
      | mp j =>
       have:=C5 DY (i:=i) (j:=j) (by omega) (by have:=hx.1;omega) hx.2;rw[this]
  .intro p x ai hm
   by_cases c:p= .tb∨p= .ef
   .rcases c with rfl|rfl
    .have ai:x=tb:=ai;rw[ai] at hm;exact Fv hm
    .have n2:x=ef:=ai.1;rw[n2] at hm;exact Oj ai.2 hm
   .exact M.dK hm (fresh p x (λe=>c (.inl e)) (λe=>c (.inr e)) ai)
end

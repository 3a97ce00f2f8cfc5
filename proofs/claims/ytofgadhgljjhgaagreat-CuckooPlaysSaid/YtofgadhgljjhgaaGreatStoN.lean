import Derived.Test.YtofgadhgljjhgaaGreatStoL
namespace Go.Proofs.Tryz
open Go Go.cD Go.RowKit
set_option maxRecDepth 8000
theorem ayv:vk prog 113 114 (.pointer none) 8:=⟨by kernel_rfl,by kernel_rfl,by kernel_rfl,by kernel_rfl,rfl⟩
theorem r5 {l:List Nat}{i:Nat}(h:i<l.length):l.getD i 0∈l:=by simp[List.getD,h]
theorem SA {l:List Nat}{a i:Nat}(h:i<l.length):(l++[a]).getD i 0=l.getD i 0:=by simp[List.getD,List.getElem?_append_left h]
theorem SB {l:List Nat}{a:Nat}:(l++[a]).getD l.length 0=a:=by simp[List.getD]
theorem aeL {l:List Nat}{a:Nat}(h:l.Nodup)(bO:a∉l):(l++[a]).Nodup:=by
 rw[List.nodup_append]
 refine⟨h,by simp,λx ai y aB e=>?_⟩
 simp at aB;subst aB;subst e;exact bO ai
section
variable {G:cG} {ws:List UInt64} {R:dF} {a7:List de} {es:ar} {h:ak} {m:jw} {n1 cS:TypeId} {tb dR u:Nat}
set_option maxHeartbeats 1000000 in
theorem aha (o:G.da)(o8:∀i,i<G.L->qo m (G.d_ i) (G.base i))(q5:G.f<m.eX)(q6:m.cf G.f=G.top)(M:cV n1 m R a7 es h)(t:p6 cS tb dR ws u h)(Ek:dR≠tb->h dR≠none)(El:¬bF m es tb)(MH:dR≠tb->¬bF m es dR) :
 ao 36 [bg ⟨m.b,0⟩,U G.f,v4 G.m G.s G.t G.L,bg ⟨tb,0⟩] h λv ah=>∃B:jy,v= .tuple #[bg ⟨B.cr,0⟩,U 0]/\B.m=m/\B.tb=tb/\B.dR=dR/\hH G ws B ⟨R,u,λ_=>false,λ_=>[],[]⟩ a7 es ⟨none,0,0,none⟩ ah/\L5 G B/\(∀p x,p≠.tb->p≠.dR->B.h1 G.L ⟨none,0,0,none⟩ p x->h x=none)/\bL h ah:=by
 have e4:=o.st
 have dY:=o.L
 have a_:G.f<=100:=by have:=(o8 0 (by omega)).a_;unfold cG.base at this;omega
 refine amw _ _ _ _ _ _ _ ?_
 unfold Yt
 refine bM λae aa f1 aF aE=>⟨_,az aF rfl,_,az aF rfl,_,az aF rfl,_,az aF rfl,?_⟩
 refine(axO e4).to λad aC=>⟨_,rfl,bS rfl ⟨_,az (aC.get aF) rfl,_,az (aC.get aF) rfl,_,az (aC.get aF) rfl,_,az (aC.get aF) rfl,?_⟩⟩
 have fE:=aE.trans aC
 refine(ta (M.bD fE) q5).mono ?_
 rintro _ _ ⟨rfl,rfl⟩
 have aY:=aC.get aF
 refine⟨_,rfl,⟨az aY rfl,az aY rfl,az aY rfl,az aY rfl,trivial⟩,?_⟩
 refine(axN e4).to λaK bh=>⟨_,rfl,bS ?_ ?_⟩
 .show(!decide (((m.cf G.f:Nat):Int)=(2:Int) ^ (G.m-2*(G.L-1))))=false
  rw[q6,decide_eq_true (show((G.top:Nat):Int)=(2:Int) ^ (G.m-2*(G.L-1)) by unfold cG.top;simp)];rfl
 have dz:=bh.get aY
 refine⟨_,az dz rfl,_,az dz rfl,_,az dz rfl,_,az dz rfl,bM λay aR f5 cy bE=>⟨_,az (bE.get dz) rfl,?_⟩⟩
 have jL:=(fE.trans bh).trans bE
 have f20:h ay=none:=(fE.trans bh).free f5
 have cZ:ay≠ae:=λe=>by rw[e,dz] at f5;cases f5
 refine⟨λq1 di aJ cj dp cC g bP=>q1=⟨m.b,0⟩/\di=(G.f:Nat)/\aJ=⟨ae,0⟩/\cj=some ⟨ay,0⟩/\dp=(G.L:Nat)/\∃(i:Nat) (b2:ar) (mE mF:List Nat),cC=i/\i<=G.L/\bP=G.L-i/\mE.length=i/\mF.length=i /\
  g ay=some (.cells #[U (2 ^ G.m),U G.s,U G.t,U G.L,bg ⟨m.b,0⟩,U G.f,bg ⟨tb,0⟩,bb b2,bb ⟨none,0,0,none⟩] 117 (0,0))/\cW (λb:Nat=>bg ⟨b,0⟩) h g b2 mE/\(∀j,j<i->g (mE.getD j 0)=some (.cells (nv (G.d_ j) m.b (G.base j) false (mF.getD j 0)) 193 (0,0)))/\(∀j,j<i->m2 g (mF.getD j 0) []) /\
  mE.Nodup/\mF.Nodup/\(∀x,x∈mE->x∉mF/\x≠ay/\h x=none)/\(∀x,x∈mF->x≠ay/\h x=none)/\(∀q,b2.q=some q->q.b≠ae/\q.b≠ay/\q.b∉mE/\q.b∉mF)/\g ae=some (.cells #[U (2 ^ G.m),U G.s,U G.t,U G.L] 68 (0,0))/\bL h g,
  ⟨G.L,rfl,rfl,rfl,rfl,rfl,0,_,[],[],rfl,by omega,rfl,rfl,rfl,cy,cW.gD ..,λj aV=>absurd aV (by omega),λj aV=>absurd aV (by omega),List.nodup_nil,List.nodup_nil,λx ai=>(by cases ai),λx ai=>(by cases ai),λq aj=>(by cases aj),bE.get dz,jL⟩,?_⟩
 rintro q1 di aJ cj dp cC g bP ⟨rfl,rfl,rfl,rfl,rfl,i,b2,mE,mF,rfl,hi,rfl,SC,SD,g2,hL,Aa,SE,nl,CQ,sM,Hq,qn,g1,cO⟩
 refine cd (λca=>?_) λdx=>?_
 .have b5:i<G.L:=by omega
  refine⟨_,az g1 rfl,_,az g1 rfl,_,az g1 rfl,_,az g1 rfl,?_⟩
  refine(ad8 e4 i (by omega)).to λpz nG=>⟨_,_,_,rfl,?_⟩
  have iA:al (al ((G.f:Int)+1)+al (3*(i:Int)))=((G.base i:Nat):Int):=by
   rw[bf (n:=(G.f:Int)+1) (by omega) (by omega),bf (n:=3*(i:Int)) (by omega) (by omega),bf (by omega) (by omega)]
   unfold cG.base;omega
  rw[iA]
  refine(aff (o.gy i) (o8 i b5) (M.bD (cO.trans nG))).mono ?_
  rintro _ oU ⟨ba,mp,rfl,Gh,emp,flb,aeM,ayw,qT⟩
  have AJ:=nG.trans qT
  have ayx:h ba=none:=cO.free (nG.free flb)
  have ayy:h mp=none:=cO.free (nG.free aeM)
  have DF:g ba=none:=nG.free flb
  have DG:g mp=none:=nG.free aeM
  have dl:∀x,x∈mE->g x≠none:=λx ai=>by
   obtain⟨j,aV,e⟩:=List.getElem_of_mem ai
   have:=Aa j (by omega)
   rw[show mE.getD j 0=x by simp[List.getD,aV,e]] at this
   rw[this];simp
  have Lx:∀x,x∈mF->g x≠none:=λx ai=>by
   obtain⟨j,aV,e⟩:=List.getElem_of_mem ai
   have:=SE j (by omega)
   rw[show mF.getD j 0=x by simp[List.getD,aV,e]] at this
   exact this.dn
  have h_:ba∉mE:=λai=>dl ba ai DF
  have gx:ba∉mF:=λai=>Lx ba ai DF
  have m7:mp∉mE:=λai=>dl mp ai DG
  have oY:mp∉mF:=λai=>Lx mp ai DG
  have aeN:ba≠ay:=λe=>by rw[e,g2] at DF;cases DF
  have aeO:mp≠ay:=λe=>by rw[e,g2] at DG;cases DG
  have ayz:=hL.bD AJ
  have ayA:=AJ.get g2
  have aAd:=AJ.get g1
  refine⟨some ⟨ba,0⟩,_,rfl,bS rfl ⟨_,rfl,_,az ayA rfl,?_⟩⟩
  refine cW.Bu ayv (λ_=>rfl) ayz ba (λb au=>cO.free (AJ.free au)) (by omega) (by decide) ?_
  intro sX rY ayB SF ayC aAe
  have AD:∀x,g x≠none->(∀q,b2.q=some q->x≠q.b)->rY x=g x:=λx ai aj=>by
   rw[SF x (by rw[AJ x ai];exact ai) aj,AJ x ai]
  have ayD:rY ay=_:=(AD ay (by rw[g2];simp) λq aj e=>(qn q aj).2.1 e.symm).trans g2
  have ayE:rY ae=_:=(AD ae (by rw[g1];simp) λq aj e=>(qn q aj).1 e.symm).trans g1
  have Ly:∀q,b2.q=some q->g q.b≠none:=λq aj=>(hL.bl aj).2
  have ayF:rY ba=_:=(SF ba (by rw[Gh];simp) λq aj e=>Ly q aj (e▸DF)).trans Gh
  have ayG:m2 rY mp []:=emp.move (SF mp emp.dn λq aj e=>Ly q aj (e▸DG))
  have aeP:∀q,sX.q=some q->q.b≠ae/\q.b≠ay/\q.b∉mE++[ba]/\q.b∉mF++[mp]:=λq aj=>by
   rcases ayC q aj with ⟨p,aS,e⟩|aH
   .rw[e]
    refine⟨(qn p aS).1,(qn p aS).2.1,λhm=>?_,λhm=>?_⟩
    .rcases List.mem_append.1 hm with h|h
     .exact(qn p aS).2.2.1 h
     .simp at h;exact Ly p aS (h▸DF)
    .rcases List.mem_append.1 hm with h|h
     .exact(qn p aS).2.2.2 h
     .simp at h;exact Ly p aS (h▸DG)
   .have old:∀x,g x≠none->q.b≠x:=λx ai e=>by rw[e,AJ x ai] at aH;exact ai aH
    refine⟨old ae (by rw[g1];simp),old ay (by rw[g2];simp),λhm=>?_,λhm=>?_⟩
    .rcases List.mem_append.1 hm with h|h
     .exact old _ (dl _ h) rfl
     .simp at h;rw[h,Gh] at aH;cases aH
    .rcases List.mem_append.1 hm with h|h
     .exact old _ (Lx _ h) rfl
     .simp at h;rw[h] at aH;exact emp.dn aH
  have s6:bL h rY:=λx ai=>by
   have ayH:g x≠none:=by rw[cO x ai];exact ai
   rw[AD x ayH λq aj e=>ai (e▸(hL.bl aj).1),cO x ai]
  refine⟨_,rfl,pE s6 f20 ayD (by simp) λCW Hp ayI ma=>⟨G.L-(i+1),by omega,rfl,rfl,rfl,rfl,rfl,i+1,sX,mE++[ba],mF++[mp],bf (by omega) (by omega),by omega,rfl,by simp[SC],by simp[SD],by rw[ayI];rfl,ayB.move λq aj=>ma _ (aeP q aj).2.1,λj aV=>?_,λj aV=>?_,aeL nl h_,aeL CQ oY,λx ai=>?_,λx ai=>?_,aeP,(ma _ (Ne.symm cZ)).trans ayE,Hp⟩⟩
  .by_cases c:j<i
   .rw[SA (by omega),SA (by omega)]
    have hm:=r5 (l:=mE) (i:=j) (by omega)
    rw[ma _ (sM _ hm).2.1,AD _ (dl _ hm) λq aj e=>(qn q aj).2.2.1 (e▸hm)]
    exact Aa j c
   .have k6:j=i:=by omega
    subst k6
    rw[show(mE++[ba]).getD j 0=ba by rw[<-SC];exact SB,show(mF++[mp]).getD j 0=mp by rw[<-SD];exact SB,ma _ aeN]
    exact ayF
  .by_cases c:j<i
   .rw[SA (by omega)]
    have hm:=r5 (l:=mF) (i:=j) (by omega)
    exact(SE j c).move (by rw[ma _ (Hq _ hm).1,AD _ (Lx _ hm) λq aj e=>(qn q aj).2.2.2 (e▸hm)])
   .have k6:j=i:=by omega
    subst k6
    rw[show(mF++[mp]).getD j 0=mp by rw[<-SD];exact SB]
    exact ayG.move (ma _ aeO)
  .rcases List.mem_append.1 ai with h|h
   .refine⟨λhm=>?_,(sM x h).2⟩
    rcases List.mem_append.1 hm with ad|ad
    .exact(sM x h).1 ad
    .simp at ad;exact m7 (ad▸h)
   .simp at h;subst h
    refine⟨λhm=>?_,aeN,ayx⟩
    rcases List.mem_append.1 hm with ad|ad
    .exact gx ad
    .simp at ad;exact ayw ad
  .rcases List.mem_append.1 ai with h|h
   .exact Hq x h
   .simp at h;subst h;exact⟨aeO,ayy⟩
 .have b5:i=G.L:=by omega
  subst b5
  let B:jy:={ cr:=ay,tb:=tb,dR:=dR,b2:=b2,ba:=λj=>mE.getD j 0,mp:=λj=>mF.getD j 0,iP:=λ_=>193,n1:=n1,rX:=117,cS:=cS,m:=m }
  have ayJ:=t.dn
  have fresh:∀p x,p≠.tb->p≠.dR->B.h1 G.L ⟨none,0,0,none⟩ p x->h x=none:=by
   intro p x aa ad ai
   cases p with
   | cr=>rw[show x=ay from ai];exact f20
   | tb=>exact absurd rfl aa
   | dR=>exact absurd rfl ad
   | b2=>obtain⟨q,aj,rfl⟩:=ai;exact(hL.bl aj).1
   | gs=>obtain⟨q,aj,_⟩:=ai;cases aj
   | ba j=>rw[ai.2];exact(sM _ (r5 (by have:=ai.1;omega))).2.2
   | mp j=>rw[ai.2];exact(Hq _ (r5 (by have:=ai.1;omega))).2
  have old:∀p x,(p= .tb∨p= .dR)->B.h1 G.L ⟨none,0,0,none⟩ p x->h x≠none:=by
   rintro p x (rfl|rfl) ai
   .rw[show x=tb from ai];exact ayJ
   .rw[show x=dR from ai.1];exact Ek ai.2
  refine⟨B,rfl,rfl,rfl,rfl,⟨g2,M.bD cO,t.bD cO,λdf=>by rw[cO dR (Ek df)];exact Ek df,?_,λj aV=>Aa j aV,λj aV=>SE j aV,cF.gD ..,?_,?_⟩,⟨o8,q5,q6⟩,fresh,cO⟩
  .have e:(List.range G.L).map B.ba=mE:=by
    apply List.ext_getElem
    .simp[SC]
    .intro j aq aM;simp[B,List.getD,aM]
   rw[e];exact hL.rd
  .intro p eu x ai gV
   by_cases c:p= .tb∨p= .dR
   .by_cases cc:eu= .tb∨eu= .dR
    .rcases c with rfl|rfl
     .rcases cc with rfl|rfl
      .rfl
      .exact absurd (gV.1.symm.trans ai) gV.2
     .rcases cc with rfl|rfl
      .exact absurd (ai.1.symm.trans gV) ai.2
      .rfl
    .exact absurd (fresh eu x (λe=>cc (.inl e)) (λe=>cc (.inr e)) gV) (old p x c ai)
   .by_cases cc:eu= .tb∨eu= .dR
    .exact absurd (fresh p x (λe=>c (.inl e)) (λe=>c (.inr e)) ai) (old eu x cc gV)
    .cases p with
     | tb=>exact absurd (.inl rfl) c
     | dR=>exact absurd (.inr rfl) c
     | gs=>obtain⟨q,aj,_⟩:=ai;cases aj
     | cr =>
      have ai:x=ay:=ai
      subst ai
      cases eu with
      | cr=>rfl
      | tb=>exact absurd (.inl rfl) cc
      | dR=>exact absurd (.inr rfl) cc
      | gs=>obtain⟨q,aj,_⟩:=gV;cases aj
      | b2=>obtain⟨q,aj,e⟩:=gV;exact absurd e.symm (qn q aj).2.1
      | ba j=>exact absurd gV.2.symm (sM _ (r5 (by have:=gV.1;omega))).2.1
      | mp j=>exact absurd gV.2.symm (Hq _ (r5 (by have:=gV.1;omega))).1
     | b2 =>
      obtain⟨q,aj,rfl⟩:=ai
      cases eu with
      | cr=>exact absurd gV (qn q aj).2.1
      | tb=>exact absurd (.inl rfl) cc
      | dR=>exact absurd (.inr rfl) cc
      | gs=>obtain⟨q,aj,_⟩:=gV;cases aj
      | b2=>rfl
      | ba j=>exact absurd (gV.2▸r5 (by have:=gV.1;omega)) (qn q aj).2.2.1
      | mp j=>exact absurd (gV.2▸r5 (by have:=gV.1;omega)) (qn q aj).2.2.2
     | ba i =>
      obtain⟨hi,rfl⟩:=ai
      have hm:=r5 (l:=mE) (i:=i) (by omega)
      cases eu with
      | cr=>exact absurd gV (sM _ hm).2.1
      | tb=>exact absurd (.inl rfl) cc
      | dR=>exact absurd (.inr rfl) cc
      | gs=>obtain⟨q,aj,_⟩:=gV;cases aj
      | b2=>obtain⟨q,aj,e⟩:=gV;exact absurd (e▸hm) (qn q aj).2.2.1
      | ba j =>
       have:=BY nl (i:=i) (j:=j) (by omega) (by have:=gV.1;omega) gV.2
       rw[this]
      | mp j=>exact absurd ((show mE.getD i 0=mF.getD j 0 from gV.2)▸r5 (by have:=gV.1;omega)) (sM _ hm).1
     | mp i =>
      obtain⟨hi,rfl⟩:=ai
      have hm:=r5 (l:=mF) (i:=i) (by omega)
      cases eu with
      | cr=>exact absurd gV (Hq _ hm).1
      | tb=>exact absurd (.inl rfl) cc
      | dR=>exact absurd (.inr rfl) cc
      | gs=>obtain⟨q,aj,_⟩:=gV;cases aj
      | b2=>obtain⟨q,aj,e⟩:=gV;exact absurd (e▸hm) (qn q aj).2.2.2
      | ba j =>
       have zY:=r5 (l:=mE) (i:=j) (by have:=gV.1;omega)
       exact absurd ((show mF.getD i 0=mE.getD j 0 from gV.2)▸hm) (sM _ zY).1
      | mp j =>
       have:=BY CQ (i:=i) (j:=j) (by omega) (by have:=gV.1;omega) gV.2
       rw[this]
  .intro p x ai hm
   by_cases c:p= .tb∨p= .dR
   .rcases c with rfl|rfl
    .have ai:x=tb:=ai
     rw[ai] at hm;exact El hm
    .have nt:x=dR:=ai.1
     rw[nt] at hm;exact MH ai.2 hm
   .exact M.dn hm (fresh p x (λe=>c (.inl e)) (λe=>c (.inr e)) ai)
end

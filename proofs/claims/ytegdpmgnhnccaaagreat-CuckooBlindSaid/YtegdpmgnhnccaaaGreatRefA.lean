import Derived.Test.YtegdpmgnhnccaaaGreatRefL
namespace Go.Proofs.Tryz
open Go Go.cR Go.RowKit
set_option maxRecDepth 8000
section
variable {T:TypeId} {m:jQ} {R:dY} {a8:List dk} {es:ao} {h:ak}
set_option maxHeartbeats 4000000 in
theorem acP {P:dx}{f:Nat}(o:P.dt)(L:q8 m P f)(M:c8 T m R a8 es h){jo:TypeId}{bf:Nat}{fb:Bool}{is:ao}{ids:List aE}(kW:h bf=ev (qT P m.b f fb is) jo)(hv:c4 ab l6 h is ids)(wm:¬bS m es bf)(sep:∀q,is.q=some q->q.b≠bf/\¬bS m es q.b)(Lq:ids.length<1000000000000)
 {aw to:Nat} (hc:aw<2 ^ P.k) (CP:to<2 ^ P.k) {bi:aE} (hO:bi.toNat<=2147483648) (mQ:rl P (kZ f R)) {op:fv} {k at_:Int} {d:c_} (fV:zD op k at_ d) (aT:a8.length<1000000000000) :
 aq 68 [bm ⟨bf,0⟩,U k,ab bi,U at_,ez d,U aw,U to] h λr af=>∃aX e1,r= .tuple #[ez (kd P bi aw (kZ f R)).1,.bool (kd P bi aw (kZ f R)).2]/\c8 T m (lV f R (lI P op bi aw to (kZ f R))) (a8++k7 P.k P.s P.t f aw) aX af /\
  af bf=ev (qT P m.b f (fb||tu P op bi aw to (kZ f R)) e1) jo/\c4 ab l6 af e1 (meets op bi ids)/\¬bS m aX bf/\(∀q,e1.q=some q->q.b≠bf/\¬bS m aX q.b)/\(∀q,e1.q=some q->(∃p,is.q=some p/\q.b=p.b)∨h q.b=none)/\bT (λx=>bS m es x∨sB bf is x) h (λx=>bS m aX x∨sB bf e1 x) af:=by
 have ol:=o.gS;have amH:=Ai o;have Aj:=o.E;have aK:=o.n;have amI:P.n=P.m+1:=rfl;have jE:(2:Int) ^ P.E=((2 ^ P.E:Nat):Int):=by simp
 have bG:=L.mj;rw[jE] at bG;have q9:=Ki (f:Int) Aj;have CQ:∀n,(iG f (gC P.k P.s P.t f aw) n).length<=2*n:=λn=>F2 _ _ _;have amJ:=L.bc;have iu:al ((f:Int)+2)=((f+2:Nat):Int):=by rw[bt];omega
 have pW:(f:Int)+2=((f+2:Nat):Int):=by omega
 have nM:=L.fK;have mO:=L.fl;have zO:P.k<=10:=o.k;have rA:0<P.m:=by have:=o.t;unfold dx.m;omega
 have YO:P.m<2 ^ P.E:=by omega
 have aCC:((2 ^ P.k:Nat):Int)=2 ^ P.k:=by simp
 have aCD:2 ^ P.k<=2 ^ 10:=aDy (by decide) zO;have ah:k=0∨k=1∨(k=2/\0<=at_/\at_<=6)∨k=3:=by
  cases op with
  | look=>exact .inl fV
  | put bO=>exact .inr (.inl fV.1)
  | part a x y=>exact .inr (.inr (.inl ⟨fV.1,by have:=fV.2.1;omega,by have:=fV.2.1;have:=fV.2.2.1;omega⟩))
  | drop=>exact .inr (.inr (.inr fV))
 have wx:¬2147483648<bi:=λh=>by have:=aEn.1 h;have e:(2147483648:aE).toNat=2147483648:=rfl;omega
 refine aro _ _ _ _ _ _ _ ?_;unfold abN;refine bP λae aa f1 aH aD=>bP λax ad f2 a_ aB=>⟨_,az ((aD.trans aB).get kW) rfl,λq1 aA bu aL aO bh aI bb g=>q1=⟨bf,0⟩/\k=aA/\bi=bu/\at_=aL/\aO=aw/\bh=to/\aI=⟨ae,0⟩/\bb=⟨ax,0⟩/\g=ad,?_,?_⟩
 .refine b3 (gT) (b3 (aDz (show ¬3<k by omega)) (b3 (aDz wx) (b3 (aDz (show ¬(aw:Int)<0 by omega)) (b3 (aDz (show ¬2 ^ P.k<=(aw:Int) by omega)) (b3 (aDz (show ¬(to:Int)<0 by omega)) (b3 (aDz (show ¬2 ^ P.k<=(to:Int) by omega)) ?_))))));refine cj (λaY=>?_) λaY=>⟨rfl,rfl,rfl,rfl,rfl,rfl,rfl,rfl,rfl⟩;exact b3 (gT) (b3 (aDz (show ¬6<at_ by omega)) ⟨rfl,rfl,rfl,rfl,rfl,rfl,rfl,rfl,rfl⟩)
 rintro q1 aA bu aL aO bh aI bb g ⟨rfl,rfl,rfl,rfl,rfl,rfl,rfl,rfl,rfl⟩;have fQ:=aD.trans aB;have gg:=fQ.get kW;refine⟨_,az gg rfl,_,az gg rfl,_,az gg rfl,_,az gg rfl,(auO ol (f:Int) (by omega) hc g).mono ?_⟩;rintro _ an ⟨sp,rfl,lQ,aG⟩;rw[sv o f aw] at lQ;have og:=aG.get gg;refine⟨sp,rfl,_,az og rfl,_,az og rfl,_,az og rfl,(Rg ol).to λaJ bd=>⟨_,_,_,rfl,bP λaM aR f5 cG bF=>?_⟩⟩;rw[bG];have CR:=lQ.len;simp only[aDF,aDL] at CR;generalize Gc:kZ f R=eH at *;have tM:=bd.trans bF;have jM:=(fQ.trans aG).trans tM;have f50:h aM=none:=(fQ.trans aG).free (bd.free f5);let X:Nat->Prop:=λx=>x=ae∨x=ax∨∃q,sp.q=some q/\x=q.b;let jF:ao->ao->Nat->Prop:=λaX e1 x=>bS m aX x∨sB bf e1 x;have acQ:∀x,jF es is x->h x≠none:=by
  rintro x (ai|rfl|⟨q,aj,rfl⟩)
  .exact M.dK ai
  .rw[kW];simp
  .exact(hv.bp aj).2
 have sw:∀x,X x->h x=none/\aR x≠none:=by
  rintro x (rfl|rfl|⟨q,aj,rfl⟩)
  .exact⟨f1,by rw[(aB.trans aG).trans tM |>.get aH];simp⟩
  .exact⟨aD.free f2,by rw[(aG.trans tM).get a_];simp⟩
  .exact⟨fQ.free (lQ.bp aj).1,by rw[tM _ (lQ.bp aj).2];exact(lQ.bp aj).2⟩
 have Ge:¬X aM:=by
  rintro (e|e|⟨q,aj,e⟩)
  .rw[e,(aB.trans aG).trans bd |>.get aH] at f5;cases f5
  .rw[e,(aG.trans bd).get a_] at f5;cases f5
  .exact(bd _ (lQ.bp aj).2▸(lQ.bp aj).2) (e▸f5)
 have rg:∀ {bw:ak},(∀x,X x->bw x=aR x)->fR mF bw sp ((List.range P.m).map (lz P f aw)):=λai=>(lQ.rd.bA mZ tM).move λq aj _=>ai _ (.inr (.inr ⟨q,aj,rfl⟩));have Lr:∀ {bw:ak},(∀x,X x->bw x=aR x)->∀ {i:Nat},i<P.m->∀ {K:aF->Prop},(∀q,bx bw q.b (q.o+Int.toNat (i:Int)*2)=some (U ((f+(spot P aw i).1:Nat):Int))->bx bw q.b (q.o+Int.toNat (i:Int)*2+1)=some (U ((spot P aw i).2:Int))->K q)->∃q,sp.q=some q/\0<=(i:Int)/\(i:Int)+1<=(sp.len:Int)/\K q:=λ{bw} ai {i} hi {K} eL=>by
  refine(rg ai).cA mZ (i:=i) (by simp;omega) λq aj k0=>?_;have e:((List.range P.m).map (lz P f aw))[i]'(by simp;omega)=lz P f aw i:=by simp
  rw[e] at k0;obtain⟨aS,aY,_⟩:=k0;exact eL q (by rw[show(i:Int).toNat=i by omega];exact aS) (by rw[show(i:Int).toNat=i by omega];exact aY)
 let gu:dY->List dk->ao->Bool->ao->List aE->ak->Prop:=λdG cm aX kg e1 pz g=>c8 T m dG cm aX g/\bT (jF es is) h (jF aX e1) g/\¬bS m aX bf/\(∀q,e1.q=some q->q.b≠bf/\¬bS m aX q.b)/\g bf=ev (qT P m.b f kg e1) jo/\c4 ab l6 g e1 pz/\(∀x,X x->¬jF aX e1 x)/\∀x,X x->g x=aR x;have auP:gu R a8 es fb is ids aR:=⟨M.bA jM,hj jM _,wm,sep,jM.get kW,hv.move λq aj=>jM _ (hv.bp aj).2,λx ai bY=>acQ x bY (sw x ai).1,λ_ _=>rfl⟩;have mem:∀ {dG cm aX kg e1 pz g df fe d_ g2},gu dG cm aX kg e1 pz g->c8 T m df fe d_ g2->bT (bS m aX) g (bS m d_) g2->gu df fe d_ kg e1 pz g2:=fun⟨_,V,nl,yG,el,ve,yH,rQ⟩ M2 v =>
  ⟨M2,V.trans (nd v),v.out (by rw[el];simp) nl,λq aj=>⟨(yG q aj).1,v.out (ve.bp aj).2 (yG q aj).2⟩,v.get el nl,ve.move λq aj=>v.2.1 _ (ve.bp aj).2 (yG q aj).2,λx ai=>λbY=>bY.elim (λhm=>v.out (by rw[rQ x ai];exact(sw x ai).2) (λhm=>yH x ai (.inl hm)) hm) λbc=>yH x ai (.inr bc),λx ai=>(v.2.1 x (by rw[rQ x ai];exact(sw x ai).2) λhm=>yH x ai (.inl hm)).trans (rQ x ai)⟩
 have bA:∀ {dG cm aX kg e1 pz g g2},gu dG cm aX kg e1 pz g->bL g g2->gu dG cm aX kg e1 pz g2:=fun⟨M,V,nl,yG,el,ve,yH,rQ⟩ bW =>
  ⟨M.bA bW,V.more bW,nl,yG,bW.get el,ve.move λq aj=>bW _ (ve.bp aj).2,yH,λx ai=>(bW x (by rw[rQ x ai];exact(sw x ai).2)).trans (rQ x ai)⟩
 have loc:∀ {dG cm aX kg e1 pz g b g2},gu dG cm aX kg e1 pz g->¬jF aX e1 b->¬X b->bT (jF es is) h (jF aX e1) g2->(∀y,y≠b->g2 y=g y)->gu dG cm aX kg e1 pz g2:=fun⟨M,_,nl,yG,el,ve,yH,rQ⟩ ar ai V Ls =>
  ⟨M.move λy aC=>Ls y λe=>ar (e▸.inl aC),V,nl,yG,(Ls bf λe=>ar (e▸.inr (.inl rfl))).trans el,ve.move λq aj=>Ls _ λe=>ar (e▸.inr (.inr ⟨q,aj,rfl⟩)),yH,λx hx=>(Ls x λe=>ai (e▸hx)).trans (rQ x hx)⟩
 have fresh:∀ {dG cm aX kg e1 pz g b},gu dG cm aX kg e1 pz g->g b=none->h b=none/\¬jF aX e1 b/\¬X b:=fun⟨M,V,nl,yG,el,ve,yH,rQ⟩ ar =>
  ⟨V.2.2 _ ar,λbY=>(by
   rcases bY with hm|rfl|⟨q,aj,rfl⟩
   .exact M.dK hm ar
   .rw[el] at ar;cases ar
   .exact(ve.bp aj).2 ar),λai=>(sw _ ai).2 ((rQ _ ai)▸ar)⟩
 have yI:¬jF es is aM:=λbY=>acQ _ bY f50;let fG:Nat->dY:=λi=>eP R (f+2) λp=>if p<i then strip bi (fg P aw eH p) else R (f+2) p
 have Px:∀(i:Nat) (dG:dY),i<P.m->(∀r j,r≠f+2->dG r j=R r j)->dG (f+(spot P aw i).1) (spot P aw i).2=fg P aw eH i:=λi dG hi jL=>by
  have ad:=(x8 L o hc hi).2.2;rw[jL _ _ (by omega),<-Gc];rfl
 have Py:∀i r j,r≠f+2->fG i r j=R r j:=λi r j aQ=>by show eP R (f+2) _ r j=_;unfold eP;rw[aDq aQ]
 have Hs:∀(A B:Nat->cM) (i:Nat),fM (eP R (f+2) λp=>if p<i then A p else B p) (f+2,i) (A i)=eP R (f+2) λp=>if p<i+1 then A p else B p:=λA B i=>by
  funext r j;show(if r=f+2/\j=i then A i else if r=f+2 then (if j<i then A j else B j) else R r j)=if r=f+2 then (if j<i+1 then A j else B j) else R r j
  by_cases aS:r=f+2
  .rw[aDr aS,aDr aS];by_cases aY:j=i
   .rw[aDr ⟨aS,aY⟩,eY,aY]
   .rw[aDq (λh=>aY h.2)];by_cases cB:j<i
    .rw[aDr cB,eY]
    .rw[aDq cB,cS]
  .rw[aDq (λh=>aS h.1),aDq aS,aDq aS]
 have acR:gu (fG 0) (a8++iG f (gC P.k P.s P.t f aw) 0) es fb is ids aR:=by
  have e:fG 0=R:=by
   have:(λp=>if p<0 then strip bi (fg P aw eH p) else R (f+2) p)=R (f+2):=by funext p;simp
   show eP R (f+2) _=R;rw[this];exact CS R _
  rw[e];simpa [iG] using auP
 refine⟨λbH dj bK dm cw e0 cH di s2 et dW t1 cU g bW=>bH=⟨bf,0⟩/\k=dj/\bi=bK/\at_=dm/\cw=aw/\e0=to/\cH=⟨ae,0⟩/\di=⟨ax,0⟩/\sp=s2/\et=((2 ^ P.E:Nat):Int)/\dW=⟨aM,0⟩/\∃(i:Nat) (aX:ao),cU=i/\i<=P.m/\bW=P.m-i/\t1=(iv bi (fg P aw eH) i).2/\gu (fG i) (a8++iG f (gC P.k P.s P.t f aw) i) aX fb is ids g/\g aM=some (.cells (ag.cells (.ws 8 (iv bi (fg P aw eH) i).1)).toArray 49 (0,0))/\¬jF aX is aM,
  ⟨P.m,rfl,rfl,rfl,rfl,rfl,rfl,rfl,rfl,rfl,rfl,rfl,0,es,rfl,by omega,rfl,rfl,acR,cG,yI⟩,?_⟩
 clear acR yI;rintro bH dj bK dm cw e0 cH di s2 et dW t1 cU g bW ⟨rfl,rfl,rfl,rfl,rfl,rfl,rfl,rfl,rfl,rfl,rfl,i,j6,rfl,hi,rfl,rfl,S,nK,yI⟩;have Am:=CQ i;refine cj (λcl=>?_) λdH=>?_
 .have cb:i<P.m:=by omega
  obtain⟨Ak,Al,Pz⟩:=x8 L o hc cb;have el:=S.2.2.2.2.1;have rQ:=S.2.2.2.2.2.2.2;refine⟨some ⟨m.b,0⟩,az el rfl,Lr rQ cb λq aS _=>⟨_,aS,Lr rQ cb λdE _ aY=>⟨_,aY,?_⟩⟩⟩;refine(w1 S.1 Ak Al (by rw[aDs];omega)).mono ?_;rintro _ g1 ⟨d_,rfl,oY,v1⟩;have fz:=mem S oY v1;have acS:=v1.get nK λhm=>yI (.inl hm);have Lt:¬jF d_ is aM:=λbY=>bY.elim (v1.out (by rw[nK];simp) λhm=>yI (.inl hm)) λbc=>yI (.inr bc);rw[Px i _ cb (Py i)];refine⟨_,rfl,bP λbM g2 f4 b6 acT=>?_⟩;obtain⟨pg,acU,acV⟩:=fresh fz f4;have n43:bM≠aM:=λe=>by rw[e,acS] at f4;cases f4
  have fF:=bA fz acT;refine fN (n:=12) fF.2.1 pg b6 rfl λg3 kG b7 da=>⟨Int.NonNeg.mk _,Int.NonNeg.mk _,_,fs b7 (i:=0) (by decide),?_⟩;have kI:=loc fF acU acV kG da;have vf:=(da aM (aDC n43)).trans (acT.get acS);have fin:∀(g5:ak) (cr:cM) (pD:c_) (AW:Bool),gu (fG i) (a8++iG f (gC P.k P.s P.t f aw) i++[⟨((f+(spot P aw i).1:Nat):Int),(spot P aw i).2,false⟩]) d_ fb is ids g5->g5 bM=some (.cells (ag.cells (.ws 12 cr)).toArray 69 (0,0))->g5 aM=some (.cells (ag.cells (.ws 8 pD)).toArray 49 (0,0))->cr=strip bi (fg P aw eH i)->(pD,AW)=iv bi (fg P aw eH) (i+1) ->
   ∃da:Option aF,bx g5 bf (0+0)=some (a7 da)/\∃et,bx g5 bf (0+1)=some (U et)/\∃cB:cM,b5 g5 bM 0 cB/\aq 121 [a7 da,U (al (et+2)),U i,ez cB] g5 λv6 dB=>v6= .tuple #[]/\∃bd,bd<P.m-i/\((⟨bf,0⟩:aF)=⟨bf,0⟩/\k=k/\bi=bi/\at_=at_/\(aw:Int)=aw/\(to:Int)=to/\(⟨ae,0⟩:aF)=⟨ae,0⟩/\(⟨ax,0⟩:aF)=⟨ax,0⟩/\sp=sp/\((2 ^ P.E:Nat):Int)=((2 ^ P.E:Nat):Int)/\(⟨aM,0⟩:aF)=⟨aM,0⟩/\∃(dO:Nat) (aX:ao),al ((i:Int)+1)=dO/\dO<=P.m/\bd=P.m-dO/\AW=(iv bi (fg P aw eH) dO).2/\gu (fG dO) (a8++iG f (gC P.k P.s P.t f aw) dO) aX fb is ids dB/\dB aM=some (.cells (ag.cells (.ws 8 (iv bi (fg P aw eH) dO).1)).toArray 49 (0,0))/\¬jF aX is aM):=by
   intro g5 cr pD AW hr uX w2 a1 aV;have Ht:=hr.2.2.2.2.1;refine⟨some ⟨m.b,0⟩,az Ht rfl,_,az Ht rfl,_,dL uX,?_⟩;rw[iu];refine(w3 hr.1 mO (show i<m.cx (f+2) by omega) _ (by simp only[aDs,aDS];omega)).mono ?_;rintro _ g6 ⟨v7,rfl,nN,v6⟩;rw[a1,show fM (fG i) (f+2,i) (strip bi (fg P aw eH i))=fG (i+1) from Hs _ _ i] at nN;have lv:=mem hr nN v6;refine⟨rfl,P.m-(i+1),by omega,rfl,rfl,rfl,rfl,rfl,rfl,rfl,rfl,rfl,rfl,rfl,i+1,v7,bt,by omega,rfl,by rw[<-aV],?_,by rw[<-aV];exact v6.get w2 λhm=>Lt (.inl hm),λbY=>bY.elim (v6.out (by rw[w2];simp) λhm=>Lt (.inl hm)) λbc=>Lt (.inr bc)⟩;have gm:(gC P.k P.s P.t f aw).getD i ⟨0,0⟩=lz P f aw i:=by rw[sv o];simp[List.getD,cb]
   rw[ud,aDr (by rw[sv o];simpa using cb),gm,show ∀(a b:List dk) (x y:dk),a++(b++([x]++[y]))=a++b++[x]++[y] by simp,pW];exact lv
  have kY:ei (fg P aw eH i)=decide ((fg P aw eH i)[0]=1):=wu _;refine cj (λwv=>?_) λwv=>?_
  .have dC:ei (fg P aw eH i)=true:=by rw[kY];exact aDA wv
   refine⟨Int.NonNeg.mk _,Int.NonNeg.mk _,_,fs b7 (i:=1) (by decide),?_⟩;by_cases DN:(fg P aw eH i)[1]=bi
   .refine dF (aDA DN) ⟨_,dL b7,(auQ _).to λg4 bd=>⟨_,rfl,?_⟩⟩;have h2:=bA kI bd;refine fN (n:=8) h2.2.1 f50 (bd.get vf) (by simp[ag.cells]) λg5 rG uX cz=>?_;have hr:=loc h2 Lt Ge rG cz;rw[<-CU];refine fN (n:=12) rG pg ((cz bM n43).trans (bd.get b7)) (by simp[ag.cells]) λg6 rD dP ek=>fin g6 fm _ true (loc hr acU acV rD ek) dP ((ek aM (aDC n43)).trans uX) ?_ ?_
    .unfold strip;rw[aDr ⟨dC,DN⟩]
    .rw[iv,aDr ⟨dC,DN⟩]
   .exact b3 (aDz DN) (fin g3 _ _ _ kI b7 vf (by unfold strip;rw[aDq λh=>DN h.2]) (by rw[iv,aDq λh=>DN h.2]))
  .have dC:¬ei (fg P aw eH i)=true:=by rw[kY];simpa using wv
   exact fin g3 _ _ _ kI b7 vf (by unfold strip;rw[aDq λh=>dC h.1]) (by rw[iv,aDq λh=>dC h.1])
 have hi:i=P.m:=by omega
 subst hi;clear dH;obtain⟨old,hold⟩:∃x,x=iv bi (fg P aw eH) P.m:=⟨_,rfl⟩;have auR:kd P bi aw eH=old:=hold.symm;rw[auR];rw[<-hold] at nK ⊢;refine⟨_,dL nK,bP λb1 g1 Rh uX Ri=>?_⟩;obtain⟨um,Ar,x9⟩:=fresh S Rh;have n53:b1≠aM:=λe=>by rw[e,nK] at Rh;cases Rh
 have fz:=bA S Ri;refine fN (n:=8) fz.2.1 um uX rfl λg2 ff jk cg=>?_;have fF:=loc fz Ar x9 ff cg;have Rj:=(cg aM (aDC n53)).trans (Ri.get nK);clear S fz ff nK uX Ri cg;generalize acW:a8++iG f (gC P.k P.s P.t f aw) P.m=sc at fF;have aCE:sc.length<=a8.length+2*P.m:=by rw[<-acW,aDs];omega
 let nw:c_:=match op with| .look=>old.1| .put bO=>bO| .part a x y=>(old.1.setIfInBounds a x).setIfInBounds (a+1) y| .drop=>old.1
 have wh:∀ {bw:ak},(∀x,X x->bw x=aR x)->bw ae=some (.cells (ag.cells (.ws 8 d)).toArray 49 (0,0)):=λai=>(ai ae (.inl rfl)).trans (((aB.trans aG).trans tM).get aH);refine⟨λeV n27 er n28 n29 n30 f_ hn bz n31 h1 t2 fC g=>eV=⟨bf,0⟩/\k=n27/\bi=er/\at_=n28/\n29=aw/\n30=to/\f_=⟨ae,0⟩/\hn=⟨ax,0⟩/\sp=bz/\n31=((2 ^ P.E:Nat):Int)/\h1=⟨aM,0⟩/\old.2=t2/\fC=⟨b1,0⟩/\gu (fG P.m) sc j6 fb is ids g/\g aM=some (.cells (ag.cells (.ws 8 old.1)).toArray 49 (0,0))/\g b1=some (.cells (ag.cells (.ws 8 (if k=1 then d else old.1))).toArray 49 (0,0)),?_,?_⟩
 .refine cj (λc=>?_) λc=>⟨rfl,rfl,rfl,rfl,rfl,rfl,rfl,rfl,rfl,rfl,rfl,rfl,rfl,fF,Rj,by rw[aDq c];exact jk⟩;refine⟨_,dL (wh fF.2.2.2.2.2.2.2),fN (n:=8) fF.2.1 um jk (by simp[ag.cells]) λg3 kG b7 da=>⟨rfl,rfl,rfl,rfl,rfl,rfl,rfl,rfl,rfl,rfl,rfl,rfl,rfl,loc fF Ar x9 kG da,(da aM (aDC n53)).trans Rj,by rw[aDr c];exact b7⟩⟩
 clear fF Rj jk;rintro eV n27 er n28 n29 n30 f_ hn bz n31 h1 t2 fC g3 ⟨rfl,rfl,rfl,rfl,rfl,rfl,rfl,rfl,rfl,rfl,rfl,rfl,rfl,kI,vf,jk⟩;refine⟨λiq n32 fB n33 n34 iW bZ n35 me t3 ld g=>iq=⟨bf,0⟩/\k=n32/\bi=fB/\n33=aw/\n34=to/\iW=⟨ax,0⟩/\sp=bZ/\n35=((2 ^ P.E:Nat):Int)/\me=⟨aM,0⟩/\old.2=t3/\ld=⟨b1,0⟩/\gu (fG P.m) sc j6 fb is ids g/\g aM=some (.cells (ag.cells (.ws 8 old.1)).toArray 49 (0,0))/\g b1=some (.cells (ag.cells (.ws 8 nw)).toArray 49 (0,0)),?_,?_⟩
 .refine cj (λc=>?_) λc=>⟨rfl,rfl,rfl,rfl,rfl,rfl,rfl,rfl,rfl,rfl,rfl,kI,vf,?_⟩
  .cases op with
   | look=>exact absurd (fV.symm.trans c) (by decide)
   | put bO=>exact absurd (fV.1.symm.trans c) (by decide)
   | drop=>exact absurd (fV.symm.trans c) (by decide)
   | part a x y =>
    obtain⟨_,bY,am6,ai,aC⟩:=fV;subst bY;rw[cS] at jk;refine⟨Int.NonNeg.mk _,Int.NonNeg.mk _,_,fs (wh kI.2.2.2.2.2.2.2) (i:=0) (by decide),by omega,by omega,?_⟩;rw[show 0+Int.toNat (a:Int)*1=a by omega];refine nq (n:=8) (i:=a) kI.2.1 um jk (by omega) λg4 rC b6 dq=>?_;have h2:=loc kI Ar x9 rC dq;rw[show al ((a:Int)+1)=((a+1:Nat):Int) by rw[bt];omega,show 0+Int.toNat ((a+1:Nat):Int)*1=a+1 by omega];refine⟨Int.NonNeg.mk _,Int.NonNeg.mk _,_,fs (wh h2.2.2.2.2.2.2.2) (i:=1) (by decide),by omega,by omega,nq (n:=8) (i:=a+1) rC um b6 (by omega) λg6 rD dP ek=>⟨rfl,rfl,rfl,rfl,rfl,rfl,rfl,rfl,rfl,rfl,rfl,loc h2 Ar x9 rD ek,(ek aM (aDC n53)).trans ((dq aM (aDC n53)).trans vf),?_⟩⟩;rw[dP];have:((old.1.set a d[0]).set (a+1) d[1])=(old.1.setIfInBounds a x).setIfInBounds (a+1) y:=by
     rw[ai,aC];apply aEO;intro j aU;simp[aEa,Vector.getElem_setIfInBounds]
    rw[this]
  .cases op with
   | look=>rw[aDq (by have:k=0:=fV;omega)] at jk;exact jk
   | put bO=>rw[aDr fV.1,fV.2.symm] at jk;exact jk
   | drop=>rw[aDq (by have:k=3:=fV;omega)] at jk;exact jk
   | part a x y=>exact absurd fV.1 c
 clear kI vf jk;rintro iq n32 fB n33 n34 iW bZ n35 me t3 ld g4 ⟨rfl,rfl,rfl,rfl,rfl,rfl,rfl,rfl,rfl,rfl,rfl,h2,AX,jk⟩;refine bP λdU g5 f6 dP cn=>?_;obtain⟨zK,auS,auT⟩:=fresh h2 f6;have n63:dU≠aM:=λe=>by rw[e,AX] at f6;cases f6
 have hr:=bA h2 cn;have w2:=cn.get AX;have acX:=cn.get jk;have n65:dU≠b1:=λe=>by rw[e,jk] at f6;cases f6
 clear h2 AX jk cn;obtain⟨nO,rp⟩:∃c,c=Ao bi to (op.now old.1 old.2):=⟨_,rfl⟩;refine⟨λlA n36 gz n37 m2 cZ n38 p7 t4 pB g=>lA=⟨bf,0⟩/\k=n36/\bi=gz/\n37=aw/\m2=⟨ax,0⟩/\sp=cZ/\n38=((2 ^ P.E:Nat):Int)/\p7=⟨aM,0⟩/\old.2=t4/\pB=⟨dU,0⟩/\gu (fG P.m) sc j6 fb is ids g/\g aM=some (.cells (ag.cells (.ws 8 old.1)).toArray 49 (0,0))/\g dU=some (.cells (ag.cells (.ws 12 nO)).toArray 69 (0,0)),?_,?_⟩
 .have no:op.now old.1 old.2=none->g5 dU=some (.cells (ag.cells (.ws 12 nO)).toArray 69 (0,0)):=λh=>by rw[rp,h];exact dP
  have bp:op.now old.1 old.2=some nw->∃tJ:c_,b5 g5 b1 0 tJ/\aq 124 [ab bi,U to,ez tJ] g5 λfh hA=>∃po:cM,fh=ez po/\aW hA ⟨dU,0⟩ (ag.cells (.ws 12 po)) λod=>((⟨bf,0⟩:aF)=⟨bf,0⟩/\k=k/\bi=bi/\(aw:Int)=aw/\(⟨ax,0⟩:aF)=⟨ax,0⟩/\sp=sp/\((2 ^ P.E:Nat):Int)=((2 ^ P.E:Nat):Int)/\(⟨aM,0⟩:aF)=⟨aM,0⟩/\old.2=old.2/\(⟨dU,0⟩:aF)=⟨dU,0⟩/\gu (fG P.m) sc j6 fb is ids od/\od aM=some (.cells (ag.cells (.ws 8 old.1)).toArray 49 (0,0))/\od dU=some (.cells (ag.cells (.ws 12 nO)).toArray 69 (0,0))):=λh=>by
   refine⟨_,dL acX,(auU bi (show to<2 ^ 63 by omega) nw).to λg6 cn=>⟨_,rfl,?_⟩⟩;have lv:=bA hr cn;refine fN (n:=12) lv.2.1 zK (cn.get dP) (by simp[ag.cells]) λg7 mJ fa eF=>⟨rfl,rfl,rfl,rfl,rfl,rfl,rfl,rfl,rfl,rfl,loc lv auS auT mJ eF,(eF aM (aDC n63)).trans (cn.get w2),?_⟩;rw[fa,rp,h];rfl
  have Lu:op.now old.1 old.2=none->((⟨bf,0⟩:aF)=⟨bf,0⟩/\k=k/\bi=bi/\(aw:Int)=aw/\(⟨ax,0⟩:aF)=⟨ax,0⟩/\sp=sp/\((2 ^ P.E:Nat):Int)=((2 ^ P.E:Nat):Int)/\(⟨aM,0⟩:aF)=⟨aM,0⟩/\old.2=old.2/\(⟨dU,0⟩:aF)=⟨dU,0⟩/\gu (fG P.m) sc j6 fb is ids g5/\g5 aM=some (.cells (ag.cells (.ws 8 old.1)).toArray 49 (0,0))/\g5 dU=some (.cells (ag.cells (.ws 12 nO)).toArray 69 (0,0))):=λh=>⟨rfl,rfl,rfl,rfl,rfl,rfl,rfl,rfl,rfl,rfl,hr,w2,no h⟩;cases op with
  | look =>
   have ln:k=0:=fV;refine b3 (gT) (b3 (aDz (show ¬k=2 by omega)) (dF (aDA ln) ?_));cases ns:old.2 with
   | true=>rw[ns] at bp Lu;exact dF rfl (bp rfl)
   | false=>rw[ns] at bp Lu;exact b3 rfl (Lu rfl)
  | put bO=>exact dF (aDA fV.1) (bp rfl)
  | part a x y=>exact b3 (aDz (by have:=fV.1;omega)) (dF (aDA fV.1) (bp rfl))
  | drop =>
   have yJ:k=3:=fV;exact b3 (gT) (b3 (aDz (show ¬k=2 by omega)) (b3 (gT) (Lu rfl)))
 clear hr w2 acX dP f6;rintro lA n36 gz n37 m2 cZ n38 p7 t4 pB g6 ⟨rfl,rfl,rfl,rfl,rfl,rfl,rfl,rfl,rfl,rfl,lv,Rk,pj⟩;have Lv:¬jF j6 is aM:=yI;let df:Nat->dY:=λi=>eP R (f+2) λp=>if p<i then kV P aw bi eH nO p else R (f+2) p
 have mx:fG P.m=df P.m:=by
  show eP R (f+2) _=eP R (f+2) _;congr 1;funext p;by_cases c:p<P.m
  .rw[aDr c,aDr c];unfold kV;rw[aDr c]
  .rw[aDq c,aDq c]
 have Km:∀i,fM (df i) (f+2,i) (kV P aw bi eH nO i)=df (i+1):=λi=>Hs _ _ i;have acY:∀i,P.m<=i->iG f (gC P.k P.s P.t f aw) (i+1)=iG f (gC P.k P.s P.t f aw) i++[⟨((f+2:Nat):Int),i,true⟩]:=λi hi=>by
  rw[ud,aDq (by rw[sv o];simp;omega),List.nil_append,pW]
 have Hu:=lv.2.2.2.2.1;refine⟨some ⟨m.b,0⟩,az Hu rfl,_,az Hu rfl,_,dL pj,?_⟩;rw[iu,show(sp.len:Int)=((P.m:Nat):Int) by omega];refine(w3 lv.1 mO (show P.m<m.cx (f+2) by omega) _ (by omega)).mono ?_;rintro _ g7 ⟨ri,rfl,rE,ee⟩;rw[mx,show nO=kV P aw bi eH nO P.m by unfold kV;rw[cS,aDr rfl],Km] at rE;have w4:=mem lv rE ee;rw[<-acW,aDD,<-acY _ (aDt _)] at w4;have acZ:=ee.get Rk λhm=>Lv (.inl hm);have ac0:¬jF ri is aM:=λbY=>bY.elim (ee.out (by rw[Rk];simp) λhm=>Lv (.inl hm)) λbc=>Lv (.inr bc);refine⟨rfl,λlf n40 gv n41 nt ck n42 oC t5 n43 g bW=>lf=⟨bf,0⟩/\k=n40/\bi=gv/\n41=aw/\nt=⟨ax,0⟩/\sp=ck/\n42=((2 ^ P.E:Nat):Int)/\oC=⟨aM,0⟩/\old.2=t5/\∃(i:Nat) (aX:ao),n43=i/\P.m<i/\i<=2 ^ P.E/\bW=2 ^ P.E-i/\gu (df i) (a8++iG f (gC P.k P.s P.t f aw) i) aX fb is ids g/\g aM=some (.cells (ag.cells (.ws 8 old.1)).toArray 49 (0,0))/\¬jF aX is aM,
  ⟨2 ^ P.E-(P.m+1),rfl,rfl,rfl,rfl,rfl,rfl,rfl,rfl,rfl,P.m+1,ri,bt,by omega,by omega,rfl,w4,acZ,ac0⟩,?_⟩
 clear lv w4 rE ee Rk acZ Lv ac0 yI pj Hu;rintro lf n40 gv n41 nt ck n42 oC t5 n43 g8 bW ⟨rfl,rfl,rfl,rfl,rfl,rfl,rfl,rfl,rfl,i,qK,rfl,oQ,hi,rfl,lS,w5,yK⟩;have Am:=CQ i;refine cj (λcl=>?_) λdH=>?_
 .have cb:i<2 ^ P.E:=by omega
  have AY:=lS.2.2.2.2.1;refine⟨some ⟨m.b,0⟩,az AY rfl,_,az AY rfl,?_⟩;rw[iu];refine(w3 lS.1 mO (show i<m.cx (f+2) by omega) fm (by rw[aDs];omega)).mono ?_;rintro _ g9 ⟨Cn,rfl,rR,v9⟩;rw[show fm=kV P aw bi eH nO i by unfold kV;rw[cS,cS],Km] at rR;have xQ:=mem lS rR v9;rw[aDD,<-acY _ (by omega)] at xQ;exact⟨rfl,2 ^ P.E-(i+1),by omega,rfl,rfl,rfl,rfl,rfl,rfl,rfl,rfl,rfl,i+1,Cn,bt,by omega,by omega,rfl,xQ,v9.get w5 λhm=>yK (.inl hm),λbY=>bY.elim (v9.out (by rw[w5];simp) λhm=>yK (.inl hm)) λbc=>yK (.inr bc)⟩
 have hi:i=2 ^ P.E:=by omega
 subst hi;clear dH oQ;refine⟨λmK n45 wU dV n46 tK t6 g=>mK=⟨bf,0⟩/\n45=aw/\wU=⟨ax,0⟩/\sp=dV/\n46=((2 ^ P.E:Nat):Int)/\tK=⟨aM,0⟩/\old.2=t6/\∃e1,(∀q,e1.q=some q->(∃p,is.q=some p/\q.b=p.b)∨h q.b=none)/\gu (df (2 ^ P.E)) (a8++iG f (gC P.k P.s P.t f aw) (2 ^ P.E)) qK fb e1 (meets op bi ids) g/\g aM=some (.cells (ag.cells (.ws 8 old.1)).toArray 49 (0,0))/\¬jF qK e1 aM,?_,?_⟩
 .have stay:meets op bi ids=ids->((⟨bf,0⟩:aF)=⟨bf,0⟩/\(aw:Int)=aw/\(⟨ax,0⟩:aF)=⟨ax,0⟩/\sp=sp/\((2 ^ P.E:Nat):Int)=((2 ^ P.E:Nat):Int)/\(⟨aM,0⟩:aF)=⟨aM,0⟩/\old.2=old.2/\∃e1,(∀q,e1.q=some q->(∃p,is.q=some p/\q.b=p.b)∨h q.b=none)/\gu (df (2 ^ P.E)) (a8++iG f (gC P.k P.s P.t f aw) (2 ^ P.E)) qK fb e1 (meets op bi ids) g8/\g8 aM=some (.cells (ag.cells (.ws 8 old.1)).toArray 49 (0,0))/\¬jF qK e1 aM):=λh=>by
   rw[h];exact⟨rfl,rfl,rfl,rfl,rfl,rfl,rfl,is,λq aj=> .inl ⟨q,aj,rfl⟩,lS,w5,yK⟩
  have Lw:meets op bi ids=(if bi∈ids then ids else ids++[bi])->aq 125 [bm ⟨bf,0⟩,ab bi] g8 λiA yj=>iA= .tuple #[]/\((⟨bf,0⟩:aF)=⟨bf,0⟩/\(aw:Int)=aw/\(⟨ax,0⟩:aF)=⟨ax,0⟩/\sp=sp/\((2 ^ P.E:Nat):Int)=((2 ^ P.E:Nat):Int)/\(⟨aM,0⟩:aF)=⟨aM,0⟩/\old.2=old.2/\∃e1,(∀q,e1.q=some q->(∃p,is.q=some p/\q.b=p.b)∨h q.b=none)/\gu (df (2 ^ P.E)) (a8++iG f (gC P.k P.s P.t f aw) (2 ^ P.E)) qK fb e1 (meets op bi ids) yj/\yj aM=some (.cells (ag.cells (.ws 8 old.1)).toArray 49 (0,0))/\¬jF qK e1 aM):=λh=>by
   obtain⟨qL,uU,ac1,ac2,AY,auV,Rl,DO⟩:=lS;refine(auW AY auV (λq aj=>(ac2 q aj).1) Lq bi).mono ?_;rintro _ g9 ⟨e1,rfl,Lx,yL,w6,v9⟩;have Rm:∀x,g8 x≠none->¬sB bf is x->¬sB bf e1 x:=λx ai aK=>v9.out ai aK;have ac3:∀x,bS m qK x->¬sB bf is x:=λx ai bc=>bc.elim (λe=>ac1 (e▸ai)) fun⟨q,aj,e⟩=>(ac2 q aj).2 (e▸ai);rw[h];refine⟨rfl,rfl,rfl,rfl,rfl,rfl,rfl,rfl,e1,λq aj=>?_,⟨qL.move λx ai=>v9.2.1 x (qL.dK ai) (ac3 x ai),uU.trans (B2 v9),ac1,λq aj=>⟨w6 q aj,λhm=>Rm _ (qL.dK hm) (ac3 _ hm) (.inr ⟨q,aj,rfl⟩)⟩,Lx,yL,λx ai bY=>?_,λx ai=>?_⟩,v9.get w5 λbc=>yK (.inr bc),λbY=>bY.elim (λhm=>yK (.inl hm)) (Rm aM (by rw[w5];simp) λbc=>yK (.inr bc))⟩
   .rcases v9.1 q.b (.inr ⟨q,aj,rfl⟩) with (ar|⟨p,aP,ar⟩)|ar
    .exact absurd ar (w6 q aj)
    .exact .inl ⟨p,aP,ar⟩
    .exact .inr (uU.2.2 _ ar)
   .have AZ:g8 x≠none:=by rw[DO x ai];exact(sw x ai).2
    exact bY.elim (λhm=>Rl x ai (.inl hm)) (Rm x AZ λbc=>Rl x ai (.inr bc))
   .rw[v9.2.1 x (by rw[DO x ai];exact(sw x ai).2) λbc=>Rl x ai (.inr bc),DO x ai]
  cases op with
  | look =>
   have ln:k=0:=fV;exact b3 (gT) (b3 (aDz (show ¬k=2 by omega)) (stay rfl))
  | put bO=>exact dF (aDA fV.1) (Lw rfl)
  | part a x y=>exact b3 (aDz (by have:=fV.1;omega)) (dF (aDA fV.1) (Lw rfl))
  | drop =>
   have yJ:k=3:=fV;exact b3 (gT) (b3 (aDz (show ¬k=2 by omega)) (stay rfl))
 clear lS w5 yK;rintro mK n45 wU dV n46 tK t6 g9 ⟨rfl,rfl,rfl,rfl,rfl,rfl,rfl,e1,auX,xQ,Rn,Ro⟩;obtain⟨rR,DP,ac4,w6,Lx,yL,Ly,Lz⟩:=xQ;have gf:iP P op bi aw to eH=kV P aw bi eH nO:=by rw[rp,hold];rfl
 have Gh:c8 T m (eP R (f+2) (iP P op bi aw to eH)) (a8++iG f (gC P.k P.s P.t f aw) (2 ^ P.E)) qK g9:=by rw[gf];exact c8.CV (f:=kV P aw bi eH nO) (g:=R (f+2)) rR (by omega)
 refine(auY o Gh Lx ac4 (by omega) mO nM hc (by rw[tw];exact zL o mQ hc CP hO) (by rw[aDs];omega)).mono ?_;rintro _ g3 ⟨hp,rfl,gH,pX,aL,v3⟩;rw[Ap,tw] at gH;rw[tw] at pX;let j0:=kH P aw (iP P op bi aw to eH);let W:Nat->dY:=λk=>lV f R (qM P aw j0 (uV P j0 eH) k);have gH:c8 T m (W 0) _ hp g3:=gH.congr λr aQ j aU=>by
  show(if f<=r/\r<f+3 then (if r-f=2/\j<2 ^ P.E then j0 j else eH (r-f) j) else R r j)=if r=f+2 then j0 j else R r j
  by_cases aS:r=f+2
  .subst aS;rw[eY,aDr rfl,eY]
  .rw[aDq aS];by_cases aY:f<=r/\r<f+3
   .rw[aDr aY,cS,<-Gc];show R (f+(r-f)) j=_;rw[show f+(r-f)=r by omega]
   .rw[aDq aY]
 have PK:∀k i,i<2 ^ P.E->W k (f+2) i=j0 i:=λk i hi=>by
  show(if f<=f+2/\f+2<f+3 then qM P aw j0 (uV P j0 eH) k (f+2-f) i else R (f+2) i)=_;rw[eY,show f+2-f=2 by omega,Kr k λp aP e=>?_]
  .show(if 2=2/\i<2 ^ P.E then j0 i else eH 2 i)=_
   rw[aDr ⟨rfl,hi⟩]
  .unfold spot at e;split at e<;>simp at e
 have PL:∀k,k<P.m->fM (W k) (f+(spot P aw k).1,(spot P aw k).2) ((j0 k).set 11 0)=W (k+1):=λk ah=>by
  have s2:=(x8 L o hc ah).2.2;funext r j;show(if r=f+(spot P aw k).1/\j=(spot P aw k).2 then _ else if f<=r/\r<f+3 then qM P aw j0 (uV P j0 eH) k (r-f) j else R r j)=if f<=r/\r<f+3 then (if r-f=(spot P aw k).1/\j=(spot P aw k).2 then (j0 k).set 11 0 else qM P aw j0 (uV P j0 eH) k (r-f) j) else R r j
  by_cases aS:f<=r/\r<f+3
  .rw[aDr aS,aDr aS];by_cases aY:r=f+(spot P aw k).1/\j=(spot P aw k).2
   .rw[aDr aY,aDr ⟨by omega,aY.2⟩]
   .rw[aDq aY,aDq λh=>aY ⟨by omega,h.2⟩]
  .rw[aDq aS,aDq aS,cS]
 have aCF:=CQ (2 ^ P.E);generalize ac5:a8++iG f (gC P.k P.s P.t f aw) (2 ^ P.E)++(h5 f P.E++h5 f P.E)=oJ at gH;have amR:oJ.length<1000010000000:=by
  rw[<-ac5];simp only[aDs];omega
 have PN:(fb||l9 P aw (iP P op bi aw to eH))=(fb||tu P op bi aw to eH):=rfl;rw[PN] at pX;generalize (fb||tu P op bi aw to eH)=Aq at pX ⊢;have LA:∀x,g9 x≠none->¬jF qK e1 x->g3 x=g9 x/\¬bS m hp x:=λx ai aK =>
  ⟨v3.2.1 x ai λh=>aK (h.imp id .inl),λhm=>v3.out ai (λh=>aK (h.imp id .inl)) (.inl hm)⟩
 have Rp:∀q,e1.q=some q->g3 q.b=g9 q.b/\¬bS m hp q.b:=λq aj =>
  ⟨v3.2.1 _ (yL.bp aj).2 λh=>h.elim (w6 q aj).2 (w6 q aj).1,λhm=>v3.out (yL.bp aj).2 (λh=>h.elim (w6 q aj).2 (w6 q aj).1) (.inl hm)⟩
 have kI:c8 T m (W 0) oJ hp g3/\bT (jF es is) h (jF hp e1) g3/\¬bS m hp bf/\(∀q,e1.q=some q->q.b≠bf/\¬bS m hp q.b)/\g3 bf=ev (qT P m.b f Aq e1) jo/\c4 ab l6 g3 e1 (meets op bi ids)/\(∀x,X x->¬jF hp e1 x)/\∀x,X x->g3 x=aR x:=by
  refine⟨gH,?_,aL,λq aj=>⟨(w6 q aj).1,(Rp q aj).2⟩,pX,yL.move λq aj=>(Rp q aj).1,λx ai bY=>?_,λx ai=>((LA x (by rw[Lz x ai];exact(sw x ai).2) (Ly x ai)).1).trans (Lz x ai)⟩
  .exact((DP.to (C:=λx=>(bS m qK x∨x=bf)∨∃q,e1.q=some q/\x=q.b) λx ai=> .inl (ai.elim (λh=>h.elim .inl λh=> .inr (.inl h)) λh=> .inr (.inr h))).trans (nd v3)).to λx ai=> .inl (ai.elim (λh=> .inl (.inl h)) λh=>h.elim (λh=> .inl (.inr h)) .inr)
  .exact bY.elim (LA x (by rw[Lz x ai];exact(sw x ai).2) (Ly x ai)).2 λbc=>Ly x ai (.inr bc)
 have Rq:=LA aM (by rw[Rn];simp) Ro;have vf:=Rq.1.trans Rn;have ac6:¬jF hp e1 aM:=λbY=>bY.elim Rq.2 λbc=>Ro (.inr bc);clear Gh rR DP ac4 w6 Lx yL Ly Lz gH pX aL v3 LA Rp Rn Ro Rq;have PO:∀n,(pv f (gC P.k P.s P.t f aw) n).length=2*n:=λn=>ES _ _ _;have aCG:∀ {dG cm aX g df fe d_ g2},(c8 T m dG cm aX g/\bT (jF es is) h (jF aX e1) g/\¬bS m aX bf/\(∀q,e1.q=some q->q.b≠bf/\¬bS m aX q.b)/\g bf=ev (qT P m.b f Aq e1) jo/\c4 ab l6 g e1 (meets op bi ids)/\(∀x,X x->¬jF aX e1 x)/\∀x,X x->g x=aR x)->c8 T m df fe d_ g2->bT (bS m aX) g (bS m d_) g2->gu df fe d_ Aq e1 (meets op bi ids) g2:=λh=>mem (kg:=Aq) h;refine⟨rfl,λo8 pC dS p8 t7 n47 g bW=>o8=⟨bf,0⟩/\pC=⟨ax,0⟩/\sp=dS/\p8=⟨aM,0⟩/\old.2=t7/\∃(i:Nat) (aX:ao),n47=i/\i<=P.m/\bW=P.m-i/\gu (W i) (oJ++pv f (gC P.k P.s P.t f aw) i) aX Aq e1 (meets op bi ids) g/\g aM=some (.cells (ag.cells (.ws 8 old.1)).toArray 49 (0,0))/\¬jF aX e1 aM,
  ⟨P.m,rfl,rfl,rfl,rfl,rfl,0,hp,rfl,by omega,rfl,by simpa [pv] using kI,vf,ac6⟩,?_⟩
 clear kI vf ac6;rintro o8 pC dS p8 t7 n47 g4 bW ⟨rfl,rfl,rfl,rfl,rfl,i,mU,rfl,hi,rfl,h2,AX,Rr⟩;have wz:=PO i;refine cj (λcl=>?_) λdH=>?_
 .have cb:i<P.m:=by omega
  obtain⟨Ak,Al,Pz⟩:=x8 L o hc cb;have LB:=h2.2.2.2.2.1;refine⟨some ⟨m.b,0⟩,az LB rfl,_,az LB rfl,?_⟩;rw[iu];refine(w1 h2.1 mO (show i<m.cx (f+2) by omega) (by simp only[aDs];omega)).mono ?_;rintro _ g5 ⟨s9,rfl,iU,v5⟩;have hr:=mem h2 iU v5;have w2:=v5.get AX λhm=>Rr (.inl hm);have Rs:¬jF s9 e1 aM:=λbY=>bY.elim (v5.out (by rw[AX];simp) λhm=>Rr (.inl hm)) λbc=>Rr (.inr bc);rw[PK i i (by omega)];refine⟨_,rfl,bP λeQ g6 f7 fa c3=>?_⟩;obtain⟨Cf,ac7,ac8⟩:=fresh hr f7;have GY:eQ≠aM:=λe=>by rw[e,w2] at f7;cases f7
  have lv:=bA hr c3;refine fN (n:=12) lv.2.1 Cf fa rfl λg7 mJ qo eF=>⟨Int.NonNeg.mk _,Int.NonNeg.mk _,?_⟩;have w4:=loc lv ac7 ac8 mJ eF;refine nq (i:=11) mJ Cf qo (by decide) λg8 uU B8 e6=>?_;have lS:=loc w4 ac7 ac8 uU e6;have w5:=(e6 aM (aDC GY)).trans ((eF aM (aDC GY)).trans (c3.get w2));have DO:=lS.2.2.2.2.2.2.2;refine⟨some ⟨m.b,0⟩,az lS.2.2.2.2.1 rfl,Lr DO cb λq aS _=>⟨_,aS,Lr DO cb λdE _ aY=>⟨_,aY,_,dL B8,?_⟩⟩⟩;refine(w3 lS.1 Ak Al _ (by simp only[aDs,aDS];omega)).mono ?_;rintro _ g9 ⟨Cn,rfl,rR,v9⟩;rw[PL i cb] at rR;have xQ:=mem lS rR v9;refine⟨rfl,P.m-(i+1),by omega,rfl,rfl,rfl,rfl,rfl,i+1,Cn,bt,by omega,rfl,?_,v9.get w5 λhm=>Rs (.inl hm),λbY=>bY.elim (v9.out (by rw[w5];simp) λhm=>Rs (.inl hm)) λbc=>Rs (.inr bc)⟩;have gm:(gC P.k P.s P.t f aw).getD i ⟨0,0⟩=lz P f aw i:=by rw[sv o];simp[List.getD,cb]
  rw[J5,gm,show ∀(a b:List dk) (x y:dk),a++(b++[x,y])=a++b++[x]++[y] by simp,pW];exact xQ
 .have hi:i=P.m:=by omega
  subst hi;obtain⟨tv,rC,auZ,LC,LB,Gt,au0,au1⟩:=h2;have h7:g4 ax=_:=(au1 ax (.inr (.inl rfl))).trans ((aG.trans tM).get a_);have Rt:=au0 ax (.inr (.inl rfl));refine⟨_,dL AX,fN (n:=8) rC (aD.free f2) h7 rfl λg5 rG uX cz=>⟨_,dL uX,mU,e1,rfl,?_,(cz bf λe=>Rt (.inr (.inl e.symm))).trans LB,Gt.move λq aj=>cz _ λe=>Rt (.inr (.inr ⟨q,aj,e.symm⟩)),auZ,LC,auX,rG⟩⟩;have gm:oJ++pv f (gC P.k P.s P.t f aw) P.m=a8++k7 P.k P.s P.t f aw:=by
   have kq:(gC P.k P.s P.t f aw).length=P.m:=by rw[sv o];simp
   unfold k7;rw[<-L.E,kq,<-ac5];simp
  rw[<-gm];exact tv.move λx ai=>cz x λe=>Rt (.inl (e▸ai))
end

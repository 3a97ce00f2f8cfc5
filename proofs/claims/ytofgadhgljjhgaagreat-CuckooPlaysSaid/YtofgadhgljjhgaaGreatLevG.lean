import Derived.Test.YtofgadhgljjhgaaGreatLvA
import Derived.Test.YtofgadhgljjhgaaGreatEvC
namespace Go.Proofs.Tryz
open Go Go.cD Go.RowKit
set_option maxRecDepth 8000
structure qo (m:jw)(P:db)(f:Nat):Prop where
 a_:f<=100
 eX:f+2<m.eX
 h2:m.cf f=P.s*(2 ^ (P.k+1)-1)
 ew:m.cf (f+1)=P.t
 fF:m.cf (f+2)=2 ^ P.E
 E:P.E=lb (iw P.k P.s P.t)
theorem qo.mc {m:jw}{P:db}{f:Nat}(L:qo m P f):mc P.k P.s P.t=2 ^ P.E:=by rw[L.E];exact Nm _
def kZ (P:db)(f av p:Nat):pW:=⟨((f+(spot P av p).1:Nat):Int),(((spot P av p).2:Nat):Int)⟩
theorem rN {P:db}(o:P.da)(f av:Nat):gM P.k P.s P.t f av=(List.range P.m).map (kZ P f av):=by
 have aU:0<P.s:=by have:=o.s;omega
 have tree:∀n,n<=P.k+1->pY P.k P.s f av n=(List.range (P.s*n)).map (kZ P f av):=by
  intro n
  induction n with
  | zero=>intro _;simp[pY]
  | succ n dK =>
   intro aH
   rw[Iz,dK (by omega),Nat.mul_succ,List.range_add,List.map_append,List.map_map]
   congr 1
   unfold pX
   rw[show(P.s:Int).toNat=P.s by omega]
   refine List.map_congr_left λi hi=>?_
   have hi:=List.mem_range.1 hi
   have ca:P.s*n+i<P.s*(P.k+1):=by
    have:=Nat.mul_le_mul_left P.s aH
    rw[Nat.mul_succ] at this;omega
   have HO:=BF (s:=P.s) (a:=n) hi
   show _=kZ P f av (P.s*n+i)
   unfold kZ
   rw[w7 ca,Nat.mul_comm P.s n,HO.1,HO.2]
   simp[fD,lG]
 unfold gM db.m
 rw[tree _ (Nat.le_refl _),List.range_add,List.map_append,List.map_map]
 congr 1
 unfold qF
 rw[show(P.t:Int).toNat=P.t by omega]
 refine List.map_congr_left λi _=>?_
 show _=kZ P f av (P.s*(P.k+1)+i)
 unfold kZ
 rw[w8 (by omega)]
 simp
theorem w9 {m:jw}{P:db}{f:Nat}(L:qo m P f)(o:P.da){av p:Nat}(a_:av<2 ^ P.k)(aS:p<P.m):f+(spot P av p).1<m.eX/\(spot P av p).2<m.cf (f+(spot P av p).1)/\(spot P av p).1<2:=by
 have:=L.eX
 rcases mr o a_ aS with ⟨aa,ad⟩|⟨aa,ad⟩
 .rw[aa,Nat.add_zero,L.h2];exact⟨by omega,ad,by omega⟩
 .rw[aa,L.ew];exact⟨by omega,ad,by omega⟩
def Wf (G:Nat->Prop)(h0:ak)(v:Value)(op:fg):Prop :=
 ∀g,(∀x,G x->g x=h0 x)->∀(d:c0) (b:Bool),gi prog v [ea d,.bool b] g λr bo=>(∃bC:c0,r= .tuple #[ea bC,.bool (op.now d b).isSome]/\∀x,op.now d b=some x->bC=x)/\bL g bo
section
variable {T:TypeId} {m:jw} {R:dF} {a7:List de} {es:ar} {h:ak}
theorem ajt {P:db}{f:Nat}(o:P.da)(L:qo m P f)(M:cV T m R a7 es h){iP:TypeId}{ba mp:Nat}{eS:Bool}(kv:h ba=some (.cells (nv P m.b f eS mp) iP (0,0)))(vc:¬bF m es ba)
 {av to:Nat} (gI:av<2 ^ P.k) (BG:to<2 ^ P.k) {bi:UInt64} (ho:bi.toNat<=2147483648) (mf:qA P (kx f R)) {op:fg} {v:Value} {G:Nat->Prop} (a2:∀x,G x->h x≠none/\¬bF m es x/\x≠ba) (bQ:Wf G h v op) (aT:a7.length<1000000000000) :
 ao 117 [bg ⟨ba,0⟩,ab bi,U av,U to,v] h λr ah=>∃aW,r= .tuple #[ea (jH P bi av (kx f R)).1,.bool (jH P bi av (kx f R)).2]/\cV T m (lp f R (k8 P op bi av to (kx f R))) (a7++ob P.k P.s P.t f av) aW ah /\
  ah ba=some (.cells (nv P m.b f (eS||sI P op bi av to (kx f R)) mp) iP (0,0))/\¬bF m aW ba/\bT (λx=>bF m es x∨x=ba) h (λx=>bF m aW x∨x=ba) ah:=by
 have ol:=o.gy
 have aju:=y9 o
 have y_:=o.E
 have aH:=o.n
 have ajv:P.n=P.m+1:=rfl
 have ji:(2:Int) ^ P.E=((2 ^ P.E:Nat):Int):=by simp
 have bw:=L.mc
 rw[ji] at bw
 have rl:=II (f:Int) y_
 have BH:∀n,(jt f (gM P.k P.s P.t f av) n).length<=2*n:=λn=>Nt _ _ _
 have ajw:=L.a_
 have iA:al ((f:Int)+2)=((f+2:Nat):Int):=by rw[bf (by omega) (by omega)];omega
 have rO:(f:Int)+2=((f+2:Nat):Int):=by omega
 have nb:=L.fF
 have md:=L.eX
 have yR:P.k<=10:=o.k
 have qJ:0<P.m:=by have:=o.t;unfold db.m;omega
 refine ajx _ _ _ _ _ ?_
 unfold Wg
 refine bM λae aa f1 aF aE=>?_
 have h_:=aE.get kv
 refine⟨_,az h_ rfl,_,az h_ rfl,_,az h_ rfl,_,az h_ rfl,?_⟩
 refine(aiG ol (f:Int) (by omega) gI aa).mono ?_
 rintro _ ad ⟨sp,rfl,fe,aC⟩
 rw[rN o f av] at fe
 have fE:=aE.trans aC
 have BI:=fe.len
 simp only[List.length_map,List.length_range] at BI
 generalize EY:kx f R=ef at *
 let X:Nat->Prop:=λx=>x=ba∨x=ae∨∃q,sp.q=some q/\x=q.b
 let A:Nat->Prop:=λx=>bF m es x∨x=ba
 have M2:=M.bD fE
 have rP:∀x,X x->x=ba∨h x=none:=by
  rintro x (rfl|rfl|⟨q,aj,rfl⟩)
  .exact .inl rfl
  .exact .inr f1
  .exact .inr (aE.free (fe.bl aj).1)
 have azg:∀x,X x->ad x≠none:=by
  rintro x (rfl|rfl|⟨q,aj,rfl⟩)
  .rw[fE.get kv];simp
  .rw[aC.get aF];simp
  .exact(fe.bl aj).2
 have ajy:∀x,X x->¬bF m es x:=λx z hm=>by
  rcases rP x z with rfl|ai
  .exact vc hm
  .exact M.dn hm ai
 have eY:bT A h (λx=>bF m es x∨X x) ad:=(hF fE _).to λx ai=>by
  rcases ai with ai|z
  .exact .inl (.inl ai)
  .exact(rP x z).imp .inr id
 have EZ:ae≠ba:=λe=>by rw[e,kv] at f1;cases f1
 have Wh:∀q,sp.q=some q->q.b≠ae/\q.b≠ba:=λq aj=>⟨λe=>(by have:=(fe.bl aj).1;rw[e,aF] at this;cases this),λe=>(by have:=(fe.bl aj).1;rw[e,h_] at this;cases this)⟩
 let gl:dF->List de->ar->c0->ak->Prop:=λdm b_ aW d g=>cV T m dm b_ aW g/\bT A h (λx=>bF m aW x∨X x) g/\(∀x,X x->¬bF m aW x)/\g ba=some (.cells (nv P m.b f eS mp) iP (0,0))/\g ae=some (.cells (af.cells (.ws 8 d)).toArray 100 (0,0))/\fN mT g sp ((List.range P.m).map (kZ P f av))
 let fz:Nat->dF:=λi=>en R (f+2) λp=>if p<i then strip bi (eZ P av ef p) else R (f+2) p
 have Wi:gl (fz 0) (a7++jt f (gM P.k P.s P.t f av) 0) es jB ad:=by
  have e:fz 0=R:=by
   have:(λp=>if p<0 then strip bi (eZ P av ef p) else R (f+2) p)=R (f+2):=by funext p;simp
   show en R (f+2) _=R
   rw[this];exact BJ R _
  rw[e]
  exact⟨by simpa [jt] using M2,eY,ajy,fE.get kv,aC.get aF,fe.rd⟩
 refine⟨sp,rfl,λq1 bq bm bx v2 aJ t1 s2 bG bu bt g bP=>q1=⟨ba,0⟩/\bi=bq/\bm=av/\bx=to/\v=v2/\aJ=⟨ae,0⟩/\sp=s2/\sp=bG/\bu=(P.m:Nat)/\∃(i:Nat) (aW:ar),bt=i/\i<=P.m/\bP=P.m-i/\t1=(hU bi (eZ P av ef) i).2/\gl (fz i) (a7++jt f (gM P.k P.s P.t f av) i) aW (hU bi (eZ P av ef) i).1 g,
  ⟨P.m,rfl,rfl,rfl,rfl,rfl,rfl,rfl,rfl,by rw[BI],0,es,rfl,by omega,rfl,rfl,Wi⟩,?_⟩
 rintro q1 bq bm bx v2 aJ t1 s2 bG bu bt g bP ⟨rfl,rfl,rfl,rfl,rfl,rfl,rfl,rfl,rfl,i,aW,rfl,hi,rfl,rfl,gk,jY,qK,c1,og,du⟩
 have ND:∀(i:Nat) (dm:dF),i<P.m->(∀r j,r≠f+2->dm r j=R r j)->dm (f+(spot P av i).1) (spot P av i).2=eZ P av ef i:=λi dm hi jd=>by
  have ad:=(w9 L o gI hi).2.2
  rw[jd _ _ (by omega),<-EY];rfl
 have NF:∀i r j,r≠f+2->fz i r j=R r j:=λi r j aP=>by show en R (f+2) _ r j=_;unfold en;rw[if_neg aP]
 have ajz:∀i,fA (fz i) (f+2,i) (strip bi (eZ P av ef i))=fz (i+1):=λi=>by
  funext r j
  show(if r=f+2/\j=i then _ else if r=f+2 then (if j<i then strip bi (eZ P av ef j) else R (f+2) j) else R r j)=if r=f+2 then (if j<i+1 then strip bi (eZ P av ef j) else R (f+2) j) else R r j
  by_cases aQ:r=f+2
  .rw[if_pos aQ,if_pos aQ]
   by_cases aY:j=i
   .rw[if_pos ⟨aQ,aY⟩,if_pos (by omega),aY]
   .rw[if_neg (λh=>aY h.2)]
    by_cases ck:j<i
    .rw[if_pos ck,if_pos (by omega)]
    .rw[if_neg ck,if_neg (by omega)]
  .rw[if_neg (λh=>aQ h.1),if_neg aQ,if_neg aQ]
 refine cd (λca=>?_) λdx=>?_
 .have b5:i<P.m:=by omega
  obtain⟨za,zb,NG⟩:=w9 L o gI b5
  have zc:=BH i
  refine du.cp nL (i:=i) (by simp;omega) λq aj k0=>?_
  have e:((List.range P.m).map (kZ P f av))[i]'(by simp;omega)=kZ P f av i:=by simp
  rw[e] at k0
  obtain⟨aQ,aY,_⟩:=k0
  rw[show(i:Int).toNat=i by omega]
  refine⟨_,aQ,_,aY,bM λay g1 f2 a8 aI=>?_⟩
  have hZ:h ay=none:=jY.2.2 _ f2
  refine lu (jY.more aI) hZ a8 (by simp) λg2 kd b0 c7=>?_
  have kp:∀x,g x≠none->x≠ay:=λx ai e=>ai (e▸f2)
  have m6:∀x,g x≠none->g2 x=g x:=λx ai=>by rw[c7 x (kp x ai),aI x ai]
  have gj:=gk.move λx ai=>m6 x (gk.dn ai)
  have pe:=(m6 ba (by rw[c1];simp)).trans c1
  refine⟨some ⟨m.b,0⟩,az pe rfl,_,az b0 rfl,_,az b0 rfl,?_⟩
  refine(uK gj za zb (by simp only[List.length_append];omega)).mono ?_
  rintro _ g4 ⟨mn,rfl,sJ,v4⟩
  rw[ND i _ b5 (NF i)]
  have IJ:∀x,X x->g2 x≠none:=λx z=>by
   have:g x≠none:=by
    rcases z with rfl|rfl|⟨q,aj,rfl⟩
    .rw[c1];simp
    .rw[og];simp
    .exact du.there (k:=1) nL aj (by simp;omega)
   rw[m6 x this];exact this
  obtain⟨bX,IK⟩:=l6 v4 IJ qK
  have qL:=kd.trans (mK v4)
  have vd:=(bX ba (.inl rfl)).trans pe
  have ajA:=(bX ae (.inr (.inl rfl))).trans ((m6 ae (by rw[og];simp)).trans og)
  have ajB:fN mT g4 sp ((List.range P.m).map (kZ P f av)):=du.move λq aj aT=>(bX _ (.inr (.inr ⟨q,aj,rfl⟩))).trans (m6 _ (du.there (k:=1) nL aj aT))
  refine⟨_,rfl,bM λaN g5 f5 cy bE=>?_⟩
  have tl:h aN=none:=qL.2.2 _ f5
  refine fB (n:=12) (qL.more bE) tl cy rfl λg6 qM dE dZ=>?_
  have u3:∀x,g4 x≠none->x≠aN:=λx ai e=>ai (e▸f5)
  have sv:∀x,g4 x≠none->g6 x=g4 x:=λx ai=>by rw[dZ x (u3 x ai),bE x ai]
  have IL:∀x,X x->g4 x≠none:=λx z=>by rw[bX x z];exact IJ x z
  have nc:=sJ.move λx ai=>sv x (sJ.dn ai)
  have BK:=(sv ba (IL ba (.inl rfl))).trans vd
  have NH:=(sv ae (IL ae (.inr (.inl rfl)))).trans ajA
  have NI:fN mT g6 sp ((List.range P.m).map (kZ P f av)):=ajB.move λq aj aT=>sv _ (IL _ (.inr (.inr ⟨q,aj,rfl⟩)))
  have E0:¬X aN:=λz=>IL aN z f5
  have NJ:¬bF m mn aN:=sJ.out f5
  have fin:∀(g7:ak) (c:cv) (d:c0) (t:Bool),bT A h (λx=>bF m mn x∨X x) g7->cV T m (fz i) (a7++jt f (gM P.k P.s P.t f av) i++[⟨((f+(spot P av i).1:Nat):Int),(((spot P av i).2:Nat):Int),false⟩]) mn g7->g7 ba=some (.cells (nv P m.b f eS mp) iP (0,0))->g7 ae=some (.cells (af.cells (.ws 8 d)).toArray 100 (0,0))->fN mT g7 sp ((List.range P.m).map (kZ P f av))->g7 aN=some (.cells (af.cells (.ws 12 c)).toArray 56 (0,0))->c=strip bi (eZ P av ef i)->(d,t)=hU bi (eZ P av ef) (i+1) ->
   ∃cb:Option aD,br g7 ba (0+3)=some (a1 cb)/\∃cJ,br g7 ba (0+4)=some (U cJ)/\∃aY:cv,bU g7 aN 0 aY/\ao 95 [a1 cb,U (al (cJ+2)),U i,ea aY] g7 λv4 cw=>v4= .tuple #[]/\∃aI,aI<P.m-i/\((⟨ba,0⟩:aD)=⟨ba,0⟩/\bi=bi/\(av:Int)=av/\(to:Int)=to/\v=v/\(⟨ae,0⟩:aD)=⟨ae,0⟩/\sp=sp/\sp=sp/\((P.m:Nat):Int)=(P.m:Nat)/\∃(dw:Nat) (aW:ar),al ((i:Int)+1)=dw/\dw<=P.m/\aI=P.m-dw/\t=(hU bi (eZ P av ef) dw).2/\gl (fz dw) (a7++jt f (gM P.k P.s P.t f av) dw) aW (hU bi (eZ P av ef) dw).1 cw):=by
   rintro g7 c d t l7 qN ve w_ E1 NK rfl Wj
   refine⟨some ⟨m.b,0⟩,az ve rfl,_,az ve rfl,_,dv NK,?_⟩
   rw[iA]
   have NL:∀x,X x->g7 x≠none:=by
    rintro x (rfl|rfl|⟨q,aj,rfl⟩)
    .rw[ve];simp
    .rw[w_];simp
    .exact E1.there (k:=1) nL aj (by simp;omega)
   refine(zd qN md (show i<m.cf (f+2) by omega) _ (by simp only[List.length_append,List.length_singleton];omega)).mono ?_
   rintro _ g8 ⟨pZ,rfl,p1,fr⟩
   obtain⟨eF,NM⟩:=l6 fr NL IK
   rw[ajz] at p1
   refine⟨rfl,P.m-(i+1),by omega,rfl,rfl,rfl,rfl,rfl,rfl,rfl,rfl,rfl,i+1,pZ,bf (by omega) (by omega),by omega,rfl,by rw[<-Wj],?_,l7.trans (mK fr),NM,(eF ba (.inl rfl)).trans ve,?_,E1.move λq aj _=>eF _ (.inr (.inr ⟨q,aj,rfl⟩))⟩
   .rw[EW,if_pos (by rw[rN o];simpa using b5)]
    have gd:(gM P.k P.s P.t f av).getD i ⟨0,0⟩=kZ P f av i:=by rw[rN o];simp[List.getD,b5]
    rw[gd,show ∀(a b:List de) (x y:de),a++(b++([x]++[y]))=a++b++[x]++[y] by simp,rO]
    exact p1
   .rw[eF ae (.inr (.inl rfl)),w_,<-Wj]
  have lf:dU (eZ P av ef i)=decide ((eZ P av ef i)[0]=1):=vf _
  refine⟨Int.NonNeg.mk 0,Int.NonNeg.mk 11,_,fb dE (i:=0) (by decide),cd (λvg=>?_) λvg=>?_⟩
  .have dh:dU (eZ P av ef i)=true:=by rw[lf];exact decide_eq_true vg
   refine⟨Int.NonNeg.mk 1,Int.NonNeg.mk 10,_,fb dE (i:=1) (by decide),h4 (λNN=>?_) λNN=>?_⟩
   .have vh:(eZ P av ef i)[1]=bi:=of_decide_eq_true NN
    refine⟨Int.NonNeg.mk 11,Int.NonNeg.mk 1,Int.NonNeg.mk 3,Int.NonNeg.mk 8,?_⟩
    have jq:fi ab g6 ⟨gA (some ⟨aN,0⟩) 3 12 1,8,9,none⟩ (jX (eZ P av ef i)).toList:=by
     refine⟨by simp,(show(8:Nat)<=9 by decide),(by intro h;cases h),λq aj j aV=>?_⟩
     cases aj
     have j6:j<8:=by simpa using aV
     have:=fb dE (i:=3+j) (by omega)
     show br g6 aN (0+3*1+j)=_
     rw[show 0+3*1+j=3+j by omega,this]
     congr 2
     rcases (show j=0∨j=1∨j=2∨j=3∨j=4∨j=5∨j=6∨j=7 by omega) with rfl|rfl|rfl|rfl|rfl|rfl|rfl|rfl<;>simp[jX]
    refine HZ jq (q:=⟨ae,0⟩) rfl (c:=8) (by simp) ?_
    have el:((jX (eZ P av ef i)).toList.take 8).map ab=af.cells (.ws 8 (jX (eZ P av ef i))):=by
     rw[List.take_of_length_le (by simp)];rfl
    rw[el,<-BL]
    refine fB (n:=8) qM f1 NH (by simp[af.cells]) λg7 l7 fo eK=>?_
    have Wk:aN≠ae:=λe=>E0 (.inr (.inl e))
    refine fB (n:=12) l7 tl ((eK _ Wk).trans dE) (by simp[af.cells]) λg8 tK fP eT=>?_
    have NO:∀x,x≠ae->x≠aN->g8 x=g6 x:=λx aa an=>(eT x an).trans (eK x aa)
    refine fin g8 e6 _ true tK (nc.move λx ai=>NO x (λe=>IK ae (.inr (.inl rfl)) (e▸ai)) λe=>NJ (e▸ai)) ((NO ba (Ne.symm EZ) λe=>E0 (.inl e.symm)).trans BK) ((eT _ (Ne.symm Wk)).trans fo) (NI.move λq aj _=>NO _ (Wh q aj).1 λe=>E0 (.inr (.inr ⟨q,aj,e.symm⟩))) fP ?_ ?_
    .unfold strip;rw[if_pos ⟨dh,vh⟩]
    .rw[hU,if_pos ⟨dh,vh⟩]
   .have vh:¬(eZ P av ef i)[1]=bi:=λh=>of_decide_eq_false NN h
    exact fin g6 _ _ _ qM nc BK NH NI dE (by unfold strip;rw[if_neg λh=>vh h.2]) (by rw[hU,if_neg λh=>vh h.2])
  .have dh:¬dU (eZ P av ef i)=true:=by rw[lf];simpa using vg
   exact fin g6 _ _ _ qM nc BK NH NI dE (by unfold strip;rw[if_neg λh=>dh h.1]) (by rw[hU,if_neg λh=>dh h.1])
 have hi:i=P.m:=by omega
 subst hi
 generalize tt:ze bi to (op.now (hU bi (eZ P av ef) P.m).1 (hU bi (eZ P av ef) P.m).2)=nd
 let c4:Nat->dF:=λi=>en R (f+2) λp=>if p<i then ku P av bi ef nd p else R (f+2) p
 have lZ:fz P.m=c4 P.m:=by
  show en R (f+2) _=en R (f+2) _
  congr 1;funext p
  by_cases c:p<P.m
  .rw[if_pos c,if_pos c];unfold ku;rw[if_pos c]
  .rw[if_neg c,if_neg c]
 have IM:∀i,fA (c4 i) (f+2,i) (ku P av bi ef nd i)=c4 (i+1):=λi=>by
  funext r j
  show(if r=f+2/\j=i then _ else if r=f+2 then (if j<i then ku P av bi ef nd j else R (f+2) j) else R r j)=if r=f+2 then (if j<i+1 then ku P av bi ef nd j else R (f+2) j) else R r j
  by_cases aQ:r=f+2
  .rw[if_pos aQ,if_pos aQ]
   by_cases aY:j=i
   .rw[if_pos ⟨aQ,aY⟩,if_pos (by omega),aY]
   .rw[if_neg (λh=>aY h.2)]
    by_cases ck:j<i
    .rw[if_pos ck,if_pos (by omega)]
    .rw[if_neg ck,if_neg (by omega)]
  .rw[if_neg (λh=>aQ h.1),if_neg aQ,if_neg aQ]
 rw[lZ] at gk
 have Wl:P.m<=2 ^ P.E:=by omega
 refine⟨λbI c6 di dp ed c2 t2 bX cC g bP=>bI=⟨ba,0⟩/\bi=c6/\di=av/\dp=to/\v=ed/\c2=⟨ae,0⟩/\t2=(hU bi (eZ P av ef) P.m).2/\sp=bX/\∃(i:Nat) (aW:ar),cC=i/\P.m<=i/\i<=2 ^ P.E/\bP=2 ^ P.E-i/\gl (c4 i) (a7++jt f (gM P.k P.s P.t f av) i) aW (hU bi (eZ P av ef) P.m).1 g,
  ⟨2 ^ P.E-P.m,rfl,rfl,rfl,rfl,rfl,rfl,rfl,rfl,P.m,aW,by rw[BI],Nat.le_refl _,Wl,rfl,gk,jY,qK,c1,og,du⟩,?_⟩
 clear gk jY qK c1 og du
 rintro bI c6 di dp ed c2 t2 bX cC g0 bP ⟨rfl,rfl,rfl,rfl,rfl,rfl,rfl,rfl,i,ds,rfl,n6,hi,rfl,gk,jY,qK,c1,og,du⟩
 refine⟨_,az c1 rfl,_,az c1 rfl,_,az c1 rfl,?_⟩
 refine(Hw ol).to λg1 qO=>⟨_,rfl,?_⟩
 rw[bw]
 have zc:=BH i
 refine cd (λca=>?_) λdx=>?_
 .have b5:i<2 ^ P.E:=by omega
  refine bM λbZ g2 f5 cy bE=>⟨_,dv (bE.get (qO.get og)),?_⟩
  have IN:=qO.trans bE
  refine(bQ g2 (λx ai=>?_) _ _).mono ?_
  .have c_:=jY.2.1 x (a2 x ai).1 (λbO=>bO.elim (a2 x ai).2.1 (a2 x ai).2.2)
   rw[IN x (by rw[c_];exact(a2 x ai).1),c_]
  rintro _ g3 ⟨⟨bC,rfl,pf⟩,aI⟩
  refine⟨bC,_,rfl,bM λdC g4 f6 dE ch=>?_⟩
  have vi:=(IN.trans aI).trans ch
  have tm:h bZ=none:=jY.2.2 _ (qO.free f5)
  have yM:h dC=none:=jY.2.2 _ ((IN.trans aI).free f6)
  have n65:dC≠bZ:=λe=>by rw[e,aI.get cy] at f6;cases f6
  refine fB (n:=8) (jY.more vi) yM dE rfl λg5 qP oI dZ=>?_
  have rQ:∀x,X x->g0 x≠none:=by
   rintro x (rfl|rfl|⟨q,aj,rfl⟩)
   .rw[c1];simp
   .rw[og];simp
   .exact du.there (k:=1) nL aj (by simp;omega)
  have Bn:∀x,g0 x≠none->g5 x=g0 x:=λx ai=>by
   rw[dZ x λe=>ai (e▸(IN.trans aI).free f6),vi x ai]
  have ij:=gk.move λx ai=>Bn x (gk.dn ai)
  have IP:=(Bn ba (rQ ba (.inl rfl))).trans c1
  have IQ:=(Bn ae (rQ ae (.inr (.inl rfl)))).trans og
  have IS:fN mT g5 sp ((List.range P.m).map (kZ P f av)):=du.move λq aj aT=>Bn _ (rQ _ (.inr (.inr ⟨q,aj,rfl⟩)))
  have iH:g5 bZ=some (.cells (af.cells (.ws 12 e6)).toArray 56 (0,0)):=by
   rw[dZ _ (Ne.symm n65),(aI.trans ch).get cy,BL];rfl
  have xa:¬X bZ:=λz=>rQ bZ z (qO.free f5)
  have NP:¬bF m ds bZ:=gk.out (qO.free f5)
  have fin:∀(g7:ak) (c:cv),bT A h (λx=>bF m ds x∨X x) g7->cV T m (c4 i) (a7++jt f (gM P.k P.s P.t f av) i) ds g7->g7 ba=some (.cells (nv P m.b f eS mp) iP (0,0))->g7 ae=some (.cells (af.cells (.ws 8 (hU bi (eZ P av ef) P.m).1)).toArray 100 (0,0))->fN mT g7 sp ((List.range P.m).map (kZ P f av))->g7 bZ=some (.cells (af.cells (.ws 12 c)).toArray 56 (0,0))->c=ku P av bi ef nd i ->
   ∃cb:Option aD,br g7 ba (0+3)=some (a1 cb)/\∃cJ,br g7 ba (0+4)=some (U cJ)/\∃aY:cv,bU g7 bZ 0 aY/\ao 95 [a1 cb,U (al (cJ+2)),U i,ea aY] g7 λv4 cw=>v4= .tuple #[]/\∃aI,aI<2 ^ P.E-i/\((⟨ba,0⟩:aD)=⟨ba,0⟩/\bi=bi/\(av:Int)=av/\(to:Int)=to/\v=v/\(⟨ae,0⟩:aD)=⟨ae,0⟩/\(hU bi (eZ P av ef) P.m).2=(hU bi (eZ P av ef) P.m).2/\sp=sp/\∃(dw:Nat) (aW:ar),al ((i:Int)+1)=dw/\P.m<=dw/\dw<=2 ^ P.E/\aI=2 ^ P.E-dw/\gl (c4 dw) (a7++jt f (gM P.k P.s P.t f av) dw) aW (hU bi (eZ P av ef) P.m).1 cw):=by
   rintro g7 c l7 qN ve w_ E1 NK rfl
   refine⟨some ⟨m.b,0⟩,az ve rfl,_,az ve rfl,_,dv NK,?_⟩
   rw[iA]
   have NL:∀x,X x->g7 x≠none:=by
    rintro x (rfl|rfl|⟨q,aj,rfl⟩)
    .rw[ve];simp
    .rw[w_];simp
    .exact E1.there (k:=1) nL aj (by simp;omega)
   refine(zd qN md (show i<m.cf (f+2) by omega) _ (by simp only[List.length_append];omega)).mono ?_
   rintro _ g8 ⟨pZ,rfl,p1,fr⟩
   obtain⟨eF,NM⟩:=l6 fr NL qK
   rw[IM] at p1
   refine⟨rfl,2 ^ P.E-(i+1),by omega,rfl,rfl,rfl,rfl,rfl,rfl,rfl,rfl,i+1,pZ,bf (by omega) (by omega),by omega,by omega,rfl,?_,l7.trans (mK fr),NM,(eF ba (.inl rfl)).trans ve,(eF ae (.inr (.inl rfl))).trans w_,E1.move λq aj _=>eF _ (.inr (.inr ⟨q,aj,rfl⟩))⟩
   rw[EW,if_neg (by rw[rN o];simp;omega),List.nil_append,rO,<-List.append_assoc]
   exact p1
  refine h4 (λag=>?_) λag=>?_
  .obtain⟨d,bV⟩:=Option.isSome_iff_exists.1 ag
   have E2:=pf d bV
   subst E2
   refine h4 (λhm=>?_) λhm=>?_
   .have NQ:i=P.m:=by
     have:(i:Int)=(sp.len:Int):=of_decide_eq_true hm
     omega
    refine⟨_,dv oI,?_⟩
    refine(ajC bi (show to<2 ^ 63 by have:2 ^ P.k<=2 ^ 10:=Nat.pow_le_pow_right (by decide) yR;omega) bC).to λg6 c9=>⟨_,rfl,?_⟩
    refine fB (n:=12) (qP.more c9) tm (c9.get iH) (by simp[af.cells]) λg7 l7 fo eK=>?_
    have A0:∀x,g5 x≠none->x≠bZ->g7 x=g5 x:=λx aa ad=>(eK x ad).trans (c9 x aa)
    refine fin g7 _ l7 (ij.move λx ai=>A0 x (ij.dn ai) λe=>NP (e▸ai)) ((A0 ba (by rw[IP];simp) λe=>xa (.inl e.symm)).trans IP) ((A0 ae (by rw[IQ];simp) λe=>xa (.inr (.inl e.symm))).trans IQ) (IS.move λq aj aT=>A0 _ (IS.there (k:=1) nL aj aT) λe=>xa (.inr (.inr ⟨q,aj,e.symm⟩))) fo ?_
    unfold ku;rw[if_neg (by omega),if_pos NQ,<-tt,bV];rfl
   .have NQ:¬i=P.m:=λe=>of_decide_eq_false hm (by omega)
    refine fin g5 _ qP ij IP IQ IS iH ?_
    unfold ku;rw[if_neg (by omega),if_neg NQ]
  .have ajD:op.now (hU bi (eZ P av ef) P.m).1 (hU bi (eZ P av ef) P.m).2=none:=by
    cases e:op.now (hU bi (eZ P av ef) P.m).1 (hU bi (eZ P av ef) P.m).2 with
    | none=>rfl
    | some d=>rw[e] at ag;cases ag
   refine fin g5 _ qP ij IP IQ IS iH ?_
   unfold ku;rw[if_neg (by omega)]
   split
   .rw[<-tt,ajD];rfl
   .rfl
 have hi:i=2 ^ P.E:=by omega
 subst hi
 have E3:cV T m (en R (f+2) (ib P op bi av to ef)) _ _ g1:=(cV.BM (f:=ib P op bi av to ef) (g:=R (f+2)) (by subst tt;exact gk) (by omega)).bD qO
 refine(ajE o E3 L.mc (qO.get c1) (qK ba (.inl rfl)) (by omega) md nb gI (by rw[sK];exact yN o mf gI BG ho) (by simp only[List.length_append];omega)).mono ?_
 rintro _ g3 ⟨gQ,rfl,gj,pe,aL,v3⟩
 rw[zf,sK] at gj
 rw[sK] at pe
 let ju:=ke P av (ib P op bi av to ef)
 let W:Nat->dF:=λk=>lp f R (p2 P av ju (tL P ju ef) k)
 have gj:cV T m (W 0) _ gQ g3:=gj.congr λr aP j aV=>by
  show(if f<=r/\r<f+3 then (if r-f=2/\j<2 ^ P.E then ju j else ef (r-f) j) else R r j)=if r=f+2 then ju j else R r j
  by_cases aQ:r=f+2
  .subst aQ
   rw[if_pos (by omega),if_pos rfl,if_pos (by omega)]
  .rw[if_neg aQ]
   by_cases aY:f<=r/\r<f+3
   .rw[if_pos aY,if_neg (by omega),<-EY]
    show R (f+(r-f)) j=_
    rw[show f+(r-f)=r by omega]
   .rw[if_neg aY]
 have NR:∀k i,i<2 ^ P.E->W k (f+2) i=ju i:=λk i hi=>by
  show(if f<=f+2/\f+2<f+3 then p2 P av ju (tL P ju ef) k (f+2-f) i else R (f+2) i)=_
  rw[if_pos (by omega),show f+2-f=2 by omega,IT k λp aS e=>?_]
  .show(if 2=2/\i<2 ^ P.E then ju i else ef 2 i)=_
   rw[if_pos ⟨rfl,hi⟩]
  .unfold spot at e;split at e<;>simp at e
 have NS:∀k,k<P.m->fA (W k) (f+(spot P av k).1,(spot P av k).2) ((ju k).set 11 0)=W (k+1):=λk ag=>by
  have s2:=(w9 L o gI ag).2.2
  funext r j
  show(if r=f+(spot P av k).1/\j=(spot P av k).2 then _ else if f<=r/\r<f+3 then p2 P av ju (tL P ju ef) k (r-f) j else R r j)=if f<=r/\r<f+3 then (if r-f=(spot P av k).1/\j=(spot P av k).2 then (ju k).set 11 0 else p2 P av ju (tL P ju ef) k (r-f) j) else R r j
  by_cases aQ:f<=r/\r<f+3
  .rw[if_pos aQ,if_pos aQ]
   by_cases aY:r=f+(spot P av k).1/\j=(spot P av k).2
   .rw[if_pos aY,if_pos ⟨by omega,aY.2⟩]
   .rw[if_neg aY,if_neg λh=>aY ⟨by omega,h.2⟩]
  .rw[if_neg aQ,if_neg aQ,if_neg (by omega)]
 have NT:∀x,X x->g1 x≠none:=by
  rintro x (rfl|rfl|⟨q,aj,rfl⟩)
  .rw[qO.get c1];simp
  .rw[qO.get og];simp
  .exact(du.bD (k:=1) nL qO).there (k:=1) nL aj (by simp;omega)
 have Y:∀x,X x->x≠ba->g3 x=g1 x/\¬bF m gQ x:=λx z ai =>
  ⟨v3.2.1 x (NT x z) λh=>h.elim (qK x z) ai,λhm=>(v3.out (NT x z) λh=>h.elim (qK x z) ai) (.inl hm)⟩
 have kd:bT A h (λx=>bF m gQ x∨X x) g3:=(((jY.more qO).to (C:=λx=>(bF m ds x∨x=ba)∨X x) λx ai=>by
  rcases ai with (ai|rfl)|z
  .exact .inl (.inl ai)
  .exact .inl (.inr (.inl rfl))
  .exact .inl (.inr z)).trans (mK v3)).to λx ai=>by
  rcases ai with ai|z
  .exact .inl (.inl (.inl ai))
  .exact .inl (.inr z)
 have Wm:∀x,X x->¬bF m gQ x:=λx z=>by
  by_cases c:x=ba
  .rw[c];exact aL
  .exact(Y x z c).2
 have tM:=(Y ae (.inr (.inl rfl)) EZ).1.trans (qO.get og)
 have Wn:fN mT g3 sp ((List.range P.m).map (kZ P f av)):=(du.bD (k:=1) nL qO).move λq aj aT=>(Y q.b (.inr (.inr ⟨q,aj,rfl⟩)) (Wh q aj).2).1
 clear M2 Wi
 generalize NU:(eS||lH P av (ib P op bi av to ef))=zg at pe
 generalize od:a7++jt f (gM P.k P.s P.t f av) (2 ^ P.E)++(iO f P.E++iO f P.E)=nX at gj
 have ajF:nX.length<1000010000000:=by
  rw[<-od];simp only[List.length_append];omega
 have NV:∀n,(qI f (gM P.k P.s P.t f av) n).length=2*n:=λn=>Nv _ _ _
 refine⟨rfl,λdj dP t4 c5 n26 n27 g bP=>dj=⟨ba,0⟩/\dP=⟨ae,0⟩/\t4=(hU bi (eZ P av ef) P.m).2/\sp=c5/\n26=(P.m:Nat)/\∃(i:Nat) (aW:ar),n27=i/\i<=P.m/\bP=P.m-i/\cV T m (W i) (nX++qI f (gM P.k P.s P.t f av) i) aW g/\bT A h (λx=>bF m aW x∨X x) g/\(∀x,X x->¬bF m aW x)/\g ba=some (.cells (nv P m.b f zg mp) iP (0,0))/\g ae=some (.cells (af.cells (.ws 8 (hU bi (eZ P av ef) P.m).1)).toArray 100 (0,0))/\fN mT g sp ((List.range P.m).map (kZ P f av)),
  ⟨P.m,rfl,rfl,rfl,rfl,by rw[BI],0,gQ,rfl,by omega,rfl,by simpa [qI] using gj,kd,Wm,pe,tM,Wn⟩,?_⟩
 clear gj kd Wm pe tM Wn gk jY qK c1 og du E3 aL v3 Y NT
 rintro dj dP t4 c5 n26 n27 g bP ⟨rfl,rfl,rfl,rfl,rfl,i,mn,rfl,hi,rfl,gk,jY,qK,c1,og,du⟩
 have vj:=NV i
 refine cd (λca=>?_) λdx=>?_
 .have b5:i<P.m:=by omega
  obtain⟨za,zb,NG⟩:=w9 L o gI b5
  refine du.cp nL (i:=i) (by simp;omega) λq aj k0=>?_
  have e:((List.range P.m).map (kZ P f av))[i]'(by simp;omega)=kZ P f av i:=by simp
  rw[e] at k0
  obtain⟨aQ,aY,_⟩:=k0
  rw[show(i:Int).toNat=i by omega]
  refine⟨_,aQ,_,aY,bM λeo Bj f7 fo c9=>?_⟩
  have Bg:h eo=none:=jY.2.2 _ f7
  refine lu (jY.more c9) Bg fo (by simp) λrB ajG pL eK=>?_
  have m6:∀x,g x≠none->rB x=g x:=λx ai=>by rw[eK x λe=>ai (e▸f7),c9 x ai]
  have rQ:∀x,X x->g x≠none:=by
   rintro x (rfl|rfl|⟨q,aj,rfl⟩)
   .rw[c1];simp
   .rw[og];simp
   .exact du.there (k:=1) nL aj (by simp;omega)
  have M2:=gk.move λx ai=>m6 x (gk.dn ai)
  have HU:=(m6 ba (rQ ba (.inl rfl))).trans c1
  refine⟨some ⟨m.b,0⟩,az HU rfl,_,az HU rfl,?_⟩
  rw[iA]
  refine(uK M2 md (show i<m.cf (f+2) by omega) (by simp only[List.length_append];omega)).mono ?_
  rintro _ E4 ⟨su,rfl,ij,v5⟩
  obtain⟨c5,ajH⟩:=l6 v5 (λx z=>by rw[m6 x (rQ x z)];exact rQ x z) qK
  rw[NR i i (by omega)]
  have Wo:¬bF m mn eo:=gk.out f7
  have Wp:=v5.get pL Wo
  have NW:=v5.out (by rw[pL];simp) Wo
  refine⟨_,rfl,bM λfG Bx f8 fP eN=>?_⟩
  have qP:=ajG.trans (mK v5)
  have HX:h fG=none:=qP.2.2 _ f8
  refine fB (n:=12) (qP.more eN) HX fP rfl λazh qM A9 eT=>⟨Int.NonNeg.mk 11,Int.NonNeg.mk 0,?_⟩
  refine mU qM HX A9 (i:=11) (by decide) λWq l7 IU ajI=>?_
  have sv:∀x,E4 x≠none->Wq x=E4 x:=λx ai=>by
   have Wr:x≠fG:=λe=>ai (e▸f8)
   rw[ajI x Wr,eT x Wr,eN x ai]
  have IJ:∀x,X x->E4 x≠none:=λx z=>by rw[c5 x z,m6 x (rQ x z)];exact rQ x z
  have nc:=ij.move λx ai=>sv x (ij.dn ai)
  have va:∀x,X x->Wq x=g x:=λx z=>by rw[sv x (IJ x z),c5 x z,m6 x (rQ x z)]
  have BK:=(va ba (.inl rfl)).trans c1
  have Ws:=(sv eo (by rw[Wp];simp)).trans Wp
  refine⟨some ⟨m.b,0⟩,az BK rfl,_,az Ws rfl,_,az Ws rfl,_,dv IU,?_⟩
  refine(zd nc za zb _ (by simp only[List.length_append,List.length_singleton];omega)).mono ?_
  rintro _ azi ⟨qx,rfl,qN,ed⟩
  obtain⟨eb,ajJ⟩:=l6 ed (λx z=>by rw[va x z];exact rQ x z) ajH
  rw[NS i b5] at qN
  refine⟨rfl,P.m-(i+1),by omega,rfl,rfl,rfl,rfl,rfl,i+1,qx,bf (by omega) (by omega),by omega,rfl,?_,l7.trans (mK ed),ajJ,(eb ba (.inl rfl)).trans BK,((eb ae (.inr (.inl rfl))).trans (va ae (.inr (.inl rfl)))).trans og,du.move λq aj _=>(eb _ (.inr (.inr ⟨q,aj,rfl⟩))).trans (va _ (.inr (.inr ⟨q,aj,rfl⟩)))⟩
  have gd:(gM P.k P.s P.t f av).getD i ⟨0,0⟩=kZ P f av i:=by rw[rN o];simp[List.getD,b5]
  rw[Nu,gd,show ∀(a b:List de) (x y:de),a++(b++[x,y])=a++b++[x]++[y] by simp,rO]
  exact qN
 .have hi:i=P.m:=by omega
  subst hi
  refine⟨_,dv og,?_⟩
  refine fB (n:=8) jY f1 og (by simp[af.cells]) λbW tK fP eT=>⟨_,dv fP,mn,rfl,?_,?_,qK ba (.inl rfl),tK.to λx ai=>?_⟩
  .have gd:nX++qI f (gM P.k P.s P.t f av) P.m=a7++ob P.k P.s P.t f av:=by
    have kt:(gM P.k P.s P.t f av).length=P.m:=by rw[rN o];simp
    unfold ob
    rw[<-L.E,kt,<-od];simp
   rw[<-gd]
   exact gk.move λx ai=>eT x λe=>qK ae (.inr (.inl rfl)) (e▸ai)
  .rw[eT _ (Ne.symm EZ),c1,<-NU];rfl
  .rcases ai with ai|rfl
   .exact .inl (.inl ai)
   .exact .inl (.inr (.inl rfl))
end
end Go.Proofs.Tryz
namespace Go.Proofs.Tryz
open Go Go.cD Go.RowKit
set_option maxRecDepth 8000
def m2 (h:ak)(b:Nat)(ids:List UInt64):Prop:=∃(l:List (UInt64×Value×Nat)) (clock:Nat),h b=some (.map (l.map p3).toArray clock)/\l.map (·.1)=ids
theorem m2.move {h ah:ak}{b:Nat}{ids:List UInt64}(m:m2 h b ids)(e:ah b=h b):m2 ah b ids:=by
 obtain⟨l,c,aa,ad⟩:=m;exact⟨l,c,by rw[e,aa],ad⟩
theorem m2.dn {h:ak}{b:Nat}{ids:List UInt64}(m:m2 h b ids):h b≠none:=by
 obtain⟨l,c,aa,_⟩:=m;rw[aa];simp
theorem modify_keys {v:Value}(k:UInt64):∀(l:List (UInt64×Value×Nat)) (i:Nat),(∀h:i<l.length,l[i].1=k)->(l.modify i λe=>(k,v,e.2.2)).map (·.1)=l.map (·.1)
 | [],i,_=>by cases i<;>rfl
 | e::l,0,h=>by
  have:=h (by simp)
  simp at this
  simp[List.modify,this]
 | e::l,i+1,h=>by
  have dK:=modify_keys (v:=v) k l i λhi=>by have:=h (by simpa using hi);simpa using this
  simp only[List.modify_succ_cons,List.map_cons,dK]
theorem Wt {h:ak}{b:Nat}{ids:List UInt64}{k:UInt64}{v:Value}{K:ak->Prop}(m:m2 h b ids)(ag:∀ah,m2 ah b (if k∈ids then ids else ids++[k])->(∀x,x≠b->ah x=h x)->K ah):sL h (some b) k v K:=by
 obtain⟨l,c,aa,ad⟩:=m
 refine⟨b,l,c,rfl,aa,ag _ ?_ λx ai=>cQ _ _ ai⟩
 unfold NX
 cases a_:l.findIdx? (λe=>e.1==k) with
 | some i =>
  rw[List.findIdx?_eq_some_iff_getElem] at a_
  obtain⟨hi,he,_⟩:=a_
  have he:l[i].1=k:=by simpa using he
  have hm:k∈ids:=by rw[<-ad,<-he];exact List.mem_map.2 ⟨_,List.getElem_mem hi,rfl⟩
  rw[if_pos hm]
  refine⟨l.modify i λe=>(k,v,e.2.2),c,eH _ _ _,?_⟩
  rw[modify_keys k l i λ_=>he,ad]
 | none =>
  rw[List.findIdx?_eq_none_iff] at a_
  have hm:¬k∈ids:=by
   rw[<-ad];intro ai
   obtain⟨e,he,rfl⟩:=List.mem_map.1 ai
   have:=a_ e he;simp at this
  rw[if_neg hm]
  exact⟨l++[(k,v,c)],c+1,eH _ _ _,by rw[List.map_append,ad];rfl⟩
def yG:fg->Int->Int->c0->Prop
 | .look,k,_,_=>k=0
 | .put bC,k,_,d=>k=1/\bC=d
 | .part a x y,k,at_,d=>k=2/\at_=a/\a<=6/\x=d[0]/\y=d[1]
 | .drop,k,_,_=>k=3
theorem ajK {n:Nat}(c:Vector UInt64 n){i:Nat}(hi:i+1<n)(x y:UInt64):h5 (af.cells (.ws n c)).toArray i [ab x,ab y]=(af.cells (.ws n ((c.setIfInBounds i x).setIfInBounds (i+1) y))).toArray:=by
 have aF:h5 (af.cells (.ws n c)).toArray i [ab x,ab y]=h5 (h5 (af.cells (.ws n c)).toArray i [ab x]) (i+1) [ab y]:=rfl
 rw[aF,IV c (by omega),IV _ hi]
 congr 2
 have:(c.set i x).set (i+1) y=(c.setIfInBounds i x).setIfInBounds (i+1) y:=by
  apply Vector.ext;intro j aV
  simp[Vector.getElem_set,Vector.getElem_setIfInBounds]
 rw[this]
theorem ajL {op:fg}{k at_:Int}{d:c0}(fY:yG op k at_ d){h0:ak}{ay aN bJ:Nat}{t2 t3 t4:TypeId}(a8:h0 ay=some (.cells #[U k] t2 (0,0)))(b0:h0 aN=some (.cells #[U at_] t3 (0,0)))(b1:h0 bJ=some (.cells (af.cells (.ws 8 d)).toArray t4 (0,0))) :
 Wf (λx=>x=ay∨x=aN∨x=bJ) h0 (.func (.func 118) #[] #[bg ⟨ay,0⟩,bg ⟨bJ,0⟩,bg ⟨aN,0⟩]) op:=by
 intro g c_ old there
 have g2:=(c_ ay (.inl rfl)).trans a8
 have g3:=(c_ aN (.inr (.inl rfl))).trans b0
 have g4:=(c_ bJ (.inr (.inr rfl))).trans b1
 refine⟨rfl,?_⟩
 refine ajM _ _ _ _ _ ?_
 unfold Wu
 refine bM λbq aa f1 lY aE=>bM λbz ad f2 kE aC=>?_
 have fE:=aE.trans aC
 have cZ:bz≠bq:=λe=>by rw[e,lY] at f2;cases f2
 have f20:=aE.free f2
 have tN:=aC.get lY
 have aP:=dv (fE.get g4)
 refine⟨_,az (fE.get g2) rfl,?_⟩
 cases op with
 | look =>
  have ag:k=0:=fY
  subst ag
  refine bS rfl (bS rfl ⟨_,dv tN,h4 (λbw=>?_) λbw=>?_⟩)
  .refine⟨_,az (fE.get g2) rfl,pg (n:=8) fE f20 kE rfl λan aI nB _=>⟨⟨az (aI.get g2) rfl,trivial⟩,_,dv nB,⟨old,?_,?_⟩,aI⟩⟩
   .rw[bw];rfl
   .intro x ai;rw[bw] at ai;exact Option.some.inj ai
  .refine pg (n:=8) fE f20 kE rfl λan aI nB _=>⟨_,dv nB,⟨old,?_,?_⟩,aI⟩
   .rw[bw];rfl
   .intro x ai;rw[bw] at ai;cases ai
 | put bC =>
  obtain⟨rfl,rfl⟩:=fY
  refine dg rfl ⟨_,aP,pg (n:=8) fE f20 kE rfl λan aI nB _=>⟨_,dv nB,⟨_,rfl,?_⟩,aI⟩⟩
  intro x ai;exact Option.some.inj ai
 | drop =>
  have ag:k=3:=fY
  subst ag
  refine bS rfl (bS rfl ⟨_,dv tN,h4 (λbw=>?_) λbw=>?_⟩)
  .refine⟨_,az (fE.get g2) rfl,pg (n:=8) fE f20 kE rfl λan aI nB _=>⟨⟨az (aI.get g2) rfl,trivial⟩,_,dv nB,⟨_,rfl,?_⟩,aI⟩⟩
   intro x ai;cases ai
  .refine pg (n:=8) fE f20 kE rfl λan aI nB _=>⟨_,dv nB,⟨_,rfl,?_⟩,aI⟩
   intro x ai;cases ai
 | part a x y =>
  obtain⟨rfl,rfl,bO,rfl,rfl⟩:=fY
  refine bS rfl (dg rfl ⟨_,az (fE.get g3) rfl,by omega,by omega,Int.NonNeg.mk 2,Int.NonNeg.mk 6,?_⟩)
  have jq:fi ab ad ⟨gA (some ⟨bJ,0⟩) 0 8 1,2,8,none⟩ [d[0],d[1]]:=by
   refine⟨rfl,(show(2:Nat)<=8 by decide),(by intro h;cases h),λq aj j aV=>?_⟩
   cases aj
   have j6:j=0∨j=1:=by simp at aV;omega
   rcases j6 with rfl|rfl
   .exact fb (fE.get g4) (i:=0) (by decide)
   .exact fb (fE.get g4) (i:=1) (by decide)
  have y6:Int.toNat (a:Int)=a:=by omega
  rw[y6]
  refine HZ jq (q:=⟨bq,a⟩) ?_ (c:=2) ?_ ?_
  .show ar.q ⟨gA (some ⟨bq,0⟩) a 8 1,8-a,8-a,none⟩=_
   unfold gA ar.q;rw[if_neg (by omega)];simp
  .show 2=min 2 (8-a);omega
  .refine pE fE f1 tN (by simp[af.cells];omega) λan aI nB c7=>?_
   have ajN:an bq=some (.cells (af.cells (.ws 8 ((old.setIfInBounds a d[0]).setIfInBounds (a+1) d[1]))).toArray 100 (0,0)):=by
    rw[nB,<-ajK old (by omega)];rfl
   refine⟨_,dv ajN,pg (n:=8) aI f20 ((c7 _ cZ).trans kE) rfl λaK bh sk _=>⟨_,dv sk,⟨_,rfl,?_⟩,bh⟩⟩
   intro x ai;exact Option.some.inj ai
end Go.Proofs.Tryz
namespace Go.Proofs.Tryz
open Go Go.cD Go.RowKit
set_option maxRecDepth 8000
theorem Wv {h:ak}{ae ba k:Nat}(aF:br h ae 0=some (bg ⟨ba,0⟩))(el:br h ba 0=some (U (2 ^ k))){x:Nat}(ai:x<2 ^ k){K:Value->ak->Prop}(ag:K (.bool false) h) :
 ao 116 [U x,bg ⟨ae,0⟩] h K:=by
 refine ajO _ _ ?_
 unfold Ww
 have ad:((2 ^ k:Nat):Int)=2 ^ k:=by simp
 refine bS (decide_eq_false (by omega)) ⟨some ⟨ba,0⟩,aF,_,rfl,_,el,?_⟩
 have:(bif false then true else decide ((2:Int) ^ k<=(x:Int)))=false:=decide_eq_false (by omega)
 rw[this];exact ag
section
variable {T:TypeId} {m:jw} {R:dF} {a7:List de} {es:ar} {h:ak}
theorem Wx {P:db}{f:Nat}(o:P.da)(L:qo m P f)(M:cV T m R a7 es h){iP:TypeId}{ba mp:Nat}{eS:Bool}{ids:List UInt64}(kv:h ba=some (.cells (nv P m.b f eS mp) iP (0,0)))(IW:m2 h mp ids)(vc:¬bF m es ba)(Wy:¬bF m es mp)
 {av to:Nat} (gI:av<2 ^ P.k) (BG:to<2 ^ P.k) {bi:UInt64} (ho:bi.toNat<=2147483648) (mf:qA P (kx f R)) {op:fg} {k at_:Int} {d:c0} (fY:yG op k at_ d) (aT:a7.length<1000000000000) :
 ao 89 [bg ⟨ba,0⟩,U k,ab bi,U at_,ea d,U av,U to] h λr ah=>∃aW,r= .tuple #[ea (jH P bi av (kx f R)).1,.bool (jH P bi av (kx f R)).2]/\cV T m (lp f R (k8 P op bi av to (kx f R))) (a7++ob P.k P.s P.t f av) aW ah /\
  ah ba=some (.cells (nv P m.b f (eS||sI P op bi av to (kx f R)) mp) iP (0,0))/\m2 ah mp (meets op bi ids)/\¬bF m aW ba/\¬bF m aW mp/\bT (λx=>bF m es x∨x=ba∨x=mp) h (λx=>bF m aW x∨x=ba∨x=mp) ah:=by
 have Wz:mp≠ba:=λe=>by obtain⟨l,c,aa,_⟩:=IW;rw[e,kv] at aa;cases aa
 have ag:(k=0/\∀l,meets op bi l=l)∨(k=1/\∀l,meets op bi l=if bi∈l then l else l++[bi])∨(k=2/\0<=at_/\at_<=6/\∀l,meets op bi l=if bi∈l then l else l++[bi])∨(k=3/\∀l,meets op bi l=l):=by
  cases op with
  | look=>exact .inl ⟨fY,λ_=>rfl⟩
  | put bC=>exact .inr (.inl ⟨fY.1,λ_=>rfl⟩)
  | part a x y=>exact .inr (.inr (.inl ⟨fY.1,by have:=fY.2.1;omega,by have:=fY.2.1;have:=fY.2.2.1;omega,λ_=>rfl⟩))
  | drop=>exact .inr (.inr (.inr ⟨fY,λ_=>rfl⟩))
 refine ajP _ _ _ _ _ _ _ ?_
 unfold WA
 refine bM λae aa f1 aF aE=>bM λay ad f2 a8 aC=>bM λaN an f3 b0 aI=>bM λbJ aK f4 b1 bh=>bM λbZ aR f5 cy bE=>?_
 have jK:=(aC.trans aI).trans (bh.trans bE)
 have jL:=aE.trans jK
 have g1:=jK.get aF
 have g2:=((aI.trans bh).trans bE).get a8
 have g3:=(bh.trans bE).get b0
 have g4:=bE.get b1
 have oy:=jL.get kv
 have f50:h bZ=none:=aE.free (aC.free (aI.free (bh.free f5)))
 have f20:h ay=none:=aE.free f2
 have f30:h aN=none:=aE.free (aC.free f3)
 have f40:h bJ=none:=aE.free (aC.free (aI.free f4))
 have ij:=M.bD jL
 have IX:m2 aR mp ids:=IW.move (jL mp IW.dn)
 have E5:∀x,h x=none->x≠ba:=λx ai e=>by rw[e,kv] at ai;cases ai
 have BN:∀x,h x=none->x≠mp:=λx ai e=>IW.dn (e▸ai)
 have IY:∀x,h x=none->¬bF m es x:=λx ai hm=>M.dn hm ai
 have n52:bZ≠ay:=λe=>by rw[e,((aI.trans bh)).get a8] at f5;cases f5
 have n53:bZ≠aN:=λe=>by rw[e,bh.get b0] at f5;cases f5
 have n54:bZ≠bJ:=λe=>by rw[e,b1] at f5;cases f5
 have acc:∀(g:ak) (oQ:List UInt64),(∀x,x≠mp->g x=aR x)->m2 g mp oQ->oQ=meets op bi ids ->
  ∃c7:Option aD,br g ae 0=some (a1 c7)/\ao 117 [a1 c7,ab bi,U av,U to,.func (.func 118) #[] #[bg ⟨ay,0⟩,bg ⟨bJ,0⟩,bg ⟨aN,0⟩]] g λv3 cM=>∃hz:c0,∃t3,v3= .tuple #[ea hz,.bool t3]/\aX cM ⟨bZ,0⟩ (af.cells (.ws 8 hz)) λdX=>∃jE:c0,bU dX bZ 0 jE /\
   ∃aW,Value.tuple #[ea jE,.bool t3]= .tuple #[ea (jH P bi av (kx f R)).1,.bool (jH P bi av (kx f R)).2]/\cV T m (lp f R (k8 P op bi av to (kx f R))) (a7++ob P.k P.s P.t f av) aW dX /\
  dX ba=some (.cells (nv P m.b f (eS||sI P op bi av to (kx f R)) mp) iP (0,0))/\m2 dX mp (meets op bi ids)/\¬bF m aW ba/\¬bF m aW mp/\bT (λx=>bF m es x∨x=ba∨x=mp) h (λx=>bF m aW x∨x=ba∨x=mp) dX:=by
  rintro g oQ c_ IZ rfl
  have q1:=(c_ ae (BN _ f1)).trans g1
  have aJ:=(c_ ay (BN _ f20)).trans g2
  have bd:=(c_ aN (BN _ f30)).trans g3
  have bI:=(c_ bJ (BN _ f40)).trans g4
  have c2:=(c_ bZ (BN _ f50)).trans cy
  have ph:=(c_ ba (Ne.symm Wz)).trans oy
  have gk:cV T m R a7 es g:=ij.move λx ai=>c_ x λe=>Wy (e▸ai)
  have Ny:bT (λx=>bF m es x∨x=ba∨x=mp) h (λx=>bF m es x∨x=ba∨x=mp) g:=by
   refine⟨λx ai=> .inl ai,λx ai aH=>?_,λx ai=>?_⟩
   .rw[c_ x λe=>aH (.inr (.inr e)),jL x ai]
   .by_cases e:x=mp
    .rw[e] at ai;exact absurd ai IZ.dn
    .rw[c_ x e] at ai;exact jL.free ai
  refine⟨some ⟨ba,0⟩,az q1 rfl,?_⟩
  refine(ajt o L gk ph vc gI BG ho mf (op:=op) (G:=λx=>x=ay∨x=aN∨x=bJ) ?_ (ajL fY aJ bd bI) aT).mono ?_
  .rintro x (rfl|rfl|rfl)
   .exact⟨by rw[aJ];simp,IY _ f20,E5 _ f20⟩
   .exact⟨by rw[bd];simp,IY _ f30,E5 _ f30⟩
   .exact⟨by rw[bI];simp,IY _ f40,E5 _ f40⟩
  rintro _ cM ⟨aW,rfl,ajQ,ajR,di,nf⟩
  have xb:bT (λx=>bF m es x∨x=ba∨x=mp) h (λx=>bF m aW x∨x=ba∨x=mp) cM :=
   ((Ny.to (C:=λx=>(bF m es x∨x=ba)∨x=mp) λx ai=> .inl (ai.elim (λh=>h.elim .inl λh=> .inr (.inl h)) λh=> .inr (.inr h))).trans (mK nf)).to λx ai=> .inl (ai.elim (λh=> .inl (.inl h)) λh=>h.elim (λh=> .inl (.inr h)) .inr)
  have WB:¬(bF m es mp∨mp=ba):=λh=>h.elim Wy Wz
  have ajS:m2 cM mp (meets op bi ids):=IZ.move (nf.2.1 mp IZ.dn WB)
  have ajT:¬bF m aW mp:=λh=>nf.out IZ.dn WB (.inl h)
  have zh:¬(bF m es bZ∨bZ=ba):=λh=>h.elim (IY _ f50) (E5 _ f50)
  have ajU:=nf.get c2 zh
  have NP:¬bF m aW bZ:=λh=>nf.out (by rw[c2];simp) zh (.inl h)
  refine⟨_,_,rfl,fB (n:=8) xb f50 ajU rfl λdX NY tg oh=>⟨_,dv tg,aW,rfl,ajQ.move λx ai=>oh x λe=>NP (e▸ai),(oh _ (Ne.symm (E5 _ f50))).trans ajR,ajS.move (oh _ (Ne.symm (BN _ f50))),di,ajT,NY⟩⟩
 have azj:0<=k/\k<=3:=by rcases ag with h|h|h|h<;>omega
 have vh:¬2147483648<bi:=λh=>by have:=UInt64.lt_iff_toNat_lt.1 h;have e:(2147483648:UInt64).toNat=2147483648:=rfl;omega
 refine⟨_,az g2 rfl,bS (decide_eq_false (by omega)) ⟨_,az g2 rfl,bS (decide_eq_false (by omega)) (bS (decide_eq_false vh) ?_)⟩⟩
 refine Wv (az g1 rfl) (az oy rfl) gI ⟨_,rfl,bS rfl ?_⟩
 refine Wv (az g1 rfl) (az oy rfl) BG ⟨_,rfl,bS rfl ?_⟩
 rcases ag with ⟨rfl,hm⟩|⟨rfl,hm⟩|⟨rfl,azk,ajV,hm⟩|⟨rfl,hm⟩
 .refine⟨_,az g2 rfl,bS rfl ⟨_,az g2 rfl,bS rfl ⟨_,az g2 rfl,bS rfl ?_⟩⟩⟩
  exact acc aR ids (λ_ _=>rfl) IX (hm ids).symm
 .refine⟨_,az g2 rfl,bS rfl ⟨_,az g2 rfl,dg rfl ⟨some ⟨ba,0⟩,az g1 rfl,_,rfl,some mp,az oy rfl,Wt IX λdM NZ mo=>?_⟩⟩⟩
  exact acc dM _ mo NZ (hm ids).symm
 .refine⟨_,az g2 rfl,dg rfl ⟨_,az g3 rfl,bS (decide_eq_false (by omega)) ⟨_,az g3 rfl,bS (decide_eq_false (by omega)) ⟨_,az g2 rfl,bS rfl ⟨_,az g2 rfl,dg rfl ⟨some ⟨ba,0⟩,az g1 rfl,_,rfl,some mp,az oy rfl,Wt IX λdM NZ mo=>?_⟩⟩⟩⟩⟩⟩
  exact acc dM _ mo NZ (hm ids).symm
 .refine⟨_,az g2 rfl,bS rfl ⟨_,az g2 rfl,bS rfl ⟨_,az g2 rfl,bS rfl ?_⟩⟩⟩
  exact acc aR ids (λ_ _=>rfl) IX (hm ids).symm
end

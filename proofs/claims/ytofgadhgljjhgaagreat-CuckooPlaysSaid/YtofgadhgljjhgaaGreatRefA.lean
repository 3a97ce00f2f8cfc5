import Derived.Test.YtofgadhgljjhgaaGreatRefL
namespace Go.Proofs.Tryz
open Go Go.cD Go.RowKit
set_option maxRecDepth 8000
section
variable {T:TypeId} {m:jw} {R:dF} {a7:List de} {es:ar} {h:ak}
set_option maxHeartbeats 4000000 in
theorem aas {P:db}{f:Nat}(o:P.da)(L:qo m P f)(M:cV T m R a7 es h){iP:TypeId}{ba:Nat}{eS:Bool}{is:ar}{ids:List UInt64}(kv:h ba=some (.cells (qa P m.b f eS is) iP (0,0)))(hL:cW ab lE h is ids)(vc:¬bF m es ba)(sep:∀q,is.q=some q->q.b≠ba/\¬bF m es q.b)(JU:ids.length<1000000000000)
 {av to:Nat} (gI:av<2 ^ P.k) (BG:to<2 ^ P.k) {bi:UInt64} (ho:bi.toNat<=2147483648) (mf:qA P (kx f R)) {op:fg} {k at_:Int} {d:c0} (fY:yG op k at_ d) (aT:a7.length<1000000000000) :
 ao 123 [bg ⟨ba,0⟩,U k,ab bi,U at_,ea d,U av,U to] h λr ah=>∃aW eC,r= .tuple #[ea (jH P bi av (kx f R)).1,.bool (jH P bi av (kx f R)).2]/\cV T m (lp f R (k8 P op bi av to (kx f R))) (a7++ob P.k P.s P.t f av) aW ah /\
  ah ba=some (.cells (qa P m.b f (eS||sI P op bi av to (kx f R)) eC) iP (0,0))/\cW ab lE ah eC (meets op bi ids)/\¬bF m aW ba/\(∀q,eC.q=some q->q.b≠ba/\¬bF m aW q.b)/\(∀q,eC.q=some q->(∃p,is.q=some p/\q.b=p.b)∨h q.b=none)/\bT (λx=>bF m es x∨rU ba is x) h (λx=>bF m aW x∨rU ba eC x) ah:=by
 have ol:=o.gy
 have aju:=y9 o
 have y_:=o.E
 have aH:=o.n
 have ajv:P.n=P.m+1:=rfl
 have ji:(2:Int) ^ P.E=((2 ^ P.E:Nat):Int):=by simp
 have bw:=L.mc
 rw[ji] at bw
 have rl:=II (f:Int) y_
 have BH:∀n,(jt f (gM P.k P.s P.t f av) n).length<=2*n:=λn=>Nt _ _ _
 have ajw:=L.a_
 have iA:al ((f:Int)+2)=((f+2:Nat):Int):=by rw[bf (by omega) (by omega)];omega
 have rO:(f:Int)+2=((f+2:Nat):Int):=by omega
 have nb:=L.fF
 have md:=L.eX
 have yR:P.k<=10:=o.k
 have qJ:0<P.m:=by have:=o.t;unfold db.m;omega
 have Wl:P.m<2 ^ P.E:=by omega
 have azs:((2 ^ P.k:Nat):Int)=2 ^ P.k:=by simp
 have azt:2 ^ P.k<=2 ^ 10:=Nat.pow_le_pow_right (by decide) yR
 have ag:k=0∨k=1∨(k=2/\0<=at_/\at_<=6)∨k=3:=by
  cases op with
  | look=>exact .inl fY
  | put bC=>exact .inr (.inl fY.1)
  | part a x y=>exact .inr (.inr (.inl ⟨fY.1,by have:=fY.2.1;omega,by have:=fY.2.1;have:=fY.2.2.1;omega⟩))
  | drop=>exact .inr (.inr (.inr fY))
 have vh:¬2147483648<bi:=λh=>by have:=UInt64.lt_iff_toNat_lt.1 h;have e:(2147483648:UInt64).toNat=2147483648:=rfl;omega
 refine apL _ _ _ _ _ _ _ ?_
 unfold ZS
 refine bM λae aa f1 aF aE=>bM λay ad f2 a8 aC=>⟨_,az ((aE.trans aC).get kv) rfl,λq1 aA bq aL aO bm aJ bd g=>q1=⟨ba,0⟩/\k=aA/\bi=bq/\at_=aL/\aO=av/\bm=to/\aJ=⟨ae,0⟩/\bd=⟨ay,0⟩/\g=ad,?_,?_⟩
 .refine bS (decide_eq_false (by omega)) (bS (decide_eq_false (show ¬3<k by omega)) (bS (decide_eq_false vh) (bS (decide_eq_false (show ¬(av:Int)<0 by omega)) (bS (decide_eq_false (show ¬2 ^ P.k<=(av:Int) by omega)) (bS (decide_eq_false (show ¬(to:Int)<0 by omega)) (bS (decide_eq_false (show ¬2 ^ P.k<=(to:Int) by omega)) ?_))))))
  refine cd (λaY=>?_) λaY=>⟨rfl,rfl,rfl,rfl,rfl,rfl,rfl,rfl,rfl⟩
  exact bS (decide_eq_false (by omega)) (bS (decide_eq_false (show ¬6<at_ by omega)) ⟨rfl,rfl,rfl,rfl,rfl,rfl,rfl,rfl,rfl⟩)
 rintro q1 aA bq aL aO bm aJ bd g ⟨rfl,rfl,rfl,rfl,rfl,rfl,rfl,rfl,rfl⟩
 have fE:=aE.trans aC
 have gx:=fE.get kv
 refine⟨_,az gx rfl,_,az gx rfl,_,az gx rfl,_,az gx rfl,(arL ol (f:Int) (by omega) gI g).mono ?_⟩
 rintro _ an ⟨sp,rfl,kJ,aI⟩
 rw[rN o f av] at kJ
 have o6:=aI.get gx
 refine⟨sp,rfl,_,az o6 rfl,_,az o6 rfl,_,az o6 rfl,(Ps ol).to λaK bh=>⟨_,_,_,rfl,bM λaN aR f5 cy bE=>?_⟩⟩
 rw[bw]
 have BI:=kJ.len
 simp only[List.length_map,List.length_range] at BI
 generalize EY:kx f R=ef at *
 have sW:=bh.trans bE
 have jL:=(fE.trans aI).trans sW
 have f50:h aN=none:=(fE.trans aI).free (bh.free f5)
 let X:Nat->Prop:=λx=>x=ae∨x=ay∨∃q,sp.q=some q/\x=q.b
 let iF:ar->ar->Nat->Prop:=λaW eC x=>bF m aW x∨rU ba eC x
 have aat:∀x,iF es is x->h x≠none:=by
  rintro x (ai|rfl|⟨q,aj,rfl⟩)
  .exact M.dn ai
  .rw[kv];simp
  .exact(hL.bl aj).2
 have rP:∀x,X x->h x=none/\aR x≠none:=by
  rintro x (rfl|rfl|⟨q,aj,rfl⟩)
  .exact⟨f1,by rw[(aC.trans aI).trans sW |>.get aF];simp⟩
  .exact⟨aE.free f2,by rw[(aI.trans sW).get a8];simp⟩
  .exact⟨fE.free (kJ.bl aj).1,by rw[sW _ (kJ.bl aj).2];exact(kJ.bl aj).2⟩
 have E0:¬X aN:=by
  rintro (e|e|⟨q,aj,e⟩)
  .rw[e,(aC.trans aI).trans bh |>.get aF] at f5;cases f5
  .rw[e,(aI.trans bh).get a8] at f5;cases f5
  .exact(bh _ (kJ.bl aj).2▸(kJ.bl aj).2) (e▸f5)
 have rg:∀ {bo:ak},(∀x,X x->bo x=aR x)->fN mT bo sp ((List.range P.m).map (kZ P f av)):=λai=>(kJ.rd.bD nL sW).move λq aj _=>ai _ (.inr (.inr ⟨q,aj,rfl⟩))
 have JV:∀ {bo:ak},(∀x,X x->bo x=aR x)->∀ {i:Nat},i<P.m->∀ {K:aD->Prop},(∀q,br bo q.b (q.o+Int.toNat (i:Int)*2)=some (U ((f+(spot P av i).1:Nat):Int))->br bo q.b (q.o+Int.toNat (i:Int)*2+1)=some (U ((spot P av i).2:Int))->K q)->∃q,sp.q=some q/\0<=(i:Int)/\(i:Int)+1<=(sp.len:Int)/\K q:=λ{bo} ai {i} hi {K} eM=>by
  refine(rg ai).cp nL (i:=i) (by simp;omega) λq aj k0=>?_
  have e:((List.range P.m).map (kZ P f av))[i]'(by simp;omega)=kZ P f av i:=by simp
  rw[e] at k0
  obtain⟨aQ,aY,_⟩:=k0
  exact eM q (by rw[show(i:Int).toNat=i by omega];exact aQ) (by rw[show(i:Int).toNat=i by omega];exact aY)
 let gl:dF->List de->ar->Bool->ar->List UInt64->ak->Prop:=λdm b_ aW jM eC oQ g=>cV T m dm b_ aW g/\bT (iF es is) h (iF aW eC) g/\¬bF m aW ba/\(∀q,eC.q=some q->q.b≠ba/\¬bF m aW q.b)/\g ba=some (.cells (qa P m.b f jM eC) iP (0,0))/\cW ab lE g eC oQ/\(∀x,X x->¬iF aW eC x)/\∀x,X x->g x=aR x
 have arM:gl R a7 es eS is ids aR:=⟨M.bD jL,hF jL _,vc,sep,jL.get kv,hL.move λq aj=>jL _ (hL.bl aj).2,λx ai bO=>aat x bO (rP x ai).1,λ_ _=>rfl⟩
 have mem:∀ {dm b_ aW jM eC oQ g c4 eL ds g2},gl dm b_ aW jM eC oQ g->cV T m c4 eL ds g2->bT (bF m aW) g (bF m ds) g2->gl c4 eL ds jM eC oQ g2:=fun⟨_,V,nl,xI,el,ud,xJ,q0⟩ M2 v =>
  ⟨M2,V.trans (mK v),v.out (by rw[el];simp) nl,λq aj=>⟨(xI q aj).1,v.out (ud.bl aj).2 (xI q aj).2⟩,v.get el nl,ud.move λq aj=>v.2.1 _ (ud.bl aj).2 (xI q aj).2,λx ai=>λbO=>bO.elim (λhm=>v.out (by rw[q0 x ai];exact(rP x ai).2) (λhm=>xJ x ai (.inl hm)) hm) λa_=>xJ x ai (.inr a_),λx ai=>(v.2.1 x (by rw[q0 x ai];exact(rP x ai).2) λhm=>xJ x ai (.inl hm)).trans (q0 x ai)⟩
 have bD:∀ {dm b_ aW jM eC oQ g g2},gl dm b_ aW jM eC oQ g->bL g g2->gl dm b_ aW jM eC oQ g2:=fun⟨M,V,nl,xI,el,ud,xJ,q0⟩ bP =>
  ⟨M.bD bP,V.more bP,nl,xI,bP.get el,ud.move λq aj=>bP _ (ud.bl aj).2,xJ,λx ai=>(bP x (by rw[q0 x ai];exact(rP x ai).2)).trans (q0 x ai)⟩
 have loc:∀ {dm b_ aW jM eC oQ g b g2},gl dm b_ aW jM eC oQ g->¬iF aW eC b->¬X b->bT (iF es is) h (iF aW eC) g2->(∀y,y≠b->g2 y=g y)->gl dm b_ aW jM eC oQ g2:=fun⟨M,_,nl,xI,el,ud,xJ,q0⟩ au ai V JW =>
  ⟨M.move λy aB=>JW y λe=>au (e▸.inl aB),V,nl,xI,(JW ba λe=>au (e▸.inr (.inl rfl))).trans el,ud.move λq aj=>JW _ λe=>au (e▸.inr (.inr ⟨q,aj,rfl⟩)),xJ,λx gV=>(JW x λe=>ai (e▸gV)).trans (q0 x gV)⟩
 have fresh:∀ {dm b_ aW jM eC oQ g b},gl dm b_ aW jM eC oQ g->g b=none->h b=none/\¬iF aW eC b/\¬X b:=fun⟨M,V,nl,xI,el,ud,xJ,q0⟩ au =>
  ⟨V.2.2 _ au,λbO=>(by
   rcases bO with hm|rfl|⟨q,aj,rfl⟩
   .exact M.dn hm au
   .rw[el] at au;cases au
   .exact(ud.bl aj).2 au),λai=>(rP _ ai).2 ((q0 _ ai)▸au)⟩
 have xK:¬iF es is aN:=λbO=>aat _ bO f50
 let fz:Nat->dF:=λi=>en R (f+2) λp=>if p<i then strip bi (eZ P av ef p) else R (f+2) p
 have ND:∀(i:Nat) (dm:dF),i<P.m->(∀r j,r≠f+2->dm r j=R r j)->dm (f+(spot P av i).1) (spot P av i).2=eZ P av ef i:=λi dm hi jd=>by
  have ad:=(w9 L o gI hi).2.2
  rw[jd _ _ (by omega),<-EY];rfl
 have NF:∀i r j,r≠f+2->fz i r j=R r j:=λi r j aP=>by show en R (f+2) _ r j=_;unfold en;rw[if_neg aP]
 have Gc:∀(A B:Nat->cv) (i:Nat),fA (en R (f+2) λp=>if p<i then A p else B p) (f+2,i) (A i)=en R (f+2) λp=>if p<i+1 then A p else B p:=λA B i=>by
  funext r j
  show(if r=f+2/\j=i then A i else if r=f+2 then (if j<i then A j else B j) else R r j)=if r=f+2 then (if j<i+1 then A j else B j) else R r j
  by_cases aQ:r=f+2
  .rw[if_pos aQ,if_pos aQ]
   by_cases aY:j=i
   .rw[if_pos ⟨aQ,aY⟩,if_pos (by omega),aY]
   .rw[if_neg (λh=>aY h.2)]
    by_cases ck:j<i
    .rw[if_pos ck,if_pos (by omega)]
    .rw[if_neg ck,if_neg (by omega)]
  .rw[if_neg (λh=>aQ h.1),if_neg aQ,if_neg aQ]
 have aau:gl (fz 0) (a7++jt f (gM P.k P.s P.t f av) 0) es eS is ids aR:=by
  have e:fz 0=R:=by
   have:(λp=>if p<0 then strip bi (eZ P av ef p) else R (f+2) p)=R (f+2):=by funext p;simp
   show en R (f+2) _=R
   rw[this];exact BJ R _
  rw[e];simpa [jt] using arM
 refine⟨λbI di bz dp cC fl c2 dj s2 eG dP t1 cZ g bP=>bI=⟨ba,0⟩/\k=di/\bi=bz/\at_=dp/\cC=av/\fl=to/\c2=⟨ae,0⟩/\dj=⟨ay,0⟩/\sp=s2/\eG=((2 ^ P.E:Nat):Int)/\dP=⟨aN,0⟩/\∃(i:Nat) (aW:ar),cZ=i/\i<=P.m/\bP=P.m-i/\t1=(hU bi (eZ P av ef) i).2/\gl (fz i) (a7++jt f (gM P.k P.s P.t f av) i) aW eS is ids g/\g aN=some (.cells (af.cells (.ws 8 (hU bi (eZ P av ef) i).1)).toArray 100 (0,0))/\¬iF aW is aN,
  ⟨P.m,rfl,rfl,rfl,rfl,rfl,rfl,rfl,rfl,rfl,rfl,rfl,0,es,rfl,by omega,rfl,rfl,aau,cy,xK⟩,?_⟩
 clear aau xK
 rintro bI di bz dp cC fl c2 dj s2 eG dP t1 cZ g bP ⟨rfl,rfl,rfl,rfl,rfl,rfl,rfl,rfl,rfl,rfl,rfl,i,ih,rfl,hi,rfl,rfl,S,tM,xK⟩
 have zc:=BH i
 refine cd (λca=>?_) λdx=>?_
 .have b5:i<P.m:=by omega
  obtain⟨za,zb,NG⟩:=w9 L o gI b5
  have el:=S.2.2.2.2.1
  have q0:=S.2.2.2.2.2.2.2
  refine⟨some ⟨m.b,0⟩,az el rfl,JV q0 b5 λq aQ _=>⟨_,aQ,JV q0 b5 λdL _ aY=>⟨_,aY,?_⟩⟩⟩
  refine(tJ S.1 za zb (by rw[List.length_append];omega)).mono ?_
  rintro _ g1 ⟨ds,rfl,oi,v1⟩
  have fm:=mem S oi v1
  have aav:=v1.get tM λhm=>xK (.inl hm)
  have JX:¬iF ds is aN:=λbO=>bO.elim (v1.out (by rw[tM];simp) λhm=>xK (.inl hm)) λa_=>xK (.inr a_)
  rw[ND i _ b5 (NF i)]
  refine⟨_,rfl,bM λbJ g2 f4 b1 aaw=>?_⟩
  obtain⟨oH,aax,aay⟩:=fresh fm f4
  have n43:bJ≠aN:=λe=>by rw[e,aav] at f4;cases f4
  have fy:=bD fm aaw
  refine fB (n:=12) fy.2.1 oH b1 rfl λg3 kd b0 c7=>⟨Int.NonNeg.mk _,Int.NonNeg.mk _,_,fb b0 (i:=0) (by decide),?_⟩
  have kf:=loc fy aax aay kd c7
  have ue:=(c7 aN (Ne.symm n43)).trans (aaw.get aav)
  have fin:∀(g5:ak) (cc:cv) (oT:c0) (zN:Bool),gl (fz i) (a7++jt f (gM P.k P.s P.t f av) i++[⟨((f+(spot P av i).1:Nat):Int),(spot P av i).2,false⟩]) ds eS is ids g5->g5 bJ=some (.cells (af.cells (.ws 12 cc)).toArray 56 (0,0))->g5 aN=some (.cells (af.cells (.ws 8 oT)).toArray 100 (0,0))->cc=strip bi (eZ P av ef i)->(oT,zN)=hU bi (eZ P av ef) (i+1) ->
   ∃c7:Option aD,br g5 ba (0+0)=some (a1 c7)/\∃eG,br g5 ba (0+1)=some (U eG)/\∃ck:cv,bU g5 bJ 0 ck/\ao 126 [a1 c7,U (al (eG+2)),U i,ea ck] g5 λv6 dI=>v6= .tuple #[]/\∃bh,bh<P.m-i/\((⟨ba,0⟩:aD)=⟨ba,0⟩/\k=k/\bi=bi/\at_=at_/\(av:Int)=av/\(to:Int)=to/\(⟨ae,0⟩:aD)=⟨ae,0⟩/\(⟨ay,0⟩:aD)=⟨ay,0⟩/\sp=sp/\((2 ^ P.E:Nat):Int)=((2 ^ P.E:Nat):Int)/\(⟨aN,0⟩:aD)=⟨aN,0⟩/\∃(dw:Nat) (aW:ar),al ((i:Int)+1)=dw/\dw<=P.m/\bh=P.m-dw/\zN=(hU bi (eZ P av ef) dw).2/\gl (fz dw) (a7++jt f (gM P.k P.s P.t f av) dw) aW eS is ids dI/\dI aN=some (.cells (af.cells (.ws 8 (hU bi (eZ P av ef) dw).1)).toArray 100 (0,0))/\¬iF aW is aN):=by
   intro g5 cc oT zN gR tO vM aZ aU
   have Gd:=gR.2.2.2.2.1
   refine⟨some ⟨m.b,0⟩,az Gd rfl,_,az Gd rfl,_,dv tO,?_⟩
   rw[iA]
   refine(vN gR.1 md (show i<m.cf (f+2) by omega) _ (by simp only[List.length_append,List.length_singleton];omega)).mono ?_
   rintro _ g6 ⟨u2,rfl,nc,v6⟩
   rw[aZ,show fA (fz i) (f+2,i) (strip bi (eZ P av ef i))=fz (i+1) from Gc _ _ i] at nc
   have kW:=mem gR nc v6
   refine⟨rfl,P.m-(i+1),by omega,rfl,rfl,rfl,rfl,rfl,rfl,rfl,rfl,rfl,rfl,rfl,i+1,u2,bf (by omega) (by omega),by omega,rfl,by rw[<-aU],?_,by rw[<-aU];exact v6.get vM λhm=>JX (.inl hm),λbO=>bO.elim (v6.out (by rw[vM];simp) λhm=>JX (.inl hm)) λa_=>JX (.inr a_)⟩
   have gd:(gM P.k P.s P.t f av).getD i ⟨0,0⟩=kZ P f av i:=by rw[rN o];simp[List.getD,b5]
   rw[EW,if_pos (by rw[rN o];simpa using b5),gd,show ∀(a b:List de) (x y:de),a++(b++([x]++[y]))=a++b++[x]++[y] by simp,rO]
   exact kW
  have lf:dU (eZ P av ef i)=decide ((eZ P av ef i)[0]=1):=vf _
  refine cd (λvg=>?_) λvg=>?_
  .have dh:dU (eZ P av ef i)=true:=by rw[lf];exact decide_eq_true vg
   refine⟨Int.NonNeg.mk _,Int.NonNeg.mk _,_,fb b0 (i:=1) (by decide),?_⟩
   by_cases CF:(eZ P av ef i)[1]=bi
   .refine dg (decide_eq_true CF) ⟨_,dv b0,(arN _).to λg4 bh=>⟨_,rfl,?_⟩⟩
    have hD:=bD kf bh
    refine fB (n:=8) hD.2.1 f50 (bh.get ue) (by simp[af.cells]) λg5 qP tO cm=>?_
    have gR:=loc hD JX E0 qP cm
    rw[<-BL]
    refine fB (n:=12) qP oH ((cm bJ n43).trans (bh.get b0)) (by simp[af.cells]) λg6 qM dE dZ=>fin g6 e6 _ true (loc gR aax aay qM dZ) dE ((dZ aN (Ne.symm n43)).trans tO) ?_ ?_
    .unfold strip;rw[if_pos ⟨dh,CF⟩]
    .rw[hU,if_pos ⟨dh,CF⟩]
   .exact bS (decide_eq_false CF) (fin g3 _ _ _ kf b0 ue (by unfold strip;rw[if_neg λh=>CF h.2]) (by rw[hU,if_neg λh=>CF h.2]))
  .have dh:¬dU (eZ P av ef i)=true:=by rw[lf];simpa using vg
   exact fin g3 _ _ _ kf b0 ue (by unfold strip;rw[if_neg λh=>dh h.1]) (by rw[hU,if_neg λh=>dh h.1])
 have hi:i=P.m:=by omega
 subst hi
 clear dx
 obtain⟨old,hold⟩:∃x,x=hU bi (eZ P av ef) P.m:=⟨_,rfl⟩
 have arO:jH P bi av ef=old:=hold.symm
 rw[arO]
 rw[<-hold] at tM ⊢
 refine⟨_,dv tM,bM λbZ g1 Pt tO Pu=>?_⟩
 obtain⟨tm,zh,xa⟩:=fresh S Pt
 have n53:bZ≠aN:=λe=>by rw[e,tM] at Pt;cases Pt
 have fm:=bD S Pu
 refine fB (n:=8) fm.2.1 tm tO rfl λg2 eY iH cb=>?_
 have fy:=loc fm zh xa eY cb
 have Pv:=(cb aN (Ne.symm n53)).trans (Pu.get tM)
 clear S fm eY tM tO Pu cb
 generalize aaz:a7++jt f (gM P.k P.s P.t f av) P.m=oB at fy
 have azu:oB.length<=a7.length+2*P.m:=by rw[<-aaz,List.length_append];omega
 let wY:c0:=match op with| .look=>old.1| .put bC=>bC| .part a x y=>(old.1.setIfInBounds a x).setIfInBounds (a+1) y| .drop=>old.1
 have Pw:∀ {bo:ak},(∀x,X x->bo x=aR x)->bo ae=some (.cells (af.cells (.ws 8 d)).toArray 100 (0,0)):=λai=>(ai ae (.inl rfl)).trans (((aC.trans aI).trans sW).get aF)
 refine⟨λez n27 eg n28 n29 n30 fK gN bG n31 hC t2 ft g=>ez=⟨ba,0⟩/\k=n27/\bi=eg/\at_=n28/\n29=av/\n30=to/\fK=⟨ae,0⟩/\gN=⟨ay,0⟩/\sp=bG/\n31=((2 ^ P.E:Nat):Int)/\hC=⟨aN,0⟩/\old.2=t2/\ft=⟨bZ,0⟩/\gl (fz P.m) oB ih eS is ids g/\g aN=some (.cells (af.cells (.ws 8 old.1)).toArray 100 (0,0))/\g bZ=some (.cells (af.cells (.ws 8 (if k=1 then d else old.1))).toArray 100 (0,0)),?_,?_⟩
 .refine cd (λc=>?_) λc=>⟨rfl,rfl,rfl,rfl,rfl,rfl,rfl,rfl,rfl,rfl,rfl,rfl,rfl,fy,Pv,by rw[if_neg c];exact iH⟩
  refine⟨_,dv (Pw fy.2.2.2.2.2.2.2),fB (n:=8) fy.2.1 tm iH (by simp[af.cells]) λg3 kd b0 c7=>⟨rfl,rfl,rfl,rfl,rfl,rfl,rfl,rfl,rfl,rfl,rfl,rfl,rfl,loc fy zh xa kd c7,(c7 aN (Ne.symm n53)).trans Pv,by rw[if_pos c];exact b0⟩⟩
 clear fy Pv iH
 rintro ez n27 eg n28 n29 n30 fK gN bG n31 hC t2 ft g3 ⟨rfl,rfl,rfl,rfl,rfl,rfl,rfl,rfl,rfl,rfl,rfl,rfl,rfl,kf,ue,iH⟩
 refine⟨λhS n32 fq n33 n34 ik bX n35 lM t3 kL g=>hS=⟨ba,0⟩/\k=n32/\bi=fq/\n33=av/\n34=to/\ik=⟨ay,0⟩/\sp=bX/\n35=((2 ^ P.E:Nat):Int)/\lM=⟨aN,0⟩/\old.2=t3/\kL=⟨bZ,0⟩/\gl (fz P.m) oB ih eS is ids g/\g aN=some (.cells (af.cells (.ws 8 old.1)).toArray 100 (0,0))/\g bZ=some (.cells (af.cells (.ws 8 wY)).toArray 100 (0,0)),?_,?_⟩
 .refine cd (λc=>?_) λc=>⟨rfl,rfl,rfl,rfl,rfl,rfl,rfl,rfl,rfl,rfl,rfl,kf,ue,?_⟩
  .cases op with
   | look=>exact absurd (fY.symm.trans c) (by decide)
   | put bC=>exact absurd (fY.1.symm.trans c) (by decide)
   | drop=>exact absurd (fY.symm.trans c) (by decide)
   | part a x y =>
    obtain⟨_,bO,ajV,ai,aB⟩:=fY
    subst bO
    rw[if_neg (by omega)] at iH
    refine⟨Int.NonNeg.mk _,Int.NonNeg.mk _,_,fb (Pw kf.2.2.2.2.2.2.2) (i:=0) (by decide),by omega,by omega,?_⟩
    rw[show 0+Int.toNat (a:Int)*1=a by omega]
    refine mU (n:=8) (i:=a) kf.2.1 tm iH (by omega) λg4 qL b1 dr=>?_
    have hD:=loc kf zh xa qL dr
    rw[show al ((a:Int)+1)=((a+1:Nat):Int) by rw[bf (by omega) (by omega)];omega,show 0+Int.toNat ((a+1:Nat):Int)*1=a+1 by omega]
    refine⟨Int.NonNeg.mk _,Int.NonNeg.mk _,_,fb (Pw hD.2.2.2.2.2.2.2) (i:=1) (by decide),by omega,by omega,mU (n:=8) (i:=a+1) qL tm b1 (by omega) λg6 qM dE dZ=>⟨rfl,rfl,rfl,rfl,rfl,rfl,rfl,rfl,rfl,rfl,rfl,loc hD zh xa qM dZ,(dZ aN (Ne.symm n53)).trans ((dr aN (Ne.symm n53)).trans ue),?_⟩⟩
    rw[dE]
    have:((old.1.set a d[0]).set (a+1) d[1])=(old.1.setIfInBounds a x).setIfInBounds (a+1) y:=by
     rw[ai,aB]
     apply Vector.ext;intro j aV
     simp[Vector.getElem_set,Vector.getElem_setIfInBounds]
    rw[this]
  .cases op with
   | look=>rw[if_neg (by have:k=0:=fY;omega)] at iH;exact iH
   | put bC=>rw[if_pos fY.1,fY.2.symm] at iH;exact iH
   | drop=>rw[if_neg (by have:k=3:=fY;omega)] at iH;exact iH
   | part a x y=>exact absurd fY.1 c
 clear kf ue iH
 rintro hS n32 fq n33 n34 ik bX n35 lM t3 kL g4 ⟨rfl,rfl,rfl,rfl,rfl,rfl,rfl,rfl,rfl,rfl,rfl,hD,zO,iH⟩
 refine bM λdC g5 f6 dE ch=>?_
 obtain⟨yM,arP,arQ⟩:=fresh hD f6
 have n63:dC≠aN:=λe=>by rw[e,zO] at f6;cases f6
 have gR:=bD hD ch
 have vM:=ch.get zO
 have aaA:=ch.get iH
 have n65:dC≠bZ:=λe=>by rw[e,iH] at f6;cases f6
 clear hD zO iH ch
 obtain⟨nd,tt⟩:∃c,c=ze bi to (op.now old.1 old.2):=⟨_,rfl⟩
 refine⟨λk1 n36 f_ n37 my c5 n38 pt t4 oR g=>k1=⟨ba,0⟩/\k=n36/\bi=f_/\n37=av/\my=⟨ay,0⟩/\sp=c5/\n38=((2 ^ P.E:Nat):Int)/\pt=⟨aN,0⟩/\old.2=t4/\oR=⟨dC,0⟩/\gl (fz P.m) oB ih eS is ids g/\g aN=some (.cells (af.cells (.ws 8 old.1)).toArray 100 (0,0))/\g dC=some (.cells (af.cells (.ws 12 nd)).toArray 56 (0,0)),?_,?_⟩
 .have no:op.now old.1 old.2=none->g5 dC=some (.cells (af.cells (.ws 12 nd)).toArray 56 (0,0)):=λh=>by rw[tt,h];exact dE
  have bl:op.now old.1 old.2=some wY->∃qX:c0,bU g5 bZ 0 qX/\ao 143 [ab bi,U to,ea qX] g5 λfr gY=>∃nx:cv,fr=ea nx/\aX gY ⟨dC,0⟩ (af.cells (.ws 12 nx)) λnD=>((⟨ba,0⟩:aD)=⟨ba,0⟩/\k=k/\bi=bi/\(av:Int)=av/\(⟨ay,0⟩:aD)=⟨ay,0⟩/\sp=sp/\((2 ^ P.E:Nat):Int)=((2 ^ P.E:Nat):Int)/\(⟨aN,0⟩:aD)=⟨aN,0⟩/\old.2=old.2/\(⟨dC,0⟩:aD)=⟨dC,0⟩/\gl (fz P.m) oB ih eS is ids nD/\nD aN=some (.cells (af.cells (.ws 8 old.1)).toArray 100 (0,0))/\nD dC=some (.cells (af.cells (.ws 12 nd)).toArray 56 (0,0))):=λh=>by
   refine⟨_,dv aaA,(arR bi (show to<2 ^ 63 by omega) wY).to λg6 ch=>⟨_,rfl,?_⟩⟩
   have kW:=bD gR ch
   refine fB (n:=12) kW.2.1 yM (ch.get dE) (by simp[af.cells]) λg7 l7 fo eK=>⟨rfl,rfl,rfl,rfl,rfl,rfl,rfl,rfl,rfl,rfl,loc kW arP arQ l7 eK,(eK aN (Ne.symm n63)).trans (ch.get vM),?_⟩
   rw[fo,tt,h];rfl
  have JY:op.now old.1 old.2=none->((⟨ba,0⟩:aD)=⟨ba,0⟩/\k=k/\bi=bi/\(av:Int)=av/\(⟨ay,0⟩:aD)=⟨ay,0⟩/\sp=sp/\((2 ^ P.E:Nat):Int)=((2 ^ P.E:Nat):Int)/\(⟨aN,0⟩:aD)=⟨aN,0⟩/\old.2=old.2/\(⟨dC,0⟩:aD)=⟨dC,0⟩/\gl (fz P.m) oB ih eS is ids g5/\g5 aN=some (.cells (af.cells (.ws 8 old.1)).toArray 100 (0,0))/\g5 dC=some (.cells (af.cells (.ws 12 nd)).toArray 56 (0,0))):=λh=>⟨rfl,rfl,rfl,rfl,rfl,rfl,rfl,rfl,rfl,rfl,gR,vM,no h⟩
  cases op with
  | look =>
   have mi:k=0:=fY
   refine bS (decide_eq_false (by omega)) (bS (decide_eq_false (show ¬k=2 by omega)) (dg (decide_eq_true mi) ?_))
   cases mW:old.2 with
   | true=>rw[mW] at bl JY;exact dg rfl (bl rfl)
   | false=>rw[mW] at bl JY;exact bS rfl (JY rfl)
  | put bC=>exact dg (decide_eq_true fY.1) (bl rfl)
  | part a x y=>exact bS (decide_eq_false (by have:=fY.1;omega)) (dg (decide_eq_true fY.1) (bl rfl))
  | drop =>
   have xL:k=3:=fY
   exact bS (decide_eq_false (by omega)) (bS (decide_eq_false (show ¬k=2 by omega)) (bS (decide_eq_false (by omega)) (JY rfl)))
 clear gR vM aaA dE f6
 rintro k1 n36 f_ n37 my c5 n38 pt t4 oR g6 ⟨rfl,rfl,rfl,rfl,rfl,rfl,rfl,rfl,rfl,rfl,kW,Px,oI⟩
 have JZ:¬iF ih is aN:=xK
 let c4:Nat->dF:=λi=>en R (f+2) λp=>if p<i then ku P av bi ef nd p else R (f+2) p
 have lZ:fz P.m=c4 P.m:=by
  show en R (f+2) _=en R (f+2) _
  congr 1;funext p
  by_cases c:p<P.m
  .rw[if_pos c,if_pos c];unfold ku;rw[if_pos c]
  .rw[if_neg c,if_neg c]
 have IM:∀i,fA (c4 i) (f+2,i) (ku P av bi ef nd i)=c4 (i+1):=λi=>Gc _ _ i
 have aaB:∀i,P.m<=i->jt f (gM P.k P.s P.t f av) (i+1)=jt f (gM P.k P.s P.t f av) i++[⟨((f+2:Nat):Int),i,true⟩]:=λi hi=>by
  rw[EW,if_neg (by rw[rN o];simp;omega),List.nil_append,rO]
 have Ge:=kW.2.2.2.2.1
 refine⟨some ⟨m.b,0⟩,az Ge rfl,_,az Ge rfl,_,dv oI,?_⟩
 rw[iA,show(sp.len:Int)=((P.m:Nat):Int) by omega]
 refine(vN kW.1 md (show P.m<m.cf (f+2) by omega) _ (by omega)).mono ?_
 rintro _ g7 ⟨qx,rfl,qN,ed⟩
 rw[lZ,show nd=ku P av bi ef nd P.m by unfold ku;rw[if_neg (by omega),if_pos rfl],IM] at qN
 have vO:=mem kW qN ed
 rw[<-aaz,List.append_assoc,<-aaB _ (Nat.le_refl _)] at vO
 have aaC:=ed.get Px λhm=>JZ (.inl hm)
 have aaD:¬iF qx is aN:=λbO=>bO.elim (ed.out (by rw[Px];simp) λhm=>JZ (.inl hm)) λa_=>JZ (.inr a_)
 refine⟨rfl,λkM n40 fV n41 mX cl n42 nT t5 n43 g bP=>kM=⟨ba,0⟩/\k=n40/\bi=fV/\n41=av/\mX=⟨ay,0⟩/\sp=cl/\n42=((2 ^ P.E:Nat):Int)/\nT=⟨aN,0⟩/\old.2=t5/\∃(i:Nat) (aW:ar),n43=i/\P.m<i/\i<=2 ^ P.E/\bP=2 ^ P.E-i/\gl (c4 i) (a7++jt f (gM P.k P.s P.t f av) i) aW eS is ids g/\g aN=some (.cells (af.cells (.ws 8 old.1)).toArray 100 (0,0))/\¬iF aW is aN,
  ⟨2 ^ P.E-(P.m+1),rfl,rfl,rfl,rfl,rfl,rfl,rfl,rfl,rfl,P.m+1,qx,bf (by omega) (by omega),by omega,by omega,rfl,vO,aaC,aaD⟩,?_⟩
 clear kW vO qN ed Px aaC JZ aaD xK oI Ge
 rintro kM n40 fV n41 mX cl n42 nT t5 n43 g8 bP ⟨rfl,rfl,rfl,rfl,rfl,rfl,rfl,rfl,rfl,i,pZ,rfl,n6,hi,rfl,lk,vP,xM⟩
 have zc:=BH i
 refine cd (λca=>?_) λdx=>?_
 .have b5:i<2 ^ P.E:=by omega
  have zP:=lk.2.2.2.2.1
  refine⟨some ⟨m.b,0⟩,az zP rfl,_,az zP rfl,?_⟩
  rw[iA]
  refine(vN lk.1 md (show i<m.cf (f+2) by omega) e6 (by rw[List.length_append];omega)).mono ?_
  rintro _ g9 ⟨Bo,rfl,oe,v9⟩
  rw[show e6=ku P av bi ef nd i by unfold ku;rw[if_neg (by omega),if_neg (by omega)],IM] at oe
  have wV:=mem lk oe v9
  rw[List.append_assoc,<-aaB _ (by omega)] at wV
  exact⟨rfl,2 ^ P.E-(i+1),by omega,rfl,rfl,rfl,rfl,rfl,rfl,rfl,rfl,rfl,i+1,Bo,bf (by omega) (by omega),by omega,by omega,rfl,wV,v9.get vP λhm=>xM (.inl hm),λbO=>bO.elim (v9.out (by rw[vP];simp) λhm=>xM (.inl hm)) λa_=>xM (.inr a_)⟩
 have hi:i=2 ^ P.E:=by omega
 subst hi
 clear dx n6
 refine⟨λl8 n45 vJ eb n46 sU t6 g=>l8=⟨ba,0⟩/\n45=av/\vJ=⟨ay,0⟩/\sp=eb/\n46=((2 ^ P.E:Nat):Int)/\sU=⟨aN,0⟩/\old.2=t6/\∃eC,(∀q,eC.q=some q->(∃p,is.q=some p/\q.b=p.b)∨h q.b=none)/\gl (c4 (2 ^ P.E)) (a7++jt f (gM P.k P.s P.t f av) (2 ^ P.E)) pZ eS eC (meets op bi ids) g/\g aN=some (.cells (af.cells (.ws 8 old.1)).toArray 100 (0,0))/\¬iF pZ eC aN,?_,?_⟩
 .have stay:meets op bi ids=ids->((⟨ba,0⟩:aD)=⟨ba,0⟩/\(av:Int)=av/\(⟨ay,0⟩:aD)=⟨ay,0⟩/\sp=sp/\((2 ^ P.E:Nat):Int)=((2 ^ P.E:Nat):Int)/\(⟨aN,0⟩:aD)=⟨aN,0⟩/\old.2=old.2/\∃eC,(∀q,eC.q=some q->(∃p,is.q=some p/\q.b=p.b)∨h q.b=none)/\gl (c4 (2 ^ P.E)) (a7++jt f (gM P.k P.s P.t f av) (2 ^ P.E)) pZ eS eC (meets op bi ids) g8/\g8 aN=some (.cells (af.cells (.ws 8 old.1)).toArray 100 (0,0))/\¬iF pZ eC aN):=λh=>by
   rw[h];exact⟨rfl,rfl,rfl,rfl,rfl,rfl,rfl,is,λq aj=> .inl ⟨q,aj,rfl⟩,lk,vP,xM⟩
  have J0:meets op bi ids=(if bi∈ids then ids else ids++[bi])->ao 144 [bg ⟨ba,0⟩,ab bi] g8 λiK xu=>iK= .tuple #[]/\((⟨ba,0⟩:aD)=⟨ba,0⟩/\(av:Int)=av/\(⟨ay,0⟩:aD)=⟨ay,0⟩/\sp=sp/\((2 ^ P.E:Nat):Int)=((2 ^ P.E:Nat):Int)/\(⟨aN,0⟩:aD)=⟨aN,0⟩/\old.2=old.2/\∃eC,(∀q,eC.q=some q->(∃p,is.q=some p/\q.b=p.b)∨h q.b=none)/\gl (c4 (2 ^ P.E)) (a7++jt f (gM P.k P.s P.t f av) (2 ^ P.E)) pZ eS eC (meets op bi ids) xu/\xu aN=some (.cells (af.cells (.ws 8 old.1)).toArray 100 (0,0))/\¬iF pZ eC aN):=λh=>by
   obtain⟨p1,tK,aaE,aaF,zP,arS,Py,CG⟩:=lk
   refine(arT zP arS (λq aj=>(aaF q aj).1) JU bi).mono ?_
   rintro _ g9 ⟨eC,rfl,J1,xN,vQ,v9⟩
   have Pz:∀x,g8 x≠none->¬rU ba is x->¬rU ba eC x:=λx ai aH=>v9.out ai aH
   have aaG:∀x,bF m pZ x->¬rU ba is x:=λx ai a_=>a_.elim (λe=>aaE (e▸ai)) fun⟨q,aj,e⟩=>(aaF q aj).2 (e▸ai)
   rw[h]
   refine⟨rfl,rfl,rfl,rfl,rfl,rfl,rfl,rfl,eC,λq aj=>?_,⟨p1.move λx ai=>v9.2.1 x (p1.dn ai) (aaG x ai),tK.trans (A1 v9),aaE,λq aj=>⟨vQ q aj,λhm=>Pz _ (p1.dn hm) (aaG _ hm) (.inr ⟨q,aj,rfl⟩)⟩,J1,xN,λx ai bO=>?_,λx ai=>?_⟩,v9.get vP λa_=>xM (.inr a_),λbO=>bO.elim (λhm=>xM (.inl hm)) (Pz aN (by rw[vP];simp) λa_=>xM (.inr a_))⟩
   .rcases v9.1 q.b (.inr ⟨q,aj,rfl⟩) with (au|⟨p,aS,au⟩)|au
    .exact absurd au (vQ q aj)
    .exact .inl ⟨p,aS,au⟩
    .exact .inr (tK.2.2 _ au)
   .have zQ:g8 x≠none:=by rw[CG x ai];exact(rP x ai).2
    exact bO.elim (λhm=>Py x ai (.inl hm)) (Pz x zQ λa_=>Py x ai (.inr a_))
   .rw[v9.2.1 x (by rw[CG x ai];exact(rP x ai).2) λa_=>Py x ai (.inr a_),CG x ai]
  cases op with
  | look =>
   have mi:k=0:=fY
   exact bS (decide_eq_false (by omega)) (bS (decide_eq_false (show ¬k=2 by omega)) (stay rfl))
  | put bC=>exact dg (decide_eq_true fY.1) (J0 rfl)
  | part a x y=>exact bS (decide_eq_false (by have:=fY.1;omega)) (dg (decide_eq_true fY.1) (J0 rfl))
  | drop =>
   have xL:k=3:=fY
   exact bS (decide_eq_false (by omega)) (bS (decide_eq_false (show ¬k=2 by omega)) (stay rfl))
 clear lk vP xM
 rintro l8 n45 vJ eb n46 sU t6 g9 ⟨rfl,rfl,rfl,rfl,rfl,rfl,rfl,eC,arU,wV,PA,PB⟩
 obtain⟨oe,CH,aaH,vQ,J1,xN,J2,J3⟩:=wV
 have fW:ib P op bi av to ef=ku P av bi ef nd:=by rw[tt,hold];rfl
 have E3:cV T m (en R (f+2) (ib P op bi av to ef)) (a7++jt f (gM P.k P.s P.t f av) (2 ^ P.E)) pZ g9:=by rw[fW];exact cV.BM (f:=ku P av bi ef nd) (g:=R (f+2)) oe (by omega)
 refine(arV o E3 J1 aaH (by omega) md nb gI (by rw[sK];exact yN o mf gI BG ho) (by rw[List.length_append];omega)).mono ?_
 rintro _ g3 ⟨gQ,rfl,gj,pe,aL,v3⟩
 rw[zf,sK] at gj
 rw[sK] at pe
 let ju:=ke P av (ib P op bi av to ef)
 let W:Nat->dF:=λk=>lp f R (p2 P av ju (tL P ju ef) k)
 have gj:cV T m (W 0) _ gQ g3:=gj.congr λr aP j aV=>by
  show(if f<=r/\r<f+3 then (if r-f=2/\j<2 ^ P.E then ju j else ef (r-f) j) else R r j)=if r=f+2 then ju j else R r j
  by_cases aQ:r=f+2
  .subst aQ
   rw[if_pos (by omega),if_pos rfl,if_pos (by omega)]
  .rw[if_neg aQ]
   by_cases aY:f<=r/\r<f+3
   .rw[if_pos aY,if_neg (by omega),<-EY]
    show R (f+(r-f)) j=_
    rw[show f+(r-f)=r by omega]
   .rw[if_neg aY]
 have NR:∀k i,i<2 ^ P.E->W k (f+2) i=ju i:=λk i hi=>by
  show(if f<=f+2/\f+2<f+3 then p2 P av ju (tL P ju ef) k (f+2-f) i else R (f+2) i)=_
  rw[if_pos (by omega),show f+2-f=2 by omega,IT k λp aS e=>?_]
  .show(if 2=2/\i<2 ^ P.E then ju i else ef 2 i)=_
   rw[if_pos ⟨rfl,hi⟩]
  .unfold spot at e;split at e<;>simp at e
 have NS:∀k,k<P.m->fA (W k) (f+(spot P av k).1,(spot P av k).2) ((ju k).set 11 0)=W (k+1):=λk ag=>by
  have s2:=(w9 L o gI ag).2.2
  funext r j
  show(if r=f+(spot P av k).1/\j=(spot P av k).2 then _ else if f<=r/\r<f+3 then p2 P av ju (tL P ju ef) k (r-f) j else R r j)=if f<=r/\r<f+3 then (if r-f=(spot P av k).1/\j=(spot P av k).2 then (ju k).set 11 0 else p2 P av ju (tL P ju ef) k (r-f) j) else R r j
  by_cases aQ:f<=r/\r<f+3
  .rw[if_pos aQ,if_pos aQ]
   by_cases aY:r=f+(spot P av k).1/\j=(spot P av k).2
   .rw[if_pos aY,if_pos ⟨by omega,aY.2⟩]
   .rw[if_neg aY,if_neg λh=>aY ⟨by omega,h.2⟩]
  .rw[if_neg aQ,if_neg aQ,if_neg (by omega)]
 have azv:=BH (2 ^ P.E)
 generalize aaI:a7++jt f (gM P.k P.s P.t f av) (2 ^ P.E)++(iO f P.E++iO f P.E)=nX at gj
 have ajF:nX.length<1000010000000:=by
  rw[<-aaI];simp only[List.length_append];omega
 have NU:(eS||lH P av (ib P op bi av to ef))=(eS||sI P op bi av to ef):=rfl
 rw[NU] at pe
 generalize (eS||sI P op bi av to ef)=zg at pe ⊢
 have J4:∀x,g9 x≠none->¬iF pZ eC x->g3 x=g9 x/\¬bF m gQ x:=λx ai aH =>
  ⟨v3.2.1 x ai λh=>aH (h.imp id .inl),λhm=>v3.out ai (λh=>aH (h.imp id .inl)) (.inl hm)⟩
 have PC:∀q,eC.q=some q->g3 q.b=g9 q.b/\¬bF m gQ q.b:=λq aj =>
  ⟨v3.2.1 _ (xN.bl aj).2 λh=>h.elim (vQ q aj).2 (vQ q aj).1,λhm=>v3.out (xN.bl aj).2 (λh=>h.elim (vQ q aj).2 (vQ q aj).1) (.inl hm)⟩
 have kf:cV T m (W 0) nX gQ g3/\bT (iF es is) h (iF gQ eC) g3/\¬bF m gQ ba/\(∀q,eC.q=some q->q.b≠ba/\¬bF m gQ q.b)/\g3 ba=some (.cells (qa P m.b f zg eC) iP (0,0))/\cW ab lE g3 eC (meets op bi ids)/\(∀x,X x->¬iF gQ eC x)/\∀x,X x->g3 x=aR x:=by
  refine⟨gj,?_,aL,λq aj=>⟨(vQ q aj).1,(PC q aj).2⟩,pe,xN.move λq aj=>(PC q aj).1,λx ai bO=>?_,λx ai=>((J4 x (by rw[J3 x ai];exact(rP x ai).2) (J2 x ai)).1).trans (J3 x ai)⟩
  .exact((CH.to (C:=λx=>(bF m pZ x∨x=ba)∨∃q,eC.q=some q/\x=q.b) λx ai=> .inl (ai.elim (λh=>h.elim .inl λh=> .inr (.inl h)) λh=> .inr (.inr h))).trans (mK v3)).to λx ai=> .inl (ai.elim (λh=> .inl (.inl h)) λh=>h.elim (λh=> .inl (.inr h)) .inr)
  .exact bO.elim (J4 x (by rw[J3 x ai];exact(rP x ai).2) (J2 x ai)).2 λa_=>J2 x ai (.inr a_)
 have PD:=J4 aN (by rw[PA];simp) PB
 have ue:=PD.1.trans PA
 have aaJ:¬iF gQ eC aN:=λbO=>bO.elim PD.2 λa_=>PB (.inr a_)
 clear E3 oe CH aaH vQ J1 xN J2 J3 gj pe aL v3 J4 PC PA PB PD
 have NV:∀n,(qI f (gM P.k P.s P.t f av) n).length=2*n:=λn=>Nv _ _ _
 have azw:∀ {dm b_ aW g c4 eL ds g2},(cV T m dm b_ aW g/\bT (iF es is) h (iF aW eC) g/\¬bF m aW ba/\(∀q,eC.q=some q->q.b≠ba/\¬bF m aW q.b)/\g ba=some (.cells (qa P m.b f zg eC) iP (0,0))/\cW ab lE g eC (meets op bi ids)/\(∀x,X x->¬iF aW eC x)/\∀x,X x->g x=aR x)->cV T m c4 eL ds g2->bT (bF m aW) g (bF m ds) g2->gl c4 eL ds zg eC (meets op bi ids) g2:=λh=>mem (jM:=zg) h
 refine⟨rfl,λow oS eF pv t7 n47 g bP=>ow=⟨ba,0⟩/\oS=⟨ay,0⟩/\sp=eF/\pv=⟨aN,0⟩/\old.2=t7/\∃(i:Nat) (aW:ar),n47=i/\i<=P.m/\bP=P.m-i/\gl (W i) (nX++qI f (gM P.k P.s P.t f av) i) aW zg eC (meets op bi ids) g/\g aN=some (.cells (af.cells (.ws 8 old.1)).toArray 100 (0,0))/\¬iF aW eC aN,
  ⟨P.m,rfl,rfl,rfl,rfl,rfl,0,gQ,rfl,by omega,rfl,by simpa [qI] using kf,ue,aaJ⟩,?_⟩
 clear kf ue aaJ
 rintro ow oS eF pv t7 n47 g4 bP ⟨rfl,rfl,rfl,rfl,rfl,i,mn,rfl,hi,rfl,hD,zO,PE⟩
 have vj:=NV i
 refine cd (λca=>?_) λdx=>?_
 .have b5:i<P.m:=by omega
  obtain⟨za,zb,NG⟩:=w9 L o gI b5
  have J5:=hD.2.2.2.2.1
  refine⟨some ⟨m.b,0⟩,az J5 rfl,_,az J5 rfl,?_⟩
  rw[iA]
  refine(tJ hD.1 md (show i<m.cf (f+2) by omega) (by simp only[List.length_append];omega)).mono ?_
  rintro _ g5 ⟨su,rfl,ij,v5⟩
  have gR:=mem hD ij v5
  have vM:=v5.get zO λhm=>PE (.inl hm)
  have PF:¬iF su eC aN:=λbO=>bO.elim (v5.out (by rw[zO];simp) λhm=>PE (.inl hm)) λa_=>PE (.inr a_)
  rw[NR i i (by omega)]
  refine⟨_,rfl,bM λeo g6 f7 fo c9=>?_⟩
  obtain⟨Bg,aaK,aaL⟩:=fresh gR f7
  have FP:eo≠aN:=λe=>by rw[e,vM] at f7;cases f7
  have kW:=bD gR c9
  refine fB (n:=12) kW.2.1 Bg fo rfl λg7 l7 pL eK=>⟨Int.NonNeg.mk _,Int.NonNeg.mk _,?_⟩
  have vO:=loc kW aaK aaL l7 eK
  refine mU (i:=11) l7 Bg pL (by decide) λg8 tK A9 eT=>?_
  have lk:=loc vO aaK aaL tK eT
  have vP:=(eT aN (Ne.symm FP)).trans ((eK aN (Ne.symm FP)).trans (c9.get vM))
  have CG:=lk.2.2.2.2.2.2.2
  refine⟨some ⟨m.b,0⟩,az lk.2.2.2.2.1 rfl,JV CG b5 λq aQ _=>⟨_,aQ,JV CG b5 λdL _ aY=>⟨_,aY,_,dv A9,?_⟩⟩⟩
  refine(vN lk.1 za zb _ (by simp only[List.length_append,List.length_singleton];omega)).mono ?_
  rintro _ g9 ⟨Bo,rfl,oe,v9⟩
  rw[NS i b5] at oe
  have wV:=mem lk oe v9
  refine⟨rfl,P.m-(i+1),by omega,rfl,rfl,rfl,rfl,rfl,i+1,Bo,bf (by omega) (by omega),by omega,rfl,?_,v9.get vP λhm=>PF (.inl hm),λbO=>bO.elim (v9.out (by rw[vP];simp) λhm=>PF (.inl hm)) λa_=>PF (.inr a_)⟩
  have gd:(gM P.k P.s P.t f av).getD i ⟨0,0⟩=kZ P f av i:=by rw[rN o];simp[List.getD,b5]
  rw[Nu,gd,show ∀(a b:List de) (x y:de),a++(b++[x,y])=a++b++[x]++[y] by simp,rO]
  exact wV
 .have hi:i=P.m:=by omega
  subst hi
  obtain⟨sJ,qL,arW,J6,J5,Fe,arX,arY⟩:=hD
  have hG:g4 ay=_:=(arY ay (.inr (.inl rfl))).trans ((aI.trans sW).get a8)
  have PG:=arX ay (.inr (.inl rfl))
  refine⟨_,dv zO,fB (n:=8) qL (aE.free f2) hG rfl λg5 qP tO cm=>⟨_,dv tO,mn,eC,rfl,?_,(cm ba λe=>PG (.inr (.inl e.symm))).trans J5,Fe.move λq aj=>cm _ λe=>PG (.inr (.inr ⟨q,aj,e.symm⟩)),arW,J6,arU,qP⟩⟩
  have gd:nX++qI f (gM P.k P.s P.t f av) P.m=a7++ob P.k P.s P.t f av:=by
   have kt:(gM P.k P.s P.t f av).length=P.m:=by rw[rN o];simp
   unfold ob
   rw[<-L.E,kt,<-aaI];simp
  rw[<-gd]
  exact sJ.move λx ai=>cm x λe=>PG (.inl (e▸ai))
end

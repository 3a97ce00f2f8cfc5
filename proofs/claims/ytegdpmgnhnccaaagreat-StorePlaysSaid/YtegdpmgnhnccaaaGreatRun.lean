import Derived.Test.YtegdpmgnhnccaaaGreatScan
namespace Go.Proofs.Tryz
open Go Go.cQ Go.RowKit
set_option maxRecDepth 8000
def qn (p:Nat×Nat×Bool):mE:=⟨p.1,p.2.1,p.2.2⟩
theorem amJ (k j n:Nat):ma k j n=(ip k j n).map qn:=by
 unfold ma ip;rw[auf];rfl
theorem XB (n a:Nat):∀b,p2 n a b=(ts n a b).map qn
 | 0=>rfl
 | b+1=>by unfold p2 ts;rw[atD,amJ,XB n a b]
theorem XC (n:Nat):∀a,gU n a=(u5 n a).map qn
 | 0=>rfl
 | a+1=>by rw[EB];unfold u5;rw[atD,XC n a,XB]
theorem GA (K:Nat):fX K=(h9 K).map qn:=XC _ _
def dD (R:dw)(r:Nat)(f:Nat->cM):dw:=λej i=>if ej=r then f i else R ej i
def hc (k:Nat)(ab:k<12)(c:cM):Nat:=c[k].toNat
theorem yZ (R:dw)(r:Nat):dD R r (R r)=R:=by
 funext ej i;unfold dD;split
 .rename_i h;rw[h]
 .rfl
theorem WC {R:dw}{r:Nat}{key:cM->Nat}{f:Nat->cM}{p:Nat×Nat×Bool}(h:p.1≠p.2.1) :
 fs (fs (dD R r f) (r,p.1) (mf key p.2.2 (f p.1) (f p.2.1)).1) (r,p.2.1) (mf key p.2.2 (f p.1) (f p.2.1)).2=dD R r (k3 key f p):=by
 funext ej i;unfold fs dD k3;by_cases e:ej=r
 .subst e;by_cases aC:i=p.2.1
  .subst aC;simp[atf h]
  .by_cases a7:i=p.1
   .subst a7;simp[aC]
   .simp[aC,a7]
 .simp[e]
section
variable {T:TypeId} {m:jo} {R:dw} {a_:List dt} {es:an} {h:ai}
theorem ad1 (M:cN T m R a_ es h){r K k:Nat}(aK:r<m.ep)(fr:K<=10)(aH:2 ^ K<=m.cq r)(ab:k<12)(aO:a_.length<3000000000000) :
 aw 174 [bu ⟨m.b,0⟩,U r,U (2 ^ K),U k] h λv ag=>∃bb,v=U 0/\cN T m (dD R r (gQ (hc k ab) (h9 K) (R r))) (a_++uA r K) bb ag/\cn (bA m es) h (bA m bb) ag:=by
 have wE:((2 ^ K:Nat):Int)=2 ^ K:=by simp
 refine ajA _ _ _ _ ?_;unfold Vi;refine(P3 fr).to λaa aE=>⟨_,rfl,b0 rfl ?_⟩;refine(uw (M.bE aE) aK).mono ?_;rintro _ aa ⟨rfl,rfl⟩;refine⟨_,rfl,b0 (by simp;omega) (b0 (by simp) (b0 (by simp;omega) ?_))⟩;refine(abM fr aa).mono ?_;rintro _ ad ⟨sp,rfl,op,az⟩;have oV:=Bu fr;have zu:(h9 K).length=(fX K).length:=by rw[GA,ath]
 have hlen:=op.len;have M2:=(M.bE aE).bE az;have LQ:∀q,sp.q=some q->¬bA m es q.b:=λq ah=>(M.bE aE).out (op.b_ ah).1;refine⟨_,rfl,λq1 ay aI s2 aQ bm g bI=>q1=⟨m.b,0⟩/\ay=r/\aI=k/\s2=sp/\aQ=(sp.len:Nat)/\∃i bb,bm=(i:Nat)/\i<=sp.len/\bI=sp.len-i /\
  cN T m (dD R r (gQ (hc k ab) ((h9 K).take i) (R r))) (a_++((fX K).take i).flatMap (mH r)) bb g/\cn (bA m es) h (bA m bb) g/\(∀q,sp.q=some q->¬bA m bb q.b)/\cI 3 hH aa g sp (fX K),
  ⟨sp.len,rfl,rfl,rfl,rfl,rfl,0,es,rfl,by omega,rfl,by simpa [gQ,yZ] using M2,iC (aE.trans az) _,LQ,op⟩,?_⟩
 rintro q1 ay aI s2 aQ bm g bI ⟨rfl,rfl,rfl,rfl,rfl,i,bb,rfl,hi,rfl,ga,k0,xB,gH⟩;refine b6 (λb1=>?_) λc3=>?_
 .have bN:i<(fX K).length:=by omega
  have ky:i<(h9 K).length:=by omega
  obtain⟨pi,alE⟩:=Ce K (as_ _) (h9 K)[i] (aty ky);have CV:(fX K)[i]=qn (h9 K)[i]:=by simp[GA]
  generalize aM:(h9 K)[i]=p at *;have CW:p.1<m.cq r:=by omega
  have CX:p.2.1<m.cq r:=by omega
  have Ab:(a_++((fX K).take i).flatMap (mH r)).length<=a_.length+4*102400:=by
   rw[as9,EE,List.length_take];omega
  refine gH.rd.e0 Ez bN λq ah iI=>?_;rw[CV] at iI;obtain⟨aX,aZ,cp,_⟩:=iI;rw[show(i:Int).toNat=i by omega];refine⟨_,aX,_,aZ,_,cp,bL λaj g1 f1 aC g_=>?_⟩;have gR:¬bA m bb aj:=ga.out f1;have f10:h aj=none:=k0.2.2 _ f1;refine qe (k0.more g_) f10 aC (by simp) λg2 v2 a7 cU=>?_;have amK:=(ga.bE g_).move λy aA=>cU y λe=>gR (e▸aA);have ML:cI 3 hH aa g2 s2 (fX K):=(gH.bE g_).move λq ah=>cU _ λe=>(gH.b_ ah).2 (e▸f1);refine⟨_,aF a7 rfl,_,aF a7 rfl,?_⟩;refine(uO amK aK CW (by omega)).mono ?_;rintro _ g3 ⟨hO,rfl,fS,v3⟩;have b2:=v3.get a7 gR;have pC:=v3.out (by rw[a7];simp) gR;refine⟨_,rfl,⟨aF b2 rfl,trivial⟩,?_⟩;refine(uO fS aK CX (by rw[as9,atA];omega)).mono ?_;rintro _ g4 ⟨mO,rfl,qX,v4⟩;have b5:=v4.get b2 pC;have amL:=v4.out (by rw[b2];simp) pC;have Dj:∀q,s2.q=some q->¬bA m mO q.b:=λq ah=>by
   have h0:=(ML.b_ ah).2;exact v4.out (by rw[v3.2.1 _ h0 (xB q ah)];exact h0) (v3.out h0 (xB q ah))
  have wv:cI 3 hH aa g4 s2 (fX K):=ML.move λq ah=>by
   have h0:=(ML.b_ ah).2;rw[v4.2.1 _ (by rw[v3.2.1 _ h0 (xB q ah)];exact h0) (v3.out h0 (xB q ah)),v3.2.1 _ h0 (xB q ah)]
  have Ac:=(v2.trans v3).trans v4;refine⟨_,rfl,bL λaB g5 f5 cD mM=>bL λaS g6 f6 dK wz=>?_⟩;have f50:h aB=none:=Ac.2.2 _ f5;have f60:h aS=none:=Ac.2.2 _ (mM.free f6);have cE:aB≠aj:=λe=>by rw[e,b5] at f5;cases f5
  have n31:aS≠aj:=λe=>by rw[e,mM.get b5] at f6;cases f6
  have n32:aS≠aB:=λe=>by rw[e,cD] at f6;cases f6
  have oh:¬bA m mO aB:=qX.out f5;have y0:¬bA m mO aS:=qX.out (mM.free f6);have G5:∀q,s2.q=some q->q.b≠aj/\q.b≠aB/\q.b≠aS:=λq ah=>by
   have h0:=(wv.b_ ah).2;refine⟨λe=>(gH.b_ ah).2 (e▸f1),λe=>h0 (e▸f5),λe=>h0 (e▸mM.free f6)⟩
  refine fG (n:=12) (Ac.more (mM.trans wz)) f50 (wz.get cD) rfl λg7 ft fq eU=>?_;refine fG (n:=12) ft f60 ((eU _ n32).trans dK) rfl λg8 gr gg e_=>?_;have Az:=(e_ _ (atf n32)).trans fq;have qT:g8 aj=_:=((e_ _ (atf n31)).trans (eU _ (atf cE))).trans ((mM.trans wz).get b5);have om:=((qX.bE (mM.trans wz)).move λy aA=>eU y λe=>oh (e▸aA)).move λy aA=>e_ y λe=>y0 (e▸aA);have xC:cI 3 hH aa g8 s2 (fX K):=(wv.bE (mM.trans wz)).move λq ah=>(e_ _ (G5 q ah).2.2).trans (eU _ (G5 q ah).2.1);generalize bf:gQ (hc k ab) ((h9 K).take i) (R r)=f at *;have wW:dD R r f r p.1=f p.1:=by unfold dD;rw[as8 rfl]
  have LR:dD R r f r p.2.1=f p.2.1:=by unfold dD;rw[as8 rfl]
  rw[wW] at Az;rw[LR] at gg;refine⟨by omega,by omega,(f p.2.1)[k],?_,by omega,by omega,(f p.1)[k],?_,?_⟩
  .rw[show 0+Int.toNat (k:Int)*1=k by omega];exact gi gg ab
  .rw[show 0+Int.toNat (k:Int)*1=k by omega];exact gi Az ab
  have fin:∀(t:Bool) (g9:ai),bB g8 g9->t=(bif p.2.2 then decide (hc k ab (f p.2.1)<hc k ab (f p.1)) else decide (hc k ab (f p.1)<hc k ab (f p.2.1)))->∀ {Q:ai->Prop},
   (∀bg,(∃bb,cN T m (dD R r (gQ (hc k ab) ((h9 K).take (i+1)) (R r))) (a_++((fX K).take (i+1)).flatMap (mH r)) bb bg/\cn (bA m es) h (bA m bb) bg/\(∀q,s2.q=some q->¬bA m bb q.b)/\cI 3 hH aa bg s2 (fX K))->Q bg) ->
   aw 193 [ak (mask t),ec (f p.1),ec (f p.2.1)] g9 λgr eW=>∃ff fC:cM,gr= .tuple #[ec ff,ec fC]/\a1 eW ⟨aB,0⟩ (ae.cells (.ws 12 ff)) λdr=>a1 dr ⟨aS,0⟩ (ae.cells (.ws 12 fC)) λeP=>∃cz,bR eP aj 0=some (U cz)/\∃fL:cM,bP eP aB 0 fL /\
    aw 115 [bu ⟨m.b,0⟩,U r,U cz,ec fL] eP λv9 fH=>v9= .tuple #[]/\∃cA,bR fH aj 1=some (U cA)/\∃ha:cM,bP fH aS 0 ha /\
     aw 115 [bu ⟨m.b,0⟩,U r,U cA,ec ha] fH λv10 er=>v10= .tuple #[]/\Q er:=by
   intro t g9 rr bz Q ja;refine(amM t _ _).to λAd Dk=>⟨_,_,rfl,?_⟩;have AA:=rr.trans Dk;refine fG (n:=12) (gr.more AA) f50 (AA.get Az) (by simp[ae.cells]) λalK v11 wL iF=>?_;refine fG (n:=12) v11 f60 ((iF _ n32).trans (AA.get gg)) (by simp[ae.cells]) λG6 kF m_ je=>?_;have amN:=(je _ (atf n32)).trans wL;have XD:G6 aj=_:=((je _ (atf n31)).trans (iF _ (atf cE))).trans (AA.get qT);have rV:=((om.bE AA).move λy aA=>iF y λe=>oh (e▸aA)).move λy aA=>je y λe=>y0 (e▸aA);have MM:cI 3 hH aa G6 s2 (fX K):=(xC.bE AA).move λq ah=>(je _ (G5 q ah).2.2).trans (iF _ (G5 q ah).2.1);refine⟨_,aF XD rfl,_,da amN,?_⟩;refine(wX rV aK CW _ (by simp only[as9,atA] at Ab ⊢;omega)).mono ?_;rintro _ qm ⟨asI,rfl,Fj,jA⟩;have asJ:¬bA m mO aS:=y0;have amO:=jA.get XD amL;have amP:=jA.get m_ y0;refine⟨rfl,_,aF amO rfl,_,da amP,?_⟩;refine(wX Fj aK CX _ (by simp only[as9,atA] at Ab ⊢;omega)).mono ?_;rintro _ asK ⟨amQ,rfl,Am,kJ⟩;refine⟨rfl,ja _ ⟨amQ,?_,(kF.trans jA).trans kJ,λq ah=>?_,MM.move λq ah=>?_⟩⟩
   .have aC:(h9 K).take (i+1)=(h9 K).take i++[p]:=by rw[atV,atc ky,aM];rfl
    have a7:(fX K).take (i+1)=(fX K).take i++[qn p]:=by rw[atV,atc bN,CV];rfl
    rw[aC,a7,Cc,bf,auE];have b2:gQ (hc k ab) [p] f=k3 (hc k ab) f p:=rfl;rw[b2,<-WC (R:=R) (r:=r) (key:=hc k ab) (f:=f) (p:=p) (by omega)];have b5:(mf (hc k ab) p.2.2 (f p.1) (f p.2.1))=(if t=true then f p.2.1 else f p.1,if t=true then f p.1 else f p.2.1):=by
     unfold mf;rw[<-bz];cases t<;>rfl
    rw[b5];have cD:a_++(((fX K).take i).flatMap (mH r)++[qn p].flatMap (mH r))=a_++((fX K).take i).flatMap (mH r)++[⟨r,p.1,false⟩]++[⟨r,p.2.1,false⟩]++[⟨r,p.1,true⟩]++[⟨r,p.2.1,true⟩]:=by
     simp[mH,qn]
    rw[cD];exact Am
   .have h0:=(MM.b_ ah).2;exact kJ.out (by rw[jA.2.1 _ h0 (Dj q ah)];exact h0) (jA.out h0 (Dj q ah))
   .have h0:=(MM.b_ ah).2;rw[kJ.2.1 _ (by rw[jA.2.1 _ h0 (Dj q ah)];exact h0) (jA.out h0 (Dj q ah)),jA.2.1 _ h0 (Dj q ah)]
  refine(XE _ _).to λg9 rr=>⟨_,rfl,p.2.2,aF (rr.get qT) rfl,hS (λhu=>?_) λhu=>?_⟩
  .refine⟨by omega,by omega,(f p.1)[k],?_,by omega,by omega,(f p.2.1)[k],?_,?_⟩
   .rw[show 0+Int.toNat (k:Int)*1=k by omega];exact gi (rr.get Az) ab
   .rw[show 0+Int.toNat (k:Int)*1=k by omega];exact gi (rr.get gg) ab
   refine(XE _ _).to λAd Dk=>⟨_,rfl,_,da ((rr.trans Dk).get Az),_,da ((rr.trans Dk).get gg),?_⟩;have MN:p.2.2=false:=by simpa using hu
   exact fin _ Ad (rr.trans Dk) (by rw[MN];rfl) λbg ⟨bb,ar,aN,a3,a4⟩=>⟨s2.len-(i+1),by omega,rfl,rfl,rfl,rfl,rfl,i+1,bb,bl,by omega,rfl,ar,aN,a3,a4⟩
  .have MN:p.2.2=true:=by simpa using hu
   refine⟨_,da (rr.get Az),_,da (rr.get gg),?_⟩;exact fin _ g9 rr (by rw[MN];rfl) λbg ⟨bb,ar,aN,a3,a4⟩=>⟨s2.len-(i+1),by omega,rfl,rfl,rfl,rfl,rfl,i+1,bb,bl,by omega,rfl,ar,aN,a3,a4⟩
 .have aC:i=(fX K).length:=by omega
  rw[at8 (by omega),at8 (by omega)] at ga;exact⟨bb,rfl,ga,k0⟩
end

import Derived.Test.YtegdpmgnhnccaaaGreatRefE
import Derived.Test.YtegdpmgnhnccaaaGreatRun
namespace Go.Proofs.Tryz
open Go Go.cQ Go.RowKit
set_option maxRecDepth 8000
section
variable {T:TypeId} {m:jo} {R:dw} {a_:List dt} {es:an} {h:ai}
theorem Wr (M:cN T m R a_ es h){r a:Nat}(aK:r<m.ep)(bV:a<m.cq r):aw 74 [bu ⟨m.b,0⟩,U r,U a] h λv ag=>v= .bool true/\ag=h:=by
 refine ah6 _ _ _ ?_;unfold UQ;refine eh (pS) ((s9 M aK).mono ?_);rintro _ _ ⟨rfl,rfl⟩;exact⟨_,rfl,congrArg Value.bool (pS),rfl⟩
theorem s_ (M:cN T m R a_ es h){r a:Nat}(aK:r<m.ep)(bV:a<m.cq r)(aO:a_.length<5000000000000) :
 aw 31 [bu ⟨m.b,0⟩,U r,U a] h λv ag=>∃bb,v=ec (R r a)/\cN T m R (a_++[⟨r,a,false⟩]) bb ag/\cn (bA m es) h (bA m bb) ag:=by
 refine ahc _ _ _ ?_;unfold Us;refine bL λaj aa f1 aC aE=>?_;have mU:=M.bE aE;refine(Wr mU aK bV).mono ?_;rintro _ _ ⟨rfl,rfl⟩;have gA:¬bA m es aj:=M.out f1;refine⟨true,rfl,b0 rfl ⟨_,aF mU.top rfl,?_⟩⟩;refine mU.note ⟨r,a,false⟩ aO λbb ad M2 v=>⟨_,aF M2.top rfl,?_⟩;have a7:=v.get aC gA;have J5:=v.out (by rw[aC];simp) gA;refine M2.B9 aK λq aT=>⟨_,aT,_,rfl,by omega,by show(a:Int)+1<=(m.cq r:Nat);omega,R r a,?_,?_⟩
 .show bP ad (m.kI r) (0+Int.toNat (a:Int)*12) _;rw[show 0+Int.toNat (a:Int)*12=a*12 by omega];exact M2.rd aK bV
 .exact fG (n:=12) ((iC aE (bA m es)).trans v) f1 a7 rfl λaq v3 b2 c9=>⟨_,da b2,bb,rfl,M2.move λx af=>c9 x λe=>J5 (e▸af),v3⟩
theorem tK (M:cN T m R a_ es h){r a:Nat}(aK:r<m.ep)(bV:a<m.cq r)(c:cM)(aO:a_.length<5000000000000) :
 aw 121 [bu ⟨m.b,0⟩,U r,U a,ec c] h λv ag=>∃bb,v= .tuple #[]/\cN T m (fs R (r,a) c) (a_++[⟨r,a,true⟩]) bb ag/\cn (bA m es) h (bA m bb) ag:=by
 refine aiM _ _ _ _ ?_;unfold U4;refine bL λaj aa f1 aC aE=>?_;have mU:=M.bE aE;refine(Wr mU aK bV).mono ?_;rintro _ _ ⟨rfl,rfl⟩;have gA:¬bA m es aj:=M.out f1;refine⟨true,rfl,b0 rfl ⟨_,aF mU.top rfl,?_⟩⟩;refine mU.note ⟨r,a,true⟩ aO λbb ad M2 v=>⟨_,aF M2.top rfl,?_⟩;have a7:=v.get aC gA;refine M2.B9 aK λq aT=>⟨_,aT,_,da a7,_,rfl,by omega,by show(a:Int)+1<=(m.cq r:Nat);omega,?_⟩;show a1 ad ⟨m.kI r,0+Int.toNat (a:Int)*12⟩ _ _;rw[show 0+Int.toNat (a:Int)*12=a*12 by omega];exact M2.put aK bV c λaq fS v3=>⟨bb,rfl,fS,((iC aE (bA m es)).trans v).trans v3⟩
theorem alB (M:cN T m R a_ es h){r:Nat}(aK:r<m.ep)(x:a8)(aO:a_.length<4000000000000) :
 aw 66 [bu ⟨m.b,0⟩,U r,ak x] h λv ag=>∃bb,v=ec (if x.toNat<m.cq r then R r x.toNat else gz)/\cN T m R (a_++reads r (m.cq r)) bb ag/\cn (bA m es) h (bA m bb) ag:=by
 have ln:=M.cq r aK;refine ahU _ _ _ ?_;unfold UL;refine bL λaj aa f1 aC aE=>bL λaB ad f2 a7 az=>?_;have ct:aB≠aj:=λe=>by rw[e,aC] at f2;cases f2
 have M2:=M.bE (aE.trans az);have f20:=aE.free f2;refine⟨λq1 ay bO aP bs aQ g k=>q1=⟨m.b,0⟩/\ay=r/\x=bO/\aP=⟨aj,0⟩/\bs=⟨aB,0⟩/\∃i bb,aQ=(i:Nat)/\i<=m.cq r/\k=m.cq r-i/\cN T m R (a_++reads r i) bb g/\cn (bA m es) h (bA m bb) g/\¬bA m bb aj/\¬bA m bb aB /\
  g aj=some (.cells (ae.cells (.ws 12 gz)).toArray 69 (0,0))/\g aB=some (.cells (ae.cells (.ws 12 (if x.toNat<i then R r x.toNat else gz))).toArray 69 (0,0)),
  ⟨m.cq r,rfl,rfl,rfl,rfl,rfl,0,es,rfl,by omega,rfl,by simpa [reads] using M2,iC (aE.trans az) _,M.out f1,M.out f20,az.get aC,a7⟩,?_⟩
 rintro q1 ay bO aP bs aQ g k ⟨rfl,rfl,rfl,rfl,rfl,i,bb,rfl,hi,rfl,ga,k0,gR,oh,g1,g2⟩;have tP:=Bo r i;refine(s9 ga aK).mono ?_;rintro _ _ ⟨rfl,rfl⟩;refine⟨_,rfl,b6 (λb1=>?_) λc3=>?_⟩
 .have bN:i<m.cq r:=by omega
  refine(s_ ga aK bN (by rw[as9,tP];omega)).mono ?_;rintro _ g3 ⟨hO,rfl,fS,v3⟩;have vC:=k0.trans v3;have qm:=v3.get g1 gR;have CU:=v3.get g2 oh;have pC:=v3.out (by rw[g1];simp) gR;have Aa:=v3.out (by rw[g2];simp) oh;refine⟨_,rfl,bL λaS g4 f4 b5 bc=>fG (n:=12) (vC.more bc) (vC.2.2 aS f4) b5 rfl λg5 v5 cD cY=>?_⟩;have n31:aj≠aS:=λe=>by rw[<-e,qm] at f4;cases f4
  have n32:aB≠aS:=λe=>by rw[<-e,CU] at f4;cases f4
  have tQ:=(cY aj n31).trans (bc.get qm);have Ws:=(cY aB n32).trans (bc.get CU);have iJ:=(fS.bE bc).move λy aA=>cY y λe=>fS.out f4 (e▸aA);rw[atr,<-PE] at iJ;refine hS (λaf=>?_) λaf=>?_
  .have c:i=x.toNat:=by rw[<-atC af,xA (by omega)]
   refine⟨_,da cD,fG (n:=12) v5 f20 Ws (by simp[ae.cells]) λg6 v6 dK eI=>⟨m.cq r-(i+1),by omega,rfl,rfl,rfl,rfl,rfl,i+1,hO,bl,by omega,rfl,iJ.move λy aA=>eI y λe=>Aa (e▸aA),v6,pC,Aa,(eI _ (atf ct)).trans tQ,?_⟩⟩;rw[dK,as8 (show x.toNat<i+1 by omega),c]
  .have c:i≠x.toNat:=λc=>atW af (att.1 (by rw[xA (by omega),c]));refine⟨m.cq r-(i+1),by omega,rfl,rfl,rfl,rfl,rfl,i+1,hO,bl,by omega,rfl,iJ,v5,pC,Aa,tQ,?_⟩;rw[Ws];by_cases aZ:x.toNat<i
   .rw[as8 aZ,as8 (show x.toNat<i+1 by omega)]
   .rw[as7 aZ,as7 (show ¬x.toNat<i+1 by omega)]
 .have:i=m.cq r:=by omega
  subst this;refine⟨_,da g2,fG (n:=12) k0 f1 g1 (by simp[ae.cells]) λg5 v5 cD cY=>⟨_,da cD,bb,rfl,ga.move λy aA=>cY y λe=>gR (e▸aA),v5⟩⟩
theorem alC (d:Bool):decide (0<mask d)=d:=by cases d<;>decide
theorem alD (M:cN T m R a_ es h){r:Nat}(aK:r<m.ep)(x:a8)(c:cM)(d:Bool)(aO:a_.length<4000000000000) :
 aw 67 [bu ⟨m.b,0⟩,U r,ak x,ec c,ak (mask d)] h λv ag=>∃bb,v= .tuple #[]/\cN T m (if x.toNat<m.cq r/\d=true then fs R (r,x.toNat) c else R) (a_++writes r (m.cq r)) bb ag/\cn (bA m es) h (bA m bb) ag:=by
 have ln:=M.cq r aK;refine ahW _ _ _ _ _ ?_;unfold UM;refine bL λaj aa f1 aC aE=>?_;have M2:=M.bE aE;refine⟨λq1 ay bO ca aP aQ g k=>q1=⟨m.b,0⟩/\ay=r/\x=bO/\ca=mask d/\aP=⟨aj,0⟩/\∃i bb,aQ=(i:Nat)/\i<=m.cq r/\k=m.cq r-i/\cN T m (if x.toNat<i/\d=true then fs R (r,x.toNat) c else R) (a_++writes r i) bb g/\cn (bA m es) h (bA m bb) g/\¬bA m bb aj /\
  g aj=some (.cells (ae.cells (.ws 12 c)).toArray 69 (0,0)),
  ⟨m.cq r,rfl,rfl,rfl,rfl,rfl,0,es,rfl,by omega,rfl,by simpa [writes] using M2,iC aE _,M.out f1,aC⟩,?_⟩
 rintro q1 ay bO ca aP aQ g k ⟨rfl,rfl,rfl,rfl,rfl,i,bb,rfl,hi,rfl,ga,k0,gR,g1⟩;have uY:=rH r i;refine(s9 ga aK).mono ?_;rintro _ _ ⟨rfl,rfl⟩;refine⟨_,rfl,b6 (λb1=>?_) λc3=>?_⟩
 .have bN:i<m.cq r:=by omega
  refine(s_ ga aK bN (by rw[as9,uY];omega)).mono ?_;rintro _ g3 ⟨hO,rfl,fS,v3⟩;have qm:=v3.get g1 gR;have pC:=v3.out (by rw[g1];simp) gR;have vC:=k0.trans v3;refine⟨_,rfl,bL λaB g4 f4 b5 bc=>fG (n:=12) (vC.more bc) (vC.2.2 aB f4) b5 rfl λg5 v5 cD cY=>?_⟩;have cE:aj≠aB:=λe=>by rw[<-e,qm] at f4;cases f4
  have tQ:=(cY aj cE).trans (bc.get qm);have iJ:=(fS.bE bc).move λy aA=>cY y λe=>fS.out f4 (e▸aA);generalize Gy:(if x.toNat<i/\d=true then fs R (r,x.toNat) c else R)=fZ at *;have fin:∀(g6:ai) (b8:cM),cn (bA m es) h (bA m hO) g6->cN T m fZ (a_++writes r i++[⟨r,i,false⟩]) hO g6->g6 aj=some (.cells (ae.cells (.ws 12 c)).toArray 69 (0,0))->g6 aB=some (.cells (ae.cells (.ws 12 b8)).toArray 69 (0,0))->(b8=if decide (i=x.toNat)&&d then c else fZ r i) ->
   ∃cp:cM,bP g6 aB 0 cp/\aw 121 [bu ⟨m.b,0⟩,U r,U i,ec cp] g6 λv3 cl=>v3= .tuple #[]/\∃aD,aD<m.cq r-i/\((⟨m.b,0⟩:aG)=⟨m.b,0⟩/\(r:Int)=r/\x=x/\mask d=mask d/\(⟨aj,0⟩:aG)=⟨aj,0⟩/\∃di bb,al ((i:Int)+1)=(di:Nat)/\di<=m.cq r/\aD=m.cq r-di/\cN T m (if x.toNat<di/\d=true then fs R (r,x.toNat) c else R) (a_++writes r di) bb cl/\cn (bA m es) h (bA m bb) cl/\¬bA m bb aj /\
    cl aj=some (.cells (ae.cells (.ws 12 c)).toArray 69 (0,0))):=by
   intro g6 b8 v6 kS q1 aP aT;refine⟨_,da aP,(tK kS aK bN _ (by simp only[as9,uY,atA];omega)).mono ?_⟩;rintro _ g7 ⟨s6,rfl,o_,ft⟩;refine⟨rfl,m.cq r-(i+1),by omega,rfl,rfl,rfl,rfl,rfl,i+1,s6,bl,by omega,rfl,?_,v6.trans ft,ft.out (by rw[q1];simp) pC,ft.get q1 pC⟩;rw[yD,show ∀a b:dt,a_++(writes r i++[a,b])=a_++writes r i++[a]++[b] by simp];have key:fs fZ (r,i) b8=if x.toNat<i+1/\d=true then fs R (r,x.toNat) c else R:=by
    rw[aT];by_cases aX:i=x.toNat
    .have aa:¬(x.toNat<i/\d=true):=by omega
     rw[as7 aa] at Gy;cases d with
     | true=>rw[as8 (by simp[aX]),as8 ⟨by omega,rfl⟩,<-Gy,aX]
     | false=>rw[as7 (by simp),as7 (by simp),<-Gy];exact Gz R (r,i)
    .rw[as7 (by simp[aX])];have eg:fs fZ (r,i) (fZ r i)=fZ:=Gz fZ (r,i);rw[eg,<-Gy];by_cases aZ:x.toNat<i/\d=true
     .rw[as8 aZ,as8 ⟨by omega,aZ.2⟩]
     .rw[as7 aZ,as7 (λh=>aZ ⟨by omega,h.2⟩)]
   rw[key] at o_;exact o_
  refine hS (λaf=>?_) λaf=>?_
  .have aX:i=x.toNat:=by rw[<-atC af,xA (by omega)]
   rw[alC];cases d with
   | true=>exact eh rfl ⟨_,da tQ,fG (n:=12) v5 (vC.2.2 aB f4) cD (by simp[ae.cells]) λg6 v6 dK eI=>fin g6 _ v6 (iJ.move λy aA=>eI y λe=>fS.out f4 (e▸aA)) ((eI aj cE).trans tQ) dK (by simp[aX])⟩
   | false=>exact b0 rfl (fin g5 _ v5 iJ tQ cD (by simp))
  .have aX:i≠x.toNat:=λc=>atW af (att.1 (by rw[xA (by omega),c]));exact fin g5 _ v5 iJ tQ cD (by simp[aX])
 .have:i=m.cq r:=by omega
  subst this;exact⟨bb,rfl,ga,k0⟩
theorem alp (M:cN T m R a_ es h){r K k:Nat}(aK:r<m.ep)(fr:K<=10)(aH:2 ^ K<=m.cq r)(ab:k<12)(aO:a_.length<3000000000000) :
 aw 159 [bu ⟨m.b,0⟩,U r,U (2 ^ K),U k] h λv ag=>∃bb,v=U 0/\cN T m (dD R r (gQ (hc k ab) (h9 K) (R r))) (a_++uA r K) bb ag/\cn (bA m es) h (bA m bb) ag:=by
 have wE:((2 ^ K:Nat):Int)=2 ^ K:=by simp
 refine ajm _ _ _ _ ?_;unfold Vf;refine(V8 fr).to λaa aE=>⟨_,rfl,b0 rfl ?_⟩;refine(s9 (M.bE aE) aK).mono ?_;rintro _ aa ⟨rfl,rfl⟩;refine⟨_,rfl,b0 (by simp;omega) (b0 (by simp) (b0 (by simp;omega) ?_))⟩;refine(alc fr aa).mono ?_;rintro _ ad ⟨sp,rfl,op,az⟩;have oV:=Bu fr;have zu:(h9 K).length=(fX K).length:=by rw[GA,ath]
 have hlen:=op.len;have M2:=(M.bE aE).bE az;have LQ:∀q,sp.q=some q->¬bA m es q.b:=λq ah=>(M.bE aE).out (op.b_ ah).1;refine⟨_,rfl,λq1 ay aI s2 bm g bI=>q1=⟨m.b,0⟩/\ay=r/\aI=k/\s2=sp/\∃i bb,bm=(i:Nat)/\i<=sp.len/\bI=sp.len-i /\
  cN T m (dD R r (gQ (hc k ab) ((h9 K).take i) (R r))) (a_++((fX K).take i).flatMap (mH r)) bb g/\cn (bA m es) h (bA m bb) g/\(∀q,sp.q=some q->¬bA m bb q.b)/\cI 3 hH aa g sp (fX K),
  ⟨sp.len,rfl,rfl,rfl,rfl,0,es,rfl,by omega,rfl,by simpa [gQ,yZ] using M2,iC (aE.trans az) _,LQ,op⟩,?_⟩
 rintro q1 ay aI s2 bm g bI ⟨rfl,rfl,rfl,rfl,i,bb,rfl,hi,rfl,ga,k0,xB,gH⟩;refine b6 (λb1=>?_) λc3=>?_
 .have bN:i<(fX K).length:=by omega
  have ky:i<(h9 K).length:=by omega
  obtain⟨pi,alE⟩:=Ce K (as_ _) (h9 K)[i] (aty ky);have CV:(fX K)[i]=qn (h9 K)[i]:=by simp[GA]
  generalize aM:(h9 K)[i]=p at *;have CW:p.1<m.cq r:=by omega
  have CX:p.2.1<m.cq r:=by omega
  have Ab:(a_++((fX K).take i).flatMap (mH r)).length<=a_.length+4*102400:=by
   rw[as9,EE,List.length_take];omega
  generalize bf:gQ (hc k ab) ((h9 K).take i) (R r)=f at *;have wW:dD R r f r p.1=f p.1:=by unfold dD;rw[as8 rfl]
  have LR:dD R r f r p.2.1=f p.2.1:=by unfold dD;rw[as8 rfl]
  have at_:∀ {bg:ai},cI 3 hH aa bg s2 (fX K)->∀ {X:aG->Prop},(∀q,s2.q=some q->bR bg q.b (q.o+Int.toNat (i:Int)*3)=some (U p.1)->bR bg q.b (q.o+Int.toNat (i:Int)*3+1)=some (U p.2.1)->bR bg q.b (q.o+Int.toNat (i:Int)*3+2)=some (.bool p.2.2)->X q)->∃q,s2.q=some q/\(0:Int)<=(i:Int)/\(i:Int)+1<=(s2.len:Int)/\X q:=λ{bg} o {X} LS=>by
   refine o.rd.e0 Ez bN λq ah iI=>?_;rw[CV] at iI;rw[show(i:Nat)=(i:Int).toNat by omega] at iI;exact LS q ah iI.1 iI.2.1 iI.2.2.1
  refine at_ gH λq ah aX _ _=>⟨_,aX,?_⟩;refine(s_ ga aK CW (by omega)).mono ?_;rintro _ g3 ⟨hO,rfl,fS,v3⟩;rw[wW];have GB:∀ {g bg:ai} {e ch:an},cn (bA m e) g (bA m ch) bg->(∀q,s2.q=some q->¬bA m e q.b)->cI 3 hH aa g s2 (fX K)->(∀q,s2.q=some q->¬bA m ch q.b)/\cI 3 hH aa bg s2 (fX K):=λv n o=>⟨λq ah=>v.out (o.b_ ah).2 (n q ah),o.move λq ah=>v.2.1 _ (o.b_ ah).2 (n q ah)⟩;obtain⟨alF,LU⟩:=GB v3 xB gH;refine⟨_,rfl,bL λaj g4 f4 b5 bc=>?_⟩;have Ac:=k0.trans v3;have f40:=Ac.2.2 _ f4;have gR:¬bA m hO aj:=fS.out f4;refine fG (n:=12) (Ac.more bc) f40 b5 rfl λg5 v5 cD cY=>?_;have iJ:=(fS.bE bc).move λy aA=>cY y λe=>gR (e▸aA);have LP:∀ {b:Nat} {g bg:ai},g b=none->cI 3 hH aa g s2 (fX K)->(∀x,x≠b->bg x=g x)->cI 3 hH aa bg s2 (fX K):=λau o aR=>o.move λq ah=>aR _ λe=>(o.b_ ah).2 (e▸au);have Wt:cI 3 hH aa g5 s2 (fX K):=(LU.bE bc).move λq ah=>cY _ λe=>(LU.b_ ah).2 (e▸f4);refine at_ Wt λdf ek _ aZ _=>⟨_,aZ,?_⟩;refine(s_ iJ aK CX (by simp only[as9,atA] at Ab ⊢;omega)).mono ?_;rintro _ g6 ⟨xw,rfl,kS,v6⟩;rw[LR];have pz:=v6.get cD gR;have alG:=v6.out (by rw[cD];simp) gR;obtain⟨alH,LV⟩:=GB v6 alF Wt;refine⟨_,rfl,bL λaB g7 f7 fq cV=>?_⟩;have cE:aj≠aB:=λe=>by rw[<-e,pz] at f7;cases f7
  have oh:¬bA m xw aB:=kS.out f7;have Wu:=v5.trans v6;have f70:=Wu.2.2 _ f7;refine fG (n:=12) (Wu.more cV) f70 fq rfl λg8 gr gg e_=>?_;have om:=(kS.bE cV).move λy aA=>e_ y λe=>oh (e▸aA);have xC:cI 3 hH aa g8 s2 (fX K):=(LV.bE cV).move λq ah=>e_ _ λe=>(LV.b_ ah).2 (e▸f7);have qT:=(e_ aj cE).trans (cV.get pz);have Wv:∀q,s2.q=some q->q.b≠aj/\q.b≠aB:=λq ah=>⟨λe=>(LU.b_ ah).2 (e▸f4),λe=>(LV.b_ ah).2 (e▸f7)⟩;let S:Bool->ai->Prop:=λt g=>cN T m (dD R r f) (a_++((fX K).take i).flatMap (mH r)++[⟨r,p.1,false⟩]++[⟨r,p.2.1,false⟩]) xw g/\cn (bA m es) h (bA m xw) g/\cI 3 hH aa g s2 (fX K)/\g aj=some (.cells (ae.cells (.ws 12 (if t=true then f p.2.1 else f p.1))).toArray 69 (0,0))/\g aB=some (.cells (ae.cells (.ws 12 (if t=true then f p.1 else f p.2.1))).toArray 69 (0,0));have j_:S false g8:=⟨om,gr,xC,qT,gg⟩;have Ww:Int.toNat (k:Int)=k:=by omega
  have iW:∀ {X:ai->Prop},(∀g,S true g->X g)->∃cp:cM,bP g8 aB 0 cp/\∃dc:cM,bP g8 aj 0 dc/\a1 g8 ⟨aj,0⟩ (ae.cells (.ws 12 cp)) λcO=>a1 cO ⟨aB,0⟩ (ae.cells (.ws 12 dc)) λcH=>X cH:=λ{X} LS=>by
   refine⟨_,da gg,_,da qT,fG (n:=12) gr f40 qT (by simp[ae.cells]) λg9 v9 iE e2=>fG (n:=12) v9 f70 ((e2 aB (atf cE)).trans gg) (by simp[ae.cells]) λAd v10 uG hz=>LS Ad ⟨?_,v10,xC.move λq ah=>(hz _ (Wv q ah).2).trans (e2 _ (Wv q ah).1),(hz aj cE).trans iE,uG⟩⟩;exact(om.move λy aA=>e2 y λe=>alG (e▸aA)).move λy aA=>hz y λe=>oh (e▸aA)
  refine⟨λdj bh bo bj bY ef eH g=>dj=⟨m.b,0⟩/\bh=r/\bo=k/\bj=s2/\bY=i/\ef=⟨aj,0⟩/\eH=⟨aB,0⟩/\S (bif p.2.2 then decide (hc k ab (f p.2.1)<hc k ab (f p.1)) else decide (hc k ab (f p.1)<hc k ab (f p.2.1))) g,?_,?_⟩
  .have Ae:∀ {t:Bool} {g:ai},S t g->t=(bif p.2.2 then decide (hc k ab (f p.2.1)<hc k ab (f p.1)) else decide (hc k ab (f p.1)<hc k ab (f p.2.1)))->((⟨m.b,0⟩:aG)=⟨m.b,0⟩/\(r:Int)=r/\(k:Int)=k/\s2=s2/\(i:Int)=i/\(⟨aj,0⟩:aG)=⟨aj,0⟩/\(⟨aB,0⟩:aG)=⟨aB,0⟩/\S (bif p.2.2 then decide (hc k ab (f p.2.1)<hc k ab (f p.1)) else decide (hc k ab (f p.1)<hc k ab (f p.2.1))) g):=λr4 bz=>⟨rfl,rfl,rfl,rfl,rfl,rfl,rfl,bz▸r4⟩;have Wx:bR g8 aj (0+Int.toNat (k:Int)*1)=some (ak (f p.1)[k]):=by rw[Ww,show 0+k*1=k by omega];exact gi qT ab
   have Wy:bR g8 aB (0+Int.toNat (k:Int)*1)=some (ak (f p.2.1)[k]):=by rw[Ww,show 0+k*1=k by omega];exact gi gg ab
   have lt:∀ {a b:a8},decide (a<b)=decide (a.toNat<b.toNat):=λ{a b}=>by rw[atz,avh,avh,atY]
   refine at_ xC λ_ _ _ _ cp=>⟨_,cp,?_⟩;cases au:p.2.2 with
   | true =>
    rw[au] at cp Ae;refine eh rfl ⟨by omega,by omega,_,Wy,by omega,by omega,_,Wx,hS (λb1=>iW λg r4=>Ae r4 ?_) λb1=>?_⟩
    .exact(show decide _=true from b1).symm.trans lt
    .refine at_ xC λ_ _ _ _ LW=>⟨_,LW,?_⟩;rw[au];exact b0 rfl (Ae j_ ((show decide _=false from b1).symm.trans lt))
   | false =>
    rw[au] at cp Ae;refine b0 rfl ?_;refine at_ xC λ_ _ _ _ LW=>⟨_,LW,?_⟩;rw[au];refine eh rfl ⟨by omega,by omega,_,Wx,by omega,by omega,_,Wy,hS (λb1=>iW λg r4=>Ae r4 ?_) λb1=>Ae j_ ?_⟩
    .exact(show decide _=true from b1).symm.trans lt
    .exact(show decide _=false from b1).symm.trans lt
  .rintro _ _ _ bj _ _ _ g9 ⟨rfl,rfl,rfl,rfl,rfl,rfl,rfl,py,v9,Wz,xD,WA⟩;obtain⟨t,bz⟩:∃t,t=(bif p.2.2 then decide (hc k ab (f p.2.1)<hc k ab (f p.1)) else decide (hc k ab (f p.1)<hc k ab (f p.2.1))):=⟨_,rfl⟩;rw[<-bz] at xD WA;refine at_ Wz λ_ _ aX _ _=>⟨_,aX,_,da xD,(tK py aK CW _ (by simp only[as9,atA] at Ab ⊢;omega)).mono ?_⟩;rintro _ Ad ⟨Qs,rfl,JL,v10⟩;obtain⟨alI,WB⟩:=GB v10 alH Wz;have alJ:=v10.get WA oh;refine⟨rfl,at_ WB λ_ _ _ aZ _=>⟨_,aZ,_,da alJ,(tK JL aK CX _ (by simp only[as9,atA] at Ab ⊢;omega)).mono ?_⟩⟩;rintro _ alK ⟨alL,rfl,B3,v11⟩;obtain⟨alM,alN⟩:=GB v11 alI WB;refine⟨rfl,bj.len-(i+1),by omega,rfl,rfl,rfl,rfl,i+1,alL,bl,by omega,rfl,?_,(v9.trans v10).trans v11,alM,alN⟩;have aC:(h9 K).take (i+1)=(h9 K).take i++[p]:=by rw[atV,atc ky,aM];rfl
   have a7:(fX K).take (i+1)=(fX K).take i++[qn p]:=by rw[atV,atc bN,CV];rfl
   rw[aC,a7,Cc,bf,auE];have b2:gQ (hc k ab) [p] f=k3 (hc k ab) f p:=rfl;rw[b2,<-WC (R:=R) (r:=r) (key:=hc k ab) (f:=f) (p:=p) (by omega)];have b5:(mf (hc k ab) p.2.2 (f p.1) (f p.2.1))=(if t=true then f p.2.1 else f p.1,if t=true then f p.1 else f p.2.1):=by
    unfold mf;rw[<-bz];cases t<;>rfl
   rw[b5];have cD:a_++(((fX K).take i).flatMap (mH r)++[qn p].flatMap (mH r))=a_++((fX K).take i).flatMap (mH r)++[⟨r,p.1,false⟩]++[⟨r,p.2.1,false⟩]++[⟨r,p.1,true⟩]++[⟨r,p.2.1,true⟩]:=by
    simp[mH,qn]
   rw[cD];exact B3
 .have aC:i=(fX K).length:=by omega
  rw[at8 (by omega),at8 (by omega)] at ga;exact⟨bb,rfl,ga,k0⟩
end

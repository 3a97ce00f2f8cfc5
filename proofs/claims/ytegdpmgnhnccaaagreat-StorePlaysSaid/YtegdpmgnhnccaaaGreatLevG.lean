import Derived.Test.YtegdpmgnhnccaaaGreatLvA
import Derived.Test.YtegdpmgnhnccaaaGreatEvC
namespace Go.Proofs.Tryz
open Go Go.cQ Go.RowKit
set_option maxRecDepth 8000
structure oR (m:jo)(P:c1)(f:Nat):Prop where
 bf:f<=100
 ep:f+2<m.ep
 gT:m.cq f=P.s*(2 ^ (P.k+1)-1)
 ev:m.cq (f+1)=P.t
 e5:m.cq (f+2)=2 ^ P.E
 E:P.E=j1 (ht P.k P.s P.t)
theorem oR.kO {m:jo}{P:c1}{f:Nat}(L:oR m P f):kO P.k P.s P.t=2 ^ P.E:=by rw[L.E];exact Iy _
def jN (P:c1)(f ao p:Nat):n9:=⟨((f+(spot P ao p).1:Nat):Int),(((spot P ao p).2:Nat):Int)⟩
theorem qa {P:c1}(o:P.dk)(f ao:Nat):fV P.k P.s P.t f ao=(List.range P.m).map (jN P f ao):=by
 have aR:0<P.s:=by have:=o.s;omega
 have tree:∀n,n<=P.k+1->oa P.k P.s f ao n=(List.range (P.s*n)).map (jN P f ao):=by
  intro n
  induction n with
  | zero=>intro _;simp[oa]
  | succ n c6 =>
   intro aH;rw[Ex,c6 (by omega),Nat.mul_succ,List.range_add,atD,auf];congr 1;unfold n_;rw[show(P.s:Int).toNat=P.s by omega];refine atv λi hi=>?_;have hi:=atq.1 hi;have b1:P.s*n+i<P.s*(P.k+1):=by
    have:=Nat.mul_le_mul_left P.s aH;rw[Nat.mul_succ] at this;omega
   have QN:=yV (s:=P.s) (a:=n) hi;show _=jN P f ao (P.s*n+i);unfold jN;rw[uP b1,atK P.s n,QN.1,QN.2];simp[eT,kh]
 unfold fV c1.m;rw[tree _ (as_ _),List.range_add,atD,auf];congr 1;unfold oY;rw[show(P.t:Int).toNat=P.t by omega];refine atv λi _=>?_;show _=jN P f ao (P.s*(P.k+1)+i);unfold jN;rw[uQ (by omega)];simp
theorem uR {m:jo}{P:c1}{f:Nat}(L:oR m P f)(o:P.dk){ao p:Nat}(bf:ao<2 ^ P.k)(aM:p<P.m):f+(spot P ao p).1<m.ep/\(spot P ao p).2<m.cq (f+(spot P ao p).1)/\(spot P ao p).1<2:=by
 have:=L.ep;rcases lJ o bf aM with ⟨aa,ad⟩|⟨aa,ad⟩
 .rw[aa,atQ,L.gT];exact⟨by omega,ad,by omega⟩
 .rw[aa,L.ev];exact⟨by omega,ad,by omega⟩
def QO (G:Nat->Prop)(h0:ai)(v:Value)(op:fN):Prop :=
 ∀g,(∀x,G x->g x=h0 x)->∀(d:ei) (b:Bool),fo prog v [ec d,.bool b] g λr bg=>(∃bq:ei,r= .tuple #[ec bq,.bool (op.now d b).isSome]/\∀x,op.now d b=some x->bq=x)/\bB g bg
section
variable {T:TypeId} {m:jo} {R:dw} {a_:List dt} {es:an} {h:ai}
theorem acX {P:c1}{f:Nat}(o:P.dk)(L:oR m P f)(M:cN T m R a_ es h){hN:TypeId}{aV mp:Nat}{dV:Bool}(jb:h aV=dB (l3 P m.b f dV mp) hN)(ta:¬bA m es aV)
 {ao to:Nat} (fP:ao<2 ^ P.k) (yW:to<2 ^ P.k) {bi:a8} (gJ:bi.toNat<=2147483648) (lK:qb P (jg f R)) {op:fN} {v:Value} {G:Nat->Prop} (aY:∀x,G x->h x≠none/\¬bA m es x/\x≠aV) (bH:QO G h v op) (aO:a_.length<1000000000000) :
 aw 118 [bu ⟨aV,0⟩,ak bi,U ao,U to,v] h λr ag=>∃bb,r= .tuple #[ec (j4 P bi ao (jg f R)).1,.bool (j4 P bi ao (jg f R)).2]/\cN T m (lL f R (kY P op bi ao to (jg f R))) (a_++mI P.k P.s P.t f ao) bb ag /\
  ag aV=dB (l3 P m.b f (dV||qV P op bi ao to (jg f R)) mp) hN/\¬bA m bb aV/\cn (λx=>bA m es x∨x=aV) h (λx=>bA m bb x∨x=aV) ag:=by
 have ol:=o.fu;have acY:=wS o;have wT:=o.E;have aH:=o.n;have acZ:P.n=P.m+1:=rfl;have kZ:(2:Int) ^ P.E=((2 ^ P.E:Nat):Int):=by simp
 have bz:=L.kO;rw[kZ] at bz;have qW:=ET (f:Int) wT;have yX:∀n,(ic f (fV P.k P.s P.t f ao) n).length<=2*n:=λn=>IF _ _ _;have ac0:=L.bf;have hB:al ((f:Int)+2)=((f+2:Nat):Int):=by rw[bl];omega
 have qc:(f:Int)+2=((f+2:Nat):Int):=by omega
 have lM:=L.e5;have jq:=L.ep;have wE:P.k<=10:=o.k;have o5:0<P.m:=by have:=o.t;unfold c1.m;omega
 refine ac1 _ _ _ _ _ ?_;unfold QP;refine bL λaj aa f1 aC aE=>?_;have g_:=aE.get jb;refine⟨_,aF g_ rfl,_,aF g_ rfl,_,aF g_ rfl,_,aF g_ rfl,?_⟩;refine(abi ol (f:Int) (by omega) fP aa).mono ?_;rintro _ ad ⟨sp,rfl,eR,az⟩;rw[qa o f ao] at eR;have eA:=aE.trans az;have yY:=eR.len;simp only[ath,atj] at yY;generalize BT:jg f R=dx at *;let X:Nat->Prop:=λx=>x=aV∨x=aj∨∃q,sp.q=some q/\x=q.b;let A:Nat->Prop:=λx=>bA m es x∨x=aV;have M2:=M.bE eA;have qd:∀x,X x->x=aV∨h x=none:=by
  rintro x (rfl|rfl|⟨q,ah,rfl⟩)
  .exact .inl rfl
  .exact .inr f1
  .exact .inr (aE.free (eR.b_ ah).1)
 have ar1:∀x,X x->ad x≠none:=by
  rintro x (rfl|rfl|⟨q,ah,rfl⟩)
  .rw[eA.get jb];simp
  .rw[az.get aC];simp
  .exact(eR.b_ ah).2
 have ac2:∀x,X x->¬bA m es x:=λx z hm=>by
  rcases qd x z with rfl|af
  .exact ta hm
  .exact M.dv hm af
 have o6:cn A h (λx=>bA m es x∨X x) ad:=(iC eA _).to λx af=>by
  rcases af with af|z
  .exact .inl (.inl af)
  .exact(qd x z).imp .inr id
 have BU:aj≠aV:=λe=>by rw[e,jb] at f1;cases f1
 have QQ:∀q,sp.q=some q->q.b≠aj/\q.b≠aV:=λq ah=>⟨λe=>(by have:=(eR.b_ ah).1;rw[e,aC] at this;cases this),λe=>(by have:=(eR.b_ ah).1;rw[e,g_] at this;cases this)⟩;let fk:dw->List dt->an->ei->ai->Prop:=λe1 eJ bb d g=>cN T m e1 eJ bb g/\cn A h (λx=>bA m bb x∨X x) g/\(∀x,X x->¬bA m bb x)/\g aV=dB (l3 P m.b f dV mp) hN/\g aj=some (.cells (ae.cells (.ws 8 d)).toArray 49 (0,0))/\fi ll g sp ((List.range P.m).map (jN P f ao));let fZ:Nat->dw:=λi=>dD R (f+2) λp=>if p<i then strip bi (ee P ao dx p) else R (f+2) p
 have QR:fk (fZ 0) (a_++ic f (fV P.k P.s P.t f ao) 0) es kE ad:=by
  have e:fZ 0=R:=by
   have:(λp=>if p<0 then strip bi (ee P ao dx p) else R (f+2) p)=R (f+2):=by funext p;simp
   show dD R (f+2) _=R;rw[this];exact yZ R _
  rw[e];exact⟨by simpa [ic] using M2,o6,ac2,eA.get jb,az.get aC,eR.rd⟩
 refine⟨sp,rfl,λq1 bO bm bx v2 aP t1 s2 bj bh bo g bI=>q1=⟨aV,0⟩/\bi=bO/\bm=ao/\bx=to/\v=v2/\aP=⟨aj,0⟩/\sp=s2/\sp=bj/\bh=(P.m:Nat)/\∃(i:Nat) (bb:an),bo=i/\i<=P.m/\bI=P.m-i/\t1=(gO bi (ee P ao dx) i).2/\fk (fZ i) (a_++ic f (fV P.k P.s P.t f ao) i) bb (gO bi (ee P ao dx) i).1 g,
  ⟨P.m,rfl,rfl,rfl,rfl,rfl,rfl,rfl,rfl,by rw[yY],0,es,rfl,by omega,rfl,rfl,QR⟩,?_⟩
 rintro q1 bO bm bx v2 aP t1 s2 bj bh bo g bI ⟨rfl,rfl,rfl,rfl,rfl,rfl,rfl,rfl,rfl,i,bb,rfl,hi,rfl,rfl,ga,iH,o7,jO,mR,dE⟩;have Jf:∀(i:Nat) (e1:dw),i<P.m->(∀r j,r≠f+2->e1 r j=R r j)->e1 (f+(spot P ao i).1) (spot P ao i).2=ee P ao dx i:=λi e1 hi jc=>by
  have ad:=(uR L o fP hi).2.2;rw[jc _ _ (by omega),<-BT];rfl
 have Jg:∀i r j,r≠f+2->fZ i r j=R r j:=λi r j aK=>by show dD R (f+2) _ r j=_;unfold dD;rw[as7 aK]
 have ac3:∀i,fs (fZ i) (f+2,i) (strip bi (ee P ao dx i))=fZ (i+1):=λi=>by
  funext r j;show(if r=f+2/\j=i then _ else if r=f+2 then (if j<i then strip bi (ee P ao dx j) else R (f+2) j) else R r j)=if r=f+2 then (if j<i+1 then strip bi (ee P ao dx j) else R (f+2) j) else R r j
  by_cases aX:r=f+2
  .rw[as8 aX,as8 aX];by_cases aZ:j=i
   .rw[as8 ⟨aX,aZ⟩,d_,aZ]
   .rw[as7 (λh=>aZ h.2)];by_cases cp:j<i
    .rw[as8 cp,d_]
    .rw[as7 cp,cS]
  .rw[as7 (λh=>aX h.1),as7 aX,as7 aX]
 refine b6 (λb1=>?_) λc3=>?_
 .have bN:i<P.m:=by omega
  obtain⟨wU,wV,Jh⟩:=uR L o fP bN;have wW:=yX i;refine dE.e0 l9 (i:=i) (by simp;omega) λq ah iI=>?_;have e:((List.range P.m).map (jN P f ao))[i]'(by simp;omega)=jN P f ao i:=by simp
  rw[e] at iI;obtain⟨aX,aZ,_⟩:=iI;rw[show(i:Int).toNat=i by omega];refine⟨_,aX,_,aZ,bL λaB g1 f2 a7 aD=>?_⟩;have gI:h aB=none:=iH.2.2 _ f2;refine qe (iH.more aD) gI a7 (by simp) λg2 lN b2 c9=>?_;have oh:∀x,g x≠none->x≠aB:=λx af e=>af (e▸f2);have oi:∀x,g x≠none->g2 x=g x:=λx af=>by rw[c9 x (oh x af),aD x af]
  have fS:=ga.move λx af=>oi x (ga.dv af);have nD:=(oi aV (by rw[jO];simp)).trans jO;refine⟨some ⟨m.b,0⟩,aF nD rfl,_,aF b2 rfl,_,aF b2 rfl,?_⟩;refine(uO fS wU wV (by simp only[as9];omega)).mono ?_;rintro _ g4 ⟨mO,rfl,qX,v4⟩;rw[Jf i _ bN (Jg i)];have EU:∀x,X x->g2 x≠none:=λx z=>by
   have:g x≠none:=by
    rcases z with rfl|rfl|⟨q,ah,rfl⟩
    .rw[jO];simp
    .rw[mR];simp
    .exact dE.there (k:=1) l9 ah (by simp;omega)
   rw[oi x this];exact this
  obtain⟨bM,qS⟩:=kH v4 EU o7;have o8:=lN.trans (mS v4);have tc:=(bM aV (.inl rfl)).trans nD;have ac4:=(bM aj (.inr (.inl rfl))).trans ((oi aj (by rw[mR];simp)).trans mR);have ac5:fi ll g4 sp ((List.range P.m).map (jN P f ao)):=dE.move λq ah aO=>(bM _ (.inr (.inr ⟨q,ah,rfl⟩))).trans (oi _ (dE.there (k:=1) l9 ah aO));refine⟨_,rfl,bL λaS g5 f5 cD bU=>?_⟩;have o3:h aS=none:=o8.2.2 _ f5;refine fG (n:=12) (o8.more bU) o3 cD rfl λg6 o9 dK eI=>?_;have y0:∀x,g4 x≠none->x≠aS:=λx af e=>af (e▸f5);have rQ:∀x,g4 x≠none->g6 x=g4 x:=λx af=>by rw[eI x (y0 x af),bU x af]
  have EV:∀x,X x->g4 x≠none:=λx z=>by rw[bM x z];exact EU x z
  have kS:=qX.move λx af=>rQ x (qX.dv af);have y1:=(rQ aV (EV aV (.inl rfl))).trans tc;have Ji:=(rQ aj (EV aj (.inr (.inl rfl)))).trans ac4;have Jj:fi ll g6 sp ((List.range P.m).map (jN P f ao)):=ac5.move λq ah aO=>rQ _ (EV _ (.inr (.inr ⟨q,ah,rfl⟩)));have BV:¬X aS:=λz=>EV aS z f5;have Jk:¬bA m mO aS:=qX.out f5;have fin:∀(g7:ai) (c:cM) (d:ei) (t:Bool),cn A h (λx=>bA m mO x∨X x) g7->cN T m (fZ i) (a_++ic f (fV P.k P.s P.t f ao) i++[⟨((f+(spot P ao i).1:Nat):Int),(((spot P ao i).2:Nat):Int),false⟩]) mO g7->g7 aV=dB (l3 P m.b f dV mp) hN->g7 aj=some (.cells (ae.cells (.ws 8 d)).toArray 49 (0,0))->fi ll g7 sp ((List.range P.m).map (jN P f ao))->g7 aS=some (.cells (ae.cells (.ws 12 c)).toArray 69 (0,0))->c=strip bi (ee P ao dx i)->(d,t)=gO bi (ee P ao dx) (i+1) ->
   ∃cU:Option aG,bR g7 aV (0+3)=some (bZ cU)/\∃cP,bR g7 aV (0+4)=some (U cP)/\∃aZ:cM,bP g7 aS 0 aZ/\aw 115 [bZ cU,U (al (cP+2)),U i,ec aZ] g7 λv4 cO=>v4= .tuple #[]/\∃aD,aD<P.m-i/\((⟨aV,0⟩:aG)=⟨aV,0⟩/\bi=bi/\(ao:Int)=ao/\(to:Int)=to/\v=v/\(⟨aj,0⟩:aG)=⟨aj,0⟩/\sp=sp/\sp=sp/\((P.m:Nat):Int)=(P.m:Nat)/\∃(di:Nat) (bb:an),al ((i:Int)+1)=di/\di<=P.m/\aD=P.m-di/\t=(gO bi (ee P ao dx) di).2/\fk (fZ di) (a_++ic f (fV P.k P.s P.t f ao) di) bb (gO bi (ee P ao dx) di).1 cO):=by
   rintro g7 c d t lu o_ td uS BW Jl rfl QS;refine⟨some ⟨m.b,0⟩,aF td rfl,_,aF td rfl,_,da Jl,?_⟩;rw[hB];have Jm:∀x,X x->g7 x≠none:=by
    rintro x (rfl|rfl|⟨q,ah,rfl⟩)
    .rw[td];simp
    .rw[uS];simp
    .exact BW.there (k:=1) l9 ah (by simp;omega)
   refine(wX o_ jq (show i<m.cq (f+2) by omega) _ (by simp only[as9,atA];omega)).mono ?_;rintro _ g8 ⟨oj,rfl,om,gr⟩;obtain⟨dC,Jn⟩:=kH gr Jm qS;rw[ac3] at om;refine⟨rfl,P.m-(i+1),by omega,rfl,rfl,rfl,rfl,rfl,rfl,rfl,rfl,rfl,i+1,oj,bl,by omega,rfl,by rw[<-QS],?_,lu.trans (mS gr),Jn,(dC aV (.inl rfl)).trans td,?_,BW.move λq ah _=>dC _ (.inr (.inr ⟨q,ah,rfl⟩))⟩
   .rw[BC,as8 (by rw[qa o];simpa using bN)];have iE:(fV P.k P.s P.t f ao).getD i ⟨0,0⟩=jN P f ao i:=by rw[qa o];simp[List.getD,bN]
    rw[iE,show ∀(a b:List dt) (x y:dt),a++(b++([x]++[y]))=a++b++[x]++[y] by simp,qc];exact om
   .rw[dC aj (.inr (.inl rfl)),uS,<-QS]
  have j0:dm (ee P ao dx i)=decide ((ee P ao dx i)[0]=1):=te _;refine⟨Int.NonNeg.mk 0,Int.NonNeg.mk 11,_,gi dK (i:=0) (by decide),b6 (λtf=>?_) λtf=>?_⟩
  .have c7:dm (ee P ao dx i)=true:=by rw[j0];exact atl tf
   refine⟨Int.NonNeg.mk 1,Int.NonNeg.mk 10,_,gi dK (i:=1) (by decide),hS (λJo=>?_) λJo=>?_⟩
   .have tg:(ee P ao dx i)[1]=bi:=atC Jo;refine⟨Int.NonNeg.mk 11,Int.NonNeg.mk 1,Int.NonNeg.mk 3,Int.NonNeg.mk 8,?_⟩;have iz:ey ak g6 ⟨fT (some ⟨aS,0⟩) 3 12 1,8,9,none⟩ (jh (ee P ao dx i)).toList:=by
     refine⟨by simp,(show(8:Nat)<=9 by decide),(by intro h;cases h),λq ah j aL=>?_⟩;cases ah;have lg:j<8:=by simpa using aL
     have:=gi dK (i:=3+j) (by omega);show bR g6 aS (0+3*1+j)=_;rw[show 0+3*1+j=3+j by omega,this];congr 2;rcases (show j=0∨j=1∨j=2∨j=3∨j=4∨j=5∨j=6∨j=7 by omega) with rfl|rfl|rfl|rfl|rfl|rfl|rfl|rfl<;>simp[jh]
    refine Jp iz (q:=⟨aj,0⟩) rfl (c:=8) (by simp) ?_;have el:((jh (ee P ao dx i)).toList.take 8).map ak=ae.cells (.ws 8 (jh (ee P ao dx i))):=by
     rw[at8 (by simp)];rfl
    rw[el,<-y2];refine fG (n:=8) o9 f1 Ji (by simp[ae.cells]) λg7 lu fq eU=>?_;have QT:aS≠aj:=λe=>BV (.inr (.inl e));refine fG (n:=12) lu o3 ((eU _ QT).trans dK) (by simp[ae.cells]) λg8 rY gg e_=>?_;have Jq:∀x,x≠aj->x≠aS->g8 x=g6 x:=λx aa aq=>(e_ x aq).trans (eU x aa);refine fin g8 gz _ true rY (kS.move λx af=>Jq x (λe=>qS aj (.inr (.inl rfl)) (e▸af)) λe=>Jk (e▸af)) ((Jq aV (atf BU) λe=>BV (.inl e.symm)).trans y1) ((e_ _ (atf QT)).trans fq) (Jj.move λq ah _=>Jq _ (QQ q ah).1 λe=>BV (.inr (.inr ⟨q,ah,e.symm⟩))) gg ?_ ?_
    .unfold strip;rw[as8 ⟨c7,tg⟩]
    .rw[gO,as8 ⟨c7,tg⟩]
   .have tg:¬(ee P ao dx i)[1]=bi:=λh=>atW Jo h;exact fin g6 _ _ _ o9 kS y1 Ji Jj dK (by unfold strip;rw[as7 λh=>tg h.2]) (by rw[gO,as7 λh=>tg h.2])
  .have c7:¬dm (ee P ao dx i)=true:=by rw[j0];simpa using tf
   exact fin g6 _ _ _ o9 kS y1 Ji Jj dK (by unfold strip;rw[as7 λh=>c7 h.1]) (by rw[gO,as7 λh=>c7 h.1])
 have hi:i=P.m:=by omega
 subst hi;generalize wY:wZ bi to (op.now (gO bi (ee P ao dx) P.m).1 (gO bi (ee P ao dx) P.m).2)=lO;let fa:Nat->dw:=λi=>dD R (f+2) λp=>if p<i then jx P ao bi dx lO p else R (f+2) p
 have rS:fZ P.m=fa P.m:=by
  show dD R (f+2) _=dD R (f+2) _;congr 1;funext p;by_cases c:p<P.m
  .rw[as8 c,as8 c];unfold jx;rw[as8 c]
  .rw[as7 c,as7 c]
 have EW:∀i,fs (fa i) (f+2,i) (jx P ao bi dx lO i)=fa (i+1):=λi=>by
  funext r j;show(if r=f+2/\j=i then _ else if r=f+2 then (if j<i then jx P ao bi dx lO j else R (f+2) j) else R r j)=if r=f+2 then (if j<i+1 then jx P ao bi dx lO j else R (f+2) j) else R r j
  by_cases aX:r=f+2
  .rw[as8 aX,as8 aX];by_cases aZ:j=i
   .rw[as8 ⟨aX,aZ⟩,d_,aZ]
   .rw[as7 (λh=>aZ h.2)];by_cases cp:j<i
    .rw[as8 cp,d_]
    .rw[as7 cp,cS]
  .rw[as7 (λh=>aX h.1),as7 aX,as7 aX]
 rw[rS] at ga;have QU:P.m<=2 ^ P.E:=by omega
 refine⟨λbJ e6 c5 dh ft c0 t2 bM ck g bI=>bJ=⟨aV,0⟩/\bi=e6/\c5=ao/\dh=to/\v=ft/\c0=⟨aj,0⟩/\t2=(gO bi (ee P ao dx) P.m).2/\sp=bM/\∃(i:Nat) (bb:an),ck=i/\P.m<=i/\i<=2 ^ P.E/\bI=2 ^ P.E-i/\fk (fa i) (a_++ic f (fV P.k P.s P.t f ao) i) bb (gO bi (ee P ao dx) P.m).1 g,
  ⟨2 ^ P.E-P.m,rfl,rfl,rfl,rfl,rfl,rfl,rfl,rfl,P.m,bb,by rw[yY],as_ _,QU,rfl,ga,iH,o7,jO,mR,dE⟩,?_⟩
 clear ga iH o7 jO mR dE;rintro bJ e6 c5 dh ft c0 t2 bM ck g0 bI ⟨rfl,rfl,rfl,rfl,rfl,rfl,rfl,rfl,i,eO,rfl,mB,hi,rfl,ga,iH,o7,jO,mR,dE⟩;refine⟨_,aF jO rfl,_,aF jO rfl,_,aF jO rfl,?_⟩;refine(Ed ol).to λg1 pa=>⟨_,rfl,?_⟩;rw[bz];have wW:=yX i;refine b6 (λb1=>?_) λc3=>?_
 .have bN:i<2 ^ P.E:=by omega
  refine bL λb4 g2 f5 cD bU=>⟨_,da (bU.get (pa.get mR)),?_⟩;have EX:=pa.trans bU;refine(bH g2 (λx af=>?_) _ _).mono ?_
  .have cR:=iH.2.1 x (aY x af).1 (λbV=>bV.elim (aY x af).2.1 (aY x af).2.2);rw[EX x (by rw[cR];exact(aY x af).1),cR]
  rintro _ g3 ⟨⟨bq,rfl,nE⟩,aD⟩;refine⟨bq,_,rfl,bL λdy g4 f6 dK cb=>?_⟩;have p7:=(EX.trans aD).trans cb;have uT:h b4=none:=iH.2.2 _ (pa.free f5);have BX:h dy=none:=iH.2.2 _ ((EX.trans aD).free f6);have n65:dy≠b4:=λe=>by rw[e,aD.get cD] at f6;cases f6
  refine fG (n:=8) (iH.more p7) BX dK rfl λg5 pb pc eI=>?_;have qf:∀x,X x->g0 x≠none:=by
   rintro x (rfl|rfl|⟨q,ah,rfl⟩)
   .rw[jO];simp
   .rw[mR];simp
   .exact dE.there (k:=1) l9 ah (by simp;omega)
  have EY:∀x,g0 x≠none->g5 x=g0 x:=λx af=>by
   rw[eI x λe=>af (e▸(EX.trans aD).free f6),p7 x af]
  have iJ:=ga.move λx af=>EY x (ga.dv af);have EZ:=(EY aV (qf aV (.inl rfl))).trans jO;have E0:=(EY aj (qf aj (.inr (.inl rfl)))).trans mR;have E1:fi ll g5 sp ((List.range P.m).map (jN P f ao)):=dE.move λq ah aO=>EY _ (qf _ (.inr (.inr ⟨q,ah,rfl⟩)));have ie:g5 b4=some (.cells (ae.cells (.ws 12 gz)).toArray 69 (0,0)):=by
   rw[eI _ (atf n65),(aD.trans cb).get cD,y2];rfl
  have uU:¬X b4:=λz=>qf b4 z (pa.free f5);have Jr:¬bA m eO b4:=ga.out (pa.free f5);have fin:∀(g7:ai) (c:cM),cn A h (λx=>bA m eO x∨X x) g7->cN T m (fa i) (a_++ic f (fV P.k P.s P.t f ao) i) eO g7->g7 aV=dB (l3 P m.b f dV mp) hN->g7 aj=some (.cells (ae.cells (.ws 8 (gO bi (ee P ao dx) P.m).1)).toArray 49 (0,0))->fi ll g7 sp ((List.range P.m).map (jN P f ao))->g7 b4=some (.cells (ae.cells (.ws 12 c)).toArray 69 (0,0))->c=jx P ao bi dx lO i ->
   ∃cU:Option aG,bR g7 aV (0+3)=some (bZ cU)/\∃cP,bR g7 aV (0+4)=some (U cP)/\∃aZ:cM,bP g7 b4 0 aZ/\aw 115 [bZ cU,U (al (cP+2)),U i,ec aZ] g7 λv4 cO=>v4= .tuple #[]/\∃aD,aD<2 ^ P.E-i/\((⟨aV,0⟩:aG)=⟨aV,0⟩/\bi=bi/\(ao:Int)=ao/\(to:Int)=to/\v=v/\(⟨aj,0⟩:aG)=⟨aj,0⟩/\(gO bi (ee P ao dx) P.m).2=(gO bi (ee P ao dx) P.m).2/\sp=sp/\∃(di:Nat) (bb:an),al ((i:Int)+1)=di/\P.m<=di/\di<=2 ^ P.E/\aD=2 ^ P.E-di/\fk (fa di) (a_++ic f (fV P.k P.s P.t f ao) di) bb (gO bi (ee P ao dx) P.m).1 cO):=by
   rintro g7 c lu o_ td uS BW Jl rfl;refine⟨some ⟨m.b,0⟩,aF td rfl,_,aF td rfl,_,da Jl,?_⟩;rw[hB];have Jm:∀x,X x->g7 x≠none:=by
    rintro x (rfl|rfl|⟨q,ah,rfl⟩)
    .rw[td];simp
    .rw[uS];simp
    .exact BW.there (k:=1) l9 ah (by simp;omega)
   refine(wX o_ jq (show i<m.cq (f+2) by omega) _ (by simp only[as9];omega)).mono ?_;rintro _ g8 ⟨oj,rfl,om,gr⟩;obtain⟨dC,Jn⟩:=kH gr Jm o7;rw[EW] at om;refine⟨rfl,2 ^ P.E-(i+1),by omega,rfl,rfl,rfl,rfl,rfl,rfl,rfl,rfl,i+1,oj,bl,by omega,by omega,rfl,?_,lu.trans (mS gr),Jn,(dC aV (.inl rfl)).trans td,(dC aj (.inr (.inl rfl))).trans uS,BW.move λq ah _=>dC _ (.inr (.inr ⟨q,ah,rfl⟩))⟩;rw[BC,as7 (by rw[qa o];simp;omega),List.nil_append,qc,<-atr];exact om
  refine hS (λab=>?_) λab=>?_
  .obtain⟨d,bK⟩:=Option.isSome_iff_exists.1 ab;have Js:=nE d bK;subst Js;refine hS (λhm=>?_) λhm=>?_
   .have Jt:i=P.m:=by
     have:(i:Int)=(sp.len:Int):=atC hm;omega
    refine⟨_,da pc,?_⟩;refine(ac6 bi (show to<2 ^ 63 by have:2 ^ P.k<=2 ^ 10:=atg (by decide) wE;omega) bq).to λg6 cV=>⟨_,rfl,?_⟩;refine fG (n:=12) (pb.more cV) uT (cV.get ie) (by simp[ae.cells]) λg7 lu fq eU=>?_;have wK:∀x,g5 x≠none->x≠b4->g7 x=g5 x:=λx aa ad=>(eU x ad).trans (cV x aa);refine fin g7 _ lu (iJ.move λx af=>wK x (iJ.dv af) λe=>Jr (e▸af)) ((wK aV (by rw[EZ];simp) λe=>uU (.inl e.symm)).trans EZ) ((wK aj (by rw[E0];simp) λe=>uU (.inr (.inl e.symm))).trans E0) (E1.move λq ah aO=>wK _ (E1.there (k:=1) l9 ah aO) λe=>uU (.inr (.inr ⟨q,ah,e.symm⟩))) fq ?_;unfold jx;rw[cS,as8 Jt,<-wY,bK];rfl
   .have Jt:¬i=P.m:=λe=>atW hm (by omega);refine fin g5 _ pb iJ EZ E0 E1 ie ?_;unfold jx;rw[cS,as7 Jt]
  .have ac7:op.now (gO bi (ee P ao dx) P.m).1 (gO bi (ee P ao dx) P.m).2=none:=by
    cases e:op.now (gO bi (ee P ao dx) P.m).1 (gO bi (ee P ao dx) P.m).2 with
    | none=>rfl
    | some d=>rw[e] at ab;cases ab
   refine fin g5 _ pb iJ EZ E0 E1 ie ?_;unfold jx;rw[cS];split
   .rw[<-wY,ac7];rfl
   .rfl
 have hi:i=2 ^ P.E:=by omega
 subst hi;have BY:cN T m (dD R (f+2) (hl P op bi ao to dx)) _ _ g1:=(cN.y3 (f:=hl P op bi ao to dx) (g:=R (f+2)) (by subst wY;exact ga) (by omega)).bE pa;refine(ac8 o BY L.kO (pa.get jO) (o7 aV (.inl rfl)) (by omega) jq lM fP (by rw[qY];exact y4 o lK fP yW gJ) (by simp only[as9];omega)).mono ?_;rintro _ g3 ⟨hO,rfl,fS,nD,aI,v3⟩;rw[w0,qY] at fS;rw[qY] at nD;let iK:=iT P ao (hl P op bi ao to dx);let W:Nat->dw:=λk=>lL f R (oo P ao iK (rZ P iK dx) k);have fS:cN T m (W 0) _ hO g3:=fS.congr λr aK j aL=>by
  show(if f<=r/\r<f+3 then (if r-f=2/\j<2 ^ P.E then iK j else dx (r-f) j) else R r j)=if r=f+2 then iK j else R r j
  by_cases aX:r=f+2
  .subst aX;rw[d_,as8 rfl,d_]
  .rw[as7 aX];by_cases aZ:f<=r/\r<f+3
   .rw[as8 aZ,cS,<-BT];show R (f+(r-f)) j=_;rw[show f+(r-f)=r by omega]
   .rw[as7 aZ]
 have Ju:∀k i,i<2 ^ P.E->W k (f+2) i=iK i:=λk i hi=>by
  show(if f<=f+2/\f+2<f+3 then oo P ao iK (rZ P iK dx) k (f+2-f) i else R (f+2) i)=_;rw[d_,show f+2-f=2 by omega,E2 k λp aM e=>?_]
  .show(if 2=2/\i<2 ^ P.E then iK i else dx 2 i)=_
   rw[as8 ⟨rfl,hi⟩]
  .unfold spot at e;split at e<;>simp at e
 have Jv:∀k,k<P.m->fs (W k) (f+(spot P ao k).1,(spot P ao k).2) ((iK k).set 11 0)=W (k+1):=λk ab=>by
  have s2:=(uR L o fP ab).2.2;funext r j;show(if r=f+(spot P ao k).1/\j=(spot P ao k).2 then _ else if f<=r/\r<f+3 then oo P ao iK (rZ P iK dx) k (r-f) j else R r j)=if f<=r/\r<f+3 then (if r-f=(spot P ao k).1/\j=(spot P ao k).2 then (iK k).set 11 0 else oo P ao iK (rZ P iK dx) k (r-f) j) else R r j
  by_cases aX:f<=r/\r<f+3
  .rw[as8 aX,as8 aX];by_cases aZ:r=f+(spot P ao k).1/\j=(spot P ao k).2
   .rw[as8 aZ,as8 ⟨by omega,aZ.2⟩]
   .rw[as7 aZ,as7 λh=>aZ ⟨by omega,h.2⟩]
  .rw[as7 aX,as7 aX,cS]
 have Jw:∀x,X x->g1 x≠none:=by
  rintro x (rfl|rfl|⟨q,ah,rfl⟩)
  .rw[pa.get jO];simp
  .rw[pa.get mR];simp
  .exact(dE.bE (k:=1) l9 pa).there (k:=1) l9 ah (by simp;omega)
 have Y:∀x,X x->x≠aV->g3 x=g1 x/\¬bA m hO x:=λx z af =>
  ⟨v3.2.1 x (Jw x z) λh=>h.elim (o7 x z) af,λhm=>(v3.out (Jw x z) λh=>h.elim (o7 x z) af) (.inl hm)⟩
 have lN:cn A h (λx=>bA m hO x∨X x) g3:=(((iH.more pa).to (C:=λx=>(bA m eO x∨x=aV)∨X x) λx af=>by
  rcases af with (af|rfl)|z
  .exact .inl (.inl af)
  .exact .inl (.inr (.inl rfl))
  .exact .inl (.inr z)).trans (mS v3)).to λx af=>by
  rcases af with af|z
  .exact .inl (.inl (.inl af))
  .exact .inl (.inr z)
 have QV:∀x,X x->¬bA m hO x:=λx z=>by
  by_cases c:x=aV
  .rw[c];exact aI
  .exact(Y x z c).2
 have r0:=(Y aj (.inr (.inl rfl)) BU).1.trans (pa.get mR);have QW:fi ll g3 sp ((List.range P.m).map (jN P f ao)):=(dE.bE (k:=1) l9 pa).move λq ah aO=>(Y q.b (.inr (.inr ⟨q,ah,rfl⟩)) (QQ q ah).2).1;clear M2 QR;generalize Jx:(dV||ki P ao (hl P op bi ao to dx))=w1 at nD;generalize nd:a_++ic f (fV P.k P.s P.t f ao) (2 ^ P.E)++(hI f P.E++hI f P.E)=uV at fS;have ac9:uV.length<1000010000000:=by
  rw[<-nd];simp only[as9];omega
 have Jy:∀n,(o0 f (fV P.k P.s P.t f ao) n).length=2*n:=λn=>IH _ _ _;refine⟨rfl,λdd dj t4 cZ n26 n27 g bI=>dd=⟨aV,0⟩/\dj=⟨aj,0⟩/\t4=(gO bi (ee P ao dx) P.m).2/\sp=cZ/\n26=(P.m:Nat)/\∃(i:Nat) (bb:an),n27=i/\i<=P.m/\bI=P.m-i/\cN T m (W i) (uV++o0 f (fV P.k P.s P.t f ao) i) bb g/\cn A h (λx=>bA m bb x∨X x) g/\(∀x,X x->¬bA m bb x)/\g aV=dB (l3 P m.b f w1 mp) hN/\g aj=some (.cells (ae.cells (.ws 8 (gO bi (ee P ao dx) P.m).1)).toArray 49 (0,0))/\fi ll g sp ((List.range P.m).map (jN P f ao)),
  ⟨P.m,rfl,rfl,rfl,rfl,by rw[yY],0,hO,rfl,by omega,rfl,by simpa [o0] using fS,lN,QV,nD,r0,QW⟩,?_⟩
 clear fS lN QV nD r0 QW ga iH o7 jO mR dE BY aI v3 Y Jw;rintro dd dj t4 cZ n26 n27 g bI ⟨rfl,rfl,rfl,rfl,rfl,i,mO,rfl,hi,rfl,ga,iH,o7,jO,mR,dE⟩;have th:=Jy i;refine b6 (λb1=>?_) λc3=>?_
 .have bN:i<P.m:=by omega
  obtain⟨wU,wV,Jh⟩:=uR L o fP bN;refine dE.e0 l9 (i:=i) (by simp;omega) λq ah iI=>?_;have e:((List.range P.m).map (jN P f ao))[i]'(by simp;omega)=jN P f ao i:=by simp
  rw[e] at iI;obtain⟨aX,aZ,_⟩:=iI;rw[show(i:Int).toNat=i by omega];refine⟨_,aX,_,aZ,bL λeQ qO f7 fq cV=>?_⟩;have E3:h eQ=none:=iH.2.2 _ f7;refine qe (iH.more cV) E3 fq (by simp) λqZ ac_ q0 eU=>?_;have oi:∀x,g x≠none->qZ x=g x:=λx af=>by rw[eU x λe=>af (e▸f7),cV x af]
  have qf:∀x,X x->g x≠none:=by
   rintro x (rfl|rfl|⟨q,ah,rfl⟩)
   .rw[jO];simp
   .rw[mR];simp
   .exact dE.there (k:=1) l9 ah (by simp;omega)
  have M2:=ga.move λx af=>oi x (ga.dv af);have QX:=(oi aV (qf aV (.inl rfl))).trans jO;refine⟨some ⟨m.b,0⟩,aF QX rfl,_,aF QX rfl,?_⟩;rw[hB];refine(uO M2 jq (show i<m.cq (f+2) by omega) (by simp only[as9];omega)).mono ?_;rintro _ q2 ⟨r1,rfl,iJ,v5⟩;obtain⟨cZ,ada⟩:=kH v5 (λx z=>by rw[oi x (qf x z)];exact qf x z) o7;rw[Ju i i (by omega)];have QY:¬bA m mO eQ:=ga.out f7;have QZ:=v5.get q0 QY;have Jz:=v5.out (by rw[q0];simp) QY;refine⟨_,rfl,bL λfI yA f8 gg dT=>?_⟩;have pb:=ac_.trans (mS v5);have Q0:h fI=none:=pb.2.2 _ f8;refine fG (n:=12) (pb.more dT) Q0 gg rfl λar2 o9 JA e_=>⟨Int.NonNeg.mk 11,Int.NonNeg.mk 0,?_⟩;refine nf o9 Q0 JA (i:=11) (by decide) λQ1 lu E4 adb=>?_;have rQ:∀x,q2 x≠none->Q1 x=q2 x:=λx af=>by
   have Q2:x≠fI:=λe=>af (e▸f8);rw[adb x Q2,e_ x Q2,dT x af]
  have EU:∀x,X x->q2 x≠none:=λx z=>by rw[cZ x z,oi x (qf x z)];exact qf x z
  have kS:=iJ.move λx af=>rQ x (iJ.dv af);have BZ:∀x,X x->Q1 x=g x:=λx z=>by rw[rQ x (EU x z),cZ x z,oi x (qf x z)]
  have y1:=(BZ aV (.inl rfl)).trans jO;have Q3:=(rQ eQ (by rw[QZ];simp)).trans QZ;refine⟨some ⟨m.b,0⟩,aF y1 rfl,_,aF Q3 rfl,_,aF Q3 rfl,_,da E4,?_⟩;refine(wX kS wU wV _ (by simp only[as9,atA];omega)).mono ?_;rintro _ ar3 ⟨s6,rfl,o_,ft⟩;obtain⟨du,yN⟩:=kH ft (λx z=>by rw[BZ x z];exact qf x z) ada;rw[Jv i bN] at o_;refine⟨rfl,P.m-(i+1),by omega,rfl,rfl,rfl,rfl,rfl,i+1,s6,bl,by omega,rfl,?_,lu.trans (mS ft),yN,(du aV (.inl rfl)).trans y1,((du aj (.inr (.inl rfl))).trans (BZ aj (.inr (.inl rfl)))).trans mR,dE.move λq ah _=>(du _ (.inr (.inr ⟨q,ah,rfl⟩))).trans (BZ _ (.inr (.inr ⟨q,ah,rfl⟩)))⟩;have iE:(fV P.k P.s P.t f ao).getD i ⟨0,0⟩=jN P f ao i:=by rw[qa o];simp[List.getD,bN]
  rw[IG,iE,show ∀(a b:List dt) (x y:dt),a++(b++[x,y])=a++b++[x]++[y] by simp,qc];exact o_
 .have hi:i=P.m:=by omega
  subst hi;refine⟨_,da mR,?_⟩;refine fG (n:=8) iH f1 mR (by simp[ae.cells]) λcl rY gg e_=>⟨_,da gg,mO,rfl,?_,?_,o7 aV (.inl rfl),rY.to λx af=>?_⟩
  .have iE:uV++o0 f (fV P.k P.s P.t f ao) P.m=a_++mI P.k P.s P.t f ao:=by
    have jd:(fV P.k P.s P.t f ao).length=P.m:=by rw[qa o];simp
    unfold mI;rw[<-L.E,jd,<-nd];simp
   rw[<-iE];exact ga.move λx af=>e_ x λe=>o7 aj (.inr (.inl rfl)) (e▸af)
  .rw[e_ _ (atf BU),jO,<-Jx];rfl
  .rcases af with af|rfl
   .exact .inl (.inl af)
   .exact .inl (.inr (.inl rfl))
end
end Go.Proofs.Tryz
namespace Go.Proofs.Tryz
open Go Go.cQ Go.RowKit
set_option maxRecDepth 8000
def lf (h:ai)(b:Nat)(ids:List a8):Prop:=∃(l:List (a8×Value×Nat)) (clock:Nat),h b=some (.map (l.map oq).toArray clock)/\l.map (·.1)=ids
theorem lf.move {h ag:ai}{b:Nat}{ids:List a8}(m:lf h b ids)(e:ag b=h b):lf ag b ids:=by
 obtain⟨l,c,aa,ad⟩:=m;exact⟨l,c,by rw[e,aa],ad⟩
theorem lf.dv {h:ai}{b:Nat}{ids:List a8}(m:lf h b ids):h b≠none:=by
 obtain⟨l,c,aa,_⟩:=m;rw[aa];simp
theorem modify_keys {v:Value}(k:a8):∀(l:List (a8×Value×Nat)) (i:Nat),(∀h:i<l.length,l[i].1=k)->(l.modify i λe=>(k,v,e.2.2)).map (·.1)=l.map (·.1)
 | [],i,_=>by cases i<;>rfl
 | e::l,0,h=>by
  have:=h (by simp);simp at this;simp[List.modify,this]
 | e::l,i+1,h=>by
  have c6:=modify_keys (v:=v) k l i λhi=>by have:=h (by simpa using hi);simpa using this
  simp only[List.modify_succ_cons,at1,c6]
theorem Q4 {h:ai}{b:Nat}{ids:List a8}{k:a8}{v:Value}{K:ai->Prop}(m:lf h b ids)(ab:∀ag,lf ag b (if k∈ids then ids else ids++[k])->(∀x,x≠b->ag x=h x)->K ag):q3 h (some b) k v K:=by
 obtain⟨l,c,aa,ad⟩:=m;refine⟨b,l,c,rfl,aa,ab _ ?_ λx af=>cJ _ _ af⟩;unfold JB;cases bf:l.findIdx? (λe=>e.1==k) with
 | some i =>
  rw[List.findIdx?_eq_some_iff_getElem] at bf;obtain⟨hi,he,_⟩:=bf;have he:l[i].1=k:=by simpa using he
  have hm:k∈ids:=by rw[<-ad,<-he];exact atE.2 ⟨_,aty hi,rfl⟩
  rw[as8 hm];refine⟨l.modify i λe=>(k,v,e.2.2),c,ea _ _ _,?_⟩;rw[modify_keys k l i λ_=>he,ad]
 | none =>
  rw[List.findIdx?_eq_none_iff] at bf;have hm:¬k∈ids:=by
   rw[<-ad];intro af;obtain⟨e,he,rfl⟩:=atE.1 af;have:=bf e he;simp at this
  rw[as7 hm];exact⟨l++[(k,v,c)],c+1,ea _ _ _,by rw[atD,ad];rfl⟩
def wH:fN->Int->Int->ei->Prop
 | .look,k,_,_=>k=0
 | .put bq,k,_,d=>k=1/\bq=d
 | .part a x y,k,at_,d=>k=2/\at_=a/\a<=6/\x=d[0]/\y=d[1]
 | .drop,k,_,_=>k=3
theorem ade {n:Nat}(c:bk n){i:Nat}(hi:i+1<n)(x y:a8):hg (ae.cells (.ws n c)).toArray i [ak x,ak y]=(ae.cells (.ws n ((c.setIfInBounds i x).setIfInBounds (i+1) y))).toArray:=by
 have aC:hg (ae.cells (.ws n c)).toArray i [ak x,ak y]=hg (hg (ae.cells (.ws n c)).toArray i [ak x]) (i+1) [ak y]:=rfl;rw[aC,E5 c (by omega),E5 _ hi];congr 2;have:(c.set i x).set (i+1) y=(c.setIfInBounds i x).setIfInBounds (i+1) y:=by
  apply aub;intro j aL;simp[atL,Vector.getElem_setIfInBounds]
 rw[this]
theorem adf {op:fN}{k at_:Int}{d:ei}(fE:wH op k at_ d){h0:ai}{aB aS b7:Nat}{t2 t3 t4:TypeId}(a7:h0 aB=some (.cells #[U k] t2 (0,0)))(b2:h0 aS=some (.cells #[U at_] t3 (0,0)))(b5:h0 b7=some (.cells (ae.cells (.ws 8 d)).toArray t4 (0,0))) :
 QO (λx=>x=aB∨x=aS∨x=b7) h0 (.func (.func 119) #[] #[bu ⟨aB,0⟩,bu ⟨b7,0⟩,bu ⟨aS,0⟩]) op:=by
 intro g cR old there;have g2:=(cR aB (.inl rfl)).trans a7;have g3:=(cR aS (.inr (.inl rfl))).trans b2;have g4:=(cR b7 (.inr (.inr rfl))).trans b5;refine⟨rfl,?_⟩;refine adg _ _ _ _ _ ?_;unfold Q5;refine bL λbO aa f1 lP aE=>bL λca ad f2 kj az=>?_;have eA:=aE.trans az;have cE:ca≠bO:=λe=>by rw[e,lP] at f2;cases f2
 have f20:=aE.free f2;have r2:=az.get lP;have aK:=da (eA.get g4);refine⟨_,aF (eA.get g2) rfl,?_⟩;cases op with
 | look =>
  have ab:k=0:=fE;subst ab;refine b0 rfl (b0 rfl ⟨_,da r2,hS (λbz=>?_) λbz=>?_⟩)
  .refine⟨_,aF (eA.get g2) rfl,m8 (n:=8) eA f20 kj rfl λaq aD ot _=>⟨⟨aF (aD.get g2) rfl,trivial⟩,_,da ot,⟨old,?_,?_⟩,aD⟩⟩
   .rw[bz];rfl
   .intro x af;rw[bz] at af;exact atH af
  .refine m8 (n:=8) eA f20 kj rfl λaq aD ot _=>⟨_,da ot,⟨old,?_,?_⟩,aD⟩
   .rw[bz];rfl
   .intro x af;rw[bz] at af;cases af
 | put bq =>
  obtain⟨rfl,rfl⟩:=fE;refine eh rfl ⟨_,aK,m8 (n:=8) eA f20 kj rfl λaq aD ot _=>⟨_,da ot,⟨_,rfl,?_⟩,aD⟩⟩;intro x af;exact atH af
 | drop =>
  have ab:k=3:=fE;subst ab;refine b0 rfl (b0 rfl ⟨_,da r2,hS (λbz=>?_) λbz=>?_⟩)
  .refine⟨_,aF (eA.get g2) rfl,m8 (n:=8) eA f20 kj rfl λaq aD ot _=>⟨⟨aF (aD.get g2) rfl,trivial⟩,_,da ot,⟨_,rfl,?_⟩,aD⟩⟩;intro x af;cases af
  .refine m8 (n:=8) eA f20 kj rfl λaq aD ot _=>⟨_,da ot,⟨_,rfl,?_⟩,aD⟩;intro x af;cases af
 | part a x y =>
  obtain⟨rfl,rfl,bV,rfl,rfl⟩:=fE;refine b0 rfl (eh rfl ⟨_,aF (eA.get g3) rfl,by omega,by omega,Int.NonNeg.mk 2,Int.NonNeg.mk 6,?_⟩);have iz:ey ak ad ⟨fT (some ⟨b7,0⟩) 0 8 1,2,8,none⟩ [d[0],d[1]]:=by
   refine⟨rfl,(show(2:Nat)<=8 by decide),(by intro h;cases h),λq ah j aL=>?_⟩;cases ah;have lg:j=0∨j=1:=by simp at aL;omega
   rcases lg with rfl|rfl
   .exact gi (eA.get g4) (i:=0) (by decide)
   .exact gi (eA.get g4) (i:=1) (by decide)
  have wD:Int.toNat (a:Int)=a:=by omega
  rw[wD];refine Jp iz (q:=⟨bO,a⟩) ?_ (c:=2) ?_ ?_
  .show an.q ⟨fT (some ⟨bO,0⟩) a 8 1,8-a,8-a,none⟩=_;unfold fT an.q;rw[cS];simp
  .show 2=min 2 (8-a);omega
  .refine n0 eA f1 r2 (by simp[ae.cells];omega) λaq aD ot c9=>?_;have adh:aq bO=some (.cells (ae.cells (.ws 8 ((old.setIfInBounds a d[0]).setIfInBounds (a+1) d[1]))).toArray 49 (0,0)):=by
    rw[ot,<-ade old (by omega)];rfl
   refine⟨_,da adh,m8 (n:=8) aD f20 ((c9 _ cE).trans kj) rfl λaJ bc uW _=>⟨_,da uW,⟨_,rfl,?_⟩,bc⟩⟩;intro x af;exact atH af
end Go.Proofs.Tryz
namespace Go.Proofs.Tryz
open Go Go.cQ Go.RowKit
set_option maxRecDepth 8000
theorem Q6 {h:ai}{aj aV k:Nat}(aC:bR h aj 0=some (bu ⟨aV,0⟩))(el:bR h aV 0=some (U (2 ^ k))){x:Nat}(af:x<2 ^ k){K:Value->ai->Prop}(ab:K (.bool false) h) :
 aw 117 [U x,bu ⟨aj,0⟩] h K:=by
 refine adi _ _ ?_;unfold Q7;have ad:((2 ^ k:Nat):Int)=2 ^ k:=by simp
 refine b0 (hv) ⟨some ⟨aV,0⟩,aC,_,rfl,_,el,?_⟩;have:(bif false then true else decide ((2:Int) ^ k<=(x:Int)))=false:=hv;rw[this];exact ab
section
variable {T:TypeId} {m:jo} {R:dw} {a_:List dt} {es:an} {h:ai}
theorem Q8 {P:c1}{f:Nat}(o:P.dk)(L:oR m P f)(M:cN T m R a_ es h){hN:TypeId}{aV mp:Nat}{dV:Bool}{ids:List a8}(jb:h aV=dB (l3 P m.b f dV mp) hN)(E6:lf h mp ids)(ta:¬bA m es aV)(Q9:¬bA m es mp)
 {ao to:Nat} (fP:ao<2 ^ P.k) (yW:to<2 ^ P.k) {bi:a8} (gJ:bi.toNat<=2147483648) (lK:qb P (jg f R)) {op:fN} {k at_:Int} {d:ei} (fE:wH op k at_ d) (aO:a_.length<1000000000000) :
 aw 64 [bu ⟨aV,0⟩,U k,ak bi,U at_,ec d,U ao,U to] h λr ag=>∃bb,r= .tuple #[ec (j4 P bi ao (jg f R)).1,.bool (j4 P bi ao (jg f R)).2]/\cN T m (lL f R (kY P op bi ao to (jg f R))) (a_++mI P.k P.s P.t f ao) bb ag /\
  ag aV=dB (l3 P m.b f (dV||qV P op bi ao to (jg f R)) mp) hN/\lf ag mp (meets op bi ids)/\¬bA m bb aV/\¬bA m bb mp/\cn (λx=>bA m es x∨x=aV∨x=mp) h (λx=>bA m bb x∨x=aV∨x=mp) ag:=by
 have Q_:mp≠aV:=λe=>by obtain⟨l,c,aa,_⟩:=E6;rw[e,jb] at aa;cases aa
 have ab:(k=0/\∀l,meets op bi l=l)∨(k=1/\∀l,meets op bi l=if bi∈l then l else l++[bi])∨(k=2/\0<=at_/\at_<=6/\∀l,meets op bi l=if bi∈l then l else l++[bi])∨(k=3/\∀l,meets op bi l=l):=by
  cases op with
  | look=>exact .inl ⟨fE,λ_=>rfl⟩
  | put bq=>exact .inr (.inl ⟨fE.1,λ_=>rfl⟩)
  | part a x y=>exact .inr (.inr (.inl ⟨fE.1,by have:=fE.2.1;omega,by have:=fE.2.1;have:=fE.2.2.1;omega,λ_=>rfl⟩))
  | drop=>exact .inr (.inr (.inr ⟨fE,λ_=>rfl⟩))
 refine adj _ _ _ _ _ _ _ ?_;unfold Ra;refine bL λaj aa f1 aC aE=>bL λaB ad f2 a7 az=>bL λaS aq f3 b2 aD=>bL λb7 aJ f4 b5 bc=>bL λb4 aW f5 cD bU=>?_;have jf:=(az.trans aD).trans (bc.trans bU);have hy:=aE.trans jf;have g1:=jf.get aC;have g2:=((aD.trans bc).trans bU).get a7;have g3:=(bc.trans bU).get b2;have g4:=bU.get b5;have kT:=hy.get jb;have f50:h b4=none:=aE.free (az.free (aD.free (bc.free f5)));have f20:h aB=none:=aE.free f2;have f30:h aS=none:=aE.free (az.free f3);have f40:h b7=none:=aE.free (az.free (aD.free f4));have iJ:=M.bE hy;have E7:lf aW mp ids:=E6.move (hy mp E6.dv);have B0:∀x,h x=none->x≠aV:=λx af e=>by rw[e,jb] at af;cases af
 have y5:∀x,h x=none->x≠mp:=λx af e=>E6.dv (e▸af);have E8:∀x,h x=none->¬bA m es x:=λx af hm=>M.dv hm af;have n52:b4≠aB:=λe=>by rw[e,((aD.trans bc)).get a7] at f5;cases f5
 have n53:b4≠aS:=λe=>by rw[e,bc.get b2] at f5;cases f5
 have n54:b4≠b7:=λe=>by rw[e,b5] at f5;cases f5
 have acc:∀(g:ai) (ng:List a8),(∀x,x≠mp->g x=aW x)->lf g mp ng->ng=meets op bi ids ->
  ∃c9:Option aG,bR g aj 0=some (bZ c9)/\aw 118 [bZ c9,ak bi,U ao,U to,.func (.func 119) #[] #[bu ⟨aB,0⟩,bu ⟨b7,0⟩,bu ⟨aS,0⟩]] g λv3 dr=>∃ha:ei,∃t3,v3= .tuple #[ec ha,.bool t3]/\a1 dr ⟨b4,0⟩ (ae.cells (.ws 8 ha)) λeP=>∃jy:ei,bP eP b4 0 jy /\
   ∃bb,Value.tuple #[ec jy,.bool t3]= .tuple #[ec (j4 P bi ao (jg f R)).1,.bool (j4 P bi ao (jg f R)).2]/\cN T m (lL f R (kY P op bi ao to (jg f R))) (a_++mI P.k P.s P.t f ao) bb eP /\
  eP aV=dB (l3 P m.b f (dV||qV P op bi ao to (jg f R)) mp) hN/\lf eP mp (meets op bi ids)/\¬bA m bb aV/\¬bA m bb mp/\cn (λx=>bA m es x∨x=aV∨x=mp) h (λx=>bA m bb x∨x=aV∨x=mp) eP:=by
  rintro g ng cR E9 rfl;have q1:=(cR aj (y5 _ f1)).trans g1;have aP:=(cR aB (y5 _ f20)).trans g2;have bs:=(cR aS (y5 _ f30)).trans g3;have bJ:=(cR b7 (y5 _ f40)).trans g4;have c0:=(cR b4 (y5 _ f50)).trans cD;have nF:=(cR aV (atf Q_)).trans kT;have ga:cN T m R a_ es g:=iJ.move λx af=>cR x λe=>Q9 (e▸af);have adk:cn (λx=>bA m es x∨x=aV∨x=mp) h (λx=>bA m es x∨x=aV∨x=mp) g:=by
   refine⟨λx af=> .inl af,λx af aH=>?_,λx af=>?_⟩
   .rw[cR x λe=>aH (.inr (.inr e)),hy x af]
   .by_cases e:x=mp
    .rw[e] at af;exact absurd af E9.dv
    .rw[cR x e] at af;exact hy.free af
  refine⟨some ⟨aV,0⟩,aF q1 rfl,?_⟩;refine(acX o L ga nF ta fP yW gJ lK (op:=op) (G:=λx=>x=aB∨x=aS∨x=b7) ?_ (adf fE aP bs bJ) aO).mono ?_
  .rintro x (rfl|rfl|rfl)
   .exact⟨by rw[aP];simp,E8 _ f20,B0 _ f20⟩
   .exact⟨by rw[bs];simp,E8 _ f30,B0 _ f30⟩
   .exact⟨by rw[bJ];simp,E8 _ f40,B0 _ f40⟩
  rintro _ dr ⟨bb,rfl,adl,adm,c5,mT⟩;have uX:cn (λx=>bA m es x∨x=aV∨x=mp) h (λx=>bA m bb x∨x=aV∨x=mp) dr :=
   ((adk.to (C:=λx=>(bA m es x∨x=aV)∨x=mp) λx af=> .inl (af.elim (λh=>h.elim .inl λh=> .inr (.inl h)) λh=> .inr (.inr h))).trans (mS mT)).to λx af=> .inl (af.elim (λh=> .inl (.inl h)) λh=>h.elim (λh=> .inl (.inr h)) .inr)
  have Rb:¬(bA m es mp∨mp=aV):=λh=>h.elim Q9 Q_;have adn:lf dr mp (meets op bi ids):=E9.move (mT.2.1 mp E9.dv Rb);have ado:¬bA m bb mp:=λh=>mT.out E9.dv Rb (.inl h);have w2:¬(bA m es b4∨b4=aV):=λh=>h.elim (E8 _ f50) (B0 _ f50);have adp:=mT.get c0 w2;have Jr:¬bA m bb b4:=λh=>mT.out (by rw[c0];simp) w2 (.inl h);refine⟨_,_,rfl,fG (n:=8) uX f50 adp rfl λeP JC BQ w3=>⟨_,da BQ,bb,rfl,adl.move λx af=>w3 x λe=>Jr (e▸af),(w3 _ (atf (B0 _ f50))).trans adm,adn.move (w3 _ (atf (y5 _ f50))),c5,ado,JC⟩⟩
 have ar4:0<=k/\k<=3:=by rcases ab with h|h|h|h<;>omega
 have tg:¬2147483648<bi:=λh=>by have:=atY.1 h;have e:(2147483648:a8).toNat=2147483648:=rfl;omega
 refine⟨_,aF g2 rfl,b0 (hv) ⟨_,aF g2 rfl,b0 (hv) (b0 (ati tg) ?_)⟩⟩;refine Q6 (aF g1 rfl) (aF kT rfl) fP ⟨_,rfl,b0 rfl ?_⟩;refine Q6 (aF g1 rfl) (aF kT rfl) yW ⟨_,rfl,b0 rfl ?_⟩;rcases ab with ⟨rfl,hm⟩|⟨rfl,hm⟩|⟨rfl,ar5,adq,hm⟩|⟨rfl,hm⟩
 .refine⟨_,aF g2 rfl,b0 rfl ⟨_,aF g2 rfl,b0 rfl ⟨_,aF g2 rfl,b0 rfl ?_⟩⟩⟩;exact acc aW ids (λ_ _=>rfl) E7 (hm ids).symm
 .refine⟨_,aF g2 rfl,b0 rfl ⟨_,aF g2 rfl,eh rfl ⟨some ⟨aV,0⟩,aF g1 rfl,_,rfl,some mp,aF kT rfl,Q4 E7 λeW JD md=>?_⟩⟩⟩;exact acc eW _ md JD (hm ids).symm
 .refine⟨_,aF g2 rfl,eh rfl ⟨_,aF g3 rfl,b0 (hv) ⟨_,aF g3 rfl,b0 (hv) ⟨_,aF g2 rfl,b0 rfl ⟨_,aF g2 rfl,eh rfl ⟨some ⟨aV,0⟩,aF g1 rfl,_,rfl,some mp,aF kT rfl,Q4 E7 λeW JD md=>?_⟩⟩⟩⟩⟩⟩;exact acc eW _ md JD (hm ids).symm
 .refine⟨_,aF g2 rfl,b0 rfl ⟨_,aF g2 rfl,b0 rfl ⟨_,aF g2 rfl,b0 rfl ?_⟩⟩⟩;exact acc aW ids (λ_ _=>rfl) E7 (hm ids).symm
end

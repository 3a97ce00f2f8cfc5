import Derived.Test.YtegdpmgnhnccaaaGreatRefE
import Derived.Test.YtegdpmgnhnccaaaGreatRun
namespace Go.Proofs.Tryz
open Go Go.cR Go.RowKit
set_option maxRecDepth 8000
section
variable {T:TypeId} {m:jQ} {R:dY} {a8:List dk} {es:ao} {h:ak}
theorem adS (M:c8 T m R a8 es h){r a:Nat}(aQ:r<m.fl)(bY:a<m.cx r):aq 74 [bm ⟨m.b,0⟩,U r,U a] h λv af=>v= .bool true/\af=h:=by
 refine aru _ _ _ ?_;unfold abP;refine dF (pa) ((ux M aQ).mono ?_);rintro _ _ ⟨rfl,rfl⟩;exact⟨_,rfl,congrArg Value.bool (pa),rfl⟩
theorem w1 (M:c8 T m R a8 es h){r a:Nat}(aQ:r<m.fl)(bY:a<m.cx r)(aT:a8.length<5000000000000) :
 aq 31 [bm ⟨m.b,0⟩,U r,U a] h λv af=>∃aX,v=ez (R r a)/\c8 T m R (a8++[⟨r,a,false⟩]) aX af/\bT (bS m es) h (bS m aX) af:=by
 refine aqy _ _ _ ?_;unfold abt;refine bP λae aa f1 aH aD=>?_;have oY:=M.bA aD;refine(adS oY aQ bY).mono ?_;rintro _ _ ⟨rfl,rfl⟩;have hG:¬bS m es ae:=M.out f1;refine⟨true,rfl,b3 rfl ⟨_,az oY.top rfl,?_⟩⟩;refine oY.note ⟨r,a,false⟩ aT λaX ad M2 v=>⟨_,az M2.top rfl,?_⟩;have a_:=v.get aH hG;have Qf:=v.out (by rw[aH];simp) hG;refine M2.Gr aQ λq a1=>⟨_,a1,_,rfl,by omega,by show(a:Int)+1<=(m.cx r:Nat);omega,R r a,?_,?_⟩
 .show b5 ad (m.jS r) (0+Int.toNat (a:Int)*12) _;rw[show 0+Int.toNat (a:Int)*12=a*12 by omega];exact M2.rd aQ bY
 .exact fN (n:=12) ((hj aD (bS m es)).trans v) f1 a_ rfl λan v3 b7 da=>⟨_,dL b7,aX,rfl,M2.move λx ai=>da x λe=>Qf (e▸ai),v3⟩
theorem w3 (M:c8 T m R a8 es h){r a:Nat}(aQ:r<m.fl)(bY:a<m.cx r)(c:cM)(aT:a8.length<5000000000000) :
 aq 121 [bm ⟨m.b,0⟩,U r,U a,ez c] h λv af=>∃aX,v= .tuple #[]/\c8 T m (fM R (r,a) c) (a8++[⟨r,a,true⟩]) aX af/\bT (bS m es) h (bS m aX) af:=by
 refine ass _ _ _ _ ?_;unfold aca;refine bP λae aa f1 aH aD=>?_;have oY:=M.bA aD;refine(adS oY aQ bY).mono ?_;rintro _ _ ⟨rfl,rfl⟩;have hG:¬bS m es ae:=M.out f1;refine⟨true,rfl,b3 rfl ⟨_,az oY.top rfl,?_⟩⟩;refine oY.note ⟨r,a,true⟩ aT λaX ad M2 v=>⟨_,az M2.top rfl,?_⟩;have a_:=v.get aH hG;refine M2.Gr aQ λq a1=>⟨_,a1,_,dL a_,_,rfl,by omega,by show(a:Int)+1<=(m.cx r:Nat);omega,?_⟩;show aW ad ⟨m.jS r,0+Int.toNat (a:Int)*12⟩ _ _;rw[show 0+Int.toNat (a:Int)*12=a*12 by omega];exact M2.put aQ bY c λan gH v3=>⟨aX,rfl,gH,((hj aD (bS m es)).trans v).trans v3⟩
theorem av1 (M:c8 T m R a8 es h){r:Nat}(aQ:r<m.fl)(x:aE)(aT:a8.length<4000000000000) :
 aq 66 [bm ⟨m.b,0⟩,U r,ab x] h λv af=>∃aX,v=ez (if x.toNat<m.cx r then R r x.toNat else fm)/\c8 T m R (a8++reads r (m.cx r)) aX af/\bT (bS m es) h (bS m aX) af:=by
 have pf:=M.cx r aQ;refine arj _ _ _ ?_;unfold abL;refine bP λae aa f1 aH aD=>bP λax ad f2 a_ aB=>?_;have cd:ax≠ae:=λe=>by rw[e,aH] at f2;cases f2
 have M2:=M.bA (aD.trans aB);have f20:=aD.free f2;refine⟨λq1 aA bu aI bb aO g k=>q1=⟨m.b,0⟩/\aA=r/\x=bu/\aI=⟨ae,0⟩/\bb=⟨ax,0⟩/\∃i aX,aO=(i:Nat)/\i<=m.cx r/\k=m.cx r-i/\c8 T m R (a8++reads r i) aX g/\bT (bS m es) h (bS m aX) g/\¬bS m aX ae/\¬bS m aX ax /\
  g ae=some (.cells (ag.cells (.ws 12 fm)).toArray 69 (0,0))/\g ax=some (.cells (ag.cells (.ws 12 (if x.toNat<i then R r x.toNat else fm))).toArray 69 (0,0)),
  ⟨m.cx r,rfl,rfl,rfl,rfl,rfl,0,es,rfl,by omega,rfl,by simpa [reads] using M2,hj (aD.trans aB) _,M.out f1,M.out f20,aB.get aH,a_⟩,?_⟩
 rintro q1 aA bu aI bb aO g k ⟨rfl,rfl,rfl,rfl,rfl,i,aX,rfl,hi,rfl,gI,gl,e9,jT,g1,g2⟩;have rf:=rh r i;refine(ux gI aQ).mono ?_;rintro _ _ ⟨rfl,rfl⟩;refine⟨_,rfl,cj (λcl=>?_) λdH=>?_⟩
 .have cb:i<m.cx r:=by omega
  refine(w1 gI aQ cb (by rw[aDs,rf];omega)).mono ?_;rintro _ g3 ⟨hp,rfl,gH,v3⟩;have lZ:=gl.trans v3;have mS:=v3.get g1 e9;have sZ:=v3.get g2 jT;have n9:=v3.out (by rw[g1];simp) e9;have w7:=v3.out (by rw[g2];simp) jT;refine⟨_,rfl,bP λaM g4 f4 b6 bd=>fN (n:=12) (lZ.more bd) (lZ.2.2 aM f4) b6 rfl λg5 v5 cG cz=>?_⟩;have n31:ae≠aM:=λe=>by rw[<-e,mS] at f4;cases f4
  have n32:ax≠aM:=λe=>by rw[<-e,sZ] at f4;cases f4
  have qm:=(cz ae n31).trans (bd.get mS);have yO:=(cz ax n32).trans (bd.get sZ);have iU:=(gH.bA bd).move λy aC=>cz y λe=>gH.out f4 (e▸aC);rw[aDD,<-EV] at iU;refine iN (λai=>?_) λai=>?_
  .have c:i=x.toNat:=by rw[<-aDN ai,vi (by omega)]
   refine⟨_,dL cG,fN (n:=12) v5 f20 yO (by simp[ag.cells]) λg6 v6 dP ek=>⟨m.cx r-(i+1),by omega,rfl,rfl,rfl,rfl,rfl,i+1,hp,bt,by omega,rfl,iU.move λy aC=>ek y λe=>w7 (e▸aC),v6,n9,w7,(ek _ (aDC cd)).trans qm,?_⟩⟩;rw[dP,aDr (show x.toNat<i+1 by omega),c]
  .have c:i≠x.toNat:=λc=>aD3 ai (aDE.1 (by rw[vi (by omega),c]));refine⟨m.cx r-(i+1),by omega,rfl,rfl,rfl,rfl,rfl,i+1,hp,bt,by omega,rfl,iU,v5,n9,w7,qm,?_⟩;rw[yO];by_cases aY:x.toNat<i
   .rw[aDr aY,aDr (show x.toNat<i+1 by omega)]
   .rw[aDq aY,aDq (show ¬x.toNat<i+1 by omega)]
 .have:i=m.cx r:=by omega
  subst this;refine⟨_,dL g2,fN (n:=12) gl f1 g1 (by simp[ag.cells]) λg5 v5 cG cz=>⟨_,dL cG,aX,rfl,gI.move λy aC=>cz y λe=>e9 (e▸aC),v5⟩⟩
theorem av2 (d:Bool):decide (0<mask d)=d:=by cases d<;>decide
theorem adt (M:c8 T m R a8 es h){r:Nat}(aQ:r<m.fl)(x:aE)(c:cM)(d:Bool)(aT:a8.length<4000000000000) :
 aq 67 [bm ⟨m.b,0⟩,U r,ab x,ez c,ab (mask d)] h λv af=>∃aX,v= .tuple #[]/\c8 T m (if x.toNat<m.cx r/\d=true then fM R (r,x.toNat) c else R) (a8++writes r (m.cx r)) aX af/\bT (bS m es) h (bS m aX) af:=by
 have pf:=M.cx r aQ;refine arl _ _ _ _ _ ?_;unfold abM;refine bP λae aa f1 aH aD=>?_;have M2:=M.bA aD;refine⟨λq1 aA bu bK aI aO g k=>q1=⟨m.b,0⟩/\aA=r/\x=bu/\bK=mask d/\aI=⟨ae,0⟩/\∃i aX,aO=(i:Nat)/\i<=m.cx r/\k=m.cx r-i/\c8 T m (if x.toNat<i/\d=true then fM R (r,x.toNat) c else R) (a8++writes r i) aX g/\bT (bS m es) h (bS m aX) g/\¬bS m aX ae /\
  g ae=some (.cells (ag.cells (.ws 12 c)).toArray 69 (0,0)),
  ⟨m.cx r,rfl,rfl,rfl,rfl,rfl,0,es,rfl,by omega,rfl,by simpa [writes] using M2,hj aD _,M.out f1,aH⟩,?_⟩
 rintro q1 aA bu bK aI aO g k ⟨rfl,rfl,rfl,rfl,rfl,i,aX,rfl,hi,rfl,gI,gl,e9,g1⟩;have sW:=n6 r i;refine(ux gI aQ).mono ?_;rintro _ _ ⟨rfl,rfl⟩;refine⟨_,rfl,cj (λcl=>?_) λdH=>?_⟩
 .have cb:i<m.cx r:=by omega
  refine(w1 gI aQ cb (by rw[aDs,sW];omega)).mono ?_;rintro _ g3 ⟨hp,rfl,gH,v3⟩;have mS:=v3.get g1 e9;have n9:=v3.out (by rw[g1];simp) e9;have lZ:=gl.trans v3;refine⟨_,rfl,bP λax g4 f4 b6 bd=>fN (n:=12) (lZ.more bd) (lZ.2.2 ax f4) b6 rfl λg5 v5 cG cz=>?_⟩;have cU:ae≠ax:=λe=>by rw[<-e,mS] at f4;cases f4
  have qm:=(cz ae cU).trans (bd.get mS);have iU:=(gH.bA bd).move λy aC=>cz y λe=>gH.out f4 (e▸aC);generalize LQ:(if x.toNat<i/\d=true then fM R (r,x.toNat) c else R)=fG at *;have fin:∀(g6:ak) (cr:cM),bT (bS m es) h (bS m hp) g6->c8 T m fG (a8++writes r i++[⟨r,i,false⟩]) hp g6->g6 ae=some (.cells (ag.cells (.ws 12 c)).toArray 69 (0,0))->g6 ax=some (.cells (ag.cells (.ws 12 cr)).toArray 69 (0,0))->(cr=if decide (i=x.toNat)&&d then c else fG r i) ->
   ∃cB:cM,b5 g6 ax 0 cB/\aq 121 [bm ⟨m.b,0⟩,U r,U i,ez cB] g6 λv3 bR=>v3= .tuple #[]/\∃aG,aG<m.cx r-i/\((⟨m.b,0⟩:aF)=⟨m.b,0⟩/\(r:Int)=r/\x=x/\mask d=mask d/\(⟨ae,0⟩:aF)=⟨ae,0⟩/\∃dO aX,al ((i:Int)+1)=(dO:Nat)/\dO<=m.cx r/\aG=m.cx r-dO/\c8 T m (if x.toNat<dO/\d=true then fM R (r,x.toNat) c else R) (a8++writes r dO) aX bR/\bT (bS m es) h (bS m aX) bR/\¬bS m aX ae /\
    bR ae=some (.cells (ag.cells (.ws 12 c)).toArray 69 (0,0))):=by
   intro g6 cr v6 nN q1 aI a1;refine⟨_,dL aI,(w3 nN aQ cb _ (by simp only[aDs,sW,aDS];omega)).mono ?_⟩;rintro _ g7 ⟨ri,rfl,rE,ee⟩;refine⟨rfl,m.cx r-(i+1),by omega,rfl,rfl,rfl,rfl,rfl,i+1,ri,bt,by omega,rfl,?_,v6.trans ee,ee.out (by rw[q1];simp) n9,ee.get q1 n9⟩;rw[xW,show ∀a b:dk,a8++(writes r i++[a,b])=a8++writes r i++[a]++[b] by simp];have key:fM fG (r,i) cr=if x.toNat<i+1/\d=true then fM R (r,x.toNat) c else R:=by
    rw[a1];by_cases aS:i=x.toNat
    .have aa:¬(x.toNat<i/\d=true):=by omega
     rw[aDq aa] at LQ;cases d with
     | true=>rw[aDr (by simp[aS]),aDr ⟨by omega,rfl⟩,<-LQ,aS]
     | false=>rw[aDq (by simp),aDq (by simp),<-LQ];exact LR R (r,i)
    .rw[aDq (by simp[aS])];have dM:fM fG (r,i) (fG r i)=fG:=LR fG (r,i);rw[dM,<-LQ];by_cases aY:x.toNat<i/\d=true
     .rw[aDr aY,aDr ⟨by omega,aY.2⟩]
     .rw[aDq aY,aDq (λh=>aY ⟨by omega,h.2⟩)]
   rw[key] at rE;exact rE
  refine iN (λai=>?_) λai=>?_
  .have aS:i=x.toNat:=by rw[<-aDN ai,vi (by omega)]
   rw[av2];cases d with
   | true=>exact dF rfl ⟨_,dL qm,fN (n:=12) v5 (lZ.2.2 ax f4) cG (by simp[ag.cells]) λg6 v6 dP ek=>fin g6 _ v6 (iU.move λy aC=>ek y λe=>gH.out f4 (e▸aC)) ((ek ae cU).trans qm) dP (by simp[aS])⟩
   | false=>exact b3 rfl (fin g5 _ v5 iU qm cG (by simp))
  .have aS:i≠x.toNat:=λc=>aD3 ai (aDE.1 (by rw[vi (by omega),c]));exact fin g5 _ v5 iU qm cG (by simp[aS])
 .have:i=m.cx r:=by omega
  subst this;exact⟨aX,rfl,gI,gl⟩
theorem avS (M:c8 T m R a8 es h){r K k:Nat}(aQ:r<m.fl)(eL:K<=10)(aK:2 ^ K<=m.cx r)(ah:k<12)(aT:a8.length<3000000000000) :
 aq 159 [bm ⟨m.b,0⟩,U r,U (2 ^ K),U k] h λv af=>∃aX,v=U 0/\c8 T m (eP R r (iw (iS k ah) (jN K) (R r))) (a8++sb r K) aX af/\bT (bS m es) h (bS m aX) af:=by
 have zO:((2 ^ K:Nat):Int)=2 ^ K:=by simp
 refine ati _ _ _ _ ?_;unfold acr;refine(adk eL).to λaa aD=>⟨_,rfl,b3 rfl ?_⟩;refine(ux (M.bA aD) aQ).mono ?_;rintro _ aa ⟨rfl,rfl⟩;refine⟨_,rfl,b3 (by simp;omega) (b3 (by simp) (b3 (by simp;omega) ?_))⟩;refine(avj eL aa).mono ?_;rintro _ ad ⟨sp,rfl,op,aB⟩;have lL:=z_ eL;have Df:(jN K).length=(gk K).length:=by rw[LS,aDF]
 have hlen:=op.len;have M2:=(M.bA aD).bA aB;have RU:∀q,sp.q=some q->¬bS m es q.b:=λq aj=>(M.bA aD).out (op.bp aj).1;refine⟨_,rfl,λq1 aA aL s2 bh g bW=>q1=⟨m.b,0⟩/\aA=r/\aL=k/\s2=sp/\∃i aX,bh=(i:Nat)/\i<=sp.len/\bW=sp.len-i /\
  c8 T m (eP R r (iw (iS k ah) ((jN K).take i) (R r))) (a8++((gk K).take i).flatMap (mG r)) aX g/\bT (bS m es) h (bS m aX) g/\(∀q,sp.q=some q->¬bS m aX q.b)/\ct 3 jn aa g sp (gk K),
  ⟨sp.len,rfl,rfl,rfl,rfl,0,es,rfl,by omega,rfl,by simpa [iw,CS] using M2,hj (aD.trans aB) _,RU,op⟩,?_⟩
 rintro q1 aA aL s2 bh g bW ⟨rfl,rfl,rfl,rfl,i,aX,rfl,hi,rfl,gI,gl,A2,ib⟩;refine cj (λcl=>?_) λdH=>?_
 .have cb:i<(gk K).length:=by omega
  have kz:i<(jN K).length:=by omega
  obtain⟨pi,Ad⟩:=Gx K (aDt _) (jN K)[i] (aDR kz);have Hy:(gk K)[i]=sD (jN K)[i]:=by simp[LS]
  generalize aP:(jN K)[i]=p at *;have uj:p.1<m.cx r:=by omega
  have Hz:p.2.1<m.cx r:=by omega
  have DT:(a8++((gk K).take i).flatMap (mG r)).length<=a8.length+4*102400:=by
   rw[aDs,zC,aEy];omega
  generalize bc:iw (iS k ah) ((jN K).take i) (R r)=f at *;have Am:eP R r f r p.1=f p.1:=by unfold eP;rw[aDr rfl]
  have RV:eP R r f r p.2.1=f p.2.1:=by unfold eP;rw[aDr rfl]
  have at_:∀ {bw:ak},ct 3 jn aa bw s2 (gk K)->∀ {X:aF->Prop},(∀q,s2.q=some q->bx bw q.b (q.o+Int.toNat (i:Int)*3)=some (U p.1)->bx bw q.b (q.o+Int.toNat (i:Int)*3+1)=some (U p.2.1)->bx bw q.b (q.o+Int.toNat (i:Int)*3+2)=some (.bool p.2.2)->X q)->∃q,s2.q=some q/\(0:Int)<=(i:Int)/\(i:Int)+1<=(s2.len:Int)/\X q:=λ{bw} o {X} F5=>by
   refine o.rd.cA Cz cb λq aj k0=>?_;rw[Hy] at k0;rw[show(i:Nat)=(i:Int).toNat by omega] at k0;exact F5 q aj k0.1 k0.2.1 k0.2.2.1
  refine at_ ib λq aj aS _ _=>⟨_,aS,?_⟩;refine(w1 gI aQ uj (by omega)).mono ?_;rintro _ g3 ⟨hp,rfl,gH,v3⟩;rw[Am];have LU:∀ {g bw:ak} {e cc:ao},bT (bS m e) g (bS m cc) bw->(∀q,s2.q=some q->¬bS m e q.b)->ct 3 jn aa g s2 (gk K)->(∀q,s2.q=some q->¬bS m cc q.b)/\ct 3 jn aa bw s2 (gk K):=λv n o=>⟨λq aj=>v.out (o.bp aj).2 (n q aj),o.move λq aj=>v.2.1 _ (o.bp aj).2 (n q aj)⟩;obtain⟨av3,RW⟩:=LU v3 A2 ib;refine⟨_,rfl,bP λae g4 f4 b6 bd=>?_⟩;have DU:=gl.trans v3;have f40:=DU.2.2 _ f4;have e9:¬bS m hp ae:=gH.out f4;refine fN (n:=12) (DU.more bd) f40 b6 rfl λg5 v5 cG cz=>?_;have iU:=(gH.bA bd).move λy aC=>cz y λe=>e9 (e▸aC);have RS:∀ {b:Nat} {g bw:ak},g b=none->ct 3 jn aa g s2 (gk K)->(∀x,x≠b->bw x=g x)->ct 3 jn aa bw s2 (gk K):=λar o aV=>o.move λq aj=>aV _ λe=>(o.bp aj).2 (e▸ar);have adT:ct 3 jn aa g5 s2 (gk K):=(RW.bA bd).move λq aj=>cz _ λe=>(RW.bp aj).2 (e▸f4);refine at_ adT λdE eG _ aY _=>⟨_,aY,?_⟩;refine(w1 iU aQ Hz (by simp only[aDs,aDS] at DT ⊢;omega)).mono ?_;rintro _ g6 ⟨v7,rfl,nN,v6⟩;rw[RV];have rS:=v6.get cG e9;have av4:=v6.out (by rw[cG];simp) e9;obtain⟨av5,RX⟩:=LU v6 av3 adT;refine⟨_,rfl,bP λax g7 f7 fa c3=>?_⟩;have cU:ae≠ax:=λe=>by rw[<-e,rS] at f7;cases f7
  have jT:¬bS m v7 ax:=nN.out f7;have adU:=v5.trans v6;have f70:=adU.2.2 _ f7;refine fN (n:=12) (adU.more c3) f70 fa rfl λg8 fh fO e6=>?_;have qL:=(nN.bA c3).move λy aC=>e6 y λe=>jT (e▸aC);have A3:ct 3 jn aa g8 s2 (gk K):=(RX.bA c3).move λq aj=>e6 _ λe=>(RX.bp aj).2 (e▸f7);have pV:=(e6 ae cU).trans (c3.get rS);have j9:∀q,s2.q=some q->q.b≠ae/\q.b≠ax:=λq aj=>⟨λe=>(RW.bp aj).2 (e▸f4),λe=>(RX.bp aj).2 (e▸f7)⟩;let S:Bool->ak->Prop:=λt g=>c8 T m (eP R r f) (a8++((gk K).take i).flatMap (mG r)++[⟨r,p.1,false⟩]++[⟨r,p.2.1,false⟩]) v7 g/\bT (bS m es) h (bS m v7) g/\ct 3 jn aa g s2 (gk K)/\g ae=some (.cells (ag.cells (.ws 12 (if t=true then f p.2.1 else f p.1))).toArray 69 (0,0))/\g ax=some (.cells (ag.cells (.ws 12 (if t=true then f p.1 else f p.2.1))).toArray 69 (0,0));have lS:S false g8:=⟨qL,fh,A3,pV,fO⟩;have Ja:Int.toNat (k:Int)=k:=by omega
  have kK:∀ {X:ak->Prop},(∀g,S true g->X g)->∃cB:cM,b5 g8 ax 0 cB/\∃dQ:cM,b5 g8 ae 0 dQ/\aW g8 ⟨ae,0⟩ (ag.cells (.ws 12 cB)) λcf=>aW cf ⟨ax,0⟩ (ag.cells (.ws 12 dQ)) λbN=>X bN:=λ{X} F5=>by
   refine⟨_,dL fO,_,dL pV,fN (n:=12) fh f40 pV (by simp[ag.cells]) λg9 v9 gm e3=>fN (n:=12) v9 f70 ((e3 ax (aDC cU)).trans fO) (by simp[ag.cells]) λre v10 pe fH=>F5 re ⟨?_,v10,A3.move λq aj=>(fH _ (j9 q aj).2).trans (e3 _ (j9 q aj).1),(fH ae cU).trans gm,pe⟩⟩;exact(qL.move λy aC=>e3 y λe=>av4 (e▸aC)).move λy aC=>fH y λe=>jT (e▸aC)
  refine⟨λdW br bq bz ca ea eU g=>dW=⟨m.b,0⟩/\br=r/\bq=k/\bz=s2/\ca=i/\ea=⟨ae,0⟩/\eU=⟨ax,0⟩/\S (bif p.2.2 then decide (iS k ah (f p.2.1)<iS k ah (f p.1)) else decide (iS k ah (f p.1)<iS k ah (f p.2.1))) g,?_,?_⟩
  .have DV:∀ {t:Bool} {g:ak},S t g->t=(bif p.2.2 then decide (iS k ah (f p.2.1)<iS k ah (f p.1)) else decide (iS k ah (f p.1)<iS k ah (f p.2.1)))->((⟨m.b,0⟩:aF)=⟨m.b,0⟩/\(r:Int)=r/\(k:Int)=k/\s2=s2/\(i:Int)=i/\(⟨ae,0⟩:aF)=⟨ae,0⟩/\(⟨ax,0⟩:aF)=⟨ax,0⟩/\S (bif p.2.2 then decide (iS k ah (f p.2.1)<iS k ah (f p.1)) else decide (iS k ah (f p.1)<iS k ah (f p.2.1))) g):=λuY bG=>⟨rfl,rfl,rfl,rfl,rfl,rfl,rfl,bG▸uY⟩;have adV:bx g8 ae (0+Int.toNat (k:Int)*1)=some (ab (f p.1)[k]):=by rw[Ja,show 0+k*1=k by omega];exact fs pV ah
   have adW:bx g8 ax (0+Int.toNat (k:Int)*1)=some (ab (f p.2.1)[k]):=by rw[Ja,show 0+k*1=k by omega];exact fs fO ah
   have lt:∀ {a b:aE},decide (a<b)=decide (a.toNat<b.toNat):=λ{a b}=>by rw[aDV,aFa,aFa,aEn]
   refine at_ A3 λ_ _ _ _ cB=>⟨_,cB,?_⟩;cases ar:p.2.2 with
   | true =>
    rw[ar] at cB DV;refine dF rfl ⟨by omega,by omega,_,adW,by omega,by omega,_,adV,iN (λcl=>kK λg uY=>DV uY ?_) λcl=>?_⟩
    .exact(show decide _=true from cl).symm.trans lt
    .refine at_ A3 λ_ _ _ _ E_=>⟨_,E_,?_⟩;rw[ar];exact b3 rfl (DV lS ((show decide _=false from cl).symm.trans lt))
   | false =>
    rw[ar] at cB DV;refine b3 rfl ?_;refine at_ A3 λ_ _ _ _ E_=>⟨_,E_,?_⟩;rw[ar];refine dF rfl ⟨by omega,by omega,_,adV,by omega,by omega,_,adW,iN (λcl=>kK λg uY=>DV uY ?_) λcl=>DV lS ?_⟩
    .exact(show decide _=true from cl).symm.trans lt
    .exact(show decide _=false from cl).symm.trans lt
  .rintro _ _ _ bz _ _ _ g9 ⟨rfl,rfl,rfl,rfl,rfl,rfl,rfl,rR,v9,adX,oh,uy⟩;obtain⟨t,bG⟩:∃t,t=(bif p.2.2 then decide (iS k ah (f p.2.1)<iS k ah (f p.1)) else decide (iS k ah (f p.1)<iS k ah (f p.2.1))):=⟨_,rfl⟩;rw[<-bG] at oh uy;refine at_ adX λ_ _ aS _ _=>⟨_,aS,_,dL oh,(w3 rR aQ uj _ (by simp only[aDs,aDS] at DT ⊢;omega)).mono ?_⟩;rintro _ re ⟨aj1,rfl,PZ,v10⟩;obtain⟨av6,adY⟩:=LU v10 av5 adX;have RJ:=v10.get uy jT;refine⟨rfl,at_ adY λ_ _ _ aY _=>⟨_,aY,_,dL RJ,(w3 PZ aQ Hz _ (by simp only[aDs,aDS] at DT ⊢;omega)).mono ?_⟩⟩;rintro _ sY ⟨Fh,rfl,Gn,v11⟩;obtain⟨av7,av8⟩:=LU v11 av6 adY;refine⟨rfl,bz.len-(i+1),by omega,rfl,rfl,rfl,rfl,i+1,Fh,bt,by omega,rfl,?_,(v9.trans v10).trans v11,av7,av8⟩;have aH:(jN K).take (i+1)=(jN K).take i++[p]:=by rw[aEl,aDx kz,aP];rfl
   have a_:(gk K).take (i+1)=(gk K).take i++[sD p]:=by rw[aEl,aDx cb,Hy];rfl
   rw[aH,a_,Gv,bc,aEB];have b7:iw (iS k ah) [p] f=m0 (iS k ah) f p:=rfl;rw[b7,<-adZ (R:=R) (r:=r) (key:=iS k ah) (f:=f) (p:=p) (by omega)];have b6:(oy (iS k ah) p.2.2 (f p.1) (f p.2.1))=(if t=true then f p.2.1 else f p.1,if t=true then f p.1 else f p.2.1):=by
    unfold oy;rw[<-bG];cases t<;>rfl
   rw[b6];have cG:a8++(((gk K).take i).flatMap (mG r)++[sD p].flatMap (mG r))=a8++((gk K).take i).flatMap (mG r)++[⟨r,p.1,false⟩]++[⟨r,p.2.1,false⟩]++[⟨r,p.1,true⟩]++[⟨r,p.2.1,true⟩]:=by
    simp[mG,sD]
   rw[cG];exact Gn
 .have aH:i=(gk K).length:=by omega
  rw[aEd (by omega),aEd (by omega)] at gI;exact⟨aX,rfl,gI,gl⟩
end

import Derived.Test.YtegdpmgnhnccaaaGreatScan
namespace Go.Proofs.Tryz
open Go Go.cR Go.RowKit
set_option maxRecDepth 8000
def sD (p:Nat×Nat×Bool):oV:=⟨p.1,p.2.1,p.2.2⟩
theorem aw2 (k j n:Nat):ov k j n=(ip k j n).map sD:=by
 unfold ov ip;rw[aEH];rfl
theorem aeR (n a:Nat):∀b,ss n a b=(wG n a b).map sD
 | 0=>rfl
 | b+1=>by unfold ss wG;rw[aD4,aw2,aeR n a b]
theorem aeS (n:Nat):∀a,hl n a=(yf n a).map sD
 | 0=>rfl
 | a+1=>by rw[J1];unfold yf;rw[aD4,aeS n a,aeR]
theorem LS (K:Nat):gk K=(jN K).map sD:=aeS _ _
def eP (R:dY)(r:Nat)(f:Nat->cM):dY:=λfk i=>if fk=r then f i else R fk i
def iS (k:Nat)(ah:k<12)(c:cM):Nat:=c[k].toNat
theorem CS (R:dY)(r:Nat):eP R r (R r)=R:=by
 funext fk i;unfold eP;split
 .rename_i h;rw[h]
 .rfl
theorem adZ {R:dY}{r:Nat}{key:cM->Nat}{f:Nat->cM}{p:Nat×Nat×Bool}(h:p.1≠p.2.1) :
 fM (fM (eP R r f) (r,p.1) (oy key p.2.2 (f p.1) (f p.2.1)).1) (r,p.2.1) (oy key p.2.2 (f p.1) (f p.2.1)).2=eP R r (m0 key f p):=by
 funext fk i;unfold fM eP m0;by_cases e:fk=r
 .subst e;by_cases aH:i=p.2.1
  .subst aH;simp[aDC h]
  .by_cases a_:i=p.1
   .subst a_;simp[aH]
   .simp[aH,a_]
 .simp[e]
section
variable {T:TypeId} {m:jQ} {R:dY} {a8:List dk} {es:ao} {h:ak}
theorem anH (M:c8 T m R a8 es h){r K k:Nat}(aQ:r<m.fl)(eL:K<=10)(aK:2 ^ K<=m.cx r)(ah:k<12)(aT:a8.length<3000000000000) :
 aq 174 [bm ⟨m.b,0⟩,U r,U (2 ^ K),U k] h λv af=>∃aX,v=U 0/\c8 T m (eP R r (iw (iS k ah) (jN K) (R r))) (a8++sb r K) aX af/\bT (bS m es) h (bS m aX) af:=by
 have zO:((2 ^ K:Nat):Int)=2 ^ K:=by simp
 refine atC _ _ _ _ ?_;unfold acw;refine(XE eL).to λaa aD=>⟨_,rfl,b3 rfl ?_⟩;refine(tZ (M.bA aD) aQ).mono ?_;rintro _ aa ⟨rfl,rfl⟩;refine⟨_,rfl,b3 (by simp;omega) (b3 (by simp) (b3 (by simp;omega) ?_))⟩;refine(XG eL aa).mono ?_;rintro _ ad ⟨sp,rfl,op,aB⟩;have lL:=z_ eL;have Df:(jN K).length=(gk K).length:=by rw[LS,aDF]
 have hlen:=op.len;have M2:=(M.bA aD).bA aB;have RU:∀q,sp.q=some q->¬bS m es q.b:=λq aj=>(M.bA aD).out (op.bp aj).1;refine⟨_,rfl,λq1 aA aL s2 aO bh g bW=>q1=⟨m.b,0⟩/\aA=r/\aL=k/\s2=sp/\aO=(sp.len:Nat)/\∃i aX,bh=(i:Nat)/\i<=sp.len/\bW=sp.len-i /\
  c8 T m (eP R r (iw (iS k ah) ((jN K).take i) (R r))) (a8++((gk K).take i).flatMap (mG r)) aX g/\bT (bS m es) h (bS m aX) g/\(∀q,sp.q=some q->¬bS m aX q.b)/\ct 3 jn aa g sp (gk K),
  ⟨sp.len,rfl,rfl,rfl,rfl,rfl,0,es,rfl,by omega,rfl,by simpa [iw,CS] using M2,hj (aD.trans aB) _,RU,op⟩,?_⟩
 rintro q1 aA aL s2 aO bh g bW ⟨rfl,rfl,rfl,rfl,rfl,i,aX,rfl,hi,rfl,gI,gl,A2,ib⟩;refine cj (λcl=>?_) λdH=>?_
 .have cb:i<(gk K).length:=by omega
  have kz:i<(jN K).length:=by omega
  obtain⟨pi,Ad⟩:=Gx K (aDt _) (jN K)[i] (aDR kz);have Hy:(gk K)[i]=sD (jN K)[i]:=by simp[LS]
  generalize aP:(jN K)[i]=p at *;have uj:p.1<m.cx r:=by omega
  have Hz:p.2.1<m.cx r:=by omega
  have DT:(a8++((gk K).take i).flatMap (mG r)).length<=a8.length+4*102400:=by
   rw[aDs,zC,aEy];omega
  refine ib.rd.cA Cz cb λq aj k0=>?_;rw[Hy] at k0;obtain⟨aS,aY,cB,_⟩:=k0;rw[show(i:Int).toNat=i by omega];refine⟨_,aS,_,aY,_,cB,bP λae g1 f1 aH hz=>?_⟩;have e9:¬bS m aX ae:=gI.out f1;have f10:h ae=none:=gl.2.2 _ f1;refine lY (gl.more hz) f10 aH (by simp) λg2 v2 a_ cg=>?_;have aw3:=(gI.bA hz).move λy aC=>cg y λe=>e9 (e▸aC);have SL:ct 3 jn aa g2 s2 (gk K):=(ib.bA hz).move λq aj=>cg _ λe=>(ib.bp aj).2 (e▸f1);refine⟨_,az a_ rfl,_,az a_ rfl,?_⟩;refine(xC aw3 aQ uj (by omega)).mono ?_;rintro _ g3 ⟨hp,rfl,gH,v3⟩;have b7:=v3.get a_ e9;have n9:=v3.out (by rw[a_];simp) e9;refine⟨_,rfl,⟨az b7 rfl,trivial⟩,?_⟩;refine(xC gH aQ Hz (by rw[aDs,aDS];omega)).mono ?_;rintro _ g4 ⟨mU,rfl,tv,v4⟩;have b6:=v4.get b7 n9;have aw4:=v4.out (by rw[b7];simp) n9;have HS:∀q,s2.q=some q->¬bS m mU q.b:=λq aj=>by
   have h0:=(SL.bp aj).2;exact v4.out (by rw[v3.2.1 _ h0 (A2 q aj)];exact h0) (v3.out h0 (A2 q aj))
  have z1:ct 3 jn aa g4 s2 (gk K):=SL.move λq aj=>by
   have h0:=(SL.bp aj).2;rw[v4.2.1 _ (by rw[v3.2.1 _ h0 (A2 q aj)];exact h0) (v3.out h0 (A2 q aj)),v3.2.1 _ h0 (A2 q aj)]
  have DU:=(v2.trans v3).trans v4;refine⟨_,rfl,bP λax g5 f5 cG nH=>bP λaM g6 f6 dP z6=>?_⟩;have f50:h ax=none:=DU.2.2 _ f5;have f60:h aM=none:=DU.2.2 _ (nH.free f6);have cU:ax≠ae:=λe=>by rw[e,b6] at f5;cases f5
  have n31:aM≠ae:=λe=>by rw[e,nH.get b6] at f6;cases f6
  have n32:aM≠ax:=λe=>by rw[e,cG] at f6;cases f6
  have jT:¬bS m mU ax:=tv.out f5;have qv:¬bS m mU aM:=tv.out (nH.free f6);have ur:∀q,s2.q=some q->q.b≠ae/\q.b≠ax/\q.b≠aM:=λq aj=>by
   have h0:=(z1.bp aj).2;refine⟨λe=>(ib.bp aj).2 (e▸f1),λe=>h0 (e▸f5),λe=>h0 (e▸nH.free f6)⟩
  refine fN (n:=12) (DU.more (nH.trans z6)) f50 (z6.get cG) rfl λg7 ee fa eF=>?_;refine fN (n:=12) ee f60 ((eF _ n32).trans dP) rfl λg8 fh fO e6=>?_;have xH:=(e6 _ (aDC n32)).trans fa;have pV:g8 ae=_:=((e6 _ (aDC n31)).trans (eF _ (aDC cU))).trans ((nH.trans z6).get b6);have qL:=((tv.bA (nH.trans z6)).move λy aC=>eF y λe=>jT (e▸aC)).move λy aC=>e6 y λe=>qv (e▸aC);have A3:ct 3 jn aa g8 s2 (gk K):=(z1.bA (nH.trans z6)).move λq aj=>(e6 _ (ur q aj).2.2).trans (eF _ (ur q aj).2.1);generalize bc:iw (iS k ah) ((jN K).take i) (R r)=f at *;have Am:eP R r f r p.1=f p.1:=by unfold eP;rw[aDr rfl]
  have RV:eP R r f r p.2.1=f p.2.1:=by unfold eP;rw[aDr rfl]
  rw[Am] at xH;rw[RV] at fO;refine⟨by omega,by omega,(f p.2.1)[k],?_,by omega,by omega,(f p.1)[k],?_,?_⟩
  .rw[show 0+Int.toNat (k:Int)*1=k by omega];exact fs fO ah
  .rw[show 0+Int.toNat (k:Int)*1=k by omega];exact fs xH ah
  have fin:∀(t:Bool) (g9:ak),bL g8 g9->t=(bif p.2.2 then decide (iS k ah (f p.2.1)<iS k ah (f p.1)) else decide (iS k ah (f p.1)<iS k ah (f p.2.1)))->∀ {Q:ak->Prop},
   (∀bw,(∃aX,c8 T m (eP R r (iw (iS k ah) ((jN K).take (i+1)) (R r))) (a8++((gk K).take (i+1)).flatMap (mG r)) aX bw/\bT (bS m es) h (bS m aX) bw/\(∀q,s2.q=some q->¬bS m aX q.b)/\ct 3 jn aa bw s2 (gk K))->Q bw) ->
   aq 193 [ab (mask t),ez (f p.1),ez (f p.2.1)] g9 λfh dT=>∃fZ hF:cM,fh= .tuple #[ez fZ,ez hF]/\aW dT ⟨ax,0⟩ (ag.cells (.ws 12 fZ)) λcK=>aW cK ⟨aM,0⟩ (ag.cells (.ws 12 hF)) λdu=>∃cF,bx du ae 0=some (U cF)/\∃gK:cM,b5 du ax 0 gK /\
    aq 115 [bm ⟨m.b,0⟩,U r,U cF,ez gK] du λv9 ec=>v9= .tuple #[]/\∃cL,bx ec ae 1=some (U cL)/\∃hX:cM,b5 ec aM 0 hX /\
     aq 115 [bm ⟨m.b,0⟩,U r,U cL,ez hX] ec λv10 ds=>v10= .tuple #[]/\Q ds:=by
   intro t g9 tV bG Q fI;refine(aw5 t _ _).to λre HT=>⟨_,_,rfl,?_⟩;have Ee:=tV.trans HT;refine fN (n:=12) (fh.more Ee) f50 (Ee.get xH) (by simp[ag.cells]) λsY v11 mr hq=>?_;refine fN (n:=12) v11 f60 ((hq _ n32).trans (Ee.get fO)) (by simp[ag.cells]) λsh iV ik gP=>?_;have aw6:=(gP _ (aDC n32)).trans mr;have F6:sh ae=_:=((gP _ (aDC n31)).trans (hq _ (aDC cU))).trans (Ee.get pV);have At:=((qL.bA Ee).move λy aC=>hq y λe=>jT (e▸aC)).move λy aC=>gP y λe=>qv (e▸aC);have SM:ct 3 jn aa sh s2 (gk K):=(A3.bA Ee).move λq aj=>(gP _ (ur q aj).2.2).trans (hq _ (ur q aj).2.1);refine⟨_,az F6 rfl,_,dL aw6,?_⟩;refine(An At aQ uj _ (by simp only[aDs,aDS] at DT ⊢;omega)).mono ?_;rintro _ mS ⟨aC7,rfl,KI,iA⟩;have Pe:¬bS m mU aM:=qv;have aw7:=iA.get F6 aw4;have aw8:=iA.get ik qv;refine⟨rfl,_,az aw7 rfl,_,dL aw8,?_⟩;refine(An KI aQ Hz _ (by simp only[aDs,aDS] at DT ⊢;omega)).mono ?_;rintro _ NL ⟨aw9,rfl,D3,jI⟩;refine⟨rfl,fI _ ⟨aw9,?_,(iV.trans iA).trans jI,λq aj=>?_,SM.move λq aj=>?_⟩⟩
   .have aH:(jN K).take (i+1)=(jN K).take i++[p]:=by rw[aEl,aDx kz,aP];rfl
    have a_:(gk K).take (i+1)=(gk K).take i++[sD p]:=by rw[aEl,aDx cb,Hy];rfl
    rw[aH,a_,Gv,bc,aEB];have b7:iw (iS k ah) [p] f=m0 (iS k ah) f p:=rfl;rw[b7,<-adZ (R:=R) (r:=r) (key:=iS k ah) (f:=f) (p:=p) (by omega)];have b6:(oy (iS k ah) p.2.2 (f p.1) (f p.2.1))=(if t=true then f p.2.1 else f p.1,if t=true then f p.1 else f p.2.1):=by
     unfold oy;rw[<-bG];cases t<;>rfl
    rw[b6];have cG:a8++(((gk K).take i).flatMap (mG r)++[sD p].flatMap (mG r))=a8++((gk K).take i).flatMap (mG r)++[⟨r,p.1,false⟩]++[⟨r,p.2.1,false⟩]++[⟨r,p.1,true⟩]++[⟨r,p.2.1,true⟩]:=by
     simp[mG,sD]
    rw[cG];exact D3
   .have h0:=(SM.bp aj).2;exact jI.out (by rw[iA.2.1 _ h0 (HS q aj)];exact h0) (iA.out h0 (HS q aj))
   .have h0:=(SM.bp aj).2;rw[jI.2.1 _ (by rw[iA.2.1 _ h0 (HS q aj)];exact h0) (iA.out h0 (HS q aj)),iA.2.1 _ h0 (HS q aj)]
  refine(aeT _ _).to λg9 tV=>⟨_,rfl,p.2.2,az (tV.get pV) rfl,iN (λhu=>?_) λhu=>?_⟩
  .refine⟨by omega,by omega,(f p.1)[k],?_,by omega,by omega,(f p.2.1)[k],?_,?_⟩
   .rw[show 0+Int.toNat (k:Int)*1=k by omega];exact fs (tV.get xH) ah
   .rw[show 0+Int.toNat (k:Int)*1=k by omega];exact fs (tV.get fO) ah
   refine(aeT _ _).to λre HT=>⟨_,rfl,_,dL ((tV.trans HT).get xH),_,dL ((tV.trans HT).get fO),?_⟩;have CC:p.2.2=false:=by simpa using hu
   exact fin _ re (tV.trans HT) (by rw[CC];rfl) λbw ⟨aX,av,aN,a3,a4⟩=>⟨s2.len-(i+1),by omega,rfl,rfl,rfl,rfl,rfl,i+1,aX,bt,by omega,rfl,av,aN,a3,a4⟩
  .have CC:p.2.2=true:=by simpa using hu
   refine⟨_,dL (tV.get xH),_,dL (tV.get fO),?_⟩;exact fin _ g9 tV (by rw[CC];rfl) λbw ⟨aX,av,aN,a3,a4⟩=>⟨s2.len-(i+1),by omega,rfl,rfl,rfl,rfl,rfl,i+1,aX,bt,by omega,rfl,av,aN,a3,a4⟩
 .have aH:i=(gk K).length:=by omega
  rw[aEd (by omega),aEd (by omega)] at gI;exact⟨aX,rfl,gI,gl⟩
end

import Derived.Test.YtofgadhgljjhgaaGreatScan
namespace Go.Proofs.Tryz
open Go Go.cD Go.RowKit
set_option maxRecDepth 8000
def rW (p:Nat×Nat×Bool):n_:=⟨p.1,p.2.1,p.2.2⟩
theorem at5 (k j n:Nat):nN k j n=(ip k j n).map rW:=by
 unfold nN ip;rw[List.map_map];rfl
theorem acz (n a:Nat):∀b,rM n a b=(vr n a b).map rW
 | 0=>rfl
 | b+1=>by unfold rM vr;rw[List.map_append,at5,acz n a b]
theorem acA (n:Nat):∀a,h7 n a=(xh n a).map rW
 | 0=>rfl
 | a+1=>by rw[ID];unfold xh;rw[List.map_append,acA n a,acz]
theorem Kk (K:Nat):gT K=(je K).map rW:=acA _ _
def en (R:dF)(r:Nat)(f:Nat->cv):dF:=λe5 i=>if e5=r then f i else R e5 i
def ie (k:Nat)(ag:k<12)(c:cv):Nat:=c[k].toNat
theorem BJ (R:dF)(r:Nat):en R r (R r)=R:=by
 funext e5 i;unfold en;split
 .rename_i h;rw[h]
 .rfl
theorem abD {R:dF}{r:Nat}{key:cv->Nat}{f:Nat->cv}{p:Nat×Nat×Bool}(h:p.1≠p.2.1) :
 fA (fA (en R r f) (r,p.1) (nP key p.2.2 (f p.1) (f p.2.1)).1) (r,p.2.1) (nP key p.2.2 (f p.1) (f p.2.1)).2=en R r (mw key f p):=by
 funext e5 i
 unfold fA en mw
 by_cases e:e5=r
 .subst e
  by_cases aF:i=p.2.1
  .subst aF;simp[Ne.symm h]
  .by_cases a8:i=p.1
   .subst a8;simp[aF]
   .simp[aF,a8]
 .simp[e]
section
variable {T:TypeId} {m:jw} {R:dF} {a7:List de} {es:ar} {h:ak}
theorem akv (M:cV T m R a7 es h){r K k:Nat}(aP:r<m.eX)(eM:K<=10)(aH:2 ^ K<=m.cf r)(ag:k<12)(aT:a7.length<3000000000000) :
 ao 154 [bg ⟨m.b,0⟩,U r,U (2 ^ K),U k] h λv ah=>∃aW,v=U 0/\cV T m (en R r (hV (ie k ag) (je K) (R r))) (a7++w4 r K) aW ah/\bT (bF m es) h (bF m aW) ah:=by
 have yR:((2 ^ K:Nat):Int)=2 ^ K:=by simp
 refine aqq _ _ _ _ ?_
 unfold Z5
 refine(V1 eM).to λaa aE=>⟨_,rfl,bS rfl ?_⟩
 refine(ta (M.bD aE) aP).mono ?_
 rintro _ aa ⟨rfl,rfl⟩
 refine⟨_,rfl,bS (by simp;omega) (bS (by simp) (bS (by simp;omega) ?_))⟩
 refine(ai9 eM aa).mono ?_
 rintro _ ad ⟨sp,rfl,op,aC⟩
 have lV:=EN eM
 have B9:(je K).length=(gT K).length:=by rw[Kk,List.length_map]
 have hlen:=op.len
 have M2:=(M.bD aE).bD aC
 have P8:∀q,sp.q=some q->¬bF m es q.b:=λq aj=>(M.bD aE).out (op.bl aj).1
 refine⟨_,rfl,λq1 aA aL s2 aO bm g bP=>q1=⟨m.b,0⟩/\aA=r/\aL=k/\s2=sp/\aO=(sp.len:Nat)/\∃i aW,bm=(i:Nat)/\i<=sp.len/\bP=sp.len-i /\
  cV T m (en R r (hV (ie k ag) ((je K).take i) (R r))) (a7++((gT K).take i).flatMap (oa r)) aW g/\bT (bF m es) h (bF m aW) g/\(∀q,sp.q=some q->¬bF m aW q.b)/\cF 3 iN aa g sp (gT K),
  ⟨sp.len,rfl,rfl,rfl,rfl,rfl,0,es,rfl,by omega,rfl,by simpa [hV,BJ] using M2,hF (aE.trans aC) _,P8,op⟩,?_⟩
 rintro q1 aA aL s2 aO bm g bP ⟨rfl,rfl,rfl,rfl,rfl,i,aW,rfl,hi,rfl,gk,fS,zT,hK⟩
 refine cd (λca=>?_) λdx=>?_
 .have b5:i<(gT K).length:=by omega
  have j3:i<(je K).length:=by omega
  obtain⟨pi,as3⟩:=Fi K (Nat.le_refl _) (je K)[i] (List.getElem_mem j3)
  have Gi:(gT K)[i]=rW (je K)[i]:=by simp[Kk]
  generalize aS:(je K)[i]=p at *
  have tk:p.1<m.cf r:=by omega
  have Gj:p.2.1<m.cf r:=by omega
  have CL:(a7++((gT K).take i).flatMap (oa r)).length<=a7.length+4*102400:=by
   rw[List.length_append,IG,List.length_take];omega
  refine hK.rd.cp IB b5 λq aj k0=>?_
  rw[Gi] at k0
  obtain⟨aQ,aY,ck,_⟩:=k0
  rw[show(i:Int).toNat=i by omega]
  refine⟨_,aQ,_,aY,_,ck,bM λae g1 f1 aF h_=>?_⟩
  have e1:¬bF m aW ae:=gk.out f1
  have f10:h ae=none:=fS.2.2 _ f1
  refine lu (fS.more h_) f10 aF (by simp) λg2 v2 a8 cb=>?_
  have at6:=(gk.bD h_).move λy aB=>cb y λe=>e1 (e▸aB)
  have Q0:cF 3 iN aa g2 s2 (gT K):=(hK.bD h_).move λq aj=>cb _ λe=>(hK.bl aj).2 (e▸f1)
  refine⟨_,az a8 rfl,_,az a8 rfl,?_⟩
  refine(uK at6 aP tk (by omega)).mono ?_
  rintro _ g3 ⟨gQ,rfl,gj,v3⟩
  have b0:=v3.get a8 e1
  have nz:=v3.out (by rw[a8];simp) e1
  refine⟨_,rfl,⟨az b0 rfl,trivial⟩,?_⟩
  refine(uK gj aP Gj (by rw[List.length_append,List.length_singleton];omega)).mono ?_
  rintro _ g4 ⟨mn,rfl,sJ,v4⟩
  have b1:=v4.get b0 nz
  have at7:=v4.out (by rw[b0];simp) nz
  have GD:∀q,s2.q=some q->¬bF m mn q.b:=λq aj=>by
   have h0:=(Q0.bl aj).2
   exact v4.out (by rw[v3.2.1 _ h0 (zT q aj)];exact h0) (v3.out h0 (zT q aj))
  have y0:cF 3 iN aa g4 s2 (gT K):=Q0.move λq aj=>by
   have h0:=(Q0.bl aj).2
   rw[v4.2.1 _ (by rw[v3.2.1 _ h0 (zT q aj)];exact h0) (v3.out h0 (zT q aj)),v3.2.1 _ h0 (zT q aj)]
  have CM:=(v2.trans v3).trans v4
  refine⟨_,rfl,bM λay g5 f5 cy m_=>bM λaN g6 f6 dE y2=>?_⟩
  have f50:h ay=none:=CM.2.2 _ f5
  have f60:h aN=none:=CM.2.2 _ (m_.free f6)
  have cZ:ay≠ae:=λe=>by rw[e,b1] at f5;cases f5
  have n31:aN≠ae:=λe=>by rw[e,m_.get b1] at f6;cases f6
  have n32:aN≠ay:=λe=>by rw[e,cy] at f6;cases f6
  have kp:¬bF m mn ay:=sJ.out f5
  have u3:¬bF m mn aN:=sJ.out (m_.free f6)
  have tp:∀q,s2.q=some q->q.b≠ae/\q.b≠ay/\q.b≠aN:=λq aj=>by
   have h0:=(y0.bl aj).2
   refine⟨λe=>(hK.bl aj).2 (e▸f1),λe=>h0 (e▸f5),λe=>h0 (e▸m_.free f6)⟩
  refine fB (n:=12) (CM.more (m_.trans y2)) f50 (y2.get cy) rfl λg7 ed fo eK=>?_
  refine fB (n:=12) ed f60 ((eK _ n32).trans dE) rfl λg8 fr fP eT=>?_
  have wM:=(eT _ (Ne.symm n32)).trans fo
  have vT:g8 ae=_:=((eT _ (Ne.symm n31)).trans (eK _ (Ne.symm cZ))).trans ((m_.trans y2).get b1)
  have p1:=((sJ.bD (m_.trans y2)).move λy aB=>eK y λe=>kp (e▸aB)).move λy aB=>eT y λe=>u3 (e▸aB)
  have zU:cF 3 iN aa g8 s2 (gT K):=(y0.bD (m_.trans y2)).move λq aj=>(eT _ (tp q aj).2.2).trans (eK _ (tp q aj).2.1)
  generalize a_:hV (ie k ag) ((je K).take i) (R r)=f at *
  have zc:en R r f r p.1=f p.1:=by unfold en;rw[if_pos rfl]
  have P9:en R r f r p.2.1=f p.2.1:=by unfold en;rw[if_pos rfl]
  rw[zc] at wM;rw[P9] at fP
  refine⟨by omega,by omega,(f p.2.1)[k],?_,by omega,by omega,(f p.1)[k],?_,?_⟩
  .rw[show 0+Int.toNat (k:Int)*1=k by omega];exact fb fP ag
  .rw[show 0+Int.toNat (k:Int)*1=k by omega];exact fb wM ag
  have fin:∀(t:Bool) (g9:ak),bL g8 g9->t=(bif p.2.2 then decide (ie k ag (f p.2.1)<ie k ag (f p.1)) else decide (ie k ag (f p.1)<ie k ag (f p.2.1)))->∀ {Q:ak->Prop},
   (∀bo,(∃aW,cV T m (en R r (hV (ie k ag) ((je K).take (i+1)) (R r))) (a7++((gT K).take (i+1)).flatMap (oa r)) aW bo/\bT (bF m es) h (bF m aW) bo/\(∀q,s2.q=some q->¬bF m aW q.b)/\cF 3 iN aa bo s2 (gT K))->Q bo) ->
   ao 173 [ab (mask t),ea (f p.1),ea (f p.2.1)] g9 λfr dM=>∃fJ hc:cv,fr= .tuple #[ea fJ,ea hc]/\aX dM ⟨ay,0⟩ (af.cells (.ws 12 fJ)) λcM=>aX cM ⟨aN,0⟩ (af.cells (.ws 12 hc)) λdX=>∃cK,br dX ae 0=some (U cK)/\∃gm:cv,bU dX ay 0 gm /\
    ao 95 [bg ⟨m.b,0⟩,U r,U cK,ea gm] dX λv9 eU=>v9= .tuple #[]/\∃cL,br eU ae 1=some (U cL)/\∃hz:cv,bU eU aN 0 hz /\
     ao 95 [bg ⟨m.b,0⟩,U r,U cL,ea hz] eU λv10 dy=>v10= .tuple #[]/\Q dy:=by
   intro t g9 s7 bw Q fI
   refine(at8 t _ _).to λqu GF=>⟨_,_,rfl,?_⟩
   have C9:=s7.trans GF
   refine fB (n:=12) (fr.more C9) f50 (C9.get wM) (by simp[af.cells]) λsh v11 nW hd=>?_
   refine fB (n:=12) v11 f60 ((hd _ n32).trans (C9.get fP)) (by simp[af.cells]) λrv iI hQ gz=>?_
   have at9:=(gz _ (Ne.symm n32)).trans nW
   have acB:rv ae=_:=((gz _ (Ne.symm n31)).trans (hd _ (Ne.symm cZ))).trans (C9.get vT)
   have zj:=((p1.bD C9).move λy aB=>hd y λe=>kp (e▸aB)).move λy aB=>gz y λe=>u3 (e▸aB)
   have Q1:cF 3 iN aa rv s2 (gT K):=(zU.bD C9).move λq aj=>(gz _ (tp q aj).2.2).trans (hd _ (tp q aj).2.1)
   refine⟨_,az acB rfl,_,dv at9,?_⟩
   refine(zd zj aP tk _ (by simp only[List.length_append,List.length_singleton] at CL ⊢;omega)).mono ?_
   rintro _ mj ⟨azX,rfl,I_,iK⟩
   have azY:¬bF m mn aN:=u3
   have aua:=iK.get acB at7
   have aub:=iK.get hQ u3
   refine⟨rfl,_,az aua rfl,_,dv aub,?_⟩
   refine(zd I_ aP Gj _ (by simp only[List.length_append,List.length_singleton] at CL ⊢;omega)).mono ?_
   rintro _ L9 ⟨auc,rfl,CX,jF⟩
   refine⟨rfl,fI _ ⟨auc,?_,(iI.trans iK).trans jF,λq aj=>?_,Q1.move λq aj=>?_⟩⟩
   .have aF:(je K).take (i+1)=(je K).take i++[p]:=by rw[List.take_add_one,List.getElem?_eq_getElem j3,aS];rfl
    have a8:(gT K).take (i+1)=(gT K).take i++[rW p]:=by rw[List.take_add_one,List.getElem?_eq_getElem b5,Gi];rfl
    rw[aF,a8,Fg,a_,List.flatMap_append]
    have b0:hV (ie k ag) [p] f=mw (ie k ag) f p:=rfl
    rw[b0,<-abD (R:=R) (r:=r) (key:=ie k ag) (f:=f) (p:=p) (by omega)]
    have b1:(nP (ie k ag) p.2.2 (f p.1) (f p.2.1))=(if t=true then f p.2.1 else f p.1,if t=true then f p.1 else f p.2.1):=by
     unfold nP;rw[<-bw];cases t<;>rfl
    rw[b1]
    have cy:a7++(((gT K).take i).flatMap (oa r)++[rW p].flatMap (oa r))=a7++((gT K).take i).flatMap (oa r)++[⟨r,p.1,false⟩]++[⟨r,p.2.1,false⟩]++[⟨r,p.1,true⟩]++[⟨r,p.2.1,true⟩]:=by
     simp[oa,rW]
    rw[cy];exact CX
   .have h0:=(Q1.bl aj).2
    exact jF.out (by rw[iK.2.1 _ h0 (GD q aj)];exact h0) (iK.out h0 (GD q aj))
   .have h0:=(Q1.bl aj).2
    rw[jF.2.1 _ (by rw[iK.2.1 _ h0 (GD q aj)];exact h0) (iK.out h0 (GD q aj)),iK.2.1 _ h0 (GD q aj)]
  refine(acC _ _).to λg9 s7=>⟨_,rfl,p.2.2,az (s7.get vT) rfl,h4 (λhu=>?_) λhu=>?_⟩
  .refine⟨by omega,by omega,(f p.1)[k],?_,by omega,by omega,(f p.2.1)[k],?_,?_⟩
   .rw[show 0+Int.toNat (k:Int)*1=k by omega];exact fb (s7.get wM) ag
   .rw[show 0+Int.toNat (k:Int)*1=k by omega];exact fb (s7.get fP) ag
   refine(acC _ _).to λqu GF=>⟨_,rfl,_,dv ((s7.trans GF).get wM),_,dv ((s7.trans GF).get fP),?_⟩
   have Q2:p.2.2=false:=by simpa using hu
   exact fin _ qu (s7.trans GF) (by rw[Q2];rfl) λbo ⟨aW,aq,aM,a3,a4⟩=>⟨s2.len-(i+1),by omega,rfl,rfl,rfl,rfl,rfl,i+1,aW,bf (by omega) (by omega),by omega,rfl,aq,aM,a3,a4⟩
  .have Q2:p.2.2=true:=by simpa using hu
   refine⟨_,dv (s7.get wM),_,dv (s7.get fP),?_⟩
   exact fin _ g9 s7 (by rw[Q2];rfl) λbo ⟨aW,aq,aM,a3,a4⟩=>⟨s2.len-(i+1),by omega,rfl,rfl,rfl,rfl,rfl,i+1,aW,bf (by omega) (by omega),by omega,rfl,aq,aM,a3,a4⟩
 .have aF:i=(gT K).length:=by omega
  rw[List.take_of_length_le (by omega),List.take_of_length_le (by omega)] at gk
  exact⟨aW,rfl,gk,fS⟩
end

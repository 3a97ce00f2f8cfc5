import Derived.Test.YtofgadhgljjhgaaGreatRefE
import Derived.Test.YtofgadhgljjhgaaGreatRun
namespace Go.Proofs.Tryz
open Go Go.cD Go.RowKit
set_option maxRecDepth 8000
section
variable {T:TypeId} {m:jw} {R:dF} {a7:List de} {es:ar} {h:ak}
theorem abw (M:cV T m R a7 es h){r a:Nat}(aP:r<m.eX)(bO:a<m.cf r):ao 59 [bg ⟨m.b,0⟩,U r,U a] h λv ah=>v= .bool true/\ah=h:=by
 refine aod _ _ _ ?_
 unfold Zk
 refine dg (decide_eq_true (by omega)) ((sq M aP).mono ?_)
 rintro _ _ ⟨rfl,rfl⟩
 exact⟨_,rfl,congrArg Value.bool (decide_eq_true (by omega)),rfl⟩
theorem tJ (M:cV T m R a7 es h){r a:Nat}(aP:r<m.eX)(bO:a<m.cf r)(aT:a7.length<5000000000000) :
 ao 24 [bg ⟨m.b,0⟩,U r,U a] h λv ah=>∃aW,v=ea (R r a)/\cV T m R (a7++[⟨r,a,false⟩]) aW ah/\bT (bF m es) h (bF m aW) ah:=by
 refine sf _ _ _ ?_
 unfold Yq
 refine bM λae aa f1 aF aE=>?_
 have oi:=M.bD aE
 refine(abw oi aP bO).mono ?_
 rintro _ _ ⟨rfl,rfl⟩
 have hg:¬bF m es ae:=M.out f1
 refine⟨true,rfl,bS rfl ⟨_,az oi.top rfl,?_⟩⟩
 refine oi.note ⟨r,a,false⟩ aT λaW ad M2 v=>⟨_,az M2.top rfl,?_⟩
 have a8:=v.get aF hg
 have Ol:=v.out (by rw[aF];simp) hg
 refine M2.Fb aP λq aZ=>⟨_,aZ,_,rfl,by omega,by show(a:Int)+1<=(m.cf r:Nat);omega,R r a,?_,?_⟩
 .show bU ad (m.jS r) (0+Int.toNat (a:Int)*12) _
  rw[show 0+Int.toNat (a:Int)*12=a*12 by omega];exact M2.rd aP bO
 .exact fB (n:=12) ((hF aE (bF m es)).trans v) f1 a8 rfl λan v3 b0 c7=>⟨_,dv b0,aW,rfl,M2.move λx ai=>c7 x λe=>Ol (e▸ai),v3⟩
theorem vN (M:cV T m R a7 es h){r a:Nat}(aP:r<m.eX)(bO:a<m.cf r)(c:cv)(aT:a7.length<5000000000000) :
 ao 126 [bg ⟨m.b,0⟩,U r,U a,ea c] h λv ah=>∃aW,v= .tuple #[]/\cV T m (fA R (r,a) c) (a7++[⟨r,a,true⟩]) aW ah/\bT (bF m es) h (bF m aW) ah:=by
 refine apR _ _ _ _ ?_
 unfold ZV
 refine bM λae aa f1 aF aE=>?_
 have oi:=M.bD aE
 refine(abw oi aP bO).mono ?_
 rintro _ _ ⟨rfl,rfl⟩
 have hg:¬bF m es ae:=M.out f1
 refine⟨true,rfl,bS rfl ⟨_,az oi.top rfl,?_⟩⟩
 refine oi.note ⟨r,a,true⟩ aT λaW ad M2 v=>⟨_,az M2.top rfl,?_⟩
 have a8:=v.get aF hg
 refine M2.Fb aP λq aZ=>⟨_,aZ,_,dv a8,_,rfl,by omega,by show(a:Int)+1<=(m.cf r:Nat);omega,?_⟩
 show aX ad ⟨m.jS r,0+Int.toNat (a:Int)*12⟩ _ _
 rw[show 0+Int.toNat (a:Int)*12=a*12 by omega]
 exact M2.put aP bO c λan gj v3=>⟨aW,rfl,gj,((hF aE (bF m es)).trans v).trans v3⟩
theorem as1 (M:cV T m R a7 es h){r:Nat}(aP:r<m.eX)(x:UInt64)(aT:a7.length<4000000000000) :
 ao 122 [bg ⟨m.b,0⟩,U r,ab x] h λv ah=>∃aW,v=ea (if x.toNat<m.cf r then R r x.toNat else e6)/\cV T m R (a7++reads r (m.cf r)) aW ah/\bT (bF m es) h (bF m aW) ah:=by
 have oD:=M.cf r aP
 refine apJ _ _ _ ?_
 unfold ZR
 refine bM λae aa f1 aF aE=>bM λay ad f2 a8 aC=>?_
 have cA:ay≠ae:=λe=>by rw[e,aF] at f2;cases f2
 have M2:=M.bD (aE.trans aC)
 have f20:=aE.free f2
 refine⟨λq1 aA bq aJ bd aO g k=>q1=⟨m.b,0⟩/\aA=r/\x=bq/\aJ=⟨ae,0⟩/\bd=⟨ay,0⟩/\∃i aW,aO=(i:Nat)/\i<=m.cf r/\k=m.cf r-i/\cV T m R (a7++reads r i) aW g/\bT (bF m es) h (bF m aW) g/\¬bF m aW ae/\¬bF m aW ay /\
  g ae=some (.cells (af.cells (.ws 12 e6)).toArray 56 (0,0))/\g ay=some (.cells (af.cells (.ws 12 (if x.toNat<i then R r x.toNat else e6))).toArray 56 (0,0)),
  ⟨m.cf r,rfl,rfl,rfl,rfl,rfl,0,es,rfl,by omega,rfl,by simpa [reads] using M2,hF (aE.trans aC) _,M.out f1,M.out f20,aC.get aF,a8⟩,?_⟩
 rintro q1 aA bq aJ bd aO g k ⟨rfl,rfl,rfl,rfl,rfl,i,aW,rfl,hi,rfl,gk,fS,e1,kp,g1,g2⟩
 have qv:=wG r i
 refine(sq gk aP).mono ?_
 rintro _ _ ⟨rfl,rfl⟩
 refine⟨_,rfl,cd (λca=>?_) λdx=>?_⟩
 .have b5:i<m.cf r:=by omega
  refine(tJ gk aP b5 (by rw[List.length_append,qv];omega)).mono ?_
  rintro _ g3 ⟨gQ,rfl,gj,v3⟩
  have lv:=fS.trans v3
  have mj:=v3.get g1 e1
  have si:=v3.get g2 kp
  have nz:=v3.out (by rw[g1];simp) e1
  have vR:=v3.out (by rw[g2];simp) kp
  refine⟨_,rfl,bM λaN g4 f4 b1 bh=>fB (n:=12) (lv.more bh) (lv.2.2 aN f4) b1 rfl λg5 v5 cy cm=>?_⟩
  have n31:ae≠aN:=λe=>by rw[<-e,mj] at f4;cases f4
  have n32:ay≠aN:=λe=>by rw[<-e,si] at f4;cases f4
  have pI:=(cm ae n31).trans (bh.get mj)
  have xQ:=(cm ay n32).trans (bh.get si)
  have ij:=(gj.bD bh).move λy aB=>cm y λe=>gj.out f4 (e▸aB)
  rw[List.append_assoc,<-HE] at ij
  refine h4 (λai=>?_) λai=>?_
  .have c:i=x.toNat:=by rw[<-of_decide_eq_true ai,uh (by omega)]
   refine⟨_,dv cy,fB (n:=12) v5 f20 xQ (by simp[af.cells]) λg6 v6 dE dZ=>⟨m.cf r-(i+1),by omega,rfl,rfl,rfl,rfl,rfl,i+1,gQ,bf (by omega) (by omega),by omega,rfl,ij.move λy aB=>dZ y λe=>vR (e▸aB),v6,nz,vR,(dZ _ (Ne.symm cA)).trans pI,?_⟩⟩
   rw[dE,if_pos (show x.toNat<i+1 by omega),c]
  .have c:i≠x.toNat:=λc=>of_decide_eq_false ai (UInt64.toNat_inj.1 (by rw[uh (by omega),c]))
   refine⟨m.cf r-(i+1),by omega,rfl,rfl,rfl,rfl,rfl,i+1,gQ,bf (by omega) (by omega),by omega,rfl,ij,v5,nz,vR,pI,?_⟩
   rw[xQ]
   by_cases aY:x.toNat<i
   .rw[if_pos aY,if_pos (show x.toNat<i+1 by omega)]
   .rw[if_neg aY,if_neg (show ¬x.toNat<i+1 by omega)]
 .have:i=m.cf r:=by omega
  subst this
  refine⟨_,dv g2,fB (n:=12) fS f1 g1 (by simp[af.cells]) λg5 v5 cy cm=>⟨_,dv cy,aW,rfl,gk.move λy aB=>cm y λe=>e1 (e▸aB),v5⟩⟩
theorem as2 (d:Bool):decide (0<mask d)=d:=by cases d<;>decide
theorem aa6 (M:cV T m R a7 es h){r:Nat}(aP:r<m.eX)(x:UInt64)(c:cv)(d:Bool)(aT:a7.length<4000000000000) :
 ao 103 [bg ⟨m.b,0⟩,U r,ab x,ea c,ab (mask d)] h λv ah=>∃aW,v= .tuple #[]/\cV T m (if x.toNat<m.cf r/\d=true then fA R (r,x.toNat) c else R) (a7++writes r (m.cf r)) aW ah/\bT (bF m es) h (bF m aW) ah:=by
 have oD:=M.cf r aP
 refine apl _ _ _ _ _ ?_
 unfold ZJ
 refine bM λae aa f1 aF aE=>?_
 have M2:=M.bD aE
 refine⟨λq1 aA bq bz aJ aO g k=>q1=⟨m.b,0⟩/\aA=r/\x=bq/\bz=mask d/\aJ=⟨ae,0⟩/\∃i aW,aO=(i:Nat)/\i<=m.cf r/\k=m.cf r-i/\cV T m (if x.toNat<i/\d=true then fA R (r,x.toNat) c else R) (a7++writes r i) aW g/\bT (bF m es) h (bF m aW) g/\¬bF m aW ae /\
  g ae=some (.cells (af.cells (.ws 12 c)).toArray 56 (0,0)),
  ⟨m.cf r,rfl,rfl,rfl,rfl,rfl,0,es,rfl,by omega,rfl,by simpa [writes] using M2,hF aE _,M.out f1,aF⟩,?_⟩
 rintro q1 aA bq bz aJ aO g k ⟨rfl,rfl,rfl,rfl,rfl,i,aW,rfl,hi,rfl,gk,fS,e1,g1⟩
 have uM:=ru r i
 refine(sq gk aP).mono ?_
 rintro _ _ ⟨rfl,rfl⟩
 refine⟨_,rfl,cd (λca=>?_) λdx=>?_⟩
 .have b5:i<m.cf r:=by omega
  refine(tJ gk aP b5 (by rw[List.length_append,uM];omega)).mono ?_
  rintro _ g3 ⟨gQ,rfl,gj,v3⟩
  have mj:=v3.get g1 e1
  have nz:=v3.out (by rw[g1];simp) e1
  have lv:=fS.trans v3
  refine⟨_,rfl,bM λay g4 f4 b1 bh=>fB (n:=12) (lv.more bh) (lv.2.2 ay f4) b1 rfl λg5 v5 cy cm=>?_⟩
  have cZ:ae≠ay:=λe=>by rw[<-e,mj] at f4;cases f4
  have pI:=(cm ae cZ).trans (bh.get mj)
  have ij:=(gj.bD bh).move λy aB=>cm y λe=>gj.out f4 (e▸aB)
  generalize Ki:(if x.toNat<i/\d=true then fA R (r,x.toNat) c else R)=fz at *
  have fin:∀(g6:ak) (cc:cv),bT (bF m es) h (bF m gQ) g6->cV T m fz (a7++writes r i++[⟨r,i,false⟩]) gQ g6->g6 ae=some (.cells (af.cells (.ws 12 c)).toArray 56 (0,0))->g6 ay=some (.cells (af.cells (.ws 12 cc)).toArray 56 (0,0))->(cc=if decide (i=x.toNat)&&d then c else fz r i) ->
   ∃ck:cv,bU g6 ay 0 ck/\ao 126 [bg ⟨m.b,0⟩,U r,U i,ea ck] g6 λv3 bW=>v3= .tuple #[]/\∃aI,aI<m.cf r-i/\((⟨m.b,0⟩:aD)=⟨m.b,0⟩/\(r:Int)=r/\x=x/\mask d=mask d/\(⟨ae,0⟩:aD)=⟨ae,0⟩/\∃dw aW,al ((i:Int)+1)=(dw:Nat)/\dw<=m.cf r/\aI=m.cf r-dw/\cV T m (if x.toNat<dw/\d=true then fA R (r,x.toNat) c else R) (a7++writes r dw) aW bW/\bT (bF m es) h (bF m aW) bW/\¬bF m aW ae /\
    bW ae=some (.cells (af.cells (.ws 12 c)).toArray 56 (0,0))):=by
   intro g6 cc v6 nc q1 aJ aZ
   refine⟨_,dv aJ,(vN nc aP b5 _ (by simp only[List.length_append,uM,List.length_singleton];omega)).mono ?_⟩
   rintro _ g7 ⟨qx,rfl,qN,ed⟩
   refine⟨rfl,m.cf r-(i+1),by omega,rfl,rfl,rfl,rfl,rfl,i+1,qx,bf (by omega) (by omega),by omega,rfl,?_,v6.trans ed,ed.out (by rw[q1];simp) nz,ed.get q1 nz⟩
   rw[Bz,show ∀a b:de,a7++(writes r i++[a,b])=a7++writes r i++[a]++[b] by simp]
   have key:fA fz (r,i) cc=if x.toNat<i+1/\d=true then fA R (r,x.toNat) c else R:=by
    rw[aZ]
    by_cases aQ:i=x.toNat
    .have aa:¬(x.toNat<i/\d=true):=by omega
     rw[if_neg aa] at Ki
     cases d with
     | true=>rw[if_pos (by simp[aQ]),if_pos ⟨by omega,rfl⟩,<-Ki,aQ]
     | false=>rw[if_neg (by simp),if_neg (by simp),<-Ki];exact Kj R (r,i)
    .rw[if_neg (by simp[aQ])]
     have dB:fA fz (r,i) (fz r i)=fz:=Kj fz (r,i)
     rw[dB,<-Ki]
     by_cases aY:x.toNat<i/\d=true
     .rw[if_pos aY,if_pos ⟨by omega,aY.2⟩]
     .rw[if_neg aY,if_neg (λh=>aY ⟨by omega,h.2⟩)]
   rw[key] at qN
   exact qN
  refine h4 (λai=>?_) λai=>?_
  .have aQ:i=x.toNat:=by rw[<-of_decide_eq_true ai,uh (by omega)]
   rw[as2]
   cases d with
   | true=>exact dg rfl ⟨_,dv pI,fB (n:=12) v5 (lv.2.2 ay f4) cy (by simp[af.cells]) λg6 v6 dE dZ=>fin g6 _ v6 (ij.move λy aB=>dZ y λe=>gj.out f4 (e▸aB)) ((dZ ae cZ).trans pI) dE (by simp[aQ])⟩
   | false=>exact bS rfl (fin g5 _ v5 ij pI cy (by simp))
  .have aQ:i≠x.toNat:=λc=>of_decide_eq_false ai (UInt64.toNat_inj.1 (by rw[uh (by omega),c]))
   exact fin g5 _ v5 ij pI cy (by simp[aQ])
 .have:i=m.cf r:=by omega
  subst this
  exact⟨aW,rfl,gk,fS⟩
theorem asQ (M:cV T m R a7 es h){r K k:Nat}(aP:r<m.eX)(eM:K<=10)(aH:2 ^ K<=m.cf r)(ag:k<12)(aT:a7.length<3000000000000) :
 ao 163 [bg ⟨m.b,0⟩,U r,U (2 ^ K),U k] h λv ah=>∃aW,v=U 0/\cV T m (en R r (hV (ie k ag) (je K) (R r))) (a7++w4 r K) aW ah/\bT (bF m es) h (bF m aW) ah:=by
 have yR:((2 ^ K:Nat):Int)=2 ^ K:=by simp
 refine aqD _ _ _ _ ?_
 unfold Z9
 refine(aaX eM).to λaa aE=>⟨_,rfl,bS rfl ?_⟩
 refine(sq (M.bD aE) aP).mono ?_
 rintro _ aa ⟨rfl,rfl⟩
 refine⟨_,rfl,bS (by simp;omega) (bS (by simp) (bS (by simp;omega) ?_))⟩
 refine(asg eM aa).mono ?_
 rintro _ ad ⟨sp,rfl,op,aC⟩
 have lV:=EN eM
 have B9:(je K).length=(gT K).length:=by rw[Kk,List.length_map]
 have hlen:=op.len
 have M2:=(M.bD aE).bD aC
 have P8:∀q,sp.q=some q->¬bF m es q.b:=λq aj=>(M.bD aE).out (op.bl aj).1
 refine⟨_,rfl,λq1 aA aL s2 bm g bP=>q1=⟨m.b,0⟩/\aA=r/\aL=k/\s2=sp/\∃i aW,bm=(i:Nat)/\i<=sp.len/\bP=sp.len-i /\
  cV T m (en R r (hV (ie k ag) ((je K).take i) (R r))) (a7++((gT K).take i).flatMap (oa r)) aW g/\bT (bF m es) h (bF m aW) g/\(∀q,sp.q=some q->¬bF m aW q.b)/\cF 3 iN aa g sp (gT K),
  ⟨sp.len,rfl,rfl,rfl,rfl,0,es,rfl,by omega,rfl,by simpa [hV,BJ] using M2,hF (aE.trans aC) _,P8,op⟩,?_⟩
 rintro q1 aA aL s2 bm g bP ⟨rfl,rfl,rfl,rfl,i,aW,rfl,hi,rfl,gk,fS,zT,hK⟩
 refine cd (λca=>?_) λdx=>?_
 .have b5:i<(gT K).length:=by omega
  have j3:i<(je K).length:=by omega
  obtain⟨pi,as3⟩:=Fi K (Nat.le_refl _) (je K)[i] (List.getElem_mem j3)
  have Gi:(gT K)[i]=rW (je K)[i]:=by simp[Kk]
  generalize aS:(je K)[i]=p at *
  have tk:p.1<m.cf r:=by omega
  have Gj:p.2.1<m.cf r:=by omega
  have CL:(a7++((gT K).take i).flatMap (oa r)).length<=a7.length+4*102400:=by
   rw[List.length_append,IG,List.length_take];omega
  generalize a_:hV (ie k ag) ((je K).take i) (R r)=f at *
  have zc:en R r f r p.1=f p.1:=by unfold en;rw[if_pos rfl]
  have P9:en R r f r p.2.1=f p.2.1:=by unfold en;rw[if_pos rfl]
  have at_:∀ {bo:ak},cF 3 iN aa bo s2 (gT K)->∀ {X:aD->Prop},(∀q,s2.q=some q->br bo q.b (q.o+Int.toNat (i:Int)*3)=some (U p.1)->br bo q.b (q.o+Int.toNat (i:Int)*3+1)=some (U p.2.1)->br bo q.b (q.o+Int.toNat (i:Int)*3+2)=some (.bool p.2.2)->X q)->∃q,s2.q=some q/\(0:Int)<=(i:Int)/\(i:Int)+1<=(s2.len:Int)/\X q:=λ{bo} o {X} P_=>by
   refine o.rd.cp IB b5 λq aj k0=>?_
   rw[Gi] at k0
   rw[show(i:Nat)=(i:Int).toNat by omega] at k0
   exact P_ q aj k0.1 k0.2.1 k0.2.2.1
  refine at_ hK λq aj aQ _ _=>⟨_,aQ,?_⟩
  refine(tJ gk aP tk (by omega)).mono ?_
  rintro _ g3 ⟨gQ,rfl,gj,v3⟩
  rw[zc]
  have Kl:∀ {g bo:ak} {e b4:ar},bT (bF m e) g (bF m b4) bo->(∀q,s2.q=some q->¬bF m e q.b)->cF 3 iN aa g s2 (gT K)->(∀q,s2.q=some q->¬bF m b4 q.b)/\cF 3 iN aa bo s2 (gT K):=λv n o=>⟨λq aj=>v.out (o.bl aj).2 (n q aj),o.move λq aj=>v.2.1 _ (o.bl aj).2 (n q aj)⟩
  obtain⟨as4,Qa⟩:=Kl v3 zT hK
  refine⟨_,rfl,bM λae g4 f4 b1 bh=>?_⟩
  have CM:=fS.trans v3
  have f40:=CM.2.2 _ f4
  have e1:¬bF m gQ ae:=gj.out f4
  refine fB (n:=12) (CM.more bh) f40 b1 rfl λg5 v5 cy cm=>?_
  have ij:=(gj.bD bh).move λy aB=>cm y λe=>e1 (e▸aB)
  have P6:∀ {b:Nat} {g bo:ak},g b=none->cF 3 iN aa g s2 (gT K)->(∀x,x≠b->bo x=g x)->cF 3 iN aa bo s2 (gT K):=λau o aU=>o.move λq aj=>aU _ λe=>(o.bl aj).2 (e▸au)
  have abx:cF 3 iN aa g5 s2 (gT K):=(Qa.bD bh).move λq aj=>cm _ λe=>(Qa.bl aj).2 (e▸f4)
  refine at_ abx λdL eB _ aY _=>⟨_,aY,?_⟩
  refine(tJ ij aP Gj (by simp only[List.length_append,List.length_singleton] at CL ⊢;omega)).mono ?_
  rintro _ g6 ⟨u2,rfl,nc,v6⟩
  rw[P9]
  have q2:=v6.get cy e1
  have as5:=v6.out (by rw[cy];simp) e1
  obtain⟨as6,Qb⟩:=Kl v6 as4 abx
  refine⟨_,rfl,bM λay g7 f7 fo c9=>?_⟩
  have cZ:ae≠ay:=λe=>by rw[<-e,q2] at f7;cases f7
  have kp:¬bF m u2 ay:=nc.out f7
  have aby:=v5.trans v6
  have f70:=aby.2.2 _ f7
  refine fB (n:=12) (aby.more c9) f70 fo rfl λg8 fr fP eT=>?_
  have p1:=(nc.bD c9).move λy aB=>eT y λe=>kp (e▸aB)
  have zU:cF 3 iN aa g8 s2 (gT K):=(Qb.bD c9).move λq aj=>eT _ λe=>(Qb.bl aj).2 (e▸f7)
  have vT:=(eT ae cZ).trans (c9.get q2)
  have jD:∀q,s2.q=some q->q.b≠ae/\q.b≠ay:=λq aj=>⟨λe=>(Qa.bl aj).2 (e▸f4),λe=>(Qb.bl aj).2 (e▸f7)⟩
  let S:Bool->ak->Prop:=λt g=>cV T m (en R r f) (a7++((gT K).take i).flatMap (oa r)++[⟨r,p.1,false⟩]++[⟨r,p.2.1,false⟩]) u2 g/\bT (bF m es) h (bF m u2) g/\cF 3 iN aa g s2 (gT K)/\g ae=some (.cells (af.cells (.ws 12 (if t=true then f p.2.1 else f p.1))).toArray 56 (0,0))/\g ay=some (.cells (af.cells (.ws 12 (if t=true then f p.1 else f p.2.1))).toArray 56 (0,0))
  have lk:S false g8:=⟨p1,fr,zU,vT,fP⟩
  have HP:Int.toNat (k:Int)=k:=by omega
  have kh:∀ {X:ak->Prop},(∀g,S true g->X g)->∃ck:cv,bU g8 ay 0 ck/\∃dz:cv,bU g8 ae 0 dz/\aX g8 ⟨ae,0⟩ (af.cells (.ws 12 ck)) λcw=>aX cw ⟨ay,0⟩ (af.cells (.ws 12 dz)) λbK=>X bK:=λ{X} P_=>by
   refine⟨_,dv fP,_,dv vT,fB (n:=12) fr f40 vT (by simp[af.cells]) λg9 v9 gd eO=>fB (n:=12) v9 f70 ((eO ay (Ne.symm cZ)).trans fP) (by simp[af.cells]) λqu v10 sd fO=>P_ qu ⟨?_,v10,zU.move λq aj=>(fO _ (jD q aj).2).trans (eO _ (jD q aj).1),(fO ae cZ).trans gd,sd⟩⟩
   exact(p1.move λy aB=>eO y λe=>as5 (e▸aB)).move λy aB=>fO y λe=>kp (e▸aB)
  refine⟨λdP bu bt bG b9 dJ et g=>dP=⟨m.b,0⟩/\bu=r/\bt=k/\bG=s2/\b9=i/\dJ=⟨ae,0⟩/\et=⟨ay,0⟩/\S (bif p.2.2 then decide (ie k ag (f p.2.1)<ie k ag (f p.1)) else decide (ie k ag (f p.1)<ie k ag (f p.2.1))) g,?_,?_⟩
  .have CN:∀ {t:Bool} {g:ak},S t g->t=(bif p.2.2 then decide (ie k ag (f p.2.1)<ie k ag (f p.1)) else decide (ie k ag (f p.1)<ie k ag (f p.2.1)))->((⟨m.b,0⟩:aD)=⟨m.b,0⟩/\(r:Int)=r/\(k:Int)=k/\s2=s2/\(i:Int)=i/\(⟨ae,0⟩:aD)=⟨ae,0⟩/\(⟨ay,0⟩:aD)=⟨ay,0⟩/\S (bif p.2.2 then decide (ie k ag (f p.2.1)<ie k ag (f p.1)) else decide (ie k ag (f p.1)<ie k ag (f p.2.1))) g):=λtP bw=>⟨rfl,rfl,rfl,rfl,rfl,rfl,rfl,bw▸tP⟩
   have abz:br g8 ae (0+Int.toNat (k:Int)*1)=some (ab (f p.1)[k]):=by rw[HP,show 0+k*1=k by omega];exact fb vT ag
   have abA:br g8 ay (0+Int.toNat (k:Int)*1)=some (ab (f p.2.1)[k]):=by rw[HP,show 0+k*1=k by omega];exact fb fP ag
   have lt:∀ {a b:UInt64},decide (a<b)=decide (a.toNat<b.toNat):=λ{a b}=>by rw[Bool.eq_iff_iff,decide_eq_true_iff,decide_eq_true_iff,UInt64.lt_iff_toNat_lt]
   refine at_ zU λ_ _ _ _ ck=>⟨_,ck,?_⟩
   cases au:p.2.2 with
   | true =>
    rw[au] at ck CN
    refine dg rfl ⟨by omega,by omega,_,abA,by omega,by omega,_,abz,h4 (λca=>kh λg tP=>CN tP ?_) λca=>?_⟩
    .exact(show decide _=true from ca).symm.trans lt
    .refine at_ zU λ_ _ _ _ D2=>⟨_,D2,?_⟩
     rw[au]
     exact bS rfl (CN lk ((show decide _=false from ca).symm.trans lt))
   | false =>
    rw[au] at ck CN
    refine bS rfl ?_
    refine at_ zU λ_ _ _ _ D2=>⟨_,D2,?_⟩
    rw[au]
    refine dg rfl ⟨by omega,by omega,_,abz,by omega,by omega,_,abA,h4 (λca=>kh λg tP=>CN tP ?_) λca=>CN lk ?_⟩
    .exact(show decide _=true from ca).symm.trans lt
    .exact(show decide _=false from ca).symm.trans lt
  .rintro _ _ _ bG _ _ _ g9 ⟨rfl,rfl,rfl,rfl,rfl,rfl,rfl,oe,v9,abB,nF,tr⟩
   obtain⟨t,bw⟩:∃t,t=(bif p.2.2 then decide (ie k ag (f p.2.1)<ie k ag (f p.1)) else decide (ie k ag (f p.1)<ie k ag (f p.2.1))):=⟨_,rfl⟩
   rw[<-bw] at nF tr
   refine at_ abB λ_ _ aQ _ _=>⟨_,aQ,_,dv nF,(vN oe aP tk _ (by simp only[List.length_append,List.length_singleton] at CL ⊢;omega)).mono ?_⟩
   rintro _ qu ⟨ahG,rfl,N5,v10⟩
   obtain⟨as7,abC⟩:=Kl v10 as6 abB
   have PX:=v10.get tr kp
   refine⟨rfl,at_ abC λ_ _ _ aY _=>⟨_,aY,_,dv PX,(vN N5 aP Gj _ (by simp only[List.length_append,List.length_singleton] at CL ⊢;omega)).mono ?_⟩⟩
   rintro _ sh ⟨D_,rfl,E8,v11⟩
   obtain⟨as8,as9⟩:=Kl v11 as7 abC
   refine⟨rfl,bG.len-(i+1),by omega,rfl,rfl,rfl,rfl,i+1,D_,bf (by omega) (by omega),by omega,rfl,?_,(v9.trans v10).trans v11,as8,as9⟩
   have aF:(je K).take (i+1)=(je K).take i++[p]:=by rw[List.take_add_one,List.getElem?_eq_getElem j3,aS];rfl
   have a8:(gT K).take (i+1)=(gT K).take i++[rW p]:=by rw[List.take_add_one,List.getElem?_eq_getElem b5,Gi];rfl
   rw[aF,a8,Fg,a_,List.flatMap_append]
   have b0:hV (ie k ag) [p] f=mw (ie k ag) f p:=rfl
   rw[b0,<-abD (R:=R) (r:=r) (key:=ie k ag) (f:=f) (p:=p) (by omega)]
   have b1:(nP (ie k ag) p.2.2 (f p.1) (f p.2.1))=(if t=true then f p.2.1 else f p.1,if t=true then f p.1 else f p.2.1):=by
    unfold nP;rw[<-bw];cases t<;>rfl
   rw[b1]
   have cy:a7++(((gT K).take i).flatMap (oa r)++[rW p].flatMap (oa r))=a7++((gT K).take i).flatMap (oa r)++[⟨r,p.1,false⟩]++[⟨r,p.2.1,false⟩]++[⟨r,p.1,true⟩]++[⟨r,p.2.1,true⟩]:=by
    simp[oa,rW]
   rw[cy];exact E8
 .have aF:i=(gT K).length:=by omega
  rw[List.take_of_length_le (by omega),List.take_of_length_le (by omega)] at gk
  exact⟨aW,rfl,gk,fS⟩
end

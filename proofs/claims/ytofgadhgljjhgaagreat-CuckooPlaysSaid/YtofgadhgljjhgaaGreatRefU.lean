import Derived.Test.YtofgadhgljjhgaaGreatRefT
import Derived.Test.YtofgadhgljjhgaaGreatRefN
namespace Go.Proofs.Tryz
open Go Go.cD Go.RowKit
set_option maxRecDepth 8000
section
variable {G:cG} {ws:List UInt64} {R:dF} {a7:List de} {es dQ:ar} {h:ak} {mm:jw} {n1 cS:TypeId} {tb u:Nat}
theorem atQ {l:List Nat}{a i:Nat}(h:i<l.length):(l++[a]).getD i 0=l.getD i 0:=by simp[List.getD,List.getElem?_append_left h]
theorem atS {l:List Nat}{a:Nat}:(l++[a]).getD l.length 0=a:=by simp[List.getD]
theorem C7 {l:List Nat}{i:Nat}(h:i<l.length):l.getD i 0∈l:=by simp[List.getD,h]
set_option maxHeartbeats 1000000 in
theorem ahd (o:G.da)(o8:∀i,i<G.L->qo mm (G.d_ i) (G.base i))(q5:G.f<mm.eX)(q6:mm.cf G.f=G.top)(M:cV n1 mm R a7 es h)(rC:fi ab h dQ ws)(ny:h tb=some (.cells #[bb dQ,U u] cS (0,0)))(El:¬bF mm es tb)(uY:∀q,dQ.q=some q->0<ws.length->¬bF mm es q.b/\q.b≠tb) :
 ao 38 [bg ⟨mm.b,0⟩,U G.f,v4 G.m G.s G.t G.L,bg ⟨tb,0⟩] h λv ah=>∃(B:lT) (V:jz),v= .tuple #[bg ⟨B.cr,0⟩,U 0]/\B.m=mm/\B.tb=tb/\B.dQ=dQ/\V.es=es/\hr G ws B ⟨R,u,λ_=>false,λ_=>[],[]⟩ a7 V ah/\PU G B/\(∀p x,p≠.tb->fu B G.L V p x->h x=none)/\bL h ah:=by
 have e4:=o.st
 have md:=M.eX
 have dY:=o.L
 have a_:G.f<=100:=by have:=(o8 0 (by omega)).a_;unfold cG.base at this;omega
 refine amz _ _ _ _ _ _ _ ?_
 unfold Yu
 refine bM λae g1 f1 aF aE=>⟨_,az aF rfl,_,az aF rfl,_,az aF rfl,_,az aF rfl,?_⟩
 refine(abF e4).to λg2 aC=>⟨_,rfl,bS rfl ?_⟩
 have a8:=aC.get aF
 have fE:=aE.trans aC
 refine⟨_,az a8 rfl,_,az a8 rfl,_,az a8 rfl,_,az a8 rfl,_,az a8 rfl,?_⟩
 refine(sq (M.bD fE) (r:=G.f) q5).mono ?_
 rintro _ g3 ⟨rfl,rfl⟩
 refine⟨_,rfl,⟨az a8 rfl,trivial⟩,⟨az a8 rfl,az a8 rfl,az a8 rfl,az a8 rfl,trivial⟩,?_⟩
 rw[show al ((G.L:Int)-1)=((G.L-1:Nat):Int) by rw[bf (by omega) (by omega)];omega]
 refine(Km e4 (G.L-1) (by omega)).to λg4 bh=>⟨_,rfl,bS ?_ ?_⟩
 .show(!decide ((mm.cf G.f:Int)=2 ^ (G.m-2*(G.L-1))))=false
  rw[q6,decide_eq_true (show((G.top:Nat):Int)=(2:Int) ^ (G.m-2*(G.L-1)) by unfold cG.top;simp)];rfl
 have b1:=bh.get a8
 have vi:=fE.trans bh
 refine⟨_,az b1 rfl,_,az b1 rfl,_,az b1 rfl,_,az b1 rfl,bM λay g5 f5 cy bE=>?_⟩
 have jL:=vi.trans bE
 have hZ:h ay=none:=vi.free f5
 have oC:=bE.get b1
 have cA:ae≠ay:=λe=>by rw[<-e,b1] at f5;cases f5
 have Jp:∀i,i<G.L->lR (G.m-2*i) G.s G.t:=λi hi=>e4.gy i
 refine⟨λq1 di aJ cj dp g bP=>(⟨mm.b,0⟩:aD)=q1/\di=(G.f:Int)/\(⟨ae,0⟩:aD)=aJ/\cj=some ⟨ay,0⟩/\∃(i:Nat) (x:ar) (cx:List Nat),dp=i/\i<=G.L/\bP=G.L-i/\cx.length=i /\
  g ay=some (.cells #[bg ⟨mm.b,0⟩,U G.f,U (2 ^ G.m),U G.s,U G.t,U G.L,bg ⟨tb,0⟩,bb x,bb ⟨none,0,0,none⟩,bb ⟨none,0,0,none⟩] 133 (0,0))/\cW (λb:Nat=>bg ⟨b,0⟩) g5 g x cx/\(∀y,y≠ay->g5 y≠none->g y=g5 y)/\bL h g /\
  (∀j,j<i->g (cx.getD j 0)=some (.cells (qa (G.d_ j) mm.b (G.base j) false ⟨none,0,0,none⟩) 137 (0,0)))/\cx.Nodup/\(∀z,z∈cx->g5 z=none)/\(∀q,x.q=some q->q.b∉cx),
  ⟨G.L,rfl,rfl,rfl,rfl,0,_,[],rfl,by omega,rfl,rfl,cy,cW.gD ..,λ_ _ _=>rfl,jL,λj aV=>absurd aV (by omega),List.nodup_nil,(λz bc=>by cases bc),(λq aj=>by cases aj)⟩,?_⟩
 rintro q1 di aJ cj dp g bP ⟨rfl,rfl,rfl,rfl,i,x,cx,rfl,hi,rfl,QX,iV,hL,of,cO,Aa,ir,av,jA⟩
 have GC:g ae=_:=(of ae cA (by rw[oC];simp)).trans oC
 have acn:∀z,z∈cx->g z≠none:=λz bc=>by
  obtain⟨j,aV,e⟩:=List.getElem_of_mem bc
  have:=Aa j (by omega)
  rw[show cx.getD j 0=z by simp[List.getD,aV,e]] at this
  rw[this];simp
 refine⟨_,az GC rfl,cd (λca=>?_) λdx=>?_⟩
 .have b5:i<G.L:=by omega
  refine⟨_,az GC rfl,_,az GC rfl,_,az GC rfl,_,az GC rfl,?_⟩
  refine(Qd e4 i (by omega)).to λg7 c9=>⟨_,_,_,rfl,?_⟩
  have iA:al (al ((G.f:Int)+1)+al (3*(i:Int)))=((G.base i:Nat):Int):=by
   rw[bf (n:=(G.f:Int)+1) (by omega) (by omega),bf (n:=3*(i:Int)) (by omega) (by omega),bf (by omega) (by omega)]
   unfold cG.base;omega
  rw[iA]
  have b2:=o8 i b5
  have aS:1<=2 ^ (G.m-2*i):=Nat.one_le_two_pow
  refine(atc (M.bD (cO.trans c9)) (Jp i b5) (f:=G.base i) b2.eX ?_ ?_ ?_).mono ?_
  .rw[b2.h2]
   show(G.s:Int)*_<=((G.s*(2 ^ (G.m-2*i+1)-1):Nat):Int)
   rw[Nat.pow_succ,Int.natCast_mul,Int.natCast_sub (by omega)]
   simp[Int.mul_comm]
  .rw[b2.ew];exact Int.le_refl _
  .rw[b2.fF]
   have e:mc (G.m-2*i) G.s G.t=2 ^ (G.d_ i).E:=b2.mc
   rw[e];simp
  rintro _ g8 ⟨rZ,rfl,vY,QY,eN⟩
  have sg:=c9.trans eN
  have KM:=sg.get iV
  refine⟨some ⟨rZ,0⟩,_,rfl,bS rfl ⟨_,rfl,_,az KM rfl,?_⟩⟩
  have aco:∀y,g y=none->g5 y=none:=λy aB=>by
   cases e:g5 y with
   | none=>rfl
   | some e3 =>
    by_cases c:y=ay
    .subst c;rw[iV] at aB;cases aB
    .rw[of y c (by rw[e];simp),e] at aB;cases aB
  have C8:g rZ=none:=c9.free vY
  refine cW.Bu atd (λ_=>rfl) (hL.bD sg) rZ (λy aB=>aco y (sg.free aB)) (by omega) (by decide) ?_
  intro cX g9 xN oJ wJ D1
  have acp:∀q,x.q=some q->q.b≠ay:=λq aj e=>by have:=(hL.bl aj).1;rw[e,cy] at this;cases this
  have atT:g9 ay=_:=(oJ ay (by rw[KM];simp) λq aj e=>acp q aj e.symm).trans KM
  have acq:∀y,g5 y≠none->y≠ay->g9 y=g5 y:=λy aB aH=>by
   have aa:=of y aH aB
   have ad:g8 y=g y:=sg y (by rw[aa];exact aB)
   rw[oJ y (by rw[ad,aa];exact aB) λq aj e=>by have:=(hL.bl aj).1;rw[<-e] at this;exact aB this,ad,aa]
  have atU:bL h g9:=λy aB=>by
   have atV:y≠ay:=λe=>aB (e▸hZ)
   rw[acq y (by rw[jL y aB];exact aB) atV,jL y aB]
  have atW:∀q,cX.q=some q->q.b≠ay:=λq aj e=>by
   rcases wJ q aj with ⟨p,aS,b4⟩|aH
   .exact acp p aS (b4.symm.trans e)
   .rw[e,KM] at aH;cases aH
  have acr:∀q,x.q=some q->g q.b≠none:=λq aj=>(hL.bl aj).2
  have atX:rZ≠ay:=λe=>by rw[e,iV] at C8;cases C8
  have atY:rZ∉cx:=λbc=>acn rZ bc C8
  have atZ:g9 rZ=_:=(oJ rZ (by rw[QY];simp) λq aj e=>acr q aj (e▸C8)).trans QY
  have at0:∀q,cX.q=some q->q.b∉cx++[rZ]:=λq aj hm=>by
   rcases wJ q aj with ⟨p,aS,b4⟩|aH
   .rw[b4] at hm
    rcases List.mem_append.1 hm with h|h
    .exact jA p aS h
    .rw[List.mem_singleton] at h;exact acr p aS (h▸C8)
   .rcases List.mem_append.1 hm with h|h
    .exact acn _ h (sg.free aH)
    .rw[List.mem_singleton] at h;rw[h,QY] at aH;cases aH
  refine⟨_,rfl,pE atU hZ atT (by simp) λqu fC sd fO=>⟨G.L-(i+1),by omega,rfl,rfl,rfl,rfl,i+1,cX,cx++[rZ],bf (by omega) (by omega),by omega,rfl,by rw[List.length_append,QX];rfl,by rw[sd];rfl,xN.move λq aj=>fO _ (atW q aj),λy aB aH=>by rw[fO y aB,acq y aH aB],fC,λj aV=>?_,?_,λz bc=>?_,at0⟩⟩
  .by_cases c:j<i
   .rw[atQ (by omega)]
    have hm:=C7 (l:=cx) (i:=j) (by omega)
    have c_:=Aa j c
    have aR:=av _ hm
    rw[fO _ (λe=>by rw[e,cy] at aR;cases aR),oJ _ (by rw[sg.get c_];simp) (λq aj e=>jA q aj (e▸hm)),sg.get c_]
   .have k6:j=i:=by omega
    subst k6
    rw[show(cx++[rZ]).getD j 0=rZ by rw[<-QX];exact atS,fO _ atX,atZ]
    rfl
  .rw[List.nodup_append]
   exact⟨ir,by simp,λa bO b au e=>by rw[List.mem_singleton] at au;rw[e,au] at bO;exact atY bO⟩
  .rcases List.mem_append.1 bc with h|h
   .exact av z h
   .rw[List.mem_singleton] at h;rw[h];exact aco _ C8
 .have:i=G.L:=by omega
  subst this
  obtain⟨B,dh⟩:∃B:lT,B=⟨ay,tb,x,λj=>cx.getD j 0,λ_=>137,n1,133,cS,mm,dQ⟩:=⟨_,rfl⟩
  obtain⟨V,iZ⟩:∃V:jz,V=⟨es,⟨none,0,0,none⟩,⟨none,0,0,none⟩,λ_=>⟨none,0,0,none⟩⟩:=⟨_,rfl⟩
  have IH:∀ {z:Nat},g5 z=none->z≠tb:=λbc e=>by rw[e,jL.get ny] at bc;cases bc
  have QZ:∀p z,fu B G.L V p z->p≠.tb->(p= .cr/\z=ay)∨(p= .b2/\∃q,x.q=some q/\z=q.b)∨∃j,p= .ba j/\j<G.L/\z=cx.getD j 0:=λp z bc aS=>by
   rw[dh,iZ] at bc
   cases p with
   | cr=>exact .inl ⟨rfl,bc⟩
   | tb=>exact absurd rfl aS
   | b2=>exact .inr (.inl ⟨rfl,bc⟩)
   | e4=>obtain⟨q,aj,_⟩:=bc;cases aj
   | le=>obtain⟨q,aj,_⟩:=bc;cases aj
   | ba j=>exact .inr (.inr ⟨j,rfl,bc⟩)
   | is j=>obtain⟨_,q,aj,_⟩:=bc;cases aj
  have fresh:∀p z,p≠.tb->fu B G.L V p z->h z=none:=λp z aS bc=>by
   rcases QZ p z bc aS with ⟨_,rfl⟩|⟨_,q,aj,rfl⟩|⟨j,_,aV,rfl⟩
   .exact hZ
   .exact jL.free (hL.bl aj).1
   .exact jL.free (av _ (C7 (by omega)))
  have KN:∀z,fu B G.L V .tb z->z=tb:=λz bc=>by rw[dh] at bc;exact bc
  refine⟨B,V,(by rw[dh];rfl),by rw[dh],by rw[dh],by rw[dh],by rw[iZ],⟨by rw[dh,iZ];exact iV,by rw[dh,iZ];exact M.bD cO,by rw[dh];exact cO.get ny,by rw[dh];exact rC.bD cO,?_,λj aV=>by rw[dh,iZ];exact Aa j aV,λj aV=>by rw[iZ];exact cW.gD ..,by rw[iZ];exact cW.gD ..,by rw[iZ];exact cW.gD ..,?_,?_,?_⟩,⟨by rw[dh];exact o8,by rw[dh];exact q5,by rw[dh];exact q6⟩,fresh,cO⟩
  .have e:(List.range G.L).map B.ba=cx:=by
    rw[dh]
    apply List.ext_getElem
    .simp[QX]
    .intro j aq aM;simp[List.getD,aM]
   rw[e,dh];exact hL.rd
  .intro p eu z bc vS
   by_cases c:p= .tb
   .by_cases cc:eu= .tb
    .rw[c,cc]
    .subst c
     have:=fresh eu z cc vS
     rw[KN z bc,ny] at this;cases this
   .by_cases cc:eu= .tb
    .subst cc
     have:=fresh p z c bc
     rw[KN z vS,ny] at this;cases this
    .rcases QZ p z bc c with ⟨aa,p5⟩|⟨aa,q,aj,p5⟩|⟨j,aa,aV,p5⟩<;>rcases QZ eu z vS cc with ⟨ad,pa⟩|⟨ad,dL,eB,pa⟩|⟨cT,ad,j6,pa⟩
     .rw[aa,ad]
     .have:=(hL.bl eB).1;rw[<-pa,p5,cy] at this;cases this
     .have:=av _ (C7 (l:=cx) (i:=cT) (by omega));rw[<-pa,p5,cy] at this;cases this
     .have:=(hL.bl aj).1;rw[<-p5,pa,cy] at this;cases this
     .rw[aa,ad]
     .exact absurd (by rw[<-p5,pa];exact C7 (by omega)) (jA q aj)
     .have:=av _ (C7 (l:=cx) (i:=j) (by omega));rw[<-p5,pa,cy] at this;cases this
     .exact absurd (by rw[<-pa,p5];exact C7 (by omega)) (jA dL eB)
     .have:=BY ir (i:=j) (j:=cT) (by omega) (by omega) (p5.symm.trans pa)
      rw[aa,ad,this]
  .intro p z bc hm
   rw[dh,iZ] at hm
   by_cases c:p= .tb
   .subst c;rw[KN z bc] at hm;exact El hm
   .exact M.dn hm (fresh p z c bc)
  .intro q aj aT
   have aj:dQ.q=some q:=by rw[dh] at aj;exact aj
   have bV:=rC.there aj aT
   obtain⟨lA,kG⟩:=uY q aj aT
   refine⟨by rw[cO _ bV];exact bV,?_⟩
   rintro (hm|⟨p,bc⟩)
   .rw[dh,iZ] at hm;exact lA hm
   .by_cases c:p= .tb
    .subst c;exact kG (KN _ bc)
    .exact bV (fresh p _ c bc)
end

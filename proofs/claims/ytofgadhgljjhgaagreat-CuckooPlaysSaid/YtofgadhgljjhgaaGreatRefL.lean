import Derived.Test.YtofgadhgljjhgaaGreatRefD
import Derived.Test.YtofgadhgljjhgaaGreatLevG
namespace Go.Proofs.Tryz
open Go Go.cD Go.RowKit
set_option maxRecDepth 8000
theorem asL (c:cv){j:Nat}(aV:j<8):(jX c)[j]=c[3+j]:=by
 rcases (show j=0∨j=1∨j=2∨j=3∨j=4∨j=5∨j=6∨j=7 by omega) with rfl|rfl|rfl|rfl|rfl|rfl|rfl|rfl<;>simp[jX]
def upto {n:Nat}(z c:Vector UInt64 n)(i:Nat):Vector UInt64 n:=Vector.ofFn λj:Fin n=>if j.val<i then c[j.val] else z[j.val]
theorem abi {n:Nat}(z c:Vector UInt64 n){i:Nat}(hi:i<n):(upto z c i).set i c[i]=upto z c (i+1):=by
 apply Vector.ext
 intro j aV
 unfold upto
 rw[Vector.getElem_set]
 simp only[Vector.getElem_ofFn]
 by_cases e:i=j
 .subst e;rw[if_pos rfl,if_pos (by omega)]
 .rw[if_neg e]
  by_cases aQ:j<i
  .rw[if_pos aQ,if_pos (by omega)]
  .rw[if_neg aQ,if_neg (by omega)]
theorem asM {n:Nat}(z c:Vector UInt64 n):upto z c 0=z:=by
 apply Vector.ext;intro j aV;unfold upto;simp
theorem abj {n:Nat}{z c:Vector UInt64 n}{i:Nat}(h:∀j (aV:j<n),i<=j->z[j]=c[j]):upto z c i=c:=by
 apply Vector.ext;intro j aV;unfold upto;simp only[Vector.getElem_ofFn]
 by_cases aQ:j<i
 .rw[if_pos aQ]
 .rw[if_neg aQ];exact h j aV (by omega)
theorem arN (c:cv):eW prog 142 [ea c] (ea (jX c)):=by
 intro h
 refine aqa _ ?_
 unfold Z1
 refine bM λae aa f1 aF aE=>bM λay ad f2 a8 aC=>bM λaN an f3 b0 aI=>?_
 have nw:=(aE.trans aC).trans aI
 have f30:=aE.free (aC.free f3)
 have n31:aN≠ae:=λe=>by rw[e,aC.get aF] at f3;cases f3
 have n32:aN≠ay:=λe=>by rw[e,a8] at f3;cases f3
 refine⟨λq1 aJ bd aw g bP=>q1=⟨ae,0⟩/\aJ=⟨ay,0⟩/\bd=⟨aN,0⟩/\∃i:Nat,aw=i/\i<=8/\bP=8-i/\bL h g/\g ae=an ae/\g ay=an ay/\g aN=some (.cells (af.cells (.ws 8 (upto jB (jX c) i))).toArray 100 (0,0)),
  ⟨8,rfl,rfl,rfl,0,rfl,by omega,rfl,nw,rfl,rfl,by rw[asM];exact b0⟩,?_⟩
 rintro q1 aJ bd aw g bP ⟨rfl,rfl,rfl,i,rfl,hi,rfl,cO,g1,g2,g3⟩
 refine cd (λca=>?_) λdx=>?_
 .have b5:i<8:=by omega
  rw[show al (3+(i:Int))=((3+i:Nat):Int) by rw[bf (by omega) (by omega)];omega]
  refine⟨by omega,by omega,_,by rw[show 0+Int.toNat ((3+i:Nat):Int)*1=3+i by omega];exact fb (g1.trans ((aC.trans aI).get aF)) (i:=3+i) (by omega),by omega,by omega,?_⟩
  rw[show 0+Int.toNat (i:Int)*1=i by omega]
  refine pQ cO f30 g3 b5 λbo hJ b4 iE=>⟨8-(i+1),by omega,rfl,rfl,rfl,i+1,bf (by omega) (by omega),by omega,rfl,hJ,(iE ae (Ne.symm n31)).trans g1,(iE ay (Ne.symm n32)).trans g2,?_⟩
  rw[b4,<-asL c b5,abi _ _ b5]
 .have:i=8:=by omega
  subst this
  rw[abj λj aV bW=>absurd bW (by omega)] at g3
  exact⟨_,dv g3,pg (n:=8) cO (aE.free f2) (g2.trans (aI.get a8)) rfl λbo hJ b4 _=>⟨_,dv b4,rfl,hJ⟩⟩
theorem arR (id:UInt64){to:Nat}(bw:to<2 ^ 63)(d:c0):eW prog 143 [ab id,U to,ea d] (ea (la id (UInt64.ofNat to) d)):=by
 intro h
 refine aqc _ _ _ ?_
 unfold Z2
 refine bM λae aa f1 aF aE=>bM λay ad f2 a8 aC=>bM λaN an f3 b0 aI=>⟨Int.NonNeg.mk _,Int.NonNeg.mk _,?_⟩
 have nw:=(aE.trans aC).trans aI
 have f30:=aE.free (aC.free f3)
 have n31:aN≠ae:=λe=>by rw[e,aC.get aF] at f3;cases f3
 have n32:aN≠ay:=λe=>by rw[e,a8] at f3;cases f3
 refine pQ (n:=12) (c:=e6) (i:=0) nw f30 b0 (by decide) λaK bh b1 dr=>⟨Int.NonNeg.mk _,Int.NonNeg.mk _,?_⟩
 refine pQ (n:=12) (i:=1) bh f30 b1 (by decide) λaR bE cy cm=>⟨Int.NonNeg.mk _,Int.NonNeg.mk _,?_⟩
 refine pQ (n:=12) (i:=2) bE f30 cy (by decide) λbp ch dE dZ=>?_
 have xx:bp ae=an ae:=((dZ _ (Ne.symm n31)).trans (cm _ (Ne.symm n31))).trans (dr _ (Ne.symm n31))
 have zG:bp ay=an ay:=((dZ _ (Ne.symm n32)).trans (cm _ (Ne.symm n32))).trans (dr _ (Ne.symm n32))
 have asN:((e6.set 0 1).set 1 id).set 2 (cI (to:Int))=upto e6 (la id (UInt64.ofNat to) d) 3:=by
  rw[jk bw]
  apply Vector.ext;intro j aV
  unfold upto
  simp only[Vector.getElem_ofFn]
  rcases (show j=0∨j=1∨j=2∨3<=j by omega) with rfl|rfl|rfl|an
  .simp[la]
  .simp[la]
  .simp[la]
  .rw[if_neg (by omega),Vector.getElem_set,if_neg (by omega),Vector.getElem_set,if_neg (by omega),Vector.getElem_set,if_neg (by omega)]
 rw[asN] at dE
 refine⟨λq1 aJ bd aw g bP=>q1=⟨ae,0⟩/\aJ=⟨ay,0⟩/\bd=⟨aN,0⟩/\∃i:Nat,aw=i/\i<=8/\bP=8-i/\bL h g/\g ae=an ae/\g ay=an ay/\g aN=some (.cells (af.cells (.ws 12 (upto e6 (la id (UInt64.ofNat to) d) (3+i)))).toArray 56 (0,0)),
  ⟨8,rfl,rfl,rfl,0,rfl,by omega,rfl,ch,xx,zG,dE⟩,?_⟩
 rintro q1 aJ bd aw g bP ⟨rfl,rfl,rfl,i,rfl,hi,rfl,cO,g1,g2,g3⟩
 refine cd (λca=>?_) λdx=>?_
 .have b5:i<8:=by omega
  refine⟨by omega,by omega,_,by rw[show 0+Int.toNat (i:Int)*1=i by omega];exact fb (g1.trans ((aC.trans aI).get aF)) b5,?_⟩
  rw[show al (3+(i:Int))=((3+i:Nat):Int) by rw[bf (by omega) (by omega)];omega,show 0+Int.toNat ((3+i:Nat):Int)*1=3+i by omega]
  refine⟨by omega,by omega,pQ cO f30 g3 (show 3+i<12 by omega) λbo hJ b4 iE=>⟨8-(i+1),by omega,rfl,rfl,rfl,i+1,bf (by omega) (by omega),by omega,rfl,hJ,(iE ae (Ne.symm n31)).trans g1,(iE ay (Ne.symm n32)).trans g2,?_⟩⟩
  have hm:d[i]=(la id (UInt64.ofNat to) d)[3+i]:=by
   rcases (show i=0∨i=1∨i=2∨i=3∨i=4∨i=5∨i=6∨i=7 by omega) with rfl|rfl|rfl|rfl|rfl|rfl|rfl|rfl<;>simp[la]
  rw[b4,hm,abi _ _ (show 3+i<12 by omega)];rfl
 .have:i=8:=by omega
  subst this
  rw[abj λj aV bW=>by
   have:j=11:=by omega
   subst this;simp[la,e6]] at g3
  exact⟨_,dv g3,pg (n:=12) cO (aE.free f2) (g2.trans (aI.get a8)) rfl λbo hJ b4 _=>⟨_,dv b4,rfl,hJ⟩⟩
abbrev qa (P:db)(BO f:Nat)(eS:Bool)(is:ar):Array Value:=#[bg ⟨BO,0⟩,U f,U (2 ^ P.k),U P.s,U P.t,.bool eS,bb is]
def rU (ba:Nat)(is:ar):Nat->Prop:=λx=>x=ba∨∃q,is.q=some q/\x=q.b
theorem asO (x:UInt64):(ab x).oneCell'=true:=rfl
theorem arT {P:db}{BO f:Nat}{eS:Bool}{is:ar}{T:TypeId}{ba:Nat}{ids:List UInt64}{h:ak}(e:h ba=some (.cells (qa P BO f eS is) T (0,0)))(hL:cW ab lE h is ids)(sep:∀q,is.q=some q->q.b≠ba)(aT:ids.length<1000000000000)(id:UInt64) :
 ao 144 [bg ⟨ba,0⟩,ab id] h λv ah=>∃eC,v= .tuple #[]/\ah ba=some (.cells (qa P BO f eS eC) T (0,0))/\cW ab lE ah eC (if id∈ids then ids else ids++[id])/\(∀q,eC.q=some q->q.b≠ba)/\bT (rU ba is) h (rU ba eC) ah:=by
 have len:=hL.len
 refine aqe _ _ ?_
 unfold Z3
 refine⟨λq1 bq aw g bP=>q1=⟨ba,0⟩/\id=bq/\g=h/\∃i:Nat,aw=i/\i<=ids.length/\bP=ids.length-i/\∀j (aV:j<ids.length),j<i->ids[j]≠id,
  ⟨ids.length,rfl,rfl,rfl,0,rfl,by omega,rfl,λj _ aV=>absurd aV (by omega)⟩,?_⟩
 rintro q1 bq aw g bP ⟨rfl,rfl,rfl,i,rfl,hi,rfl,n5⟩
 refine⟨is,az e rfl,cd (λca=>?_) λdx=>?_⟩
 .have b5:i<ids.length:=by omega
  refine⟨is,az e rfl,hL.rd.cp b5 λq _ c=>⟨_,c,h4 (λai=>?_) λai=>?_⟩⟩
  .have hm:id∈ids:=by rw[<-of_decide_eq_true (show decide _=true from ai)];exact List.getElem_mem b5
   rw[if_pos hm]
   exact⟨is,rfl,e,hL,sep,bT.refl _ _⟩
  .refine⟨ids.length-(i+1),by omega,rfl,rfl,rfl,i+1,bf (by omega) (by omega),by omega,rfl,λj aV Nd=>?_⟩
   by_cases aQ:j=i
   .subst aQ;exact of_decide_eq_false (show decide _=false from ai)
   .exact n5 j aV (by omega)
 .have aH:¬id∈ids:=λhm=>by
   obtain⟨j,aV,e⟩:=List.getElem_of_mem hm
   exact n5 j aV (by omega) e
  rw[if_neg aH]
  refine⟨is,az e rfl,?_⟩
  refine cW.Bu I0 asO hL id (λ_ _=>rfl) (by omega) (by decide) λeC g2 cb f2 kG aA=>?_
  have Gh:g2 ba=g ba:=f2 ba (by rw[e];simp) λq aj h=>sep q aj h.symm
  have abk:∀q,eC.q=some q->q.b≠ba:=λq aj=>by
   rcases kG q aj with ⟨p,aS,h⟩|au
   .rw[h];exact sep p aS
   .exact λh=>by rw[h,e] at au;cases au
  refine⟨_,_,Gh.trans e,by simp,eC,rfl,by rw[eH];rfl,cb.move λq aj=>cQ _ _ (abk q aj),abk,⟨?_,λx ai l1=>?_,λx ai=>?_⟩⟩
  .rintro x (rfl|⟨q,aj,rfl⟩)
   .exact .inl (.inl rfl)
   .rcases kG q aj with ⟨p,aS,h⟩|au
    .exact .inl (.inr ⟨p,aS,h⟩)
    .exact .inr au
  .rw[cQ _ _ (λh=>l1 (.inl h)),f2 x ai λq aj h=>l1 (.inr ⟨q,aj,h⟩)]
  .by_cases c:x=ba
   .rw[c,eH] at ai;cases ai
   .rw[cQ _ _ c] at ai;exact aA x ai
theorem asP:oZ prog 266 267 2 (.agg #[.int .u64 0,U 0]) 16:=⟨by kernel_rfl,by kernel_rfl,by kernel_rfl,by kernel_rfl,rfl⟩
section
variable {T:TypeId} {m:jw} {R:dF} {a7:List de} {es:ar} {h:ak}
theorem abl (M:cV T m R a7 es h){r K k N:Nat}(aP:r<m.eX)(eM:K<=10)(ji:N=2 ^ K)(aH:N<=m.cf r)(ag:k<12)(aT:a7.length<3000000000000) :
 ao 163 [bg ⟨m.b,0⟩,U r,U N,U k] h λv ah=>∃aW,v=U 0/\cV T m (en R r (hV (ie k ag) (je K) (R r))) (a7++w4 r K) aW ah/\bT (bF m es) h (bF m aW) ah:=by
 subst ji
 have:=asQ M aP eM aH ag aT
 rw[show(2:Int) ^ K=((2 ^ K:Nat):Int) by simp] at this
 exact this
theorem asR {P:db}{av:Nat}{T:Nat->cv}(w:xe P T){j:Nat}(aV:j<2 ^ P.E)(dh:dU (fk P av T j)=true):(fk P av T j)[2].toNat<2 ^ P.k:=by
 have hm:fk P av T j∈(List.range (2 ^ P.E)).map (hh P av T):=(XB gU P.E (hh P av T)).1.mem_iff.1 (List.mem_map.2 ⟨j,List.mem_range.2 aV,rfl⟩)
 obtain⟨i,_,e⟩:=List.mem_map.1 hm
 rw[<-e] at dh ⊢
 have h0:(hh P av T i)[0]=(T i)[0]:=by unfold hh;rw[Vector.getElem_set_ne];decide
 have ad:(hh P av T i)[2]=(T i)[2]:=by unfold hh;rw[Vector.getElem_set_ne];decide
 rw[ad]
 refine w.leaf i ?_
 unfold dU at dh ⊢;rwa [h0] at dh
set_option maxHeartbeats 2000000 in
theorem arV {P:db}(o:P.da)(M:cV T m R a7 es h){iP:TypeId}{ba f:Nat}{eS:Bool}{is:ar}(kv:h ba=some (.cells (qa P m.b f eS is) iP (0,0)))(vc:¬bF m es ba)
 (a_:f<=1000) (aP:f+2<m.eX) (oD:m.cf (f+2)=2 ^ P.E) {av:Nat} (gI:av<2 ^ P.k) (dR:xe P (R (f+2))) (aT:a7.length<2000000000000) :
 ao 145 [bg ⟨ba,0⟩,U av,U ((2 ^ P.E:Nat):Int)] h λv ah=>∃aW,v= .tuple #[]/\cV T m (en R (f+2) (ke P av (R (f+2)))) (a7++(iO f P.E++iO f P.E)) aW ah /\
  ah ba=some (.cells (qa P m.b f (eS||lH P av (R (f+2))) is) iP (0,0))/\¬bF m aW ba/\bT (λx=>bF m es x∨x=ba) h (λx=>bF m aW x∨x=ba) ah:=by
 have ol:=o.gy
 have akw:=y9 o
 have y_:=o.E
 have rl:=II (f:Int) y_
 have aH:=o.n
 have P2:=o.k
 have wl:=ru ((f:Int)+2)
 generalize tR:2 ^ P.E=N at *
 have asS:en R (f+2) (R (f+2))=R:=BJ R (f+2)
 generalize akP:R (f+2)=cS at *
 have iA:al ((f:Int)+2)=((f+2:Nat):Int):=by rw[bf (by omega) (by omega)];omega
 have rO:((f+2:Nat):Int)=(f:Int)+2:=by omega
 have abm:∀ {c:cv},c[2].toNat<2 ^ P.k->al ((c[2].toNat:Nat):Int)=((c[2].toNat:Nat):Int):=λaZ=>WE P2 aZ
 refine aqg _ _ _ ?_
 unfold Z4
 refine⟨_,az kv rfl,_,az kv rfl,_,az kv rfl,(Kg ol).to λaa aE=>⟨_,_,_,rfl,bM λae ad f1 aF aC=>?_⟩⟩
 have f10:=aE.free f1
 refine jl (aE.trans aC) f10 aF rfl λan aI b0 c7=>⟨_,az b0 rfl,_,az b0 rfl,_,az b0 rfl,(J9 ol.r6).to λaK bh=>⟨_,rfl,?_⟩⟩
 have lV:(P.s:Int)*((P.k:Int)+1)+(P.t:Int)+1=(P.n:Nat):=Nz P
 rw[lV]
 have EZ:ae≠ba:=λe=>by rw[e,kv] at f10;cases f10
 let gl:dF->List de->ar->Bool->ak->Prop:=λdm b_ aW jM g=>cV T m dm b_ aW g/\bT (λx=>bF m es x∨x=ba) h (λx=>bF m aW x∨x=ba) g/\¬bF m aW ba/\¬bF m aW ae/\g ba=some (.cells (qa P m.b f jM is) iP (0,0))/\g ae=an ae
 have iV:∀ {g:ak},g ae=an ae->g ae=some (.cells _ _ (0,0)):=λh=>h.trans b0
 have mem:∀ {dm b_ aW jM g c4 eL ds g2},gl dm b_ aW jM g->cV T m c4 eL ds g2->bT (bF m aW) g (bF m ds) g2->gl c4 eL ds jM g2:=fun⟨_,V,nl,hg,el,aF⟩ M2 v =>
  ⟨M2,V.trans (mK v),v.out (by rw[el];simp) nl,v.out (by rw[iV aF];simp) hg,v.get el nl,(v.2.1 ae (by rw[iV aF];simp) hg).trans aF⟩
 have bD:∀ {dm b_ aW jM g g2},gl dm b_ aW jM g->bL g g2->gl dm b_ aW jM g2:=fun⟨M,V,nl,hg,el,aF⟩ k=>⟨M.bD k,V.more k,nl,hg,k.get el,(k ae (by rw[iV aF];simp)).trans aF⟩
 have loc:∀ {dm b_ aW jM g b g2},gl dm b_ aW jM g->¬bF m aW b->b≠ba->b≠ae->bT (λx=>bF m es x∨x=ba) h (λx=>bF m aW x∨x=ba) g2->(∀y,y≠b->g2 y=g y)->gl dm b_ aW jM g2:=fun⟨M,_,nl,hg,el,aF⟩ au aT aa V o =>
  ⟨M.move λy aB=>o y λe=>au (e▸aB),V,nl,hg,(o ba (Ne.symm aT)).trans el,(o ae (Ne.symm aa)).trans aF⟩
 have fresh:∀ {dm b_ aW jM g b},gl dm b_ aW jM g->g b=none->h b=none/\¬bF m aW b/\b≠ba/\b≠ae:=fun⟨M,V,nl,hg,el,aF⟩ au =>
  ⟨V.2.2 _ au,M.out au,(λe=>by rw[e,el] at au;cases au),λe=>by rw[e,iV aF] at au;cases au⟩
 have P3:∀(F:Nat->cv) (i:Nat),en R (f+2) F (f+2) i=F i:=λF i=>by unfold en;rw[if_pos rfl]
 let mix:(Nat->cv)->(Nat->cv)->Nat->Nat->cv:=λA B i p=>if p<i then A p else B p
 have Gc:∀(A B:Nat->cv) (i:Nat),fA (en R (f+2) (mix A B i)) (f+2,i) (A i)=en R (f+2) (mix A B (i+1)):=λA B i=>by
  funext r j
  show(if r=f+2/\j=i then A i else if r=f+2 then (if j<i then A j else B j) else R r j)=if r=f+2 then (if j<i+1 then A j else B j) else R r j
  by_cases aQ:r=f+2
  .rw[if_pos aQ,if_pos aQ]
   by_cases aY:j=i
   .rw[if_pos ⟨aQ,aY⟩,if_pos (by omega),aY]
   .rw[if_neg (λh=>aY h.2)]
    by_cases ck:j<i
    .rw[if_pos ck,if_pos (by omega)]
    .rw[if_neg ck,if_neg (by omega)]
  .rw[if_neg (λh=>aQ h.1),if_neg aQ,if_neg aQ]
 have abn:∀(A B:Nat->cv) (i:Nat),mix A B i i=B i:=λA B i=>if_neg (Nat.lt_irrefl i)
 have hD:gl R a7 es eS aK:=by
  have sJ:=M.bD (aI.trans bh)
  exact⟨sJ,(hF (aI.trans bh) _).to λx ai=> .inl ai,vc,M.out f10,(aI.trans bh).get kv,bh ae (by rw[b0];simp)⟩
 refine⟨λq1 cL cA aJ cJ dd g bP=>q1=⟨ba,0⟩/\cL=av/\cA=(N:Nat)/\aJ=⟨ae,0⟩/\cJ=(P.n:Nat)/\∃(i:Nat) (aW:ar),dd=i/\i<=N/\bP=N-i/\gl (en R (f+2) (mix (hh P av cS) cS i)) (a7++writes ((f:Int)+2) i) aW eS g,
  ⟨N,rfl,rfl,rfl,rfl,rfl,0,es,rfl,by omega,rfl,by
   have e:mix (hh P av cS) cS 0=cS:=by funext p;exact if_neg (by omega)
   rw[e,asS];simpa [writes] using hD⟩,?_⟩
 clear hD
 rintro q1 cL cA aJ cJ dd g bP ⟨rfl,rfl,rfl,rfl,rfl,i,ih,rfl,hi,rfl,S⟩
 have P4:=wl i
 refine cd (λca=>?_) λdx=>?_
 .have b5:i<N:=by omega
  have el:=S.2.2.2.2.1
  refine⟨some ⟨m.b,0⟩,az el rfl,_,az el rfl,?_⟩
  rw[iA]
  refine(tJ S.1 aP (show i<m.cf (f+2) by omega) (by rw[List.length_append,P4];omega)).mono ?_
  rintro _ g1 ⟨ds,rfl,oi,v1⟩
  have fm:=mem S oi v1
  rw[P3,abn]
  refine⟨_,rfl,bM λay g2 f2 a8 aC=>?_⟩
  obtain⟨hZ,xT,xU,cZ⟩:=fresh fm f2
  have fy:=bD fm aC
  refine fB (n:=12) fy.2.1 hZ a8 rfl λg3 kd oO ui=>⟨Int.NonNeg.mk _,Int.NonNeg.mk _,?_⟩
  have kf:=loc fy xT xU cZ kd ui
  refine mU (i:=11) kd hZ oO (by decide) λg4 qL b1 dr=>?_
  have hD:=loc kf xT xU cZ qL dr
  rw[jk (by omega)] at b1
  have fin:∀(g5:ak),gl (en R (f+2) (mix (hh P av cS) cS i)) (a7++writes ((f:Int)+2) i++[⟨((f+2:Nat):Int),i,false⟩]) ds eS g5->g5 ay=some (.cells (af.cells (.ws 12 (hh P av cS i))).toArray 56 (0,0)) ->
   ∃c7:Option aD,br g5 ba (0+0)=some (a1 c7)/\∃eG,br g5 ba (0+1)=some (U eG)/\∃ck:cv,bU g5 ay 0 ck/\ao 126 [a1 c7,U (al (eG+2)),U i,ea ck] g5 λv6 dI=>v6= .tuple #[]/\∃bh,bh<N-i/\((⟨ba,0⟩:aD)=⟨ba,0⟩/\(av:Int)=av/\(N:Int)=(N:Nat)/\(⟨ae,0⟩:aD)=⟨ae,0⟩/\(P.n:Int)=(P.n:Nat)/\∃(dw:Nat) (aW:ar),al ((i:Int)+1)=dw/\dw<=N/\bh=N-dw/\gl (en R (f+2) (mix (hh P av cS) cS dw)) (a7++writes ((f:Int)+2) dw) aW eS dI):=by
   intro g5 gR cy
   have Gd:=gR.2.2.2.2.1
   refine⟨some ⟨m.b,0⟩,az Gd rfl,_,az Gd rfl,_,dv cy,?_⟩
   rw[iA]
   refine(vN gR.1 aP (show i<m.cf (f+2) by omega) _ (by simp only[List.length_append,P4,List.length_singleton];omega)).mono ?_
   rintro _ g6 ⟨u2,rfl,nc,v6⟩
   rw[Gc] at nc
   refine⟨rfl,N-(i+1),by omega,rfl,rfl,rfl,rfl,rfl,i+1,u2,bf (by omega) (by omega),by omega,rfl,?_⟩
   have:=mem gR nc v6
   rw[Bz,<-rO,show ∀a b:de,a7++(writes ((f+2:Nat):Int) i++[a,b])=a7++writes ((f+2:Nat):Int) i++[a]++[b] by simp]
   rw[<-rO] at this
   exact this
  have g0:((cS i).set 11 (4611686018427387904+UInt64.ofNat i))[0]=(cS i)[0]:=by rw[Vector.getElem_set_ne];decide
  have HT:((cS i).set 11 (4611686018427387904+UInt64.ofNat i))[1]=(cS i)[1]:=by rw[Vector.getElem_set_ne];decide
  have Mz:((cS i).set 11 (4611686018427387904+UInt64.ofNat i))[2]=(cS i)[2]:=by rw[Vector.getElem_set_ne];decide
  refine cd (λvl=>?_) λvl=>?_
  .refine⟨Int.NonNeg.mk _,Int.NonNeg.mk _,_,fb b1 (i:=0) (by decide),?_⟩
   rw[g0]
   by_cases dh:dU (cS i)=true
   .have aa:(cS i)[0]=1:=by have:=vf (cS i);rw[dh] at this;exact of_decide_eq_true this.symm
    have xV:=dR.leaf i dh
    refine dg (decide_eq_true aa) ⟨_,az (iV hD.2.2.2.2.2) rfl,_,az hD.2.2.2.2.1 rfl,Int.NonNeg.mk _,Int.NonNeg.mk _,_,fb b1 (i:=2) (by decide),Int.NonNeg.mk _,Int.NonNeg.mk _,_,fb b1 (i:=1) (by decide),?_⟩
    rw[Mz,HT,abm xV]
    refine(aaO P2 gI xV).to λg5 bE=>⟨_,rfl,⟨by have:=fb (bE.get b1) (i:=1) (by decide);rw[HT] at this;exact this,trivial⟩,⟨az (bE.get (iV hD.2.2.2.2.2)) rfl,trivial⟩,Int.NonNeg.mk _,Int.NonNeg.mk _,?_⟩
    have gR:=bD hD bE
    refine mU (i:=11) gR.2.1 hZ (bE.get b1) (by decide) λg6 qM dE dZ=>fin g6 (loc gR xT xU cZ qM dZ) ?_
    have sB:=BP P.k av (cS i)[2].toNat
    rw[dE,N1]
    unfold hh nO
    rw[if_pos ⟨by omega,dh⟩,show(P.k:Int)-(ky P.k av (cS i)[2].toNat:Nat)=((P.k-ky P.k av (cS i)[2].toNat:Nat):Int) by omega,bf (by omega) (by omega),jk (by omega)]
   .have aa:¬(cS i)[0]=1:=λh=>dh (by rw[vf];exact decide_eq_true h)
    refine bS (decide_eq_false aa) (fin g4 hD ?_)
    rw[b1];unfold hh nO;rw[if_neg λh=>dh h.2]
  .refine fin g4 hD ?_
   rw[b1];unfold hh nO;rw[if_neg λh=>vl (by omega)]
 have hi:i=N:=by omega
 subst hi
 have el:=S.2.2.2.2.1
 refine⟨some ⟨m.b,0⟩,az el rfl,_,az el rfl,?_⟩
 rw[iA]
 have CK:gl (en R (f+2) (hh P av cS)) (a7++writes ((f:Int)+2) i) ih eS g:=⟨cV.BM (f:=hh P av cS) (g:=cS) S.1 (by omega),S.2⟩
 refine(abl CK.1 aP (by omega) tR.symm (by omega) (k:=11) (by decide) (by simp only[List.length_append,P4];omega)).mono ?_
 rintro _ g1 ⟨ds,rfl,oi,v1⟩
 have fm:gl (en R (f+2) (fk P av cS)) (a7++iO f P.E) ds eS g1:=by
  have:=mem CK oi v1
  rw[zf,sK,List.append_assoc,<-tR,I3] at this;exact this
 clear CK S oi v1 el
 refine⟨_,rfl,?_⟩
 have o9:((List.range P.n).map λj=>iX P av (fk P av cS j)).map (·.2)=iu P av cS:=by
  unfold iu
  rw[List.map_map]
  exact List.map_congr_left λj _=>Ja P av _
 have lQ:(iu P av cS).length=P.n:=by simp[iu]
 have dl:=Oa P.k P.s P.t (by have:=o.s;omega) (iu P av cS) (by rw[lQ];unfold db.n;omega)
 have asT:∀j,j<i->dU (fk P av cS j)=true->(fk P av cS j)[2].toNat<2 ^ P.k:=λj aV=>asR dR (by omega)
 refine⟨λbd fs n25 bI n26 s1 n27 g bP=>bd=⟨ba,0⟩/\fs=av/\n25=(i:Nat)/\bI=⟨ae,0⟩/\n26=(P.n:Nat)/\∃j:Nat,n27=j/\j<=P.n/\bP=P.n-j/\gl (en R (f+2) (fk P av cS)) (a7++iO f P.E) ds eS g/\cF 2 oM h g s1 ((List.range j).map λj=>iX P av (fk P av cS j))/\∀q,s1.q=some q->¬bF m ds q.b/\q.b≠ba/\q.b≠ae,
  ⟨P.n,rfl,rfl,rfl,rfl,rfl,0,rfl,by omega,rfl,fm,cF.gD ..,λq aj=>by cases aj⟩,?_⟩
 clear fm
 rintro bd fs n25 bI n26 s1 n27 g bP ⟨rfl,rfl,rfl,rfl,rfl,j,rfl,aV,rfl,S,ei,sep⟩
 refine cd (λca=>?_) λdx=>?_
 .have j6:j<P.n:=by omega
  have el:=S.2.2.2.2.1
  refine⟨some ⟨m.b,0⟩,az el rfl,⟨m.b,0⟩,rfl,_,az S.1.top rfl,_,az el rfl,?_⟩
  rw[iA]
  refine S.1.Fb aP λq aZ=>⟨_,aZ,_,rfl,by omega,by show(j:Int)+1<=(m.cf (f+2):Nat);omega,fk P av cS j,?_,?_⟩
  .show bU g (m.jS (f+2)) (0+Int.toNat (j:Int)*12) _
   rw[show 0+Int.toNat (j:Int)*12=j*12 by omega]
   have:=S.1.rd aP (show j<m.cf (f+2) by omega)
   rw[P3] at this;exact this
  refine bM λaN g2 f2 a8 aC=>?_
  obtain⟨tl,NJ,WZ,n31⟩:=fresh S f2
  have fy:=bD S aC
  refine fB (n:=12) fy.2.1 tl a8 rfl λg3 kd oO ui=>bM λbJ g4 f4 b1 bh=>?_
  have kf:=loc fy NJ WZ n31 kd ui
  obtain⟨oH,abo,abp,n41⟩:=fresh kf f4
  have n43:bJ≠aN:=λe=>by rw[e,oO] at f4;cases f4
  have hD:=bD kf bh
  refine lu hD.2.1 oH b1 rfl λg5 qP cy cm=>⟨Int.NonNeg.mk _,Int.NonNeg.mk _,?_⟩
  have gR:=loc hD abo abp n41 qP cm
  have wF:=(cm aN (Ne.symm n43)).trans (bh.get oO)
  have abq:∀q,s1.q=some q->q.b≠aN:=λq aj e=>(ei.bl aj).2 (e▸f2)
  have J6:∀q,s1.q=some q->q.b≠bJ:=λq aj e=>by
   have aa:=(ei.bD aC).move (ah:=g3) λq aj=>ui _ (abq q aj)
   exact(aa.bl aj).2 (e▸f4)
  have abr:cF 2 oM h g5 s1 ((List.range j).map λj=>iX P av (fk P av cS j)):=(((ei.bD aC).move (ah:=g3) λq aj=>ui _ (abq q aj)).bD bh).move λq aj=>cm _ (J6 q aj)
  have fin:∀(g6:ak) (x:UInt64×Int) (t:TypeId),gl (en R (f+2) (fk P av cS)) (a7++iO f P.E) ds eS g6->cF 2 oM h g6 s1 ((List.range j).map λj=>iX P av (fk P av cS j))->x=iX P av (fk P av cS j) ->
   bj g6 (.cells #[ab x.1,U x.2] t) λbZ eP=>fh prog 266 s1 (.s ⟨some ⟨bZ,0⟩,1,1,none⟩) eP λbX fw=>∃eN,eN<P.n-j/\((⟨ba,0⟩:aD)=⟨ba,0⟩/\(av:Int)=av/\(i:Int)=(i:Nat)/\(⟨ae,0⟩:aD)=⟨ae,0⟩/\(P.n:Int)=(P.n:Nat)/\∃cT:Nat,al ((j:Int)+1)=cT/\cT<=P.n/\eN=P.n-cT/\gl (en R (f+2) (fk P av cS)) (a7++iO f P.E) ds eS fw/\cF 2 oM h fw bX ((List.range cT).map λj=>iX P av (fk P av cS j))/\∀q,bX.q=some q->¬bF m ds q.b/\q.b≠ba/\q.b≠ae):=by
   rintro g6 x t kW pj ai
   refine cF.push asP lB U5 pj [x] (by rfl) rfl (λb au=>kW.2.1.2.2 b au) (by simp;omega) (by decide) λcX g7 pM abt asU asV=>⟨P.n-(j+1),by omega,rfl,rfl,rfl,rfl,rfl,j+1,bf (by omega) (by omega),by omega,rfl,?_,?_,λdL eB=>?_⟩
   .obtain⟨M,V,nl,hg,el,aF⟩:=kW
    have st:∀y,g6 y≠none->(bF m ds y∨y=ba∨y=ae)->g7 y=g6 y:=λy aB aZ=>abt y aB λq aj e=>by
     obtain⟨xS,Cf,Kh⟩:=sep q aj
     rcases aZ with aZ|aZ|aZ
     .exact xS (e▸aZ)
     .exact Cf (e▸aZ)
     .exact Kh (e▸aZ)
    refine⟨M.move λy aB=>st y (M.dn aB) (.inl aB),?_,nl,hg,(st ba (by rw[el];simp) (.inr (.inl rfl))).trans el,(st ae (by rw[iV aF];simp) (.inr (.inr rfl))).trans aF⟩
    refine⟨V.1,λy aB aH=>?_,λy aB=>V.2.2 y (asV y aB)⟩
    rw[abt y (by rw[V.2.1 y aB aH];exact aB) λq aj e=>aB (e▸(pj.bl aj).1),V.2.1 y aB aH]
   .have e:(List.range (j+1)).map (λj=>iX P av (fk P av cS j))=(List.range j).map (λj=>iX P av (fk P av cS j))++[x]:=by simp[List.range_succ,ai]
    rw[e];exact pM
   .rcases asU dL eB with ⟨q,aj,e⟩|au
    .rw[e];exact sep q aj
    .exact(fresh kW au).2
  have lf:=vf (fk P av cS j)
  refine⟨_,fb wF (i:=0) (by decide),?_⟩
  by_cases dh:dU (fk P av cS j)=true
  .have aa:(fk P av cS j)[0]=1:=by rw[dh] at lf;exact of_decide_eq_true lf.symm
   have xV:=asT j (by omega) dh
   refine dg (decide_eq_true aa) ⟨Int.NonNeg.mk _,Int.NonNeg.mk _,_,fb wF (i:=1) (by decide),_,az gR.2.2.2.2.1 rfl,Int.NonNeg.mk _,Int.NonNeg.mk _,_,fb wF (i:=2) (by decide),?_⟩
   rw[abm xV]
   refine(aaO P2 gI xV).to λg6 ch=>⟨_,rfl,⟨fb (ch.get wF) (i:=1) (by decide),trivial⟩,?_⟩
   have kW:=bD gR ch
   refine lu kW.2.1 oH (ch.get cy) rfl λg7 l7 fo eK=>⟨_,az fo rfl,_,az fo rfl,fin g7 ((fk P av cS j)[1],_) _ (loc kW abo abp n41 l7 eK) ((abr.bD ch).move λq aj=>eK _ (J6 q aj)) ?_⟩
   rw[WQ dh]
  .have aa:¬(fk P av cS j)[0]=1:=λh=>dh (by rw[lf];exact decide_eq_true h)
   refine bS (decide_eq_false aa) ⟨_,az cy rfl,_,az cy rfl,fin g5 (0,-1) _ gR abr ?_⟩
   unfold iX;rw[if_neg dh]
 have aV:j=P.n:=by omega
 subst aV
 refine⟨_,az (iV S.2.2.2.2.2) rfl,_,az (iV S.2.2.2.2.2) rfl,_,az (iV S.2.2.2.2.2) rfl,?_⟩
 refine(ar5 (k:=P.k) (s:=P.s) (t:=P.t) ol.r6 ei.rd (by simp[db.n]) (λx ai=>?_) ?_).mono ?_
 .obtain⟨j,_,rfl⟩:=List.mem_map.1 ai
  rw[Ja];unfold vn
  have:=BP P.k av (fk P av cS j)[2].toNat
  split<;>omega
 .intro a b aa ad
  have rB:b<P.n:=by simpa using ad
  have zk:∀j,j<P.n->((List.range P.n).map λj=>iX P av (fk P av cS j)).getD j rI=oj P.k (gU (fk P av cS j)):=λj aV=>by
   rw[<-Ob o dR (by omega)];simp[List.getD,aV]
  rw[zk a (by omega),zk b rB]
  exact WV (by have:=o.k;omega) (W7 P av cS aa (by omega))
 rintro _ g2 ⟨cl,eb,rfl,pj,pM,aC⟩
 rw[o9] at pj pM
 have Jb:(kX P.k P.s P.t (iu P av cS)).length=P.n:=dl.len.trans lQ
 have asW:∀x∈ld P.k P.s P.t (iu P av cS),x<P.n:=λx ai=>by have aa:=dl.lost x ai;have ad:=tx (iu P av cS);omega
 have asX:∀x∈kX P.k P.s P.t (iu P av cS),x<P.n:=λx ai=>by have:=dl.lt x ai;omega
 have abu:=pM.len
 have fy:=bD S aC
 have asY:decide ((0:Int)<(eb.len:Int))=lH P av cS:=by
  unfold lH
  rw[abu];unfold hE;rw[List.length_map]
  cases ld P.k P.s P.t (iu P av cS)<;>simp
 have dj:∀q,cl.q=some q->¬bF m ds q.b/\q.b≠ba/\q.b≠ae:=λq aj=>(fresh S (pj.bl aj).1).2
 have dP:∀q,eb.q=some q->¬bF m ds q.b/\q.b≠ba/\q.b≠ae:=λq aj=>(fresh S (pM.bl aj).1).2
 generalize asZ:kX P.k P.s P.t (iu P av cS)=pl at *
 generalize P5:ld P.k P.s P.t (iu P av cS)=lo at *
 have azH:lo.length<=1000000:=by
  have aa:=List.length_filter_le (λi=>(im P.k P.s P.t (iu P av cS) (gL P.k)).getD i none==none) (List.range (gg (iu P av cS)))
  have ad:=tx (iu P av cS)
  rw[List.length_range] at aa
  rw[<-P5];unfold ld;omega
 rw[show(hE lo).length=lo.length by simp[hE]] at abu
 refine⟨cl,eb,rfl,λdJ n36 n37 eF hf bo=>dJ=⟨ba,0⟩/\n36=(i:Nat)/\n37=(P.n:Nat)/\eF=cl/\hf=eb/\gl (en R (f+2) (fk P av cS)) (a7++iO f P.E) ds (eS||lH P av cS) bo/\cW eR g bo cl (hE pl)/\cW eR g bo eb (hE lo),?_,?_⟩
 .have put:∀b:Bool,b=(eS||lH P av cS)->aX g2 ⟨ba,0+5⟩ [.bool b] λhj=>(⟨ba,0⟩:aD)=⟨ba,0⟩/\(i:Int)=(i:Nat)/\(P.n:Int)=(P.n:Nat)/\cl=cl/\eb=eb/\gl (en R (f+2) (fk P av cS)) (a7++iO f P.E) ds (eS||lH P av cS) hj/\cW eR g hj cl (hE pl)/\cW eR g hj eb (hE lo):=by
   rintro b au
   obtain⟨M,V,nl,hg,el,aF⟩:=fy
   refine N3 V (.inr rfl) el (by simp) λg3 kd oO ui=>⟨rfl,rfl,rfl,rfl,rfl,⟨M.move λy aB=>ui y λe=>nl (e▸aB),kd,nl,hg,by rw[oO,<-au];rfl,(ui ae EZ).trans aF⟩,pj.move λq aj=>ui _ (dj q aj).2.1,pM.move λq aj=>ui _ (dP q aj).2.1⟩
  refine⟨eS,az fy.2.2.2.2.1 rfl,?_⟩
  cases eS with
  | true=>exact dg rfl (put true rfl)
  | false=>refine bS rfl (put _ ?_);rw[<-asY];rfl
 clear fy
 rintro dJ n36 n37 eF hf g3 ⟨rfl,rfl,rfl,rfl,rfl,kf,nh,ni⟩
 refine⟨λet n38 n39 gS ig n40 bo bP=>et=⟨ba,0⟩/\n38=(i:Nat)/\n39=(P.n:Nat)/\gS=eF/\ig=hf/\∃(j:Nat) (aW:ar),n40=j/\j<=i/\bP=i-j/\gl (en R (f+2) (mix (lJ P av cS) (fk P av cS) j)) (a7++iO f P.E++writes ((f:Int)+2) j) aW (eS||lH P av cS) bo/\cW eR g bo eF (hE pl)/\cW eR g bo hf (hE lo)/\(∀q,eF.q=some q->¬bF m aW q.b)/\∀q,hf.q=some q->¬bF m aW q.b,
  ⟨i,rfl,rfl,rfl,rfl,rfl,0,ds,rfl,by omega,rfl,?_,nh,ni,λq aj=>(dj q aj).1,λq aj=>(dP q aj).1⟩,?_⟩
 .have e:mix (lJ P av cS) (fk P av cS) 0=fk P av cS:=by funext p;exact if_neg (by omega)
  rw[e];simpa [writes] using kf
 clear kf nh ni
 rintro et n38 n39 gS ig n40 g4 bP ⟨rfl,rfl,rfl,rfl,rfl,j,gQ,rfl,aV,rfl,hD,nh,ni,BW,BX⟩
 have azI:=wl j
 have od:∀l:List de,(a7++iO f P.E++l).length<=a7.length+512+4*102400+l.length:=λl=>by rw[List.length_append,List.length_append];omega
 refine cd (λca=>?_) λdx=>?_
 .have j6:j<i:=by omega
  have el:=hD.2.2.2.2.1
  refine⟨some ⟨m.b,0⟩,az el rfl,_,az el rfl,?_⟩
  rw[iA]
  refine(tJ hD.1 aP (show j<m.cf (f+2) by omega) (by have:=od (writes ((f:Int)+2) j);omega)).mono ?_
  rintro _ g5 ⟨su,rfl,ij,v5⟩
  have gR:=mem hD ij v5
  rw[P3,abn]
  have P6:∀ {s:ar} {l:List Int},cW eR g g4 s l->(∀q,s.q=some q->¬bF m gQ q.b)->cW eR g g5 s l/\∀q,s.q=some q->¬bF m su q.b:=λo n=>⟨o.move λq aj=>v5.2.1 _ (o.bl aj).2 (n q aj),λq aj=>v5.out (o.bl aj).2 (n q aj)⟩
  obtain⟨nh,BW⟩:=P6 nh BW
  obtain⟨ni,BX⟩:=P6 ni BX
  refine⟨_,rfl,bM λay g6 f6 dE ch=>?_⟩
  obtain⟨hZ,xT,xU,cZ⟩:=fresh gR f6
  have kW:=bD gR ch
  have t6:∀q,gS.q=some q->q.b≠ay:=λq aj e=>(nh.bl aj).2 (e▸f6)
  have t7:∀q,ig.q=some q->q.b≠ay:=λq aj e=>(ni.bl aj).2 (e▸f6)
  refine fB (n:=12) kW.2.1 hZ dE rfl λg7 l7 fo eK=>?_
  have vO:=loc kW xT xU cZ l7 eK
  have nh:cW eR g g7 gS (hE pl):=(nh.bD ch).move λq aj=>eK _ (t6 q aj)
  have ni:cW eR g g7 ig (hE lo):=(ni.bD ch).move λq aj=>eK _ (t7 q aj)
  have fin:∀(g8:ak),gl (en R (f+2) (mix (lJ P av cS) (fk P av cS) j)) (a7++iO f P.E++writes ((f:Int)+2) j++[⟨((f+2:Nat):Int),j,false⟩]) su (eS||lH P av cS) g8->g8 ay=some (.cells (af.cells (.ws 12 (lJ P av cS j))).toArray 56 (0,0))->cW eR g g8 gS (hE pl)->cW eR g g8 ig (hE lo) ->
   ∃c7:Option aD,br g8 ba (0+0)=some (a1 c7)/\∃eG,br g8 ba (0+1)=some (U eG)/\∃ck:cv,bU g8 ay 0 ck/\ao 126 [a1 c7,U (al (eG+2)),U j,ea ck] g8 λv6 dI=>v6= .tuple #[]/\∃bh,bh<i-j/\((⟨ba,0⟩:aD)=⟨ba,0⟩/\(i:Int)=(i:Nat)/\(P.n:Int)=(P.n:Nat)/\gS=gS/\ig=ig/\∃(cT:Nat) (aW:ar),al ((j:Int)+1)=cT/\cT<=i/\bh=i-cT/\gl (en R (f+2) (mix (lJ P av cS) (fk P av cS) cT)) (a7++iO f P.E++writes ((f:Int)+2) cT) aW (eS||lH P av cS) dI/\cW eR g dI gS (hE pl)/\cW eR g dI ig (hE lo)/\(∀q,gS.q=some q->¬bF m aW q.b)/\∀q,ig.q=some q->¬bF m aW q.b):=by
   intro g8 lk fP EG P7
   have zP:=lk.2.2.2.2.1
   refine⟨some ⟨m.b,0⟩,az zP rfl,_,az zP rfl,_,dv fP,?_⟩
   rw[iA]
   refine(vN lk.1 aP (show j<m.cf (f+2) by omega) _ (by have:=od (writes ((f:Int)+2) j);rw[List.length_append,List.length_singleton];omega)).mono ?_
   rintro _ g9 ⟨Bo,rfl,oe,v9⟩
   rw[Gc] at oe
   refine⟨rfl,i-(j+1),by omega,rfl,rfl,rfl,rfl,rfl,j+1,Bo,bf (by omega) (by omega),by omega,rfl,?_,EG.move λq aj=>v9.2.1 _ (EG.bl aj).2 (BW q aj),P7.move λq aj=>v9.2.1 _ (P7.bl aj).2 (BX q aj),λq aj=>v9.out (EG.bl aj).2 (BW q aj),λq aj=>v9.out (P7.bl aj).2 (BX q aj)⟩
   have:=mem lk oe v9
   rw[Bz,<-rO,show ∀a b:de,a7++iO f P.E++(writes ((f+2:Nat):Int) j++[a,b])=a7++iO f P.E++writes ((f+2:Nat):Int) j++[a]++[b] by simp]
   rw[<-rO] at this
   exact this
  refine cd (λvl=>?_) λvl=>?_
  .refine⟨Int.NonNeg.mk _,Int.NonNeg.mk _,mU (i:=11) l7 hZ fo (by decide) λg8 tK fP eT=>fin g8 (loc vO xT xU cZ tK eT) ?_ (nh.move λq aj=>eT _ (t6 q aj)) (ni.move λq aj=>eT _ (t7 q aj))⟩
   rw[fP,jk (by omega)]
   unfold lJ
   rw[P5,if_neg λh=>by have:=asW j h;omega,if_neg (by omega)]
  .have kB:j<P.n:=by omega
   refine⟨λez n43 n44 h6 kc n45 fK n46 bo bP=>ez=⟨ba,0⟩/\n43=(i:Nat)/\n44=(P.n:Nat)/\h6=gS/\kc=ig/\n45=(j:Nat)/\fK=⟨ay,0⟩/\∃z:Nat,n46=z/\z<=lo.length/\bP=lo.length-z/\gl (en R (f+2) (mix (lJ P av cS) (fk P av cS) j)) (a7++iO f P.E++writes ((f:Int)+2) j++[⟨((f+2:Nat):Int),j,false⟩]) su (eS||lH P av cS) bo/\bo ay=some (.cells (af.cells (.ws 12 (if j∈lo.take z then e6 else fk P av cS j))).toArray 56 (0,0))/\cW eR g bo gS (hE pl)/\cW eR g bo ig (hE lo),
    ⟨lo.length,rfl,rfl,rfl,rfl,rfl,rfl,rfl,0,rfl,by omega,rfl,vO,by rw[List.take_zero,if_neg (by simp)];exact fo,nh,ni⟩,?_⟩
   clear vO fo l7 nh ni kW
   rintro ez n43 n44 h6 kc n45 fK n46 g8 bP ⟨rfl,rfl,rfl,rfl,rfl,rfl,rfl,z,rfl,bc,rfl,lk,fP,nh,ni⟩
   refine cd (λazJ=>?_) λazK=>?_
   .have vS:z<lo.length:=by omega
    refine ni.rd.cp (i:=z) (by simpa [hE] using vS) λq _ c=>⟨_,c,?_⟩
    have c_:(hE lo)[z]'(by simpa [hE] using vS)=(lo[z]:Int):=by simp[hE]
    rw[c_]
    have q4:lo.take (z+1)=lo.take z++[lo[z]]:=by rw[List.take_add_one,List.getElem?_eq_getElem vS];rfl
    refine cd (λabv=>?_) λabv=>?_
    .rw[<-BL]
     refine fB (n:=12) lk.2.1 hZ fP (by simp[af.cells]) λg9 CH gd eO=>⟨lo.length-(z+1),by omega,rfl,rfl,rfl,rfl,rfl,rfl,rfl,z+1,bf (by omega) (by omega),by omega,rfl,loc lk xT xU cZ CH eO,?_,nh.move λq aj=>eO _ (t6 q aj),ni.move λq aj=>eO _ (t7 q aj)⟩
     rw[gd,if_pos (by rw[q4,show lo[z]=j by omega];simp)]
    .refine⟨lo.length-(z+1),by omega,rfl,rfl,rfl,rfl,rfl,rfl,rfl,z+1,bf (by omega) (by omega),by omega,rfl,lk,?_,nh,ni⟩
     have df:¬j=lo[z]:=λe=>abv (by rw[e])
     have e:(j∈lo.take (z+1))↔j∈lo.take z:=by rw[q4,List.mem_append];exact⟨λh=>h.elim id λh=>absurd (by simpa using h) df,.inl⟩
     rw[fP];simp only[e]
   .have vS:z=lo.length:=by omega
    subst vS
    refine nh.rd.cp (i:=j) (by simp[hE];omega) λq _ c=>⟨_,c,Int.NonNeg.mk _,Int.NonNeg.mk _,?_⟩
    have c_:(hE pl)[j]'(by simp[hE];omega)=(pl.getD j 0:Nat):=by simp[hE,List.getD,show j<pl.length by omega]
    rw[c_]
    refine mU (i:=11) lk.2.1 hZ fP (by decide) λg9 CH gd eO=>fin g9 (loc lk xT xU cZ CH eO) ?_ (nh.move λq aj=>eO _ (t6 q aj)) (ni.move λq aj=>eO _ (t7 q aj))
    have Oc:pl.getD j 0<2 ^ 63:=by
     have hm:pl.getD j 0∈pl:=by simp[List.getD,show j<pl.length by omega]
     have:=asX _ hm;omega
    rw[gd,jk Oc,List.take_length]
    unfold lJ
    rw[P5,asZ,if_pos kB]
 .have j6:j=i:=by omega
  subst j6
  have el:=hD.2.2.2.2.1
  refine⟨some ⟨m.b,0⟩,az el rfl,_,az el rfl,?_⟩
  rw[iA]
  have CK:gl (en R (f+2) (lJ P av cS)) (a7++iO f P.E++writes ((f:Int)+2) j) gQ (eS||lH P av cS) g4:=⟨cV.BM (f:=lJ P av cS) (g:=fk P av cS) hD.1 (by omega),hD.2⟩
  refine(abl CK.1 aP (by omega) tR.symm (by omega) (k:=11) (by decide) (by have:=od (writes ((f:Int)+2) j);omega)).mono ?_
  rintro _ g5 ⟨su,rfl,ij,v5⟩
  obtain⟨nc,qM,as0,_,Ge,_⟩:=mem CK ij v5
  rw[zf,sK,List.append_assoc,<-tR,I3,List.append_assoc] at nc
  exact⟨_,rfl,su,rfl,nc,Ge,as0,qM⟩
end

import Derived.Test.YtegdpmgnhnccaaaGreatRefD
import Derived.Test.YtegdpmgnhnccaaaGreatLevG
namespace Go.Proofs.Tryz
open Go Go.cR Go.RowKit
set_option maxRecDepth 8000
theorem avN (c:cM){j:Nat}(aU:j<8):(kr c)[j]=c[3+j]:=by
 rcases (show j=0∨j=1∨j=2∨j=3∨j=4∨j=5∨j=6∨j=7 by omega) with rfl|rfl|rfl|rfl|rfl|rfl|rfl|rfl<;>simp[kr]
def upto {n:Nat}(z c:bo n)(i:Nat):bo n:=Vector.ofFn λj:Fin n=>if j.val<i then c[j.val] else z[j.val]
theorem adF {n:Nat}(z c:bo n){i:Nat}(hi:i<n):(upto z c i).set i c[i]=upto z c (i+1):=by
 apply aEO;intro j aU;unfold upto;rw[aEa];simp only[aFI];by_cases e:i=j
 .subst e;rw[aDr rfl,eY]
 .rw[aDq e];by_cases aS:j<i
  .rw[aDr aS,eY]
  .rw[aDq aS,cS]
theorem avO {n:Nat}(z c:bo n):upto z c 0=z:=by
 apply aEO;intro j aU;unfold upto;simp
theorem adG {n:Nat}{z c:bo n}{i:Nat}(h:∀j (aU:j<n),i<=j->z[j]=c[j]):upto z c i=c:=by
 apply aEO;intro j aU;unfold upto;simp only[aFI];by_cases aS:j<i
 .rw[aDr aS]
 .rw[aDq aS];exact h j aU (by omega)
theorem auQ (c:cM):fc prog 123 [ez c] (ez (kr c)):=by
 intro h;refine asw _ ?_;unfold acd;refine bP λae aa f1 aH aD=>bP λax ad f2 a_ aB=>bP λaM an f3 b7 aG=>?_;have n4:=(aD.trans aB).trans aG;have f30:=aD.free (aB.free f3);have n31:aM≠ae:=λe=>by rw[e,aB.get aH] at f3;cases f3
 have n32:aM≠ax:=λe=>by rw[e,a_] at f3;cases f3
 refine⟨λq1 aI bb ay g bW=>q1=⟨ae,0⟩/\aI=⟨ax,0⟩/\bb=⟨aM,0⟩/\∃i:Nat,ay=i/\i<=8/\bW=8-i/\bL h g/\g ae=an ae/\g ax=an ax/\g aM=some (.cells (ag.cells (.ws 8 (upto j7 (kr c) i))).toArray 49 (0,0)),
  ⟨8,rfl,rfl,rfl,0,rfl,by omega,rfl,n4,rfl,rfl,by rw[avO];exact b7⟩,?_⟩
 rintro q1 aI bb ay g bW ⟨rfl,rfl,rfl,i,rfl,hi,rfl,cY,g1,g2,g3⟩;refine cj (λcl=>?_) λdH=>?_
 .have cb:i<8:=by omega
  rw[show al (3+(i:Int))=((3+i:Nat):Int) by rw[bt];omega];refine⟨by omega,by omega,_,by rw[show 0+Int.toNat ((3+i:Nat):Int)*1=3+i by omega];exact fs (g1.trans ((aB.trans aG).get aH)) (i:=3+i) (by omega),by omega,by omega,?_⟩;rw[show 0+Int.toNat (i:Int)*1=i by omega];refine qu cY f30 g3 cb λbw h_ cc iF=>⟨8-(i+1),by omega,rfl,rfl,rfl,i+1,bt,by omega,rfl,h_,(iF ae (aDC n31)).trans g1,(iF ax (aDC n32)).trans g2,?_⟩;rw[cc,<-avN c cb,adF _ _ cb]
 .have:i=8:=by omega
  subst this;rw[adG λj aU bR=>absurd bR (by omega)] at g3;exact⟨_,dL g3,pZ (n:=8) cY (aD.free f2) (g2.trans (aG.get a_)) rfl λbw h_ cc _=>⟨_,dL cc,rfl,h_⟩⟩
theorem auU (id:aE){to:Nat}(bG:to<2 ^ 63)(d:c_):fc prog 124 [ab id,U to,ez d] (ez (lN id (UInt64.ofNat to) d)):=by
 intro h;refine asy _ _ _ ?_;unfold ace;refine bP λae aa f1 aH aD=>bP λax ad f2 a_ aB=>bP λaM an f3 b7 aG=>⟨Int.NonNeg.mk _,Int.NonNeg.mk _,?_⟩;have n4:=(aD.trans aB).trans aG;have f30:=aD.free (aB.free f3);have n31:aM≠ae:=λe=>by rw[e,aB.get aH] at f3;cases f3
 have n32:aM≠ax:=λe=>by rw[e,a_] at f3;cases f3
 refine qu (n:=12) (c:=fm) (i:=0) n4 f30 b7 (by decide) λaJ bd b6 dq=>⟨Int.NonNeg.mk _,Int.NonNeg.mk _,?_⟩;refine qu (n:=12) (i:=1) bd f30 b6 (by decide) λaR bF cG cz=>⟨Int.NonNeg.mk _,Int.NonNeg.mk _,?_⟩;refine qu (n:=12) (i:=2) bF f30 cG (by decide) λbj cn dP ek=>?_;have yn:bj ae=an ae:=((ek _ (aDC n31)).trans (cz _ (aDC n31))).trans (dq _ (aDC n31));have AJ:bj ax=an ax:=((ek _ (aDC n32)).trans (cz _ (aDC n32))).trans (dq _ (aDC n32));have avP:((fm.set 0 1).set 1 id).set 2 (cX (to:Int))=upto fm (lN id (UInt64.ofNat to) d) 3:=by
  rw[jU bG];apply aEO;intro j aU;unfold upto;simp only[aFI];rcases (show j=0∨j=1∨j=2∨3<=j by omega) with rfl|rfl|rfl|an
  .simp[lN]
  .simp[lN]
  .simp[lN]
  .rw[cS,aEa,cS,aEa,cS,aEa,cS]
 rw[avP] at dP;refine⟨λq1 aI bb ay g bW=>q1=⟨ae,0⟩/\aI=⟨ax,0⟩/\bb=⟨aM,0⟩/\∃i:Nat,ay=i/\i<=8/\bW=8-i/\bL h g/\g ae=an ae/\g ax=an ax/\g aM=some (.cells (ag.cells (.ws 12 (upto fm (lN id (UInt64.ofNat to) d) (3+i)))).toArray 69 (0,0)),
  ⟨8,rfl,rfl,rfl,0,rfl,by omega,rfl,cn,yn,AJ,dP⟩,?_⟩
 rintro q1 aI bb ay g bW ⟨rfl,rfl,rfl,i,rfl,hi,rfl,cY,g1,g2,g3⟩;refine cj (λcl=>?_) λdH=>?_
 .have cb:i<8:=by omega
  refine⟨by omega,by omega,_,by rw[show 0+Int.toNat (i:Int)*1=i by omega];exact fs (g1.trans ((aB.trans aG).get aH)) cb,?_⟩;rw[show al (3+(i:Int))=((3+i:Nat):Int) by rw[bt];omega,show 0+Int.toNat ((3+i:Nat):Int)*1=3+i by omega];refine⟨by omega,by omega,qu cY f30 g3 (show 3+i<12 by omega) λbw h_ cc iF=>⟨8-(i+1),by omega,rfl,rfl,rfl,i+1,bt,by omega,rfl,h_,(iF ae (aDC n31)).trans g1,(iF ax (aDC n32)).trans g2,?_⟩⟩;have hm:d[i]=(lN id (UInt64.ofNat to) d)[3+i]:=by
   rcases (show i=0∨i=1∨i=2∨i=3∨i=4∨i=5∨i=6∨i=7 by omega) with rfl|rfl|rfl|rfl|rfl|rfl|rfl|rfl<;>simp[lN]
  rw[cc,hm,adF _ _ (show 3+i<12 by omega)];rfl
 .have:i=8:=by omega
  subst this;rw[adG λj aU bR=>by
   have:j=11:=by omega
   subst this;simp[lN,fm]] at g3
  exact⟨_,dL g3,pZ (n:=12) cY (aD.free f2) (g2.trans (aG.get a_)) rfl λbw h_ cc _=>⟨_,dL cc,rfl,h_⟩⟩
abbrev qT (P:dx)(CX f:Nat)(fb:Bool)(is:ao):Array Value:=#[bm ⟨CX,0⟩,U f,U (2 ^ P.k),U P.s,U P.t,.bool fb,aZ is]
def sB (bf:Nat)(is:ao):Nat->Prop:=λx=>x=bf∨∃q,is.q=some q/\x=q.b
theorem avQ (x:aE):(ab x).oneCell'=true:=rfl
theorem auW {P:dx}{CX f:Nat}{fb:Bool}{is:ao}{T:TypeId}{bf:Nat}{ids:List aE}{h:ak}(e:h bf=ev (qT P CX f fb is) T)(hv:c4 ab l6 h is ids)(sep:∀q,is.q=some q->q.b≠bf)(aT:ids.length<1000000000000)(id:aE) :
 aq 125 [bm ⟨bf,0⟩,ab id] h λv af=>∃e1,v= .tuple #[]/\af bf=ev (qT P CX f fb e1) T/\c4 ab l6 af e1 (if id∈ids then ids else ids++[id])/\(∀q,e1.q=some q->q.b≠bf)/\bT (sB bf is) h (sB bf e1) af:=by
 have len:=hv.len;refine asA _ _ ?_;unfold acf;refine⟨λq1 bu ay g bW=>q1=⟨bf,0⟩/\id=bu/\g=h/\∃i:Nat,ay=i/\i<=ids.length/\bW=ids.length-i/\∀j (aU:j<ids.length),j<i->ids[j]≠id,
  ⟨ids.length,rfl,rfl,rfl,0,rfl,by omega,rfl,λj _ aU=>absurd aU (by omega)⟩,?_⟩
 rintro q1 bu ay g bW ⟨rfl,rfl,rfl,i,rfl,hi,rfl,oP⟩;refine⟨is,az e rfl,cj (λcl=>?_) λdH=>?_⟩
 .have cb:i<ids.length:=by omega
  refine⟨is,az e rfl,hv.rd.cA cb λq _ c=>⟨_,c,iN (λai=>?_) λai=>?_⟩⟩
  .have hm:id∈ids:=by rw[<-aDN (show decide _=true from ai)];exact aDR cb
   rw[aDr hm];exact⟨is,rfl,e,hv,sep,bT.refl _ _⟩
  .refine⟨ids.length-(i+1),by omega,rfl,rfl,rfl,i+1,bt,by omega,rfl,λj aU OO=>?_⟩;by_cases aS:j=i
   .subst aS;exact aD3 (show decide _=false from ai)
   .exact oP j aU (by omega)
 .have aK:¬id∈ids:=λhm=>by
   obtain⟨j,aU,e⟩:=aEh hm;exact oP j aU (by omega) e
  rw[aDq aK];refine⟨is,az e rfl,?_⟩;refine c4.zX Ky avQ hv id (λ_ _=>rfl) (by omega) (by decide) λe1 g2 cg f2 h6 aA=>?_;have Hx:g2 bf=g bf:=f2 bf (by rw[e];simp) λq aj h=>sep q aj h.symm;have adH:∀q,e1.q=some q->q.b≠bf:=λq aj=>by
   rcases h6 q aj with ⟨p,aP,h⟩|ar
   .rw[h];exact sep p aP
   .exact λh=>by rw[h,e] at ar;cases ar
  refine⟨_,_,Hx.trans e,by simp,e1,rfl,by rw[eC];rfl,cg.move λq aj=>cu _ _ (adH q aj),adH,⟨?_,λx ai my=>?_,λx ai=>?_⟩⟩
  .rintro x (rfl|⟨q,aj,rfl⟩)
   .exact .inl (.inl rfl)
   .rcases h6 q aj with ⟨p,aP,h⟩|ar
    .exact .inl (.inr ⟨p,aP,h⟩)
    .exact .inr ar
  .rw[cu _ _ (λh=>my (.inl h)),f2 x ai λq aj h=>my (.inr ⟨q,aj,h⟩)]
  .by_cases c:x=bf
   .rw[c,eC] at ai;cases ai
   .rw[cu _ _ c] at ai;exact aA x ai
theorem avR:ph prog 251 253 2 (.agg #[.int .u64 0,U 0]) 16:=⟨by kernel_rfl,by kernel_rfl,by kernel_rfl,by kernel_rfl,rfl⟩
section
variable {T:TypeId} {m:jQ} {R:dY} {a8:List dk} {es:ao} {h:ak}
theorem adI (M:c8 T m R a8 es h){r K k N:Nat}(aQ:r<m.fl)(eL:K<=10)(jE:N=2 ^ K)(aK:N<=m.cx r)(ah:k<12)(aT:a8.length<3000000000000) :
 aq 159 [bm ⟨m.b,0⟩,U r,U N,U k] h λv af=>∃aX,v=U 0/\c8 T m (eP R r (iw (iS k ah) (jN K) (R r))) (a8++sb r K) aX af/\bT (bS m es) h (bS m aX) af:=by
 subst jE;have:=avS M aQ eL aK ah aT;rw[show(2:Int) ^ K=((2 ^ K:Nat):Int) by simp] at this;exact this
theorem avT {P:dx}{aw:Nat}{T:Nat->cM}(w:yc P T){j:Nat}(aU:j<2 ^ P.E)(dC:ei (fy P aw T j)=true):(fy P aw T j)[2].toNat<2 ^ P.k:=by
 have hm:fy P aw T j∈(List.range (2 ^ P.E)).map (hH P aw T):=(ZZ ht P.E (hH P aw T)).1.mem_iff.1 (aD2.2 ⟨j,aDT.2 aU,rfl⟩);obtain⟨i,_,e⟩:=aD2.1 hm;rw[<-e] at dC ⊢;have h0:(hH P aw T i)[0]=(T i)[0]:=by unfold hH;rw[aER];decide
 have ad:(hH P aw T i)[2]=(T i)[2]:=by unfold hH;rw[aER];decide
 rw[ad];refine w.leaf i ?_;unfold ei at dC ⊢;rwa [h0] at dC
set_option maxHeartbeats 2000000 in
theorem auY {P:dx}(o:P.dt)(M:c8 T m R a8 es h){jo:TypeId}{bf f:Nat}{fb:Bool}{is:ao}(kW:h bf=ev (qT P m.b f fb is) jo)(wm:¬bS m es bf)
 (bc:f<=1000) (aQ:f+2<m.fl) (pf:m.cx (f+2)=2 ^ P.E) {aw:Nat} (hc:aw<2 ^ P.k) (ef:yc P (R (f+2))) (aT:a8.length<2000000000000) :
 aq 126 [bm ⟨bf,0⟩,U aw,U ((2 ^ P.E:Nat):Int)] h λv af=>∃aX,v= .tuple #[]/\c8 T m (eP R (f+2) (kH P aw (R (f+2)))) (a8++(h5 f P.E++h5 f P.E)) aX af /\
  af bf=ev (qT P m.b f (fb||l9 P aw (R (f+2))) is) jo/\¬bS m aX bf/\bT (λx=>bS m es x∨x=bf) h (λx=>bS m aX x∨x=bf) af:=by
 have ol:=o.gS;have anI:=Ai o;have Aj:=o.E;have q9:=Ki (f:Int) Aj;have aK:=o.n;have RO:=o.k;have wl:=n6 ((f:Int)+2);generalize u1:2 ^ P.E=N at *;have avU:eP R (f+2) (R (f+2))=R:=CS R (f+2);generalize anZ:R (f+2)=c5 at *;have iu:al ((f:Int)+2)=((f+2:Nat):Int):=by rw[bt];omega
 have pW:((f+2:Nat):Int)=(f:Int)+2:=by omega
 have adJ:∀ {c:cM},c[2].toNat<2 ^ P.k->al ((c[2].toNat:Nat):Int)=((c[2].toNat:Nat):Int):=λa1=>Y7 RO a1;refine asC _ _ _ ?_;unfold acg;refine⟨_,az kW rfl,_,az kW rfl,_,az kW rfl,(LO ol).to λaa aD=>⟨_,_,_,rfl,bP λae ad f1 aH aB=>?_⟩⟩;have f10:=aD.free f1;refine iH (aD.trans aB) f10 aH rfl λan aG b7 da=>⟨_,az b7 rfl,_,az b7 rfl,_,az b7 rfl,(LG ol.sM).to λaJ bd=>⟨_,rfl,?_⟩⟩;have lL:(P.s:Int)*((P.k:Int)+1)+(P.t:Int)+1=(P.n:Nat):=Pt P;rw[lL];have Gd:ae≠bf:=λe=>by rw[e,kW] at f10;cases f10
 let gu:dY->List dk->ao->Bool->ak->Prop:=λdG cm aX kg g=>c8 T m dG cm aX g/\bT (λx=>bS m es x∨x=bf) h (λx=>bS m aX x∨x=bf) g/\¬bS m aX bf/\¬bS m aX ae/\g bf=ev (qT P m.b f kg is) jo/\g ae=an ae;have iX:∀ {g:ak},g ae=an ae->g ae=ev _ _:=λh=>h.trans b7;have mem:∀ {dG cm aX kg g df fe d_ g2},gu dG cm aX kg g->c8 T m df fe d_ g2->bT (bS m aX) g (bS m d_) g2->gu df fe d_ kg g2:=fun⟨_,V,nl,hG,el,aH⟩ M2 v =>
  ⟨M2,V.trans (nd v),v.out (by rw[el];simp) nl,v.out (by rw[iX aH];simp) hG,v.get el nl,(v.2.1 ae (by rw[iX aH];simp) hG).trans aH⟩
 have bA:∀ {dG cm aX kg g g2},gu dG cm aX kg g->bL g g2->gu dG cm aX kg g2:=fun⟨M,V,nl,hG,el,aH⟩ k=>⟨M.bA k,V.more k,nl,hG,k.get el,(k ae (by rw[iX aH];simp)).trans aH⟩;have loc:∀ {dG cm aX kg g b g2},gu dG cm aX kg g->¬bS m aX b->b≠bf->b≠ae->bT (λx=>bS m es x∨x=bf) h (λx=>bS m aX x∨x=bf) g2->(∀y,y≠b->g2 y=g y)->gu dG cm aX kg g2:=fun⟨M,_,nl,hG,el,aH⟩ ar aT aa V o =>
  ⟨M.move λy aC=>o y λe=>ar (e▸aC),V,nl,hG,(o bf (aDC aT)).trans el,(o ae (aDC aa)).trans aH⟩
 have fresh:∀ {dG cm aX kg g b},gu dG cm aX kg g->g b=none->h b=none/\¬bS m aX b/\b≠bf/\b≠ae:=fun⟨M,V,nl,hG,el,aH⟩ ar =>
  ⟨V.2.2 _ ar,M.out ar,(λe=>by rw[e,el] at ar;cases ar),λe=>by rw[e,iX aH] at ar;cases ar⟩
 have RP:∀(F:Nat->cM) (i:Nat),eP R (f+2) F (f+2) i=F i:=λF i=>by unfold eP;rw[aDr rfl]
 let mix:(Nat->cM)->(Nat->cM)->Nat->Nat->cM:=λA B i p=>if p<i then A p else B p
 have Hs:∀(A B:Nat->cM) (i:Nat),fM (eP R (f+2) (mix A B i)) (f+2,i) (A i)=eP R (f+2) (mix A B (i+1)):=λA B i=>by
  funext r j;show(if r=f+2/\j=i then A i else if r=f+2 then (if j<i then A j else B j) else R r j)=if r=f+2 then (if j<i+1 then A j else B j) else R r j
  by_cases aS:r=f+2
  .rw[aDr aS,aDr aS];by_cases aY:j=i
   .rw[aDr ⟨aS,aY⟩,eY,aY]
   .rw[aDq (λh=>aY h.2)];by_cases cB:j<i
    .rw[aDr cB,eY]
    .rw[aDq cB,cS]
  .rw[aDq (λh=>aS h.1),aDq aS,aDq aS]
 have adK:∀(A B:Nat->cM) (i:Nat),mix A B i i=B i:=λA B i=>aDq (Nat.lt_irrefl i);have h2:gu R a8 es fb aJ:=by
  have tv:=M.bA (aG.trans bd);exact⟨tv,(hj (aG.trans bd) _).to λx ai=> .inl ai,wm,M.out f10,(aG.trans bd).get kW,bd ae (by rw[b7];simp)⟩
 refine⟨λq1 cL cd aI cJ db g bW=>q1=⟨bf,0⟩/\cL=aw/\cd=(N:Nat)/\aI=⟨ae,0⟩/\cJ=(P.n:Nat)/\∃(i:Nat) (aX:ao),db=i/\i<=N/\bW=N-i/\gu (eP R (f+2) (mix (hH P aw c5) c5 i)) (a8++writes ((f:Int)+2) i) aX fb g,
  ⟨N,rfl,rfl,rfl,rfl,rfl,0,es,rfl,by omega,rfl,by
   have e:mix (hH P aw c5) c5 0=c5:=by funext p;exact cS
   rw[e,avU];simpa [writes] using h2⟩,?_⟩
 clear h2;rintro q1 cL cd aI cJ db g bW ⟨rfl,rfl,rfl,rfl,rfl,i,j6,rfl,hi,rfl,S⟩;have RQ:=wl i;refine cj (λcl=>?_) λdH=>?_
 .have cb:i<N:=by omega
  have el:=S.2.2.2.2.1;refine⟨some ⟨m.b,0⟩,az el rfl,_,az el rfl,?_⟩;rw[iu];refine(w1 S.1 aQ (show i<m.cx (f+2) by omega) (by rw[aDs,RQ];omega)).mono ?_;rintro _ g1 ⟨d_,rfl,oY,v1⟩;have fz:=mem S oY v1;rw[RP,adK];refine⟨_,rfl,bP λax g2 f2 a_ aB=>?_⟩;obtain⟨hN,yR,yS,cU⟩:=fresh fz f2;have fF:=bA fz aB;refine fN (n:=12) fF.2.1 hN a_ rfl λg3 kG pt vj=>⟨Int.NonNeg.mk _,Int.NonNeg.mk _,?_⟩;have kI:=loc fF yR yS cU kG vj;refine nq (i:=11) kG hN pt (by decide) λg4 rC b6 dq=>?_;have h2:=loc kI yR yS cU rC dq;rw[jU (by omega)] at b6;have fin:∀(g5:ak),gu (eP R (f+2) (mix (hH P aw c5) c5 i)) (a8++writes ((f:Int)+2) i++[⟨((f+2:Nat):Int),i,false⟩]) d_ fb g5->g5 ax=some (.cells (ag.cells (.ws 12 (hH P aw c5 i))).toArray 69 (0,0)) ->
   ∃da:Option aF,bx g5 bf (0+0)=some (a7 da)/\∃et,bx g5 bf (0+1)=some (U et)/\∃cB:cM,b5 g5 ax 0 cB/\aq 121 [a7 da,U (al (et+2)),U i,ez cB] g5 λv6 dB=>v6= .tuple #[]/\∃bd,bd<N-i/\((⟨bf,0⟩:aF)=⟨bf,0⟩/\(aw:Int)=aw/\(N:Int)=(N:Nat)/\(⟨ae,0⟩:aF)=⟨ae,0⟩/\(P.n:Int)=(P.n:Nat)/\∃(dO:Nat) (aX:ao),al ((i:Int)+1)=dO/\dO<=N/\bd=N-dO/\gu (eP R (f+2) (mix (hH P aw c5) c5 dO)) (a8++writes ((f:Int)+2) dO) aX fb dB):=by
   intro g5 hr cG;have Ht:=hr.2.2.2.2.1;refine⟨some ⟨m.b,0⟩,az Ht rfl,_,az Ht rfl,_,dL cG,?_⟩;rw[iu];refine(w3 hr.1 aQ (show i<m.cx (f+2) by omega) _ (by simp only[aDs,RQ,aDS];omega)).mono ?_;rintro _ g6 ⟨v7,rfl,nN,v6⟩;rw[Hs] at nN;refine⟨rfl,N-(i+1),by omega,rfl,rfl,rfl,rfl,rfl,i+1,v7,bt,by omega,rfl,?_⟩;have:=mem hr nN v6;rw[xW,<-pW,show ∀a b:dk,a8++(writes ((f+2:Nat):Int) i++[a,b])=a8++writes ((f+2:Nat):Int) i++[a]++[b] by simp];rw[<-pW] at this;exact this
  have g0:((c5 i).set 11 (4611686018427387904+UInt64.ofNat i))[0]=(c5 i)[0]:=by rw[aER];decide
  have Je:((c5 i).set 11 (4611686018427387904+UInt64.ofNat i))[1]=(c5 i)[1]:=by rw[aER];decide
  have Ob:((c5 i).set 11 (4611686018427387904+UInt64.ofNat i))[2]=(c5 i)[2]:=by rw[aER];decide
  refine cj (λuO=>?_) λuO=>?_
  .refine⟨Int.NonNeg.mk _,Int.NonNeg.mk _,_,fs b6 (i:=0) (by decide),?_⟩;rw[g0];by_cases dC:ei (c5 i)=true
   .have aa:(c5 i)[0]=1:=by have:=wu (c5 i);rw[dC] at this;exact aDN this.symm
    have uS:=ef.leaf i dC;refine dF (aDA aa) ⟨_,az (iX h2.2.2.2.2.2) rfl,_,az h2.2.2.2.2.1 rfl,Int.NonNeg.mk _,Int.NonNeg.mk _,_,fs b6 (i:=2) (by decide),Int.NonNeg.mk _,Int.NonNeg.mk _,_,fs b6 (i:=1) (by decide),?_⟩;rw[Ob,Je,adJ uS];refine(ada RO hc uS).to λg5 bF=>⟨_,rfl,⟨by have:=fs (bF.get b6) (i:=1) (by decide);rw[Je] at this;exact this,trivial⟩,⟨az (bF.get (iX h2.2.2.2.2.2)) rfl,trivial⟩,Int.NonNeg.mk _,Int.NonNeg.mk _,?_⟩;have hr:=bA h2 bF;refine nq (i:=11) hr.2.1 hN (bF.get b6) (by decide) λg6 rD dP ek=>fin g6 (loc hr yR yS cU rD ek) ?_;have qz:=CY P.k aw (c5 i)[2].toNat;rw[dP,PV];unfold hH ox;rw[aDr ⟨by omega,dC⟩,show(P.k:Int)-(k1 P.k aw (c5 i)[2].toNat:Nat)=((P.k-k1 P.k aw (c5 i)[2].toNat:Nat):Int) by omega,bt,jU (by omega)]
   .have aa:¬(c5 i)[0]=1:=λh=>dC (by rw[wu];exact aDA h);refine b3 (aDz aa) (fin g4 h2 ?_);rw[b6];unfold hH ox;rw[aDq λh=>dC h.2]
  .refine fin g4 h2 ?_;rw[b6];unfold hH ox;rw[aDq λh=>uO (by omega)]
 have hi:i=N:=by omega
 subst hi;have el:=S.2.2.2.2.1;refine⟨some ⟨m.b,0⟩,az el rfl,_,az el rfl,?_⟩;rw[iu];have DS:gu (eP R (f+2) (hH P aw c5)) (a8++writes ((f:Int)+2) i) j6 fb g:=⟨c8.CV (f:=hH P aw c5) (g:=c5) S.1 (by omega),S.2⟩;refine(adI DS.1 aQ (by omega) u1.symm (by omega) (k:=11) (by decide) (by simp only[aDs,RQ];omega)).mono ?_;rintro _ g1 ⟨d_,rfl,oY,v1⟩;have fz:gu (eP R (f+2) (fy P aw c5)) (a8++h5 f P.E) d_ fb g1:=by
  have:=mem DS oY v1;rw[Ap,tw,aDD,<-u1,KB] at this;exact this
 clear DS S oY v1 el;refine⟨_,rfl,?_⟩;have pR:((List.range P.n).map λj=>jy P aw (fy P aw c5 j)).map (·.2)=jb P aw c5:=by
  unfold jb;rw[aEH];exact aDU λj _=>KJ P aw _
 have mi:(jb P aw c5).length=P.n:=by simp[jb]
 have dl:=P5 P.k P.s P.t (by have:=o.s;omega) (jb P aw c5) (by rw[mi];unfold dx.n;omega);have avV:∀j,j<i->ei (fy P aw c5 j)=true->(fy P aw c5 j)[2].toNat<2 ^ P.k:=λj aU=>avT ef (by omega);refine⟨λbb eT n25 bH n26 s1 n27 g bW=>bb=⟨bf,0⟩/\eT=aw/\n25=(i:Nat)/\bH=⟨ae,0⟩/\n26=(P.n:Nat)/\∃j:Nat,n27=j/\j<=P.n/\bW=P.n-j/\gu (eP R (f+2) (fy P aw c5)) (a8++h5 f P.E) d_ fb g/\ct 2 pr h g s1 ((List.range j).map λj=>jy P aw (fy P aw c5 j))/\∀q,s1.q=some q->¬bS m d_ q.b/\q.b≠bf/\q.b≠ae,
  ⟨P.n,rfl,rfl,rfl,rfl,rfl,0,rfl,by omega,rfl,fz,ct.gy ..,λq aj=>by cases aj⟩,?_⟩
 clear fz;rintro bb eT n25 bH n26 s1 n27 g bW ⟨rfl,rfl,rfl,rfl,rfl,j,rfl,aU,rfl,S,eM,sep⟩;refine cj (λcl=>?_) λdH=>?_
 .have kb:j<P.n:=by omega
  have el:=S.2.2.2.2.1;refine⟨some ⟨m.b,0⟩,az el rfl,⟨m.b,0⟩,rfl,_,az S.1.top rfl,_,az el rfl,?_⟩;rw[iu];refine S.1.Gr aQ λq a1=>⟨_,a1,_,rfl,by omega,by show(j:Int)+1<=(m.cx (f+2):Nat);omega,fy P aw c5 j,?_,?_⟩
  .show b5 g (m.jS (f+2)) (0+Int.toNat (j:Int)*12) _;rw[show 0+Int.toNat (j:Int)*12=j*12 by omega];have:=S.1.rd aQ (show j<m.cx (f+2) by omega);rw[RP] at this;exact this
  refine bP λaM g2 f2 a_ aB=>?_;obtain⟨uk,PC,Zp,n31⟩:=fresh S f2;have fF:=bA S aB;refine fN (n:=12) fF.2.1 uk a_ rfl λg3 kG pt vj=>bP λbM g4 f4 b6 bd=>?_;have kI:=loc fF PC Zp n31 kG vj;obtain⟨pg,adL,adM,n41⟩:=fresh kI f4;have n43:bM≠aM:=λe=>by rw[e,pt] at f4;cases f4
  have h2:=bA kI bd;refine lY h2.2.1 pg b6 rfl λg5 rG cG cz=>⟨Int.NonNeg.mk _,Int.NonNeg.mk _,?_⟩;have hr:=loc h2 adL adM n41 rG cz;have xB:=(cz aM (aDC n43)).trans (bd.get pt);have adN:∀q,s1.q=some q->q.b≠aM:=λq aj e=>(eM.bp aj).2 (e▸f2);have LC:∀q,s1.q=some q->q.b≠bM:=λq aj e=>by
   have aa:=(eM.bA aB).move (af:=g3) λq aj=>vj _ (adN q aj);exact(aa.bp aj).2 (e▸f4)
  have adO:ct 2 pr h g5 s1 ((List.range j).map λj=>jy P aw (fy P aw c5 j)):=(((eM.bA aB).move (af:=g3) λq aj=>vj _ (adN q aj)).bA bd).move λq aj=>cz _ (LC q aj);have fin:∀(g6:ak) (x:aE×Int) (t:TypeId),gu (eP R (f+2) (fy P aw c5)) (a8++h5 f P.E) d_ fb g6->ct 2 pr h g6 s1 ((List.range j).map λj=>jy P aw (fy P aw c5 j))->x=jy P aw (fy P aw c5 j) ->
   bg g6 (.cells #[ab x.1,U x.2] t) λb1 eR=>eI prog 251 s1 (.s ⟨some ⟨b1,0⟩,1,1,none⟩) eR λbZ fx=>∃eO,eO<P.n-j/\((⟨bf,0⟩:aF)=⟨bf,0⟩/\(aw:Int)=aw/\(i:Int)=(i:Nat)/\(⟨ae,0⟩:aF)=⟨ae,0⟩/\(P.n:Int)=(P.n:Nat)/\∃c6:Nat,al ((j:Int)+1)=c6/\c6<=P.n/\eO=P.n-c6/\gu (eP R (f+2) (fy P aw c5)) (a8++h5 f P.E) d_ fb fx/\ct 2 pr h fx bZ ((List.range c6).map λj=>jy P aw (fy P aw c5 j))/\∀q,bZ.q=some q->¬bS m d_ q.b/\q.b≠bf/\q.b≠ae):=by
   rintro g6 x t lv p2 ai;refine ct.push avR l3 WL p2 [x] (by rfl) rfl (λb ar=>lv.2.1.2.2 b ar) (by simp;omega) (by decide) λcE g7 qp adP O7 avW=>⟨P.n-(j+1),by omega,rfl,rfl,rfl,rfl,rfl,j+1,bt,by omega,rfl,?_,?_,λdE eG=>?_⟩
   .obtain⟨M,V,nl,hG,el,aH⟩:=lv;have st:∀y,g6 y≠none->(bS m d_ y∨y=bf∨y=ae)->g7 y=g6 y:=λy aC a1=>adP y aC λq aj e=>by
     obtain⟨yQ,Dm,LP⟩:=sep q aj;rcases a1 with a1|a1|a1
     .exact yQ (e▸a1)
     .exact Dm (e▸a1)
     .exact LP (e▸a1)
    refine⟨M.move λy aC=>st y (M.dK aC) (.inl aC),?_,nl,hG,(st bf (by rw[el];simp) (.inr (.inl rfl))).trans el,(st ae (by rw[iX aH];simp) (.inr (.inr rfl))).trans aH⟩;refine⟨V.1,λy aC aK=>?_,λy aC=>V.2.2 y (avW y aC)⟩;rw[adP y (by rw[V.2.1 y aC aK];exact aC) λq aj e=>aC (e▸(p2.bp aj).1),V.2.1 y aC aK]
   .have e:(List.range (j+1)).map (λj=>jy P aw (fy P aw c5 j))=(List.range j).map (λj=>jy P aw (fy P aw c5 j))++[x]:=by simp[aDQ,ai]
    rw[e];exact qp
   .rcases O7 dE eG with ⟨q,aj,e⟩|ar
    .rw[e];exact sep q aj
    .exact(fresh lv ar).2
  have kY:=wu (fy P aw c5 j);refine⟨_,fs xB (i:=0) (by decide),?_⟩;by_cases dC:ei (fy P aw c5 j)=true
  .have aa:(fy P aw c5 j)[0]=1:=by rw[dC] at kY;exact aDN kY.symm
   have uS:=avV j (by omega) dC;refine dF (aDA aa) ⟨Int.NonNeg.mk _,Int.NonNeg.mk _,_,fs xB (i:=1) (by decide),_,az hr.2.2.2.2.1 rfl,Int.NonNeg.mk _,Int.NonNeg.mk _,_,fs xB (i:=2) (by decide),?_⟩;rw[adJ uS];refine(ada RO hc uS).to λg6 cn=>⟨_,rfl,⟨fs (cn.get xB) (i:=1) (by decide),trivial⟩,?_⟩;have lv:=bA hr cn;refine lY lv.2.1 pg (cn.get cG) rfl λg7 mJ fa eF=>⟨_,az fa rfl,_,az fa rfl,fin g7 ((fy P aw c5 j)[1],_) _ (loc lv adL adM n41 mJ eF) ((adO.bA cn).move λq aj=>eF _ (LC q aj)) ?_⟩;rw[Zg dC]
  .have aa:¬(fy P aw c5 j)[0]=1:=λh=>dC (by rw[kY];exact aDA h);refine b3 (aDz aa) ⟨_,az cG rfl,_,az cG rfl,fin g5 (0,-1) _ hr adO ?_⟩;unfold jy;rw[aDq dC]
 have aU:j=P.n:=by omega
 subst aU;refine⟨_,az (iX S.2.2.2.2.2) rfl,_,az (iX S.2.2.2.2.2) rfl,_,az (iX S.2.2.2.2.2) rfl,?_⟩;refine(au8 (k:=P.k) (s:=P.s) (t:=P.t) ol.sM eM.rd (by simp[dx.n]) (λx ai=>?_) ?_).mono ?_
 .obtain⟨j,_,rfl⟩:=aD2.1 ai;rw[KJ];unfold wC;have:=CY P.k aw (fy P aw c5 j)[2].toNat;split<;>omega
 .intro a b aa ad
  have si:b<P.n:=by simpa using ad
  have Au:∀j,j<P.n->((List.range P.n).map λj=>jy P aw (fy P aw c5 j)).getD j sn=oZ P.k (ht (fy P aw c5 j)):=λj aU=>by
   rw[<-P6 o ef (by omega)];simp[List.getD,aU]
  rw[Au a (by omega),Au b si];exact Zl (by have:=o.k;omega) (Zx P aw c5 aa (by omega))
 rintro _ g2 ⟨ck,dV,rfl,p2,qp,aB⟩;rw[pR] at p2 qp;have KK:(lx P.k P.s P.t (jb P aw c5)).length=P.n:=dl.len.trans mi;have Ps:∀x∈lP P.k P.s P.t (jb P aw c5),x<P.n:=λx ai=>by have aa:=dl.lost x ai;have ad:=uE (jb P aw c5);omega
 have avX:∀x∈lx P.k P.s P.t (jb P aw c5),x<P.n:=λx ai=>by have:=dl.lt x ai;omega
 have adQ:=qp.len;have fF:=bA S aB;have avY:decide ((0:Int)<(dV.len:Int))=l9 P aw c5:=by
  unfold l9;rw[adQ];unfold h3;rw[aDF];cases lP P.k P.s P.t (jb P aw c5)<;>simp
 have di:∀q,ck.q=some q->¬bS m d_ q.b/\q.b≠bf/\q.b≠ae:=λq aj=>(fresh S (p2.bp aj).1).2;have dW:∀q,dV.q=some q->¬bS m d_ q.b/\q.b≠bf/\q.b≠ae:=λq aj=>(fresh S (qp.bp aj).1).2;generalize avZ:lx P.k P.s P.t (jb P aw c5)=pl at *;generalize RR:lP P.k P.s P.t (jb P aw c5)=lo at *;have aCR:lo.length<=1000000:=by
  have aa:=aEQ (λi=>(iZ P.k P.s P.t (jb P aw c5) (hk P.k)).getD i none==none) (List.range (gF (jb P aw c5)));have ad:=uE (jb P aw c5);rw[aDL] at aa;rw[<-RR];unfold lP;omega
 rw[show(h3 lo).length=lo.length by simp[h3]] at adQ;refine⟨ck,dV,rfl,λea n36 n37 dS fY bw=>ea=⟨bf,0⟩/\n36=(i:Nat)/\n37=(P.n:Nat)/\dS=ck/\fY=dV/\gu (eP R (f+2) (fy P aw c5)) (a8++h5 f P.E) d_ (fb||l9 P aw c5) bw/\c4 eo g bw ck (h3 pl)/\c4 eo g bw dV (h3 lo),?_,?_⟩
 .have put:∀b:Bool,b=(fb||l9 P aw c5)->aW g2 ⟨bf,0+5⟩ [.bool b] λhI=>(⟨bf,0⟩:aF)=⟨bf,0⟩/\(i:Int)=(i:Nat)/\(P.n:Int)=(P.n:Nat)/\ck=ck/\dV=dV/\gu (eP R (f+2) (fy P aw c5)) (a8++h5 f P.E) d_ (fb||l9 P aw c5) hI/\c4 eo g hI ck (h3 pl)/\c4 eo g hI dV (h3 lo):=by
   rintro b ar;obtain⟨M,V,nl,hG,el,aH⟩:=fF;refine PX V (.inr rfl) el (by simp) λg3 kG pt vj=>⟨rfl,rfl,rfl,rfl,rfl,⟨M.move λy aC=>vj y λe=>nl (e▸aC),kG,nl,hG,by rw[pt,<-ar];rfl,(vj ae Gd).trans aH⟩,p2.move λq aj=>vj _ (di q aj).2.1,qp.move λq aj=>vj _ (dW q aj).2.1⟩
  refine⟨fb,az fF.2.2.2.2.1 rfl,?_⟩;cases fb with
  | true=>exact dF rfl (put true rfl)
  | false=>refine b3 rfl (put _ ?_);rw[<-avY];rfl
 clear fF;rintro ea n36 n37 dS fY g3 ⟨rfl,rfl,rfl,rfl,rfl,kI,nQ,nR⟩;refine⟨λeU n38 n39 gr hs n40 bw bW=>eU=⟨bf,0⟩/\n38=(i:Nat)/\n39=(P.n:Nat)/\gr=dS/\hs=fY/\∃(j:Nat) (aX:ao),n40=j/\j<=i/\bW=i-j/\gu (eP R (f+2) (mix (ma P aw c5) (fy P aw c5) j)) (a8++h5 f P.E++writes ((f:Int)+2) j) aX (fb||l9 P aw c5) bw/\c4 eo g bw dS (h3 pl)/\c4 eo g bw fY (h3 lo)/\(∀q,dS.q=some q->¬bS m aX q.b)/\∀q,fY.q=some q->¬bS m aX q.b,
  ⟨i,rfl,rfl,rfl,rfl,rfl,0,d_,rfl,by omega,rfl,?_,nQ,nR,λq aj=>(di q aj).1,λq aj=>(dW q aj).1⟩,?_⟩
 .have e:mix (ma P aw c5) (fy P aw c5) 0=fy P aw c5:=by funext p;exact cS
  rw[e];simpa [writes] using kI
 clear kI nQ nR;rintro eU n38 n39 gr hs n40 g4 bW ⟨rfl,rfl,rfl,rfl,rfl,j,hp,rfl,aU,rfl,h2,nQ,nR,x0,ts⟩;have aCS:=wl j;have py:∀l:List dk,(a8++h5 f P.E++l).length<=a8.length+512+4*102400+l.length:=λl=>by rw[aDs,aDs];omega
 refine cj (λcl=>?_) λdH=>?_
 .have kb:j<i:=by omega
  have el:=h2.2.2.2.2.1;refine⟨some ⟨m.b,0⟩,az el rfl,_,az el rfl,?_⟩;rw[iu];refine(w1 h2.1 aQ (show j<m.cx (f+2) by omega) (by have:=py (writes ((f:Int)+2) j);omega)).mono ?_;rintro _ g5 ⟨s9,rfl,iU,v5⟩;have hr:=mem h2 iU v5;rw[RP,adK];have RS:∀ {s:ao} {l:List Int},c4 eo g g4 s l->(∀q,s.q=some q->¬bS m hp q.b)->c4 eo g g5 s l/\∀q,s.q=some q->¬bS m s9 q.b:=λo n=>⟨o.move λq aj=>v5.2.1 _ (o.bp aj).2 (n q aj),λq aj=>v5.out (o.bp aj).2 (n q aj)⟩;obtain⟨nQ,x0⟩:=RS nQ x0;obtain⟨nR,ts⟩:=RS nR ts;refine⟨_,rfl,bP λax g6 f6 dP cn=>?_⟩;obtain⟨hN,yR,yS,cU⟩:=fresh hr f6;have lv:=bA hr cn;have t6:∀q,gr.q=some q->q.b≠ax:=λq aj e=>(nQ.bp aj).2 (e▸f6);have t7:∀q,hs.q=some q->q.b≠ax:=λq aj e=>(nR.bp aj).2 (e▸f6);refine fN (n:=12) lv.2.1 hN dP rfl λg7 mJ fa eF=>?_;have w4:=loc lv yR yS cU mJ eF;have nQ:c4 eo g g7 gr (h3 pl):=(nQ.bA cn).move λq aj=>eF _ (t6 q aj);have nR:c4 eo g g7 hs (h3 lo):=(nR.bA cn).move λq aj=>eF _ (t7 q aj);have fin:∀(g8:ak),gu (eP R (f+2) (mix (ma P aw c5) (fy P aw c5) j)) (a8++h5 f P.E++writes ((f:Int)+2) j++[⟨((f+2:Nat):Int),j,false⟩]) s9 (fb||l9 P aw c5) g8->g8 ax=some (.cells (ag.cells (.ws 12 (ma P aw c5 j))).toArray 69 (0,0))->c4 eo g g8 gr (h3 pl)->c4 eo g g8 hs (h3 lo) ->
   ∃da:Option aF,bx g8 bf (0+0)=some (a7 da)/\∃et,bx g8 bf (0+1)=some (U et)/\∃cB:cM,b5 g8 ax 0 cB/\aq 121 [a7 da,U (al (et+2)),U j,ez cB] g8 λv6 dB=>v6= .tuple #[]/\∃bd,bd<i-j/\((⟨bf,0⟩:aF)=⟨bf,0⟩/\(i:Int)=(i:Nat)/\(P.n:Int)=(P.n:Nat)/\gr=gr/\hs=hs/\∃(c6:Nat) (aX:ao),al ((j:Int)+1)=c6/\c6<=i/\bd=i-c6/\gu (eP R (f+2) (mix (ma P aw c5) (fy P aw c5) c6)) (a8++h5 f P.E++writes ((f:Int)+2) c6) aX (fb||l9 P aw c5) dB/\c4 eo g dB gr (h3 pl)/\c4 eo g dB hs (h3 lo)/\(∀q,gr.q=some q->¬bS m aX q.b)/\∀q,hs.q=some q->¬bS m aX q.b):=by
   intro g8 lS fO FO RT;have AY:=lS.2.2.2.2.1;refine⟨some ⟨m.b,0⟩,az AY rfl,_,az AY rfl,_,dL fO,?_⟩;rw[iu];refine(w3 lS.1 aQ (show j<m.cx (f+2) by omega) _ (by have:=py (writes ((f:Int)+2) j);rw[aDs,aDS];omega)).mono ?_;rintro _ g9 ⟨Cn,rfl,rR,v9⟩;rw[Hs] at rR;refine⟨rfl,i-(j+1),by omega,rfl,rfl,rfl,rfl,rfl,j+1,Cn,bt,by omega,rfl,?_,FO.move λq aj=>v9.2.1 _ (FO.bp aj).2 (x0 q aj),RT.move λq aj=>v9.2.1 _ (RT.bp aj).2 (ts q aj),λq aj=>v9.out (FO.bp aj).2 (x0 q aj),λq aj=>v9.out (RT.bp aj).2 (ts q aj)⟩;have:=mem lS rR v9;rw[xW,<-pW,show ∀a b:dk,a8++h5 f P.E++(writes ((f+2:Nat):Int) j++[a,b])=a8++h5 f P.E++writes ((f+2:Nat):Int) j++[a]++[b] by simp];rw[<-pW] at this;exact this
  refine cj (λuO=>?_) λuO=>?_
  .refine⟨Int.NonNeg.mk _,Int.NonNeg.mk _,nq (i:=11) mJ hN fa (by decide) λg8 uU fO e6=>fin g8 (loc w4 yR yS cU uU e6) ?_ (nQ.move λq aj=>e6 _ (t6 q aj)) (nR.move λq aj=>e6 _ (t7 q aj))⟩;rw[fO,jU (by omega)];unfold ma;rw[RR,aDq λh=>by have:=Ps j h;omega,cS]
  .have k4:j<P.n:=by omega
   refine⟨λeV n43 n44 gJ iB n45 f_ n46 bw bW=>eV=⟨bf,0⟩/\n43=(i:Nat)/\n44=(P.n:Nat)/\gJ=gr/\iB=hs/\n45=(j:Nat)/\f_=⟨ax,0⟩/\∃z:Nat,n46=z/\z<=lo.length/\bW=lo.length-z/\gu (eP R (f+2) (mix (ma P aw c5) (fy P aw c5) j)) (a8++h5 f P.E++writes ((f:Int)+2) j++[⟨((f+2:Nat):Int),j,false⟩]) s9 (fb||l9 P aw c5) bw/\bw ax=some (.cells (ag.cells (.ws 12 (if j∈lo.take z then fm else fy P aw c5 j))).toArray 69 (0,0))/\c4 eo g bw gr (h3 pl)/\c4 eo g bw hs (h3 lo),
    ⟨lo.length,rfl,rfl,rfl,rfl,rfl,rfl,rfl,0,rfl,by omega,rfl,w4,by rw[List.take_zero,aDq (by simp)];exact fa,nQ,nR⟩,?_⟩
   clear w4 fa mJ nQ nR lv;rintro eV n43 n44 gJ iB n45 f_ n46 g8 bW ⟨rfl,rfl,rfl,rfl,rfl,rfl,rfl,z,rfl,bn,rfl,lS,fO,nQ,nR⟩;refine cj (λaCT=>?_) λaCU=>?_
   .have w8:z<lo.length:=by omega
    refine nR.rd.cA (i:=z) (by simpa [h3] using w8) λq _ c=>⟨_,c,?_⟩;have dd:(h3 lo)[z]'(by simpa [h3] using w8)=(lo[z]:Int):=by simp[h3]
    rw[dd];have rU:lo.take (z+1)=lo.take z++[lo[z]]:=by rw[aEl,aDx w8];rfl
    refine cj (λadR=>?_) λadR=>?_
    .rw[<-CU];refine fN (n:=12) lS.2.1 hN fO (by simp[ag.cells]) λg9 DP gm e3=>⟨lo.length-(z+1),by omega,rfl,rfl,rfl,rfl,rfl,rfl,rfl,z+1,bt,by omega,rfl,loc lS yR yS cU DP e3,?_,nQ.move λq aj=>e3 _ (t6 q aj),nR.move λq aj=>e3 _ (t7 q aj)⟩;rw[gm,aDr (by rw[rU,show lo[z]=j by omega];simp)]
    .refine⟨lo.length-(z+1),by omega,rfl,rfl,rfl,rfl,rfl,rfl,rfl,z+1,bt,by omega,rfl,lS,?_,nQ,nR⟩;have dA:¬j=lo[z]:=λe=>adR (by rw[e]);have e:(j∈lo.take (z+1))↔j∈lo.take z:=by rw[rU,aDO];exact⟨λh=>h.elim id λh=>absurd (by simpa using h) dA,.inl⟩
     rw[fO];simp only[e]
   .have w8:z=lo.length:=by omega
    subst w8;refine nQ.rd.cA (i:=j) (by simp[h3];omega) λq _ c=>⟨_,c,Int.NonNeg.mk _,Int.NonNeg.mk _,?_⟩;have dd:(h3 pl)[j]'(by simp[h3];omega)=(pl.getD j 0:Nat):=by simp[h3,List.getD,show j<pl.length by omega]
    rw[dd];refine nq (i:=11) lS.2.1 hN fO (by decide) λg9 DP gm e3=>fin g9 (loc lS yR yS cU DP e3) ?_ (nQ.move λq aj=>e3 _ (t6 q aj)) (nR.move λq aj=>e3 _ (t7 q aj));have P7:pl.getD j 0<2 ^ 63:=by
     have hm:pl.getD j 0∈pl:=by simp[List.getD,show j<pl.length by omega]
     have:=avX _ hm;omega
    rw[gm,jU P7,List.take_length];unfold ma;rw[RR,avZ,aDr k4]
 .have kb:j=i:=by omega
  subst kb;have el:=h2.2.2.2.2.1;refine⟨some ⟨m.b,0⟩,az el rfl,_,az el rfl,?_⟩;rw[iu];have DS:gu (eP R (f+2) (ma P aw c5)) (a8++h5 f P.E++writes ((f:Int)+2) j) hp (fb||l9 P aw c5) g4:=⟨c8.CV (f:=ma P aw c5) (g:=fy P aw c5) h2.1 (by omega),h2.2⟩;refine(adI DS.1 aQ (by omega) u1.symm (by omega) (k:=11) (by decide) (by have:=py (writes ((f:Int)+2) j);omega)).mono ?_;rintro _ g5 ⟨s9,rfl,iU,v5⟩;obtain⟨nN,rD,av0,_,Hu,_⟩:=mem DS iU v5;rw[Ap,tw,aDD,<-u1,KB,aDD] at nN;exact⟨_,rfl,s9,rfl,nN,Hu,av0,rD⟩
end

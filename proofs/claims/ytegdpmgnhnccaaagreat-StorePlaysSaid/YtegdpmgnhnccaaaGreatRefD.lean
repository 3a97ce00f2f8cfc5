import Derived.Test.YtegdpmgnhnccaaaGreatRefM
import Derived.Test.YtegdpmgnhnccaaaGreatDealC
namespace Go.cQ
open Go Go.RowKit
theorem VX:∀(f a b j:Nat),a/2 ^ j=b/2 ^ j->ou f a b<=j
 | 0,_,_,_,_=>atx _
 | f+1,a,b,j,h=>by
  unfold ou;split
  .exact atx _
  .rename_i cX
   cases j with
   | zero=>simp at h;exact absurd h cX
   | succ j =>
    have:=VX f (a/2) (b/2) j (by rw[atZ,atZ,<-Nat.pow_succ'];exact h);omega
theorem akV {n:Nat}{ops:List (Option Nat)}{fB:List Nat}(jc:n4 n ops=fB){c m:Nat}(aT:c<fB.length)(all:∀y,y<m->(ops.contains (some y)||decide (y∈fB.take c))=true) :
 m<=fB[c]/\((ops.contains (some m)||decide (m∈fB.take c))=false->m=fB[c])/\fB[c]<n:=by
 have akW:fB.Pairwise (·<·):=by rw[<-jc];exact List.Pairwise.filter _ List.pairwise_lt_range
 have hm:∀y,y∈fB↔y<n/\ops.contains (some y)=false:=by intro y;rw[<-jc];unfold n4;simp
 have Ly:fB[c]∈fB:=aty aT;have b1:=auR.1 akW;have vx:fB[c]∉fB.take c:=λh=>by
  obtain⟨j,aL,e⟩:=atT h;rw[List.getElem_take] at e;have lg:j<c:=by simp at aL;omega
  have:=b1 j c (by omega) aT lg;omega
 have u:(ops.contains (some fB[c])||decide (fB[c]∈fB.take c))=false:=by rw[((hm _).1 Ly).2,ati vx];rfl
 have hle:m<=fB[c]:=Nat.le_of_not_lt λh=>by have:=all _ h;rw[u] at this;cases this
 refine⟨hle,λh=>?_,((hm _).1 Ly).1⟩;obtain⟨aa,ad⟩:=Bool.or_eq_false_iff.1 h;have ad:=atW ad;obtain⟨j,aL,e⟩:=atT ((hm m).2 ⟨by have:=((hm _).1 Ly).1;omega,aa⟩);have akX:c<=j:=Nat.le_of_not_lt λz6=>ad (avb.2 ⟨j,by omega,e⟩);rcases Nat.lt_or_eq_of_le akX with aq|aq
 .have:=b1 c j aT aL aq;omega
 .subst aq;exact e.symm
end Go.cQ
namespace Go.Proofs.Tryz
open Go Go.cQ Go.RowKit
set_option maxRecDepth 8000
theorem VY {k a b d:Nat}(bK:d<=k)(h:eT k a d=eT k b d):d<=ji k a b:=by
 have:=VX k a b (k-d) (Nat.add_left_cancel h);unfold ji;omega
theorem VZ {k a b:Nat}(ab:k<=10)(bV:a<2 ^ k)(au:b<2 ^ k):eu prog 158 [U (2 ^ k),U a,U b] (U (ji k a b)):=by
 intro h;refine ajk _ _ _ ?_;unfold Ve;refine(Lz ab bV h).mono ?_;rintro _ aa ⟨s1,rfl,cB,aE⟩;refine⟨_,rfl,(Lz ab au aa).mono ?_⟩;rintro _ ad ⟨s2,rfl,cU,az⟩;have ev:=(cB.bE az).rd;have e5:=cU.rd;have g_:=ev.len;have hW:=e5.len;rw[rI] at g_ hW;have bt:eT k a 0=eT k b 0:=by rw[LA bV,LA au]
 have qE:=y7 k a b;refine⟨_,rfl,λbj bM ax ay g bI=>bj=s1/\bM=s2/\g=ad/\∃i:Nat,ay=i/\i<=k+1/\ax=(i:Int)-1/\bI=k+1-i/\∀d,d<i->eT k a d=eT k b d,
  ⟨k+1,rfl,rfl,rfl,0,rfl,by omega,rfl,rfl,λd bK=>absurd bK (by omega)⟩,?_⟩
 rintro bj bM ax ay g bI ⟨rfl,rfl,rfl,i,rfl,hi,rfl,rfl,mA⟩;refine b6 (λb1=>?_) λc3=>?_
 .have bN:i<k+1:=by omega
  refine eh (pS) ?_;refine ev.e0 (i:=i) (by rw[rI];exact bN) λq1 _ aX=>⟨_,aX,e5.e0 (i:=i) (by rw[rI];exact bN) λaP _ aZ=>⟨_,aZ,?_⟩⟩;have g1:(lk k a (k+1))[i]'(by rw[rI];exact bN)=(eT k a i:Int):=by simp[lk]
  have g2:(lk k b (k+1))[i]'(by rw[rI];exact bN)=(eT k b i:Int):=by simp[lk]
  rw[g1,g2];refine hS (λhe=>?_) λhe=>?_
  .have he:eT k a i=eT k b i:=by
    have:=atC (show decide _=true from he);omega
   refine⟨k+1-(i+1),by omega,rfl,rfl,rfl,i+1,bl,by omega,by omega,rfl,λd bK=>?_⟩;by_cases c:d=i
   .rw[c];exact he
   .exact mA d (by omega)
  .have he:¬eT k a i=eT k b i:=λe=>atW (show decide _=false from he) (by rw[e]);have h0:i≠0:=λe=>he (by rw[e];exact bt);have aa:=VY (d:=i-1) (by omega) (mA (i-1) (by omega));have ad:¬i<=ji k a b:=λh=>he (Km bV au h (by omega));exact⟨by congr 1;omega,aE.trans az⟩
 .have bN:i=k+1:=by omega
  have aa:=VY (d:=k) (by omega) (mA k (by omega));exact⟨by congr 1;omega,aE.trans az⟩
theorem akY (a b:a8×Int):eu prog 202 [.agg #[ak a.1,U a.2],.agg #[ak b.1,U b.2]] (.bool (decide (b.2<a.2)||(decide (a.2=b.2)&&decide (a.1<b.1)))):=by
 intro h;refine aj9 _ _ _ _ ?_;unfold Vq;refine bL λaj aa f1 aC aE=>bL λaB ad f2 a7 az=>⟨_,aF (az.get aC) rfl,_,aF a7 rfl,hS (λc=>⟨?_,aE.trans az⟩) λc=>⟨_,aF (az.get aC) rfl,_,aF a7 rfl,hS (λd=>⟨_,aF (az.get aC) rfl,_,aF a7 rfl,?_,aE.trans az⟩) λd=>⟨?_,aE.trans az⟩⟩⟩
 .rw[c];rfl
 .rw[c,d];rfl
 .rw[c,d];rfl
def CQ (b:Bool):List Value:=[.bool b]
theorem LB (b:Bool):(CQ b).length=1:=rfl
abbrev k8 (fW g:ai)(s:an)(n:Nat)(d:Nat->Bool):Prop:=cI 1 CQ fW g s ((List.range n).map d)
theorem k8.zero {h0 h:ai}{b n:Nat}{t:TypeId}{m:Nat}(au:h0 b=none)(e:h b=dB (kx (if m=0 then #[] else Value.cells (.bool false)) m) t)(hm:m=n):k8 h0 h ⟨some ⟨b,0⟩,n,n,none⟩ n λ_=>false:=by
 subst hm;refine⟨by simp,as_ _,.inr ⟨_,_,_,rfl,au,e,?_,λi hi=>?_⟩⟩
 .rw[show Value.cells (.bool false)=#[.bool false] from rfl,Ee _ _ rfl];simp
 .have nZ:(((List.range m).map λ_=>false).flatMap CQ).length=m:=by rw[mv LB];simp
  have bN:i<m:=by rw[nZ] at hi;exact hi
  rw[show Value.cells (.bool false)=#[.bool false] from rfl,Ee _ _ rfl,Nat.zero_add];have a7:((List.range m).map λ_=>false).flatMap CQ=List.replicate m (.bool false):=by
   have:∀l:List Nat,(l.map λ_=>false).flatMap CQ=List.replicate l.length (.bool false):=λl=>by
    induction l with
    | nil=>rfl
    | cons a l c6=>rw[at1,List.flatMap_cons,c6];rfl
   rw[this,atj]
  simp[a7,bN]
theorem k8.get {fW g:ai}{s:an}{n:Nat}{d:Nat->Bool}(A:k8 fW g s n d){i:Nat}(hi:i<n){I:Int}(jI:I=i){K:aG->Bool->Prop}(ab:∀q,s.q=some q->K q (d i)) :
 ∃q,s.q=some q/\0<=I/\I+1<=(s.len:Int)/\∃t:Bool,bR g q.b (q.o+Int.toNat I*1)=some (.bool t)/\K q t:=by
 subst jI;refine A.rd.e0 LB (i:=i) (by simpa using hi) λq ah r=>?_;rw[pQ hi] at r;exact⟨_,r.1,ab q ah⟩
theorem k8.set {fW g:ai}{s:an}{n:Nat}{d:Nat->Bool}(A:k8 fW g s n d){i:Nat}(hi:i<n){I:Int}(jI:I=i)(e:Bool){K:ai->Prop}
 (ab:∀bg,k8 fW bg s n (λx=>if x=i then e else d x)->(∀b,(∀q,s.q=some q->b≠q.b)->bg b=g b)->K bg) :
 ∃q,s.q=some q/\0<=I/\I+1<=(s.len:Int)/\a1 g ⟨q.b,q.o+Int.toNat I*1⟩ [.bool e] K:=by
 subst jI;have aO:=A.len;simp only[ath,atj] at aO;obtain⟨q,ah⟩:=A.rd.ptr (by simp;omega);exact⟨q,ah,by omega,by omega,sN LB A ah hi e λbg oT il=>ab bg oT λb au=>il b (au q ah)⟩
def gG (l:List Nat):List Int:=l.map λx:Nat=>(x:Int)
theorem LC (l:List Nat)(x:Nat):gG l++[(x:Int)]=gG (l++[x]):=by simp[gG]
theorem akZ {h:ai}{s:an}{L:List (a8×Int)}(r:fi m2 h s L)(aH:L.length<=1000000)(fp:∀x∈L,x.2<=1000)(dX:Ek L) :
 aw 182 [aU s] h λv ag=>∃cx,v=aU cx/\fy h ag cx L.length (λi:Nat=>(i:Int))/\bB h ag:=by
 have hlen:=r.len;obtain⟨ij,Gq⟩:∃ij,ij=fc (L.map (·.2)):=⟨_,rfl⟩;have hle:ij<=L.length:=by rw[Gq];have:=rC (L.map (·.2));simpa using this
 have pX:∀i (hi:i<L.length),(L.map (·.2)).getD i 0=L[i].2:=λi hi=>by simp[List.getD,hi]
 have pos:∀i (hi:i<L.length),i<ij->0<=L[i].2:=λi hi b1=>by
  have:=Ei (L.map (·.2)) i (by omega);rwa [pX i hi] at this
 have V0:∀i (hi:i<L.length),L.getD i pW=L[i]:=λi hi=>by simp[List.getD,hi]
 have ord:∀i j (mC:i<=j) (aL:j<L.length),ib (L[i]'(by omega))<=ib L[j]:=λi j mC aL=>by
  have:=dX i j mC aL;rwa [V0 i (by omega),V0 j aL] at this
 have neg:∀i (hi:i<L.length),ij<=i->L[i].2<0:=λi hi Gr=>by
  have h0:ij<L.length:=by omega
  have aa:=Eh (L.map (·.2)) ij (by simpa using h0) Gq;rw[pX ij h0] at aa;have ad:=ord ij i Gr hi;by_cases c:L[i].2<0
  .exact c
  .have:=UInt64.toNat_lt L[i].1;unfold ib at ad;rw[as8 aa,as7 c] at ad;have:(1000-L[i].2.toNat)<=1000:=by omega
   omega
 have ak0:∀n i (Gr:n<i) (hi:i<L.length),i<ij->(decide ((L[n]'(by omega)).2<L[i].2)||(decide (L[i].2=(L[n]'(by omega)).2)&&decide (L[i].1<(L[n]'(by omega)).1)))=false:=λn i Gr hi mB=>by
  have aa:=ord n i (by omega) hi;have hF:=pos i hi mB;have jt:=pos n (by omega) (by omega);have q1:=fp _ (aty hi);have aP:=fp _ (aty (show n<L.length by omega));unfold ib at aa;rw[cS,cS] at aa;have z7:=UInt64.toNat_lt L[i].1;have z8:=UInt64.toNat_lt (L[n]'(by omega)).1;rw[Bool.or_eq_false_iff,Bool.and_eq_false_iff];refine⟨hv,?_⟩;by_cases c:L[i].2=(L[n]'(by omega)).2
  .right;apply ati;rw[atY];rw[c] at aa;omega
  .exact .inl (ati c)
 clear ord dX;refine ajL _ ?_;unfold Vl;refine⟨by omega,by omega,by omega,by omega,bL λaj aa f1 aC aE=>?_⟩;let iA:an:=⟨some ⟨aj,0⟩,s.len,s.len,none⟩;have Ba:k8 h aa iA s.len λ_=>false:=k8.zero f1 aC (by omega);refine⟨λdC fK fz g=>dC=s/\fK=iA/\k8 h g iA s.len (λx=>decide (x<ij))/\b9 dg h g fz (gG (List.range ij))/\(∀q,fz.q=some q->q.b≠aj)/\bB h g,?_,?_⟩
 .refine⟨λs1 s2 bj ax g bI=>s1=s/\s2=iA/\∃n:Nat,ax=n/\n<=ij/\bI=s.len-n/\k8 h g iA s.len (λx=>decide (x<n))/\b9 dg h g bj (gG (List.range n))/\(∀q,bj.q=some q->q.b≠aj)/\bB h g,
   ⟨s.len,rfl,rfl,0,rfl,by omega,rfl,by simpa using Ba,b9.e9 _ _ _,(λq ah=>by cases ah),aE⟩,?_⟩
  rintro s1 s2 bj ax g bI ⟨rfl,rfl,n,rfl,m3,rfl,eb,dZ,sep,cv⟩;refine b6 (λb1=>?_) λc3=>?_
  .have CR:n<L.length:=by omega
   refine⟨λbM cZ b3 ay aI aQ bg bI=>bM=s1/\cZ=iA/\b3=bj/\ay=n/\bB g bg/\∃i:Nat,aQ=i/\i<=s1.len/\bI=s1.len-i/\aI=(if n<i/\n<ij then (n:Int) else -1),
    ⟨s1.len,rfl,rfl,rfl,rfl,bB.refl _,0,rfl,by omega,rfl,by rw[cS]⟩,?_⟩
   rintro bM cZ b3 ay aI aQ bg bI ⟨rfl,rfl,rfl,rfl,gq,i,rfl,hi,rfl,rfl⟩;have oT:k8 h bg iA bM.len _:=eb.bE gq;have ej:=r.bE kc (cv.trans gq);refine b6 (λlF=>?_) λyF=>?_
   .have bN:i<L.length:=by omega
    refine oT.get (i:=i) (by omega) rfl λq _=>?_;by_cases c:i<n
    .rw[atl c];exact b0 rfl ⟨bM.len-(i+1),by omega,rfl,rfl,rfl,rfl,gq,i+1,bl,by omega,rfl,by rw[cS,cS]⟩
    .rw[ati c];refine eh rfl (ej.e0 kc bN λaP _ qC=>⟨_,qC.2.1,?_⟩);by_cases lh:i<ij
     .refine eh (atl (pos i bN lh)) ?_;by_cases ce:i=n
      .subst ce;rw[cS];exact eh rfl ⟨bM.len-(i+1),by omega,rfl,rfl,rfl,rfl,gq,i+1,bl,by omega,rfl,by rw[d_]⟩
      .rw[d_];refine b0 (hv) (ej.e0 kc bN λbs _ nx=>⟨_,nx.1,_,nx.2.1,ej.e0 kc CR λbJ _ q8=>⟨_,q8.1,_,q8.2.1,(akY L[i] L[n]).to λg2 az=>⟨_,rfl,?_⟩⟩⟩);rw[ak0 n i (by omega) bN lh];exact b0 rfl ⟨bM.len-(i+1),by omega,rfl,rfl,rfl,rfl,gq.trans az,i+1,bl,by omega,rfl,by rw[d_]⟩
     .refine b0 (ati (by have:=neg i bN (by omega);omega)) ⟨bM.len-(i+1),by omega,rfl,rfl,rfl,rfl,gq,i+1,bl,by omega,rfl,?_⟩;by_cases lO:n<ij
      .rw[d_,d_]
      .rw[cS,cS]
   .have bN:i=bM.len:=by omega
    subst bN;by_cases lO:n<ij
    .rw[d_];refine b0 (hv) (oT.set (i:=n) (by omega) rfl true λg2 dn cU=>?_);have eR:b9 dg h g2 b3 (gG (List.range n)):=(dZ.bE gq).move λq ah=>cU _ λdf ek=>by cases ek;exact sep q ah
     have oi:bB h g2:=λy aA=>by
      rw[cU y λq ah e=>by cases ah;exact aA (e▸f1)];exact(cv.trans gq) y aA
     refine yx eR (λb au=>oi.free au) (n:Int) (by simp[gG];omega) λcx g3 k2 f3 n2 aI=>⟨bM.len-(n+1),by omega,rfl,rfl,n+1,bl,by omega,rfl,?_,?_,λdf ek=>?_,qK eR oi f3⟩
     .have e:(λx=>decide (x<n+1))=λx=>if x=n then true else decide (x<n):=by
       funext x;by_cases c:x=n
       .rw[as8 c];simp[c]
       .rw[as7 c,atz];simp;omega
      rw[e];exact dn.move λq ah=>by cases ah;exact f3 _ (dn.b_ (q:=⟨aj,0⟩) rfl).2 λdf ek e=>sep df ek e.symm
     .rw[ato,<-LC];exact k2
     .rcases n2 df ek with ⟨q,ah,e⟩|au
      .rw[e];exact sep q ah
      .exact λe=>(dn.b_ (q:=⟨aj,0⟩) rfl).2 (e▸au)
    .have:n=ij:=by omega
     subst this;rw[cS];exact eh rfl ⟨rfl,rfl,oT,dZ.bE gq,sep,cv.trans gq⟩
  .have:n=ij:=by omega
   subst this;exact⟨rfl,rfl,eb,dZ,sep,cv⟩
 .rintro dC fK fz g ⟨rfl,rfl,eb,dZ,sep,cv⟩;refine⟨λs1 s2 bj ax g bI=>s1=dC/\s2=iA/\∃i:Nat,ax=i/\i<=dC.len/\bI=dC.len-i/\k8 h g iA dC.len (λx=>decide (x<ij))/\b9 dg h g bj (gG (List.range (max ij i)))/\(∀q,bj.q=some q->q.b≠aj)/\bB h g,
   ⟨dC.len,rfl,rfl,0,rfl,by omega,rfl,eb,by rw[Nat.max_eq_left (by omega)];exact dZ,sep,cv⟩,?_⟩
  rintro s1 s2 bj ax g2 bI ⟨rfl,rfl,i,rfl,hi,rfl,dn,eR,LD,n5⟩;refine b6 (λb1=>?_) λc3=>?_
  .refine dn.get (i:=i) (by omega) rfl λq _=>?_;by_cases c:i<ij
   .rw[atl c];exact b0 rfl ⟨s1.len-(i+1),by omega,rfl,rfl,i+1,bl,by omega,rfl,dn,by rw[show max ij (i+1)=max ij i by omega];exact eR,LD,n5⟩
   .rw[ati c];refine eh rfl ?_;refine yx eR (λb au=>n5.free au) (i:Int) (by simp[gG];omega) λcx g3 k2 f3 n2 aI=>⟨s1.len-(i+1),by omega,rfl,rfl,i+1,bl,by omega,rfl,?_,?_,λdf ek=>?_,qK eR n5 f3⟩
    .exact dn.move λq ah=>by cases ah;exact f3 _ (dn.b_ (q:=⟨aj,0⟩) rfl).2 λdf ek e=>LD df ek e.symm
    .rw[show max ij (i+1)=i+1 by omega,ato,<-LC];rw[show max ij i=i by omega] at k2;exact k2
    .rcases n2 df ek with ⟨q,ah,e⟩|au
     .rw[e];exact LD q ah
     .exact λe=>(dn.b_ (q:=⟨aj,0⟩) rfl).2 (e▸au)
  .have bN:i=s1.len:=by omega
   subst bN;rw[show max ij s1.len=L.length by omega] at eR;exact⟨_,rfl,OW.1 eR,n5⟩
theorem ak1 {k s t:Nat}(o:sQ k s t){h:ai}{x:an}{L:List (a8×Int)}(r:fi m2 h x L)(hlen:L.length=s*(k+1)+t+1)(fp:∀x∈L,x.2<=k)(dX:Ek L) :
 aw 160 [.agg #[U k,U s,U t],aU x] h λv ag=>∃s1 s2,v= .tuple #[aU s1,aU s2]/\b9 dg h ag s1 (gG (jK k s t (L.map (·.2))))/\b9 dg h ag s2 (gG (jY k s t (L.map (·.2))))/\bB h ag:=by
 have Be:=r.len;have os:=o.s;have Pd:=o.t;have qB:=o.d;have yv:=wq os.1 os.2 qB.1 qB.2;have Pr:((s*(k+1):Nat):Int)=(s:Int)*((k:Int)+1):=by simp
 have aaV:L.length<=153:=by rw[hlen];omega
 have Io:∀y∈L,y.2<=1000:=λy aA=>by have:=fp y aA;omega
 generalize nt:L.map (·.2)=cG at *;have qE:cG.length=L.length:=by rw[<-nt];simp
 have Bf:=rC cG;have kA:rB k s t (fU k):=⟨by simp[fU],(show 0<s by omega),by simp[fU]⟩;have wu:=El k s t cG (fU k);generalize qF:hh k s t cG (fU k)=ops at *;have wf:=Ie cG (fU k) kA (show -1<=(k:Int) by omega);have Ih:∀i,i<fc cG->ops.getD i none=(hf k s t (ke k s t cG (fU k) i) (cG.getD i 0)).2:=λi hi=>by rw[<-qF];exact Ib k s t cG _ i hi
 have Bg:∀i,fc cG<=i->ops.getD i none=none:=λi hi=>by rw[<-qF];exact Ph k s t cG _ kA hi
 obtain⟨i1,i2,_,_,_⟩:=Bc cG (fU k) kA;rw[qF] at i1 i2;have mz:=Ii (n:=L.length) ops (by rw[wu,qE]) i2 λp aM=>by have:=(i1 p aM).2;omega
 have oV:jK k s t cG=hj ops (n4 L.length ops):=by unfold jK;rw[qF,qE]
 have Bh:jY k s t cG=(List.range (fc cG)).filter λi=>ops.getD i none==none:=by unfold jY;rw[qF]
 have pX:∀i (hi:i<L.length),cG.getD i 0=L[i].2:=λi hi=>by rw[<-nt];simp[List.getD,hi]
 have uz:ops.length=L.length:=by rw[wu,qE]
 rw[oV,Bh];refine ajo _ _ _ _ ?_;unfold Vg;refine bL λaj aa f1 aC aE=>jV aC ?_;refine(LF o).to λad az=>⟨_,rfl,b0 rfl (jV (az.get aC) ?_)⟩;refine(Gs o).to λaq aD=>⟨_,rfl,b0 (by rw[Be,hlen];simp) ⟨by omega,by omega,by omega,by omega,bL λaB aJ f4 b5 bc=>⟨by omega,by omega,by omega,by omega,bL λaS aW f5 cD bU=>?_⟩⟩⟩;have hy:=(aE.trans (az.trans aD)).trans (bc.trans bU);have f20:h aB=none:=(aE.trans (az.trans aD)).free f4;have f30:h aS=none:=((aE.trans (az.trans aD)).trans bc).free f5;refine(akZ (r.bE kc hy) (by omega) Io dX).mono ?_;rintro _ bd ⟨Bj,rfl,sV,rE⟩;have p8:=hy.trans rE;have pz:=rE.get ((az.trans aD).trans (bc.trans bU) |>.get aC);have cE:aB≠aj:=λe=>by rw[e,(az.trans aD).get aC] at f4;cases f4
 have n31:aS≠aj:=λe=>by rw[e,((az.trans aD).trans bc).get aC] at f5;cases f5
 have n32:aS≠aB:=λe=>by rw[e,b5] at f5;cases f5
 have Em:=sV.len;simp only[ath,atj] at Em;obtain⟨qG,oW⟩:=sV.rd.ptr (by simp;omega);have qH:=(sV.b_ oW).1;have asi:qG.b≠aj:=λe=>by rw[e,((az.trans aD).trans (bc.trans bU)).get aC] at qH;cases qH
 have En:qG.b≠aB:=λe=>by rw[e,bU.get b5] at qH;cases qH
 have ak2:qG.b≠aS:=λe=>by rw[e,cD] at qH;cases qH
 let sp:an:=⟨some ⟨aB,0⟩,L.length,L.length,none⟩;let cm:an:=⟨some ⟨aS,0⟩,L.length,L.length,none⟩;have ak3:fy h bd sp L.length λ_=>0:=(fy.zero f20 b5 (by omega)).bE (bU.trans rE);have ak4:k8 h bd cm L.length λ_=>false:=(k8.zero f30 cD (by omega)).bE rE;let sr:Nat->List Nat:=λi=>(List.range i).filter λi=>ops.getD i none==none;have bf:∀i,sr (i+1)=sr i++if ops.getD i none=none then [i] else []:=λi=>by
  show(List.range (i+1)).filter _=_;rw[ato,auY];congr 1;rw[List.filter_cons,List.filter_nil];cases aT:ops.getD i none<;>rfl
 have ak5:∀i,(sr i).length<=i:=λi=>by
  have:=auq (λi=>ops.getD i none==none) (List.range i)
  rwa [atj] at this
 let Sep:an->Prop:=λlo=>∀q,lo.q=some q->q.b≠aj/\q.b≠aB/\q.b≠aS/\q.b≠qG.b;let W:Nat->Nat->an->ai->Prop:=λi j lo g=>bB h g/\g aj=bd aj/\fy h g sp L.length (λy=>if y<i then gf (ops.getD y none) else -1)/\k8 h g cm L.length (λy=>(ops.take i).contains (some y))/\b9 dg h g lo (gG (sr j))/\Sep lo/\fy aW g Bj L.length λy:Nat=>(y:Int);rw[Be];refine⟨_,rfl,_,aF pz rfl,λs2 q1 bj bM cZ bY cz cA b3 ct g bI=>s2=x/\q1=⟨aj,0⟩/\bj=sp/\bM=cm/\cZ=Bj/\bY=(k:Nat)/\cz=0/\cA=0/\b3=⟨none,0,0,none⟩/\∃i:Nat,ct=i/\i<=L.length/\bI=L.length-i/\fy h g sp L.length (λy=>if y<i then -1 else 0)/\∀y,y≠aB->g y=bd y,
  ⟨L.length,rfl,rfl,rfl,rfl,rfl,rfl,rfl,rfl,rfl,0,rfl,by omega,rfl,by simpa using ak3,λ_ _=>rfl⟩,?_⟩
 rintro s2 q1 bj bM cZ bY cz cA b3 ct g bI ⟨rfl,rfl,rfl,rfl,rfl,rfl,rfl,rfl,rfl,i,rfl,hi,rfl,iP,gH⟩;refine b6 (λb1=>?_) λc3=>?_
 .refine iP.set (i:=i) (by omega) rfl (-1) λg2 dn cU=>⟨L.length-(i+1),by omega,rfl,rfl,rfl,rfl,rfl,rfl,rfl,rfl,rfl,i+1,bl,by omega,rfl,?_,λy aA=>(cU y λq ah e=>aA (by cases ah;exact e)).trans (gH y aA)⟩;have e:(λx:Nat=>if x=i then (-1:Int) else if x<i then -1 else 0)=λx=>if x<i+1 then -1 else 0:=by
   funext x;repeat' split
   all_goals first|rfl|omega
  rw[e] at dn;exact dn
 have bN:i=L.length:=by omega
 subst bN;have LG:W 0 0 ⟨none,0,0,none⟩ g:=by
  refine⟨λy aA=>(gH y λe=>aA (e▸f20)).trans (p8 y aA),gH aj (atf cE),?_,?_,b9.e9 _ _ _,(λq ah=>by cases ah),sV.move λq ah=>by rw[oW] at ah;cases ah;exact gH _ En⟩
  .have e:(List.range L.length).map (λx:Nat=>if x<L.length then (-1:Int) else 0)=(List.range L.length).map λx:Nat=>if x<0 then gf (ops.getD x none) else -1:=atv λx af=>by rw[as8 (atq.1 af),cS]
   have LH:=iP;unfold fy at LH;rw[e] at LH;exact LH
  .have e:(λy:Nat=>(ops.take 0).contains (some y))=λ_=>false:=by funext y;simp
   rw[e];exact ak4.move λq ah=>by cases ah;exact gH _ n32
 clear iP gH;refine⟨λdu dC fK gL g=>du=s2/\dC=sp/\fK=cm/\bB h g/\fy h g sp L.length (λy=>gf (ops.getD y none))/\k8 h g cm L.length (λy=>ops.contains (some y))/\b9 dg h g gL (gG (sr (fc cG)))/\Sep gL,?_,?_⟩
 .refine⟨λdu bs dC fK fz cP c8 dO gL c5 g bI=>du=s2/\bs=⟨aj,0⟩/\dC=sp/\fK=cm/\fz=cZ/\∃i:Nat,c5=i/\i<=fc cG/\bI=L.length-i/\cP=(ke k s t cG (fU k) i).bS/\c8=((ke k s t cG (fU k) i).on:Nat)/\dO=((ke k s t cG (fU k) i).st:Nat)/\W i i gL g,
   ⟨L.length,rfl,rfl,rfl,rfl,rfl,0,rfl,by omega,rfl,rfl,rfl,rfl,LG⟩,?_⟩
  clear LG;rintro du bs dC fK fz cP c8 dO gL c5 g bI ⟨rfl,rfl,rfl,rfl,rfl,i,rfl,hi,rfl,rfl,rfl,rfl,cv,pA,iP,gS,nS,sep,oD⟩;have done:i=fc cG->du=du/\sp=sp/\cm=cm/\bB h g/\fy h g sp L.length (λy=>gf (ops.getD y none))/\k8 h g cm L.length (λy=>ops.contains (some y))/\b9 dg h g gL (gG (sr (fc cG)))/\Sep gL:=λgJ=>by
   have aC:(λy=>if y<i then gf (ops.getD y none) else -1)=λy=>gf (ops.getD y none):=by
    funext y;by_cases c:y<i
    .rw[as8 c]
    .rw[as7 c,Bg y (by omega)];rfl
   have nw:(λy:Nat=>(ops.take i).contains (some y))=λy:Nat=>ops.contains (some y):=by
    funext y;rw[atz];simp only[List.contains_eq_mem,aui];constructor
    .exact λh=>List.mem_of_mem_take h
    .intro hm
     obtain⟨j,aL,e⟩:=atT hm;have Iq:j<i:=by
      rcases atF j i with c|c
      .exact c
      .have:=Bg j (by omega);simp[List.getD,aL,e] at this
     rw[<-e];exact avb.2 ⟨j,by omega,rfl⟩
   exact⟨rfl,rfl,rfl,cv,aC▸iP,nw▸gS,gJ▸nS,sep⟩
  have rg:=r.bE kc cv;have xz:=pA.trans pz;refine b6 (λb1=>?_) λc3=>done (by omega);have gN:i<L.length:=by omega
  refine oD.get gN rfl λq _=>rg.e0 kc gN λaP _ qC=>⟨_,qC.2.1,?_⟩;by_cases aM:0<=L[i].2
  rotate_left
  .refine b0 (ati aM) (done ?_);rcases atF i (fc cG) with c|c
   .have:=Ei cG i c;rw[pX i gN] at this;omega
   .omega
  have gJ:i<fc cG:=by
   rcases atF i (fc cG) with c|c
   .exact c
   .have:=Eh cG i (by omega) (by omega);rw[pX i gN] at this;omega
  refine eh (atl aM) ?_;have ku:=Ih i gJ;rw[pX i gN] at ku;have kB:ke k s t cG (fU k) (i+1)=(hf k s t (ke k s t cG (fU k) i) L[i].2).1:=by
   show(hf k s t (ke k s t cG (fU k) i) (cG.getD i 0)).1=_;rw[pX i gN]
  obtain⟨LI,wl⟩:=wf i hi;have asj:=LI.bS;have asl:=LI.on;have asm:=LI.st;have V1:=fp _ (aty gN);generalize ke k s t cG (fU k) i=X at *;generalize bK:L[i].2=d at *;obtain⟨ri,kd⟩:∃l,l=if d<X.bS then d else X.bS:=⟨_,rfl⟩
  obtain⟨ql,l5⟩:∃l,l=if d<X.bS then 0 else X.on:=⟨_,rfl⟩
  have ew:hf k s t X d=(if ri<0 then (if X.st=t then (⟨ri,ql,X.st⟩,none) else (⟨ri,ql,X.st+1⟩,some (s*(k+1)+X.st))) else (if ql+1=s then ⟨ri-1,0,X.st⟩ else ⟨ri,ql+1,X.st⟩,some (ri.toNat*s+ql))):=by rw[kd,l5];rfl
  have asn:ri<=k:=by rw[kd];split<;>omega
  have aso:ql<s:=by rw[l5];split<;>omega
  refine⟨λgK ed iQ m5 ny eN e4 n25 lj n26 bg=>gK=du/\ed=⟨aj,0⟩/\iQ=sp/\m5=cm/\ny=fz/\eN=ri/\e4=(ql:Nat)/\n25=(X.st:Nat)/\lj=gL/\n26=(i:Nat)/\bg=g,?_,?_⟩
  .refine oD.get gN rfl λq _=>rg.e0 kc gN λaP _ qC=>⟨_,qC.2.1,?_⟩;rw[bK];refine b6 (λc=>?_) λc=>?_
   .refine oD.get gN rfl λq _=>rg.e0 kc gN λaP _ qC=>⟨_,qC.2.1,?_⟩;rw[bK];exact⟨rfl,rfl,rfl,rfl,rfl,by rw[kd,as8 c],by rw[l5,as8 c];rfl,rfl,rfl,rfl,rfl⟩
   .exact⟨rfl,rfl,rfl,rfl,rfl,by rw[kd,as7 c],by rw[l5,as7 c],rfl,rfl,rfl,rfl⟩
  rintro gK ed iQ m5 ny eN e4 n25 lj n26 bg ⟨rfl,rfl,rfl,rfl,rfl,rfl,rfl,rfl,rfl,rfl,rfl⟩;refine⟨λn7 gu mD vm vn n33 n34 n35 zT n36 n37 g=>n7=gK/\gu=⟨aj,0⟩/\mD=sp/\vm=cm/\vn=ny/\n33=(hf k s t X d).1.bS/\n34=((hf k s t X d).1.on:Nat)/\n35=((hf k s t X d).1.st:Nat)/\n36=(i:Nat)/\n37=gf (ops.getD i none)/\W i (i+1) zT g,?_,?_⟩
  .have V2:ops.getD i none≠none->sr (i+1)=sr i:=λcX=>by rw[bf i,as7 cX,atU]
   by_cases js:eN<0
   .rw[as8 js] at ew;refine b0 (hv) ⟨_,aF xz rfl,?_⟩;by_cases V3:X.st=t
    .rw[as8 V3] at ew;rw[ew] at ku;refine b0 (hv) (oD.get gN rfl λq _=>yx nS (λb au=>cv.free au) (i:Int) (by have:=ak5 i;simp[gG];omega) λcx g4 hT rF rG aa6=>?_);have off:∀y,bg y≠none->(∀q,lj.q=some q->y≠q.b)->g4 y=bg y:=rF;have ak6:=off aj (by rw[xz];simp) λq ah e=>(sep q ah).1 e.symm;have ak7:=off aB (iP.b_ (q:=⟨aB,0⟩) rfl).2 λq ah e=>(sep q ah).2.1 e.symm;have ak8:=off aS (gS.b_ (q:=⟨aS,0⟩) rfl).2 λq ah e=>(sep q ah).2.2.1 e.symm;have ak9:=off qG.b (oD.b_ oW).2 λq ah e=>(sep q ah).2.2.2 e.symm;refine⟨rfl,rfl,rfl,rfl,rfl,by rw[ew],by rw[ew],by rw[ew],rfl,by rw[ku];rfl,qK nS cv rF,ak6.trans pA,iP.move λq ah=>(by cases ah;exact ak7),gS.move λq ah=>(by cases ah;exact ak8),?_,λdf ek=>?_,oD.move λq ah=>(by rw[oW] at ah;cases ah;exact ak9)⟩
     .rw[bf i,as8 ku,<-LC];exact hT
     .rcases rG df ek with ⟨q,ah,e⟩|aH
      .rw[e];exact sep q ah
      .refine⟨λe=>?_,λe=>?_,λe=>?_,λe=>?_⟩
       .rw[e,xz] at aH;cases aH
       .exact(iP.b_ (q:=⟨aB,0⟩) rfl).2 (e▸aH)
       .exact(gS.b_ (q:=⟨aS,0⟩) rfl).2 (e▸aH)
       .exact(oD.b_ oW).2 (e▸aH)
    .rw[as7 V3] at ew;rw[ew] at ku;refine eh (pS) ⟨_,aF xz rfl,_,aF xz rfl,rfl,rfl,rfl,rfl,rfl,by rw[ew],by rw[ew],?_,rfl,?_,cv,pA,iP,gS,by rw[V2 (by rw[ku];simp)];exact nS,sep,oD⟩
     .rw[ew,bl];simp
     .rw[ku,bl (n:=(k:Int)+1),<-Pr,iN (n:=((s*(k+1):Nat):Int)) (by omega) (by omega),bl];show _=((s*(k+1)+X.st:Nat):Int);omega
   .rw[as7 js] at ew;have V4:ops.getD i none=some (eN.toNat*s+ql):=by rw[ku,ew]
    have asp:eN.toNat*s<=10*8:=atI (by omega) (by omega);have ak_:al (al (eN*(s:Int))+(ql:Nat))=gf (ops.getD i none):=by
     have aC:eN*(s:Int)=((eN.toNat*s:Nat):Int):=by rw[ava];congr 1;omega
     rw[V4,aC,iN (n:=((eN.toNat*s:Nat):Int)) (by omega) (by omega),bl];show _=((eN.toNat*s+ql:Nat):Int);omega
    have V5:b9 dg h bg lj (gG (sr (i+1))):=by rw[V2 (by rw[V4];simp)];exact nS
    refine eh (pS) ⟨_,aF xz rfl,_,aF xz rfl,?_⟩;rw[ak_,iN (n:=((ql:Nat):Int)+1) (by omega) (by omega)];by_cases aR:ql+1=s
    .rw[as8 aR] at ew;refine eh (pS) ⟨rfl,rfl,rfl,rfl,rfl,by rw[ew,bl],by rw[ew];rfl,by rw[ew],rfl,rfl,cv,pA,iP,gS,V5,sep,oD⟩
    .rw[as7 aR] at ew;refine b0 (hv) ⟨rfl,rfl,rfl,rfl,rfl,by rw[ew],by rw[ew];simp,by rw[ew],rfl,rfl,cv,pA,iP,gS,V5,sep,oD⟩
  rintro n7 gu mD vm vn n33 n34 n35 zT n36 n37 g ⟨rfl,rfl,rfl,rfl,rfl,rfl,rfl,rfl,rfl,rfl,cv,pA,iP,gS,nS,sep,oD⟩;rw[<-kB];have pZ:i<ops.length:=by rw[uz];exact gN
  have bz:ops.take (i+1)=ops.take i++[ops.getD i none]:=by
   rw[atV,atc pZ];simp[List.getD,pZ]
  cases aT:ops.getD i none with
  | none =>
   refine b0 (ati (by simp[gf])) ⟨L.length-(i+1),by omega,rfl,rfl,rfl,rfl,rfl,i+1,bl,by omega,rfl,rfl,rfl,rfl,cv,pA,?_,?_,nS,sep,oD⟩
   .have e:(λy=>if y<i+1 then gf (ops.getD y none) else -1)=λy=>if y<i then gf (ops.getD y none) else -1:=by
     funext y;by_cases c:y<i
     .rw[as8 c,d_]
     .rw[as7 c];by_cases b8:y=i
      .rw[d_,b8,aT];rfl
      .rw[cS]
    rw[e];exact iP
   .have e:(λy:Nat=>(ops.take (i+1)).contains (some y))=λy:Nat=>(ops.take i).contains (some y):=by
     funext y;rw[bz,aT];simp
    rw[e];exact gS
  | some p =>
   have Fl:p<L.length:=by
    have:=(i1 p (by
     have:ops[i]=some p:=by simpa [List.getD,pZ] using aT
     rw[<-this];exact aty pZ)).2;omega
   refine eh (atl (by simp only[gf];omega)) (oD.get gN rfl λq _=>iP.set (i:=i) gN rfl (p:Int) λg4 gn ez=>?_);refine k8.set (gS.move (ag:=g4) λq ah=>ez _ λdf ek=>by cases ah;cases ek;exact n32) (i:=p) Fl rfl true λg5 iB cY=>?_;have gH:∀y,y≠aB->y≠aS->g5 y=g y:=λy aa ad=>(cY y λq ah=>by cases ah;exact ad).trans (ez y λq ah=>by cases ah;exact aa);refine⟨L.length-(i+1),by omega,rfl,rfl,rfl,rfl,rfl,i+1,bl,by omega,rfl,rfl,rfl,rfl,λy aA=>?_,(gH aj (atf cE) (atf n31)).trans pA,?_,?_,nS.move λq ah=>gH _ (sep q ah).2.1 (sep q ah).2.2.1,sep,oD.move λq ah=>by rw[oW] at ah;cases ah;exact gH _ En ak2⟩
   .rw[gH y (λe=>aA (e▸f20)) (λe=>aA (e▸f30))];exact cv y aA
   .have e:(λy=>if y<i+1 then gf (ops.getD y none) else -1)=λy=>if y=i then (p:Int) else if y<i then gf (ops.getD y none) else -1:=by
     funext y;by_cases b8:y=i
     .rw[d_,as8 b8,b8,aT];rfl
     .rw[as7 b8];by_cases c:y<i
      .rw[as8 c,d_]
      .rw[as7 c,cS]
    rw[e];exact gn.move λq ah=>cY _ λdf ek=>by cases ek;cases ah;exact atf n32
   .have e:(λy:Nat=>(ops.take (i+1)).contains (some y))=λy:Nat=>if y=p then true else (ops.take i).contains (some y):=by
     funext y;rw[bz,aT];by_cases c:y=p
     .simp[c]
     .simp[c]
    rw[e];exact iB
 rintro F8 Lf Lg w7 g ⟨rfl,rfl,rfl,cv,iP,gS,nS,sep⟩;clear LG;generalize jc:n4 L.length ops=fB at *;let pB:Nat->Nat->Bool:=λc y=>ops.contains (some y)||decide (y∈fB.take c);refine⟨λvo tH zU vp n39 n40 g bI=>vo=F8/\tH=sp/\zU=cm/\vp=w7/\∃i m:Nat,n40=i/\n39=m/\i<=L.length/\bI=L.length-i/\bB h g/\fy h g sp L.length (λy=>if y<i then ((hj ops fB).getD y 0:Nat) else gf (ops.getD y none))/\k8 h g cm L.length (pB (hx (ops.take i)))/\b9 dg h g w7 (gG (sr (fc cG)))/\m<=L.length/\∀y,y<m->pB (hx (ops.take i)) y=true,
  ⟨L.length,rfl,rfl,rfl,rfl,0,0,rfl,rfl,by omega,rfl,cv,by simpa using iP,?_,nS,by omega,λy aA=>absurd aA (by omega)⟩,?_⟩
 .have e:pB (hx (ops.take 0))=λy:Nat=>ops.contains (some y):=by funext y;simp[pB,hx]
  rw[e];exact gS
 clear iP gS nS cv;rintro vo tH zU vp n39 n40 g bI ⟨rfl,rfl,rfl,rfl,i,m,rfl,rfl,hi,rfl,cv,iP,gS,nS,ala,mA⟩;refine b6 (λb1=>?_) λc3=>?_
 .have gN:i<L.length:=by omega
  have sX:=Ej ops fB i (by rw[uz];exact gN);have nz:=Pk ops (i:=i) (by rw[uz];exact gN);refine iP.get gN rfl λq _=>?_;rw[as7 (Nat.lt_irrefl i)];cases aT:ops.getD i none with
  | none =>
   rw[aT] at sX nz;rw[as8 rfl] at nz;have hle:=Pl ops (i+1);have lF:hx (ops.take i)<fB.length:=by omega
   generalize hx (ops.take i)=c at *;refine b0 (ati (by simp[gf])) ?_;refine⟨λzV vq sn zW n42 n43 bg bI=>zV=vo/\vq=sp/\sn=cm/\zW=vp/\n43=(i:Nat)/\bg=g/\∃m:Nat,n42=m/\bI=L.length-m/\∀y,y<m->pB c y=true,
    ⟨L.length-m,rfl,rfl,rfl,rfl,rfl,rfl,m,rfl,rfl,mA⟩,?_⟩
   rintro zV vq sn zW n42 n43 bg bI ⟨rfl,rfl,rfl,rfl,rfl,rfl,m,rfl,rfl,mA⟩;obtain⟨aa,ad,aq⟩:=akV jc lF mA;refine gS.get (i:=m) (by omega) rfl λq _=>?_;cases V6:pB c m with
   | true =>
    refine eh rfl ⟨L.length-(m+1),by omega,rfl,rfl,rfl,rfl,rfl,rfl,m+1,bl,rfl,λy aA=>?_⟩;by_cases e:y=m
    .rw[e];exact V6
    .exact mA y (by omega)
   | false =>
    have hm:m=fB[c]:=ad V6;refine b0 rfl (iP.set (i:=i) gN rfl (m:Int) λg4 gn ez=>?_);refine k8.set (gS.move (ag:=g4) λq ah=>ez _ λdf ek=>by cases ah;cases ek;exact n32) (i:=m) (by omega) rfl true λg5 iB cY=>?_;have gH:∀y,y≠aB->y≠aS->g5 y=bg y:=λy aa ad=>(cY y λq ah=>by cases ah;exact ad).trans (ez y λq ah=>by cases ah;exact aa);have V7:∀y,pB (c+1) y=if y=m then true else pB c y:=λy=>by
     show(ops.contains (some y)||decide (y∈fB.take (c+1)))=_;rw[atV,atc lF];by_cases e:y=m
     .rw[as8 e,e,hm,atl (List.mem_append_right _ (by simp)),Bool.or_true]
     .rw[as7 e];show _=(ops.contains (some y)||decide (y∈fB.take c));congr 1;rw[atz,avh,avh,atw];constructor
      .rintro (h|h)
       .exact h
       .exact absurd (by simpa using h) (hm▸e)
      .exact .inl
    refine⟨L.length-(i+1),by omega,rfl,rfl,rfl,rfl,i+1,m,bl,rfl,by omega,rfl,λy aA=>?_,?_,?_,nS.move λq ah=>gH _ (sep q ah).2.1 (sep q ah).2.2.1,by omega,λy aA=>?_⟩
    .rw[gH y (λe=>aA (e▸f20)) (λe=>aA (e▸f30))];exact cv y aA
    .have e:(λy=>if y<i+1 then (((hj ops fB).getD y 0:Nat):Int) else gf (ops.getD y none))=λy=>if y=i then (m:Int) else if y<i then (((hj ops fB).getD y 0:Nat):Int) else gf (ops.getD y none):=by
      funext y;by_cases b8:y=i
      .rw[d_,as8 b8,b8,sX,hm];simp[List.getD,lF]
      .rw[as7 b8];by_cases c:y<i
       .rw[as8 c,d_]
       .rw[as7 c,cS]
     rw[e];exact gn.move λq ah=>cY _ λdf ek=>by cases ek;cases ah;exact atf n32
    .rw[nz];have e:pB (c+1)=λy=>if y=m then true else pB c y:=funext V7
     rw[e];exact iB
    .rw[nz,V7 y];by_cases e:y=m
     .rw[as8 e]
     .rw[as7 e];exact mA y aA
  | some p =>
   rw[aT] at sX nz;rw[as7 (by simp),atQ] at nz;refine eh (atl (by simp only[gf];omega)) ⟨L.length-(i+1),by omega,rfl,rfl,rfl,rfl,i+1,m,bl,rfl,by omega,rfl,cv,?_,by rw[nz];exact gS,nS,ala,by rw[nz];exact mA⟩;have e:(λy=>if y<i+1 then (((hj ops fB).getD y 0:Nat):Int) else gf (ops.getD y none))=λy=>if y<i then (((hj ops fB).getD y 0:Nat):Int) else gf (ops.getD y none):=by
    funext y;by_cases c:y<i
    .rw[as8 c,d_]
    .rw[as7 c];by_cases b8:y=i
     .rw[d_,b8,sX,aT];rfl
     .rw[cS]
   rw[e];exact iP
 .have gN:i=L.length:=by omega
  subst gN;refine⟨_,_,rfl,?_,nS,cv⟩;have e:(List.range L.length).map (λy=>if y<L.length then (((hj ops fB).getD y 0:Nat):Int) else gf (ops.getD y none))=(hj ops fB).map λp:Nat=>(p:Int):=by
   apply aue
   .simp[Bn,uz]
   .intro j ar aN
    have aL:j<L.length:=by simpa using ar
    have rA:j<(hj ops fB).length:=by simpa using aN
    simp[aL,List.getD,rA]
  have:=iP.yt;rw[e] at this;exact this

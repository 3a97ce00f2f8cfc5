import Derived.Test.YtegdpmgnhnccaaaGreatRefM
import Derived.Test.YtegdpmgnhnccaaaGreatDealC
namespace Go.cR
open Go Go.RowKit
theorem ac9:∀(f a b j:Nat),a/2 ^ j=b/2 ^ j->qP f a b<=j
 | 0,_,_,_,_=>aDM _
 | f+1,a,b,j,h=>by
  unfold qP;split
  .exact aDM _
  .rename_i dA
   cases j with
   | zero=>simp at h;exact absurd h dA
   | succ j =>
    have:=ac9 f (a/2) (b/2) j (by rw[aEo,aEo,<-Nat.pow_succ'];exact h);omega
theorem au2 {n:Nat}{ops:List (Option Nat)}{hb:List Nat}(jL:qA n ops=hb){c m:Nat}(a1:c<hb.length)(all:∀y,y<m->(ops.contains (some y)||decide (y∈hb.take c))=true) :
 m<=hb[c]/\((ops.contains (some m)||decide (m∈hb.take c))=false->m=hb[c])/\hb[c]<n:=by
 have au3:hb.Pairwise (·<·):=by rw[<-jL];exact List.Pairwise.filter _ List.pairwise_lt_range
 have hm:∀y,y∈hb↔y<n/\ops.contains (some y)=false:=by intro y;rw[<-jL];unfold qA;simp
 have Ru:hb[c]∈hb:=aDR a1;have cl:=aFk.1 au3;have yM:hb[c]∉hb.take c:=λh=>by
  obtain⟨j,aU,e⟩:=aEh h;rw[List.getElem_take] at e;have kb:j<c:=by simp at aU;omega
  have:=cl j c (by omega) a1 kb;omega
 have u:(ops.contains (some hb[c])||decide (hb[c]∈hb.take c))=false:=by rw[((hm _).1 Ru).2,aDz yM];rfl
 have hle:m<=hb[c]:=Nat.le_of_not_lt λh=>by have:=all _ h;rw[u] at this;cases this
 refine⟨hle,λh=>?_,((hm _).1 Ru).1⟩;obtain⟨aa,ad⟩:=aFj.1 h;have ad:=aD3 ad;obtain⟨j,aU,e⟩:=aEh ((hm m).2 ⟨by have:=((hm _).1 Ru).1;omega,aa⟩);have au4:c<=j:=Nat.le_of_not_lt λDQ=>ad (aFK.2 ⟨j,by omega,e⟩);rcases Nat.lt_or_eq_of_le au4 with an|an
 .have:=cl c j a1 aU an;omega
 .subst an;exact e.symm
end Go.cR
namespace Go.Proofs.Tryz
open Go Go.cR Go.RowKit
set_option maxRecDepth 8000
theorem ac_ {k a b d:Nat}(b4:d<=k)(h:fP k a d=fP k b d):d<=k1 k a b:=by
 have:=ac9 k a b (k-d) (Nat.add_left_cancel h);unfold k1;omega
theorem ada {k a b:Nat}(ah:k<=10)(bY:a<2 ^ k)(ar:b<2 ^ k):fc prog 158 [U (2 ^ k),U a,U b] (U (k1 k a b)):=by
 intro h;refine atg _ _ _ ?_;unfold acq;refine(Rv ah bY h).mono ?_;rintro _ aa ⟨s1,rfl,cy,aD⟩;refine⟨_,rfl,(Rv ah ar aa).mono ?_⟩;rintro _ ad ⟨s2,rfl,cg,aB⟩;have eD:=(cy.bA aB).rd;have fK:=cg.rd;have hz:=eD.len;have gg:=fK.len;rw[uJ] at hz gg;have bn:fP k a 0=fP k b 0:=by rw[Rw bY,Rw ar]
 have qz:=CY k a b;refine⟨_,rfl,λbz bZ ay aA g bW=>bz=s1/\bZ=s2/\g=ad/\∃i:Nat,aA=i/\i<=k+1/\ay=(i:Int)-1/\bW=k+1-i/\∀d,d<i->fP k a d=fP k b d,
  ⟨k+1,rfl,rfl,rfl,0,rfl,by omega,rfl,rfl,λd b4=>absurd b4 (by omega)⟩,?_⟩
 rintro bz bZ ay aA g bW ⟨rfl,rfl,rfl,i,rfl,hi,rfl,rfl,oP⟩;refine cj (λcl=>?_) λdH=>?_
 .have cb:i<k+1:=by omega
  refine dF (pa) ?_;refine eD.cA (i:=i) (by rw[uJ];exact cb) λq1 _ aS=>⟨_,aS,fK.cA (i:=i) (by rw[uJ];exact cb) λaI _ aY=>⟨_,aY,?_⟩⟩;have g1:(nn k a (k+1))[i]'(by rw[uJ];exact cb)=(fP k a i:Int):=by simp[nn]
  have g2:(nn k b (k+1))[i]'(by rw[uJ];exact cb)=(fP k b i:Int):=by simp[nn]
  rw[g1,g2];refine iN (λhe=>?_) λhe=>?_
  .have he:fP k a i=fP k b i:=by
    have:=aDN (show decide _=true from he);omega
   refine⟨k+1-(i+1),by omega,rfl,rfl,rfl,i+1,bt,by omega,by omega,rfl,λd b4=>?_⟩;by_cases c:d=i
   .rw[c];exact he
   .exact oP d (by omega)
  .have he:¬fP k a i=fP k b i:=λe=>aD3 (show decide _=false from he) (by rw[e]);have h0:i≠0:=λe=>he (by rw[e];exact bn);have aa:=ac_ (d:=i-1) (by omega) (oP (i-1) (by omega));have ad:¬i<=k1 k a b:=λh=>he (Qu bY ar h (by omega));exact⟨by congr 1;omega,aD.trans aB⟩
 .have cb:i=k+1:=by omega
  have aa:=ac_ (d:=k) (by omega) (oP k (by omega));exact⟨by congr 1;omega,aD.trans aB⟩
theorem au5 (a b:aE×Int):fc prog 202 [.agg #[ab a.1,U a.2],.agg #[ab b.1,U b.2]] (.bool (decide (b.2<a.2)||(decide (a.2=b.2)&&decide (a.1<b.1)))):=by
 intro h;refine aue _ _ _ _ ?_;unfold acE;refine bP λae aa f1 aH aD=>bP λax ad f2 a_ aB=>⟨_,az (aB.get aH) rfl,_,az a_ rfl,iN (λc=>⟨?_,aD.trans aB⟩) λc=>⟨_,az (aB.get aH) rfl,_,az a_ rfl,iN (λd=>⟨_,az (aB.get aH) rfl,_,az a_ rfl,?_,aD.trans aB⟩) λd=>⟨?_,aD.trans aB⟩⟩⟩
 .rw[c];rfl
 .rw[c,d];rfl
 .rw[c,d];rfl
def Hv (b:Bool):List Value:=[.bool b]
theorem Rx (b:Bool):(Hv b).length=1:=rfl
abbrev m3 (gA g:ak)(s:ao)(n:Nat)(d:Nat->Bool):Prop:=ct 1 Hv gA g s ((List.range n).map d)
theorem m3.zero {h0 h:ak}{b n:Nat}{t:TypeId}{m:Nat}(ar:h0 b=none)(e:h b=ev (lq (if m=0 then #[] else Value.cells (.bool false)) m) t)(hm:m=n):m3 h0 h ⟨some ⟨b,0⟩,n,n,none⟩ n λ_=>false:=by
 subst hm;refine⟨by simp,aDt _,.inr ⟨_,_,_,rfl,ar,e,?_,λi hi=>?_⟩⟩
 .rw[show Value.cells (.bool false)=#[.bool false] from rfl,JE _ _ rfl];simp
 .have o_:(((List.range m).map λ_=>false).flatMap Hv).length=m:=by rw[nx Rx];simp
  have cb:i<m:=by rw[o_] at hi;exact hi
  rw[show Value.cells (.bool false)=#[.bool false] from rfl,JE _ _ rfl,aEX];have a_:((List.range m).map λ_=>false).flatMap Hv=List.replicate m (.bool false):=by
   have:∀l:List Nat,(l.map λ_=>false).flatMap Hv=List.replicate l.length (.bool false):=λl=>by
    induction l with
    | nil=>rfl
    | cons a l dI=>rw[aEs,List.flatMap_cons,dI];rfl
   rw[this,aDL]
  simp[a_,cb]
theorem m3.get {gA g:ak}{s:ao}{n:Nat}{d:Nat->Bool}(A:m3 gA g s n d){i:Nat}(hi:i<n){I:Int}(lj:I=i){K:aF->Bool->Prop}(ah:∀q,s.q=some q->K q (d i)) :
 ∃q,s.q=some q/\0<=I/\I+1<=(s.len:Int)/\∃t:Bool,bx g q.b (q.o+Int.toNat I*1)=some (.bool t)/\K q t:=by
 subst lj;refine A.rd.cA Rx (i:=i) (by simpa using hi) λq aj r=>?_;rw[r6 hi] at r;exact⟨_,r.1,ah q aj⟩
theorem m3.set {gA g:ak}{s:ao}{n:Nat}{d:Nat->Bool}(A:m3 gA g s n d){i:Nat}(hi:i<n){I:Int}(lj:I=i)(e:Bool){K:ak->Prop}
 (ah:∀bw,m3 gA bw s n (λx=>if x=i then e else d x)->(∀b,(∀q,s.q=some q->b≠q.b)->bw b=g b)->K bw) :
 ∃q,s.q=some q/\0<=I/\I+1<=(s.len:Int)/\aW g ⟨q.b,q.o+Int.toNat I*1⟩ [.bool e] K:=by
 subst lj;have aT:=A.len;simp only[aDF,aDL] at aT;obtain⟨q,aj⟩:=A.rd.ptr (by simp;omega);exact⟨q,aj,by omega,by omega,vy Rx A aj hi e λbw g_ iF=>ah bw g_ λb ar=>iF b (ar q aj)⟩
def h3 (l:List Nat):List Int:=l.map λx:Nat=>(x:Int)
theorem Ry (l:List Nat)(x:Nat):h3 l++[(x:Int)]=h3 (l++[x]):=by simp[h3]
theorem au6 {h:ak}{s:ao}{L:List (aE×Int)}(r:fR pr h s L)(aK:L.length<=1000000)(eg:∀x∈L,x.2<=1000)(fj:JK L) :
 aq 182 [aZ s] h λv af=>∃cE,v=aZ cE/\gX h af cE L.length (λi:Nat=>(i:Int))/\bL h af:=by
 have hlen:=r.len;obtain⟨jx,LD⟩:∃jx,jx=gF (L.map (·.2)):=⟨_,rfl⟩;have hle:jx<=L.length:=by rw[LD];have:=uE (L.map (·.2));simpa using this
 have so:∀i (hi:i<L.length),(L.map (·.2)).getD i 0=L[i].2:=λi hi=>by simp[List.getD,hi]
 have pos:∀i (hi:i<L.length),i<jx->0<=L[i].2:=λi hi cl=>by
  have:=JI (L.map (·.2)) i (by omega);rwa [so i hi] at this
 have adb:∀i (hi:i<L.length),L.getD i sn=L[i]:=λi hi=>by simp[List.getD,hi]
 have ord:∀i j (oR:i<=j) (aU:j<L.length),jY (L[i]'(by omega))<=jY L[j]:=λi j oR aU=>by
  have:=fj i j oR aU;rwa [adb i (by omega),adb j aU] at this
 have neg:∀i (hi:i<L.length),jx<=i->L[i].2<0:=λi hi LF=>by
  have h0:jx<L.length:=by omega
  have aa:=JH (L.map (·.2)) jx (by simpa using h0) LD;rw[so jx h0] at aa;have ad:=ord jx i LF hi;by_cases c:L[i].2<0
  .exact c
  .have:=UInt64.toNat_lt L[i].1;unfold jY at ad;rw[aDr aa,aDq c] at ad;have:(1000-L[i].2.toNat)<=1000:=by omega
   omega
 have au7:∀n i (LF:n<i) (hi:i<L.length),i<jx->(decide ((L[n]'(by omega)).2<L[i].2)||(decide (L[i].2=(L[n]'(by omega)).2)&&decide (L[i].1<(L[n]'(by omega)).1)))=false:=λn i LF hi oQ=>by
  have aa:=ord n i (by omega) hi;have ho:=pos i hi oQ;have iz:=pos n (by omega) (by omega);have q1:=eg _ (aDR hi);have aI:=eg _ (aDR (show n<L.length by omega));unfold jY at aa;rw[cS,cS] at aa;have lX:=UInt64.toNat_lt L[i].1;have r_:=UInt64.toNat_lt (L[n]'(by omega)).1;rw[aFj,Bool.and_eq_false_iff];refine⟨gT,?_⟩;by_cases c:L[i].2=(L[n]'(by omega)).2
  .right;apply aDz;rw[aEn];rw[c] at aa;omega
  .exact .inl (aDz c)
 clear ord fj;refine atN _ ?_;unfold acz;refine⟨by omega,by omega,by omega,by omega,bP λae aa f1 aH aD=>?_⟩;let kf:ao:=⟨some ⟨ae,0⟩,s.len,s.len,none⟩;have FC:m3 h aa kf s.len λ_=>false:=m3.zero f1 aH (by omega);refine⟨λdS fY gr g=>dS=s/\fY=kf/\m3 h g kf s.len (λx=>decide (x<jx))/\c4 eo h g gr (h3 (List.range jx))/\(∀q,gr.q=some q->q.b≠ae)/\bL h g,?_,?_⟩
 .refine⟨λs1 s2 bz ay g bW=>s1=s/\s2=kf/\∃n:Nat,ay=n/\n<=jx/\bW=s.len-n/\m3 h g kf s.len (λx=>decide (x<n))/\c4 eo h g bz (h3 (List.range n))/\(∀q,bz.q=some q->q.b≠ae)/\bL h g,
   ⟨s.len,rfl,rfl,0,rfl,by omega,rfl,by simpa using FC,c4.gy _ _ _,(λq aj=>by cases aj),aD⟩,?_⟩
  rintro s1 s2 bz ay g bW ⟨rfl,rfl,n,rfl,oc,rfl,fi,eM,sep,cY⟩;refine cj (λcl=>?_) λdH=>?_
  .have Hw:n<L.length:=by omega
   refine⟨λbZ cZ ck aA aL aO bw bW=>bZ=s1/\cZ=kf/\ck=bz/\aA=n/\bL g bw/\∃i:Nat,aO=i/\i<=s1.len/\bW=s1.len-i/\aL=(if n<i/\n<jx then (n:Int) else -1),
    ⟨s1.len,rfl,rfl,rfl,rfl,bL.refl _,0,rfl,by omega,rfl,by rw[cS]⟩,?_⟩
   rintro bZ cZ ck aA aL aO bw bW ⟨rfl,rfl,rfl,rfl,h9,i,rfl,hi,rfl,rfl⟩;have g_:m3 h bw kf bZ.len _:=fi.bA h9;have fk:=r.bA l3 (cY.trans h9);refine cj (λmE=>?_) λuw=>?_
   .have cb:i<L.length:=by omega
    refine g_.get (i:=i) (by omega) rfl λq _=>?_;by_cases c:i<n
    .rw[aDA c];exact b3 rfl ⟨bZ.len-(i+1),by omega,rfl,rfl,rfl,rfl,h9,i+1,bt,by omega,rfl,by rw[cS,cS]⟩
    .rw[aDz c];refine dF rfl (fk.cA l3 cb λaI _ tf=>⟨_,tf.2.1,?_⟩);by_cases ha:i<jx
     .refine dF (aDA (pos i cb ha)) ?_;by_cases ce:i=n
      .subst ce;rw[cS];exact dF rfl ⟨bZ.len-(i+1),by omega,rfl,rfl,rfl,rfl,h9,i+1,bt,by omega,rfl,by rw[eY]⟩
      .rw[eY];refine b3 (gT) (fk.cA l3 cb λbb _ oT=>⟨_,oT.1,_,oT.2.1,fk.cA l3 Hw λbH _ tC=>⟨_,tC.1,_,tC.2.1,(au5 L[i] L[n]).to λg2 aB=>⟨_,rfl,?_⟩⟩⟩);rw[au7 n i (by omega) cb ha];exact b3 rfl ⟨bZ.len-(i+1),by omega,rfl,rfl,rfl,rfl,h9.trans aB,i+1,bt,by omega,rfl,by rw[eY]⟩
     .refine b3 (aDz (by have:=neg i cb (by omega);omega)) ⟨bZ.len-(i+1),by omega,rfl,rfl,rfl,rfl,h9,i+1,bt,by omega,rfl,?_⟩;by_cases nO:n<jx
      .rw[eY,eY]
      .rw[cS,cS]
   .have cb:i=bZ.len:=by omega
    subst cb;by_cases nO:n<jx
    .rw[eY];refine b3 (gT) (g_.set (i:=n) (by omega) rfl true λg2 eS cg=>?_);have ft:c4 eo h g2 ck (h3 (List.range n)):=(eM.bA h9).move λq aj=>cg _ λdE eG=>by cases eG;exact sep q aj
     have nE:bL h g2:=λy aC=>by
      rw[cg y λq aj e=>by cases aj;exact aC (e▸f1)];exact(cY.trans h9) y aC
     refine Ct ft (λb ar=>nE.free ar) (n:Int) (by simp[h3];omega) λcE g3 lQ f3 sm aL=>⟨bZ.len-(n+1),by omega,rfl,rfl,n+1,bt,by omega,rfl,?_,?_,λdE eG=>?_,zR ft nE f3⟩
     .have e:(λx=>decide (x<n+1))=λx=>if x=n then true else decide (x<n):=by
       funext x;by_cases c:x=n
       .rw[aDr c];simp[c]
       .rw[aDq c,aDV];simp;omega
      rw[e];exact eS.move λq aj=>by cases aj;exact f3 _ (eS.bp (q:=⟨ae,0⟩) rfl).2 λdE eG e=>sep dE eG e.symm
     .rw[aDQ,<-Ry];exact lQ
     .rcases sm dE eG with ⟨q,aj,e⟩|ar
      .rw[e];exact sep q aj
      .exact λe=>(eS.bp (q:=⟨ae,0⟩) rfl).2 (e▸ar)
    .have:n=jx:=by omega
     subst this;rw[cS];exact dF rfl ⟨rfl,rfl,g_,eM.bA h9,sep,cY.trans h9⟩
  .have:n=jx:=by omega
   subst this;exact⟨rfl,rfl,fi,eM,sep,cY⟩
 .rintro dS fY gr g ⟨rfl,rfl,fi,eM,sep,cY⟩;refine⟨λs1 s2 bz ay g bW=>s1=dS/\s2=kf/\∃i:Nat,ay=i/\i<=dS.len/\bW=dS.len-i/\m3 h g kf dS.len (λx=>decide (x<jx))/\c4 eo h g bz (h3 (List.range (max jx i)))/\(∀q,bz.q=some q->q.b≠ae)/\bL h g,
   ⟨dS.len,rfl,rfl,0,rfl,by omega,rfl,fi,by rw[Nat.max_eq_left (by omega)];exact eM,sep,cY⟩,?_⟩
  rintro s1 s2 bz ay g2 bW ⟨rfl,rfl,i,rfl,hi,rfl,eS,ft,Rz,ti⟩;refine cj (λcl=>?_) λdH=>?_
  .refine eS.get (i:=i) (by omega) rfl λq _=>?_;by_cases c:i<jx
   .rw[aDA c];exact b3 rfl ⟨s1.len-(i+1),by omega,rfl,rfl,i+1,bt,by omega,rfl,eS,by rw[show max jx (i+1)=max jx i by omega];exact ft,Rz,ti⟩
   .rw[aDz c];refine dF rfl ?_;refine Ct ft (λb ar=>ti.free ar) (i:Int) (by simp[h3];omega) λcE g3 lQ f3 sm aL=>⟨s1.len-(i+1),by omega,rfl,rfl,i+1,bt,by omega,rfl,?_,?_,λdE eG=>?_,zR ft ti f3⟩
    .exact eS.move λq aj=>by cases aj;exact f3 _ (eS.bp (q:=⟨ae,0⟩) rfl).2 λdE eG e=>Rz dE eG e.symm
    .rw[show max jx (i+1)=i+1 by omega,aDQ,<-Ry];rw[show max jx i=i by omega] at lQ;exact lQ
    .rcases sm dE eG with ⟨q,aj,e⟩|ar
     .rw[e];exact Rz q aj
     .exact λe=>(eS.bp (q:=⟨ae,0⟩) rfl).2 (e▸ar)
  .have cb:i=s1.len:=by omega
   subst cb;rw[show max jx s1.len=L.length by omega] at ft;exact⟨_,rfl,WE.1 ft,ti⟩
theorem au8 {k s t:Nat}(o:vB k s t){h:ak}{x:ao}{L:List (aE×Int)}(r:fR pr h x L)(hlen:L.length=s*(k+1)+t+1)(eg:∀x∈L,x.2<=k)(fj:JK L) :
 aq 160 [.agg #[U k,U s,U t],aZ x] h λv af=>∃s1 s2,v= .tuple #[aZ s1,aZ s2]/\c4 eo h af s1 (h3 (lx k s t (L.map (·.2))))/\c4 eo h af s2 (h3 (lP k s t (L.map (·.2))))/\bL h af:=by
 have FG:=r.len;have os:=o.s;have WX:=o.t;have te:=o.d;have Cr:=zu os.1 os.2 te.1 te.2;have W8:((s*(k+1):Nat):Int)=(s:Int)*((k:Int)+1):=by simp
 have vS:L.length<=153:=by rw[hlen];omega
 have OM:∀y∈L,y.2<=1000:=λy aC=>by have:=eg y aC;omega
 generalize pR:L.map (·.2)=c9 at *;have qz:c9.length=L.length:=by rw[<-pR];simp
 have ub:=uE c9;have l2:uD k s t (hk k):=⟨by simp[hk],(show 0<s by omega),by simp[hk]⟩;have zY:=JL k s t c9 (hk k);generalize tg:iZ k s t c9 (hk k)=ops at *;have wf:=OE c9 (hk k) l2 (show -1<=(k:Int) by omega);have OG:∀i,i<gF c9->ops.getD i none=(iY k s t (l5 k s t c9 (hk k) i) (c9.getD i 0)).2:=λi hi=>by rw[<-tg];exact OC k s t c9 _ i hi
 have FH:∀i,gF c9<=i->ops.getD i none=none:=λi hi=>by rw[<-tg];exact W1 k s t c9 _ l2 hi
 obtain⟨i1,i2,_,_,_⟩:=FF c9 (hk k) l2;rw[tg] at i1 i2;have qw:=OH (n:=L.length) ops (by rw[zY,qz]) i2 λp aP=>by have:=(i1 p aP).2;omega
 have lL:lx k s t c9=i_ ops (qA L.length ops):=by unfold lx;rw[tg,qz]
 have FI:lP k s t c9=(List.range (gF c9)).filter λi=>ops.getD i none==none:=by unfold lP;rw[tg]
 have so:∀i (hi:i<L.length),c9.getD i 0=L[i].2:=λi hi=>by rw[<-pR];simp[List.getD,hi]
 have xV:ops.length=L.length:=by rw[zY,qz]
 rw[lL,FI];refine atk _ _ _ _ ?_;unfold acs;refine bP λae aa f1 aH aD=>kQ aH ?_;refine(RA o).to λad aB=>⟨_,rfl,b3 rfl (kQ (aB.get aH) ?_)⟩;refine(LG o).to λan aG=>⟨_,rfl,b3 (by rw[FG,hlen];simp) ⟨by omega,by omega,by omega,by omega,bP λax aJ f4 b6 bd=>⟨by omega,by omega,by omega,by omega,bP λaM aR f5 cG bF=>?_⟩⟩⟩;have jM:=(aD.trans (aB.trans aG)).trans (bd.trans bF);have f20:h ax=none:=(aD.trans (aB.trans aG)).free f4;have f30:h aM=none:=((aD.trans (aB.trans aG)).trans bd).free f5;refine(au6 (r.bA l3 jM) (by omega) OM fj).mono ?_;rintro _ bj ⟨FK,rfl,wg,uG⟩;have xK:=jM.trans uG;have rS:=uG.get ((aB.trans aG).trans (bd.trans bF) |>.get aH);have cU:ax≠ae:=λe=>by rw[e,(aB.trans aG).get aH] at f4;cases f4
 have n31:aM≠ae:=λe=>by rw[e,((aB.trans aG).trans bd).get aH] at f5;cases f5
 have n32:aM≠ax:=λe=>by rw[e,b6] at f5;cases f5
 have JM:=wg.len;simp only[aDF,aDL] at JM;obtain⟨qt,rr⟩:=wg.rd.ptr (by simp;omega);have th:=(wg.bp rr).1;have aCH:qt.b≠ae:=λe=>by rw[e,((aB.trans aG).trans (bd.trans bF)).get aH] at th;cases th
 have JN:qt.b≠ax:=λe=>by rw[e,bF.get b6] at th;cases th
 have au9:qt.b≠aM:=λe=>by rw[e,cG] at th;cases th
 let sp:ao:=⟨some ⟨ax,0⟩,L.length,L.length,none⟩;let cO:ao:=⟨some ⟨aM,0⟩,L.length,L.length,none⟩;have au_:gX h bj sp L.length λ_=>0:=(gX.zero f20 b6 (by omega)).bA (bF.trans uG);have ava:m3 h bj cO L.length λ_=>false:=(m3.zero f30 cG (by omega)).bA uG;let vg:Nat->List Nat:=λi=>(List.range i).filter λi=>ops.getD i none==none;have bc:∀i,vg (i+1)=vg i++if ops.getD i none=none then [i] else []:=λi=>by
  show(List.range (i+1)).filter _=_;rw[aDQ,aFu];congr 1;rw[List.filter_cons,List.filter_nil];cases a1:ops.getD i none<;>rfl
 have avb:∀i,(vg i).length<=i:=λi=>by
  have:=aEQ (λi=>ops.getD i none==none) (List.range i)
  rwa [aDL] at this
 let Sep:ao->Prop:=λlo=>∀q,lo.q=some q->q.b≠ae/\q.b≠ax/\q.b≠aM/\q.b≠qt.b;let W:Nat->Nat->ao->ak->Prop:=λi j lo g=>bL h g/\g ae=bj ae/\gX h g sp L.length (λy=>if y<i then hB (ops.getD y none) else -1)/\m3 h g cO L.length (λy=>(ops.take i).contains (some y))/\c4 eo h g lo (h3 (vg j))/\Sep lo/\gX aR g FK L.length λy:Nat=>(y:Int);rw[FG];refine⟨_,rfl,_,az rS rfl,λs2 q1 bz bZ cZ ca cF cL ck cd g bW=>s2=x/\q1=⟨ae,0⟩/\bz=sp/\bZ=cO/\cZ=FK/\ca=(k:Nat)/\cF=0/\cL=0/\ck=⟨none,0,0,none⟩/\∃i:Nat,cd=i/\i<=L.length/\bW=L.length-i/\gX h g sp L.length (λy=>if y<i then -1 else 0)/\∀y,y≠ax->g y=bj y,
  ⟨L.length,rfl,rfl,rfl,rfl,rfl,rfl,rfl,rfl,rfl,0,rfl,by omega,rfl,by simpa using au_,λ_ _=>rfl⟩,?_⟩
 rintro s2 q1 bz bZ cZ ca cF cL ck cd g bW ⟨rfl,rfl,rfl,rfl,rfl,rfl,rfl,rfl,rfl,i,rfl,hi,rfl,kF,ib⟩;refine cj (λcl=>?_) λdH=>?_
 .refine kF.set (i:=i) (by omega) rfl (-1) λg2 eS cg=>⟨L.length-(i+1),by omega,rfl,rfl,rfl,rfl,rfl,rfl,rfl,rfl,rfl,i+1,bt,by omega,rfl,?_,λy aC=>(cg y λq aj e=>aC (by cases aj;exact e)).trans (ib y aC)⟩;have e:(λx:Nat=>if x=i then (-1:Int) else if x<i then -1 else 0)=λx=>if x<i+1 then -1 else 0:=by
   funext x;repeat' split
   all_goals first|rfl|omega
  rw[e] at eS;exact eS
 have cb:i=L.length:=by omega
 subst cb;have RB:W 0 0 ⟨none,0,0,none⟩ g:=by
  refine⟨λy aC=>(ib y λe=>aC (e▸f20)).trans (xK y aC),ib ae (aDC cU),?_,?_,c4.gy _ _ _,(λq aj=>by cases aj),wg.move λq aj=>by rw[rr] at aj;cases aj;exact ib _ JN⟩
  .have e:(List.range L.length).map (λx:Nat=>if x<L.length then (-1:Int) else 0)=(List.range L.length).map λx:Nat=>if x<0 then hB (ops.getD x none) else -1:=aDU λx ai=>by rw[aDr (aDT.1 ai),cS]
   have RC:=kF;unfold gX at RC;rw[e] at RC;exact RC
  .have e:(λy:Nat=>(ops.take 0).contains (some y))=λ_=>false:=by funext y;simp
   rw[e];exact ava.move λq aj=>by cases aj;exact ib _ n32
 clear kF ib;refine⟨λdV dS fY hs g=>dV=s2/\dS=sp/\fY=cO/\bL h g/\gX h g sp L.length (λy=>hB (ops.getD y none))/\m3 h g cO L.length (λy=>ops.contains (some y))/\c4 eo h g hs (h3 (vg (gF c9)))/\Sep hs,?_,?_⟩
 .refine⟨λdV bb dS fY gr cJ db dr hs dj g bW=>dV=s2/\bb=⟨ae,0⟩/\dS=sp/\fY=cO/\gr=cZ/\∃i:Nat,dj=i/\i<=gF c9/\bW=L.length-i/\cJ=(l5 k s t c9 (hk k) i).bV/\db=((l5 k s t c9 (hk k) i).on:Nat)/\dr=((l5 k s t c9 (hk k) i).st:Nat)/\W i i hs g,
   ⟨L.length,rfl,rfl,rfl,rfl,rfl,0,rfl,by omega,rfl,rfl,rfl,rfl,RB⟩,?_⟩
  clear RB;rintro dV bb dS fY gr cJ db dr hs dj g bW ⟨rfl,rfl,rfl,rfl,rfl,i,rfl,hi,rfl,rfl,rfl,rfl,cY,rT,kF,iC,qa,sep,qU⟩;have done:i=gF c9->dV=dV/\sp=sp/\cO=cO/\bL h g/\gX h g sp L.length (λy=>hB (ops.getD y none))/\m3 h g cO L.length (λy=>ops.contains (some y))/\c4 eo h g hs (h3 (vg (gF c9)))/\Sep hs:=λhO=>by
   have aH:(λy=>if y<i then hB (ops.getD y none) else -1)=λy=>hB (ops.getD y none):=by
    funext y;by_cases c:y<i
    .rw[aDr c]
    .rw[aDq c,FH y (by omega)];rfl
   have oS:(λy:Nat=>(ops.take i).contains (some y))=λy:Nat=>ops.contains (some y):=by
    funext y;rw[aDV];simp only[List.contains_eq_mem,aEJ];constructor
    .exact λh=>List.mem_of_mem_take h
    .intro hm
     obtain⟨j,aU,e⟩:=aEh hm;have OO:j<i:=by
      rcases aDZ j i with c|c
      .exact c
      .have:=FH j (by omega);simp[List.getD,aU,e] at this
     rw[<-e];exact aFK.2 ⟨j,by omega,rfl⟩
   exact⟨rfl,rfl,rfl,cY,aH▸kF,oS▸iC,hO▸qa,sep⟩
  have rg:=r.bA l3 cY;have A0:=rT.trans rS;refine cj (λcl=>?_) λdH=>done (by omega);have ir:i<L.length:=by omega
  refine qU.get ir rfl λq _=>rg.cA l3 ir λaI _ tf=>⟨_,tf.2.1,?_⟩;by_cases aP:0<=L[i].2
  rotate_left
  .refine b3 (aDz aP) (done ?_);rcases aDZ i (gF c9) with c|c
   .have:=JI c9 i c;rw[so i ir] at this;omega
   .omega
  have hO:i<gF c9:=by
   rcases aDZ i (gF c9) with c|c
   .exact c
   .have:=JH c9 i (by omega) (by omega);rw[so i ir] at this;omega
  refine dF (aDA aP) ?_;have mi:=OG i hO;rw[so i ir] at mi;have kB:l5 k s t c9 (hk k) (i+1)=(iY k s t (l5 k s t c9 (hk k) i) L[i].2).1:=by
   show(iY k s t (l5 k s t c9 (hk k) i) (c9.getD i 0)).1=_;rw[so i ir]
  obtain⟨ta,wl⟩:=wf i hi;have aCI:=ta.bV;have aCJ:=ta.on;have aCK:=ta.st;have ade:=eg _ (aDR ir);generalize l5 k s t c9 (hk k) i=X at *;generalize b4:L[i].2=d at *;obtain⟨tN,l4⟩:∃l,l=if d<X.bV then d else X.bV:=⟨_,rfl⟩
  obtain⟨sC,jR⟩:∃l,l=if d<X.bV then 0 else X.on:=⟨_,rfl⟩
  have fA:iY k s t X d=(if tN<0 then (if X.st=t then (⟨tN,sC,X.st⟩,none) else (⟨tN,sC,X.st+1⟩,some (s*(k+1)+X.st))) else (if sC+1=s then ⟨tN-1,0,X.st⟩ else ⟨tN,sC+1,X.st⟩,some (tN.toNat*s+sC))):=by rw[l4,jR];rfl
  have aCL:tN<=k:=by rw[l4];split<;>omega
  have aCM:sC<s:=by rw[jR];split<;>omega
  refine⟨λgJ eV iB mD ot ey eT n25 l7 n26 bw=>gJ=dV/\eV=⟨ae,0⟩/\iB=sp/\mD=cO/\ot=gr/\ey=tN/\eT=(sC:Nat)/\n25=(X.st:Nat)/\l7=hs/\n26=(i:Nat)/\bw=g,?_,?_⟩
  .refine qU.get ir rfl λq _=>rg.cA l3 ir λaI _ tf=>⟨_,tf.2.1,?_⟩;rw[b4];refine cj (λc=>?_) λc=>?_
   .refine qU.get ir rfl λq _=>rg.cA l3 ir λaI _ tf=>⟨_,tf.2.1,?_⟩;rw[b4];exact⟨rfl,rfl,rfl,rfl,rfl,by rw[l4,aDr c],by rw[jR,aDr c];rfl,rfl,rfl,rfl,rfl⟩
   .exact⟨rfl,rfl,rfl,rfl,rfl,by rw[l4,aDq c],by rw[jR,aDq c],rfl,rfl,rfl,rfl⟩
  rintro gJ eV iB mD ot ey eT n25 l7 n26 bw ⟨rfl,rfl,rfl,rfl,rfl,rfl,rfl,rfl,rfl,rfl,rfl⟩;refine⟨λqC hn oU yA yB n33 n34 n35 DJ n36 n37 g=>qC=gJ/\hn=⟨ae,0⟩/\oU=sp/\yA=cO/\yB=ot/\n33=(iY k s t X d).1.bV/\n34=((iY k s t X d).1.on:Nat)/\n35=((iY k s t X d).1.st:Nat)/\n36=(i:Nat)/\n37=hB (ops.getD i none)/\W i (i+1) DJ g,?_,?_⟩
  .have adf:ops.getD i none≠none->vg (i+1)=vg i:=λdA=>by rw[bc i,aDq dA,aD5]
   by_cases k_:ey<0
   .rw[aDr k_] at fA;refine b3 (gT) ⟨_,az A0 rfl,?_⟩;by_cases adg:X.st=t
    .rw[aDr adg] at fA;rw[fA] at mi;refine b3 (gT) (qU.get ir rfl λq _=>Ct qa (λb ar=>cY.free ar) (i:Int) (by have:=avb i;simp[h3];omega) λcE g4 jv uH uI akM=>?_);have off:∀y,bw y≠none->(∀q,l7.q=some q->y≠q.b)->g4 y=bw y:=uH;have avc:=off ae (by rw[A0];simp) λq aj e=>(sep q aj).1 e.symm;have avd:=off ax (kF.bp (q:=⟨ax,0⟩) rfl).2 λq aj e=>(sep q aj).2.1 e.symm;have ave:=off aM (iC.bp (q:=⟨aM,0⟩) rfl).2 λq aj e=>(sep q aj).2.2.1 e.symm;have avf:=off qt.b (qU.bp rr).2 λq aj e=>(sep q aj).2.2.2 e.symm;refine⟨rfl,rfl,rfl,rfl,rfl,by rw[fA],by rw[fA],by rw[fA],rfl,by rw[mi];rfl,zR qa cY uH,avc.trans rT,kF.move λq aj=>(by cases aj;exact avd),iC.move λq aj=>(by cases aj;exact ave),?_,λdE eG=>?_,qU.move λq aj=>(by rw[rr] at aj;cases aj;exact avf)⟩
     .rw[bc i,aDr mi,<-Ry];exact jv
     .rcases uI dE eG with ⟨q,aj,e⟩|aK
      .rw[e];exact sep q aj
      .refine⟨λe=>?_,λe=>?_,λe=>?_,λe=>?_⟩
       .rw[e,A0] at aK;cases aK
       .exact(kF.bp (q:=⟨ax,0⟩) rfl).2 (e▸aK)
       .exact(iC.bp (q:=⟨aM,0⟩) rfl).2 (e▸aK)
       .exact(qU.bp rr).2 (e▸aK)
    .rw[aDq adg] at fA;rw[fA] at mi;refine dF (pa) ⟨_,az A0 rfl,_,az A0 rfl,rfl,rfl,rfl,rfl,rfl,by rw[fA],by rw[fA],?_,rfl,?_,cY,rT,kF,iC,by rw[adf (by rw[mi];simp)];exact qa,sep,qU⟩
     .rw[fA,bt];simp
     .rw[mi,bt (n:=(k:Int)+1),<-W8,iK (n:=((s*(k+1):Nat):Int)) (by omega) (by omega),bt];show _=((s*(k+1)+X.st:Nat):Int);omega
   .rw[aDq k_] at fA;have adh:ops.getD i none=some (ey.toNat*s+sC):=by rw[mi,fA]
    have aCN:ey.toNat*s<=10*8:=aDP (by omega) (by omega);have avg:al (al (ey*(s:Int))+(sC:Nat))=hB (ops.getD i none):=by
     have aH:ey*(s:Int)=((ey.toNat*s:Nat):Int):=by rw[aEA];congr 1;omega
     rw[adh,aH,iK (n:=((ey.toNat*s:Nat):Int)) (by omega) (by omega),bt];show _=((ey.toNat*s+sC:Nat):Int);omega
    have adi:c4 eo h bw l7 (h3 (vg (i+1))):=by rw[adf (by rw[adh];simp)];exact qa
    refine dF (pa) ⟨_,az A0 rfl,_,az A0 rfl,?_⟩;rw[avg,iK (n:=((sC:Nat):Int)+1) (by omega) (by omega)];by_cases aV:sC+1=s
    .rw[aDr aV] at fA;refine dF (pa) ⟨rfl,rfl,rfl,rfl,rfl,by rw[fA,bt],by rw[fA];rfl,by rw[fA],rfl,rfl,cY,rT,kF,iC,adi,sep,qU⟩
    .rw[aDq aV] at fA;refine b3 (gT) ⟨rfl,rfl,rfl,rfl,rfl,by rw[fA],by rw[fA];simp,by rw[fA],rfl,rfl,cY,rT,kF,iC,adi,sep,qU⟩
  rintro qC hn oU yA yB n33 n34 n35 DJ n36 n37 g ⟨rfl,rfl,rfl,rfl,rfl,rfl,rfl,rfl,rfl,rfl,cY,rT,kF,iC,qa,sep,qU⟩;rw[<-kB];have sq:i<ops.length:=by rw[xV];exact ir
  have bG:ops.take (i+1)=ops.take i++[ops.getD i none]:=by
   rw[aEl,aDx sq];simp[List.getD,sq]
  cases a1:ops.getD i none with
  | none =>
   refine b3 (aDz (by simp[hB])) ⟨L.length-(i+1),by omega,rfl,rfl,rfl,rfl,rfl,i+1,bt,by omega,rfl,rfl,rfl,rfl,cY,rT,?_,?_,qa,sep,qU⟩
   .have e:(λy=>if y<i+1 then hB (ops.getD y none) else -1)=λy=>if y<i then hB (ops.getD y none) else -1:=by
     funext y;by_cases c:y<i
     .rw[aDr c,eY]
     .rw[aDq c];by_cases cr:y=i
      .rw[eY,cr,a1];rfl
      .rw[cS]
    rw[e];exact kF
   .have e:(λy:Nat=>(ops.take (i+1)).contains (some y))=λy:Nat=>(ops.take i).contains (some y):=by
     funext y;rw[bG,a1];simp
    rw[e];exact iC
  | some p =>
   have KK:p<L.length:=by
    have:=(i1 p (by
     have:ops[i]=some p:=by simpa [List.getD,sq] using a1
     rw[<-this];exact aDR sq)).2;omega
   refine dF (aDA (by simp only[hB];omega)) (qU.get ir rfl λq _=>kF.set (i:=i) ir rfl (p:Int) λg4 hP dq=>?_);refine m3.set (iC.move (af:=g4) λq aj=>dq _ λdE eG=>by cases aj;cases eG;exact n32) (i:=p) KK rfl true λg5 jZ cz=>?_;have ib:∀y,y≠ax->y≠aM->g5 y=g y:=λy aa ad=>(cz y λq aj=>by cases aj;exact ad).trans (dq y λq aj=>by cases aj;exact aa);refine⟨L.length-(i+1),by omega,rfl,rfl,rfl,rfl,rfl,i+1,bt,by omega,rfl,rfl,rfl,rfl,λy aC=>?_,(ib ae (aDC cU) (aDC n31)).trans rT,?_,?_,qa.move λq aj=>ib _ (sep q aj).2.1 (sep q aj).2.2.1,sep,qU.move λq aj=>by rw[rr] at aj;cases aj;exact ib _ JN au9⟩
   .rw[ib y (λe=>aC (e▸f20)) (λe=>aC (e▸f30))];exact cY y aC
   .have e:(λy=>if y<i+1 then hB (ops.getD y none) else -1)=λy=>if y=i then (p:Int) else if y<i then hB (ops.getD y none) else -1:=by
     funext y;by_cases cr:y=i
     .rw[eY,aDr cr,cr,a1];rfl
     .rw[aDq cr];by_cases c:y<i
      .rw[aDr c,eY]
      .rw[aDq c,cS]
    rw[e];exact hP.move λq aj=>cz _ λdE eG=>by cases eG;cases aj;exact aDC n32
   .have e:(λy:Nat=>(ops.take (i+1)).contains (some y))=λy:Nat=>if y=p then true else (ops.take i).contains (some y):=by
     funext y;rw[bG,a1];by_cases c:y=p
     .simp[c]
     .simp[c]
    rw[e];exact jZ
 rintro Ll Rc Rd Ax g ⟨rfl,rfl,rfl,cY,kF,iC,qa,sep⟩;clear RB;generalize jL:qA L.length ops=hb at *;let rU:Nat->Nat->Bool:=λc y=>ops.contains (some y)||decide (y∈hb.take c);refine⟨λyC w0 DK yD n39 n40 g bW=>yC=Ll/\w0=sp/\DK=cO/\yD=Ax/\∃i m:Nat,n40=i/\n39=m/\i<=L.length/\bW=L.length-i/\bL h g/\gX h g sp L.length (λy=>if y<i then ((i_ ops hb).getD y 0:Nat) else hB (ops.getD y none))/\m3 h g cO L.length (rU (je (ops.take i)))/\c4 eo h g Ax (h3 (vg (gF c9)))/\m<=L.length/\∀y,y<m->rU (je (ops.take i)) y=true,
  ⟨L.length,rfl,rfl,rfl,rfl,0,0,rfl,rfl,by omega,rfl,cY,by simpa using kF,?_,qa,by omega,λy aC=>absurd aC (by omega)⟩,?_⟩
 .have e:rU (je (ops.take 0))=λy:Nat=>ops.contains (some y):=by funext y;simp[rU,je]
  rw[e];exact iC
 clear kF iC qa cY;rintro yC w0 DK yD n39 n40 g bW ⟨rfl,rfl,rfl,rfl,i,m,rfl,rfl,hi,rfl,cY,kF,iC,qa,avh,oP⟩;refine cj (λcl=>?_) λdH=>?_
 .have ir:i<L.length:=by omega
  have sQ:=JJ ops hb i (by rw[xV];exact ir);have pT:=W3 ops (i:=i) (by rw[xV];exact ir);refine kF.get ir rfl λq _=>?_;rw[aDq (Nat.lt_irrefl i)];cases a1:ops.getD i none with
  | none =>
   rw[a1] at sQ pT;rw[aDr rfl] at pT;have hle:=W4 ops (i+1);have mE:je (ops.take i)<hb.length:=by omega
   generalize je (ops.take i)=c at *;refine b3 (aDz (by simp[hB])) ?_;refine⟨λDL yE vd DM n42 n43 bw bW=>DL=yC/\yE=sp/\vd=cO/\DM=yD/\n43=(i:Nat)/\bw=g/\∃m:Nat,n42=m/\bW=L.length-m/\∀y,y<m->rU c y=true,
    ⟨L.length-m,rfl,rfl,rfl,rfl,rfl,rfl,m,rfl,rfl,oP⟩,?_⟩
   rintro DL yE vd DM n42 n43 bw bW ⟨rfl,rfl,rfl,rfl,rfl,rfl,m,rfl,rfl,oP⟩;obtain⟨aa,ad,an⟩:=au2 jL mE oP;refine iC.get (i:=m) (by omega) rfl λq _=>?_;cases J4:rU c m with
   | true =>
    refine dF rfl ⟨L.length-(m+1),by omega,rfl,rfl,rfl,rfl,rfl,rfl,m+1,bt,rfl,λy aC=>?_⟩;by_cases e:y=m
    .rw[e];exact J4
    .exact oP y (by omega)
   | false =>
    have hm:m=hb[c]:=ad J4;refine b3 rfl (kF.set (i:=i) ir rfl (m:Int) λg4 hP dq=>?_);refine m3.set (iC.move (af:=g4) λq aj=>dq _ λdE eG=>by cases aj;cases eG;exact n32) (i:=m) (by omega) rfl true λg5 jZ cz=>?_;have ib:∀y,y≠ax->y≠aM->g5 y=bw y:=λy aa ad=>(cz y λq aj=>by cases aj;exact ad).trans (dq y λq aj=>by cases aj;exact aa);have adj:∀y,rU (c+1) y=if y=m then true else rU c y:=λy=>by
     show(ops.contains (some y)||decide (y∈hb.take (c+1)))=_;rw[aEl,aDx mE];by_cases e:y=m
     .rw[aDr e,e,hm,aDA (List.mem_append_right _ (by simp)),Bool.or_true]
     .rw[aDq e];show _=(ops.contains (some y)||decide (y∈hb.take c));congr 1;rw[aDV,aFa,aFa,aDO];constructor
      .rintro (h|h)
       .exact h
       .exact absurd (by simpa using h) (hm▸e)
      .exact .inl
    refine⟨L.length-(i+1),by omega,rfl,rfl,rfl,rfl,i+1,m,bt,rfl,by omega,rfl,λy aC=>?_,?_,?_,qa.move λq aj=>ib _ (sep q aj).2.1 (sep q aj).2.2.1,by omega,λy aC=>?_⟩
    .rw[ib y (λe=>aC (e▸f20)) (λe=>aC (e▸f30))];exact cY y aC
    .have e:(λy=>if y<i+1 then (((i_ ops hb).getD y 0:Nat):Int) else hB (ops.getD y none))=λy=>if y=i then (m:Int) else if y<i then (((i_ ops hb).getD y 0:Nat):Int) else hB (ops.getD y none):=by
      funext y;by_cases cr:y=i
      .rw[eY,aDr cr,cr,sQ,hm];simp[List.getD,mE]
      .rw[aDq cr];by_cases c:y<i
       .rw[aDr c,eY]
       .rw[aDq c,cS]
     rw[e];exact hP.move λq aj=>cz _ λdE eG=>by cases eG;cases aj;exact aDC n32
    .rw[pT];have e:rU (c+1)=λy=>if y=m then true else rU c y:=funext adj
     rw[e];exact jZ
    .rw[pT,adj y];by_cases e:y=m
     .rw[aDr e]
     .rw[aDq e];exact oP y aC
  | some p =>
   rw[a1] at sQ pT;rw[aDq (by simp),aEe] at pT;refine dF (aDA (by simp only[hB];omega)) ⟨L.length-(i+1),by omega,rfl,rfl,rfl,rfl,i+1,m,bt,rfl,by omega,rfl,cY,?_,by rw[pT];exact iC,qa,avh,by rw[pT];exact oP⟩;have e:(λy=>if y<i+1 then (((i_ ops hb).getD y 0:Nat):Int) else hB (ops.getD y none))=λy=>if y<i then (((i_ ops hb).getD y 0:Nat):Int) else hB (ops.getD y none):=by
    funext y;by_cases c:y<i
    .rw[aDr c,eY]
    .rw[aDq c];by_cases cr:y=i
     .rw[eY,cr,sQ,a1];rfl
     .rw[cS]
   rw[e];exact kF
 .have ir:i=L.length:=by omega
  subst ir;refine⟨_,_,rfl,?_,qa,cY⟩;have e:(List.range L.length).map (λy=>if y<L.length then (((i_ ops hb).getD y 0:Nat):Int) else hB (ops.getD y none))=(i_ ops hb).map λp:Nat=>(p:Int):=by
   apply aEG
   .simp[FP,xV]
   .intro j av aN
    have aU:j<L.length:=by simpa using av
    have uC:j<(i_ ops hb).length:=by simpa using aN
    simp[aU,List.getD,uC]
  have:=kF.Co;rw[e] at this;exact this

import Derived.Test.YtegdpmgnhnccaaaGreatArr
namespace Go.Proofs.Tryz
open Go Go.cQ Go.RowKit
set_option maxRecDepth 8000
structure Row where
 key:a8
 id:a8
 deep:Int
def uZ (e:Row):List Value:=[ak e.key,ak e.id,U e.deep]
theorem r5 (e:Row):(uZ e).length=3:=rfl
theorem adQ (e:Row):∀v∈uZ e,v.oneCell'=true:=by simp[uZ,ak,Value.oneCell']
def y9 (e:Row):Value:= .agg #[ak (e.key),ak (e.id),U (e.deep)]
section
variable {s:an} {n:Nat} {h0:ai} {D:Nat->Prop} {v:Value} {key:Row->Nat} {P:Row->Prop}
abbrev gy (g:ai)(s:an)(n:Nat)(d:Nat->Row):Prop:=cI 3 uZ kf g s ((List.range n).map d)
theorem HA (C:pR prog D h0 v y9 key P){g:ai}{d:Nat->Row}(A:gy g s n d)(O:db D h0 g)(hZ:∀x,x<n->P (d x)){i j:Nat}(hi:i<n)(aL:j<n){I J:Int}(jI:I=i)(ya:J=j){K:Int->ai->Prop}
 (ab:∀m bg,(m<0↔key (d i)<key (d j))->bB g bg->K m bg) :
 ∃q1,s.q=some q1/\0<=I/\I+1<=(s.len:Int)/\∃bO:a8,bR g q1.b (q1.o+Int.toNat I*3)=some (ak (bO))/\∃lP:a8,bR g q1.b (q1.o+Int.toNat I*3+1)=some (ak (lP))/\∃ax:Int,bR g q1.b (q1.o+Int.toNat I*3+1+1)=some (U (ax))/\∃aP,s.q=some aP/\0<=J/\J+1<=(s.len:Int)/\∃ca:a8,bR g aP.b (aP.o+Int.toNat J*3)=some (ak (ca))/\∃kj:a8,bR g aP.b (aP.o+Int.toNat J*3+1)=some (ak (kj))/\∃ay:Int,bR g aP.b (aP.o+Int.toNat J*3+1+1)=some (U (ay))/\fo prog v [.agg #[ak (bO),ak (lP),U (ax)],.agg #[ak (ca),ak (kj),U (ay)]] g λr bg=>∃m,r=U m/\K m bg:=by
 subst jI;subst ya;refine A.rd.e0 r5 (i:=i) (by simpa using hi) λq1 _ ev=>?_;rw[pQ hi] at ev;obtain⟨a0,ar,aN,_⟩:=ev;refine⟨_,a0,_,ar,_,aN,?_⟩;refine A.rd.e0 r5 (i:=j) (by simpa using aL) λaP _ e5=>?_;rw[pQ aL] at e5;obtain⟨fW,aj,aB,_⟩:=e5;refine⟨_,fW,_,aj,_,aB,?_⟩;refine(C g O (d i) (d j) (hZ i hi) (hZ j aL)).mono ?_;rintro _ bg ⟨m,rfl,hm,cv⟩;exact⟨m,rfl,ab m bg hm cv⟩
theorem HB {g:ai}{d:Nat->Row}(A:gy g s n d)(ew:∀q,s.q=some q->D q.b){i j:Nat}(hi:i<n)(aL:j<n){I J:Int}(jI:I=i)(ya:J=j){K:ai->Prop}
 (ab:∀bg,gy bg s n (dG d i j)->db D g bg->K bg) :
 ∃q1,s.q=some q1/\0<=I/\I+1<=(s.len:Int)/\∃bO:a8,bR g q1.b (q1.o+Int.toNat I*3)=some (ak (bO))/\∃lP:a8,bR g q1.b (q1.o+Int.toNat I*3+1)=some (ak (lP))/\∃ax:Int,bR g q1.b (q1.o+Int.toNat I*3+1+1)=some (U (ax))/\∃aP,s.q=some aP/\0<=J/\J+1<=(s.len:Int)/\∃ca:a8,bR g aP.b (aP.o+Int.toNat J*3)=some (ak (ca))/\∃kj:a8,bR g aP.b (aP.o+Int.toNat J*3+1)=some (ak (kj))/\∃ay:Int,bR g aP.b (aP.o+Int.toNat J*3+1+1)=some (U (ay))/\∃bs,s.q=some bs/\0<=J/\J+1<=(s.len:Int)/\a1 g ⟨bs.b,bs.o+Int.toNat J*3⟩ [ak (bO),ak (lP),U (ax)] λg2=>∃bJ,s.q=some bJ/\0<=I/\I+1<=(s.len:Int)/\a1 g2 ⟨bJ.b,bJ.o+Int.toNat I*3⟩ [ak (ca),ak (kj),U (ay)] K:=by
 subst jI;subst ya;refine A.rd.e0 r5 (i:=i) (by simpa using hi) λq1 p1 ev=>?_;rw[pQ hi] at ev;obtain⟨a0,ar,aN,_⟩:=ev;refine⟨_,a0,_,ar,_,aN,?_⟩;refine A.rd.e0 r5 (i:=j) (by simpa using aL) λaP yb e5=>?_;rw[pQ aL] at e5;obtain⟨fW,aj,aB,_⟩:=e5;refine⟨_,fW,_,aj,_,aB,?_⟩;have aO:=A.len;simp only[ath,atj] at aO;refine⟨aP,yb,by omega,by omega,?_⟩;refine sN r5 A yb aL (d i) λg2 dn cU=>?_;refine⟨q1,p1,by omega,by omega,?_⟩;refine sN r5 dn p1 hi (d j) λg3 im c9=>?_;refine ab g3 ?_ λb au aH=>?_
 .have e:(λx=>if x=i then d j else if x=j then d i else d x)=dG d i j:=rfl;rw[<-e];exact im
 .have gA:∀q,s.q=some q->b≠q.b:=λq ah e=>aH (e▸ew q ah);rw[c9 b (gA q1 p1),cU b (gA aP yb)]
theorem N9 (ew:∀q,s.q=some q->D q.b)(aH:n<=1000000000000){g:ai}{d:Nat->Row}(A:gy g s n d){a b c:Nat}(aa:a+c<=b)(ad:b+c<=n) :
 aw 218 [aU s,U a,U b,U c,v] g λr bg=>r= .tuple #[]/\gy bg s n (iW d a b c)/\db D g bg/\∀lo hi,lo<=a->b+c<=hi->cW lo hi d (iW d a b c):=by
 refine akv _ _ _ _ _ ?_;unfold Vw;refine⟨λs1 ax ay aI aQ g1 bI=>s1=s/\ax=(a:Nat)/\ay=(b:Nat)/\aI=(c:Nat)/\∃i:Nat,aQ=i/\i<=c/\bI=c-i/\gy g1 s n (iW d a b i)/\db D g g1/\∀lo hi,lo<=a->b+c<=hi->cW lo hi d (iW d a b i),
  ⟨c,rfl,rfl,rfl,rfl,0,rfl,by omega,rfl,by rw[Fs];exact A,db.refl _ _,λlo hi _ _=>by rw[Fs];exact cW.refl _ _ _⟩,?_⟩
 rintro s1 ax ay aI aQ g1 bI ⟨rfl,rfl,rfl,rfl,i,rfl,hi,rfl,eb,dZ,iM⟩;refine b6 (λb1=>?_) λc3=>?_
 .refine HB eb ew (i:=b+i) (j:=a+i) (by omega) (by omega) (by rw[bl];omega) (by rw[bl];omega) λg2 dn cU=>?_;have e:dG (iW d a b i) (b+i) (a+i)=iW d a b (i+1):=by rw[ur];exact Sl (by omega)
  refine⟨c-(i+1),by omega,rfl,rfl,rfl,rfl,i+1,bl,by omega,rfl,e▸dn,dZ.trans cU,λlo hi x y=>?_⟩;exact(iM lo hi x y).trans (e▸cW.dG _ (by omega) (by omega))
 .have:i=c:=by omega
  subst this;exact⟨rfl,eb,dZ,iM⟩
theorem aqx (ew:∀q,s.q=some q->D q.b)(aH:n<=1000000000000){g:ai}{d:Nat->Row}(A:gy g s n d){a m b:Nat}(aa:a<m)(ad:m<b)(aq:b<=n) :
 aw 213 [aU s,U a,U m,U b,v] g λr bg=>r= .tuple #[]/\gy bg s n (gj d a m b)/\db D g bg/\cW a b d (gj d a m b):=by
 refine ako _ _ _ _ _ ?_;unfold Vu;refine⟨λs1 ax v1 ay aI g1 bI=>s1=s/\ax=(m:Nat)/\v1=v/\∃i j e,ay=(i:Nat)/\aI=(j:Nat)/\0<i/\0<j/\i<=m-a/\j<=b-m/\bI=i+j/\gy g1 s n e/\db D g g1/\cW a b d e/\gj e (m-i) m (m+j)=gj d a m b,
  ⟨(m-a)+(b-m),rfl,rfl,rfl,m-a,b-m,d,by rw[bl];omega,by rw[bl];omega,by omega,by omega,as_ _,as_ _,rfl,A,db.refl _ _,cW.refl _ _ _,by rw[show m-(m-a)=a by omega,show m+(b-m)=b by omega]⟩,?_⟩
 rintro s1 ax v1 ay aI g1 bI ⟨rfl,rfl,rfl,i,j,e,rfl,rfl,mB,sT,hi,aL,rfl,eb,dZ,iM,dE⟩;refine mw (λcX=>?_) λheq=>?_
 .refine b6 (λb1=>?_) λc3=>?_
  .rw[show al ((m:Int)-i)=((m-i:Nat):Int) by rw[bl];omega];refine(N9 ew aH eb (a:=m-i) (b:=m) (c:=j) (by omega) (by omega)).mono ?_;rintro _ g2 ⟨rfl,dn,eR,gx⟩;refine⟨rfl,(i-j)+j,by omega,rfl,rfl,rfl,i-j,j,_,by rw[bl];omega,rfl,by omega,sT,by omega,aL,rfl,dn,dZ.trans eR,iM.trans (gx a b (by omega) (by omega)),?_⟩;rw[Sn (by omega) (by omega),dE]
  .rw[show al ((m:Int)-i)=((m-i:Nat):Int) by rw[bl];omega,show al (al ((m:Int)+j)-i)=((m+j-i:Nat):Int) by rw[bl (n:=(m:Int)+j),bl];omega];refine(N9 ew aH eb (a:=m-i) (b:=m+j-i) (c:=i) (by omega) (by omega)).mono ?_;rintro _ g2 ⟨rfl,dn,eR,gx⟩;refine⟨rfl,i+(j-i),by omega,rfl,rfl,rfl,i,j-i,_,rfl,by rw[bl];omega,mB,by omega,hi,by omega,rfl,dn,dZ.trans eR,iM.trans (gx a b (by omega) (by omega)),?_⟩;rw[So (by omega) (by omega),dE]
 .have:i=j:=by omega
  subst this;rw[show al ((m:Int)-i)=((m-i:Nat):Int) by rw[bl];omega];refine(N9 ew aH eb (a:=m-i) (b:=m) (c:=i) (by omega) (by omega)).mono ?_;rintro _ g2 ⟨rfl,dn,eR,gx⟩;have a7:iW e (m-i) m i=gj d a m b:=by rw[<-dE];exact Sm (by omega)
  exact⟨rfl,rfl,a7▸dn,dZ.trans eR,a7▸iM.trans (gx a b (by omega) (by omega))⟩
theorem Y_ (C:pR prog D h0 v y9 key P)(ew:∀q,s.q=some q->D q.b)(aH:n<=1000000000000){g:ai}{d:Nat->Row}(A:gy g s n d)(O:db D h0 g)(hZ:∀x,x<n->P (d x)){a b:Nat}(aa:a<=b)(ad:b<=n) :
 aw 207 [aU s,U a,U b,v] g λr bg=>r= .tuple #[]/\∃bq,gy bg s n bq/\db D h0 bg/\cW a b d bq/\cr key a b bq/\(cr key a b d->bq=d):=by
 refine akf _ _ _ _ ?_;unfold Vr;refine⟨λs1 ax ay v1 aI g1 bI=>s1=s/\ax=(a:Nat)/\ay=(b:Nat)/\v1=v/\∃(i:Nat) (e:Nat->Row),aI=i/\a<i/\i<=b+1/\bI=b+1-i/\gy g1 s n e/\db D h0 g1/\cW a b d e/\cr key a (min i b) e/\(cr key a b d->e=d),
  ⟨b+1-(a+1),rfl,rfl,rfl,rfl,a+1,d,bl,by omega,by omega,rfl,A,O,cW.refl _ _ _,cr.one (by omega) _,λ_=>rfl⟩,?_⟩
 rintro s1 ax ay v1 aI g1 bI ⟨rfl,rfl,rfl,rfl,i,e,rfl,ux,ky,rfl,eb,dZ,iM,lv,ry⟩;refine b6 (λb1=>?_) λc3=>?_
 .have aqt:i<b:=by omega
  rw[at4 (by omega)] at lv;refine⟨λs2 aQ bm v2 bx bh g2 eE=>s2=s1/\aQ=(a:Nat)/\bm=(b:Nat)/\v2=v1/\bx=(i:Nat)/\∃(j:Nat) (a7:Nat->Row),bh=j/\eE=j/\q7 key a i j a7/\gy g2 s1 n a7/\db D h0 g2/\cW a b d a7/\(cr key a b d->a7=d),
   ⟨i,rfl,rfl,rfl,rfl,rfl,i,e,rfl,rfl,q7.start (by omega) lv,eb,dZ,iM,ry⟩,?_⟩
  rintro s2 aQ bm v2 bx bh g2 eE ⟨rfl,rfl,rfl,rfl,rfl,j,a7,rfl,rfl,yc,dn,eR,gx,l7⟩;have Hx:=yc.low;have N3:∀x,x<n->P (a7 x):=λx af=>(gx.mono (dq:=0) (iv:=n) (by omega) aa ad).all (λy _ aA=>hZ y aA) (by omega) af;have next:∀bg,bB g2 bg->(eE<=a∨¬key (a7 eE)<key (a7 (eE-1)))->∃cb,cb<b+1-i/\s2=s2/\(a:Int)=(a:Nat)/\(b:Int)=(b:Nat)/\v2=v2/\∃(di:Nat) (e:Nat->Row),al ((i:Int)+1)=di/\a<di/\di<=b+1/\cb=b+1-di/\gy bg s2 n e/\db D h0 bg/\cW a b d e/\cr key a (min di b) e/\(cr key a b d->e=d):=λbg cv bK =>
   ⟨b+1-(i+1),by omega,rfl,rfl,rfl,rfl,i+1,a7,bl,by omega,by omega,rfl,dn.bE cv,eR.trans (cv.off D),gx,by rw[at4 (by omega)];exact yc.done bK,l7⟩
  refine b6 (λN4=>?_) λN4=>next g2 (bB.refl _) (.inl (by omega))
  refine HA C dn eR N3 (i:=eE) (j:=eE-1) (by omega) (by omega) rfl (by rw[bl];omega) λm g3 hm aD=>?_;refine hS (λjs=>?_) λjs=>?_
  .have o5:m<0:=by simpa using js
   have lF:=hm.1 o5;refine HB (dn.bE aD) ew (i:=eE-1) (j:=eE) (by omega) (by omega) (by rw[bl];omega) rfl λg4 gn ez=>?_;refine⟨eE-1,by omega,rfl,rfl,rfl,rfl,rfl,eE-1,dG a7 (eE-1) eE,by rw[bl];omega,rfl,?_,gn,(eR.trans (aD.off D)).trans ez,gx.trans (cW.dG _ (by omega) (by omega)),λaR=>?_⟩
   .rw[ur];exact yc.step (by omega) lF
   .have:=l7 aR;rw[this] at lF;have:=aR (eE-1) eE (by omega) (by omega) (by omega);omega
  .have o5:¬m<0:=by simpa using js
   exact next g3 aD (.inr λh=>o5 (hm.2 h))
 .have:min i b=b:=by omega
  rw[this] at lv;exact⟨rfl,e,eb,dZ,iM,lv,ry⟩
theorem Za (C:pR prog D h0 v y9 key P)(ew:∀q,s.q=some q->D q.b)(aH:n<=1000000000000):∀(N:Nat) {g:ai} {d:Nat->Row} {a m b:Nat},b-a<=N->a<m->m<b->b<=n->gy g s n d->db D h0 g->(∀x,x<n->P (d x))->cr key a m d->cr key m b d ->
 aw 208 [aU s,U a,U m,U b,v] g λr bg=>r= .tuple #[]/\∃bq,gy bg s n bq/\db D h0 bg/\cW a b d bq/\cr key a b bq/\(cr key a b d->bq=d):=by
 intro N
 induction N with
 | zero=>intro g d a m b kZ aa ad;exact absurd kZ (by omega)
 | succ N c6 =>
  intro g d a m b kZ aa ad aq A O hZ hK eV;refine akh _ _ _ _ _ ?_;unfold Vs;refine b6 (λhm=>?_) λhm=>?_
  .rw[bl] at hm;have N5:m=a+1:=by omega
   refine⟨λs1 ax v1 ay aI g1 bI=>s1=s/\ax=(a:Nat)/\v1=v/\∃i j:Nat,ay=i/\aI=j/\m<=i/\i<=j/\j<=b/\bI=j-i/\gy g1 s n d/\db D h0 g1/\(∀x,m<=x->x<i->key (d x)<key (d a))/\(∀x,j<=x->x<b->key (d a)<=key (d x))/\(cr key a b d->i=m),
    ⟨b-m,rfl,rfl,rfl,m,b,rfl,rfl,as_ _,by omega,as_ _,rfl,A,O,λx _ _=>by omega,λx _ _=>by omega,λ_=>rfl⟩,?_⟩
   rintro s1 ax v1 ay aI g1 bI ⟨rfl,rfl,rfl,i,j,rfl,rfl,hi,mC,aL,rfl,eb,dZ,lo,ky,eq⟩;refine b6 (λb1=>?_) λc3=>?_
   .have bT:=uu (i:=i) (j:=j) (by omega) (by omega);refine HA C eb dZ hZ (i:=(i+j)/2) (j:=a) (by omega) (by omega) bT rfl λt g2 bz az=>?_;refine hS (λjs=>?_) λjs=>?_
    .have kt:t<0:=by simpa using js
     have aO:=bz.1 kt;refine⟨j-((i+j)/2+1),by omega,rfl,rfl,rfl,(i+j)/2+1,j,by rw[bT,bl];omega,rfl,by omega,by omega,aL,rfl,eb.bE az,dZ.trans (az.off D),λx l1 lZ=>?_,ky,λaR=>?_⟩
     .exact avg (eV x ((i+j)/2) l1 (by omega) (by omega)) aO
     .have:=aR a ((i+j)/2) (by omega) (by omega) (by omega);omega
    .have kt:¬t<0:=by simpa using js
     have aO:¬key (d ((i+j)/2))<key (d a):=λh=>kt (bz.2 h);refine⟨(i+j)/2-i,by omega,rfl,rfl,rfl,i,(i+j)/2,rfl,bT,hi,by omega,by omega,rfl,eb.bE az,dZ.trans (az.off D),lo,λx l1 lZ=>?_,eq⟩;have:=eV ((i+j)/2) x (by omega) l1 (by omega);omega
   .have yd:i=j:=by omega
    subst yd;refine⟨λs2 bh bo g2 eE=>s2=s1/\bh=(i:Nat)/\∃k:Nat,bo=k/\a<=k/\k<=i-1/\eE=i-1-k/\gy g2 s1 n (nI d a k)/\db D h0 g2/\cW a b d (nI d a k),
     ⟨i-1-a,rfl,rfl,a,rfl,as_ _,by omega,rfl,by rw[zp];exact eb,dZ,by rw[zp];exact cW.refl _ _ _⟩,?_⟩
    rintro s2 bh bo g2 eE ⟨rfl,rfl,k,rfl,jF,iw,rfl,dn,eR,gx⟩;have hB:al ((i:Int)-1)=((i-1:Nat):Int):=by rw[bl];omega
    rw[hB];refine b6 (λb1=>?_) λc3=>?_
    .refine HB dn ew (i:=k+1) (j:=k) (by omega) (by omega) (by rw[bl];omega) rfl λg3 im c9=>?_;have e:dG (nI d a k) (k+1) k=nI d a (k+1):=by rw[ur];exact Sh jF
     exact⟨i-1-(k+1),by omega,rfl,rfl,k+1,bl,by omega,by omega,rfl,e▸im,eR.trans c9,gx.trans (e▸cW.dG _ (by omega) (by omega))⟩
    .have:k=i-1:=by omega
     subst this;refine⟨rfl,_,dn,eR,gx,Si (by omega) aL (eV.sub (by omega) (as_ _)) (λx l1 lZ=>lo x (by omega) lZ) ky,λaR=>?_⟩;rw[eq aR,N5,auK,zp]
  refine b6 (λrz=>?_) λrz=>?_
  .rw[bl] at rz;have yv:b=m+1:=by omega
   refine⟨λbj cA v3 ct cP g1 bI=>bj=s/\cA=(m:Nat)/\v3=v/\∃i j:Nat,ct=i/\cP=j/\a<=i/\i<=j/\j<=m/\bI=j-i/\gy g1 s n d/\db D h0 g1/\(∀x,a<=x->x<i->key (d x)<=key (d m))/\(∀x,j<=x->x<m->key (d m)<key (d x))/\(cr key a b d->j=m),
    ⟨m-a,rfl,rfl,rfl,a,m,rfl,rfl,as_ _,by omega,as_ _,rfl,A,O,λx _ _=>by omega,λx _ _=>by omega,λ_=>rfl⟩,?_⟩
   rintro bj cA v3 ct cP g1 bI ⟨rfl,rfl,rfl,i,j,rfl,rfl,hi,mC,aL,rfl,eb,dZ,lo,ky,eq⟩;refine b6 (λb1=>?_) λc3=>?_
   .have bT:=uu (i:=i) (j:=j) (by omega) (by omega);refine HA C eb dZ hZ (i:=m) (j:=(i+j)/2) (by omega) (by omega) rfl bT λt g2 bz az=>?_;refine mw (λkt=>?_) λkt=>?_
    .have aO:¬key (d m)<key (d ((i+j)/2)):=λh=>kt (bz.2 h);refine⟨j-((i+j)/2+1),by omega,rfl,rfl,rfl,(i+j)/2+1,j,by rw[bT,bl];omega,rfl,by omega,by omega,aL,rfl,eb.bE az,dZ.trans (az.off D),λx l1 lZ=>?_,ky,eq⟩;have:=hK x ((i+j)/2) l1 (by omega) (by omega);omega
    .have aO:=bz.1 kt;refine⟨(i+j)/2-i,by omega,rfl,rfl,rfl,i,(i+j)/2,rfl,bT,hi,by omega,by omega,rfl,eb.bE az,dZ.trans (az.off D),lo,λx l1 lZ=>?_,λaR=>?_⟩
     .exact aup aO (hK ((i+j)/2) x (by omega) l1 (by omega))
     .have:=aR ((i+j)/2) m (by omega) (by omega) (by omega);omega
   .have yd:i=j:=by omega
    subst yd;refine⟨λbM dh ck g2 eE=>bM=bj/\dh=(i:Nat)/\∃k:Nat,ck=k/\i<=k/\k<=m/\eE=k/\gy g2 bj n (nJ d m k)/\db D h0 g2/\cW a b d (nJ d m k),
     ⟨m,rfl,rfl,m,rfl,aL,as_ _,rfl,by rw[zq];exact eb,dZ,by rw[zq];exact cW.refl _ _ _⟩,?_⟩
    rintro bM dh ck g2 eE ⟨rfl,rfl,k,rfl,jF,iw,rfl,dn,eR,gx⟩;refine b6 (λb1=>?_) λc3=>?_
    .refine HB dn ew (i:=eE-1) (j:=eE) (by omega) (by omega) (by rw[bl];omega) rfl λg3 im c9=>?_;have e:dG (nJ d m eE) (eE-1) eE=nJ d m (eE-1):=by rw[ur];exact Sj iw (by omega)
     exact⟨eE-1,by omega,rfl,rfl,eE-1,by rw[bl];omega,by omega,by omega,rfl,e▸im,eR.trans c9,gx.trans (e▸cW.dG _ (by omega) (by omega))⟩
    .have:eE=i:=by omega
     subst this;refine⟨rfl,_,dn,eR,gx,?_,λaR=>?_⟩
     .rw[yv];exact Sk hi aL hK lo ky
     .rw[eq aR,zq]
  rw[bl] at hm rz;have mg:=uu (i:=a) (j:=b) (by omega) (by omega);generalize pN:(a+b)/2=mid at *;have aqu:a<mid/\mid<b:=by omega
  refine⟨λcZ cE fl eN v5 e4 n25 n26 n27 g1=>cZ=s/\cE=(a:Nat)/\fl=(m:Nat)/\eN=(b:Nat)/\v5=v/\e4=(mid:Nat)/\n25=((mid+m:Nat):Int)/\g1=g/\∃ia gT:Nat,n26=ia/\n27=gT/\ia<=gT/\a<=ia/\gT<=m/\gT<=mid/\mid+m-ia<=b/\(gT=m∨gT=mid)/\(ia=a∨mid+m-ia=b),?_,?_⟩
  .refine b6 (λaT=>?_) λaT=>?_
   .rw[mg] at aT;exact⟨rfl,rfl,rfl,rfl,rfl,mg,by rw[mg,bl];omega,rfl,mid+m-b,mid,by rw[mg,bl (n:=(mid:Int)+m),bl];omega,mg,by omega,by omega,by omega,by omega,by omega,.inr rfl,.inr (by omega)⟩
   .rw[mg] at aT;exact⟨rfl,rfl,rfl,rfl,rfl,mg,by rw[mg,bl];omega,rfl,a,m,rfl,rfl,by omega,by omega,by omega,by omega,by omega,.inl rfl,.inl rfl⟩
  rintro cZ cE fl eN v5 e4 n25 n26 n27 g1 ⟨rfl,rfl,rfl,rfl,rfl,rfl,rfl,rfl,ia,gT,rfl,rfl,q1,aP,bs,bJ,c0,dd,dj⟩;refine⟨λb3 n28 n29 n30 v6 n31 n32 n33 n34 n35 g2 bI=>b3=cZ/\n28=(a:Nat)/\n29=(m:Nat)/\n30=(b:Nat)/\v6=v5/\n31=(mid:Nat)/\n32=((mid+m:Nat):Int)/\n35=((mid+m-1:Nat):Int)/\∃st r:Nat,n33=st/\n34=r/\ia<=st/\st<=r/\r<=gT/\bI=r-st/\gy g2 cZ n d/\db D h0 g2 /\
   (st=ia∨key (d (st-1))<=key (d (mid+m-1-(st-1))))/\(r=gT∨key (d (mid+m-1-r))<key (d r))/\(cr key a b d->r=gT),
   ⟨gT-ia,rfl,rfl,rfl,rfl,rfl,rfl,rfl,by rw[bl];omega,ia,gT,rfl,rfl,as_ _,q1,as_ _,rfl,A,O,.inl rfl,.inl rfl,λ_=>rfl⟩,?_⟩
  rintro b3 n28 n29 n30 v6 n31 n32 n33 n34 n35 g2 bI ⟨rfl,rfl,rfl,rfl,rfl,rfl,rfl,rfl,st,r,rfl,rfl,N6,DR,N7,rfl,eb,dZ,ca,bO,eq⟩;refine b6 (λb1=>?_) λc3=>?_
  .have bT:=uu (i:=st) (j:=r) (by omega) (by omega);have jI:al (((mid+m-1:Nat):Int)-al (((ds (cK (al ((st:Int)+r))) (UInt64.toNat 1)).toNat:Nat):Int))=((mid+m-1-(st+r)/2:Nat):Int):=by rw[bT,bl];omega
   refine HA C eb dZ hZ (i:=mid+m-1-(st+r)/2) (j:=(st+r)/2) (by omega) (by omega) jI bT λt g3 bz aD=>?_;refine mw (λkt=>?_) λkt=>?_
   .have aO:¬key (d (mid+m-1-(st+r)/2))<key (d ((st+r)/2)):=λh=>kt (bz.2 h);exact⟨r-((st+r)/2+1),by omega,rfl,rfl,rfl,rfl,rfl,rfl,rfl,rfl,(st+r)/2+1,r,by rw[bT,bl];omega,rfl,by omega,by omega,N7,rfl,eb.bE aD,dZ.trans (aD.off D),.inr (by rw[auK];omega),bO,eq⟩
   .have aO:=bz.1 kt;refine⟨(st+r)/2-st,by omega,rfl,rfl,rfl,rfl,rfl,rfl,rfl,rfl,st,(st+r)/2,rfl,bT,N6,by omega,by omega,rfl,eb.bE aD,dZ.trans (aD.off D),ca,.inr aO,λaR=>?_⟩;have:=aR ((st+r)/2) (mid+m-1-(st+r)/2) (by omega) (by omega) (by omega);omega
  .have N8:st=r:=by omega
   subst N8;have Ft:al (((mid+m:Nat):Int)-st)=((mid+m-st:Nat):Int):=by rw[bl];omega
   rw[Ft];generalize h7:mid+m-st=dA at *;have cut:Cut key a m b st d:=by
    refine⟨by rw[pN];omega,by rw[pN,h7];omega,?_,?_⟩
    .rw[pN,h7];intro aX aZ;rcases bO with h|h
     .omega
     .have e:mid+m-1-st=dA-1:=by omega
      rw[e] at h;omega
    .rw[pN,h7];intro aX aZ;rcases ca with h|h
     .omega
     .have e:mid+m-1-(st-1)=dA:=by omega
      rw[e] at h;exact h
   have use:=cut.use (d1:=gj d st m dA) ⟨aa,ad⟩ hK eV (by rw[pN,h7]);rw[pN,h7] at use;obtain⟨z7,z8,DS,DT,DU⟩:=use;have kB:st<=m/\st<=mid/\m<=dA/\mid<=dA/\dA<=b:=by omega
   have ye:cr key a b d->gj d st m dA=d:=λaR=>by
    have:=eq aR;rcases dd with h|h
    .have:st=m:=by omega
     rw[this];exact zr d m dA (by omega)
    .have:dA=m:=by omega
     rw[this];exact zs d st m (by omega)
   have yf:∀(g4:ai) (d2:Nat->Row),gy g4 b3 n d2->db D h0 g4->cW a b d d2->cW a mid (gj d st m dA) d2->cr key a mid d2->(cr key a b d->d2=d) ->
    bp (decide ((mid:Int)<(dA:Int))) (bp (bif true then decide ((dA:Int)<(b:Int)) else false) (aw 208 [aU b3,U mid,U dA,U b,v6] g4 λv10 dr=>v10= .tuple #[]/\((.tuple #[]:Value)= .tuple #[]/\∃bq,gy dr b3 n bq/\db D h0 dr/\cW a b d bq/\cr key a b bq/\(cr key a b d->bq=d)))
     ((.tuple #[]:Value)= .tuple #[]/\∃bq,gy g4 b3 n bq/\db D h0 g4/\cW a b d bq/\cr key a b bq/\(cr key a b d->bq=d)))
     ((.tuple #[]:Value)= .tuple #[]/\∃bq,gy g4 b3 n bq/\db D h0 g4/\cW a b d bq/\cr key a b bq/\(cr key a b d->bq=d)):=by
    intro g4 d2 gn hT h6 yg gF mW;have rv:∀x,mid<=x->d2 x=gj d st m dA x:=λx af=>yg.1 x (.inr af);have done:cr key mid b d2->∃bq,gy g4 b3 n bq/\db D h0 g4/\cW a b d bq/\cr key a b bq/\(cr key a b d->bq=d):=λaR =>
     ⟨d2,gn,hT,h6,merge_join ⟨by omega,by omega⟩ yg gF (cW.refl _ _ _) aR DU,mW⟩
    refine b6 (λaX=>?_) λaX=>⟨rfl,done ?_⟩
    .refine b6 (λaZ=>?_) λaZ=>⟨rfl,done ?_⟩
     .refine(c6 (g:=g4) (d:=d2) (a:=mid) (m:=dA) (b:=b) (by omega) (by omega) (by omega) aq gn hT (λx af=>(h6.mono (dq:=0) (iv:=n) (by omega) (by omega) aq).all (λy _ aA=>hZ y aA) (by omega) af) (DS.congr λx y _=>rv x y) (DT.congr λx y _=>rv x (by omega))).mono ?_
      rintro _ g5 ⟨rfl,d3,iB,mP,jT,gE,nX⟩;refine⟨rfl,rfl,d3,iB,mP,h6.trans (jT.mono (by omega) (by omega) (as_ _)),merge_join ⟨by omega,by omega⟩ yg gF jT gE DU,λaR=>?_⟩;have e:=mW aR;rw[nX (by rw[e];exact aR.sub (by omega) (as_ _)),e]
     .exact(DS.sub (as_ _) (by omega)).congr λx y _=>rv x y
    .exact(DT.sub (by omega) (as_ _)).congr λx y _=>rv x y
   have yh:∀(g4:ai),gy g4 b3 n (gj d st m dA)->db D h0 g4->cW a b d (gj d st m dA) ->
    bp (decide ((a:Int)<(st:Int))) (bp (bif true then decide ((st:Int)<(mid:Int)) else false) (aw 208 [aU b3,U a,U st,U mid,v6] g4 λv9 eW=>v9= .tuple #[]/\bp (decide ((mid:Int)<(dA:Int))) (bp (bif true then decide ((dA:Int)<(b:Int)) else false) (aw 208 [aU b3,U mid,U dA,U b,v6] eW λv10 dr=>v10= .tuple #[]/\((.tuple #[]:Value)= .tuple #[]/\∃bq,gy dr b3 n bq/\db D h0 dr/\cW a b d bq/\cr key a b bq/\(cr key a b d->bq=d)))
     ((.tuple #[]:Value)= .tuple #[]/\∃bq,gy eW b3 n bq/\db D h0 eW/\cW a b d bq/\cr key a b bq/\(cr key a b d->bq=d)))
     ((.tuple #[]:Value)= .tuple #[]/\∃bq,gy eW b3 n bq/\db D h0 eW/\cW a b d bq/\cr key a b bq/\(cr key a b d->bq=d)))
     (bp (decide ((mid:Int)<(dA:Int))) (bp (bif true then decide ((dA:Int)<(b:Int)) else false) (aw 208 [aU b3,U mid,U dA,U b,v6] g4 λv10 dr=>v10= .tuple #[]/\((.tuple #[]:Value)= .tuple #[]/\∃bq,gy dr b3 n bq/\db D h0 dr/\cW a b d bq/\cr key a b bq/\(cr key a b d->bq=d)))
     ((.tuple #[]:Value)= .tuple #[]/\∃bq,gy g4 b3 n bq/\db D h0 g4/\cW a b d bq/\cr key a b bq/\(cr key a b d->bq=d)))
     ((.tuple #[]:Value)= .tuple #[]/\∃bq,gy g4 b3 n bq/\db D h0 g4/\cW a b d bq/\cr key a b bq/\(cr key a b d->bq=d))))
     (bp (decide ((mid:Int)<(dA:Int))) (bp (bif true then decide ((dA:Int)<(b:Int)) else false) (aw 208 [aU b3,U mid,U dA,U b,v6] g4 λv10 dr=>v10= .tuple #[]/\((.tuple #[]:Value)= .tuple #[]/\∃bq,gy dr b3 n bq/\db D h0 dr/\cW a b d bq/\cr key a b bq/\(cr key a b d->bq=d)))
     ((.tuple #[]:Value)= .tuple #[]/\∃bq,gy g4 b3 n bq/\db D h0 g4/\cW a b d bq/\cr key a b bq/\(cr key a b d->bq=d)))
     ((.tuple #[]:Value)= .tuple #[]/\∃bq,gy g4 b3 n bq/\db D h0 g4/\cW a b d bq/\cr key a b bq/\(cr key a b d->bq=d))):=by
    intro g4 gn hT h6;refine b6 (λaX=>?_) λaX=>yf g4 _ gn hT h6 (cW.refl _ _ _) ?_ ye
    .refine b6 (λaZ=>?_) λaZ=>yf g4 _ gn hT h6 (cW.refl _ _ _) ?_ ye
     .refine(c6 (g:=g4) (d:=gj d st m dA) (a:=a) (m:=st) (b:=mid) (by omega) (by omega) (by omega) (by omega) gn hT (λx af=>(h6.mono (dq:=0) (iv:=n) (by omega) (by omega) aq).all (λy _ aA=>hZ y aA) (by omega) af) z7 z8).mono ?_
      rintro _ g5 ⟨rfl,d3,iB,mP,jT,gE,nX⟩;refine⟨rfl,yf g5 d3 iB mP (h6.trans (jT.mono (as_ _) (by omega) (by omega))) jT gE λaR=>?_⟩;have e:=ye aR;rw[nX (by rw[e];exact aR.sub (as_ _) (by omega)),e]
     .exact z7.sub (as_ _) (by omega)
    .exact z8.sub (by omega) (as_ _)
   refine b6 (λaX=>?_) λaX=>yh g2 ?_ dZ ?_
   .refine b6 (λaZ=>?_) λaZ=>yh g2 ?_ dZ ?_
    .refine(aqx ew aH eb (a:=st) (m:=m) (b:=dA) (by omega) (by omega) (by omega)).mono ?_
     rintro _ g4 ⟨rfl,gn,hT,h6⟩;exact⟨rfl,yh g4 gn (dZ.trans hT) (h6.mono (by omega) (by omega) (by omega))⟩
    .have:dA=m:=by omega
     rw[this,zs d st m (by omega)];exact eb
    .have:dA=m:=by omega
     rw[this,zs d st m (by omega)];exact cW.refl _ _ _
   .have:st=m:=by omega
    rw[this,zr d m dA (by omega)];exact eb
   .have:st=m:=by omega
    rw[this,zr d m dA (by omega)];exact cW.refl _ _ _
theorem aqy (C:pR prog D h0 v y9 key P)(ew:∀q,s.q=some q->D q.b)(aH:n<=1000000000000){g:ai}{d:Nat->Row}(A:gy g s n d)(O:db D h0 g)(hZ:∀x,x<n->P (d x)) :
 aw 194 [aU s,U n,v] g λr bg=>r= .tuple #[]/\∃bq,gy bg s n bq/\db D h0 bg/\cW 0 n d bq/\cr key 0 n bq/\(cr key 0 n d->bq=d):=by
 refine ajY _ _ _ ?_;unfold Vp;have uo:∀ {e:Nat->Row},cW 0 n d e->∀x,x<n->P (e x):=λp x af=>p.all (λy _ aA=>hZ y aA) (by omega) af;refine⟨λs1 ax v1 ay aI aQ g1 bI=>s1=s/\ax=(n:Nat)/\v1=v/\ay=20/\∃(a:Nat) (e:Nat->Row),aI=a/\aQ=((a+20:Nat):Int)/\20 ∣ a/\a<=n/\bI=n-a/\gy g1 s n e/\db D h0 g1/\cW 0 n d e/\(∀x,20 ∣ x->x+20<=a->cr key x (x+20) e)/\(cr key 0 n d->e=d),
  ⟨n,rfl,rfl,rfl,rfl,0,d,rfl,rfl,⟨0,rfl⟩,by omega,rfl,A,O,cW.refl _ _ _,λx _ h=>by omega,λ_=>rfl⟩,?_⟩
 rintro s1 ax v1 ay aI aQ g1 bI ⟨rfl,rfl,rfl,rfl,a,e,rfl,rfl,bV,DV,rfl,eb,dZ,iM,lv,ry⟩;refine b6 (λhle=>?_) λBx=>?_
 .refine(Y_ C ew aH eb dZ (uo iM) (a:=a) (b:=a+20) (by omega) (by omega)).mono ?_
  rintro _ g2 ⟨rfl,a7,dn,eR,gx,eV,l7⟩;refine⟨rfl,n-(a+20),by omega,rfl,rfl,rfl,rfl,a+20,a7,rfl,by rw[bl];omega,(auQ bV).2 ⟨1,rfl⟩,by omega,rfl,dn,eR,iM.trans (gx.mono (by omega) (by omega) (by omega)),λx af lZ=>?_,λaR=>?_⟩
  .by_cases c:x+20<=a
   .exact(lv x af c).congr λy _ aA=>gx.1 y (.inl (by omega))
   .obtain⟨p,rfl⟩:=bV;obtain⟨q,rfl⟩:=af;have:p=q:=by omega
    subst this;exact eV
  .have eg:=ry aR;rw[l7 (by rw[eg];exact aR.sub (by omega) (by omega)),eg]
 refine(Y_ C ew aH eb dZ (uo iM) (a:=a) (b:=n) DV (as_ _)).mono ?_;rintro _ g2 ⟨rfl,a7,dn,eR,gx,eV,l7⟩;refine⟨rfl,λs2 bm v4 bx g3 bI=>s2=s1/\bm=(n:Nat)/\v4=v1/\∃(bQ:Nat) (e:Nat->Row),bx=bQ/\0<bQ/\bQ<=2*n+20/\bI=n-bQ/\gy g3 s1 n e/\db D h0 g3/\cW 0 n d e/\(∀x,bQ ∣ x->cr key x (min (x+bQ) n) e)/\(cr key 0 n d->e=d),
  ⟨n-20,rfl,rfl,rfl,20,a7,rfl,by omega,by omega,rfl,dn,eR,iM.trans (gx.mono (by omega) DV (as_ _)),λx af=>?_,λaR=>?_⟩,?_⟩
 .by_cases c:x+20<=a
  .exact((lv x af c).congr λy _ aA=>gx.1 y (.inl (by omega))).sub (as_ _) (auj _ _)
  .obtain⟨p,rfl⟩:=bV;obtain⟨q,rfl⟩:=af;exact eV.sub (by omega) (au3 _ _)
 .have eg:=ry aR;rw[l7 (by rw[eg];exact aR.sub (by omega) (as_ _)),eg]
 rintro s2 bm v4 bx g3 bI ⟨rfl,rfl,rfl,bQ,f3,rfl,j0,gI,rfl,im,k2,DW,iU,tk⟩;refine b6 (λb1=>?_) λc3=>?_
 .refine⟨λbj bh v5 bo bY cz g4 eE=>bj=s2/\bh=(n:Nat)/\v5=v4/\bo=(bQ:Nat)/\∃(a:Nat) (e:Nat->Row),bY=a/\cz=((a+2*bQ:Nat):Int)/\2*bQ ∣ a/\a<=n/\eE=n-a/\gy g4 s2 n e/\db D h0 g4/\cW 0 n d e/\(∀x,2*bQ ∣ x->x+2*bQ<=a->cr key x (x+2*bQ) e)/\(∀x,bQ ∣ x->a<=x->cr key x (min (x+bQ) n) e)/\(cr key 0 n d->e=d),
   ⟨n,rfl,rfl,rfl,rfl,0,f3,rfl,by rw[bl];omega,⟨0,rfl⟩,by omega,rfl,im,k2,DW,λx _ h=>by omega,λx af _=>iU x af,tk⟩,?_⟩
  rintro bj bh v5 bo bY cz g4 eE ⟨rfl,rfl,rfl,rfl,a4,b5,rfl,rfl,pO,aqw,rfl,gn,hT,h6,tc,kU,mW⟩;have uq:bQ ∣ a4:=Nat.dvd_trans ⟨2,by omega⟩ pO;have DX:bQ ∣ a4+bQ:=(auQ uq).2 ⟨1,by omega⟩;have hB:al ((a4:Int)+bQ)=((a4+bQ:Nat):Int):=by rw[bl];omega
  rw[hB];refine b6 (λhle=>?_) λBx=>?_
  .have ev:=kU a4 uq (as_ _);have e5:=kU (a4+bQ) DX (by omega);rw[at4 (by omega)] at ev e5;refine(Za C ew aH (2*bQ) (g:=g4) (d:=b5) (a:=a4) (m:=a4+bQ) (b:=a4+2*bQ) (by omega) (by omega) (by omega) (by omega) gn hT (uo h6) ev (e5.sub (as_ _) (by omega))).mono ?_;rintro _ g5 ⟨rfl,cD,iB,mP,jT,gE,nX⟩;refine⟨rfl,n-(a4+2*bQ),by omega,rfl,rfl,rfl,rfl,a4+2*bQ,cD,rfl,by rw[bl (n:=2*(bQ:Int)),bl];omega,(auQ pO).2 ⟨1,by omega⟩,by omega,rfl,iB,mP,h6.trans (jT.mono (by omega) (by omega) (by omega)),λx af lZ=>?_,λx af lZ=>?_,λaR=>?_⟩
   .by_cases c:x+2*bQ<=a4
    .exact(tc x af c).congr λy _ aA=>jT.1 y (.inl (by omega))
    .have:=uv af pO;have ad:=uv pO af;have:x=a4:=by omega
     subst this;exact gE
   .exact(kU x af (by omega)).congr λy aA _=>jT.1 y (.inr (by omega))
   .have eg:=mW aR;rw[nX (by rw[eg];exact aR.sub (by omega) (by omega)),eg]
  have fg:al ((bQ:Int)*2)=((2*bQ:Nat):Int):=by rw[bl];omega
  rw[fg];refine b6 (λlF=>?_) λyF=>?_
  .have ev:=kU a4 uq (as_ _);have e5:=kU (a4+bQ) DX (by omega);rw[at4 (by omega)] at ev;rw[Nat.min_eq_right (by omega)] at e5;refine(Za C ew aH n (g:=g4) (d:=b5) (a:=a4) (m:=a4+bQ) (b:=n) (by omega) (by omega) (by omega) (as_ _) gn hT (uo h6) ev e5).mono ?_;rintro _ g5 ⟨rfl,cD,iB,mP,jT,gE,nX⟩;refine⟨rfl,n-2*bQ,by omega,rfl,rfl,rfl,2*bQ,cD,rfl,by omega,by omega,rfl,iB,mP,h6.trans (jT.mono (by omega) (by omega) (as_ _)),λx af=>?_,λaR=>?_⟩
   .by_cases c:x+2*bQ<=a4
    .exact((tc x af c).congr λy _ aA=>jT.1 y (.inl (by omega))).sub (as_ _) (auj _ _)
    .have:=uv af pO;exact gE.sub (by omega) (au3 _ _)
   .have eg:=mW aR;rw[nX (by rw[eg];exact aR.sub (by omega) (as_ _)),eg]
  .refine⟨n-2*bQ,by omega,rfl,rfl,rfl,2*bQ,b5,rfl,by omega,by omega,rfl,gn,hT,h6,λx af=>?_,mW⟩;by_cases c:x+2*bQ<=a4
   .exact(tc x af c).sub (as_ _) (auj _ _)
   .have:=uv af pO;have ev:=kU a4 uq (as_ _);exact ev.sub (by omega) (by omega)
 .have:=iU 0 ⟨0,rfl⟩;rw[Nat.min_eq_right (by omega)] at this;exact⟨rfl,f3,im,k2,DW,this,tk⟩
theorem aeg (C:pR prog D h0 v y9 key P)(ew:∀q,s.q=some q->D q.b)(aH:n<=1000000000000){g:ai}{d:Nat->Row}(A:gy g s n d)(O:db D h0 g)(hZ:∀x,x<n->P (d x)) :
 aw 175 [aU s,v] g λr bg=>r= .tuple #[]/\∃bq,gy bg s n bq/\db D h0 bg/\cW 0 n d bq/\cr key 0 n bq/\(cr key 0 n d->bq=d):=by
 refine ajC _ _ ?_;unfold Vj;have aO:=A.len;simp only[ath,atj] at aO;rw[aO];refine(aqy C ew aH A O hZ).mono ?_;rintro _ g1 ⟨rfl,r⟩;exact⟨rfl,rfl,r⟩
end

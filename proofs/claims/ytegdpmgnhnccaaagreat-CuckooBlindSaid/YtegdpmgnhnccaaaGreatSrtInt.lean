import Derived.Test.YtegdpmgnhnccaaaGreatArr
namespace Go.Proofs.Tryz
open Go Go.cR Go.RowKit
set_option maxRecDepth 8000
def v_ (e:Int):List Value:=[U e]
theorem wa (e:Int):(v_ e).length=1:=rfl
def Cs (e:Int):Value:=U (e)
section
variable {s:ao} {n:Nat} {h0:ak} {D:Nat->Prop} {v:Value} {key:Int->Nat} {P:Int->Prop}
abbrev hT (g:ak)(s:ao)(n:Nat)(d:Nat->Int):Prop:=ct 1 v_ l6 g s ((List.range n).map d)
theorem ML (C:r7 prog D h0 v Cs key P){g:ak}{d:Nat->Int}(A:hT g s n d)(O:eb D h0 g)(jg:∀x,x<n->P (d x)){i j:Nat}(hi:i<n)(aU:j<n){I J:Int}(lj:I=i)(BA:J=j){K:Int->ak->Prop}
 (ah:∀m bw,(m<0↔key (d i)<key (d j))->bL g bw->K m bw) :
 ∃q1,s.q=some q1/\0<=I/\I+1<=(s.len:Int)/\∃ay:Int,bx g q1.b (q1.o+Int.toNat I*1)=some (U (ay))/\∃aI,s.q=some aI/\0<=J/\J+1<=(s.len:Int)/\∃aA:Int,bx g aI.b (aI.o+Int.toNat J*1)=some (U (aA))/\fL prog v [U (ay),U (aA)] g λr bw=>∃m,r=U m/\K m bw:=by
 subst lj;subst BA;refine A.rd.cA wa (i:=i) (by simpa using hi) λq1 _ eD=>?_;rw[r6 hi] at eD;obtain⟨a0,_⟩:=eD;refine⟨_,a0,?_⟩;refine A.rd.cA wa (i:=j) (by simpa using aU) λaI _ fK=>?_;rw[r6 aU] at fK;obtain⟨gA,_⟩:=fK;refine⟨_,gA,?_⟩;refine(C g O (d i) (d j) (jg i hi) (jg j aU)).mono ?_;rintro _ bw ⟨m,rfl,hm,cY⟩;exact⟨m,rfl,ah m bw hm cY⟩
theorem MM {g:ak}{d:Nat->Int}(A:hT g s n d)(fA:∀q,s.q=some q->D q.b){i j:Nat}(hi:i<n)(aU:j<n){I J:Int}(lj:I=i)(BA:J=j){K:ak->Prop}
 (ah:∀bw,hT bw s n (ed d i j)->eb D g bw->K bw) :
 ∃q1,s.q=some q1/\0<=I/\I+1<=(s.len:Int)/\∃ay:Int,bx g q1.b (q1.o+Int.toNat I*1)=some (U (ay))/\∃aI,s.q=some aI/\0<=J/\J+1<=(s.len:Int)/\∃aA:Int,bx g aI.b (aI.o+Int.toNat J*1)=some (U (aA))/\∃bb,s.q=some bb/\0<=J/\J+1<=(s.len:Int)/\aW g ⟨bb.b,bb.o+Int.toNat J*1⟩ [U (ay)] λg2=>∃bH,s.q=some bH/\0<=I/\I+1<=(s.len:Int)/\aW g2 ⟨bH.b,bH.o+Int.toNat I*1⟩ [U (aA)] K:=by
 subst lj;subst BA;refine A.rd.cA wa (i:=i) (by simpa using hi) λq1 nc eD=>?_;rw[r6 hi] at eD;obtain⟨a0,_⟩:=eD;refine⟨_,a0,?_⟩;refine A.rd.cA wa (i:=j) (by simpa using aU) λaI ue fK=>?_;rw[r6 aU] at fK;obtain⟨gA,_⟩:=fK;refine⟨_,gA,?_⟩;have aT:=A.len;simp only[aDF,aDL] at aT;refine⟨aI,ue,by omega,by omega,?_⟩;refine vy wa A ue aU (d i) λg2 eS cg=>?_;refine⟨q1,nc,by omega,by omega,?_⟩;refine vy wa eS nc hi (d j) λg3 kE da=>?_;refine ah g3 ?_ λb ar aK=>?_
 .have e:(λx=>if x=i then d j else if x=j then d i else d x)=ed d i j:=rfl;rw[<-e];exact kE
 .have hG:∀q,s.q=some q->b≠q.b:=λq aj e=>aK (e▸fA q aj);rw[da b (hG q1 nc),cg b (hG aI ue)]
theorem TZ (fA:∀q,s.q=some q->D q.b)(aK:n<=1000000000000){g:ak}{d:Nat->Int}(A:hT g s n d){a b c:Nat}(aa:a+c<=b)(ad:b+c<=n) :
 aq 223 [aZ s,U a,U b,U c,v] g λr bw=>r= .tuple #[]/\hT bw s n (kK d a b c)/\eb D g bw/\∀lo hi,lo<=a->b+c<=hi->dy lo hi d (kK d a b c):=by
 refine auL _ _ _ _ _ ?_;unfold acO;refine⟨λs1 ay aA aL aO g1 bW=>s1=s/\ay=(a:Nat)/\aA=(b:Nat)/\aL=(c:Nat)/\∃i:Nat,aO=i/\i<=c/\bW=c-i/\hT g1 s n (kK d a b i)/\eb D g g1/\∀lo hi,lo<=a->b+c<=hi->dy lo hi d (kK d a b i),
  ⟨c,rfl,rfl,rfl,rfl,0,rfl,by omega,rfl,by rw[KR];exact A,eb.refl _ _,λlo hi _ _=>by rw[KR];exact dy.refl _ _ _⟩,?_⟩
 rintro s1 ay aA aL aO g1 bW ⟨rfl,rfl,rfl,rfl,i,rfl,hi,rfl,fi,eM,ky⟩;refine cj (λcl=>?_) λdH=>?_
 .refine MM fi fA (i:=b+i) (j:=a+i) (by omega) (by omega) (by rw[bt];omega) (by rw[bt];omega) λg2 eS cg=>?_;have e:ed (kK d a b i) (b+i) (a+i)=kK d a b (i+1):=by rw[xx];exact Z7 (by omega)
  refine⟨c-(i+1),by omega,rfl,rfl,rfl,rfl,i+1,bt,by omega,rfl,e▸eS,eM.trans cg,λlo hi x y=>?_⟩;exact(ky lo hi x y).trans (e▸dy.ed _ (by omega) (by omega))
 .have:i=c:=by omega
  subst this;exact⟨rfl,fi,eM,ky⟩
theorem aAA (fA:∀q,s.q=some q->D q.b)(aK:n<=1000000000000){g:ak}{d:Nat->Int}(A:hT g s n d){a m b:Nat}(aa:a<m)(ad:m<b)(an:b<=n) :
 aq 222 [aZ s,U a,U m,U b,v] g λr bw=>r= .tuple #[]/\hT bw s n (hD d a m b)/\eb D g bw/\dy a b d (hD d a m b):=by
 refine auJ _ _ _ _ _ ?_;unfold acN;refine⟨λs1 ay v1 aA aL g1 bW=>s1=s/\ay=(m:Nat)/\v1=v/\∃i j e,aA=(i:Nat)/\aL=(j:Nat)/\0<i/\0<j/\i<=m-a/\j<=b-m/\bW=i+j/\hT g1 s n e/\eb D g g1/\dy a b d e/\hD e (m-i) m (m+j)=hD d a m b,
  ⟨(m-a)+(b-m),rfl,rfl,rfl,m-a,b-m,d,by rw[bt];omega,by rw[bt];omega,by omega,by omega,aDt _,aDt _,rfl,A,eb.refl _ _,dy.refl _ _ _,by rw[show m-(m-a)=a by omega,show m+(b-m)=b by omega]⟩,?_⟩
 rintro s1 ay v1 aA aL g1 bW ⟨rfl,rfl,rfl,i,j,e,rfl,rfl,oQ,wc,hi,aU,rfl,fi,eM,ky,dJ⟩;refine wb (λdA=>?_) λheq=>?_
 .refine cj (λcl=>?_) λdH=>?_
  .rw[show al ((m:Int)-i)=((m-i:Nat):Int) by rw[bt];omega];refine(TZ fA aK fi (a:=m-i) (b:=m) (c:=j) (by omega) (by omega)).mono ?_;rintro _ g2 ⟨rfl,eS,ft,hU⟩;refine⟨rfl,(i-j)+j,by omega,rfl,rfl,rfl,i-j,j,_,by rw[bt];omega,rfl,by omega,wc,by omega,aU,rfl,eS,eM.trans ft,ky.trans (hU a b (by omega) (by omega)),?_⟩;rw[Z9 (by omega) (by omega),dJ]
  .rw[show al ((m:Int)-i)=((m-i:Nat):Int) by rw[bt];omega,show al (al ((m:Int)+j)-i)=((m+j-i:Nat):Int) by rw[bt (n:=(m:Int)+j),bt];omega];refine(TZ fA aK fi (a:=m-i) (b:=m+j-i) (c:=i) (by omega) (by omega)).mono ?_;rintro _ g2 ⟨rfl,eS,ft,hU⟩;refine⟨rfl,i+(j-i),by omega,rfl,rfl,rfl,i,j-i,_,rfl,by rw[bt];omega,oQ,by omega,hi,by omega,rfl,eS,eM.trans ft,ky.trans (hU a b (by omega) (by omega)),?_⟩;rw[Z_ (by omega) (by omega),dJ]
 .have:i=j:=by omega
  subst this;rw[show al ((m:Int)-i)=((m-i:Nat):Int) by rw[bt];omega];refine(TZ fA aK fi (a:=m-i) (b:=m) (c:=i) (by omega) (by omega)).mono ?_;rintro _ g2 ⟨rfl,eS,ft,hU⟩;have a_:kK e (m-i) m i=hD d a m b:=by rw[<-dJ];exact Z8 (by omega)
  exact⟨rfl,rfl,a_▸eS,eM.trans ft,a_▸ky.trans (hU a b (by omega) (by omega))⟩
theorem agj (C:r7 prog D h0 v Cs key P)(fA:∀q,s.q=some q->D q.b)(aK:n<=1000000000000){g:ak}{d:Nat->Int}(A:hT g s n d)(O:eb D h0 g)(jg:∀x,x<n->P (d x)){a b:Nat}(aa:a<=b)(ad:b<=n) :
 aq 220 [aZ s,U a,U b,v] g λr bw=>r= .tuple #[]/\∃bO,hT bw s n bO/\eb D h0 bw/\dy a b d bO/\c1 key a b bO/\(c1 key a b d->bO=d):=by
 refine auF _ _ _ _ ?_;unfold acL;refine⟨λs1 ay aA v1 aL g1 bW=>s1=s/\ay=(a:Nat)/\aA=(b:Nat)/\v1=v/\∃(i:Nat) (e:Nat->Int),aL=i/\a<i/\i<=b+1/\bW=b+1-i/\hT g1 s n e/\eb D h0 g1/\dy a b d e/\c1 key a (min i b) e/\(c1 key a b d->e=d),
  ⟨b+1-(a+1),rfl,rfl,rfl,rfl,a+1,d,bt,by omega,by omega,rfl,A,O,dy.refl _ _ _,c1.one (by omega) _,λ_=>rfl⟩,?_⟩
 rintro s1 ay aA v1 aL g1 bW ⟨rfl,rfl,rfl,rfl,i,e,rfl,xU,kz,rfl,fi,eM,ky,nr,tY⟩;refine cj (λcl=>?_) λdH=>?_
 .have aAB:i<b:=by omega
  rw[aEq (by omega)] at nr;refine⟨λs2 aO bh v2 bB br g2 eJ=>s2=s1/\aO=(a:Nat)/\bh=(b:Nat)/\v2=v1/\bB=(i:Nat)/\∃(j:Nat) (a_:Nat->Int),br=j/\eJ=j/\tB key a i j a_/\hT g2 s1 n a_/\eb D h0 g2/\dy a b d a_/\(c1 key a b d->a_=d),
   ⟨i,rfl,rfl,rfl,rfl,rfl,i,e,rfl,rfl,tB.start (by omega) nr,fi,eM,ky,tY⟩,?_⟩
  rintro s2 aO bh v2 bB br g2 eJ ⟨rfl,rfl,rfl,rfl,rfl,j,a_,rfl,rfl,BB,eS,ft,hU,oq⟩;have s4:=BB.low;have T0:∀x,x<n->P (a_ x):=λx ai=>(hU.mono (eh:=0) (kh:=n) (by omega) aa ad).all (λy _ aC=>jg y aC) (by omega) ai;have next:∀bw,bL g2 bw->(eJ<=a∨¬key (a_ eJ)<key (a_ (eJ-1)))->∃cn,cn<b+1-i/\s2=s2/\(a:Int)=(a:Nat)/\(b:Int)=(b:Nat)/\v2=v2/\∃(dO:Nat) (e:Nat->Int),al ((i:Int)+1)=dO/\a<dO/\dO<=b+1/\cn=b+1-dO/\hT bw s2 n e/\eb D h0 bw/\dy a b d e/\c1 key a (min dO b) e/\(c1 key a b d->e=d):=λbw cY b4 =>
   ⟨b+1-(i+1),by omega,rfl,rfl,rfl,rfl,i+1,a_,bt,by omega,by omega,rfl,eS.bA cY,ft.trans (cY.off D),hU,by rw[aEq (by omega)];exact BB.done b4,oq⟩
  refine cj (λT2=>?_) λT2=>next g2 (bL.refl _) (.inl (by omega))
  refine ML C eS ft T0 (i:=eJ) (j:=eJ-1) (by omega) (by omega) rfl (by rw[bt];omega) λm g3 hm aG=>?_;refine iN (λk_=>?_) λk_=>?_
  .have rA:m<0:=by simpa using k_
   have mE:=hm.1 rA;refine MM (eS.bA aG) fA (i:=eJ-1) (j:=eJ) (by omega) (by omega) (by rw[bt];omega) rfl λg4 hP dq=>?_;refine⟨eJ-1,by omega,rfl,rfl,rfl,rfl,rfl,eJ-1,ed a_ (eJ-1) eJ,by rw[bt];omega,rfl,?_,hP,(ft.trans (aG.off D)).trans dq,hU.trans (dy.ed _ (by omega) (by omega)),λaV=>?_⟩
   .rw[xx];exact BB.step (by omega) mE
   .have:=oq aV;rw[this] at mE;have:=aV (eJ-1) eJ (by omega) (by omega) (by omega);omega
  .have rA:¬m<0:=by simpa using k_
   exact next g3 aG (.inr λh=>rA (hm.2 h))
 .have:min i b=b:=by omega
  rw[this] at nr;exact⟨rfl,e,fi,eM,ky,nr,tY⟩
theorem agk (C:r7 prog D h0 v Cs key P)(fA:∀q,s.q=some q->D q.b)(aK:n<=1000000000000):∀(N:Nat) {g:ak} {d:Nat->Int} {a m b:Nat},b-a<=N->a<m->m<b->b<=n->hT g s n d->eb D h0 g->(∀x,x<n->P (d x))->c1 key a m d->c1 key m b d ->
 aq 221 [aZ s,U a,U m,U b,v] g λr bw=>r= .tuple #[]/\∃bO,hT bw s n bO/\eb D h0 bw/\dy a b d bO/\c1 key a b bO/\(c1 key a b d->bO=d):=by
 intro N
 induction N with
 | zero=>intro g d a m b jE aa ad;exact absurd jE (by omega)
 | succ N dI =>
  intro g d a m b jE aa ad an A O jg fz fF;refine auH _ _ _ _ _ ?_;unfold acM;refine cj (λhm=>?_) λhm=>?_
  .rw[bt] at hm;have Kh:m=a+1:=by omega
   refine⟨λs1 ay v1 aA aL g1 bW=>s1=s/\ay=(a:Nat)/\v1=v/\∃i j:Nat,aA=i/\aL=j/\m<=i/\i<=j/\j<=b/\bW=j-i/\hT g1 s n d/\eb D h0 g1/\(∀x,m<=x->x<i->key (d x)<key (d a))/\(∀x,j<=x->x<b->key (d a)<=key (d x))/\(c1 key a b d->i=m),
    ⟨b-m,rfl,rfl,rfl,m,b,rfl,rfl,aDt _,by omega,aDt _,rfl,A,O,λx _ _=>by omega,λx _ _=>by omega,λ_=>rfl⟩,?_⟩
   rintro s1 ay v1 aA aL g1 bW ⟨rfl,rfl,rfl,i,j,rfl,rfl,hi,oR,aU,rfl,fi,eM,lo,kz,eq⟩;refine cj (λcl=>?_) λdH=>?_
   .have b2:=xy (i:=i) (j:=j) (by omega) (by omega);refine ML C fi eM jg (i:=(i+j)/2) (j:=a) (by omega) (by omega) b2 rfl λt g2 bG aB=>?_;refine iN (λk_=>?_) λk_=>?_
    .have lu:t<0:=by simpa using k_
     have aT:=bG.1 lu;refine⟨j-((i+j)/2+1),by omega,rfl,rfl,rfl,(i+j)/2+1,j,by rw[b2,bt];omega,rfl,by omega,by omega,aU,rfl,fi.bA aB,eM.trans (aB.off D),λx n2 n0=>?_,kz,λaV=>?_⟩
     .exact aFb (fF x ((i+j)/2) n2 (by omega) (by omega)) aT
     .have:=aV a ((i+j)/2) (by omega) (by omega) (by omega);omega
    .have lu:¬t<0:=by simpa using k_
     have aT:¬key (d ((i+j)/2))<key (d a):=λh=>lu (bG.2 h);refine⟨(i+j)/2-i,by omega,rfl,rfl,rfl,i,(i+j)/2,rfl,b2,hi,by omega,by omega,rfl,fi.bA aB,eM.trans (aB.off D),lo,λx n2 n0=>?_,eq⟩;have:=fF ((i+j)/2) x (by omega) n2 (by omega);omega
   .have BC:i=j:=by omega
    subst BC;refine⟨λs2 br bq g2 eJ=>s2=s1/\br=(i:Nat)/\∃k:Nat,bq=k/\a<=k/\k<=i-1/\eJ=i-1-k/\hT g2 s1 n (p4 d a k)/\eb D h0 g2/\dy a b d (p4 d a k),
     ⟨i-1-a,rfl,rfl,a,rfl,aDt _,by omega,rfl,by rw[Da];exact fi,eM,by rw[Da];exact dy.refl _ _ _⟩,?_⟩
    rintro s2 br bq g2 eJ ⟨rfl,rfl,k,rfl,kO,ki,rfl,eS,ft,hU⟩;have iu:al ((i:Int)-1)=((i-1:Nat):Int):=by rw[bt];omega
    rw[iu];refine cj (λcl=>?_) λdH=>?_
    .refine MM eS fA (i:=k+1) (j:=k) (by omega) (by omega) (by rw[bt];omega) rfl λg3 kE da=>?_;have e:ed (p4 d a k) (k+1) k=p4 d a (k+1):=by rw[xx];exact Z3 kO
     exact⟨i-1-(k+1),by omega,rfl,rfl,k+1,bt,by omega,by omega,rfl,e▸kE,ft.trans da,hU.trans (e▸dy.ed _ (by omega) (by omega))⟩
    .have:k=i-1:=by omega
     subst this;refine⟨rfl,_,eS,ft,hU,Z4 (by omega) aU (fF.sub (by omega) (aDt _)) (λx n2 n0=>lo x (by omega) n0) kz,λaV=>?_⟩;rw[eq aV,Kh,aFc,Da]
  refine cj (λuB=>?_) λuB=>?_
  .rw[bt] at uB;have Cr:b=m+1:=by omega
   refine⟨λbz cL v3 cd cJ g1 bW=>bz=s/\cL=(m:Nat)/\v3=v/\∃i j:Nat,cd=i/\cJ=j/\a<=i/\i<=j/\j<=m/\bW=j-i/\hT g1 s n d/\eb D h0 g1/\(∀x,a<=x->x<i->key (d x)<=key (d m))/\(∀x,j<=x->x<m->key (d m)<key (d x))/\(c1 key a b d->j=m),
    ⟨m-a,rfl,rfl,rfl,a,m,rfl,rfl,aDt _,by omega,aDt _,rfl,A,O,λx _ _=>by omega,λx _ _=>by omega,λ_=>rfl⟩,?_⟩
   rintro bz cL v3 cd cJ g1 bW ⟨rfl,rfl,rfl,i,j,rfl,rfl,hi,oR,aU,rfl,fi,eM,lo,kz,eq⟩;refine cj (λcl=>?_) λdH=>?_
   .have b2:=xy (i:=i) (j:=j) (by omega) (by omega);refine ML C fi eM jg (i:=m) (j:=(i+j)/2) (by omega) (by omega) rfl b2 λt g2 bG aB=>?_;refine wb (λlu=>?_) λlu=>?_
    .have aT:¬key (d m)<key (d ((i+j)/2)):=λh=>lu (bG.2 h);refine⟨j-((i+j)/2+1),by omega,rfl,rfl,rfl,(i+j)/2+1,j,by rw[b2,bt];omega,rfl,by omega,by omega,aU,rfl,fi.bA aB,eM.trans (aB.off D),λx n2 n0=>?_,kz,eq⟩;have:=fz x ((i+j)/2) n2 (by omega) (by omega);omega
    .have aT:=bG.1 lu;refine⟨(i+j)/2-i,by omega,rfl,rfl,rfl,i,(i+j)/2,rfl,b2,hi,by omega,by omega,rfl,fi.bA aB,eM.trans (aB.off D),lo,λx n2 n0=>?_,λaV=>?_⟩
     .exact aEP aT (fz ((i+j)/2) x (by omega) n2 (by omega))
     .have:=aV ((i+j)/2) m (by omega) (by omega) (by omega);omega
   .have BC:i=j:=by omega
    subst BC;refine⟨λbZ dm cw g2 eJ=>bZ=bz/\dm=(i:Nat)/\∃k:Nat,cw=k/\i<=k/\k<=m/\eJ=k/\hT g2 bz n (p5 d m k)/\eb D h0 g2/\dy a b d (p5 d m k),
     ⟨m,rfl,rfl,m,rfl,aU,aDt _,rfl,by rw[Db];exact fi,eM,by rw[Db];exact dy.refl _ _ _⟩,?_⟩
    rintro bZ dm cw g2 eJ ⟨rfl,rfl,k,rfl,kO,ki,rfl,eS,ft,hU⟩;refine cj (λcl=>?_) λdH=>?_
    .refine MM eS fA (i:=eJ-1) (j:=eJ) (by omega) (by omega) (by rw[bt];omega) rfl λg3 kE da=>?_;have e:ed (p5 d m eJ) (eJ-1) eJ=p5 d m (eJ-1):=by rw[xx];exact Z5 ki (by omega)
     exact⟨eJ-1,by omega,rfl,rfl,eJ-1,by rw[bt];omega,by omega,by omega,rfl,e▸kE,ft.trans da,hU.trans (e▸dy.ed _ (by omega) (by omega))⟩
    .have:eJ=i:=by omega
     subst this;refine⟨rfl,_,eS,ft,hU,?_,λaV=>?_⟩
     .rw[Cr];exact Z6 hi aU fz lo kz
     .rw[eq aV,Db]
  rw[bt] at hm uB;have oz:=xy (i:=a) (j:=b) (by omega) (by omega);generalize r3:(a+b)/2=mid at *;have aAC:a<mid/\mid<b:=by omega
  refine⟨λcZ cU fu ey v5 eT n25 n26 n27 g1=>cZ=s/\cU=(a:Nat)/\fu=(m:Nat)/\ey=(b:Nat)/\v5=v/\eT=(mid:Nat)/\n25=((mid+m:Nat):Int)/\g1=g/\∃hf iD:Nat,n26=hf/\n27=iD/\hf<=iD/\a<=hf/\iD<=m/\iD<=mid/\mid+m-hf<=b/\(iD=m∨iD=mid)/\(hf=a∨mid+m-hf=b),?_,?_⟩
  .refine cj (λa1=>?_) λa1=>?_
   .rw[oz] at a1;exact⟨rfl,rfl,rfl,rfl,rfl,oz,by rw[oz,bt];omega,rfl,mid+m-b,mid,by rw[oz,bt (n:=(mid:Int)+m),bt];omega,oz,by omega,by omega,by omega,by omega,by omega,.inr rfl,.inr (by omega)⟩
   .rw[oz] at a1;exact⟨rfl,rfl,rfl,rfl,rfl,oz,by rw[oz,bt];omega,rfl,a,m,rfl,rfl,by omega,by omega,by omega,by omega,by omega,.inl rfl,.inl rfl⟩
  rintro cZ cU fu ey v5 eT n25 n26 n27 g1 ⟨rfl,rfl,rfl,rfl,rfl,rfl,rfl,rfl,hf,iD,rfl,rfl,q1,aI,bb,bH,cH,di,dW⟩;refine⟨λck n28 n29 n30 v6 n31 n32 n33 n34 n35 g2 bW=>ck=cZ/\n28=(a:Nat)/\n29=(m:Nat)/\n30=(b:Nat)/\v6=v5/\n31=(mid:Nat)/\n32=((mid+m:Nat):Int)/\n35=((mid+m-1:Nat):Int)/\∃st r:Nat,n33=st/\n34=r/\hf<=st/\st<=r/\r<=iD/\bW=r-st/\hT g2 cZ n d/\eb D h0 g2 /\
   (st=hf∨key (d (st-1))<=key (d (mid+m-1-(st-1))))/\(r=iD∨key (d (mid+m-1-r))<key (d r))/\(c1 key a b d->r=iD),
   ⟨iD-hf,rfl,rfl,rfl,rfl,rfl,rfl,rfl,by rw[bt];omega,hf,iD,rfl,rfl,aDt _,q1,aDt _,rfl,A,O,.inl rfl,.inl rfl,λ_=>rfl⟩,?_⟩
  rintro ck n28 n29 n30 v6 n31 n32 n33 n34 n35 g2 bW ⟨rfl,rfl,rfl,rfl,rfl,rfl,rfl,rfl,st,r,rfl,rfl,qb,Is,T3,rfl,fi,eM,bK,bu,eq⟩;refine cj (λcl=>?_) λdH=>?_
  .have b2:=xy (i:=st) (j:=r) (by omega) (by omega);have lj:al (((mid+m-1:Nat):Int)-al (((dX (cX (al ((st:Int)+r))) (UInt64.toNat 1)).toNat:Nat):Int))=((mid+m-1-(st+r)/2:Nat):Int):=by rw[b2,bt];omega
   refine ML C fi eM jg (i:=mid+m-1-(st+r)/2) (j:=(st+r)/2) (by omega) (by omega) lj b2 λt g3 bG aG=>?_;refine wb (λlu=>?_) λlu=>?_
   .have aT:¬key (d (mid+m-1-(st+r)/2))<key (d ((st+r)/2)):=λh=>lu (bG.2 h);exact⟨r-((st+r)/2+1),by omega,rfl,rfl,rfl,rfl,rfl,rfl,rfl,rfl,(st+r)/2+1,r,by rw[b2,bt];omega,rfl,by omega,by omega,T3,rfl,fi.bA aG,eM.trans (aG.off D),.inr (by rw[aFc];omega),bu,eq⟩
   .have aT:=bG.1 lu;refine⟨(st+r)/2-st,by omega,rfl,rfl,rfl,rfl,rfl,rfl,rfl,rfl,st,(st+r)/2,rfl,b2,qb,by omega,by omega,rfl,fi.bA aG,eM.trans (aG.off D),bK,.inr aT,λaV=>?_⟩;have:=aV ((st+r)/2) (mid+m-1-(st+r)/2) (by omega) (by omega) (by omega);omega
  .have T4:st=r:=by omega
   subst T4;have KS:al (((mid+m:Nat):Int)-st)=((mid+m-st:Nat):Int):=by rw[bt];omega
   rw[KS];generalize jw:mid+m-st=eN at *;have cut:Cut key a m b st d:=by
    refine⟨by rw[r3];omega,by rw[r3,jw];omega,?_,?_⟩
    .rw[r3,jw];intro aS aY;rcases bu with h|h
     .omega
     .have e:mid+m-1-st=eN-1:=by omega
      rw[e] at h;omega
    .rw[r3,jw];intro aS aY;rcases bK with h|h
     .omega
     .have e:mid+m-1-(st-1)=eN:=by omega
      rw[e] at h;exact h
   have use:=cut.use (d1:=hD d st m eN) ⟨aa,ad⟩ fz fF (by rw[r3,jw]);rw[r3,jw] at use;obtain⟨lX,r_,zB,It,Iu⟩:=use;have kB:st<=m/\st<=mid/\m<=eN/\mid<=eN/\eN<=b:=by omega
   have BD:c1 key a b d->hD d st m eN=d:=λaV=>by
    have:=eq aV;rcases di with h|h
    .have:st=m:=by omega
     rw[this];exact Dc d m eN (by omega)
    .have:eN=m:=by omega
     rw[this];exact Dd d st m (by omega)
   have sP:∀(g4:ak) (d2:Nat->Int),hT g4 ck n d2->eb D h0 g4->dy a b d d2->dy a mid (hD d st m eN) d2->c1 key a mid d2->(c1 key a b d->d2=d) ->
    bl (decide ((mid:Int)<(eN:Int))) (bl (bif true then decide ((eN:Int)<(b:Int)) else false) (aq 221 [aZ ck,U mid,U eN,U b,v6] g4 λv10 cK=>v10= .tuple #[]/\((.tuple #[]:Value)= .tuple #[]/\∃bO,hT cK ck n bO/\eb D h0 cK/\dy a b d bO/\c1 key a b bO/\(c1 key a b d->bO=d)))
     ((.tuple #[]:Value)= .tuple #[]/\∃bO,hT g4 ck n bO/\eb D h0 g4/\dy a b d bO/\c1 key a b bO/\(c1 key a b d->bO=d)))
     ((.tuple #[]:Value)= .tuple #[]/\∃bO,hT g4 ck n bO/\eb D h0 g4/\dy a b d bO/\c1 key a b bO/\(c1 key a b d->bO=d)):=by
    intro g4 d2 hP jv jD BE h2 o0;have tX:∀x,mid<=x->d2 x=hD d st m eN x:=λx ai=>BE.1 x (.inr ai);have done:c1 key mid b d2->∃bO,hT g4 ck n bO/\eb D h0 g4/\dy a b d bO/\c1 key a b bO/\(c1 key a b d->bO=d):=λaV =>
     ⟨d2,hP,jv,jD,merge_join ⟨by omega,by omega⟩ BE h2 (dy.refl _ _ _) aV Iu,o0⟩
    refine cj (λaS=>?_) λaS=>⟨rfl,done ?_⟩
    .refine cj (λaY=>?_) λaY=>⟨rfl,done ?_⟩
     .refine(dI (g:=g4) (d:=d2) (a:=mid) (m:=eN) (b:=b) (by omega) (by omega) (by omega) an hP jv (λx ai=>(jD.mono (eh:=0) (kh:=n) (by omega) (by omega) an).all (λy _ aC=>jg y aC) (by omega) ai) (zB.congr λx y _=>tX x y) (It.congr λx y _=>tX x (by omega))).mono ?_
      rintro _ g5 ⟨rfl,d3,jZ,m4,lE,hr,qg⟩;refine⟨rfl,rfl,d3,jZ,m4,jD.trans (lE.mono (by omega) (by omega) (aDt _)),merge_join ⟨by omega,by omega⟩ BE h2 lE hr Iu,λaV=>?_⟩;have e:=o0 aV;rw[qg (by rw[e];exact aV.sub (by omega) (aDt _)),e]
     .exact(zB.sub (aDt _) (by omega)).congr λx y _=>tX x y
    .exact(It.sub (by omega) (aDt _)).congr λx y _=>tX x y
   have BF:∀(g4:ak),hT g4 ck n (hD d st m eN)->eb D h0 g4->dy a b d (hD d st m eN) ->
    bl (decide ((a:Int)<(st:Int))) (bl (bif true then decide ((st:Int)<(mid:Int)) else false) (aq 221 [aZ ck,U a,U st,U mid,v6] g4 λv9 dT=>v9= .tuple #[]/\bl (decide ((mid:Int)<(eN:Int))) (bl (bif true then decide ((eN:Int)<(b:Int)) else false) (aq 221 [aZ ck,U mid,U eN,U b,v6] dT λv10 cK=>v10= .tuple #[]/\((.tuple #[]:Value)= .tuple #[]/\∃bO,hT cK ck n bO/\eb D h0 cK/\dy a b d bO/\c1 key a b bO/\(c1 key a b d->bO=d)))
     ((.tuple #[]:Value)= .tuple #[]/\∃bO,hT dT ck n bO/\eb D h0 dT/\dy a b d bO/\c1 key a b bO/\(c1 key a b d->bO=d)))
     ((.tuple #[]:Value)= .tuple #[]/\∃bO,hT dT ck n bO/\eb D h0 dT/\dy a b d bO/\c1 key a b bO/\(c1 key a b d->bO=d)))
     (bl (decide ((mid:Int)<(eN:Int))) (bl (bif true then decide ((eN:Int)<(b:Int)) else false) (aq 221 [aZ ck,U mid,U eN,U b,v6] g4 λv10 cK=>v10= .tuple #[]/\((.tuple #[]:Value)= .tuple #[]/\∃bO,hT cK ck n bO/\eb D h0 cK/\dy a b d bO/\c1 key a b bO/\(c1 key a b d->bO=d)))
     ((.tuple #[]:Value)= .tuple #[]/\∃bO,hT g4 ck n bO/\eb D h0 g4/\dy a b d bO/\c1 key a b bO/\(c1 key a b d->bO=d)))
     ((.tuple #[]:Value)= .tuple #[]/\∃bO,hT g4 ck n bO/\eb D h0 g4/\dy a b d bO/\c1 key a b bO/\(c1 key a b d->bO=d))))
     (bl (decide ((mid:Int)<(eN:Int))) (bl (bif true then decide ((eN:Int)<(b:Int)) else false) (aq 221 [aZ ck,U mid,U eN,U b,v6] g4 λv10 cK=>v10= .tuple #[]/\((.tuple #[]:Value)= .tuple #[]/\∃bO,hT cK ck n bO/\eb D h0 cK/\dy a b d bO/\c1 key a b bO/\(c1 key a b d->bO=d)))
     ((.tuple #[]:Value)= .tuple #[]/\∃bO,hT g4 ck n bO/\eb D h0 g4/\dy a b d bO/\c1 key a b bO/\(c1 key a b d->bO=d)))
     ((.tuple #[]:Value)= .tuple #[]/\∃bO,hT g4 ck n bO/\eb D h0 g4/\dy a b d bO/\c1 key a b bO/\(c1 key a b d->bO=d))):=by
    intro g4 hP jv jD;refine cj (λaS=>?_) λaS=>sP g4 _ hP jv jD (dy.refl _ _ _) ?_ BD
    .refine cj (λaY=>?_) λaY=>sP g4 _ hP jv jD (dy.refl _ _ _) ?_ BD
     .refine(dI (g:=g4) (d:=hD d st m eN) (a:=a) (m:=st) (b:=mid) (by omega) (by omega) (by omega) (by omega) hP jv (λx ai=>(jD.mono (eh:=0) (kh:=n) (by omega) (by omega) an).all (λy _ aC=>jg y aC) (by omega) ai) lX r_).mono ?_
      rintro _ g5 ⟨rfl,d3,jZ,m4,lE,hr,qg⟩;refine⟨rfl,sP g5 d3 jZ m4 (jD.trans (lE.mono (aDt _) (by omega) (by omega))) lE hr λaV=>?_⟩;have e:=BD aV;rw[qg (by rw[e];exact aV.sub (aDt _) (by omega)),e]
     .exact lX.sub (aDt _) (by omega)
    .exact r_.sub (by omega) (aDt _)
   refine cj (λaS=>?_) λaS=>BF g2 ?_ eM ?_
   .refine cj (λaY=>?_) λaY=>BF g2 ?_ eM ?_
    .refine(aAA fA aK fi (a:=st) (m:=m) (b:=eN) (by omega) (by omega) (by omega)).mono ?_
     rintro _ g4 ⟨rfl,hP,jv,jD⟩;exact⟨rfl,BF g4 hP (eM.trans jv) (jD.mono (by omega) (by omega) (by omega))⟩
    .have:eN=m:=by omega
     rw[this,Dd d st m (by omega)];exact fi
    .have:eN=m:=by omega
     rw[this,Dd d st m (by omega)];exact dy.refl _ _ _
   .have:st=m:=by omega
    rw[this,Dc d m eN (by omega)];exact fi
   .have:st=m:=by omega
    rw[this,Dc d m eN (by omega)];exact dy.refl _ _ _
theorem aAD (C:r7 prog D h0 v Cs key P)(fA:∀q,s.q=some q->D q.b)(aK:n<=1000000000000){g:ak}{d:Nat->Int}(A:hT g s n d)(O:eb D h0 g)(jg:∀x,x<n->P (d x)) :
 aq 217 [aZ s,U n,v] g λr bw=>r= .tuple #[]/\∃bO,hT bw s n bO/\eb D h0 bw/\dy 0 n d bO/\c1 key 0 n bO/\(c1 key 0 n d->bO=d):=by
 refine auz _ _ _ ?_;unfold acJ;have xv:∀ {e:Nat->Int},dy 0 n d e->∀x,x<n->P (e x):=λp x ai=>p.all (λy _ aC=>jg y aC) (by omega) ai;refine⟨λs1 ay v1 aA aL aO g1 bW=>s1=s/\ay=(n:Nat)/\v1=v/\aA=20/\∃(a:Nat) (e:Nat->Int),aL=a/\aO=((a+20:Nat):Int)/\20 ∣ a/\a<=n/\bW=n-a/\hT g1 s n e/\eb D h0 g1/\dy 0 n d e/\(∀x,20 ∣ x->x+20<=a->c1 key x (x+20) e)/\(c1 key 0 n d->e=d),
  ⟨n,rfl,rfl,rfl,rfl,0,d,rfl,rfl,⟨0,rfl⟩,by omega,rfl,A,O,dy.refl _ _ _,λx _ h=>by omega,λ_=>rfl⟩,?_⟩
 rintro s1 ay v1 aA aL aO g1 bW ⟨rfl,rfl,rfl,rfl,a,e,rfl,rfl,bY,Iv,rfl,fi,eM,ky,nr,tY⟩;refine cj (λhle=>?_) λCA=>?_
 .refine(agj C fA aK fi eM (xv ky) (a:=a) (b:=a+20) (by omega) (by omega)).mono ?_
  rintro _ g2 ⟨rfl,a_,eS,ft,hU,fF,oq⟩;refine⟨rfl,n-(a+20),by omega,rfl,rfl,rfl,rfl,a+20,a_,rfl,by rw[bt];omega,(aFh bY).2 ⟨1,rfl⟩,by omega,rfl,eS,ft,ky.trans (hU.mono (by omega) (by omega) (by omega)),λx ai n0=>?_,λaV=>?_⟩
  .by_cases c:x+20<=a
   .exact(nr x ai c).congr λy _ aC=>hU.1 y (.inl (by omega))
   .obtain⟨p,rfl⟩:=bY;obtain⟨q,rfl⟩:=ai;have:p=q:=by omega
    subst this;exact fF
  .have dM:=tY aV;rw[oq (by rw[dM];exact aV.sub (by omega) (by omega)),dM]
 refine(agj C fA aK fi eM (xv ky) (a:=a) (b:=n) Iv (aDt _)).mono ?_;rintro _ g2 ⟨rfl,a_,eS,ft,hU,fF,oq⟩;refine⟨rfl,λs2 bh v4 bB g3 bW=>s2=s1/\bh=(n:Nat)/\v4=v1/\∃(b8:Nat) (e:Nat->Int),bB=b8/\0<b8/\b8<=2*n+20/\bW=n-b8/\hT g3 s1 n e/\eb D h0 g3/\dy 0 n d e/\(∀x,b8 ∣ x->c1 key x (min (x+b8) n) e)/\(c1 key 0 n d->e=d),
  ⟨n-20,rfl,rfl,rfl,20,a_,rfl,by omega,by omega,rfl,eS,ft,ky.trans (hU.mono (by omega) Iv (aDt _)),λx ai=>?_,λaV=>?_⟩,?_⟩
 .by_cases c:x+20<=a
  .exact((nr x ai c).congr λy _ aC=>hU.1 y (.inl (by omega))).sub (aDt _) (aEK _ _)
  .obtain⟨p,rfl⟩:=bY;obtain⟨q,rfl⟩:=ai;exact fF.sub (by omega) (aFz _ _)
 .have dM:=tY aV;rw[oq (by rw[dM];exact aV.sub (by omega) (aDt _)),dM]
 rintro s2 bh v4 bB g3 bW ⟨rfl,rfl,rfl,b8,f3,rfl,kY,hN,rfl,kE,lQ,Iw,kI,wB⟩;refine cj (λcl=>?_) λdH=>?_
 .refine⟨λbz br v5 bq ca cF g4 eJ=>bz=s2/\br=(n:Nat)/\v5=v4/\bq=(b8:Nat)/\∃(a:Nat) (e:Nat->Int),ca=a/\cF=((a+2*b8:Nat):Int)/\2*b8 ∣ a/\a<=n/\eJ=n-a/\hT g4 s2 n e/\eb D h0 g4/\dy 0 n d e/\(∀x,2*b8 ∣ x->x+2*b8<=a->c1 key x (x+2*b8) e)/\(∀x,b8 ∣ x->a<=x->c1 key x (min (x+b8) n) e)/\(c1 key 0 n d->e=d),
   ⟨n,rfl,rfl,rfl,rfl,0,f3,rfl,by rw[bt];omega,⟨0,rfl⟩,by omega,rfl,kE,lQ,Iw,λx _ h=>by omega,λx ai _=>kI x ai,wB⟩,?_⟩
  rintro bz br v5 bq ca cF g4 eJ ⟨rfl,rfl,rfl,rfl,a4,b6,rfl,rfl,r4,aAE,rfl,hP,jv,jD,wo,kU,o0⟩;have xw:b8 ∣ a4:=Nat.dvd_trans ⟨2,by omega⟩ r4;have Ix:b8 ∣ a4+b8:=(aFh xw).2 ⟨1,by omega⟩;have iu:al ((a4:Int)+b8)=((a4+b8:Nat):Int):=by rw[bt];omega
  rw[iu];refine cj (λhle=>?_) λCA=>?_
  .have eD:=kU a4 xw (aDt _);have fK:=kU (a4+b8) Ix (by omega);rw[aEq (by omega)] at eD fK;refine(agk C fA aK (2*b8) (g:=g4) (d:=b6) (a:=a4) (m:=a4+b8) (b:=a4+2*b8) (by omega) (by omega) (by omega) (by omega) hP jv (xv jD) eD (fK.sub (aDt _) (by omega))).mono ?_;rintro _ g5 ⟨rfl,cG,jZ,m4,lE,hr,qg⟩;refine⟨rfl,n-(a4+2*b8),by omega,rfl,rfl,rfl,rfl,a4+2*b8,cG,rfl,by rw[bt (n:=2*(b8:Int)),bt];omega,(aFh r4).2 ⟨1,by omega⟩,by omega,rfl,jZ,m4,jD.trans (lE.mono (by omega) (by omega) (by omega)),λx ai n0=>?_,λx ai n0=>?_,λaV=>?_⟩
   .by_cases c:x+2*b8<=a4
    .exact(wo x ai c).congr λy _ aC=>lE.1 y (.inl (by omega))
    .have:=xz ai r4;have ad:=xz r4 ai;have:x=a4:=by omega
     subst this;exact hr
   .exact(kU x ai (by omega)).congr λy aC _=>lE.1 y (.inr (by omega))
   .have dM:=o0 aV;rw[qg (by rw[dM];exact aV.sub (by omega) (by omega)),dM]
  have gG:al ((b8:Int)*2)=((2*b8:Nat):Int):=by rw[bt];omega
  rw[gG];refine cj (λmE=>?_) λuw=>?_
  .have eD:=kU a4 xw (aDt _);have fK:=kU (a4+b8) Ix (by omega);rw[aEq (by omega)] at eD;rw[Nat.min_eq_right (by omega)] at fK;refine(agk C fA aK n (g:=g4) (d:=b6) (a:=a4) (m:=a4+b8) (b:=n) (by omega) (by omega) (by omega) (aDt _) hP jv (xv jD) eD fK).mono ?_;rintro _ g5 ⟨rfl,cG,jZ,m4,lE,hr,qg⟩;refine⟨rfl,n-2*b8,by omega,rfl,rfl,rfl,2*b8,cG,rfl,by omega,by omega,rfl,jZ,m4,jD.trans (lE.mono (by omega) (by omega) (aDt _)),λx ai=>?_,λaV=>?_⟩
   .by_cases c:x+2*b8<=a4
    .exact((wo x ai c).congr λy _ aC=>lE.1 y (.inl (by omega))).sub (aDt _) (aEK _ _)
    .have:=xz ai r4;exact hr.sub (by omega) (aFz _ _)
   .have dM:=o0 aV;rw[qg (by rw[dM];exact aV.sub (by omega) (aDt _)),dM]
  .refine⟨n-2*b8,by omega,rfl,rfl,rfl,2*b8,b6,rfl,by omega,by omega,rfl,hP,jv,jD,λx ai=>?_,o0⟩;by_cases c:x+2*b8<=a4
   .exact(wo x ai c).sub (aDt _) (aEK _ _)
   .have:=xz ai r4;have eD:=kU a4 xw (aDt _);exact eD.sub (by omega) (by omega)
 .have:=kI 0 ⟨0,rfl⟩;rw[Nat.min_eq_right (by omega)] at this;exact⟨rfl,f3,kE,lQ,Iw,this,wB⟩
theorem akC (C:r7 prog D h0 v Cs key P)(fA:∀q,s.q=some q->D q.b)(aK:n<=1000000000000){g:ak}{d:Nat->Int}(A:hT g s n d)(O:eb D h0 g)(jg:∀x,x<n->P (d x)) :
 aq 211 [aZ s,v] g λr bw=>r= .tuple #[]/\∃bO,hT bw s n bO/\eb D h0 bw/\dy 0 n d bO/\c1 key 0 n bO/\(c1 key 0 n d->bO=d):=by
 refine Jl _ _ ?_;unfold acH;have aT:=A.len;simp only[aDF,aDL] at aT;rw[aT];refine(aAD C fA aK A O jg).mono ?_;rintro _ g1 ⟨rfl,r⟩;exact⟨rfl,rfl,r⟩
end

import Derived.Test.YtofgadhgljjhgaaGreatArr
namespace Go.Proofs.Tryz
open Go Go.cD Go.RowKit
set_option maxRecDepth 8000
structure Row where
 key:UInt64
 id:UInt64
 deep:Int
def xc (e:Row):List Value:=[ab e.key,ab e.id,U e.deep]
theorem tQ (e:Row):(xc e).length=3:=rfl
theorem akk (e:Row):∀v∈xc e,v.oneCell'=true:=by simp[xc,ab,Value.oneCell']
def BR (e:Row):Value:= .agg #[ab (e.key),ab (e.id),U (e.deep)]
section
variable {s:ar} {n:Nat} {h0:ak} {D:Nat->Prop} {v:Value} {key:Row->Nat} {P:Row->Prop}
abbrev hx (g:ak)(s:ar)(n:Nat)(d:Nat->Row):Prop:=cF 3 xc lE g s ((List.range n).map d)
theorem Lf (C:rj prog D h0 v BR key P){g:ak}{d:Nat->Row}(A:hx g s n d)(O:dN D h0 g)(iC:∀x,x<n->P (d x)){i j:Nat}(hi:i<n)(aV:j<n){I J:Int}(kP:I=i)(Aw:J=j){K:Int->ak->Prop}
 (ag:∀m bo,(m<0↔key (d i)<key (d j))->bL g bo->K m bo) :
 ∃q1,s.q=some q1/\0<=I/\I+1<=(s.len:Int)/\∃bq:UInt64,br g q1.b (q1.o+Int.toNat I*3)=some (ab (bq))/\∃lY:UInt64,br g q1.b (q1.o+Int.toNat I*3+1)=some (ab (lY))/\∃aw:Int,br g q1.b (q1.o+Int.toNat I*3+1+1)=some (U (aw))/\∃aJ,s.q=some aJ/\0<=J/\J+1<=(s.len:Int)/\∃bz:UInt64,br g aJ.b (aJ.o+Int.toNat J*3)=some (ab (bz))/\∃kE:UInt64,br g aJ.b (aJ.o+Int.toNat J*3+1)=some (ab (kE))/\∃aA:Int,br g aJ.b (aJ.o+Int.toNat J*3+1+1)=some (U (aA))/\gi prog v [.agg #[ab (bq),ab (lY),U (aw)],.agg #[ab (bz),ab (kE),U (aA)]] g λr bo=>∃m,r=U m/\K m bo:=by
 subst kP;subst Aw
 refine A.rd.cp tQ (i:=i) (by simpa using hi) λq1 _ ew=>?_
 rw[ri hi] at ew
 obtain⟨a0,aq,aM,_⟩:=ew
 refine⟨_,a0,_,aq,_,aM,?_⟩
 refine A.rd.cp tQ (i:=j) (by simpa using aV) λaJ _ fF=>?_
 rw[ri aV] at fF
 obtain⟨ga,ae,ay,_⟩:=fF
 refine⟨_,ga,_,ae,_,ay,?_⟩
 refine(C g O (d i) (d j) (iC i hi) (iC j aV)).mono ?_
 rintro _ bo ⟨m,rfl,hm,cO⟩
 exact⟨m,rfl,ag m bo hm cO⟩
theorem Lg {g:ak}{d:Nat->Row}(A:hx g s n d)(fp:∀q,s.q=some q->D q.b){i j:Nat}(hi:i<n)(aV:j<n){I J:Int}(kP:I=i)(Aw:J=j){K:ak->Prop}
 (ag:∀bo,hx bo s n (dQ d i j)->dN D g bo->K bo) :
 ∃q1,s.q=some q1/\0<=I/\I+1<=(s.len:Int)/\∃bq:UInt64,br g q1.b (q1.o+Int.toNat I*3)=some (ab (bq))/\∃lY:UInt64,br g q1.b (q1.o+Int.toNat I*3+1)=some (ab (lY))/\∃aw:Int,br g q1.b (q1.o+Int.toNat I*3+1+1)=some (U (aw))/\∃aJ,s.q=some aJ/\0<=J/\J+1<=(s.len:Int)/\∃bz:UInt64,br g aJ.b (aJ.o+Int.toNat J*3)=some (ab (bz))/\∃kE:UInt64,br g aJ.b (aJ.o+Int.toNat J*3+1)=some (ab (kE))/\∃aA:Int,br g aJ.b (aJ.o+Int.toNat J*3+1+1)=some (U (aA))/\∃bd,s.q=some bd/\0<=J/\J+1<=(s.len:Int)/\aX g ⟨bd.b,bd.o+Int.toNat J*3⟩ [ab (bq),ab (lY),U (aw)] λg2=>∃bI,s.q=some bI/\0<=I/\I+1<=(s.len:Int)/\aX g2 ⟨bI.b,bI.o+Int.toNat I*3⟩ [ab (bz),ab (kE),U (aA)] K:=by
 subst kP;subst Aw
 refine A.rd.cp tQ (i:=i) (by simpa using hi) λq1 oX ew=>?_
 rw[ri hi] at ew
 obtain⟨a0,aq,aM,_⟩:=ew
 refine⟨_,a0,_,aq,_,aM,?_⟩
 refine A.rd.cp tQ (i:=j) (by simpa using aV) λaJ tf fF=>?_
 rw[ri aV] at fF
 obtain⟨ga,ae,ay,_⟩:=fF
 refine⟨_,ga,_,ae,_,ay,?_⟩
 have aT:=A.len
 simp only[List.length_map,List.length_range] at aT
 refine⟨aJ,tf,by omega,by omega,?_⟩
 refine uD tQ A tf aV (d i) λg2 ec cb=>?_
 refine⟨q1,oX,by omega,by omega,?_⟩
 refine uD tQ ec oX hi (d j) λg3 j_ c7=>?_
 refine ag g3 ?_ λb au aH=>?_
 .have e:(λx=>if x=i then d j else if x=j then d i else d x)=dQ d i j:=rfl
  rw[<-e];exact j_
 .have hg:∀q,s.q=some q->b≠q.b:=λq aj e=>aH (e▸fp q aj)
  rw[c7 b (hg q1 oX),cb b (hg aJ tf)]
theorem Sk (fp:∀q,s.q=some q->D q.b)(aH:n<=1000000000000){g:ak}{d:Nat->Row}(A:hx g s n d){a b c:Nat}(aa:a+c<=b)(ad:b+c<=n) :
 ao 201 [bb s,U a,U b,U c,v] g λr bo=>r= .tuple #[]/\hx bo s n (kh d a b c)/\dN D g bo/\∀lo hi,lo<=a->b+c<=hi->dc lo hi d (kh d a b c):=by
 refine ary _ _ _ _ _ ?_
 unfold aan
 refine⟨λs1 aw aA aL aO g1 bP=>s1=s/\aw=(a:Nat)/\aA=(b:Nat)/\aL=(c:Nat)/\∃i:Nat,aO=i/\i<=c/\bP=c-i/\hx g1 s n (kh d a b i)/\dN D g g1/\∀lo hi,lo<=a->b+c<=hi->dc lo hi d (kh d a b i),
  ⟨c,rfl,rfl,rfl,rfl,0,rfl,by omega,rfl,by rw[Ji];exact A,dN.refl _ _,λlo hi _ _=>by rw[Ji];exact dc.refl _ _ _⟩,?_⟩
 rintro s1 aw aA aL aO g1 bP ⟨rfl,rfl,rfl,rfl,i,rfl,hi,rfl,e0,ei,j2⟩
 refine cd (λca=>?_) λdx=>?_
 .refine Lg e0 fp (i:=b+i) (j:=a+i) (by omega) (by omega) (by rw[bf (by omega) (by omega)];omega) (by rw[bf (by omega) (by omega)];omega) λg2 ec cb=>?_
  have e:dQ (kh d a b i) (b+i) (a+i)=kh d a b (i+1):=by rw[wz];exact XJ (by omega)
  refine⟨c-(i+1),by omega,rfl,rfl,rfl,rfl,i+1,bf (by omega) (by omega),by omega,rfl,e▸ec,ei.trans cb,λlo hi x y=>?_⟩
  exact(j2 lo hi x y).trans (e▸dc.dQ _ (by omega) (by omega))
 .have:i=c:=by omega
  subst this;exact⟨rfl,e0,ei,j2⟩
theorem axL (fp:∀q,s.q=some q->D q.b)(aH:n<=1000000000000){g:ak}{d:Nat->Row}(A:hx g s n d){a m b:Nat}(aa:a<m)(ad:m<b)(an:b<=n) :
 ao 196 [bb s,U a,U m,U b,v] g λr bo=>r= .tuple #[]/\hx bo s n (ha d a m b)/\dN D g bo/\dc a b d (ha d a m b):=by
 refine arq _ _ _ _ _ ?_
 unfold aal
 refine⟨λs1 aw v1 aA aL g1 bP=>s1=s/\aw=(m:Nat)/\v1=v/\∃i j e,aA=(i:Nat)/\aL=(j:Nat)/\0<i/\0<j/\i<=m-a/\j<=b-m/\bP=i+j/\hx g1 s n e/\dN D g g1/\dc a b d e/\ha e (m-i) m (m+j)=ha d a m b,
  ⟨(m-a)+(b-m),rfl,rfl,rfl,m-a,b-m,d,by rw[bf (by omega) (by omega)];omega,by rw[bf (by omega) (by omega)];omega,by omega,by omega,Nat.le_refl _,Nat.le_refl _,rfl,A,dN.refl _ _,dc.refl _ _ _,by rw[show m-(m-a)=a by omega,show m+(b-m)=b by omega]⟩,?_⟩
 rintro s1 aw v1 aA aL g1 bP ⟨rfl,rfl,rfl,i,j,e,rfl,rfl,n6,u7,hi,aV,rfl,e0,ei,j2,du⟩
 refine u6 (λdf=>?_) λheq=>?_
 .refine cd (λca=>?_) λdx=>?_
  .rw[show al ((m:Int)-i)=((m-i:Nat):Int) by rw[bf (by omega) (by omega)];omega]
   refine(Sk fp aH e0 (a:=m-i) (b:=m) (c:=j) (by omega) (by omega)).mono ?_
   rintro _ g2 ⟨rfl,ec,fe,hv⟩
   refine⟨rfl,(i-j)+j,by omega,rfl,rfl,rfl,i-j,j,_,by rw[bf (by omega) (by omega)];omega,rfl,by omega,u7,by omega,aV,rfl,ec,ei.trans fe,j2.trans (hv a b (by omega) (by omega)),?_⟩
   rw[XL (by omega) (by omega),du]
  .rw[show al ((m:Int)-i)=((m-i:Nat):Int) by rw[bf (by omega) (by omega)];omega,show al (al ((m:Int)+j)-i)=((m+j-i:Nat):Int) by rw[bf (n:=(m:Int)+j) (by omega) (by omega),bf (by omega) (by omega)];omega]
   refine(Sk fp aH e0 (a:=m-i) (b:=m+j-i) (c:=i) (by omega) (by omega)).mono ?_
   rintro _ g2 ⟨rfl,ec,fe,hv⟩
   refine⟨rfl,i+(j-i),by omega,rfl,rfl,rfl,i,j-i,_,rfl,by rw[bf (by omega) (by omega)];omega,n6,by omega,hi,by omega,rfl,ec,ei.trans fe,j2.trans (hv a b (by omega) (by omega)),?_⟩
   rw[XM (by omega) (by omega),du]
 .have:i=j:=by omega
  subst this
  rw[show al ((m:Int)-i)=((m-i:Nat):Int) by rw[bf (by omega) (by omega)];omega]
  refine(Sk fp aH e0 (a:=m-i) (b:=m) (c:=i) (by omega) (by omega)).mono ?_
  rintro _ g2 ⟨rfl,ec,fe,hv⟩
  have a8:kh e (m-i) m i=ha d a m b:=by rw[<-du];exact XK (by omega)
  exact⟨rfl,rfl,a8▸ec,ei.trans fe,a8▸j2.trans (hv a b (by omega) (by omega))⟩
theorem ad6 (C:rj prog D h0 v BR key P)(fp:∀q,s.q=some q->D q.b)(aH:n<=1000000000000){g:ak}{d:Nat->Row}(A:hx g s n d)(O:dN D h0 g)(iC:∀x,x<n->P (d x)){a b:Nat}(aa:a<=b)(ad:b<=n) :
 ao 189 [bb s,U a,U b,v] g λr bo=>r= .tuple #[]/\∃bC,hx bo s n bC/\dN D h0 bo/\dc a b d bC/\cP key a b bC/\(cP key a b d->bC=d):=by
 refine ard _ _ _ _ ?_
 unfold aah
 refine⟨λs1 aw aA v1 aL g1 bP=>s1=s/\aw=(a:Nat)/\aA=(b:Nat)/\v1=v/\∃(i:Nat) (e:Nat->Row),aL=i/\a<i/\i<=b+1/\bP=b+1-i/\hx g1 s n e/\dN D h0 g1/\dc a b d e/\cP key a (min i b) e/\(cP key a b d->e=d),
  ⟨b+1-(a+1),rfl,rfl,rfl,rfl,a+1,d,bf (by omega) (by omega),by omega,by omega,rfl,A,O,dc.refl _ _ _,cP.one (by omega) _,λ_=>rfl⟩,?_⟩
 rintro s1 aw aA v1 aL g1 bP ⟨rfl,rfl,rfl,rfl,i,e,rfl,wZ,j3,rfl,e0,ei,j2,mV,s_⟩
 refine cd (λca=>?_) λdx=>?_
 .have axH:i<b:=by omega
  rw[Nat.min_eq_left (by omega)] at mV
  refine⟨λs2 aO bm v2 bx bu g2 eh=>s2=s1/\aO=(a:Nat)/\bm=(b:Nat)/\v2=v1/\bx=(i:Nat)/\∃(j:Nat) (a8:Nat->Row),bu=j/\eh=j/\sO key a i j a8/\hx g2 s1 n a8/\dN D h0 g2/\dc a b d a8/\(cP key a b d->a8=d),
   ⟨i,rfl,rfl,rfl,rfl,rfl,i,e,rfl,rfl,sO.start (by omega) mV,e0,ei,j2,s_⟩,?_⟩
  rintro s2 aO bm v2 bx bu g2 eh ⟨rfl,rfl,rfl,rfl,rfl,j,a8,rfl,rfl,Ax,ec,fe,hv,nJ⟩
  have sm:=Ax.low
  have Sf:∀x,x<n->P (a8 x):=λx ai=>(hv.mono (dT:=0) (jN:=n) (by omega) aa ad).all (λy _ aB=>iC y aB) (by omega) ai
  have next:∀bo,bL g2 bo->(eh<=a∨¬key (a8 eh)<key (a8 (eh-1)))->∃ch,ch<b+1-i/\s2=s2/\(a:Int)=(a:Nat)/\(b:Int)=(b:Nat)/\v2=v2/\∃(dw:Nat) (e:Nat->Row),al ((i:Int)+1)=dw/\a<dw/\dw<=b+1/\ch=b+1-dw/\hx bo s2 n e/\dN D h0 bo/\dc a b d e/\cP key a (min dw b) e/\(cP key a b d->e=d):=λbo cO bV =>
   ⟨b+1-(i+1),by omega,rfl,rfl,rfl,rfl,i+1,a8,bf (by omega) (by omega),by omega,by omega,rfl,ec.bD cO,fe.trans (cO.off D),hv,by rw[Nat.min_eq_left (by omega)];exact Ax.done bV,nJ⟩
  refine cd (λSg=>?_) λSg=>next g2 (bL.refl _) (.inl (by omega))
  refine Lf C ec fe Sf (i:=eh) (j:=eh-1) (by omega) (by omega) rfl (by rw[bf (by omega) (by omega)];omega) λm g3 hm aI=>?_
  refine h4 (λkH=>?_) λkH=>?_
  .have qJ:m<0:=by simpa using kH
   have mR:=hm.1 qJ
   refine Lg (ec.bD aI) fp (i:=eh-1) (j:=eh) (by omega) (by omega) (by rw[bf (by omega) (by omega)];omega) rfl λg4 hp dr=>?_
   refine⟨eh-1,by omega,rfl,rfl,rfl,rfl,rfl,eh-1,dQ a8 (eh-1) eh,by rw[bf (by omega) (by omega)];omega,rfl,?_,hp,(fe.trans (aI.off D)).trans dr,hv.trans (dc.dQ _ (by omega) (by omega)),λaU=>?_⟩
   .rw[wz];exact Ax.step (by omega) mR
   .have:=nJ aU
    rw[this] at mR
    have:=aU (eh-1) eh (by omega) (by omega) (by omega)
    omega
  .have qJ:¬m<0:=by simpa using kH
   exact next g3 aI (.inr λh=>qJ (hm.2 h))
 .have:min i b=b:=by omega
  rw[this] at mV
  exact⟨rfl,e,e0,ei,j2,mV,s_⟩
theorem ad7 (C:rj prog D h0 v BR key P)(fp:∀q,s.q=some q->D q.b)(aH:n<=1000000000000):∀(N:Nat) {g:ak} {d:Nat->Row} {a m b:Nat},b-a<=N->a<m->m<b->b<=n->hx g s n d->dN D h0 g->(∀x,x<n->P (d x))->cP key a m d->cP key m b d ->
 ao 190 [bb s,U a,U m,U b,v] g λr bo=>r= .tuple #[]/\∃bC,hx bo s n bC/\dN D h0 bo/\dc a b d bC/\cP key a b bC/\(cP key a b d->bC=d):=by
 intro N
 induction N with
 | zero=>intro g d a m b ji aa ad;exact absurd ji (by omega)
 | succ N dK =>
  intro g d a m b ji aa ad an A O iC fm fy
  refine arf _ _ _ _ _ ?_
  unfold aai
  refine cd (λhm=>?_) λhm=>?_
  .rw[bf (by omega) (by omega)] at hm
   have Sh:m=a+1:=by omega
   refine⟨λs1 aw v1 aA aL g1 bP=>s1=s/\aw=(a:Nat)/\v1=v/\∃i j:Nat,aA=i/\aL=j/\m<=i/\i<=j/\j<=b/\bP=j-i/\hx g1 s n d/\dN D h0 g1/\(∀x,m<=x->x<i->key (d x)<key (d a))/\(∀x,j<=x->x<b->key (d a)<=key (d x))/\(cP key a b d->i=m),
    ⟨b-m,rfl,rfl,rfl,m,b,rfl,rfl,Nat.le_refl _,by omega,Nat.le_refl _,rfl,A,O,λx _ _=>by omega,λx _ _=>by omega,λ_=>rfl⟩,?_⟩
   rintro s1 aw v1 aA aL g1 bP ⟨rfl,rfl,rfl,i,j,rfl,rfl,hi,n7,aV,rfl,e0,ei,lo,j3,eq⟩
   refine cd (λca=>?_) λdx=>?_
   .have bR:=wA (i:=i) (j:=j) (by omega) (by omega)
    refine Lf C e0 ei iC (i:=(i+j)/2) (j:=a) (by omega) (by omega) bR rfl λt g2 bw aC=>?_
    refine h4 (λkH=>?_) λkH=>?_
    .have kV:t<0:=by simpa using kH
     have aT:=bw.1 kV
     refine⟨j-((i+j)/2+1),by omega,rfl,rfl,rfl,(i+j)/2+1,j,by rw[bR,bf (by omega) (by omega)];omega,rfl,by omega,by omega,aV,rfl,e0.bD aC,ei.trans (aC.off D),λx nt nr=>?_,j3,λaU=>?_⟩
     .exact Nat.lt_of_le_of_lt (fy x ((i+j)/2) nt (by omega) (by omega)) aT
     .have:=aU a ((i+j)/2) (by omega) (by omega) (by omega);omega
    .have kV:¬t<0:=by simpa using kH
     have aT:¬key (d ((i+j)/2))<key (d a):=λh=>kV (bw.2 h)
     refine⟨(i+j)/2-i,by omega,rfl,rfl,rfl,i,(i+j)/2,rfl,bR,hi,by omega,by omega,rfl,e0.bD aC,ei.trans (aC.off D),lo,λx nt nr=>?_,eq⟩
     have:=fy ((i+j)/2) x (by omega) nt (by omega);omega
   .have Ay:i=j:=by omega
    subst Ay
    refine⟨λs2 bu bt g2 eh=>s2=s1/\bu=(i:Nat)/\∃k:Nat,bt=k/\a<=k/\k<=i-1/\eh=i-1-k/\hx g2 s1 n (pn d a k)/\dN D h0 g2/\dc a b d (pn d a k),
     ⟨i-1-a,rfl,rfl,a,rfl,Nat.le_refl _,by omega,rfl,by rw[B4];exact e0,ei,by rw[B4];exact dc.refl _ _ _⟩,?_⟩
    rintro s2 bu bt g2 eh ⟨rfl,rfl,k,rfl,kl,jO,rfl,ec,fe,hv⟩
    have iA:al ((i:Int)-1)=((i-1:Nat):Int):=by rw[bf (by omega) (by omega)];omega
    rw[iA]
    refine cd (λca=>?_) λdx=>?_
    .refine Lg ec fp (i:=k+1) (j:=k) (by omega) (by omega) (by rw[bf (by omega) (by omega)];omega) rfl λg3 j_ c7=>?_
     have e:dQ (pn d a k) (k+1) k=pn d a (k+1):=by rw[wz];exact XF kl
     exact⟨i-1-(k+1),by omega,rfl,rfl,k+1,bf (by omega) (by omega),by omega,by omega,rfl,e▸j_,fe.trans c7,hv.trans (e▸dc.dQ _ (by omega) (by omega))⟩
    .have:k=i-1:=by omega
     subst this
     refine⟨rfl,_,ec,fe,hv,XG (by omega) aV (fy.sub (by omega) (Nat.le_refl _)) (λx nt nr=>lo x (by omega) nr) j3,λaU=>?_⟩
     rw[eq aU,Sh,Nat.add_sub_cancel,B4]
  refine cd (λtu=>?_) λtu=>?_
  .rw[bf (by omega) (by omega)] at tu
   have Br:b=m+1:=by omega
   refine⟨λbG cL v3 cA cJ g1 bP=>bG=s/\cL=(m:Nat)/\v3=v/\∃i j:Nat,cA=i/\cJ=j/\a<=i/\i<=j/\j<=m/\bP=j-i/\hx g1 s n d/\dN D h0 g1/\(∀x,a<=x->x<i->key (d x)<=key (d m))/\(∀x,j<=x->x<m->key (d m)<key (d x))/\(cP key a b d->j=m),
    ⟨m-a,rfl,rfl,rfl,a,m,rfl,rfl,Nat.le_refl _,by omega,Nat.le_refl _,rfl,A,O,λx _ _=>by omega,λx _ _=>by omega,λ_=>rfl⟩,?_⟩
   rintro bG cL v3 cA cJ g1 bP ⟨rfl,rfl,rfl,i,j,rfl,rfl,hi,n7,aV,rfl,e0,ei,lo,j3,eq⟩
   refine cd (λca=>?_) λdx=>?_
   .have bR:=wA (i:=i) (j:=j) (by omega) (by omega)
    refine Lf C e0 ei iC (i:=m) (j:=(i+j)/2) (by omega) (by omega) rfl bR λt g2 bw aC=>?_
    refine u6 (λkV=>?_) λkV=>?_
    .have aT:¬key (d m)<key (d ((i+j)/2)):=λh=>kV (bw.2 h)
     refine⟨j-((i+j)/2+1),by omega,rfl,rfl,rfl,(i+j)/2+1,j,by rw[bR,bf (by omega) (by omega)];omega,rfl,by omega,by omega,aV,rfl,e0.bD aC,ei.trans (aC.off D),λx nt nr=>?_,j3,eq⟩
     have:=fm x ((i+j)/2) nt (by omega) (by omega);omega
    .have aT:=bw.1 kV
     refine⟨(i+j)/2-i,by omega,rfl,rfl,rfl,i,(i+j)/2,rfl,bR,hi,by omega,by omega,rfl,e0.bD aC,ei.trans (aC.off D),lo,λx nt nr=>?_,λaU=>?_⟩
     .exact Nat.lt_of_lt_of_le aT (fm ((i+j)/2) x (by omega) nt (by omega))
     .have:=aU ((i+j)/2) m (by omega) (by omega) (by omega);omega
   .have Ay:i=j:=by omega
    subst Ay
    refine⟨λbX dp cC g2 eh=>bX=bG/\dp=(i:Nat)/\∃k:Nat,cC=k/\i<=k/\k<=m/\eh=k/\hx g2 bG n (po d m k)/\dN D h0 g2/\dc a b d (po d m k),
     ⟨m,rfl,rfl,m,rfl,aV,Nat.le_refl _,rfl,by rw[B5];exact e0,ei,by rw[B5];exact dc.refl _ _ _⟩,?_⟩
    rintro bX dp cC g2 eh ⟨rfl,rfl,k,rfl,kl,jO,rfl,ec,fe,hv⟩
    refine cd (λca=>?_) λdx=>?_
    .refine Lg ec fp (i:=eh-1) (j:=eh) (by omega) (by omega) (by rw[bf (by omega) (by omega)];omega) rfl λg3 j_ c7=>?_
     have e:dQ (po d m eh) (eh-1) eh=po d m (eh-1):=by rw[wz];exact XH jO (by omega)
     exact⟨eh-1,by omega,rfl,rfl,eh-1,by rw[bf (by omega) (by omega)];omega,by omega,by omega,rfl,e▸j_,fe.trans c7,hv.trans (e▸dc.dQ _ (by omega) (by omega))⟩
    .have:eh=i:=by omega
     subst this
     refine⟨rfl,_,ec,fe,hv,?_,λaU=>?_⟩
     .rw[Br];exact XI hi aV fm lo j3
     .rw[eq aU,B5]
  rw[bf (by omega) (by omega)] at hm tu
  have nQ:=wA (i:=a) (j:=b) (by omega) (by omega)
  generalize re:(a+b)/2=dq at *
  have axI:a<dq/\dq<b:=by omega
  refine⟨λc5 cZ gf fc v5 fs n25 n26 n27 g1=>c5=s/\cZ=(a:Nat)/\gf=(m:Nat)/\fc=(b:Nat)/\v5=v/\fs=(dq:Nat)/\n25=((dq+m:Nat):Int)/\g1=g/\∃jh h2:Nat,n26=jh/\n27=h2/\jh<=h2/\a<=jh/\h2<=m/\h2<=dq/\dq+m-jh<=b/\(h2=m∨h2=dq)/\(jh=a∨dq+m-jh=b),?_,?_⟩
  .refine cd (λaZ=>?_) λaZ=>?_
   .rw[nQ] at aZ
    exact⟨rfl,rfl,rfl,rfl,rfl,nQ,by rw[nQ,bf (by omega) (by omega)];omega,rfl,dq+m-b,dq,by rw[nQ,bf (n:=(dq:Int)+m) (by omega) (by omega),bf (by omega) (by omega)];omega,nQ,by omega,by omega,by omega,by omega,by omega,.inr rfl,.inr (by omega)⟩
   .rw[nQ] at aZ
    exact⟨rfl,rfl,rfl,rfl,rfl,nQ,by rw[nQ,bf (by omega) (by omega)];omega,rfl,a,m,rfl,rfl,by omega,by omega,by omega,by omega,by omega,.inl rfl,.inl rfl⟩
  rintro c5 cZ gf fc v5 fs n25 n26 n27 g1 ⟨rfl,rfl,rfl,rfl,rfl,rfl,rfl,rfl,jh,h2,rfl,rfl,q1,aJ,bd,bI,c2,dj,dP⟩
  refine⟨λcl n28 n29 n30 v6 n31 n32 n33 n34 n35 g2 bP=>cl=c5/\n28=(a:Nat)/\n29=(m:Nat)/\n30=(b:Nat)/\v6=v5/\n31=(dq:Nat)/\n32=((dq+m:Nat):Int)/\n35=((dq+m-1:Nat):Int)/\∃st r:Nat,n33=st/\n34=r/\jh<=st/\st<=r/\r<=h2/\bP=r-st/\hx g2 c5 n d/\dN D h0 g2 /\
   (st=jh∨key (d (st-1))<=key (d (dq+m-1-(st-1))))/\(r=h2∨key (d (dq+m-1-r))<key (d r))/\(cP key a b d->r=h2),
   ⟨h2-jh,rfl,rfl,rfl,rfl,rfl,rfl,rfl,by rw[bf (by omega) (by omega)];omega,jh,h2,rfl,rfl,Nat.le_refl _,q1,Nat.le_refl _,rfl,A,O,.inl rfl,.inl rfl,λ_=>rfl⟩,?_⟩
  rintro cl n28 n29 n30 v6 n31 n32 n33 n34 n35 g2 bP ⟨rfl,rfl,rfl,rfl,rfl,rfl,rfl,rfl,st,r,rfl,rfl,px,Hb,Si,rfl,e0,ei,bz,bq,eq⟩
  refine cd (λca=>?_) λdx=>?_
  .have bR:=wA (i:=st) (j:=r) (by omega) (by omega)
   have kP:al (((dq+m-1:Nat):Int)-al (((dD (cI (al ((st:Int)+r))) (UInt64.toNat 1)).toNat:Nat):Int))=((dq+m-1-(st+r)/2:Nat):Int):=by rw[bR,bf (by omega) (by omega)];omega
   refine Lf C e0 ei iC (i:=dq+m-1-(st+r)/2) (j:=(st+r)/2) (by omega) (by omega) kP bR λt g3 bw aI=>?_
   refine u6 (λkV=>?_) λkV=>?_
   .have aT:¬key (d (dq+m-1-(st+r)/2))<key (d ((st+r)/2)):=λh=>kV (bw.2 h)
    exact⟨r-((st+r)/2+1),by omega,rfl,rfl,rfl,rfl,rfl,rfl,rfl,rfl,(st+r)/2+1,r,by rw[bR,bf (by omega) (by omega)];omega,rfl,by omega,by omega,Si,rfl,e0.bD aI,ei.trans (aI.off D),.inr (by rw[Nat.add_sub_cancel];omega),bq,eq⟩
   .have aT:=bw.1 kV
    refine⟨(st+r)/2-st,by omega,rfl,rfl,rfl,rfl,rfl,rfl,rfl,rfl,st,(st+r)/2,rfl,bR,px,by omega,by omega,rfl,e0.bD aI,ei.trans (aI.off D),bz,.inr aT,λaU=>?_⟩
    have:=aU ((st+r)/2) (dq+m-1-(st+r)/2) (by omega) (by omega) (by omega);omega
  .have Sj:st=r:=by omega
   subst Sj
   have Jj:al (((dq+m:Nat):Int)-st)=((dq+m-st:Nat):Int):=by rw[bf (by omega) (by omega)];omega
   rw[Jj]
   generalize jJ:dq+m-st=ej at *
   have cut:Cut key a m b st d:=by
    refine⟨by rw[re];omega,by rw[re,jJ];omega,?_,?_⟩
    .rw[re,jJ];intro aQ aY
     rcases bq with h|h
     .omega
     .have e:dq+m-1-st=ej-1:=by omega
      rw[e] at h;omega
    .rw[re,jJ];intro aQ aY
     rcases bz with h|h
     .omega
     .have e:dq+m-1-(st-1)=ej:=by omega
      rw[e] at h;exact h
   have use:=cut.use (d1:=ha d st m ej) ⟨aa,ad⟩ fm fy (by rw[re,jJ])
   rw[re,jJ] at use
   obtain⟨lr,rn,yC,Hc,Hd⟩:=use
   have j7:st<=m/\st<=dq/\m<=ej/\dq<=ej/\ej<=b:=by omega
   have Az:cP key a b d->ha d st m ej=d:=λaU=>by
    have:=eq aU
    rcases dj with h|h
    .have:st=m:=by omega
     rw[this];exact B6 d m ej (by omega)
    .have:ej=m:=by omega
     rw[this];exact B7 d st m (by omega)
   have r9:∀(g4:ak) (d2:Nat->Row),hx g4 cl n d2->dN D h0 g4->dc a b d d2->dc a dq (ha d st m ej) d2->cP key a dq d2->(cP key a b d->d2=d) ->
    aG (decide ((dq:Int)<(ej:Int))) (aG (bif true then decide ((ej:Int)<(b:Int)) else false) (ao 190 [bb cl,U dq,U ej,U b,v6] g4 λv10 cM=>v10= .tuple #[]/\((.tuple #[]:Value)= .tuple #[]/\∃bC,hx cM cl n bC/\dN D h0 cM/\dc a b d bC/\cP key a b bC/\(cP key a b d->bC=d)))
     ((.tuple #[]:Value)= .tuple #[]/\∃bC,hx g4 cl n bC/\dN D h0 g4/\dc a b d bC/\cP key a b bC/\(cP key a b d->bC=d)))
     ((.tuple #[]:Value)= .tuple #[]/\∃bC,hx g4 cl n bC/\dN D h0 g4/\dc a b d bC/\cP key a b bC/\(cP key a b d->bC=d)):=by
    intro g4 d2 hp iU jb AA hD om
    have s9:∀x,dq<=x->d2 x=ha d st m ej x:=λx ai=>AA.1 x (.inr ai)
    have done:cP key dq b d2->∃bC,hx g4 cl n bC/\dN D h0 g4/\dc a b d bC/\cP key a b bC/\(cP key a b d->bC=d):=λaU =>
     ⟨d2,hp,iU,jb,merge_join ⟨by omega,by omega⟩ AA hD (dc.refl _ _ _) aU Hd,om⟩
    refine cd (λaQ=>?_) λaQ=>⟨rfl,done ?_⟩
    .refine cd (λaY=>?_) λaY=>⟨rfl,done ?_⟩
     .refine(dK (g:=g4) (d:=d2) (a:=dq) (m:=ej) (b:=b) (by omega) (by omega) (by omega) an hp iU (λx ai=>(jb.mono (dT:=0) (jN:=n) (by omega) (by omega) an).all (λy _ aB=>iC y aB) (by omega) ai) (yC.congr λx y _=>s9 x y) (Hc.congr λx y _=>s9 x (by omega))).mono ?_
      rintro _ g5 ⟨rfl,d3,js,mA,k5,gR,pC⟩
      refine⟨rfl,rfl,d3,js,mA,jb.trans (k5.mono (by omega) (by omega) (Nat.le_refl _)),merge_join ⟨by omega,by omega⟩ AA hD k5 gR Hd,λaU=>?_⟩
      have e:=om aU
      rw[pC (by rw[e];exact aU.sub (by omega) (Nat.le_refl _)),e]
     .exact(yC.sub (Nat.le_refl _) (by omega)).congr λx y _=>s9 x y
    .exact(Hc.sub (by omega) (Nat.le_refl _)).congr λx y _=>s9 x y
   have AB:∀(g4:ak),hx g4 cl n (ha d st m ej)->dN D h0 g4->dc a b d (ha d st m ej) ->
    aG (decide ((a:Int)<(st:Int))) (aG (bif true then decide ((st:Int)<(dq:Int)) else false) (ao 190 [bb cl,U a,U st,U dq,v6] g4 λv9 dM=>v9= .tuple #[]/\aG (decide ((dq:Int)<(ej:Int))) (aG (bif true then decide ((ej:Int)<(b:Int)) else false) (ao 190 [bb cl,U dq,U ej,U b,v6] dM λv10 cM=>v10= .tuple #[]/\((.tuple #[]:Value)= .tuple #[]/\∃bC,hx cM cl n bC/\dN D h0 cM/\dc a b d bC/\cP key a b bC/\(cP key a b d->bC=d)))
     ((.tuple #[]:Value)= .tuple #[]/\∃bC,hx dM cl n bC/\dN D h0 dM/\dc a b d bC/\cP key a b bC/\(cP key a b d->bC=d)))
     ((.tuple #[]:Value)= .tuple #[]/\∃bC,hx dM cl n bC/\dN D h0 dM/\dc a b d bC/\cP key a b bC/\(cP key a b d->bC=d)))
     (aG (decide ((dq:Int)<(ej:Int))) (aG (bif true then decide ((ej:Int)<(b:Int)) else false) (ao 190 [bb cl,U dq,U ej,U b,v6] g4 λv10 cM=>v10= .tuple #[]/\((.tuple #[]:Value)= .tuple #[]/\∃bC,hx cM cl n bC/\dN D h0 cM/\dc a b d bC/\cP key a b bC/\(cP key a b d->bC=d)))
     ((.tuple #[]:Value)= .tuple #[]/\∃bC,hx g4 cl n bC/\dN D h0 g4/\dc a b d bC/\cP key a b bC/\(cP key a b d->bC=d)))
     ((.tuple #[]:Value)= .tuple #[]/\∃bC,hx g4 cl n bC/\dN D h0 g4/\dc a b d bC/\cP key a b bC/\(cP key a b d->bC=d))))
     (aG (decide ((dq:Int)<(ej:Int))) (aG (bif true then decide ((ej:Int)<(b:Int)) else false) (ao 190 [bb cl,U dq,U ej,U b,v6] g4 λv10 cM=>v10= .tuple #[]/\((.tuple #[]:Value)= .tuple #[]/\∃bC,hx cM cl n bC/\dN D h0 cM/\dc a b d bC/\cP key a b bC/\(cP key a b d->bC=d)))
     ((.tuple #[]:Value)= .tuple #[]/\∃bC,hx g4 cl n bC/\dN D h0 g4/\dc a b d bC/\cP key a b bC/\(cP key a b d->bC=d)))
     ((.tuple #[]:Value)= .tuple #[]/\∃bC,hx g4 cl n bC/\dN D h0 g4/\dc a b d bC/\cP key a b bC/\(cP key a b d->bC=d))):=by
    intro g4 hp iU jb
    refine cd (λaQ=>?_) λaQ=>r9 g4 _ hp iU jb (dc.refl _ _ _) ?_ Az
    .refine cd (λaY=>?_) λaY=>r9 g4 _ hp iU jb (dc.refl _ _ _) ?_ Az
     .refine(dK (g:=g4) (d:=ha d st m ej) (a:=a) (m:=st) (b:=dq) (by omega) (by omega) (by omega) (by omega) hp iU (λx ai=>(jb.mono (dT:=0) (jN:=n) (by omega) (by omega) an).all (λy _ aB=>iC y aB) (by omega) ai) lr rn).mono ?_
      rintro _ g5 ⟨rfl,d3,js,mA,k5,gR,pC⟩
      refine⟨rfl,r9 g5 d3 js mA (jb.trans (k5.mono (Nat.le_refl _) (by omega) (by omega))) k5 gR λaU=>?_⟩
      have e:=Az aU
      rw[pC (by rw[e];exact aU.sub (Nat.le_refl _) (by omega)),e]
     .exact lr.sub (Nat.le_refl _) (by omega)
    .exact rn.sub (by omega) (Nat.le_refl _)
   refine cd (λaQ=>?_) λaQ=>AB g2 ?_ ei ?_
   .refine cd (λaY=>?_) λaY=>AB g2 ?_ ei ?_
    .refine(axL fp aH e0 (a:=st) (m:=m) (b:=ej) (by omega) (by omega) (by omega)).mono ?_
     rintro _ g4 ⟨rfl,hp,iU,jb⟩
     exact⟨rfl,AB g4 hp (ei.trans iU) (jb.mono (by omega) (by omega) (by omega))⟩
    .have:ej=m:=by omega
     rw[this,B7 d st m (by omega)];exact e0
    .have:ej=m:=by omega
     rw[this,B7 d st m (by omega)];exact dc.refl _ _ _
   .have:st=m:=by omega
    rw[this,B6 d m ej (by omega)];exact e0
   .have:st=m:=by omega
    rw[this,B6 d m ej (by omega)];exact dc.refl _ _ _
theorem axM (C:rj prog D h0 v BR key P)(fp:∀q,s.q=some q->D q.b)(aH:n<=1000000000000){g:ak}{d:Nat->Row}(A:hx g s n d)(O:dN D h0 g)(iC:∀x,x<n->P (d x)) :
 ao 174 [bb s,U n,v] g λr bo=>r= .tuple #[]/\∃bC,hx bo s n bC/\dN D h0 bo/\dc 0 n d bC/\cP key 0 n bC/\(cP key 0 n d->bC=d):=by
 refine aqS _ _ _ ?_
 unfold aad
 have wx:∀ {e:Nat->Row},dc 0 n d e->∀x,x<n->P (e x):=λp x ai=>p.all (λy _ aB=>iC y aB) (by omega) ai
 refine⟨λs1 aw v1 aA aL aO g1 bP=>s1=s/\aw=(n:Nat)/\v1=v/\aA=20/\∃(a:Nat) (e:Nat->Row),aL=a/\aO=((a+20:Nat):Int)/\20 ∣ a/\a<=n/\bP=n-a/\hx g1 s n e/\dN D h0 g1/\dc 0 n d e/\(∀x,20 ∣ x->x+20<=a->cP key x (x+20) e)/\(cP key 0 n d->e=d),
  ⟨n,rfl,rfl,rfl,rfl,0,d,rfl,rfl,⟨0,rfl⟩,by omega,rfl,A,O,dc.refl _ _ _,λx _ h=>by omega,λ_=>rfl⟩,?_⟩
 rintro s1 aw v1 aA aL aO g1 bP ⟨rfl,rfl,rfl,rfl,a,e,rfl,rfl,bO,He,rfl,e0,ei,j2,mV,s_⟩
 refine cd (λhle=>?_) λER=>?_
 .refine(ad6 C fp aH e0 ei (wx j2) (a:=a) (b:=a+20) (by omega) (by omega)).mono ?_
  rintro _ g2 ⟨rfl,a8,ec,fe,hv,fy,nJ⟩
  refine⟨rfl,n-(a+20),by omega,rfl,rfl,rfl,rfl,a+20,a8,rfl,by rw[bf (by omega) (by omega)];omega,(Nat.dvd_add_right bO).2 ⟨1,rfl⟩,by omega,rfl,ec,fe,j2.trans (hv.mono (by omega) (by omega) (by omega)),λx ai nr=>?_,λaU=>?_⟩
  .by_cases c:x+20<=a
   .exact(mV x ai c).congr λy _ aB=>hv.1 y (.inl (by omega))
   .obtain⟨p,rfl⟩:=bO;obtain⟨q,rfl⟩:=ai
    have:p=q:=by omega
    subst this;exact fy
  .have dB:=s_ aU
   rw[nJ (by rw[dB];exact aU.sub (by omega) (by omega)),dB]
 refine(ad6 C fp aH e0 ei (wx j2) (a:=a) (b:=n) He (Nat.le_refl _)).mono ?_
 rintro _ g2 ⟨rfl,a8,ec,fe,hv,fy,nJ⟩
 refine⟨rfl,λs2 bm v4 bx g3 bP=>s2=s1/\bm=(n:Nat)/\v4=v1/\∃(b6:Nat) (e:Nat->Row),bx=b6/\0<b6/\b6<=2*n+20/\bP=n-b6/\hx g3 s1 n e/\dN D h0 g3/\dc 0 n d e/\(∀x,b6 ∣ x->cP key x (min (x+b6) n) e)/\(cP key 0 n d->e=d),
  ⟨n-20,rfl,rfl,rfl,20,a8,rfl,by omega,by omega,rfl,ec,fe,j2.trans (hv.mono (by omega) He (Nat.le_refl _)),λx ai=>?_,λaU=>?_⟩,?_⟩
 .by_cases c:x+20<=a
  .exact((mV x ai c).congr λy _ aB=>hv.1 y (.inl (by omega))).sub (Nat.le_refl _) (Nat.min_le_left _ _)
  .obtain⟨p,rfl⟩:=bO;obtain⟨q,rfl⟩:=ai
   exact fy.sub (by omega) (Nat.min_le_right _ _)
 .have dB:=s_ aU
  rw[nJ (by rw[dB];exact aU.sub (by omega) (Nat.le_refl _)),dB]
 rintro s2 bm v4 bx g3 bP ⟨rfl,rfl,rfl,b6,f3,rfl,lf,hZ,rfl,j_,kJ,Hf,kf,vm⟩
 refine cd (λca=>?_) λdx=>?_
 .refine⟨λbG bu v5 bt b9 cK g4 eh=>bG=s2/\bu=(n:Nat)/\v5=v4/\bt=(b6:Nat)/\∃(a:Nat) (e:Nat->Row),b9=a/\cK=((a+2*b6:Nat):Int)/\2*b6 ∣ a/\a<=n/\eh=n-a/\hx g4 s2 n e/\dN D h0 g4/\dc 0 n d e/\(∀x,2*b6 ∣ x->x+2*b6<=a->cP key x (x+2*b6) e)/\(∀x,b6 ∣ x->a<=x->cP key x (min (x+b6) n) e)/\(cP key 0 n d->e=d),
   ⟨n,rfl,rfl,rfl,rfl,0,f3,rfl,by rw[bf (by omega) (by omega)];omega,⟨0,rfl⟩,by omega,rfl,j_,kJ,Hf,λx _ h=>by omega,λx ai _=>kf x ai,vm⟩,?_⟩
  rintro bG bu v5 bt b9 cK g4 eh ⟨rfl,rfl,rfl,rfl,a4,b1,rfl,rfl,rf,axK,rfl,hp,iU,jb,vd,kr,om⟩
  have wy:b6 ∣ a4:=Nat.dvd_trans ⟨2,by omega⟩ rf
  have Hg:b6 ∣ a4+b6:=(Nat.dvd_add_right wy).2 ⟨1,by omega⟩
  have iA:al ((a4:Int)+b6)=((a4+b6:Nat):Int):=by rw[bf (by omega) (by omega)];omega
  rw[iA]
  refine cd (λhle=>?_) λER=>?_
  .have ew:=kr a4 wy (Nat.le_refl _)
   have fF:=kr (a4+b6) Hg (by omega)
   rw[Nat.min_eq_left (by omega)] at ew fF
   refine(ad7 C fp aH (2*b6) (g:=g4) (d:=b1) (a:=a4) (m:=a4+b6) (b:=a4+2*b6) (by omega) (by omega) (by omega) (by omega) hp iU (wx jb) ew (fF.sub (Nat.le_refl _) (by omega))).mono ?_
   rintro _ g5 ⟨rfl,cy,js,mA,k5,gR,pC⟩
   refine⟨rfl,n-(a4+2*b6),by omega,rfl,rfl,rfl,rfl,a4+2*b6,cy,rfl,by rw[bf (n:=2*(b6:Int)) (by omega) (by omega),bf (by omega) (by omega)];omega,(Nat.dvd_add_right rf).2 ⟨1,by omega⟩,by omega,rfl,js,mA,jb.trans (k5.mono (by omega) (by omega) (by omega)),λx ai nr=>?_,λx ai nr=>?_,λaU=>?_⟩
   .by_cases c:x+2*b6<=a4
    .exact(vd x ai c).congr λy _ aB=>k5.1 y (.inl (by omega))
    .have:=wB ai rf
     have ad:=wB rf ai
     have:x=a4:=by omega
     subst this;exact gR
   .exact(kr x ai (by omega)).congr λy aB _=>k5.1 y (.inr (by omega))
   .have dB:=om aU
    rw[pC (by rw[dB];exact aU.sub (by omega) (by omega)),dB]
  have gh:al ((b6:Int)*2)=((2*b6:Nat):Int):=by rw[bf (by omega) (by omega)];omega
  rw[gh]
  refine cd (λmR=>?_) λwP=>?_
  .have ew:=kr a4 wy (Nat.le_refl _)
   have fF:=kr (a4+b6) Hg (by omega)
   rw[Nat.min_eq_left (by omega)] at ew
   rw[Nat.min_eq_right (by omega)] at fF
   refine(ad7 C fp aH n (g:=g4) (d:=b1) (a:=a4) (m:=a4+b6) (b:=n) (by omega) (by omega) (by omega) (Nat.le_refl _) hp iU (wx jb) ew fF).mono ?_
   rintro _ g5 ⟨rfl,cy,js,mA,k5,gR,pC⟩
   refine⟨rfl,n-2*b6,by omega,rfl,rfl,rfl,2*b6,cy,rfl,by omega,by omega,rfl,js,mA,jb.trans (k5.mono (by omega) (by omega) (Nat.le_refl _)),λx ai=>?_,λaU=>?_⟩
   .by_cases c:x+2*b6<=a4
    .exact((vd x ai c).congr λy _ aB=>k5.1 y (.inl (by omega))).sub (Nat.le_refl _) (Nat.min_le_left _ _)
    .have:=wB ai rf
     exact gR.sub (by omega) (Nat.min_le_right _ _)
   .have dB:=om aU
    rw[pC (by rw[dB];exact aU.sub (by omega) (Nat.le_refl _)),dB]
  .refine⟨n-2*b6,by omega,rfl,rfl,rfl,2*b6,b1,rfl,by omega,by omega,rfl,hp,iU,jb,λx ai=>?_,om⟩
   by_cases c:x+2*b6<=a4
   .exact(vd x ai c).sub (Nat.le_refl _) (Nat.min_le_left _ _)
   .have:=wB ai rf
    have ew:=kr a4 wy (Nat.le_refl _)
    exact ew.sub (by omega) (by omega)
 .have:=kf 0 ⟨0,rfl⟩
  rw[Nat.min_eq_right (by omega)] at this
  exact⟨rfl,f3,j_,kJ,Hf,this,vm⟩
theorem akK (C:rj prog D h0 v BR key P)(fp:∀q,s.q=some q->D q.b)(aH:n<=1000000000000){g:ak}{d:Nat->Row}(A:hx g s n d)(O:dN D h0 g)(iC:∀x,x<n->P (d x)) :
 ao 155 [bb s,v] g λr bo=>r= .tuple #[]/\∃bC,hx bo s n bC/\dN D h0 bo/\dc 0 n d bC/\cP key 0 n bC/\(cP key 0 n d->bC=d):=by
 refine aqs _ _ ?_
 unfold Z6
 have aT:=A.len
 simp only[List.length_map,List.length_range] at aT
 rw[aT]
 refine(axM C fp aH A O iC).mono ?_
 rintro _ g1 ⟨rfl,r⟩
 exact⟨rfl,rfl,r⟩
end

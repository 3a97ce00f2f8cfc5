import Derived.Test.YtegdpmgnhnccaaaGreatSh
namespace Go.cR
section aot
variable {α:Type}
def oy (key:α->Nat)(up:Bool)(a b:α):α×α:=if (bif up then decide (key b<key a) else decide (key a<key b))=true then (b,a) else (a,b)
def m0 (key:α->Nat)(f:Nat->α)(p:Nat×Nat×Bool):Nat->α:=λx =>
 if x=p.1 then (oy key p.2.2 (f p.1) (f p.2.1)).1 else if x=p.2.1 then (oy key p.2.2 (f p.1) (f p.2.1)).2 else f x
def ip (k j n:Nat):List (Nat×Nat×Bool):=((List.range n).filter λi=>decide (i/j%2=0)).map λi=>(i,i+j,decide (i/k%2=0))
theorem aou (k j n:Nat):ip k j (n+1)=ip k j n++(if n/j%2=0 then [(n,n+j,decide (n/k%2=0))] else []):=by
 unfold ip;rw[aDQ,aFu,aD4];congr 1;by_cases h:n/j%2=0<;>simp[h]
def wG (n a:Nat):Nat->List (Nat×Nat×Bool)
 | 0=>[]
 | b+1=>ip (2 ^ (a+1)) (2 ^ b) n++wG n a b
def yf (n:Nat):Nat->List (Nat×Nat×Bool)
 | 0=>[]
 | a+1=>yf n a++wG n a (a+1)
def jN (K:Nat):List (Nat×Nat×Bool):=yf (2 ^ K) K
def iw (key:α->Nat)(l:List (Nat×Nat×Bool))(f:Nat->α):Nat->α:=l.foldl (m0 key) f
def par (key:α->Nat)(k j:Nat)(f:Nat->α)(x:Nat):α :=
 if x/j%2=0 then (oy key (decide (x/k%2=0)) (f x) (f (x+j))).1
 else (oy key (decide ((x-j)/k%2=0)) (f (x-j)) (f x)).2
theorem Gu {x j:Nat}(aU:0<j):(x+j)/j=x/j+1:=Nat.add_div_right x aU
theorem ZT {x j:Nat}(h:x/j%2≠0):j<=x:=by
 rcases aDZ x j with aa|aa
 .rw[aEE aa] at h;exact absurd rfl h
 .exact aa
theorem aov {x j:Nat}(aU:0<j)(h:j<=x):(x-j)/j+1=x/j:=by
 have:=Gu (x:=x-j) aU;rw[Nat.sub_add_cancel h] at this;omega
theorem Gv (key:α->Nat)(l fw:List (Nat×Nat×Bool))(f:Nat->α):iw key (l++fw) f=iw key fw (iw key l f):=by simp[iw,List.foldl_append]
theorem aow (key:α->Nat)(f:Nat->α)(k j:Nat)(aU:0<j)(n:Nat):∀x,iw key (ip k j n) f x =
 if x/j%2=0 then (if x<n then par key k j f x else f x) else (if x-j<n then par key k j f x else f x):=by
 induction n with
 | zero=>intro x;simp[ip,iw]
 | succ n dI =>
  intro x;rw[aou,Gv];by_cases aK:n/j%2=0
  .rw[aDr aK];have dM:∀(g:Nat->α) p y,iw key [p] g y=m0 key g p y:=λ_ _ _=>rfl;rw[dM];simp only[m0];have aH:iw key (ip k j n) f n=f n:=by rw[dI,aDr aK,cS]
   have Qh:(n+j)/j%2≠0:=by rw[Gu aU];omega
   have a_:iw key (ip k j n) f (n+j)=f (n+j):=by rw[dI,aDq Qh,cS]
   rw[aH,a_];by_cases aa:x=n
   .subst aa;rw[aDr rfl,aDr aK,eY,par,aDr aK]
   .rw[aDq aa];by_cases ad:x=n+j
    .subst ad;rw[aDr rfl,aDq Qh,eY,par,aDq Qh,aFc]
    .rw[aDq ad,dI];by_cases ai:x/j%2=0
     .rw[aDr ai,aDr ai];by_cases an:x<n
      .rw[aDr an,eY]
      .rw[aDq an,cS]
     .have:=ZT ai;rw[aDq ai,aDq ai];by_cases an:x-j<n
      .rw[aDr an,eY]
      .rw[aDq an,cS]
  .rw[aDq aK];have dM:∀(g:Nat->α),iw key [] g=g:=λ_=>rfl;rw[dM,dI];by_cases ai:x/j%2=0
   .rw[aDr ai,aDr ai];have aa:x≠n:=λe=>aK (e▸ai);by_cases an:x<n
    .rw[aDr an,eY]
    .rw[aDq an,cS]
   .rw[aDq ai,aDq ai];have dH:=ZT ai;have aa:x-j≠n:=λe=>by
     have:=aov aU dH;rw[e] at this;omega
    by_cases an:x-j<n
    .rw[aDr an,eY]
    .rw[aDq an,cS]
def qR (k j:Nat)(s:Nat->Bool)(x:Nat):Bool :=
 if x/j%2=0 then (bif decide (x/k%2=0) then s x&&s (x+j) else s x||s (x+j))
 else (bif decide ((x-j)/k%2=0) then s (x-j)||s x else s (x-j)&&s x)
theorem ZU (key:α->Nat)(up:Bool)(a b:α)(t:Nat) :
 decide (t<=key (oy key up a b).1)=(bif up then decide (t<=key a)&&decide (t<=key b) else decide (t<=key a)||decide (t<=key b)) /\
 decide (t<=key (oy key up a b).2)=(bif up then decide (t<=key a)||decide (t<=key b) else decide (t<=key a)&&decide (t<=key b)):=by
 unfold oy;cases up<;>simp only[aED,aEZ,aEJ]
 .by_cases h:key a<key b
  .rw[aDr h];constructor<;>(rw[aDV];simp;omega)
  .rw[aDq h];constructor<;>(rw[aDV];simp;omega)
 .by_cases h:key b<key a
  .rw[aDr h];constructor<;>(rw[aDV];simp;omega)
  .rw[aDq h];constructor<;>(rw[aDV];simp;omega)
theorem aox (key:α->Nat)(k j:Nat)(f:Nat->α)(t x:Nat):decide (t<=key (par key k j f x))=qR k j (λy=>decide (t<=key (f y))) x:=by
 unfold par qR;split
 .exact(ZU key _ _ _ t).1
 .exact(ZU key _ _ _ t).2
def u3 (a:Nat):Nat->(Nat->Bool)->Nat->Bool
 | 0,s=>s
 | b+1,s=>u3 a b (qR (2 ^ (a+1)) (2 ^ b) s)
def rK:Nat->(Nat->Bool)->Nat->Bool
 | 0,s=>s
 | a+1,s=>u3 a (a+1) (rK a s)
theorem Qi {b o i:Nat}(ep:o%2 ^ (b+1)=0)(hi:i<2 ^ (b+1)):(o+i)/2 ^ b%2=0↔i<2 ^ b:=by
 have aP:0<2 ^ b:=aD8 (by decide);obtain⟨q,rfl⟩:=aE9 ep;have e:2 ^ (b+1)=2 ^ b*2:=aD_ 2 b;rw[e,aFF,aFJ aP];by_cases h:i<2 ^ b
 .rw[aEE h];simp[h]
 .have:i/2 ^ b=1:=by
   apply Nat.div_eq_of_lt_le<;>omega
  rw[this];simp[h]
theorem aoy {a b o i:Nat}(ar:b<=a)(ep:o%2 ^ b=0)(hi:i<2 ^ b):(o+i)/2 ^ a=o/2 ^ a:=by
 have aP:0<2 ^ b:=aD8 (by decide);obtain⟨q,rfl⟩:=aE9 ep;have e:2 ^ a=2 ^ b*2 ^ (a-b):=by rw[<-aFH];congr 1;omega
 rw[e,<-aEo,<-aEo,aFJ aP,aEE hi,Nat.mul_div_cancel_left _ aP,aEe]
def u4 (s:Nat->Bool)(o m:Nat):Prop:=∃(c:Bool) (u v:Nat),∀i,i<m->s (o+i)=(c ^^ decide (u<=i/\i<v))
theorem ZV {s lo hi:Nat->Bool}{o h:Nat}(aV:u4 s o (2*h))(aT:∀i,i<h->lo (o+i)=(s (o+i)&&s (o+i+h)))(b2:∀i,i<h->hi (o+h+i)=(s (o+i)||s (o+i+h))) :
 u4 lo o h/\u4 hi (o+h) h/\((∀i,i<h->lo (o+i)=false)∨(∀i,i<h->hi (o+h+i)=true)):=by
 obtain⟨c,u,v,e⟩:=aV;have aH:∀i,i<h->s (o+i)=(c ^^ decide (u<=i/\i<v)):=λi hi=>e i (by omega);have a_:∀i,i<h->s (o+i+h)=(c ^^ decide (u<=i+h/\i+h<v)):=λi hi=>by rw[Nat.add_assoc];exact e (i+h) (by omega)
 have L:∀i,i<h->lo (o+i)=((c ^^ decide (u<=i/\i<v))&&(c ^^ decide (u<=i+h/\i+h<v))):=λi hi=>by rw[aT i hi,aH i hi,a_ i hi]
 have H:∀i,i<h->hi (o+h+i)=((c ^^ decide (u<=i/\i<v))||(c ^^ decide (u<=i+h/\i+h<v))):=λi hi=>by rw[b2 i hi,aH i hi,a_ i hi]
 clear aT b2 e aH a_;cases c
 .simp only[aFy] at L H;refine⟨⟨false,u,v-h,λi hi=>?_⟩,?_,?_⟩
  .rw[L i hi,aFy,aDV];simp;omega
  .by_cases aS:v<=h
   .exact⟨false,u,v,λi hi=>by rw[H i hi,aFy,aDV];simp;omega⟩
   .by_cases aY:h<=u
    .exact⟨false,u-h,v-h,λi hi=>by rw[H i hi,aFy,aDV];simp;omega⟩
    .exact⟨true,v-h,u,λi hi=>by rw[H i hi,Bool.true_xor,aDV];simp;omega⟩
  .by_cases aS:u<v-h/\u<h
   .right;intro i hi;rw[H i hi];simp;omega
   .left;intro i hi;rw[L i hi];simp;omega
 .simp only[Bool.true_xor] at L H;refine⟨?_,⟨true,u,v-h,λi hi=>?_⟩,?_⟩
  .by_cases aS:v<=h
   .exact⟨true,u,v,λi hi=>by rw[L i hi,Bool.true_xor,aDV];simp;omega⟩
   .by_cases aY:h<=u
    .exact⟨true,u-h,v-h,λi hi=>by rw[L i hi,Bool.true_xor,aDV];simp;omega⟩
    .exact⟨false,v-h,u,λi hi=>by rw[L i hi,aFy,aDV];simp;omega⟩
  .rw[H i hi,Bool.true_xor,aDV];simp;omega
  .by_cases aS:u<v-h/\u<h
   .left;intro i hi;rw[L i hi];simp;omega
   .right;intro i hi;rw[H i hi];simp;omega
theorem u4.not {s:Nat->Bool}{o m:Nat}(h:u4 s o m):u4 (λx=>!s x) o m:=by
 obtain⟨c,u,v,e⟩:=h;exact⟨!c,u,v,λi hi=>by show(!s (o+i))=_;rw[e i hi];cases c<;>simp⟩
def C7 (up:Bool)(s:Nat->Bool)(o m:Nat):Prop:=∀i j,i<=j->j<m->(bif up then s (o+i)=true->s (o+j)=true else s (o+j)=true->s (o+i)=true)
theorem C8 {a:Nat}(c:Bool):∀(b:Nat) (s:Nat->Bool) (o:Nat),b<=a+1->o%2 ^ b=0->(∀i,i<2 ^ b->s (o+i)=c)->∀i,i<2 ^ b->u3 a b s (o+i)=c
 | 0,s,o,_,_,h,i,hi=>h i hi
 | b+1,s,o,ar,ep,h,i,hi=>by
  have aP:0<2 ^ b:=aD8 (by decide);have e:2 ^ (b+1)=2 ^ b*2:=aD_ 2 b;have aa:∀i,i<2 ^ (b+1)->qR (2 ^ (a+1)) (2 ^ b) s (o+i)=c:=by
   intro i hi;unfold qR;have iL:=Qi ep hi;split
   .rename_i h0
    have:=iL.1 h0;rw[h i hi,show o+i+2 ^ b=o+(i+2 ^ b) by omega,h (i+2 ^ b) (by omega)];cases c<;>simp
   .rename_i h0
    have ad:¬i<2 ^ b:=λx=>h0 (iL.2 x);rw[h i hi,show o+i-2 ^ b=o+(i-2 ^ b) by omega,h (i-2 ^ b) (by omega)];cases c<;>simp
  have Az:o%2 ^ b=0:=by rw[e] at ep;exact Nat.mod_eq_zero_of_dvd (Nat.dvd_trans (Nat.dvd_mul_right _ _) (aE9 ep))
  show u3 a b (qR (2 ^ (a+1)) (2 ^ b) s) (o+i)=c;by_cases an:i<2 ^ b
  .exact C8 (a:=a) c b _ o (by omega) Az (λi hi=>aa i (by omega)) i an
  .have:=C8 (a:=a) c b (qR (2 ^ (a+1)) (2 ^ b) s) (o+2 ^ b) (by omega) (by rw[Nat.add_mod_right];exact Az) (λi hi=>by rw[Nat.add_assoc];exact aa (2 ^ b+i) (by omega)) (i-2 ^ b) (by omega);rw[show o+i=o+2 ^ b+(i-2 ^ b) by omega];exact this
theorem Qj {a:Nat}:∀(b:Nat) (s:Nat->Bool) (o:Nat),b<=a+1->o%2 ^ b=0->u4 s o (2 ^ b)->C7 (decide (o/2 ^ (a+1)%2=0)) (u3 a b s) o (2 ^ b)
 | 0,s,o,_,_,_=>by
  intro i j aa ad;have an:i=0/\j=0:=by simp at ad;omega
  obtain⟨rfl,rfl⟩:=an;cases decide (o/2 ^ (a+1)%2=0)<;>simp
 | b+1,s,o,ar,ep,Gw=>by
  have aP:0<2 ^ b:=aD8 (by decide);have e:2 ^ (b+1)=2*2 ^ b:=by rw[aD_];omega
  have Az:o%2 ^ b=0:=by rw[e] at ep;exact Nat.mod_eq_zero_of_dvd (Nat.dvd_trans (Nat.dvd_mul_left _ _) (aE9 ep))
  have Qk:(o+2 ^ b)%2 ^ b=0:=by rw[Nat.add_mod_right];exact Az
  have b4:∀i,i<2 ^ (b+1)->(o+i)/2 ^ (a+1)=o/2 ^ (a+1):=λi hi=>aoy ar ep hi;have k2:(o+2 ^ b)/2 ^ (a+1)=o/2 ^ (a+1):=b4 _ (by omega);generalize jg:qR (2 ^ (a+1)) (2 ^ b) s=p;have C9:∀i,i<2 ^ b->p (o+i)=(bif decide (o/2 ^ (a+1)%2=0) then s (o+i)&&s (o+i+2 ^ b) else s (o+i)||s (o+i+2 ^ b)):=λi hi=>by
   rw[<-jg];unfold qR;rw[aDr ((Qi ep (by omega)).2 hi),b4 i (by omega)]
  have C_:∀i,i<2 ^ b->p (o+2 ^ b+i)=(bif decide (o/2 ^ (a+1)%2=0) then s (o+i)||s (o+i+2 ^ b) else s (o+i)&&s (o+i+2 ^ b)):=λi hi=>by
   rw[<-jg];unfold qR;have aH:o+2 ^ b+i=o+(2 ^ b+i):=by omega
   rw[aDq (by rw[aH,Qi ep (by omega)];omega),show o+2 ^ b+i-2 ^ b=o+i by omega,b4 i (by omega),show o+2 ^ b+i=o+i+2 ^ b by omega]
  have key:u4 p o (2 ^ b)/\u4 p (o+2 ^ b) (2 ^ b)/\(bif decide (o/2 ^ (a+1)%2=0) then ((∀i,i<2 ^ b->p (o+i)=false)∨(∀i,i<2 ^ b->p (o+2 ^ b+i)=true)) else ((∀i,i<2 ^ b->p (o+i)=true)∨(∀i,i<2 ^ b->p (o+2 ^ b+i)=false))):=by
   rw[e] at Gw;cases hu:decide (o/2 ^ (a+1)%2=0) with
   | true =>
    rw[hu] at C9 C_;simp only[aED] at C9 C_ ⊢;exact ZV Gw C9 C_
   | false =>
    rw[hu] at C9 C_;simp only[aEZ] at C9 C_ ⊢;obtain⟨aa,ad,an⟩:=ZV (lo:=λx=>!p x) (hi:=λx=>!p x) Gw.not (λi hi=>by simp[C9 i hi]) (λi hi=>by simp[C_ i hi]);refine⟨by simpa using aa.not,by simpa using ad.not,?_⟩;rcases an with an|an
    .left;intro i hi;have:=an i hi;simpa using this
    .right;intro i hi;have:=an i hi;simpa using this
  obtain⟨ae,ax,aM⟩:=key;have s1:=Qj (a:=a) b p o (by omega) Az ae;have s2:=Qj (a:=a) b p (o+2 ^ b) (by omega) Qk ax;rw[k2] at s2;show C7 _ (u3 a b (qR (2 ^ (a+1)) (2 ^ b) s)) o (2 ^ (b+1));rw[jg];intro i j oR aU;by_cases FE:j<2 ^ b
  .exact s1 i j oR FE
  .by_cases xU:i<2 ^ b
   .rw[show o+j=o+2 ^ b+(j-2 ^ b) by omega];cases hu:decide (o/2 ^ (a+1)%2=0) with
    | true =>
     rw[hu] at aM;simp only[aED] at aM ⊢;rcases aM with aM|aM
     .intro h;rw[C8 false b p o (by omega) Az aM i xU] at h;cases h
     .intro _;exact C8 true b p _ (by omega) Qk aM _ (by omega)
    | false =>
     rw[hu] at aM;simp only[aEZ] at aM ⊢;rcases aM with aM|aM
     .intro _;exact C8 true b p o (by omega) Az aM i xU
     .intro h;rw[C8 false b p _ (by omega) Qk aM _ (by omega)] at h;cases h
   .have:=s2 (i-2 ^ b) (j-2 ^ b) (by omega) (by omega);rw[show o+2 ^ b+(i-2 ^ b)=o+i by omega,show o+2 ^ b+(j-2 ^ b)=o+j by omega] at this;exact this
theorem Ql {s:Nat->Bool}{o:Nat}:∀m,(∀i j,i<=j->j<m->s (o+i)=true->s (o+j)=true)->∃u,u<=m/\∀i,i<m->s (o+i)=decide (u<=i)
 | 0,_=>⟨0,by omega,λi hi=>by omega⟩
 | m+1,h=>by
  obtain⟨u,hu,aV⟩:=Ql m (λi j aa ad=>h i j aa (by omega));cases e:s (o+m) with
  | true =>
   refine⟨u,by omega,λi hi=>?_⟩;by_cases hm:i=m
   .subst hm;rw[e];simp[hu]
   .exact aV i (by omega)
  | false =>
   refine⟨m+1,by omega,λi hi=>?_⟩;have:s (o+i)≠true:=λx=>by rw[h i m (by omega) (by omega) x] at e;cases e
   simp only[Bool.not_eq_true] at this;rw[this];simp;omega
theorem aoz {s:Nat->Bool}{o h:Nat}(aa:C7 true s o h)(ad:C7 false s (o+h) h):u4 s o (2*h):=by
 obtain⟨u,hu,aH⟩:=Ql h (λi j a b=>aa i j a b);obtain⟨v,b0,a_⟩:=Ql (s:=λx=>!s x) (o:=o+h) h (λi j a b=>by
  have:=ad i j a b;simp only[aEZ] at this;simp only[Bool.not_eq_true'];intro aK;cases e:s (o+h+j) with
  | false=>rfl
  | true=>rw[this e] at aK;cases aK)
 refine⟨false,u,h+v,λi hi=>?_⟩;rw[aFy];by_cases c:i<h
 .rw[aH i c,aDV];simp;omega
 .have:=a_ (i-h) (by omega);rw[show o+h+(i-h)=o+i by omega] at this;have an:s (o+i)= !decide (v<=i-h):=by rw[<-this];simp
  rw[an,aDV];simp;omega
theorem Qm:∀(a:Nat) (s:Nat->Bool) (o:Nat),o%2 ^ a=0->C7 (decide (o/2 ^ a%2=0)) (rK a s) o (2 ^ a)
 | 0,s,o,_=>by
  intro i j aa ad;have an:i=0/\j=0:=by simp at ad;omega
  obtain⟨rfl,rfl⟩:=an;cases decide (o/2 ^ 0%2=0)<;>simp
 | a+1,s,o,ep=>by
  have aP:0<2 ^ a:=aD8 (by decide);have e:2 ^ (a+1)=2*2 ^ a:=by rw[aD_];omega
  show C7 _ (u3 a (a+1) (rK a s)) o (2 ^ (a+1));refine Qj (a+1) _ o (aDt _) ep ?_;obtain⟨q,rfl⟩:=aE9 ep;have aH:2 ^ (a+1)*q/2 ^ a=2*q:=by
   rw[e,show 2*2 ^ a*q=2 ^ a*(2*q) by rw[aDW 2,aFF]];exact Nat.mul_div_cancel_left _ aP
  have mu:2 ^ (a+1)*q%2 ^ a=0:=by
   rw[e,show 2*2 ^ a*q=2 ^ a*(2*q) by rw[aDW 2,aFF]];exact Nat.mul_mod_right _ _
  have s1:=Qm a s (2 ^ (a+1)*q) mu;have s2:=Qm a s (2 ^ (a+1)*q+2 ^ a) (by rw[Nat.add_mod_right];exact mu);rw[aH,pa] at s1;rw[Gu aP,aH,gT] at s2;rw[e];rw[e] at s1 s2;exact aoz s1 s2
theorem aoA (key:α->Nat){K a b:Nat}(ar:b<K)(f:Nat->α){x:Nat}(ai:x<2 ^ K):iw key (ip (2 ^ (a+1)) (2 ^ b) (2 ^ K)) f x=par key (2 ^ (a+1)) (2 ^ b) f x:=by
 rw[aow key f _ _ (aD8 (by decide)),aDr ai,aDr (aFb (Nat.sub_le x (2 ^ b)) ai),ite_self]
theorem aoB {K b k:Nat}(ar:b<K){s cE:Nat->Bool}(h:∀x,x<2 ^ K->s x=cE x){x:Nat}(ai:x<2 ^ K):qR k (2 ^ b) s x=qR k (2 ^ b) cE x:=by
 unfold qR;split
 .rename_i h0
  have aP:0<2 ^ b:=aD8 (by decide);have ad:x+2 ^ b<2 ^ K:=by
   have e:2 ^ K=2 ^ b*2 ^ (K-b):=by rw[<-aFH];congr 1;omega
   have a_:2 ^ (K-b)%2=0:=by
    rw[show K-b=(K-b-1)+1 by omega,aD_];omega
   have an:x/2 ^ b<2 ^ (K-b):=by rw[aEC aP,aDW,<-e];exact ai
   have aJ:x/2 ^ b+1<2 ^ (K-b):=by omega
   have aR:(x+2 ^ b)/2 ^ b<2 ^ (K-b):=by rw[Gu aP];exact aJ
   rw[aEC aP,aDW,<-e] at aR;exact aR
  rw[h x ai,h _ ad]
 .rename_i h0
  rw[h x ai,h (x-2 ^ b) (aFb (Nat.sub_le x (2 ^ b)) ai)]
theorem ZW (key:α->Nat){K a:Nat}(t:Nat):∀(b:Nat) (f:Nat->α) (s:Nat->Bool),b<=K->(∀x,x<2 ^ K->s x=decide (t<=key (f x)))->∀x,x<2 ^ K->u3 a b s x=decide (t<=key (iw key (wG (2 ^ K) a b) f x))
 | 0,f,s,_,h,x,ai=>h x ai
 | b+1,f,s,ar,h,x,ai=>by
  show u3 a b _ x=decide (t<=key (iw key (ip (2 ^ (a+1)) (2 ^ b) (2 ^ K)++wG (2 ^ K) a b) f x));rw[Gv];refine ZW key t b _ _ (by omega) (λx ai=>?_) x ai;rw[aoA key (by omega) f ai,aox];exact aoB (by omega) h ai
theorem Qn (key:α->Nat){K:Nat}(t:Nat)(f:Nat->α):∀a,a<=K->∀x,x<2 ^ K->rK a (λx=>decide (t<=key (f x))) x=decide (t<=key (iw key (yf (2 ^ K) a) f x))
 | 0,_,x,ai=>rfl
 | a+1,bY,x,ai=>by
  show u3 a (a+1) _ x=decide (t<=key (iw key (yf (2 ^ K) a++wG (2 ^ K) a (a+1)) f x));rw[Gv];exact ZW key t (a+1) _ _ bY (Qn key t f a (by omega)) x ai
theorem KQ (key:α->Nat)(K:Nat)(f:Nat->α){i j:Nat}(oR:i<=j)(aU:j<2 ^ K):key (iw key (jN K) f i)<=key (iw key (jN K) f j):=by
 have h:=Qm K (λx=>decide (key (iw key (jN K) f i)<=key (f x))) 0 (Nat.zero_mod _);rw[Nat.zero_div,aDA (by decide)] at h;have aa:=h i j oR aU;simp only[aED,aEX] at aa;rw[Qn key _ f K (aDt _) i (by omega),Qn key _ f K (aDt _) j aU] at aa;exact aDN (aa (aDA (aDt _)))
theorem aoC {n i j:Nat}(hi:i<n)(aU:j<n)(dA:i≠j){f g:Nat->α}(h:∀x,x≠i->x≠j->g x=f x)(aV:(g i=f i/\g j=f j)∨(g i=f j/\g j=f i)) :
 ((List.range n).map g).Perm ((List.range n).map f):=by
 have ho:(List.range n).Perm (i::j::((List.range n).erase i).erase j) :=
  (aFC (aDT.2 hi)).trans (List.Perm.cons _ (aFC ((List.mem_erase_of_ne dA.symm).2 (aDT.2 aU))))
 have ja:(List.range n).Nodup:=List.nodup_range;have aQ:(((List.range n).erase i).erase j).map g=(((List.range n).erase i).erase j).map f:=by
  apply aDU;intro x ai;have aa:=(aE0 (ja.erase i)).1 ai;have ad:=(aE0 ja).1 aa.2;exact h x ad.1 aa.1
 have aH:=ho.map g;have a_:=ho.map f;simp only[aEs] at aH a_;rw[aQ] at aH;rcases aV with ⟨a,b⟩|⟨a,b⟩
 .rw[a,b] at aH;exact aH.trans a_.symm
 .rw[a,b] at aH;exact aH.trans ((List.Perm.swap _ _ _).trans a_.symm)
theorem aoD (key:α->Nat)(f:Nat->α){n:Nat}{p:Nat×Nat×Bool}(aa:p.1<p.2.1)(ad:p.2.1<n):((List.range n).map (m0 key f p)).Perm ((List.range n).map f):=by
 refine aoC (i:=p.1) (j:=p.2.1) (by omega) ad (by omega) (λx a b=>by simp[m0,a,b]) ?_;have aH:m0 key f p p.1=(oy key p.2.2 (f p.1) (f p.2.1)).1:=by simp[m0]
 have a_:m0 key f p p.2.1=(oy key p.2.2 (f p.1) (f p.2.1)).2:=by simp only[m0];rw[cS];simp
 rw[aH,a_];unfold oy;split
 .exact .inr ⟨rfl,rfl⟩
 .exact .inl ⟨rfl,rfl⟩
theorem aoE (key:α->Nat)(f:Nat->α){n:Nat}{p:Nat×Nat×Bool}(aa:p.1<p.2.1)(ad:p.2.1<n){x:Nat}(ai:n<=x):m0 key f p x=f x:=by
 simp only[m0];rw[cS,cS]
theorem ZX (key:α->Nat){n:Nat}:∀(l:List (Nat×Nat×Bool)) (f:Nat->α),(∀p∈l,p.1<p.2.1/\p.2.1<n)->((List.range n).map (iw key l f)).Perm ((List.range n).map f)/\∀x,n<=x->iw key l f x=f x
 | [],f,_=>⟨List.Perm.refl _,λ_ _=>rfl⟩
 | p::l,f,h=>by
  have aP:=h p (aDH ..);obtain⟨aa,ad⟩:=ZX key l (m0 key f p) (λq aj=>h q (aDI _ aj));exact⟨aa.trans (aoD key f aP.1 aP.2),λx ai=>(ad x ai).trans (aoE key f aP.1 aP.2 ai)⟩
theorem aoF {K b k:Nat}(ar:b<K):∀p∈ip k (2 ^ b) (2 ^ K),p.1<p.2.1/\p.2.1<2 ^ K:=by
 intro p aP;have qB:0<2 ^ b:=aD8 (by decide);simp only[ip,aD2,aFd,aDT,aEJ] at aP;obtain⟨x,⟨ai,h0⟩,rfl⟩:=aP;refine⟨by show x<x+2 ^ b;omega,?_⟩;show x+2 ^ b<2 ^ K;have e:2 ^ K=2 ^ b*2 ^ (K-b):=by rw[<-aFH];congr 1;omega
 have a_:2 ^ (K-b)%2=0:=by
  rw[show K-b=(K-b-1)+1 by omega,aD_];omega
 have an:x/2 ^ b<2 ^ (K-b):=by rw[aEC qB,aDW,<-e];exact ai
 have aR:(x+2 ^ b)/2 ^ b<2 ^ (K-b):=by rw[Gu qB];omega
 rw[aEC qB,aDW,<-e] at aR;exact aR
theorem ZY {K a:Nat}:∀b,b<=K->∀p∈wG (2 ^ K) a b,p.1<p.2.1/\p.2.1<2 ^ K
 | 0,_,p,aP=>by simp[wG] at aP
 | b+1,ar,p,aP=>by
  rcases aDO.1 aP with h|h
  .exact aoF (by omega) p h
  .exact ZY b (by omega) p h
theorem Gx {K:Nat}:∀a,a<=K->∀p∈yf (2 ^ K) a,p.1<p.2.1/\p.2.1<2 ^ K
 | 0,_,p,aP=>by simp[yf] at aP
 | a+1,bY,p,aP=>by
  rcases aDO.1 aP with h|h
  .exact Gx a (by omega) p h
  .exact ZY (a+1) bY p h
theorem ZZ (key:α->Nat)(K:Nat)(f:Nat->α):((List.range (2 ^ K)).map (iw key (jN K) f)).Perm ((List.range (2 ^ K)).map f)/\∀x,2 ^ K<=x->iw key (jN K) f x=f x :=
 ZX key _ f (Gx K (aDt _))
end aot
end Go.cR
namespace Go.cR
section aoG
variable {α:Type}
def ed (d:Nat->α)(i j:Nat):Nat->α:=λx=>if x=i then d j else if x=j then d i else d x
def dy (a b:Nat)(d bO:Nat->α):Prop:=(∀x,x<a∨b<=x->bO x=d x)/\((List.range' a (b-a)).map bO).Perm ((List.range' a (b-a)).map d)
theorem dy.refl (a b:Nat)(d:Nat->α):dy a b d d:=⟨λ_ _=>rfl,List.Perm.refl _⟩
theorem dy.trans {a b:Nat}{d bO Z0:Nat->α}(p:dy a b d bO)(q:dy a b bO Z0):dy a b d Z0 :=
 ⟨λx ai=>(q.1 x ai).trans (p.1 x ai),q.2.trans p.2⟩
theorem Z1 {a m b:Nat}(aa:a<=m)(ad:m<=b):List.range' a (b-a)=List.range' a (m-a)++List.range' m (b-m):=by
 rw[show b-a=(m-a)+(b-m) by omega,<-List.range'_append_1,show a+(m-a)=m by omega]
theorem Z2 {a n:Nat}{d bO:Nat->α}(h:∀x,a<=x->x<a+n->bO x=d x):(List.range' a n).map bO=(List.range' a n).map d :=
 aDU λx ai=>by
  have:=aFw.1 ai;exact h x this.1 this.2
theorem dy.mono {a b eh kh:Nat}{d bO:Nat->α}(p:dy a b d bO)(aa:eh<=a)(ad:a<=b)(an:b<=kh):dy eh kh d bO:=by
 refine⟨λx ai=>p.1 x (by omega),?_⟩;rw[Z1 (m:=a) aa (by omega),Z1 (a:=a) (m:=b) ad an];simp only[aD4];rw[Z2 (a:=eh) (d:=d) (bO:=bO) λx _ ai=>p.1 x (by omega),Z2 (a:=b) (d:=d) (bO:=bO) λx ai _=>p.1 x (by omega)];exact(List.Perm.refl _).append (p.2.append (List.Perm.refl _))
theorem dy.all {a b:Nat}{d bO:Nat->α}(p:dy a b d bO){P:α->Prop}(h:∀x,a<=x->x<b->P (d x)){x:Nat}(aa:a<=x)(ad:x<b):P (bO x):=by
 have hm:bO x∈(List.range' a (b-a)).map bO:=List.mem_map_of_mem (aFw.2 ⟨aa,by omega⟩);obtain⟨y,aC,e⟩:=aD2.1 (p.2.mem_iff.1 hm);have:=aFw.1 aC;rw[<-e];exact h y this.1 (by omega)
theorem dy.ed {a b i j:Nat}(d:Nat->α)(hi:a<=i/\i<b)(aU:a<=j/\j<b):dy a b d (ed d i j):=by
 refine⟨λx ai=>by simp only[Go.cR.ed];rw[cS,cS],?_⟩;by_cases e:i=j
 .subst e;have:Go.cR.ed d i i=d:=by funext x;simp only[Go.cR.ed];split<;>simp_all
  rw[this]
 have ja:(List.range' a (b-a)).Nodup:=List.nodup_range';have ho:(List.range' a (b-a)).Perm (i::j::((List.range' a (b-a)).erase i).erase j) :=
  (aFC (aFw.2 ⟨hi.1,by omega⟩)).trans (List.Perm.cons _ (aFC ((List.mem_erase_of_ne (λh=>e h.symm)).2 (aFw.2 ⟨aU.1,by omega⟩))))
 have aQ:(((List.range' a (b-a)).erase i).erase j).map (Go.cR.ed d i j)=(((List.range' a (b-a)).erase i).erase j).map d:=by
  apply aDU;intro x ai;have aa:=(aE0 (ja.erase i)).1 ai;have ad:=(aE0 ja).1 aa.2;simp only[Go.cR.ed];rw[aDq ad.1,aDq aa.1]
 have aH:=ho.map (Go.cR.ed d i j);have a_:=ho.map d;simp only[aEs] at aH a_;rw[aQ] at aH;have av:Go.cR.ed d i j i=d j:=by simp[Go.cR.ed]
 have aN:Go.cR.ed d i j j=d i:=by simp only[Go.cR.ed];rw[aDq (λh=>e h.symm)];simp
 rw[av,aN] at aH;exact aH.trans ((List.Perm.swap _ _ _).trans a_.symm)
def c1 (key:α->Nat)(a b:Nat)(d:Nat->α):Prop:=∀i j,a<=i->i<=j->j<b->key (d i)<=key (d j)
variable {key:α->Nat}
theorem c1.sub {a b eh kh:Nat}{d:Nat->α}(s:c1 key a b d)(aa:a<=eh)(ad:kh<=b):c1 key eh kh d:=λi j x y z=>s i j (by omega) y (by omega)
theorem c1.congr {a b:Nat}{d bO:Nat->α}(s:c1 key a b d)(h:∀x,a<=x->x<b->bO x=d x):c1 key a b bO:=λi j x y z=>by
 rw[h i x (by omega),h j (by omega) z];exact s i j x y z
theorem c1.one {a b:Nat}(h:b<=a+1)(d:Nat->α):c1 key a b d:=λi j aa ad an=>by
 have:i=j:=by omega
 subst this;exact aDt _
theorem c1.join {a m b:Nat}{d:Nat->α}(s:c1 key a m d)(t:c1 key m b d)(h:∀i j,a<=i->i<m->m<=j->j<b->key (d i)<=key (d j)):c1 key a b d:=λi j x y z=>by
 by_cases aS:j<m
 .exact s i j x y aS
 .by_cases aY:i<m
  .exact h i j x aY (by omega) z
  .exact t i j (by omega) y z
structure tB (key:α->Nat)(a i j:Nat)(e:Nat->α):Prop where
 low:a<=j/\j<=i
 ord:∀x y,a<=x->x<=y->y<=i->x≠j->y≠j->key (e x)<=key (e y)
 up:∀y,j<y->y<=i->key (e j)<key (e y)
theorem tB.start {a i:Nat}{e:Nat->α}(h:a<=i)(s:c1 key a i e):tB key a i i e:=⟨⟨h,aDt _⟩,λx y aa ad an aJ aR=>s x y aa ad (by omega),λy aa ad=>by omega⟩
theorem tB.step {a i j:Nat}{e:Nat->α}(s:tB key a i j e)(aU:a<j)(cl:key (e j)<key (e (j-1))):tB key a i (j-1) (ed e j (j-1)):=by
 have lF:ed e j (j-1) j=e (j-1):=by simp[ed]
 have aoH:ed e j (j-1) (j-1)=e j:=by simp only[ed];rw[cS];simp
 have uM:∀x,x≠j->x≠j-1->ed e j (j-1) x=e x:=λx aa ad=>by simp only[ed];rw[aDq aa,aDq ad]
 have aT:=s.low;refine⟨by omega,λx y aa ad an aJ aR=>?_,λy aa ad=>?_⟩
 .by_cases aS:x=j
  .by_cases aY:y=j
   .rw[aS,aY];exact aDt _
   .rw[aS,lF,uM y aY aR];exact s.ord (j-1) y (by omega) (by omega) an (by omega) aY
  .by_cases aY:y=j
   .rw[aY,lF,uM x aS aJ];exact s.ord x (j-1) aa (by omega) (by omega) aS (by omega)
   .rw[uM x aS aJ,uM y aY aR];exact s.ord x y aa ad an aS aY
 .rw[aoH];by_cases c:y=j
  .rw[c,lF];exact cl
  .rw[uM y c (by omega)];exact s.up y (by omega) ad
theorem tB.done {a i j:Nat}{e:Nat->α}(s:tB key a i j e)(h:j<=a∨¬key (e j)<key (e (j-1))):c1 key a (i+1) e:=λx y aa ad an=>by
 have aT:=s.low;by_cases aS:x=j
 .by_cases aY:y=j
  .rw[aS,aY];exact aDt _
  .rw[aS];exact Nat.le_of_lt (s.up y (by omega) (by omega))
 .by_cases aY:y=j
  .rcases h with h|h
   .omega
   .rw[aY];have aJ:key (e x)<=key (e (j-1)):=s.ord x (j-1) aa (by omega) (by omega) aS (by omega);omega
  .exact s.ord x y aa ad (by omega) aS aY
def p4 (d:Nat->α)(a k:Nat):Nat->α:=λx=>if a<=x/\x<k then d (x+1) else if x=k then d a else d x
theorem Da (d:Nat->α)(a:Nat):p4 d a a=d:=by
 funext x;simp only[p4];rw[cS];split
 .rename_i h;rw[h]
 .rfl
theorem Z3 {d:Nat->α}{a k:Nat}(h:a<=k):ed (p4 d a k) k (k+1)=p4 d a (k+1):=by
 funext x;simp only[ed,p4];by_cases aS:x=k
 .rw[aDr aS,cS,cS,eY,aS]
 .rw[aDq aS];by_cases aY:x=k+1
  .rw[aDr aY,cS,aDr trivial,cS];simp[aY]
  .rw[aDq aY];by_cases cB:a<=x/\x<k
   .rw[aDr cB,eY]
   .rw[aDq cB,aDq aS,cS,aDq aY]
theorem Z4 {d:Nat->α}{a i b:Nat}(aa:a<i)(ad:i<=b)(s:c1 key (a+1) b d)(lo:∀x,a+1<=x->x<i->key (d x)<key (d a))(hi:∀x,i<=x->x<b->key (d a)<=key (d x)):c1 key a b (p4 d a (i-1)):=λx y an aJ aR=>by
 simp only[p4];by_cases aS:a<=x/\x<i-1
 .rw[aDr aS];by_cases aY:a<=y/\y<i-1
  .rw[aDr aY];exact s _ _ (by omega) (by omega) (by omega)
  .rw[aDq aY];by_cases cB:y=i-1
   .rw[aDr cB];exact Nat.le_of_lt (lo _ (by omega) (by omega))
   .rw[aDq cB];exact s _ _ (by omega) (by omega) (by omega)
 .rw[aDq aS,aDq (show ¬(a<=y/\y<i-1) by omega)];by_cases cB:x=i-1
  .rw[aDr cB];by_cases dQ:y=i-1
   .rw[aDr dQ];exact aDt _
   .rw[aDq dQ];exact hi _ (by omega) (by omega)
  .rw[aDq cB,cS];exact s _ _ (by omega) (by omega) (by omega)
def p5 (d:Nat->α)(m k:Nat):Nat->α:=λx=>if k<x/\x<=m then d (x-1) else if x=k then d m else d x
theorem Db (d:Nat->α)(m:Nat):p5 d m m=d:=by
 funext x;simp only[p5];rw[cS];split
 .rename_i h;rw[h]
 .rfl
theorem Z5 {d:Nat->α}{m k:Nat}(h:k<=m)(h0:0<k):ed (p5 d m k) k (k-1)=p5 d m (k-1):=by
 funext x;simp only[ed,p5];by_cases aS:x=k
 .rw[aDr aS,cS,cS,eY,aS]
 .rw[aDq aS];by_cases aY:x=k-1
  .rw[aDr aY,cS,aDr trivial,cS];simp[aY]
  .rw[aDq aY];by_cases cB:k<x/\x<=m
   .rw[aDr cB,eY]
   .rw[aDq cB,aDq aS,cS,aDq aY]
theorem Z6 {d:Nat->α}{a i m:Nat}(aa:a<=i)(ad:i<=m)(s:c1 key a m d)(lo:∀x,a<=x->x<i->key (d x)<=key (d m))(hi:∀x,i<=x->x<m->key (d m)<key (d x)):c1 key a (m+1) (p5 d m i):=λx y an aJ aR=>by
 simp only[p5];by_cases aS:i<y/\y<=m
 .rw[aDr aS];by_cases aY:i<x/\x<=m
  .rw[aDr aY];exact s _ _ (by omega) (by omega) (by omega)
  .rw[aDq aY];by_cases cB:x=i
   .rw[aDr cB];exact Nat.le_of_lt (hi _ (by omega) (by omega))
   .rw[aDq cB];exact s _ _ (by omega) (by omega) (by omega)
 .rw[aDq aS,aDq (show ¬(i<x/\x<=m) by omega)];by_cases cB:y=i
  .rw[aDr cB];by_cases dQ:x=i
   .rw[aDr dQ];exact aDt _
   .rw[aDq dQ];exact lo _ (by omega) (by omega)
  .rw[aDq cB,cS];exact s _ _ (by omega) (by omega) (by omega)
def kK (d:Nat->α)(a b n:Nat):Nat->α:=λx=>if a<=x/\x<a+n then d (x-a+b) else if b<=x/\x<b+n then d (x-b+a) else d x
theorem KR (d:Nat->α)(a b:Nat):kK d a b 0=d:=by funext x;simp only[kK];rw[cS,cS]
theorem Z7 {d:Nat->α}{a b n:Nat}(h:a+n<b):ed (kK d a b n) (a+n) (b+n)=kK d a b (n+1):=by
 funext x;simp only[ed,kK]
 repeat' split
 all_goals first|(exfalso;omega)|rfl|(congr 1;omega)
def hD (d:Nat->α)(a m b:Nat):Nat->α:=λx=>if a<=x/\x<a+(b-m) then d (x+(m-a)) else if a+(b-m)<=x/\x<b then d (x-(b-m)) else d x
theorem Z8 {d:Nat->α}{m i:Nat}(h:i<=m):kK d (m-i) m i=hD d (m-i) m (m+i):=by
 funext x;simp only[kK,hD]
 repeat' split
 all_goals first|(exfalso;omega)|rfl|(congr 1;omega)
theorem Z9 {d:Nat->α}{m i j:Nat}(h:i<=m)(aU:j<i):hD (kK d (m-i) m j) (m-(i-j)) m (m+j)=hD d (m-i) m (m+j):=by
 funext x;simp only[kK,hD]
 repeat' split
 all_goals first|(exfalso;omega)|rfl|(congr 1;omega)
theorem Z_ {d:Nat->α}{m i j:Nat}(h:i<=m)(aU:i<j):hD (kK d (m-i) (m+j-i) i) (m-i) m (m+(j-i))=hD d (m-i) m (m+j):=by
 funext x;simp only[kK,hD]
 repeat' split
 all_goals first|(exfalso;omega)|rfl|(congr 1;omega)
theorem Dc (d:Nat->α)(m b:Nat)(h:m<=b):hD d m m b=d:=by
 funext x;simp only[hD];by_cases aS:m<=x/\x<m+(b-m)
 .rw[aDr aS];congr 1;omega
 .rw[aDq aS,cS]
theorem Dd (d:Nat->α)(a m:Nat)(h:a<=m):hD d a m m=d:=by
 funext x;simp only[hD];rw[cS];by_cases aS:a+(m-m)<=x/\x<m
 .rw[aDr aS];congr 1;omega
 .rw[aDq aS]
structure Cut (key:α->Nat)(a m b st:Nat)(d:Nat->α):Prop where
 lo:a<=st/\st<=m/\st<=(a+b)/2
 eN:m<=(a+b)/2+m-st/\(a+b)/2+m-st<=b
 bu:st<m->m<(a+b)/2+m-st->key (d ((a+b)/2+m-st-1))<=key (d st)
 bK:a<st->(a+b)/2+m-st<b->key (d (st-1))<=key (d ((a+b)/2+m-st))
theorem Cut.use {a m b st:Nat}{d d1:Nat->α}(Pp:a<m/\m<b)(s1:c1 key a m d)(s2:c1 key m b d)(c:Cut key a m b st d)(b4:d1=hD d st m ((a+b)/2+m-st)) :
 c1 key a st d1/\c1 key st ((a+b)/2) d1/\c1 key ((a+b)/2) ((a+b)/2+m-st) d1/\c1 key ((a+b)/2+m-st) b d1/\∀i j,a<=i->i<(a+b)/2->(a+b)/2<=j->j<b->key (d1 i)<=key (d1 j):=by
 subst b4;obtain⟨⟨hz,gg,og⟩,⟨aH,a_⟩,bu,bK⟩:=c;generalize oz:(a+b)/2=mid at *;have uB:a<=mid/\mid<b:=by omega
 generalize KS:mid+m-st=eN at *;have kB:st+(eN-m)=mid:=by omega
 have eD:∀x,x<st->hD d st m eN x=d x:=λx ai=>by simp only[hD];rw[cS,cS]
 have fK:∀x,st<=x->x<mid->hD d st m eN x=d (x+(m-st)):=λx aa ad=>by simp only[hD];rw[eY]
 have oT:∀x,mid<=x->x<eN->hD d st m eN x=d (x-(eN-m)):=λx aa ad=>by simp only[hD];rw[cS,eY]
 have tC:∀x,eN<=x->hD d st m eN x=d x:=λx ai=>by simp only[hD];rw[cS,cS]
 refine⟨λi j aa ad an=>?_,λi j aa ad an=>?_,λi j aa ad an=>?_,λi j aa ad an=>?_,λi j aa ad an aJ=>?_⟩
 .rw[eD i (by omega),eD j an];exact s1 _ _ aa ad (by omega)
 .rw[fK i aa (by omega),fK j (by omega) an];exact s2 _ _ (by omega) (by omega) (by omega)
 .rw[oT i aa (by omega),oT j (by omega) an];exact s1 _ _ (by omega) (by omega) (by omega)
 .rw[tC i aa,tC j (by omega)];exact s2 _ _ (by omega) (by omega) an
 .by_cases aS:i<st
  .rw[eD i aS];by_cases aY:j<eN
   .rw[oT j an aY];exact s1 _ _ aa (by omega) (by omega)
   .rw[tC j (by omega)];have aD:key (d i)<=key (d (st-1)):=s1 _ _ aa (by omega) (by omega);have aB:=bK (by omega) (by omega);have aG:key (d eN)<=key (d j):=s2 _ _ (by omega) (by omega) aJ;omega
  .rw[fK i (by omega) ad];by_cases aY:j<eN
   .rw[oT j an aY];have aD:key (d (i+(m-st)))<=key (d (eN-1)):=s2 _ _ (by omega) (by omega) (by omega);have aB:=bu (by omega) (by omega);have aG:key (d st)<=key (d (j-(eN-m))):=s1 _ _ (by omega) (by omega) (by omega);omega
   .rw[tC j (by omega)];exact s2 _ _ (by omega) (by omega) aJ
theorem merge_join {a mid b:Nat}{d1 d2 d3:Nat->α}(h:a<=mid/\mid<=b)(ho:dy a mid d1 d2)(s1:c1 key a mid d2)(iz:dy mid b d2 d3)(s2:c1 key mid b d3)(lo:∀i j,a<=i->i<mid->mid<=j->j<b->key (d1 i)<=key (d1 j)):c1 key a b d3:=by
 have aa:∀x,x<mid->d3 x=d2 x:=λx ai=>iz.1 x (.inl ai);refine c1.join (s1.congr λx _ ai=>aa x ai) s2 λi j av aN a3 a4=>?_;refine iz.all (P:=λz=>key (d3 i)<=key z) (λy ae ax=>?_) a3 a4;rw[aa i aN,ho.1 y (.inr ae)];exact ho.all (P:=λz=>key z<=key (d1 y)) (λz aS aY=>lo z y aS aY ae ax) av aN
end aoG
end Go.cR
namespace Go.cR
structure oo where
 bV:Int
 on:Nat
 st:Nat
def iY (k s t:Nat)(x:oo)(deep:Int):oo×Option Nat :=
 let bV:=if deep<x.bV then deep else x.bV
 let on:=if deep<x.bV then 0 else x.on
 if bV<0 then (if x.st=t then (⟨bV,on,x.st⟩,none) else (⟨bV,on,x.st+1⟩,some (s*(k+1)+x.st)))
 else (if on+1=s then ⟨bV-1,0,x.st⟩ else ⟨bV,on+1,x.st⟩,some (bV.toNat*s+on))
def iZ (k s t:Nat):List Int->oo->List (Option Nat)
 | [],_=>[]
 | d::l,x=>if d<0 then none::l.map (λ_=>none) else (iY k s t x d).2::iZ k s t l (iY k s t x d).1
theorem JL (k s t:Nat):∀(l:List Int) (x:oo),(iZ k s t l x).length=l.length
 | [],_=>rfl
 | d::l,x=>by
  unfold iZ;split
  .simp
  .simp[JL k s t l]
def gF:List Int->Nat
 | []=>0
 | d::l=>if d<0 then 0 else gF l+1
theorem uE:∀l:List Int,gF l<=l.length
 | []=>by simp[gF]
 | d::l=>by
  unfold gF;split;· omega
  .have:=uE l;simp;omega
def qA (n:Nat)(cN:List (Option Nat)):List Nat:=(List.range n).filter λx=>!cN.contains (some x)
def i_:List (Option Nat)->List Nat->List Nat
 | [],_=>[]
 | some p::l,r=>p::i_ l r
 | none::l,r=>r.headD 0::i_ l r.tail
def hk (k:Nat):oo:=⟨k,0,0⟩
def lx (k s t:Nat)(l:List Int):List Nat:=i_ (iZ k s t l (hk k)) (qA l.length (iZ k s t l (hk k)))
def lP (k s t:Nat)(l:List Int):List Nat:=(List.range (gF l)).filter λi=>(iZ k s t l (hk k)).getD i none==none
def yg (k s t:Nat)(x:oo)(p:Nat):Prop :=
 (p<s*(k+1)->(p/s:Nat)<x.bV∨((p/s:Nat)=x.bV/\x.on<=p%s))/\(s*(k+1)<=p->s*(k+1)+x.st<=p/\p<s*(k+1)+t)
structure uD (k s t:Nat)(x:oo):Prop where
 bV:x.bV<=k
 on:x.on<s
 st:x.st<=t
theorem aaa {k s:Nat}{a b:Nat}(bY:a<=k)(ar:b<s):a*s+b<s*(k+1):=by
 have aa:a*s<=k*s:=aEm s bY;have ad:s*(k+1)=k*s+s:=by rw[aEU,aEV,aDW]
 omega
theorem CO {s a b:Nat}(ar:b<s):(a*s+b)/s=a/\(a*s+b)%s=b:=by
 have aV:0<s:=by omega
 constructor
 .rw[aDW,aFJ aV,aEE ar,aEe]
 .rw[aDW,Nat.mul_add_mod,aEF ar]
theorem W2 {k s t:Nat}{x:oo}(w:uD k s t x){d:Int}(b4:0<=d) :
 uD k s t (iY k s t x d).1/\(∀p,yg k s t (iY k s t x d).1 p->yg k s t x p) /\
 (∀p,(iY k s t x d).2=some p->yg k s t x p/\¬yg k s t (iY k s t x d).1 p/\p<s*(k+1)+t/\(p<s*(k+1)->((p/s:Nat):Int)<=d)) /\
 ((iY k s t x d).2=none->x.st=t)/\(iY k s t x d).1.st<=x.st+1:=by
 obtain⟨ji,h6,sm⟩:=w;have aV:0<s:=by omega
 generalize l4:(if d<x.bV then d else x.bV)=bV;generalize jR:(if d<x.bV then 0 else x.on)=on;have e:iY k s t x d=if bV<0 then (if x.st=t then (⟨bV,on,x.st⟩,none) else (⟨bV,on,x.st+1⟩,some (s*(k+1)+x.st))) else (if on+1=s then ⟨bV-1,0,x.st⟩ else ⟨bV,on+1,x.st⟩,some (bV.toNat*s+on)):=by
  unfold iY;rw[l4,jR]
 have aT:bV<=x.bV/\bV<=d/\on<s:=by
  by_cases c:d<x.bV
  .rw[aDr c] at l4 jR;omega
  .rw[aDq c] at l4 jR;omega
 have KT:∀p st,x.st<=st->yg k s t ⟨bV,on,st⟩ p->yg k s t x p:=by
  intro p st kB h;refine⟨λaP=>?_,λaP=>?_⟩
  .have:=h.1 aP;by_cases c:d<x.bV
   .rw[aDr c] at l4 jR;simp only at this;left;omega
   .rw[aDq c] at l4 jR;simp only at this;omega
  .have:=h.2 aP;simp only at this;omega
 rw[e];by_cases aS:bV<0
 .rw[aDr aS];by_cases aY:x.st=t
  .rw[aDr aY];exact⟨⟨by simp only;omega,aT.2.2,sm⟩,λp h=>KT p _ (aDt _) h,λp h=>(by cases h),λ_=>aY,by simp⟩
  .rw[aDq aY];refine⟨⟨by simp only;omega,aT.2.2,by simp only;omega⟩,λp h=>KT p _ (by omega) h,λp h=>?_,λh=>(by cases h),by simp⟩;have aP:s*(k+1)+x.st=p:=aDX h;subst aP;exact⟨⟨λh=>by omega,λ_=>⟨aDt _,by omega⟩⟩,λh=>by have:=(h.2 (by omega)).1;simp only at this;omega,by omega,λh=>by omega⟩
 .rw[aDq aS];have ha:((bV.toNat:Nat):Int)=bV:=by omega
  have cl:bV.toNat*s+on<s*(k+1):=aaa (by omega) aT.2.2;obtain⟨d1,d2⟩:=CO (a:=bV.toNat) aT.2.2;have BY:yg k s t ⟨bV,on,x.st⟩ (bV.toNat*s+on):=⟨λ_=> .inr ⟨by rw[d1];exact ha,by rw[d2];exact aDt _⟩,λh=>by omega⟩;have kB:((if on+1=s then ⟨bV-1,0,x.st⟩ else ⟨bV,on+1,x.st⟩:oo)).st=x.st:=by split<;>rfl
  refine⟨?_,λp h=>KT p x.st (aDt _) ?_,λp h=>?_,λh=>(by cases h),by simp only[kB];omega⟩
  .split
   .exact⟨by simp only;omega,by simp only;omega,sm⟩
   .exact⟨by simp only;omega,by simp only;omega,sm⟩
  .refine⟨λaP=>?_,λaP=>?_⟩
   .have:=h.1 aP;by_cases aY:on+1=s
    .simp only[aDr aY] at this;simp only;left;omega
    .simp only[aDq aY] at this;simp only;omega
   .have:=h.2 aP;simp only[kB] at this;exact this
  .have aP:bV.toNat*s+on=p:=aDX h;subst aP;refine⟨KT _ x.st (aDt _) BY,λh=>?_,by omega,λ_=>by rw[d1];omega⟩;have:=h.1 cl;rw[d1,d2] at this;by_cases aY:on+1=s
   .simp only[aDr aY] at this;omega
   .simp only[aDq aY] at this;omega
theorem FF {k s t:Nat}:∀(l:List Int) (x:oo),uD k s t x ->
 (∀p,some p∈iZ k s t l x->yg k s t x p/\p<s*(k+1)+t) /\
 (∀(i j p:Nat),(iZ k s t l x)[i]? =some (some p)->(iZ k s t l x)[j]? =some (some p)->i=j) /\
 (∀(i p:Nat) (d:Int),(iZ k s t l x)[i]? =some (some p)->l[i]? =some d->0<=d/\(p<s*(k+1)->((p/s:Nat):Int)<=d)) /\
 (∀(i:Nat),i<gF l->x.st+i<t->∃p,(iZ k s t l x)[i]? =some (some p)) /\
 (∀(i p:Nat),(iZ k s t l x)[i]? =some (some p)->i<gF l)
 | [],x,_=>⟨λp h=>by simp[iZ] at h,λi j p h=>by simp[iZ] at h,λi p d h=>by simp[iZ] at h,λi h=>by simp[gF] at h,λi p h=>by simp[iZ] at h⟩
 | d::l,x,w=>by
  by_cases c:d<0
  .have e:iZ k s t (d::l) x=none::l.map (λ_=>none):=by rw[iZ,aDr c]
   rw[e];have no:∀(i p:Nat),¬((none:Option Nat)::l.map (λ_=>none))[i]? =some (some p):=by
    intro i p h;have:=aFD h;simp at this
   refine⟨λp h=>by simp at h,λi j p h=>absurd h (no i p),λi p d h=>absurd h (no i p),λi h=>by rw[gF,aDr c] at h;omega,λi p h=>absurd h (no i p)⟩
  .have e:iZ k s t (d::l) x=(iY k s t x d).2::iZ k s t l (iY k s t x d).1:=by rw[iZ,aDq c]
   rw[e];obtain⟨ay,aA,aL,aO,bh⟩:=W2 w (d:=d) (by omega);obtain⟨i1,i2,i3,i4,i5⟩:=FF l (iY k s t x d).1 ay;refine⟨λp h=>?_,λi j p hi aU=>?_,λi p bO hi b4=>?_,λi hi aV=>?_,λi p hi=>?_⟩
   .rcases aEr.1 h with h|h
    .have:=aL p h.symm;exact⟨this.1,this.2.2.1⟩
    .have:=i1 p h;exact⟨aA p this.1,this.2⟩
   .cases i with
    | zero =>
     cases j with
     | zero=>rfl
     | succ j =>
      simp only[aDK,aEj] at hi;simp only[aDJ] at aU;exact absurd (i1 p (aFD aU)).1 (aL p hi).2.1
    | succ i =>
     cases j with
     | zero =>
      simp only[aDK,aEj] at aU;simp only[aDJ] at hi;exact absurd (i1 p (aFD hi)).1 (aL p aU).2.1
     | succ j =>
      simp only[aDJ] at hi aU;rw[i2 i j p hi aU]
   .cases i with
    | zero =>
     simp only[aDK,aEj] at hi b4;subst b4;exact⟨by omega,(aL p hi).2.2.2⟩
    | succ i =>
     simp only[aDJ] at hi b4;exact i3 i p bO hi b4
   .rw[gF,aDq c] at hi;cases i with
    | zero =>
     simp only[aDK,aEj];cases h:(iY k s t x d).2 with
     | some p=>exact⟨p,rfl⟩
     | none=>have:=aO h;omega
    | succ i =>
     simp only[aDJ];exact i4 i (by omega) (by omega)
   .rw[gF,aDq c];cases i with
    | zero=>omega
    | succ i =>
     simp only[aDJ] at hi;have:=i5 i p hi;omega
theorem FP:∀(l:List (Option Nat)) (r:List Nat),(i_ l r).length=l.length
 | [],_=>rfl
 | some p::l,r=>by simp[i_,FP l]
 | none::l,r=>by simp[i_,FP l]
def je (l:List (Option Nat)):Nat:=(l.filter (·==none)).length
theorem Qo:∀(l:List (Option Nat)) (r:List Nat),je l<=r.length->r.Nodup->(∀p,some p∈l->p∉r)->(∀(i j p:Nat),l[i]? =some (some p)->l[j]? =some (some p)->i=j) ->
 (i_ l r).Nodup/\(∀p∈i_ l r,some p∈l∨p∈r)/\∀(i p:Nat),l[i]? =some (some p)->(i_ l r)[i]? =some p
 | [],r,_,_,_,_=>⟨aE7,λp h=>by simp[i_] at h,λi p h=>by simp at h⟩
 | some p::l,r,aK,ja,c9,inj=>by
  have my:je l<=r.length:=by simpa [je] using aK
  obtain⟨a,b,c⟩:=Qo l r my ja (λq aj=>c9 q (aDI _ aj)) (λi j q hi aU=>by have:=inj (i+1) (j+1) q (by simpa using hi) (by simpa using aU);omega);refine⟨aEL.2 ⟨λh=>?_,a⟩,λq h=>?_,λi q h=>?_⟩
  .rcases b p h with h|h
   .obtain⟨i,hi⟩:=List.getElem?_of_mem h;have:=inj 0 (i+1) p (by simp) (by simpa using hi);omega
   .exact c9 p (aDH ..) h
  .rcases aEr.1 h with h|h
   .left;rw[h];exact aDH ..
   .rcases b q h with h|h
    .left;exact aDI _ h
    .exact .inr h
  .cases i with
   | zero=>simp only[aDK,aEj] at h;simp[i_,h]
   | succ i=>simp only[aDJ] at h;simp[i_,c i q h]
 | none::l,r,aK,ja,c9,inj=>by
  have my:je l+1<=r.length:=by simpa [je] using aK
  cases r with
  | nil=>simp at my
  | cons y r =>
   obtain⟨aoI,aoJ⟩:=aEL.1 ja;obtain⟨a,b,c⟩:=Qo l r (by simp at my;omega) aoJ (λq aj h=>c9 q (aDI _ aj) (aDI _ h)) (λi j q hi aU=>by have:=inj (i+1) (j+1) q (by simpa using hi) (by simpa using aU);omega);refine⟨aEL.2 ⟨λh=>?_,a⟩,λq h=>?_,λi q h=>?_⟩
   .rcases b _ h with h|h
    .exact c9 _ (aDI _ h) (aDH ..)
    .exact aoI h
   .rcases aEr.1 h with h|h
    .right;rw[h];exact aDH ..
    .rcases b q h with h|h
     .left;exact aDI _ h
     .exact .inr (aDI _ h)
   .cases i with
    | zero=>simp at h
    | succ i=>simp only[aDJ] at h;simp[i_,c i q h]
theorem aoK (p:Nat->Bool)(l:List Nat):(l.filter p).length+(l.filter λx=>!p x).length=l.length:=by
 induction l with
 | nil=>rfl
 | cons x l dI=>cases h:p x<;>simp[h]<;>omega
theorem KU {l r:List Nat}(ja:l.Nodup)(h:∀x∈l,x∈r):l.length<=r.length:=by
 induction l generalizing r with
 | nil=>simp
 | cons x l dI =>
  obtain⟨aa,ad⟩:=aEL.1 ja;have ai:=h x (aDH ..);have:=dI (r:=r.erase x) ad λy aC=>(List.mem_erase_of_ne (λe=>aa (by rw[<-e];exact aC))).2 (h y (aDI _ aC));have an:=List.length_erase_of_mem ai;have aJ:0<r.length:=List.length_pos_of_mem ai;simp;omega
theorem OH {n:Nat}(l:List (Option Nat))(aT:l.length=n)(inj:∀(i j p:Nat),l[i]? =some (some p)->l[j]? =some (some p)->i=j)(cl:∀p,some p∈l->p<n):je l=(qA n l).length:=by
 have key:∀(l:List (Option Nat)),(l.filterMap id).length+je l=l.length:=by
  intro l
  induction l with
  | nil=>rfl
  | cons a l dI=>cases a<;>simp[je] at dI ⊢<;>omega
 have ja:(l.filterMap id).Nodup:=by
  clear cl aT
  induction l with
  | nil=>simp
  | cons a l dI =>
   have dI:=dI (λi j q hi aU=>by have:=inj (i+1) (j+1) q (by simpa using hi) (by simpa using aU);omega);cases a with
   | none=>simpa using dI
   | some p =>
    simp only[List.filterMap_cons,id];refine aEL.2 ⟨λh=>?_,dI⟩;have ad:some p∈l:=by simpa using h
    obtain⟨i,hi⟩:=List.getElem?_of_mem ad;have:=inj 0 (i+1) p (by simp) (by simpa using hi);omega
 have mu:(l.filterMap id).length=((List.range n).filter λx=>l.contains (some x)).length:=by
  apply Nat.le_antisymm
  .refine KU ja λx ai=>?_;have ad:some x∈l:=by simpa using ai
   simp only[aFd,aDT];exact⟨cl x ad,by simpa using ad⟩
  .refine KU (List.nodup_range.filter _) λx ai=>?_;simp only[aFd] at ai;have:some x∈l:=by simpa using ai.2
   simpa using this
 have aa:=key l;have ad:=aoK (λx=>l.contains (some x)) (List.range n);rw[aDL] at ad;show je l=((List.range n).filter λx=>!l.contains (some x)).length;omega
structure aoL (k s t:Nat)(l:List Int):Prop where
 len:(lx k s t l).length=l.length
 nodup:(lx k s t l).Nodup
 lt:∀p∈lx k s t l,p<l.length
 at_:∀(i p:Nat) (d:Int),(lx k s t l)[i]? =some p->l[i]? =some d->i<gF l->i∉lP k s t l->0<=d/\p<s*(k+1)+t/\(p<s*(k+1)->((p/s:Nat):Int)<=d)
 lost:∀i∈lP k s t l,i<gF l
 Qp:gF l<=t->lP k s t l=[]
theorem P5 (k s t:Nat)(aV:0<s)(l:List Int)(aT:s*(k+1)+t<=l.length):aoL k s t l:=by
 have w:uD k s t (hk k):=⟨by simp[hk],aV,by simp[hk]⟩;obtain⟨i1,i2,i3,i4,i5⟩:=FF l (hk k) w;have hlen:=JL k s t l (hk k);have aK:=OH (n:=l.length) (iZ k s t l (hk k)) hlen i2 λp aP=>by have:=(i1 p aP).2;omega
 obtain⟨a,b,c⟩:=Qo (iZ k s t l (hk k)) (qA l.length (iZ k s t l (hk k))) (Nat.le_of_eq aK) (List.nodup_range.filter _) (λp aP h=>by simp[qA,aP] at h) i2;refine⟨by unfold lx;rw[FP,hlen],a,λp aP=>?_,λi p d aP b4 hi FI=>?_,λi h=>?_,λh=>?_⟩
 .rcases b p aP with h|h
  .have:=(i1 p h).2;omega
  .simp[qA] at h;exact h.1
 .have cb:i<(iZ k s t l (hk k)).length:=by rw[hlen];have:=uE l;omega
  have e:(iZ k s t l (hk k))[i]? =some ((iZ k s t l (hk k))[i]):=aDx cb;cases h:(iZ k s t l (hk k))[i] with
  | none =>
   rw[h] at e;exact absurd (aFd.2 ⟨aDT.2 hi,by simp[List.getD,e]⟩) FI
  | some q =>
   rw[h] at e;have:=c i q e;have aj:q=p:=by
    have ad:(lx k s t l)[i]? =some q:=this;rw[aP] at ad;exact(aDX ad).symm
   subst aj;have an:=i3 i q d e b4;exact⟨an.1,(i1 q (aFD e)).2,an.2⟩
 .have:=aFd.1 h;exact aDT.1 this.1
 .unfold lP;rw[List.filter_eq_nil_iff];intro i hi;have hi:=aDT.1 hi;obtain⟨p,aP⟩:=i4 i hi (by simp[hk];omega);simp[List.getD,aP]
end Go.cR
namespace Go.cR
abbrev cM:=bo 12
abbrev c_:=bo 8
def fm:cM:=Vector.replicate 12 0
def j7:c_:=Vector.replicate 8 0
def ei (c:cM):Bool:=c[0]==1
def kr (c:cM):c_:=#v[c[3],c[4],c[5],c[6],c[7],c[8],c[9],c[10]]
def lN (id leaf:UInt64)(d:c_):cM:=#v[1,id,leaf,d[0],d[1],d[2],d[3],d[4],d[5],d[6],d[7],0]
structure dx where
 k:Nat
 s:Nat
 t:Nat
 E:Nat
def dx.tree (P:dx):Nat:=P.s*(P.k+1)
def dx.m (P:dx):Nat:=P.s*(P.k+1)+P.t
def dx.n (P:dx):Nat:=P.s*(P.k+1)+P.t+1
structure dx.dt (P:dx):Prop where
 k:P.k<=10
 s:1<=P.s/\P.s<=8
 t:1<=P.t/\P.t<=64
 E:P.E<=8
 n:P.n<=2 ^ P.E
def qP:Nat->Nat->Nat->Nat
 | 0,_,_=>0
 | f+1,a,b=>if a=b then 0 else qP f (a/2) (b/2)+1
def k1 (k a b:Nat):Nat:=k-qP k a b
def l8 (k leaf d:Nat):Nat:=2 ^ d-1+leaf/2 ^ (k-d)
def spot (P:dx)(leaf p:Nat):Nat×Nat:=if p<P.s*(P.k+1) then (0,l8 P.k leaf (p/P.s)*P.s+p%P.s) else (1,p-P.s*(P.k+1))
def ox (P:dx)(aw:Nat)(i:Nat)(c:cM):UInt64:=if i<P.n/\ei c=true then UInt64.ofNat (P.k-k1 P.k aw (c[2].toNat))*(4294967296:UInt64)+(c[1]:UInt64) else (4611686018427387904:UInt64)+UInt64.ofNat i
def ht (c:cM):Nat:=c[11].toNat
def wC (P:dx)(aw:Nat)(c:cM):Int:=if ei c=true then (k1 P.k aw c[2].toNat:Nat) else -1
def hH (P:dx)(aw:Nat)(T:Nat->cM):Nat->cM:=λi=>(T i).set 11 (ox P aw i (T i))
def fy (P:dx)(aw:Nat)(T:Nat->cM):Nat->cM:=iw ht (jN P.E) (hH P aw T)
def jb (P:dx)(aw:Nat)(T:Nat->cM):List Int:=(List.range P.n).map λi=>wC P aw (fy P aw T i)
def ma (P:dx)(aw:Nat)(T:Nat->cM):Nat->cM:=λi =>
 (if i∈lP P.k P.s P.t (jb P aw T) then fm else fy P aw T i).set 11 (if i<P.n then UInt64.ofNat ((lx P.k P.s P.t (jb P aw T)).getD i 0) else UInt64.ofNat i)
def kH (P:dx)(aw:Nat)(T:Nat->cM):Nat->cM:=iw ht (jN P.E) (ma P aw T)
def l9 (P:dx)(aw:Nat)(T:Nat->cM):Bool:=!(lP P.k P.s P.t (jb P aw T)).isEmpty
structure Gy (n:Nat)(σ τ:Nat->Nat):Prop where
 s:∀i,i<n->σ i<n
 t:∀i,i<n->τ i<n
 st:∀i,i<n->σ (τ i)=i
 jz:∀i,i<n->τ (σ i)=i
theorem Gy.inj {n:Nat}{σ τ:Nat->Nat}(b:Gy n σ τ){i j:Nat}(hi:i<n)(aU:j<n)(h:σ i=σ j):i=j:=by
 rw[<-b.jz i hi,<-b.jz j aU,h]
theorem aoM {α:Type}(key:α->Nat)(f:Nat->α){n:Nat}{p:Nat×Nat×Bool}(aa:p.1<p.2.1)(ad:p.2.1<n):∃σ,Gy n σ σ/\∀i,m0 key f p i=f (σ i):=by
 by_cases c:(bif p.2.2 then decide (key (f p.2.1)<key (f p.1)) else decide (key (f p.1)<key (f p.2.1)))=true
 .refine⟨λi=>if i=p.1 then p.2.1 else if i=p.2.1 then p.1 else i,?_,λi=>?_⟩
  .constructor<;>intro i hi<;>(repeat' split)<;>first|omega|simp_all
  .simp only[m0,oy,aDr c]
   repeat' split
   all_goals first|rfl|omega|simp_all
 .refine⟨λi=>i,⟨λ_ h=>h,λ_ h=>h,λ_ _=>rfl,λ_ _=>rfl⟩,λi=>?_⟩;simp only[m0,oy,aDq c];split
  .rename_i h;rw[h]
  .split
   .rename_i h;rw[h]
   .rfl
theorem aab {α:Type}(key:α->Nat){n:Nat}:∀(l:List (Nat×Nat×Bool)) (f:Nat->α),(∀p∈l,p.1<p.2.1/\p.2.1<n)->∃σ τ,Gy n σ τ/\∀i,i<n->iw key l f i=f (σ i)
 | [],f,_=>⟨λi=>i,λi=>i,⟨λ_ h=>h,λ_ h=>h,λ_ _=>rfl,λ_ _=>rfl⟩,λ_ _=>rfl⟩
 | p::l,f,h=>by
  have aP:=h p (aDH ..);obtain⟨σ,b,e⟩:=aoM key f aP.1 aP.2;obtain⟨wH,KV,kh,cc⟩:=aab key l (m0 key f p) (λq aj=>h q (aDI _ aj));refine⟨λi=>σ (wH i),λi=>KV (σ i),⟨λi hi=>b.s _ (kh.s i hi),λi hi=>kh.t _ (b.s i hi),λi hi=>?_,λi hi=>?_⟩,λi hi=>?_⟩
  .show σ (wH (KV (σ i)))=i;rw[kh.st _ (b.s i hi),b.st i hi]
  .show KV (σ (σ (wH i)))=i;rw[b.st _ (kh.s i hi),kh.jz i hi]
  .show iw key l (m0 key f p) i=_;rw[cc i hi,e]
theorem Qq {α:Type}(key:α->Nat)(K:Nat)(f:Nat->α):∃σ τ,Gy (2 ^ K) σ τ/\∀i,i<2 ^ K->iw key (jN K) f i=f (σ i) :=
 aab key _ f (Gx K (aDt _))
theorem aoN {N:Nat}{f:Nat->Nat}(cl:∀i,i<N->f i<N)(inj:∀i j,i<N->j<N->f i=f j->i=j)(mono:∀i j,i<=j->j<N->f i<=f j){i:Nat}(hi:i<N):f i=i:=by
 have strict:∀i j,i<j->j<N->f i<f j:=λi j aa ad=>by
  rcases Nat.lt_or_eq_of_le (mono i j (by omega) ad) with h|h
  .exact h
  .have:=inj i j (by omega) ad h;omega
 have lo:∀i,i<N->i<=f i:=λi=>by
  induction i with
  | zero=>omega
  | succ i dI=>intro h;have:=dI (by omega);have:=strict i (i+1) (by omega) h;omega
 have cb:∀d i,i+d+1=N->f i<=i:=λd=>by
  induction d with
  | zero=>intro i h;have:=cl i (by omega);omega
  | succ d dI=>intro i h;have:=dI (i+1) (by omega);have:=strict i (i+1) (by omega) (by omega);omega
 have:=lo i hi;have:=cb (N-1-i) i (by omega);omega
theorem C5 {l:List Nat}(ja:l.Nodup){i j:Nat}(hi:i<l.length)(aU:j<l.length)(h:l.getD i 0=l.getD j 0):i=j:=by
 simp only[aEg,aDx hi,aDx aU,aFE] at h;have ja:=aFk.1 ja;rcases Nat.lt_trichotomy i j with c|c|c
 .exact absurd h (ja i j hi aU c)
 .exact c
 .exact absurd h.symm (ja j i aU hi c)
theorem aac {n:Nat}{f:Nat->Nat}(inj:∀i j,i<j->j<n->f i≠f j):((List.range n).map f).Nodup:=by
 rw[List.nodup_iff_pairwise_ne,aFk];intro i j hi aU h;simp only[aFl,aFs];exact inj i j h (by simpa using aU)
theorem aad:∀(l:List Int) (j:Nat),j<l.length->(∀i (hi:i<=j) (h:i<l.length),0<=l[i])->j<gF l
 | [],j,h,_=>by simp at h
 | d::l,j,h,aP=>by
  have h0:=aP 0 (by omega) (by simp);simp only[List.getElem_cons_zero] at h0;rw[gF,cS];cases j with
  | zero=>omega
  | succ j =>
   have:=aad l j (by simpa using h) λi hi h=>by have:=aP (i+1) (by omega) (by simpa using h);simpa using this
   omega
theorem OD:∀(l:List Int) (i:Nat),i<gF l->∃d,l[i]? =some d/\0<=d
 | [],i,h=>by simp[gF] at h
 | d::l,i,h=>by
  unfold gF at h;split at h
  .omega
  .cases i with
   | zero=>exact⟨d,by simp,by omega⟩
   | succ i=>obtain⟨e,aa,ad⟩:=OD l i (by omega);exact⟨e,by simpa using aa,ad⟩
structure yc (P:dx)(T:Nat->cM):Prop where
 lt:∀i,ei (T i)=true->i<P.n
 id:∀i,ei (T i)=true->(T i)[1].toNat<=2147483648
 leaf:∀i,ei (T i)=true->(T i)[2].toNat<2 ^ P.k
theorem Zi (c:cM)(x:UInt64):(c.set 11 x)[0]=c[0]:=by simp[aEa]
theorem pL (c:cM)(x:UInt64):ei (c.set 11 x)=ei c:=by unfold ei;rw[Zi]
theorem yb (c:cM)(x:UInt64):(c.set 11 x)[11]=x:=by simp[aEa]
theorem KW (c:cM)(x:UInt64):(c.set 11 x)[2]=c[2]:=by simp[aEa]
theorem u5 (c:cM)(x:UInt64):(c.set 11 x)[1]=c[1]:=by simp[aEa]
theorem wI:ei fm=false:=by decide
theorem aae {P:dx}(o:P.dt){aw i:Nat}{c:cM}(hi:i<P.n)(ar:ei c=true)(hO:c[1].toNat<=2147483648):(ox P aw i c).toNat=(P.k-k1 P.k aw c[2].toNat)*4294967296+c[1].toNat:=by
 unfold ox;rw[aDr ⟨hi,ar⟩];have:=o.k;have aa:P.k-k1 P.k aw c[2].toNat<=10:=by omega
 generalize P.k-k1 P.k aw c[2].toNat=x at aa;rw[aEt,UInt64.toNat_mul,aDw];have e:(4294967296:UInt64).toNat=4294967296:=rfl;rw[e];omega
theorem aaf {P:dx}{aw i:Nat}{c:cM}(hi:i<4294967296)(ar:¬(i<P.n/\ei c=true)):(ox P aw i c).toNat=4611686018427387904+i:=by
 unfold ox;rw[aDq ar,aEt,aDw];have e:(4611686018427387904:UInt64).toNat=4611686018427387904:=rfl;rw[e];omega
theorem Ai {P:dx}(o:P.dt):2 ^ P.E<=256:=aDy (n:=2) (by decide) o.E
structure aoO (P:dx)(aw:Nat)(T:Nat->cM)(g:Nat->Nat):Prop where
 key:∀p,p<2 ^ P.E->(kH P aw T p)[11].toNat=p
 bp:∀p,p<2 ^ P.E->ei (kH P aw T p)=true->g p<P.n/\ei (T (g p))=true/\(∃x y,(kH P aw T p).set 11 x=(T (g p)).set 11 y)/\p<P.m/\(p<P.tree->p/P.s<=k1 P.k aw (T (g p))[2].toNat)
 inj:∀p q,p<2 ^ P.E->q<2 ^ P.E->g p=g q->p=q
 all:l9 P aw T=false->∀i,i<P.n->ei (T i)=true->∃p,p<P.m/\ei (kH P aw T p)=true/\g p=i
theorem Fi {P:dx}(o:P.dt)(aw:Nat)(T:Nat->cM)(w:yc P T):∃g,aoO P aw T g /\
 (∀S:List UInt64,S.length<=P.t->(∀i,ei (T i)=true->(T i)[1]∈S)->(∀i j,ei (T i)=true->ei (T j)=true->(T i)[1]=(T j)[1]->i=j)->l9 P aw T=false):=by
 have jw:=Ai o;have aK:=o.n;obtain⟨σ,τ,b,e⟩:=Qq ht P.E (hH P aw T);obtain⟨wH,KV,kh,cc⟩:=Qq ht P.E (ma P aw T);have e:∀i,i<2 ^ P.E->fy P aw T i=hH P aw T (σ i):=e;have cc:∀i,i<2 ^ P.E->kH P aw T i=ma P aw T (wH i):=cc;generalize pR:jb P aw T=c9 at *;have hlen:c9.length=P.n:=by rw[<-pR];simp[jb]
 have dl:=P5 P.k P.s P.t (by have:=o.s;omega) c9 (by rw[hlen];unfold dx.n;omega);have t3:∀i,ma P aw T i=(if i∈lP P.k P.s P.t c9 then fm else fy P aw T i).set 11 (if i<P.n then UInt64.ofNat ((lx P.k P.s P.t c9).getD i 0) else UInt64.ofNat i):=λi=>by simp only[ma,pR]
 have aG:∀i,i<2 ^ P.E->ht (ma P aw T i)=if i<P.n then (lx P.k P.s P.t c9).getD i 0 else i:=λi hi=>by
  rw[t3,ht,yb];split
  .rename_i h
   have aa:(lx P.k P.s P.t c9).getD i 0<c9.length:=by
    refine dl.lt _ ?_;rw[aEg,aDx (by rw[dl.len,hlen];exact h)];exact aDR _
   rw[aDw];rw[hlen] at aa;omega
  .rw[aDw];omega
 have Qr:∀i,i<P.n->(lx P.k P.s P.t c9).getD i 0<P.n:=λi h=>by
  rw[<-hlen];refine dl.lt _ ?_;rw[aEg,aDx (by rw[dl.len,hlen];exact h)];exact aDR _
 have aag:∀i,i<2 ^ P.E->ht (ma P aw T i)<2 ^ P.E:=λi hi=>by
  rw[aG i hi];split
  .rename_i h;have:=Qr i h;omega
  .exact hi
 have aah:∀i j,i<2 ^ P.E->j<2 ^ P.E->ht (ma P aw T i)=ht (ma P aw T j)->i=j:=λi j hi aU h=>by
  rw[aG i hi,aG j aU] at h;by_cases aS:i<P.n
  .by_cases aY:j<P.n
   .rw[aDr aS,aDr aY] at h;exact C5 dl.nodup (by rw[dl.len,hlen];exact aS) (by rw[dl.len,hlen];exact aY) h
   .rw[aDr aS,aDq aY] at h;have:=Qr i aS;omega
  .by_cases aY:j<P.n
   .rw[aDq aS,aDr aY] at h;have:=Qr j aY;omega
   .rw[aDq aS,aDq aY] at h;exact h
 have bd:∀p,p<2 ^ P.E->ht (kH P aw T p)=p:=λp aP=>by
  refine aoN (N:=2 ^ P.E) (f:=λp=>ht (kH P aw T p)) (λi hi=>?_) (λi j hi aU h=>?_) (λi j oR aU=>?_) aP
  .show ht (kH P aw T i)<_;rw[cc i hi];exact aag _ (kh.s i hi)
  .have h:ht (kH P aw T i)=ht (kH P aw T j):=h;rw[cc i hi,cc j aU] at h;exact kh.inj hi aU (aah _ _ (kh.s i hi) (kh.s j aU) h)
  .exact KQ ht P.E _ oR aU
 have ae:∀i,ei (hH P aw T i)=ei (T i):=λi=>pL _ _;have aoP:∀i,i<2 ^ P.E->ei (T i)=true->ht (hH P aw T i)<4611686018427387904:=λi hi h=>by
  have cl:=w.lt i h;have hO:=w.id i h;rw[hH,ht,yb,aae o cl h hO];have:=o.k;have ad:P.k-k1 P.k aw (T i)[2].toNat<=10:=by omega
  have:=aEm 4294967296 ad;omega
 have aoQ:∀i,i<2 ^ P.E->ei (T i)=false->4611686018427387904<=ht (hH P aw T i):=λi hi h=>by
  rw[hH,ht,yb,aaf (by omega) (by rw[h];simp)];omega
 have ahead:∀i j,i<=j->j<2 ^ P.E->ei (fy P aw T j)=true->ei (fy P aw T i)=true:=λi j oR aU h=>by
  have aa:ht (fy P aw T i)<=ht (fy P aw T j):=KQ ht P.E _ oR aU;rw[e j aU] at h aa;rw[e i (by omega)] at aa ⊢;rw[ae] at h ⊢;have ad:=aoP _ (b.s j aU) h;cases an:ei (T (σ i)) with
  | true=>rfl
  | false=>have:=aoQ _ (b.s i (by omega)) an;omega
 have Qs:∀j,j<2 ^ P.E->ei (fy P aw T j)=true->j<P.n:=λj aU h=>by
  have:((List.range (j+1)).map σ).length<=(List.range P.n).length:=by
   refine KU ?_ λx ai=>?_
   .refine aac λa c aoR a1 h=>?_;have:=b.inj (by omega) (by omega) h;omega
   .obtain⟨i,hi,rfl⟩:=aD2.1 ai;have cb:=aDT.1 hi;have aa:=ahead i j (by omega) aU h;rw[e i (by omega),ae] at aa;exact aDT.2 (w.lt _ aa)
  simp at this;omega
 have ih:∀i,i<P.n->c9[i]? =some (wC P aw (fy P aw T i)):=λi hi=>by rw[<-pR];simp[jb,hi]
 have CI:∀j,j<2 ^ P.E->ei (fy P aw T j)=true->j<gF c9:=λj aU h=>by
  have k4:=Qs j aU h;refine aad c9 j (by rw[hlen];exact k4) λi hi af=>?_;have aa:=ih i (by omega);rw[aDx af] at aa;rw[aDX aa,wC,aDr (ahead i j hi aU h)];omega
 have Qt:∀j,j<gF c9->ei (fy P aw T j)=true:=λj aU=>by
  obtain⟨d,aa,ad⟩:=OD c9 j aU;have k4:j<P.n:=by have:=uE c9;omega
  rw[ih j k4] at aa;have aa:=aDX aa;unfold wC at aa;split at aa
  .assumption
  .omega
 refine⟨λp=>σ (wH p),⟨bd,λp aP h=>?_,λp q aP aj h=>?_,λaT i hi h=>?_⟩,λS uY aa ad=>?_⟩
 .have aU:=kh.s p aP;have ah:=bd p aP;rw[cc p aP] at h ah ⊢;generalize wH p=j at *;rw[aG j aU] at ah;rw[t3,pL] at h;by_cases c:j∈lP P.k P.s P.t c9
  .rw[aDr c,wI] at h;cases h
  .rw[aDq c] at h;have k4:=Qs j aU h;have aoS:=CI j aU h;rw[aDr k4] at ah;have lL:(lx P.k P.s P.t c9)[j]? =some p:=by
    rw[aDx (by rw[dl.len,hlen];exact k4)];rw[aEg,aDx (by rw[dl.len,hlen];exact k4),aFE] at ah;rw[ah]
   obtain⟨d0,d1,d2⟩:=dl.at_ j p _ lL (ih j k4) aoS c;have af:=h;rw[e j aU,ae] at af;have CK:(fy P aw T j)[2]=(T (σ j))[2]:=by rw[e j aU,hH,KW]
   refine⟨w.lt _ af,af,⟨0,0,?_⟩,d1,λaP=>?_⟩
   .rw[t3,aDq c,Vector.set_set,e j aU,hH,Vector.set_set]
   .have:=d2 aP;rw[wC,aDr h,CK] at this;omega
 .exact kh.inj aP aj (b.inj (kh.s p aP) (kh.s q aj) h)
 .have De:τ i<2 ^ P.E:=b.t i (by omega);have BT:σ (τ i)=i:=b.st i (by omega);have hN:ei (fy P aw T (τ i))=true:=by rw[e _ De,ae,BT];exact h
  have k4:=Qs _ De hN;have Df:τ i∉lP P.k P.s P.t c9:=by
   have:lP P.k P.s P.t (jb P aw T)=[]:=by simpa [l9] using aT
   rw[pR] at this;rw[this];simp
  generalize aU:τ i=j at *;have aP:ht (ma P aw T j)<2 ^ P.E:=aag j De;generalize aai:ht (ma P aw T j)=p at *;have aaj:wH p=j:=aah _ _ (kh.s p aP) De (by have:=bd p aP;rw[cc p aP] at this;rw[this,aai]);have pg:ei (kH P aw T p)=true:=by rw[cc p aP,aaj,t3,pL,aDq Df];exact hN
  refine⟨p,?_,pg,by show σ (wH p)=i;rw[aaj,BT]⟩;have ah:=aG j De;rw[aai,aDr k4] at ah;have lL:(lx P.k P.s P.t c9)[j]? =some p:=by
   rw[aDx (by rw[dl.len,hlen];exact k4)];rw[aEg,aDx (by rw[dl.len,hlen];exact k4),aFE] at ah;rw[ah]
  exact(dl.at_ j p _ lL (ih j k4) (CI j De hN) Df).2.1
 .have hm:gF c9<=P.t:=by
   have:((List.range (gF c9)).map λi=>(fy P aw T i)[1].toNat).length<=(S.map UInt64.toNat).length:=by
    have b4:=uE c9;refine KU ?_ λx ai=>?_
    .refine aac λa c aoR m1 h=>?_;have bY:=Qt a (by omega);have F4:=Qt c m1;rw[e a (by omega)] at h bY;rw[e c (by omega)] at h F4;rw[ae] at bY F4;have aJ:(T (σ a))[1]=(T (σ c))[1]:=by
      simp only[hH,u5] at h;exact aDE.1 h
     have:=b.inj (by omega) (by omega) (ad _ _ bY F4 aJ);omega
    .obtain⟨i,hi,rfl⟩:=aD2.1 ai;have cb:=aDT.1 hi;have an:=Qt i cb;rw[e i (by omega)] at an ⊢;rw[ae] at an;simp only[hH,u5];exact List.mem_map_of_mem (aa _ an)
   simp at this;omega
  unfold l9;rw[pR,dl.Qp hm];rfl
end Go.cR
namespace Go.cR
theorem aak:∀(f a b:Nat),a<2 ^ f->b<2 ^ f->∀j,qP f a b<=j->a/2 ^ j=b/2 ^ j
 | 0,a,b,bY,ar,j,_=>by simp at bY ar;rw[bY,ar]
 | f+1,a,b,bY,ar,j,aU=>by
  unfold qP at aU;split at aU
  .rename_i h;rw[h]
  .cases j with
   | zero=>omega
   | succ j =>
    rw[aD_] at bY ar;have:=aak f (a/2) (b/2) (by omega) (by omega) j (by omega);rw[aD_,aDW,<-aEo,<-aEo];exact this
theorem Qu {k a b d:Nat}(bY:a<2 ^ k)(ar:b<2 ^ k)(b4:d<=k1 k a b)(ah:d<=k):l8 k a d=l8 k b d:=by
 unfold l8;by_cases h0:qP k a b<=k
 .rw[aak k a b bY ar (k-d) (by unfold k1 at b4;omega)]
 .have:d=0:=by unfold k1 at b4;omega
  subst this;rw[aFm,aEE bY,aEE ar]
theorem Qv {k leaf d:Nat}(aT:leaf<2 ^ k)(b4:d<=k):2 ^ d-1<=l8 k leaf d/\l8 k leaf d<2 ^ (d+1)-1:=by
 have e:2 ^ k=2 ^ (k-d)*2 ^ d:=by rw[<-aFH];congr 1;omega
 have aa:leaf/2 ^ (k-d)<2 ^ d:=by rw[aEC (aD8 (by decide)),aDW,<-e];exact aT
 have ad:2 ^ (d+1)=2*2 ^ d:=by rw[aD_];omega
 have an:0<2 ^ d:=aD8 (by decide);unfold l8;generalize leaf/2 ^ (k-d)=x at *;omega
theorem aoT {k hz gg d1 d2:Nat}(aa:hz<2 ^ k)(ad:gg<2 ^ k)(aoU:d1<=k)(k2:d2<=k)(h:l8 k hz d1=l8 k gg d2):d1=d2:=by
 have a:=Qv aa aoU;have b:=Qv ad k2;rw[h] at a;rcases Nat.lt_trichotomy d1 d2 with c|c|c
 .have:=aDy (n:=2) (by decide) (show d1+1<=d2 by omega);omega
 .exact c
 .have:=aDy (n:=2) (by decide) (show d2+1<=d1 by omega);omega
theorem aoV {k leaf d:Nat}(aT:leaf<2 ^ k)(b4:d<=k):l8 k leaf d<2 ^ (k+1)-1:=by
 have a:=Qv aT b4;have:=aDy (n:=2) (by decide) (show d+1<=k+1 by omega);omega
def mA (P:dx)(r i:Nat):Prop:=(r=0/\i<P.s*(2 ^ (P.k+1)-1))∨(r=1/\i<P.t)
theorem x6 {P:dx}{leaf p:Nat}(h:p<P.s*(P.k+1)):spot P leaf p=(0,l8 P.k leaf (p/P.s)*P.s+p%P.s):=by unfold spot;rw[aDr h]
theorem x7 {P:dx}{leaf p:Nat}(h:¬p<P.s*(P.k+1)):spot P leaf p=(1,p-P.s*(P.k+1)):=by unfold spot;rw[aDq h]
theorem Dg {P:dx}{p:Nat}(aV:0<P.s)(h:p<P.s*(P.k+1)):p/P.s<=P.k:=by
 have:p/P.s<P.k+1:=by rw[aEC aV,aDW];exact h
 omega
theorem mX {P:dx}(o:P.dt){leaf p:Nat}(aT:leaf<2 ^ P.k)(aP:p<P.m):mA P (spot P leaf p).1 (spot P leaf p).2:=by
 have aV:0<P.s:=by have:=o.s;omega
 by_cases h:p<P.s*(P.k+1)
 .rw[x6 h];refine .inl ⟨rfl,?_⟩;have aa:=aoV aT (Dg aV h);have ad:=aEk p aV;have an:=Nat.mul_le_mul_left P.s (show l8 P.k leaf (p/P.s)+1<=2 ^ (P.k+1)-1 by omega);rw[aEU,aEV,aDW P.s (l8 _ _ _)] at an;show l8 P.k leaf (p/P.s)*P.s+p%P.s<_;omega
 .rw[x7 h];exact .inr ⟨rfl,by unfold dx.m at aP;show p-_<_;omega⟩
theorem Gz {P:dx}(o:P.dt){leaf p q:Nat}(aT:leaf<2 ^ P.k)(h:spot P leaf p=spot P leaf q):p=q:=by
 have aV:0<P.s:=by have:=o.s;omega
 by_cases aa:p<P.s*(P.k+1)
 .by_cases ad:q<P.s*(P.k+1)
  .rw[x6 aa,x6 ad] at h;have h:=(aEp h).2;have av:=CO (s:=P.s) (a:=l8 P.k leaf (p/P.s)) (aEk p aV);have aN:=CO (s:=P.s) (a:=l8 P.k leaf (q/P.s)) (aEk q aV);rw[h] at av;have aH:l8 P.k leaf (p/P.s)=l8 P.k leaf (q/P.s):=av.1.symm.trans aN.1;have a_:p%P.s=q%P.s:=av.2.symm.trans aN.2;have b7:=aoT aT aT (Dg aV aa) (Dg aV ad) aH;rw[<-aFr p P.s,<-aFr q P.s,a_,b7]
  .rw[x6 aa,x7 ad] at h;have:=(aEp h).1;omega
 .by_cases ad:q<P.s*(P.k+1)
  .rw[x7 aa,x6 ad] at h;have:=(aEp h).1;omega
  .rw[x7 aa,x7 ad] at h;have:=(aEp h).2;omega
theorem aoW {P:dx}(o:P.dt){leaf i d:Nat}(b4:d<=P.k)(h:i/P.s=l8 P.k leaf d):∃p,p<P.m/\spot P leaf p=(0,i):=by
 have aV:0<P.s:=by have:=o.s;omega
 have hm:=aEk i aV;have aa:d*P.s+i%P.s<P.s*(P.k+1):=aaa b4 hm;obtain⟨aH,a_⟩:=CO (s:=P.s) (a:=d) hm;refine⟨d*P.s+i%P.s,by unfold dx.m;omega,?_⟩;rw[x6 aa,aH,a_,<-h,aDW,aFr]
theorem aoX {P:dx}{leaf i:Nat}(h:i<P.t):∃p,p<P.m/\spot P leaf p=(1,i) :=
 ⟨P.s*(P.k+1)+i,by unfold dx.m;omega,by rw[x7 (by omega),aE1]⟩
abbrev dY:=Nat->Nat->cM
def fM (M:dY)(q:Nat×Nat)(c:cM):dY:=λr i=>if r=q.1/\i=q.2 then c else M r i
def qM (P:dx)(leaf:Nat)(T:Nat->cM)(M:dY):Nat->dY
 | 0=>M
 | p+1=>fM (qM P leaf T M p) (spot P leaf p) ((T p).set 11 0)
def strip (id:UInt64)(c:cM):cM:=if ei c=true/\c[1]=id then fm else c
def iv (id:UInt64)(f:Nat->cM):Nat->c_×Bool
 | 0=>(j7,false)
 | p+1=>if ei (f p)=true/\(f p)[1]=id then (kr (f p),true) else iv id f p
def fg (P:dx)(leaf:Nat)(M:dY)(p:Nat):cM:=M (spot P leaf p).1 (spot P leaf p).2
def kV (P:dx)(leaf:Nat)(id:UInt64)(M:dY)(c:cM):Nat->cM:=λp=>if p<P.m then strip id (fg P leaf M p) else if p=P.m then c else fm
inductive fv where
 | look
 | put (d:c_)
 | part (at_:Nat) (x y:UInt64)
 | drop
def fv.now (op:fv)(old:c_)(there:Bool):Option c_ :=
 match op with
 | .look=>if there then some old else none
 | .put d=>some d
 | .part a x y=>some ((old.setIfInBounds a x).setIfInBounds (a+1) y)
 | .drop=>none
def Ao (id:UInt64)(to:Nat):Option c_->cM
 | some d=>lN id (UInt64.ofNat to) d
 | none=>fm
def uV (P:dx)(T:Nat->cM)(M:dY):dY:=λr i=>if r=2/\i<2 ^ P.E then T i else M r i
def kd (P:dx)(id:UInt64)(aw:Nat)(M:dY):c_×Bool:=iv id (fg P aw M) P.m
def iP (P:dx)(op:fv)(id:UInt64)(aw to:Nat)(M:dY):Nat->cM:=kV P aw id M (Ao id to (op.now (kd P id aw M).1 (kd P id aw M).2))
def lI (P:dx)(op:fv)(id:UInt64)(aw to:Nat)(M:dY):dY:=qM P aw (kH P aw (iP P op id aw to M)) (uV P (kH P aw (iP P op id aw to M)) M) P.m
def tu (P:dx)(op:fv)(id:UInt64)(aw to:Nat)(M:dY):Bool:=l9 P aw (iP P op id aw to M)
theorem Kr {P:dx}{leaf:Nat}{T:Nat->cM}{M:dY}{r i:Nat}:∀n,(∀p,p<n->spot P leaf p≠(r,i))->qM P leaf T M n r i=M r i
 | 0,_=>rfl
 | n+1,h=>by
  unfold qM fM;rw[aDq (λe=>h n (by omega) (by rw[e.1,e.2])),Kr n λp aP=>h p (by omega)]
theorem aal {P:dx}(o:P.dt){leaf:Nat}(aT:leaf<2 ^ P.k){T:Nat->cM}{M:dY}{p:Nat}:∀n,p<n->qM P leaf T M n (spot P leaf p).1 (spot P leaf p).2=(T p).set 11 0
 | 0,h=>by omega
 | n+1,h=>by
  unfold qM fM;by_cases c:p=n
  .subst c;rw[aDr ⟨rfl,rfl⟩]
  .rw[aDq (λe=>c (Gz o aT (aFn e.1 e.2))),aal o aT n (by omega)]
theorem Dh {P:dx}(o:P.dt){op:fv}{id:UInt64}{aw to:Nat}(aT:aw<2 ^ P.k)(M:dY){p:Nat}(aP:p<P.m):lI P op id aw to M (spot P aw p).1 (spot P aw p).2=(kH P aw (iP P op id aw to M) p).set 11 0:=aal o aT _ aP
theorem aam {P:dx}{op:fv}{id:UInt64}{aw to:Nat}(M:dY){r i:Nat}(aQ:r≠2)(h:∀p,p<P.m->spot P aw p≠(r,i)):lI P op id aw to M r i=M r i:=by
 unfold lI;rw[Kr _ h,uV,aDq (λe=>aQ e.1)]
def rl (P:dx)(M:dY):Prop:=∀r i,mA P r i->ei (M r i)=true->(M r i)[1].toNat<=2147483648/\(M r i)[2].toNat<2 ^ P.k
theorem aoY (id leaf:UInt64)(d:c_):ei (lN id leaf d)=true:=by simp[ei,lN]
theorem GA (id leaf:UInt64)(d:c_):(lN id leaf d)[1]=id:=by simp[lN]
theorem Qw (id leaf:UInt64)(d:c_):(lN id leaf d)[2]=leaf:=by simp[lN]
theorem N_ (id leaf:UInt64)(d:c_):kr (lN id leaf d)=d:=by
 apply aEO;intro i hi;have h:i=0∨i=1∨i=2∨i=3∨i=4∨i=5∨i=6∨i=7:=by omega
 rcases h with rfl|rfl|rfl|rfl|rfl|rfl|rfl|rfl<;>simp[kr,lN]
theorem aoZ {id:UInt64}{c:cM}(h:ei (strip id c)=true):strip id c=c/\ei c=true/\c[1]≠id:=by
 unfold strip at h ⊢;split at h
 .rw[wI] at h;cases h
 .rename_i aK;rw[aDq aK];exact⟨rfl,h,λe=>aK ⟨h,e⟩⟩
theorem wJ {P:dx}{leaf:Nat}{id:UInt64}{M:dY}{c:cM}{p:Nat}(h:ei (kV P leaf id M c p)=true) :
 (p<P.m/\kV P leaf id M c p=fg P leaf M p/\ei (fg P leaf M p)=true/\(fg P leaf M p)[1]≠id)∨(p=P.m/\kV P leaf id M c p=c/\ei c=true):=by
 unfold kV at h ⊢;by_cases aa:p<P.m
 .rw[aDr aa] at h ⊢;obtain⟨a,b,cr⟩:=aoZ h;exact .inl ⟨aa,a,b,cr⟩
 .rw[aDq aa] at h ⊢;by_cases ad:p=P.m
  .rw[aDr ad] at h ⊢;exact .inr ⟨ad,rfl,h⟩
  .rw[aDq ad,wI] at h;cases h
theorem Di {id:UInt64}{to:Nat}{x:Option c_}(h:ei (Ao id to x)=true):∃d,x=some d/\Ao id to x=lN id (UInt64.ofNat to) d:=by
 cases x with
 | none=>unfold Ao at h;rw[wI] at h;cases h
 | some d=>exact⟨d,rfl,rfl⟩
theorem Qx {k to:Nat}(ah:k<=10)(h:to<2 ^ k):(UInt64.ofNat to).toNat=to:=by
 have:=aDy (n:=2) (by decide) ah;rw[aDw];omega
theorem zL {P:dx}(o:P.dt){op:fv}{id:UInt64}{aw to:Nat}{M:dY}(w:rl P M)(bc:aw<2 ^ P.k)(bG:to<2 ^ P.k)(hO:id.toNat<=2147483648):yc P (iP P op id aw to M):=by
 have key:∀i,ei (iP P op id aw to M i)=true->i<P.n/\(iP P op id aw to M i)[1].toNat<=2147483648/\(iP P op id aw to M i)[2].toNat<2 ^ P.k:=by
  intro i h;have aK:P.n=P.m+1:=rfl;rcases wJ h with ⟨aa,ad,an,_⟩|⟨aa,ad,an⟩
  .have:=w _ _ (mX o bc aa) an;unfold iP;rw[ad];exact⟨by omega,this⟩
  .obtain⟨d,_,e⟩:=Di an;unfold iP;rw[ad,e,GA,Qw];exact⟨by omega,hO,by rw[Qx o.k bG];exact bG⟩
 exact⟨λi h=>(key i h).1,λi h=>(key i h).2.1,λi h=>(key i h).2.2⟩
theorem Fj {c cr:cM}(h:∃x y,c.set 11 x=cr.set 11 y):ei c=ei cr/\c[1]=cr[1]/\c[2]=cr[2]/\kr c=kr cr:=by
 obtain⟨x,y,e⟩:=h;have g:∀i (hi:i<11),c[i]=cr[i]:=λi hi=>by
  have:=congrArg (λv:cM=>v[i]'(by omega)) e;simpa [aEa,show(11:Nat)≠i by omega] using this
 refine⟨by unfold ei;rw[g 0 (by omega)],g 1 (by omega),g 2 (by omega),?_⟩;unfold kr;rw[g 3 (by omega),g 4 (by omega),g 5 (by omega),g 6 (by omega),g 7 (by omega),g 8 (by omega),g 9 (by omega),g 10 (by omega)]
theorem Jn (c:cM)(x:UInt64):kr (c.set 11 x)=kr c:=by simp[kr]
theorem uv {P:dx}(o:P.dt){p:Nat}(h:p<P.m):p<2 ^ P.E:=by have:=o.n;unfold dx.n at this;unfold dx.m at h;omega
theorem zM {P:dx}(o:P.dt){op:fv}{id:UInt64}{aw to:Nat}(bc:aw<2 ^ P.k)(M:dY){r i:Nat}(b0:mA P r i) :
 (∃p,p<P.m/\spot P aw p=(r,i)/\lI P op id aw to M r i=(kH P aw (iP P op id aw to M) p).set 11 0)∨((∀p,p<P.m->spot P aw p≠(r,i))/\lI P op id aw to M r i=M r i):=by
 by_cases h:∃p,p<P.m/\spot P aw p=(r,i)
 .obtain⟨p,aP,e⟩:=h;have:=Dh o (op:=op) (id:=id) (to:=to) bc M aP;rw[e] at this;exact .inl ⟨p,aP,e,this⟩
 .have af:∀p,p<P.m->spot P aw p≠(r,i):=λp aP e=>h ⟨p,aP,e⟩;refine .inr ⟨af,aam M ?_ af⟩;rcases b0 with ⟨h,_⟩|⟨h,_⟩<;>omega
theorem aan {P:dx}(o:P.dt){op:fv}{id:UInt64}{aw to:Nat}{M:dY}(w:rl P M)(bc:aw<2 ^ P.k)(bG:to<2 ^ P.k)(hO:id.toNat<=2147483648):rl P (lI P op id aw to M):=by
 intro r i b0 ar;have ef:=zL o (op:=op) w bc bG hO;obtain⟨g,qn,_⟩:=Fi o aw _ ef;rcases zM o (op:=op) (id:=id) (to:=to) bc M b0 with ⟨p,aP,_,e⟩|⟨_,e⟩
 .rw[e] at ar ⊢;rw[pL] at ar;rw[u5,KW];obtain⟨aa,ad,an,_⟩:=qn.bp p (uv o aP) ar;obtain⟨_,f1,f2,_⟩:=Fj an;rw[f1,f2];exact⟨ef.id _ ad,ef.leaf _ ad⟩
 .rw[e] at ar ⊢;exact w r i b0 ar
structure oA (P:dx)(M:dY)(B:UInt64->Option (Nat×c_)):Prop where
 sound:∀r i,mA P r i->ei (M r i)=true->∃leaf,B (M r i)[1]=some (leaf,kr (M r i))/\(M r i)[2].toNat=leaf/\leaf<2 ^ P.k/\(M r i)[1].toNat<=2147483648/\(r=0->∃d,d<=P.k/\i/P.s=l8 P.k leaf d)
 comp:∀id x,B id=some x->∃r i,mA P r i/\ei (M r i)=true/\(M r i)[1]=id
 uniq:∀r i fk dO,mA P r i->mA P fk dO->ei (M r i)=true->ei (M fk dO)=true->(M r i)[1]=(M fk dO)[1]->r=fk/\i=dO
theorem oA.mQ {P:dx}{M:dY}{B:UInt64->Option (Nat×c_)}(l:oA P M B):rl P M:=λr i b0 ar=>by
 obtain⟨leaf,_,ad,an,aJ,_⟩:=l.sound r i b0 ar;exact⟨aJ,by omega⟩
theorem oA.spot {P:dx}(o:P.dt){M:dY}{B:UInt64->Option (Nat×c_)}(l:oA P M B){id:UInt64}{aw:Nat}(hw:∀leaf d,B id=some (leaf,d)->leaf=aw){r i:Nat}(b0:mA P r i)(ar:ei (M r i)=true)(hi:(M r i)[1]=id):∃p,p<P.m/\Go.cR.spot P aw p=(r,i):=by
 obtain⟨leaf,aa,_,_,_,aR⟩:=l.sound r i b0 ar;rw[hi] at aa;have:=hw _ _ aa;subst this;rcases b0 with ⟨h,cl⟩|⟨h,cl⟩
 .subst h;obtain⟨d,b4,e⟩:=aR rfl;exact aoW o b4 e
 .subst h;exact aoX cl
theorem aao {id:UInt64}{f:Nat->cM}:∀n,(∀p,p<n->¬(ei (f p)=true/\(f p)[1]=id))->iv id f n=(j7,false)
 | 0,_=>rfl
 | n+1,h=>by unfold iv;rw[aDq (h n (by omega)),aao n λp aP=>h p (by omega)]
theorem aap {id:UInt64}{f:Nat->cM}{q:Nat}(aj:ei (f q)=true/\(f q)[1]=id):∀n,q<n->(∀p,p<n->ei (f p)=true/\(f p)[1]=id->p=q)->iv id f n=(kr (f q),true)
 | 0,h,_=>by omega
 | n+1,h,u=>by
  unfold iv;by_cases c:q=n
  .subst c;rw[aDr aj]
  .rw[aDq (λe=>c (u n (by omega) e).symm),aap aj n (by omega) λp aP=>u p (by omega)]
theorem ao0 {P:dx}(o:P.dt){M:dY}{B:UInt64->Option (Nat×c_)}(l:oA P M B){id:UInt64}{aw:Nat}(bc:aw<2 ^ P.k)(hw:∀leaf d,B id=some (leaf,d)->leaf=aw) :
 kd P id aw M=match B id with|some (_,d)=>(d,true)|none=>(j7,false):=by
 unfold kd;cases h:B id with
 | none =>
  refine aao _ λp aP e=>?_;obtain⟨leaf,aa,_⟩:=l.sound _ _ (mX o bc aP) e.1;have a_:(M (Go.cR.spot P aw p).1 (Go.cR.spot P aw p).2)[1]=id:=e.2;rw[a_,h] at aa;cases aa
 | some x =>
  obtain⟨leaf,d⟩:=x;obtain⟨r,i,b0,ar,hi⟩:=l.comp id _ h;obtain⟨q,aj,e⟩:=l.spot o hw b0 ar hi;have eq:fg P aw M q=M r i:=by unfold fg;rw[e]
  refine(aap (q:=q) (by rw[eq];exact⟨ar,hi⟩) _ aj λp aP cc=>?_).trans ?_
  .have:=l.uniq _ _ _ _ (mX o bc aP) (mX o bc aj) cc.1 (by rw[e];exact ar) (by rw[e];show(fg P aw M p)[1]=_;rw[cc.2,hi]);exact Gz o bc (aFn this.1 this.2)
  .rw[eq];obtain⟨aCu,aa,_⟩:=l.sound r i b0 ar;rw[hi,h] at aa;obtain⟨rfl,rfl⟩:=aEp (aDX aa);rfl
theorem ao1 {P:dx}(o:P.dt){op:fv}{M:dY}{B:UInt64->Option (Nat×c_)}(l:oA P M B){id:UInt64}{aw to:Nat}(bc:aw<2 ^ P.k)(bG:to<2 ^ P.k)(hO:id.toNat<=2147483648)
 (hw:∀leaf d,B id=some (leaf,d)->leaf=aw) (aT:tu P op id aw to M=false) :
 oA P (lI P op id aw to M) (λx=>if x=id then (op.now (kd P id aw M).1 (kd P id aw M).2).map (λd=>(to,d)) else B x):=by
 have ef:=zL o (op:=op) l.mQ bc bG hO;obtain⟨g,qn,_⟩:=Fi o aw _ ef;have jw:=Ai o;generalize ao2:op.now (kd P id aw M).1 (kd P id aw M).2=now at *;have gf:iP P op id aw to M=kV P aw id M (Ao id to now):=by unfold iP;rw[ao2]
 have bp:∀p,p<P.m->ei (kH P aw (iP P op id aw to M) p)=true ->
  ((g p<P.m/\ei (fg P aw M (g p))=true/\(fg P aw M (g p))[1]≠id/\(kH P aw (iP P op id aw to M) p)[1]=(fg P aw M (g p))[1])∨(g p=P.m/\(kH P aw (iP P op id aw to M) p)[1]=id)) /\
  ∃leaf,(if (kH P aw (iP P op id aw to M) p)[1]=id then now.map (λd=>(to,d)) else B (kH P aw (iP P op id aw to M) p)[1])=some (leaf,kr (kH P aw (iP P op id aw to M) p)) /\
   (kH P aw (iP P op id aw to M) p)[2].toNat=leaf/\leaf<2 ^ P.k/\(kH P aw (iP P op id aw to M) p)[1].toNat<=2147483648/\(p<P.tree->l8 P.k aw (p/P.s)=l8 P.k leaf (p/P.s)):=by
  intro p aP ar;have aV:0<P.s:=by have:=o.s;omega
  obtain⟨aa,ad,an,aJ,aR⟩:=qn.bp p (uv o aP) ar;obtain⟨_,f1,f2,f3⟩:=Fj an;have si:=ad;rw[gf] at si;rw[f1,f2,f3];rcases wJ si with ⟨av,aN,a3,a4⟩|⟨av,aN,a3⟩
  .rw[<-gf] at aN;rw[aN];obtain⟨leaf,ae,ax,aM,bM,_⟩:=l.sound _ _ (mX o bc av) a3;refine⟨.inl ⟨av,a3,a4,rfl⟩,leaf,?_,ax,aM,bM,λbG=>?_⟩
   .rw[aDq a4];exact ae
   .have:=aR bG;rw[aN] at this;have CK:(fg P aw M (g p))[2].toNat=leaf:=ax;rw[CK] at this;exact Qu bc aM this (Dg aV bG)
  .rw[<-gf] at aN;rw[aN];obtain⟨d,aH,a_⟩:=Di a3;rw[a_,GA,Qw,N_,Qx o.k bG];refine⟨.inr ⟨av,rfl⟩,to,?_,rfl,bG,hO,λDj=>?_⟩
   .rw[aDr rfl,aH];rfl
   .have:=aR Dj;rw[aN,a_,Qw,Qx o.k bG] at this;exact Qu bc bG this (Dg aV Dj)
 have off:∀r i,mA P r i->(∀p,p<P.m->spot P aw p≠(r,i))->ei (M r i)=true->(M r i)[1]≠id:=λr i b0 aK ar hi=>by
  obtain⟨p,aP,e⟩:=l.spot o hw b0 ar hi;exact aK p aP e
 refine⟨λr i b0 ar=>?_,λAA x ai=>?_,λr i fk dO b0 hE ar hY he=>?_⟩
 .rcases zM o (op:=op) (id:=id) (to:=to) bc M b0 with ⟨p,aP,dM,e⟩|⟨aK,e⟩
  .rw[e] at ar ⊢;rw[pL] at ar;obtain⟨_,leaf,ae,ax,aM,bM,b1⟩:=bp p aP ar;rw[u5,KW,Jn];refine⟨leaf,ae,ax,aM,bM,λaQ=>?_⟩;have aV:0<P.s:=by have:=o.s;omega
   have Dj:p<P.s*(P.k+1):=by
    rcases aDZ p (P.s*(P.k+1)) with h|h
    .exact h
    .rw[x7 (by omega),aQ] at dM;have:=(aEp dM).1;omega
   refine⟨p/P.s,Dg aV Dj,?_⟩;rw[x6 Dj] at dM;have:=(aEp dM).2;rw[<-this,(CO (aEk p aV)).1];exact b1 Dj
  .rw[e] at ar ⊢;obtain⟨leaf,ae,ax⟩:=l.sound r i b0 ar;exact⟨leaf,by rw[aDq (off r i b0 aK ar)];exact ae,ax⟩
 .by_cases hi:AA=id
  .subst hi;rw[aDr rfl] at ai;obtain⟨d,b4,_⟩:=Option.map_eq_some_iff.1 ai;have kY:ei (iP P op AA aw to M P.m)=true:=by
    rw[gf,kV,cS,aDr rfl,b4];exact aoY _ _ _
   obtain⟨p,aP,ar,dd⟩:=qn.all aT P.m (by show P.s*(P.k+1)+P.t<_;unfold dx.n;omega) kY;refine⟨_,_,mX o bc aP,?_⟩;rw[Dh o bc M aP,pL,u5];refine⟨ar,?_⟩;rcases (bp p aP ar).1 with ⟨h,_⟩|⟨_,h⟩
   .omega
   .exact h
  .rw[aDq hi] at ai;obtain⟨r,i,b0,ar,e⟩:=l.comp AA x ai;rcases zM o (op:=op) (id:=id) (to:=to) bc M b0 with ⟨p,aP,dM,aH⟩|⟨aK,aH⟩
   .have es:fg P aw M p=M r i:=by unfold fg;rw[dM]
    have kY:iP P op id aw to M p=M r i:=by
     rw[gf,kV,aDr aP,strip,es,aDq (λh=>hi (by rw[<-e,h.2]))]
    obtain⟨q,aj,ar,dd⟩:=qn.all aT p (by show p<P.m+1;omega) (by rw[kY];exact ar);refine⟨_,_,mX o bc aj,?_⟩;rw[Dh o bc M aj,pL,u5];refine⟨ar,?_⟩;rcases (bp q aj ar).1 with ⟨_,_,_,h⟩|⟨h,_⟩
    .rw[h,dd,es,e]
    .omega
   .exact⟨r,i,b0,by rw[aH];exact⟨ar,e⟩⟩
 .rcases zM o (op:=op) (id:=id) (to:=to) bc M b0 with ⟨p,aP,dM,aH⟩|⟨aK,aH⟩
  .rw[aH] at ar he;rw[pL] at ar;rw[u5] at he;rcases zM o (op:=op) (id:=id) (to:=to) bc M hE with ⟨q,aj,f0,f1⟩|⟨my,f1⟩
   .rw[f1] at hY he;rw[pL] at hY;rw[u5] at he;have Qy:p=q:=by
     refine qn.inj p q (uv o aP) (uv o aj) ?_;rcases (bp p aP ar).1 with ⟨av,aN,a3,a4⟩|⟨av,aN⟩
     .rcases (bp q aj hY).1 with ⟨ae,ax,aM,bM⟩|⟨ae,ax⟩
      .have:=l.uniq _ _ _ _ (mX o bc av) (mX o bc ae) aN ax (by show(fg P aw M (g p))[1]=(fg P aw M (g q))[1];rw[<-a4,<-bM,he]);exact Gz o bc (aFn this.1 this.2)
      .rw[a4,ax] at he;exact absurd he a3
     .rcases (bp q aj hY).1 with ⟨ae,ax,aM,bM⟩|⟨ae,ax⟩
      .rw[aN,bM] at he;exact absurd he.symm aM
      .rw[av,ae]
    subst Qy;rw[dM] at f0;exact⟨(aEp f0).1,(aEp f0).2⟩
   .rw[f1] at hY he;rcases (bp p aP ar).1 with ⟨av,aN,a3,a4⟩|⟨av,aN⟩
    .have:=l.uniq _ _ _ _ (mX o bc av) hE aN hY (by show(fg P aw M (g p))[1]=_;rw[<-a4,he]);exact absurd (aFn this.1 this.2) (my _ av)
    .rw[aN] at he;exact absurd he.symm (off fk dO hE my hY)
  .rw[aH] at ar he;rcases zM o (op:=op) (id:=id) (to:=to) bc M hE with ⟨q,aj,f0,f1⟩|⟨my,f1⟩
   .rw[f1] at hY he;rw[pL] at hY;rw[u5] at he;rcases (bp q aj hY).1 with ⟨av,aN,a3,a4⟩|⟨av,aN⟩
    .have:=l.uniq _ _ _ _ (mX o bc av) b0 aN ar (by show(fg P aw M (g q))[1]=_;rw[<-a4,he]);exact absurd (aFn this.1 this.2) (aK _ av)
    .rw[aN] at he;exact absurd he (off r i b0 aK ar)
   .rw[f1] at hY he;exact l.uniq _ _ _ _ b0 hE ar hY he
theorem ao3 {P:dx}(o:P.dt){op:fv}{M:dY}{B:UInt64->Option (Nat×c_)}(l:oA P M B){id:UInt64}{aw to:Nat}(bc:aw<2 ^ P.k)(bG:to<2 ^ P.k)(hO:id.toNat<=2147483648)
 (S:List UInt64) (uY:S.length<=P.t) (dC:∀x,B x≠none->x∈S) (aK:op.now (kd P id aw M).1 (kd P id aw M).2≠none->id∈S):tu P op id aw to M=false:=by
 have ef:=zL o (op:=op) l.mQ bc bG hO;obtain⟨g,_,Qp⟩:=Fi o aw _ ef;refine Qp S uY (λi h=>?_) (λi j h af he=>?_)
 .rcases wJ h with ⟨av,aN,a3,a4⟩|⟨av,aN,a3⟩
  .unfold iP;rw[aN];obtain⟨leaf,ae,_⟩:=l.sound _ _ (mX o bc av) a3;exact dC _ (by show B (M _ _)[1]≠none;rw[ae];simp)
  .obtain⟨d,aH,a_⟩:=Di a3;unfold iP;rw[aN,a_,GA];exact aK (by rw[aH];simp)
 .unfold iP at he;rcases wJ h with ⟨av,aN,a3,a4⟩|⟨av,aN,a3⟩
  .rcases wJ af with ⟨ae,ax,aM,bM⟩|⟨ae,ax,aM⟩
   .rw[aN,ax] at he;have:=l.uniq _ _ _ _ (mX o bc av) (mX o bc ae) a3 aM he;exact Gz o bc (aFn this.1 this.2)
   .obtain⟨d,_,a_⟩:=Di aM;rw[aN,ax,a_,GA] at he;exact absurd he a4
  .rcases wJ af with ⟨ae,ax,aM,bM⟩|⟨ae,ax,aM⟩
   .obtain⟨d,_,a_⟩:=Di a3;rw[aN,ax,a_,GA] at he;exact absurd he.symm bM
   .omega
theorem oA.zero {P:dx}{M:dY}(h:∀r i,mA P r i->M r i=fm):oA P M (λ_=>none) :=
 ⟨λr i b0 ar=>(by rw[h r i b0,wI] at ar;cases ar),λid x ai=>(by cases ai),λr i fk dO b0 _ ar=>(by rw[h r i b0,wI] at ar;cases ar)⟩
end Go.cR
namespace Go.cR
theorem aaq:∀ {l fw:List Nat},l.Perm fw->l.Pairwise (·<=·)->fw.Pairwise (·<=·)->l=fw
 | [],fw,p,_,_=>(List.Perm.eq_nil p.symm).symm
 | a::l,[],p,_,_=>by have:=p.length_eq;simp at this
 | a::l,b::fw,p,s,cE=>by
  obtain⟨ao4,kf⟩:=List.pairwise_cons.1 s;obtain⟨cO,ao5⟩:=List.pairwise_cons.1 cE;have Pp:a=b:=by
   have aa:a∈b::fw:=p.mem_iff.1 (aDH ..);have ad:b∈a::l:=p.mem_iff.2 (aDH ..);rcases aEr.1 aa with aa|aa
   .exact aa
   .rcases aEr.1 ad with ad|ad
    .exact ad.symm
    .have:=ao4 b ad;have:=cO a aa;omega
  subst Pp;rw[aaq (List.Perm.cons_inv p) kf ao5]
theorem aar {n:Nat}{f:Nat->Nat}(h:∀i j,i<=j->j<n->f i<=f j):((List.range n).map f).Pairwise (·<=·):=by
 rw[aFk];intro i j hi aU oR;simp only[aFl,aFs];exact h i j (by omega) (by simpa using aU)
theorem ao6 {n:Nat}{f g:Nat->Nat}(p:((List.range n).map f).Perm ((List.range n).map g))(bc:∀i j,i<=j->j<n->f i<=f j)(dd:∀i j,i<=j->j<n->g i<=g j){i:Nat}(hi:i<n):f i=g i:=by
 have e:=aaq p (aar bc) (aar dd);have:=congrArg (λl=>l[i]?) e;simpa [hi] using this
def oZ (k key:Nat):UInt64×Int:=if key<4611686018427387904 then (UInt64.ofNat (key%4294967296),(k:Int)-(key/4294967296:Nat)) else (0,-1)
def jy (P:dx)(aw:Nat)(c:cM):UInt64×Int:=if ei c=true then (c[1],((k1 P.k aw c[2].toNat:Nat):Int)) else (0,-1)
theorem CY (k a b:Nat):k1 k a b<=k:=by unfold k1;omega
theorem Zw {P:dx}(o:P.dt){aw:Nat}{T:Nat->cM}(w:yc P T){i:Nat}(hi:i<2 ^ P.E):jy P aw (T i)=oZ P.k (ht (hH P aw T i)):=by
 have jw:=Ai o;unfold jy;by_cases h:ei (T i)=true
 .rw[aDr h];have hO:=w.id i h;have e:ht (hH P aw T i)=(P.k-k1 P.k aw (T i)[2].toNat)*4294967296+(T i)[1].toNat:=by
   unfold ht hH;rw[yb];exact aae o (w.lt i h) h hO
  have b4:=CY P.k aw (T i)[2].toNat;have ah:=o.k;generalize k1 P.k aw (T i)[2].toNat=d at *;unfold oZ;rw[e,eY];have aH:((P.k-d)*4294967296+(T i)[1].toNat)%4294967296=(T i)[1].toNat:=by omega
  have a_:((P.k-d)*4294967296+(T i)[1].toNat)/4294967296=P.k-d:=by omega
  rw[aH,a_];refine aFn ?_ ?_
  .show(T i)[1]=UInt64.ofNat (T i)[1].toNat;simp
  .show((d:Nat):Int)=(P.k:Int)-((P.k-d:Nat):Int);omega
 .rw[aDq h];have e:ht (hH P aw T i)=4611686018427387904+i:=by
   unfold ht hH;rw[yb];exact aaf (by omega) (λx=>h x.2)
  unfold oZ;rw[e,cS]
theorem ao7 (P:dx)(aw:Nat)(c:cM)(x:UInt64):jy P aw (c.set 11 x)=jy P aw c:=by
 unfold jy;rw[pL,u5,KW]
theorem P6 {P:dx}(o:P.dt){aw:Nat}{T:Nat->cM}(w:yc P T){i:Nat}(hi:i<2 ^ P.E):jy P aw (fy P aw T i)=oZ P.k (ht (fy P aw T i)):=by
 obtain⟨σ,τ,b,e⟩:=Qq ht P.E (hH P aw T);have e:fy P aw T i=hH P aw T (σ i):=e i hi;rw[e,<-Zw o w (b.s i hi)];unfold hH;rw[ao7]
theorem KJ (P:dx)(aw:Nat)(c:cM):(jy P aw c).2=wC P aw c:=by unfold jy wC;split<;>rfl
theorem an2 {P:dx}(o:P.dt){aw:Nat}{T:Nat->cM}(w:yc P T){bO:Nat->Nat}(p:((List.range (2 ^ P.E)).map bO).Perm ((List.range (2 ^ P.E)).map λi=>ht (hH P aw T i)))(s:∀i j,i<=j->j<2 ^ P.E->bO i<=bO j){i:Nat}(hi:i<2 ^ P.E) :
 oZ P.k (bO i)=jy P aw (fy P aw T i):=by
 rw[P6 o w hi];congr 1;refine ao6 (f:=bO) (g:=λi=>ht (fy P aw T i)) (p.trans ?_) s (λi j aa ad=>KQ ht P.E _ aa ad) hi;have:=((ZZ ht P.E (hH P aw T)).1.map ht).symm;rw[aEH,aEH] at this;exact this
theorem Zx (P:dx)(aw:Nat)(T:Nat->cM){i j:Nat}(aa:i<=j)(ad:j<2 ^ P.E):ht (fy P aw T i)<=ht (fy P aw T j):=KQ ht P.E _ aa ad
end Go.cR
namespace Go.cR
structure cq where
 m:Nat
 L:Nat
 s:Nat
 t:Nat
 E:Nat->Nat
 f:Nat
def cq.k (G:cq)(h:Nat):Nat:=G.m-2*h
def cq.ew (G:cq)(h:Nat):dx:=⟨G.m-2*h,G.s,G.t,G.E h⟩
def cq.top (G:cq):Nat:=2 ^ (G.m-2*(G.L-1))
def cq.base (G:cq)(h:Nat):Nat:=G.f+1+3*h
structure cq.dt (G:cq):Prop where
 m:G.m<=10
 L:1<=G.L/\G.L<=4
 gS:∀h,(G.ew h).dt
def cq.bQ (G:cq)(u h:Nat):Nat:=u+2*(G.L-1-h)
def cq.leaf (G:cq)(w:Nat->UInt64)(h p:Nat):Nat:=(w p).toNat%2 ^ (G.m-2*h)
theorem cq.pN (G:cq)(w:Nat->UInt64)(h p:Nat):G.leaf w h p<2 ^ (G.ew h).k:=aEk _ (aD8 (by decide))
structure c7 where
 R:dY
 used:Nat
 over:Nat->Bool
 ids:Nat->List UInt64
 gone:List (Nat×Nat)
def kZ (b:Nat)(R:dY):dY:=λr i=>R (b+r) i
def lV (b:Nat)(R M:dY):dY:=λr i=>if b<=r/\r<b+3 then M (r-b) i else R r i
def meets (op:fv)(id:UInt64)(l:List UInt64):List UInt64 :=
 match op with
 | .put _=>if id∈l then l else l++[id]
 | .part _ _ _=>if id∈l then l else l++[id]
 | _=>l
def cq.bV (G:cq)(h:Nat)(R:dY):dY:=kZ (G.base h) R
def cq.acc (G:cq)(h:Nat)(op:fv)(id:UInt64)(aw to:Nat)(S:c7):c7 :=
 { S with
  R:=lV (G.base h) S.R (lI (G.ew h) op id aw to (G.bV h S.R))
  over:=λx=>if x=h then S.over h||tu (G.ew h) op id aw to (G.bV h S.R) else S.over x
  ids:=λx=>if x=h then meets op id (S.ids h) else S.ids x }
def cq.old (G:cq)(h:Nat)(id:UInt64)(aw:Nat)(S:c7):c_×Bool:=kd (G.ew h) id aw (G.bV h S.R)
def gd (v p:UInt64)(sp:Nat×Nat):Nat×Nat:=if v=0 then sp else (v.toNat-1,p.toNat)
def cT (x h:Nat):UInt64:=UInt64.ofNat (x/4 ^ h)
def ih (d:c_)(j:Nat):UInt64:=d[j]?.getD 0
def kl (G:cq)(w:Nat->UInt64)(u:Nat)(op:fv)(x:Nat):(h:Nat)->UInt64->UInt64->c7->c7×c_×Bool
 | 0,v,p,S =>
  let aw:=gd v p (G.leaf w 0 (G.bQ u 0+1),G.bQ u 0+1);let fz:={ S with gone:=S.gone++[aw] }
  (G.acc 0 op (cT x 0) aw.1 (G.leaf w 0 (G.bQ u 0)) fz,G.old 0 (cT x 0) aw.1 fz)
 | h+1,v,p,S =>
  let aw:=gd v p (G.leaf w (h+1) (G.bQ u (h+1)+1),G.bQ u (h+1)+1);let fz:={ S with gone:=S.gone++[aw] };let j:=2*(x/4 ^ h%4);let old:=(G.old (h+1) (cT x (h+1)) aw.1 fz).1
  kl G w u op x h (ih old j) (ih old (j+1)) (G.acc (h+1) (.part j (UInt64.ofNat (G.leaf w h (G.bQ u h)+1)) (UInt64.ofNat (G.bQ u h))) (cT x (h+1)) aw.1 (G.leaf w (h+1) (G.bQ u (h+1))) fz)
def u6 (v p:UInt64):cM:=#v[v,p,0,0,0,0,0,0,0,0,0,0]
def de (G:cq)(w:Nat->UInt64)(op:fv)(x:Nat)(S:c7):c7×c_×Bool :=
 let c:=S.R G.f (x/4 ^ (G.L-1))
 kl G w S.used op x (G.L-1) c[0] c[1]
  { S with R:=fM S.R (G.f,x/4 ^ (G.L-1)) (u6 (UInt64.ofNat (G.leaf w (G.L-1) (G.bQ S.used (G.L-1))+1)) (UInt64.ofNat (G.bQ S.used (G.L-1)))),used:=S.used+2*G.L }
theorem N9 {id:UInt64}{f:Nat->cM}:∀n,iv id f n=(j7,false)∨∃p,p<n/\ei (f p)=true/\(f p)[1]=id/\iv id f n=(kr (f p),true)
 | 0=> .inl rfl
 | n+1=>by
  unfold iv;split
  .rename_i h;exact .inr ⟨n,by omega,h.1,h.2,rfl⟩
  .rcases N9 (id:=id) (f:=f) n with h|⟨p,aa,ad⟩
   .exact .inl h
   .exact .inr ⟨p,by omega,ad⟩
theorem ao8 {P:dx}(o:P.dt){op:fv}{id:UInt64}{aw to:Nat}{M:dY}(w:rl P M)(bc:aw<2 ^ P.k)(bG:to<2 ^ P.k)(hO:id.toNat<=2147483648) :
 ∃φ:Nat->Nat->Option (Nat×Nat),
  (∀r i,mA P r i->ei (lI P op id aw to M r i)=true->φ r i=none->∃d,op.now (kd P id aw M).1 (kd P id aw M).2=some d/\kr (lI P op id aw to M r i)=d) /\
  (∀r i q,mA P r i->ei (lI P op id aw to M r i)=true->φ r i=some q->mA P q.1 q.2/\ei (M q.1 q.2)=true/\kr (lI P op id aw to M r i)=kr (M q.1 q.2)/\((∃p,p<P.m/\spot P aw p=q)->(M q.1 q.2)[1]≠id)) /\
  (∀r i fk dO,mA P r i->mA P fk dO->ei (lI P op id aw to M r i)=true->ei (lI P op id aw to M fk dO)=true->φ r i=φ fk dO->r=fk/\i=dO):=by
 have ef:=zL o (op:=op) w bc bG hO;obtain⟨g,qn,_⟩:=Fi o aw _ ef;have dec:∀r i,∃y:Option Nat,(match y with|some p=>p<P.m/\spot P aw p=(r,i)|none=>∀p,p<P.m->spot P aw p≠(r,i)):=λr i=>by
  by_cases h:∃p,p<P.m/\spot P aw p=(r,i)
  .obtain⟨p,aP⟩:=h;exact⟨some p,aP⟩
  .exact⟨none,λp aP e=>h ⟨p,aP,e⟩⟩
 let sp:Nat->Nat->Option Nat:=λr i=>Classical.choose (dec r i);have iL:∀r i,(match sp r i with|some p=>p<P.m/\spot P aw p=(r,i)|none=>∀p,p<P.m->spot P aw p≠(r,i)):=λr i=>Classical.choose_spec (dec r i);have v2:∀ {r i},mA P r i->r≠2:=λb0=>by rcases b0 with ⟨h,_⟩|⟨h,_⟩<;>omega
 refine⟨λr i=>match sp r i with|some p=>if g p<P.m then some (spot P aw (g p)) else none|none=>some (r,i),λr i b0 ar h=>?_,λr i q b0 ar h=>?_,λr i fk dO b0 hE ar hY h=>?_⟩
 .have aV:=iL r i;cases e:sp r i with
  | none=>simp only[e] at h;cases h
  | some p =>
   simp only[e] at h aV;obtain⟨aP,dM⟩:=aV;have aH:=Dh o (op:=op) (id:=id) (to:=to) bc M aP;rw[dM] at aH;rw[aH,pL] at ar;rw[aH,Jn];obtain⟨aa,ad,an,_⟩:=qn.bp p (uv o aP) ar;obtain⟨_,f1,f2,f3⟩:=Fj an;split at h
   .cases h
   .rcases wJ ad with ⟨av,_⟩|⟨av,aN,a3⟩
    .omega
    .obtain⟨d,a_,b7⟩:=Di a3;refine⟨d,a_,?_⟩;rw[f3];unfold iP;rw[aN,b7,N_]
 .have aV:=iL r i;cases e:sp r i with
  | none =>
   simp only[e] at h aV;cases h;have aH:=aam (op:=op) (id:=id) (to:=to) M (v2 b0) aV;rw[aH] at ar ⊢;exact⟨b0,ar,rfl,fun⟨p,aP,h⟩=>absurd h (aV p aP)⟩
  | some p =>
   simp only[e] at h aV;obtain⟨aP,dM⟩:=aV;have aH:=Dh o (op:=op) (id:=id) (to:=to) bc M aP;rw[dM] at aH;rw[aH,pL] at ar;rw[aH,Jn];obtain⟨aa,ad,an,_⟩:=qn.bp p (uv o aP) ar;obtain⟨_,f1,f2,f3⟩:=Fj an;split at h
   .rename_i dd
    cases h;rcases wJ ad with ⟨av,aN,a3,a4⟩|⟨av,_⟩
    .refine⟨mX o bc dd,a3,?_,λ_=>a4⟩;rw[f3];unfold iP;rw[aN];rfl
    .omega
   .cases h
 .have aV:=iL r i;have p6:=iL fk dO;have bp:∀p,p<P.m->∀r i,spot P aw p=(r,i)->ei (lI P op id aw to M r i)=true->g p<P.m∨g p=P.m:=λp aP r i dM ar=>by
   have aH:=Dh o (op:=op) (id:=id) (to:=to) bc M aP;rw[dM] at aH;rw[aH,pL] at ar;obtain⟨_,ad,_⟩:=qn.bp p (uv o aP) ar;rcases wJ ad with ⟨av,_⟩|⟨av,_⟩
   .exact .inl av
   .exact .inr av
  cases e:sp r i with
  | none =>
   simp only[e] at h aV;cases cc:sp fk dO with
   | none=>simp only[cc] at h;cases h;exact⟨rfl,rfl⟩
   | some q =>
    simp only[cc] at h p6;split at h
    .rename_i dd
     exact absurd (aDX h).symm (aV _ dd)
    .cases h
  | some p =>
   simp only[e] at h aV;cases cc:sp fk dO with
   | none =>
    simp only[cc] at h p6;split at h
    .rename_i dd
     exact absurd (aDX h) (p6 _ dd)
    .cases h
   | some q =>
    simp only[cc] at h p6;have Qy:p=q:=by
     refine qn.inj p q (uv o aV.1) (uv o p6.1) ?_;split at h
     .split at h
      .exact Gz o bc (aDX h)
      .cases h
     .split at h
      .cases h
      .rcases bp p aV.1 r i aV.2 ar with c|c<;>rcases bp q p6.1 fk dO p6.2 hY with cr|cr<;>omega
    subst Qy;have:=aV.2.symm.trans p6.2;exact⟨(aEp this).1,(aEp this).2⟩
end Go.cR
namespace Go.cR
variable {G:cq} {w:Nat->UInt64}
inductive Loc where
 | top (x:Nat)
 | bp (h r i q:Nat)
 deriving DecidableEq
def mP (G:cq)(R:dY):Loc->Nat->UInt64->UInt64->Prop
 | .top x,bG,v,p=>x<G.top/\bG+1=G.L/\v=(R G.f x)[0]/\p=(R G.f x)[1]
 | .bp h r i q,bG,v,p=>h<G.L/\bG+1=h/\mA (G.ew h) r i/\ei (G.bV h R r i)=true/\q<4/\v=ih (kr (G.bV h R r i)) (2*q)/\p=ih (kr (G.bV h R r i)) (2*q+1)
structure Dk (G:cq)(w:Nat->UInt64)(u0 o1 bG:Nat)(v p:UInt64):Prop where
 lt:p.toNat<o1
 val:v.toNat=G.leaf w bG p.toNat+1
 kind:∃a,p.toNat=G.bQ (u0+2*G.L*a) bG
 bG:bG<G.L
structure Ym (G:cq)(w:Nat->UInt64)(u0 o1:Nat)(g:List (Nat×Nat)):Prop where
 nodup:(g.map (·.2)).Nodup
 lt:∀x∈g,x.2<o1
 val:∀i x,g[i]? =some x->x.1=G.leaf w (G.L-1-i%G.L) x.2
 kind:∀i x,g[i]? =some x->∃a e,a<=i/G.L/\e<=1/\x.2=G.bQ (u0+2*G.L*a) (G.L-1-i%G.L)+e
structure lk (G:cq)(w:Nat->UInt64)(u0 o1:Nat)(S:c7):Prop where
 mQ:∀h,h<G.L->rl (G.ew h) (G.bV h S.R)
 pc:∀l bG v p,mP G S.R l bG v p->v≠0->Dk G w u0 o1 bG v p/\p.toNat∉S.gone.map (·.2)
 uniq:∀l bG v p fw ns gx eW,mP G S.R l bG v p->mP G S.R fw ns gx eW->v≠0->gx≠0->p=eW->l=fw
 gone:Ym G w u0 o1 S.gone
structure s5 (G:cq)(w:Nat->UInt64)(u0 o1 h:Nat)(S:c7)(v p:UInt64):Prop where
 pc:v≠0->Dk G w u0 o1 h v p/\p.toNat∉S.gone.map (·.2)
 uniq:∀l bG gx eW,v≠0->mP G S.R l bG gx eW->gx≠0->eW≠p
theorem Jo {b:Nat}{R M:dY}{r i:Nat}(h:r<3):kZ b (lV b R M) r i=M r i:=by
 unfold kZ lV;rw[eY,aE1]
theorem BR {b:Nat}{R M:dY}{r i:Nat}(h:r<b∨b+3<=r):lV b R M r i=R r i:=by
 unfold lV;rw[cS]
theorem GB {h af:Nat}{R M:dY}{r i:Nat}(dA:h≠af)(aQ:r<3):G.bV af (lV (G.base h) R M) r i=G.bV af R r i:=by
 unfold cq.bV kZ;exact BR (by unfold cq.base;omega)
theorem AB {P:dx}{r i:Nat}(h:mA P r i):r<3:=by rcases h with ⟨h,_⟩|⟨h,_⟩<;>omega
theorem rl.congr {P:dx}{M ke:dY}(w:rl P M)(h:∀r i,r<3->ke r i=M r i):rl P ke:=λr i b0 ar=>by
 rw[h r i (AB b0)] at ar ⊢;exact w r i b0 ar
theorem oA.congr {P:dx}{M ke:dY}{B:UInt64->Option (Nat×c_)}(l:oA P M B)(h:∀r i,r<3->ke r i=M r i):oA P ke B:=by
 refine⟨λr i b0 ar=>?_,λid x ai=>?_,λr i fk dO b0 hE ar hY he=>?_⟩
 .rw[h r i (AB b0)] at ar ⊢;exact l.sound r i b0 ar
 .obtain⟨r,i,b0,ar⟩:=l.comp id x ai;exact⟨r,i,b0,by rw[h r i (AB b0)];exact ar⟩
 .rw[h r i (AB b0)] at ar he;rw[h fk dO (AB hE)] at hY he;exact l.uniq r i fk dO b0 hE ar hY he
theorem oM (o:G.dt){x h:Nat}(ai:x<2 ^ G.m):(cT x h).toNat=x/4 ^ h/\(cT x h).toNat<=2147483648:=by
 have aa:x/4 ^ h<=x:=aEY _ _;have ad:2 ^ G.m<=2 ^ 10:=aDy (by decide) o.m;unfold cT;rw[aDw];generalize x/4 ^ h=y at *;omega
theorem yh (o:G.dt)(h p:Nat):G.leaf w h p<1024:=by
 have aa:=G.pN w h p;have ad:2 ^ (G.ew h).k<=2 ^ 10:=aDy (by decide) (o.gS h).k;omega
theorem Qz (o:G.dt)(h p:Nat):(UInt64.ofNat (G.leaf w h p+1)).toNat=G.leaf w h p+1:=by
 have:=yh (w:=w) o h p;rw[aDw];omega
theorem aas {p:Nat}(h:p<2 ^ 63):(UInt64.ofNat p).toNat=p:=by rw[aDw];omega
theorem xJ (o:G.dt){u0 u h:Nat}{a:Nat}(hu:u=u0+2*G.L*a)(b2:h<G.L){S:c7}(e2:lk G w u0 (G.bQ u h+1) S){v p:UInt64}(c:s5 G w u0 (G.bQ u h+1) h S v p)
 (hlen:S.gone.length=G.L*a+(G.L-1-h)) :
 (gd v p (G.leaf w h (G.bQ u h+1),G.bQ u h+1)).1<2 ^ (G.ew h).k/\lk G w u0 (G.bQ u h+2) { S with gone:=S.gone++[gd v p (G.leaf w h (G.bQ u h+1),G.bQ u h+1)] }:=by
 have eg:=o.L;have Kf:(G.L*a+(G.L-1-h))%G.L=G.L-1-h:=by
  rw[Nat.mul_add_mod];exact aEF (by omega)
 have hdiv:(G.L*a+(G.L-1-h))/G.L=a:=by
  rw[aFJ (by omega),aEE (by omega)];omega
 have KX:G.L-1-(G.L-1-h)=h:=by omega
 have key:(gd v p (G.leaf w h (G.bQ u h+1),G.bQ u h+1)).2<G.bQ u h+2/\(gd v p (G.leaf w h (G.bQ u h+1),G.bQ u h+1)).1=G.leaf w h (gd v p (G.leaf w h (G.bQ u h+1),G.bQ u h+1)).2 /\
  (∃b e,b<=a/\e<=1/\(gd v p (G.leaf w h (G.bQ u h+1),G.bQ u h+1)).2=G.bQ (u0+2*G.L*b) h+e)/\(gd v p (G.leaf w h (G.bQ u h+1),G.bQ u h+1)).2∉S.gone.map (·.2) /\
  (∀l bG gx eW,mP G S.R l bG gx eW->gx≠0->eW.toNat≠(gd v p (G.leaf w h (G.bQ u h+1),G.bQ u h+1)).2):=by
  by_cases b0:v=0
  .unfold gd;rw[aDr b0];refine⟨by show G.bQ u h+1<_;omega,rfl,⟨a,1,by omega,by omega,by rw[hu]⟩,λhm=>?_,λl bG gx eW he hE aa=>?_⟩
   .obtain⟨x,ai,e⟩:=aD2.1 hm;have:=e2.gone.lt x ai;have e:x.2=G.bQ u h+1:=e;omega
   .have:=(e2.pc l bG gx eW he hE).1.lt;have aa:eW.toNat=G.bQ u h+1:=aa;omega
  .obtain⟨g,dd⟩:=c.pc b0;unfold gd;rw[aDq b0];refine⟨by have:=g.lt;show p.toNat<_;omega,by have:=g.val;show v.toNat-1=G.leaf w h p.toNat;omega,?_,dd,λl bG gx eW he hE aa=>?_⟩
   .obtain⟨b,ar⟩:=g.kind;refine⟨b,0,?_,by omega,by rw[aEe];exact ar⟩;have:=g.lt;rw[ar,hu] at this;unfold cq.bQ at this;have ad:2*G.L*b<2*G.L*(a+1):=by rw[aEU];omega
    have:=Nat.lt_of_mul_lt_mul_left ad;omega
   .exact c.uniq l bG gx eW b0 he hE (aDE.1 aa)
 obtain⟨aD,aB,aG,bd,bF⟩:=key;refine⟨by rw[aB];exact G.pN w h _,e2.mQ,λl bG gx eW he hE=>?_,e2.uniq,?_⟩
 .obtain⟨g,dd⟩:=e2.pc l bG gx eW he hE;refine⟨⟨by have:=g.lt;omega,g.val,g.kind,g.bG⟩,λhm=>?_⟩;rw[aD4] at hm;rcases aDO.1 hm with aa|aa
  .exact dd aa
  .simp only[aEs,List.map_nil,aEw] at aa;exact bF l bG gx eW he hE aa
 .refine⟨?_,λx ai=>?_,λi x hi=>?_,λi x hi=>?_⟩
  .rw[aD4,aFg];refine⟨e2.gone.nodup,by simp,λx ai y aC=>?_⟩;simp only[aEs,List.map_nil,aEw] at aC;subst aC;exact λe=>bd (e▸ai)
  .rcases aDO.1 ai with aa|aa
   .have:=e2.gone.lt x aa;omega
   .simp only[aEw] at aa;rw[aa];exact aD
  .rcases aDZ i S.gone.length with aa|aa
   .rw[aD0 aa] at hi;exact e2.gone.val i x hi
   .rw[aFe aa] at hi;have oQ:i-S.gone.length=0:=by
     rcases aFq (i-S.gone.length) with ad|ad
     .exact ad
     .rw[aEu (by simp;omega)] at hi;cases hi
    rw[oQ] at hi;simp only[aDK,aEj] at hi;have:i=G.L*a+(G.L-1-h):=by omega
    rw[this,Kf,KX,<-hi];exact aB
  .rcases aDZ i S.gone.length with aa|aa
   .rw[aD0 aa] at hi;exact e2.gone.kind i x hi
   .rw[aFe aa] at hi;have oQ:i-S.gone.length=0:=by
     rcases aFq (i-S.gone.length) with ad|ad
     .exact ad
     .rw[aEu (by simp;omega)] at hi;cases hi
    rw[oQ] at hi;simp only[aDK,aEj] at hi;have:i=G.L*a+(G.L-1-h):=by omega
    rw[this,Kf,KX,hdiv,<-hi];exact aG
theorem QA (d:c_)(j:Nat)(x y:UInt64)(i:Nat):ih ((d.setIfInBounds j x).setIfInBounds (j+1) y) i=if i=j+1/\i<8 then y else if i=j/\i<8 then x else ih d i:=by
 unfold ih;by_cases h:i<8
 .simp only[Vector.getElem?_setIfInBounds];by_cases aS:i=j+1
  .subst aS;simp[h]
  .by_cases aY:i=j
   .subst aY;simp[h]
   .rw[aDq (λe=>aS e.symm),aDq (λe=>aY e.symm),aDq (λe=>aS e.1),aDq (λe=>aY e.1)]
 .rw[aDq (λe=>h e.2),aDq (λe=>h e.2)];simp[h]
theorem AD (i:Nat):ih j7 i=0:=by
 unfold ih j7;by_cases h:i<8
 .simp[h]
 .simp[h]
theorem Fk (o:G.dt){u0 u h q1:Nat}(b2:h+1<G.L)(nc:q1<4)(pM:G.bQ u h<2 ^ 63){a:Nat}(hu:u=u0+2*G.L*a){S:c7}(e2:lk G w u0 (G.bQ u (h+1)+2) S){id:UInt64}(hO:id.toNat<=2147483648){aw to:Nat}(bc:aw<2 ^ (G.ew (h+1)).k)(bG:to<2 ^ (G.ew (h+1)).k) :
 lk G w u0 (G.bQ u h+1) (G.acc (h+1) (.part (2*q1) (UInt64.ofNat (G.leaf w h (G.bQ u h)+1)) (UInt64.ofNat (G.bQ u h))) id aw to S) /\
 s5 G w u0 (G.bQ u h+1) h (G.acc (h+1) (.part (2*q1) (UInt64.ofNat (G.leaf w h (G.bQ u h)+1)) (UInt64.ofNat (G.bQ u h))) id aw to S) (ih (G.old (h+1) id aw S).1 (2*q1)) (ih (G.old (h+1) id aw S).1 (2*q1+1)):=by
 have ao9:G.bQ u h=G.bQ u (h+1)+2:=by unfold cq.bQ;omega
 have hw:=e2.mQ (h+1) b2;have lo:=o.gS (h+1);generalize KY:UInt64.ofNat (G.leaf w h (G.bQ u h)+1)=nS;generalize KZ:UInt64.ofNat (G.bQ u h)=lR;have env:nS.toNat=G.leaf w h (G.bQ u h)+1:=by rw[<-KY];exact Qz o _ _
 have GC:lR.toNat=G.bQ u h:=by rw[<-KZ];exact aas pM
 obtain⟨φ,f1,f2,f3⟩:=ao8 lo (op:= .part (2*q1) nS lR) (id:=id) (to:=to) hw bc bG hO;generalize GD:lI (G.ew (h+1)) (.part (2*q1) nS lR) id aw to (G.bV (h+1) S.R)=ke at *;have rL:(G.acc (h+1) (.part (2*q1) nS lR) id aw to S).R=lV (G.base (h+1)) S.R ke:=by rw[<-GD];rfl
 have jm:(G.acc (h+1) (.part (2*q1) nS lR) id aw to S).gone=S.gone:=rfl;have own:∀ {r i},r<3->G.bV (h+1) (lV (G.base (h+1)) S.R ke) r i=ke r i:=λaQ=>Jo aQ;have hold:G.old (h+1) id aw S=(j7,false)∨∃cN,cN<(G.ew (h+1)).m/\ei (fg (G.ew (h+1)) aw (G.bV (h+1) S.R) cN)=true/\(fg (G.ew (h+1)) aw (G.bV (h+1) S.R) cN)[1]=id/\G.old (h+1) id aw S=(kr (fg (G.ew (h+1)) aw (G.bV (h+1) S.R) cN),true):=N9 _;have rM:∀l bG v p,mP G (lV (G.base (h+1)) S.R ke) l bG v p->v≠0 ->
  (mP G S.R l bG v p/\∀r i q,l≠.bp (h+1) r i q) ∨
  (∃r i q gU,l= .bp (h+1) r i q/\φ r i=some gU/\mA (G.ew (h+1)) r i/\ei (ke r i)=true/\mP G S.R (.bp (h+1) gU.1 gU.2 q) bG v p/\((∃p,p<(G.ew (h+1)).m/\spot (G.ew (h+1)) aw p=gU)->(G.bV (h+1) S.R gU.1 gU.2)[1]≠id)) ∨
  (∃r i q cN,l= .bp (h+1) r i q/\φ r i=none/\mA (G.ew (h+1)) r i/\ei (ke r i)=true/\cN<(G.ew (h+1)).m/\mP G S.R (.bp (h+1) (spot (G.ew (h+1)) aw cN).1 (spot (G.ew (h+1)) aw cN).2 q) bG v p/\(fg (G.ew (h+1)) aw (G.bV (h+1) S.R) cN)[1]=id/\q≠q1) ∨
  (∃r i,l= .bp (h+1) r i q1/\φ r i=none/\mA (G.ew (h+1)) r i/\ei (ke r i)=true/\v=nS/\p=lR/\bG=h):=by
  intro l bG v p he b0;cases l with
  | top x =>
   left;refine⟨?_,λ_ _ _ e=>by cases e⟩;obtain⟨aH,a_,b7,b6⟩:=he;have ai:lV (G.base (h+1)) S.R ke G.f x=S.R G.f x:=BR (by unfold cq.base;omega);rw[ai] at b7 b6;exact⟨aH,a_,b7,b6⟩
  | bp af r i q =>
   obtain⟨aH,a_,b7,b6,cG,dP,fa⟩:=he;have aQ:=AB b7;by_cases jc:af=h+1
   .subst jc;rw[own aQ] at b6 dP fa;cases GF:φ r i with
    | some gU =>
     right;left;obtain⟨g1,g2,g3,g4⟩:=f2 r i gU b7 b6 GF;rw[g3] at dP fa;exact⟨r,i,q,gU,rfl,GF,b7,b6,⟨aH,a_,g1,g2,cG,dP,fa⟩,g4⟩
    | none =>
     obtain⟨d,g1,g2⟩:=f1 r i b7 b6 GF;have g1:some (((G.old (h+1) id aw S).1.setIfInBounds (2*q1) nS).setIfInBounds (2*q1+1) lR)=some d:=g1;rw[g2,<-aDX g1,QA] at dP fa;by_cases aj:q=q1
     .right;right;right;subst aj;rw[cS,eY] at dP;rw[eY] at fa;exact⟨r,i,rfl,GF,b7,b6,dP,fa,by omega⟩
     .right;right;left;rw[cS,cS] at dP fa;rcases hold with ep|⟨cN,ho,iz,zN,rm⟩
      .rw[ep,AD] at dP;exact absurd dP b0
      .rw[rm] at dP fa;exact⟨r,i,q,cN,rfl,GF,b7,b6,ho,⟨aH,a_,mX lo bc ho,iz,cG,dP,fa⟩,zN,aj⟩
   .left;rw[GB (λe=>jc e.symm) aQ] at b6 dP fa;exact⟨⟨aH,a_,b7,b6,cG,dP,fa⟩,λ_ _ _ e=>by cases e;exact jc rfl⟩
 have mb:∀ {l bG v p},mP G S.R l bG v p->v≠0->Dk G w u0 (G.bQ u h+1) bG v p/\p.toNat∉S.gone.map (·.2)/\p.toNat<G.bQ u h:=λhe b0=>by
  obtain⟨g,dd⟩:=e2.pc _ _ _ _ he b0;have:=g.lt;exact⟨⟨by omega,g.val,g.kind,g.bG⟩,dd,by omega⟩
 have QB:Dk G w u0 (G.bQ u h+1) h nS lR:=⟨by omega,by rw[env,GC],⟨a,by rw[GC,hu]⟩,by omega⟩;have QC:lR.toNat∉S.gone.map (·.2):=λhm=>by
  obtain⟨x,ai,e⟩:=aD2.1 hm;have:=e2.gone.lt x ai;have e:x.2=lR.toNat:=e;omega
 refine⟨⟨λaf jc=>?_,λl ns v p he b0=>?_,λl ns v p fw yi gx eW he nD b0 hE aP=>?_,?_⟩,⟨λb0=>?_,λl ns gx eW b0 he hE aP=>?_⟩⟩
 .rw[rL];by_cases e:h+1=af
  .subst e;have:=aan lo (op:= .part (2*q1) nS lR) hw bc bG hO;rw[GD] at this;exact this.congr λr i aQ=>own aQ
  .exact(e2.mQ af jc).congr λr i aQ=>GB e aQ
 .rw[rL] at he;rw[jm];rcases rM l ns v p he b0 with ⟨c,_⟩|⟨r,i,q,gU,_,_,_,_,c,_⟩|⟨r,i,q,cN,_,_,_,_,_,c,_⟩|⟨r,i,_,_,_,_,aH,a_,b7⟩
  .exact⟨(mb c b0).1,(mb c b0).2.1⟩
  .exact⟨(mb c b0).1,(mb c b0).2.1⟩
  .exact⟨(mb c b0).1,(mb c b0).2.1⟩
  .rw[aH,a_,b7];exact⟨QB,QC⟩
 .rw[rL] at he nD;rcases rM l ns v p he b0 with ⟨c,n⟩|⟨r,i,q,gU,rfl,aS,aY,cB,c,dQ⟩|⟨r,i,q,cN,rfl,aS,aY,cB,dQ,c,fZ,hF⟩|⟨r,i,rfl,aS,aY,cB,aH,a_,b7⟩
  .rcases rM fw yi gx eW nD hE with ⟨d,jh⟩|⟨fk,dO,dE,K0,rfl,d1,d2,d3,d,d4⟩|⟨fk,dO,dE,GG,rfl,d1,d2,d3,d4,d,d5,d6⟩|⟨fk,dO,rfl,d1,d2,d3,g1,g2,g3⟩
   .exact e2.uniq _ _ _ _ _ _ _ _ c d b0 hE aP
   .exact absurd (e2.uniq _ _ _ _ _ _ _ _ c d b0 hE aP) (n _ _ _)
   .exact absurd (e2.uniq _ _ _ _ _ _ _ _ c d b0 hE aP) (n _ _ _)
   .have:=(mb c b0).2.2;rw[aP,g2] at this;omega
  .rcases rM fw yi gx eW nD hE with ⟨d,jh⟩|⟨fk,dO,dE,K0,rfl,d1,d2,d3,d,d4⟩|⟨fk,dO,dE,GG,rfl,d1,d2,d3,d4,d,d5,d6⟩|⟨fk,dO,rfl,d1,d2,d3,g1,g2,g3⟩
   .exact absurd (e2.uniq _ _ _ _ _ _ _ _ d c hE b0 aP.symm) (jh _ _ _)
   .have e:=e2.uniq _ _ _ _ _ _ _ _ c d b0 hE aP;injection e with _ aH a_ b7;have:=f3 r i fk dO aY d2 cB d3 (by rw[aS,d1];exact congrArg some (aFn aH a_));rw[this.1,this.2,b7]
   .have e:=e2.uniq _ _ _ _ _ _ _ _ c d b0 hE aP;injection e with _ aH a_ b7;refine absurd d5 ?_;have:=dQ ⟨GG,d4,(aFn aH a_).symm⟩;rw[aH,a_] at this;exact this
   .have:=(mb c b0).2.2;rw[aP,g2] at this;omega
  .rcases rM fw yi gx eW nD hE with ⟨d,jh⟩|⟨fk,dO,dE,K0,rfl,d1,d2,d3,d,d4⟩|⟨fk,dO,dE,GG,rfl,d1,d2,d3,d4,d,d5,d6⟩|⟨fk,dO,rfl,d1,d2,d3,g1,g2,g3⟩
   .exact absurd (e2.uniq _ _ _ _ _ _ _ _ d c hE b0 aP.symm) (jh _ _ _)
   .have e:=e2.uniq _ _ _ _ _ _ _ _ c d b0 hE aP;injection e with _ aH a_ b7;refine absurd fZ ?_;have:=d4 ⟨cN,dQ,aFn aH a_⟩;rw[<-aH,<-a_] at this;exact this
   .have e:=e2.uniq _ _ _ _ _ _ _ _ c d b0 hE aP;injection e with _ aH a_ b7;have:=f3 r i fk dO aY d2 cB d3 (by rw[aS,d1]);rw[this.1,this.2,b7]
   .have:=(mb c b0).2.2;rw[aP,g2] at this;omega
  .rcases rM fw yi gx eW nD hE with ⟨d,jh⟩|⟨fk,dO,dE,K0,rfl,d1,d2,d3,d,d4⟩|⟨fk,dO,dE,GG,rfl,d1,d2,d3,d4,d,d5,d6⟩|⟨fk,dO,rfl,d1,d2,d3,g1,g2,g3⟩
   .have:=(mb d hE).2.2;rw[<-aP,a_] at this;omega
   .have:=(mb d hE).2.2;rw[<-aP,a_] at this;omega
   .have:=(mb d hE).2.2;rw[<-aP,a_] at this;omega
   .have:=f3 r i fk dO aY d2 cB d3 (by rw[aS,d1]);rw[this.1,this.2]
 .rw[jm];exact⟨e2.gone.nodup,λx ai=>by have:=e2.gone.lt x ai;omega,e2.gone.val,e2.gone.kind⟩
 .rw[jm];rcases hold with ep|⟨cN,ho,iz,zN,rm⟩
  .rw[ep,AD] at b0;exact absurd rfl b0
  .rw[rm] at b0 ⊢;have he:mP G S.R (.bp (h+1) (spot (G.ew (h+1)) aw cN).1 (spot (G.ew (h+1)) aw cN).2 q1) h _ _:=⟨b2,rfl,mX lo bc ho,iz,nc,rfl,rfl⟩;exact⟨(mb he b0).1,(mb he b0).2.1⟩
 .rw[rL] at he;rcases hold with ep|⟨cN,ho,iz,zN,rm⟩
  .rw[ep,AD] at b0;exact absurd rfl b0
  .rw[rm] at b0 aP;have K1:mP G S.R (.bp (h+1) (spot (G.ew (h+1)) aw cN).1 (spot (G.ew (h+1)) aw cN).2 q1) h _ _:=⟨b2,rfl,mX lo bc ho,iz,nc,rfl,rfl⟩;rcases rM l ns gx eW he hE with ⟨d,jh⟩|⟨fk,dO,dE,K0,rfl,d1,d2,d3,d,d4⟩|⟨fk,dO,dE,GG,rfl,d1,d2,d3,d4,d,d5,d6⟩|⟨fk,dO,rfl,d1,d2,d3,g1,g2,g3⟩
   .exact absurd (e2.uniq _ _ _ _ _ _ _ _ d K1 hE b0 aP) (jh _ _ _)
   .have e:=e2.uniq _ _ _ _ _ _ _ _ d K1 hE b0 aP;injection e with _ aH a_ b7;refine absurd zN ?_;have:=d4 ⟨cN,ho,(aFn aH a_).symm⟩;rw[aH,a_] at this;exact this
   .have e:=e2.uniq _ _ _ _ _ _ _ _ d K1 hE b0 aP;injection e with _ aH a_ b7;exact d6 b7
   .have e:=g2.symm.trans aP;have h0:lR.toNat<G.bQ u h:=by rw[e];exact(mb K1 b0).2.2
    omega
end Go.cR
namespace Go.cR
variable {G:cq} {w:Nat->UInt64}
theorem ao_ (o:G.dt){u0 o1:Nat}{S:c7}(e2:lk G w u0 o1 S){op:fv}{id:UInt64}(hO:id.toNat<=2147483648){aw to:Nat}(bc:aw<2 ^ (G.ew 0).k)(bG:to<2 ^ (G.ew 0).k) :
 lk G w u0 o1 (G.acc 0 op id aw to S):=by
 have hw:=e2.mQ 0 (by have:=o.L;omega);have lo:=o.gS 0;generalize GD:lI (G.ew 0) op id aw to (G.bV 0 S.R)=ke at *;have rL:(G.acc 0 op id aw to S).R=lV (G.base 0) S.R ke:=by rw[<-GD];rfl
 have jm:(G.acc 0 op id aw to S).gone=S.gone:=rfl;have old:∀ {l bG v p},mP G (lV (G.base 0) S.R ke) l bG v p->mP G S.R l bG v p:=by
  intro l bG v p he;cases l with
  | top x =>
   obtain⟨aH,a_,b7,b6⟩:=he;have ai:lV (G.base 0) S.R ke G.f x=S.R G.f x:=BR (by unfold cq.base;omega);rw[ai] at b7 b6;exact⟨aH,a_,b7,b6⟩
  | bp af r i q =>
   obtain⟨aH,a_,b7,b6,cG,dP,fa⟩:=he;have aQ:=AB b7;rw[GB (by omega) aQ] at b6 dP fa;exact⟨aH,a_,b7,b6,cG,dP,fa⟩
 refine⟨λaf jc=>?_,λl ns v p he b0=>?_,λl ns v p fw yi gx eW he nD b0 hE aP=>?_,?_⟩
 .rw[rL];by_cases e:0=af
  .subst e;have:=aan lo (op:=op) hw bc bG hO;rw[GD] at this;exact this.congr λr i aQ=>Jo aQ
  .exact(e2.mQ af jc).congr λr i aQ=>GB e aQ
 .rw[rL] at he;rw[jm];exact e2.pc _ _ _ _ (old he) b0
 .rw[rL] at he nD;exact e2.uniq _ _ _ _ _ _ _ _ (old he) (old nD) b0 hE aP
 .rw[jm];exact e2.gone
theorem aat (G:cq)(u:Nat):G.bQ u (G.L-1)=u:=by unfold cq.bQ;omega
def cq.begin (G:cq)(w:Nat->UInt64)(nT:Nat)(S:c7):c7 :=
 { S with R:=fM S.R (G.f,nT) (u6 (UInt64.ofNat (G.leaf w (G.L-1) (G.bQ S.used (G.L-1))+1)) (UInt64.ofNat (G.bQ S.used (G.L-1)))),used:=S.used+2*G.L }
theorem Fl (o:G.dt){u0 a:Nat}{S:c7}(hu:S.used=u0+2*G.L*a)(pM:S.used<2 ^ 63)(e2:lk G w u0 S.used S){nT:Nat}(ai:nT<G.top) :
 lk G w u0 (G.bQ S.used (G.L-1)+1) (G.begin w nT S)/\s5 G w u0 (G.bQ S.used (G.L-1)+1) (G.L-1) (G.begin w nT S) (S.R G.f nT)[0] (S.R G.f nT)[1]:=by
 have eg:=o.L;have K2:=aat G S.used;generalize KY:UInt64.ofNat (G.leaf w (G.L-1) (G.bQ S.used (G.L-1))+1)=nS;generalize KZ:UInt64.ofNat (G.bQ S.used (G.L-1))=lR;have env:nS.toNat=G.leaf w (G.L-1) (G.bQ S.used (G.L-1))+1:=by rw[<-KY];exact Qz o _ _
 have GC:lR.toNat=S.used:=by rw[<-KZ,K2];exact aas pM
 have rL:(G.begin w nT S).R=fM S.R (G.f,nT) (u6 nS lR):=by rw[<-KY,<-KZ];rfl
 have jm:(G.begin w nT S).gone=S.gone:=rfl;have l4:∀h r i,G.bV h (fM S.R (G.f,nT) (u6 nS lR)) r i=G.bV h S.R r i:=λh r i=>by
  unfold cq.bV kZ fM;rw[aDq (λe=>by have:=e.1;unfold cq.base at this;omega)]
 have rM:∀l bG v p,mP G (fM S.R (G.f,nT) (u6 nS lR)) l bG v p->(mP G S.R l bG v p/\l≠.top nT)∨(l= .top nT/\v=nS/\p=lR/\bG+1=G.L):=by
  intro l bG v p he;cases l with
  | top x =>
   obtain⟨aH,a_,b7,b6⟩:=he;by_cases c:x=nT
   .subst c;have e:fM S.R (G.f,x) (u6 nS lR) G.f x=u6 nS lR:=by unfold fM;rw[aDr ⟨rfl,rfl⟩]
    rw[e] at b7 b6;exact .inr ⟨rfl,b7,b6,a_⟩
   .have e:fM S.R (G.f,nT) (u6 nS lR) G.f x=S.R G.f x:=by unfold fM;rw[aDq (λh=>c h.2)]
    rw[e] at b7 b6;exact .inl ⟨⟨aH,a_,b7,b6⟩,λh=>by cases h;exact c rfl⟩
  | bp af r i q =>
   obtain⟨aH,a_,b7,b6,cG,dP,fa⟩:=he;rw[l4] at b6 dP fa;exact .inl ⟨⟨aH,a_,b7,b6,cG,dP,fa⟩,λh=>by cases h⟩
 have mb:∀ {l bG v p},mP G S.R l bG v p->v≠0->Dk G w u0 (S.used+1) bG v p/\p.toNat∉S.gone.map (·.2)/\p.toNat<S.used:=λhe b0=>by
  obtain⟨g,dd⟩:=e2.pc _ _ _ _ he b0;have:=g.lt;exact⟨⟨by omega,g.val,g.kind,g.bG⟩,dd,this⟩
 have QB:Dk G w u0 (S.used+1) (G.L-1) nS lR:=⟨by omega,by rw[env,GC,K2],⟨a,by rw[GC,<-hu,K2]⟩,by omega⟩;have QC:lR.toNat∉S.gone.map (·.2):=λhm=>by
  obtain⟨x,ai,e⟩:=aD2.1 hm;have:=e2.gone.lt x ai;have e:x.2=lR.toNat:=e;omega
 rw[K2];have K3:mP G S.R (.top nT) (G.L-1) (S.R G.f nT)[0] (S.R G.f nT)[1]:=⟨ai,by omega,rfl,rfl⟩;refine⟨⟨λaf jc=>?_,λl ns v p he b0=>?_,λl ns v p fw yi gx eW he nD b0 hE aP=>?_,?_⟩,⟨λb0=>?_,λl ns gx eW b0 he hE aP=>?_⟩⟩
 .rw[rL];exact(e2.mQ af jc).congr λr i _=>l4 af r i
 .rw[rL] at he;rw[jm];rcases rM l ns v p he with ⟨c,_⟩|⟨_,aH,a_,b7⟩
  .exact⟨(mb c b0).1,(mb c b0).2.1⟩
  .rw[aH,a_,show ns=G.L-1 by omega];exact⟨QB,QC⟩
 .rw[rL] at he nD;rcases rM l ns v p he with ⟨c,n⟩|⟨rfl,aH,a_,b7⟩
  .rcases rM fw yi gx eW nD with ⟨d,jh⟩|⟨rfl,g1,g2,g3⟩
   .exact e2.uniq _ _ _ _ _ _ _ _ c d b0 hE aP
   .have:=(mb c b0).2.2;rw[aP,g2] at this;omega
  .rcases rM fw yi gx eW nD with ⟨d,jh⟩|⟨rfl,g1,g2,g3⟩
   .have:=(mb d hE).2.2;rw[<-aP,a_] at this;omega
   .rfl
 .rw[jm];exact⟨e2.gone.nodup,λx ai=>by have:=e2.gone.lt x ai;omega,e2.gone.val,e2.gone.kind⟩
 .rw[jm];exact⟨(mb K3 b0).1,(mb K3 b0).2.1⟩
 .rw[rL] at he;rcases rM l ns gx eW he with ⟨d,jh⟩|⟨rfl,g1,g2,g3⟩
  .exact jh (e2.uniq _ _ _ _ _ _ _ _ d K3 hE b0 aP)
  .have:=(mb K3 b0).2.2;rw[<-aP,g2] at this;omega
theorem aau (o:G.dt){u0 a u:Nat}(hu:u=u0+2*G.L*a)(pM:u+2*G.L<2 ^ 63){op:fv}{x:Nat}(ai:x<2 ^ G.m):∀h v p S,h<G.L->lk G w u0 (G.bQ u h+1) S->s5 G w u0 (G.bQ u h+1) h S v p->S.gone.length=G.L*a+(G.L-1-h) ->
 lk G w u0 (u+2*G.L) (kl G w u op x h v p S).1/\(kl G w u op x h v p S).1.gone.length=G.L*(a+1)/\(kl G w u op x h v p S).1.used=S.used
 | 0,v,p,S,b2,e2,c,hlen=>by
  obtain⟨aa,ad⟩:=xJ o hu b2 e2 c hlen;have:=ao_ o ad (op:=op) (id:=cT x 0) (to:=G.leaf w 0 (G.bQ u 0)) (oM o ai).2 aa (G.pN w 0 _);have e:G.bQ u 0+2=u+2*G.L:=by unfold cq.bQ;omega
  rw[e] at this;refine⟨this,?_,rfl⟩;show(S.gone++[_]).length=_;rw[aDs,hlen,Nat.mul_succ];simp;omega
 | h+1,v,p,S,b2,e2,c,hlen=>by
  obtain⟨aa,ad⟩:=xJ o hu b2 e2 c hlen;have ar:G.bQ u h<2 ^ 63:=by unfold cq.bQ;omega
  obtain⟨ho,iz⟩:=Fk o b2 (q1:=x/4 ^ (h+1-1)%4) (aEk _ (by decide)) ar hu ad (id:=cT x (h+1)) (to:=G.leaf w (h+1) (G.bQ u (h+1))) (oM o ai).2 aa (G.pN w (h+1) _);exact aau o hu pM ai h _ _ _ (by omega) ho iz (by show(S.gone++[_]).length=_;rw[aDs,hlen];simp;omega)
theorem ahv (o:G.dt){u0 a:Nat}{S:c7}(hu:S.used=u0+2*G.L*a)(pM:S.used+2*G.L<2 ^ 63)(e2:lk G w u0 S.used S)(dd:S.gone.length=G.L*a){op:fv}{x:Nat}(ai:x<2 ^ G.m)(tD:x/4 ^ (G.L-1)<G.top) :
 lk G w u0 (S.used+2*G.L) (de G w op x S).1/\(de G w op x S).1.gone.length=G.L*(a+1)/\(de G w op x S).1.used=S.used+2*G.L:=by
 have eg:=o.L;obtain⟨s1,s2⟩:=Fl o hu (by omega) e2 tD;obtain⟨g1,g2,g3⟩:=aau o hu pM (op:=op) ai (G.L-1) _ _ _ (by omega) s1 s2 (by show S.gone.length=_;omega);exact⟨g1,g2,g3⟩
end Go.cR
namespace Go.cR
variable {G:cq} {w:Nat->UInt64}
abbrev ua:=Nat->UInt64->Option (Nat×c_)
abbrev u7:=Nat->UInt64->UInt64×UInt64
def told (G:cq)(R:dY)(gB:ua)(h:Nat)(id:UInt64):UInt64×UInt64 :=
 if h+1=G.L then ((R G.f id.toNat)[0],(R G.f id.toNat)[1]) else
 match gB (h+1) (UInt64.ofNat (id.toNat/4)) with
 | some (_,d)=>(ih d (2*(id.toNat%4)),ih d (2*(id.toNat%4)+1))
 | none=>(0,0)
structure xP (G:cq)(S:c7)(gB:ua)(K:u7)(A:UInt64->Option c_):Prop where
 li:∀h,h<G.L->oA (G.ew h) (G.bV h S.R) (gB h)
 q9:∀h id,h<G.L->told G S.R gB h id=K h id
 sN:∀h id leaf d,h<G.L->gB h id=some (leaf,d)->(K h id).1.toNat=leaf+1
 BS:∀id,(gB 0 id).map (·.2)=A id
 mt:∀h id,h<G.L->gB h id≠none->id∈S.ids h
def GH (G:cq)(w:Nat->UInt64)(u h:Nat):UInt64×UInt64:=(UInt64.ofNat (G.leaf w h (G.bQ u h)+1),UInt64.ofNat (G.bQ u h))
def rN (G:cq)(w:Nat->UInt64)(u x:Nat)(K:u7)(h:Nat):u7:=λaf id=>if id=cT x af/\h<=af then GH G w u af else K af id
def AE (G:cq)(w:Nat->UInt64)(u x:Nat)(K:u7)(h:Nat):Nat×Nat:=gd (K h (cT x h)).1 (K h (cT x h)).2 (G.leaf w h (G.bQ u h+1),G.bQ u h+1)
structure QD (G:cq)(w:Nat->UInt64)(u x h:Nat)(S:c7)(gB:ua)(K:u7)(A:UInt64->Option c_):Prop where
 li:∀h,h<G.L->oA (G.ew h) (G.bV h S.R) (gB h)
 q9:∀af id,af<G.L->told G S.R gB af id=rN G w u x K h af id
 sN:∀af id leaf d,af<G.L->¬(af=h/\id=cT x h)->gB af id=some (leaf,d)->(rN G w u x K h af id).1.toNat=leaf+1
 aav:∀leaf d,gB h (cT x h)=some (leaf,d)->(K h (cT x h)).1.toNat=leaf+1
 BS:∀id,(gB 0 id).map (·.2)=A id
 mt:∀h id,h<G.L->gB h id≠none->id∈S.ids h
theorem Pw (op:fv)(u x:Nat):∀h v p S af,h<af->(kl G w u op x h v p S).1.over af=S.over af/\(kl G w u op x h v p S).1.ids af=S.ids af
 | 0,v,p,S,af,b2=>by
  have dA:af≠0:=by omega
  exact⟨by show(if af=0 then _ else S.over af)=_;rw[aDq dA],by show(if af=0 then _ else S.ids af)=_;rw[aDq dA]⟩
 | h+1,v,p,S,af,b2=>by
  have dA:af≠h+1:=by omega
  obtain⟨aa,ad⟩:=Pw op u x h (ih (G.old (h+1) (cT x (h+1)) (gd v p (G.leaf w (h+1) (G.bQ u (h+1)+1),G.bQ u (h+1)+1)).1 { S with gone:=S.gone++[gd v p (G.leaf w (h+1) (G.bQ u (h+1)+1),G.bQ u (h+1)+1)] }).1 (2*(x/4 ^ h%4))) (ih (G.old (h+1) (cT x (h+1)) (gd v p (G.leaf w (h+1) (G.bQ u (h+1)+1),G.bQ u (h+1)+1)).1 { S with gone:=S.gone++[gd v p (G.leaf w (h+1) (G.bQ u (h+1)+1),G.bQ u (h+1)+1)] }).1 (2*(x/4 ^ h%4)+1))
   (G.acc (h+1) (.part (2*(x/4 ^ h%4)) (UInt64.ofNat (G.leaf w h (G.bQ u h)+1)) (UInt64.ofNat (G.bQ u h))) (cT x (h+1)) (gd v p (G.leaf w (h+1) (G.bQ u (h+1)+1),G.bQ u (h+1)+1)).1 (G.leaf w (h+1) (G.bQ u (h+1))) { S with gone:=S.gone++[gd v p (G.leaf w (h+1) (G.bQ u (h+1)+1),G.bQ u (h+1)+1)] }) af (by omega)
  refine⟨aa.trans ?_,ad.trans ?_⟩
  .show(if af=h+1 then _ else S.over af)=_;rw[aDq dA]
  .show(if af=h+1 then _ else S.ids af)=_;rw[aDq dA]
theorem apa {x h:Nat}(o:G.dt)(ai:x<2 ^ G.m):UInt64.ofNat ((cT x h).toNat/4)=cT x (h+1)/\(cT x h).toNat%4=x/4 ^ h%4:=by
 have aa:=(oM o ai (h:=h)).1;rw[aa];refine⟨?_,rfl⟩;unfold cT;rw[aD_,<-aEo]
theorem aaw {op:fv}{id:UInt64}{l:List UInt64}:∀ {y},y∈l->y∈meets op id l:=by
 intro y aC;cases op<;>simp only[meets]
 .exact aC
 .split
  .exact aC
  .exact List.mem_append_left _ aC
 .split
  .exact aC
  .exact List.mem_append_left _ aC
 .exact aC
theorem aax {op:fv}{id:UInt64}{l:List UInt64}{old:c_}{there:Bool}(bG:there=true->id∈l)(h:op.now old there≠none):id∈meets op id l:=by
 cases op with
 | look =>
  cases there with
  | true=>exact bG rfl
  | false=>simp[fv.now] at h
 | put d=>
  simp only[meets];split
  .assumption
  .simp
 | part a x y=>
  simp only[meets];split
  .assumption
  .simp
 | drop=>simp[fv.now] at h
def AF (gB:ua)(h:Nat)(id:UInt64)(v:Option (Nat×c_)):ua:=λaf z=>if af=h/\z=id then v else gB af z
theorem tE {gB:ua}{h af:Nat}{id z:UInt64}{v:Option (Nat×c_)}(aK:¬(af=h/\z=id)):AF gB h id v af z=gB af z:=aDq aK
theorem Dl {gB:ua}{h af:Nat}{id z:UInt64}{v:Option (Nat×c_)}(aK:af=h/\z=id):AF gB h id v af z=v:=aDr aK
theorem aay (o:G.dt){h:Nat}(b2:h<G.L){S:c7}{gB:ua}{op:fv}{id:UInt64}(hO:id.toNat<=2147483648){aw to:Nat}(bc:aw<2 ^ (G.ew h).k)(bG:to<2 ^ (G.ew h).k)
 (li:∀h,h<G.L->oA (G.ew h) (G.bV h S.R) (gB h)) (mt:∀h id,h<G.L->gB h id≠none->id∈S.ids h) (hw:∀leaf d,gB h id=some (leaf,d)->leaf=aw)
 (fin:(G.acc h op id aw to S).over h=false∨(S.over h=false/\((G.acc h op id aw to S).ids h).length<=G.t)) :
 (G.acc h op id aw to S).over h=false/\G.old h id aw S=(match gB h id with|some (_,d)=>(d,true)|none=>(j7,false)) /\
 (∀af,af<G.L->oA (G.ew af) (G.bV af (G.acc h op id aw to S).R) (AF gB h id ((op.now (G.old h id aw S).1 (G.old h id aw S).2).map (λd=>(to,d))) af)) /\
 (∀af z,af<G.L->AF gB h id ((op.now (G.old h id aw S).1 (G.old h id aw S).2).map (λd=>(to,d))) af z≠none->z∈(G.acc h op id aw to S).ids af):=by
 have lo:=o.gS h;have l:=li h b2;have hold:G.old h id aw S=_:=ao0 lo l bc hw;have uM:(G.acc h op id aw to S).over h=(S.over h||tu (G.ew h) op id aw to (G.bV h S.R)):=by show(if h=h then _ else _)=_;rw[aDr rfl]
 have mY:(G.acc h op id aw to S).ids h=meets op id (S.ids h):=by show(if h=h then _ else _)=_;rw[aDr rfl]
 have aaz:(G.old h id aw S).2=true->id∈S.ids h:=λbG=>by
  refine mt h id b2 λaK=>?_;rw[hold,aK] at bG;cases bG
 have lost:tu (G.ew h) op id aw to (G.bV h S.R)=false/\S.over h=false:=by
  rcases fin with K4|⟨h0,aT⟩
  .rw[uM] at K4;rw[aFj] at K4;exact⟨K4.2,K4.1⟩
  .refine⟨ao3 lo l bc bG hO (meets op id (S.ids h)) (by rw[<-mY];exact aT) (λx ai=>aaw (mt h x b2 ai)) (λaK=>aax aaz aK),h0⟩
 have apb:=ao1 lo l bc bG hO hw lost.1;refine⟨by rw[uM,lost.1,lost.2];rfl,hold,λaf jc=>?_,λaf z jc bn=>?_⟩
 .by_cases c:af=h
  .subst c;have e:AF gB af id ((op.now (G.old af id aw S).1 (G.old af id aw S).2).map (λd=>(to,d))) af=λx=>if x=id then (op.now (kd (G.ew af) id aw (G.bV af S.R)).1 (kd (G.ew af) id aw (G.bV af S.R)).2).map (λd=>(to,d)) else gB af x:=by
    funext z;by_cases c:z=id
    .rw[Dl ⟨rfl,c⟩,aDr c];rfl
    .rw[tE (λh=>c h.2),aDq c]
   rw[e];exact apb.congr λr i aQ=>Jo aQ
  .have e:AF gB h id ((op.now (G.old h id aw S).1 (G.old h id aw S).2).map (λd=>(to,d))) af=gB af:=by
    funext z;rw[tE (λh=>c h.1)]
   rw[e];exact(li af jc).congr λr i aQ=>GB (λe=>c e.symm) aQ
 .by_cases c:af=h
  .subst c;rw[mY];by_cases aY:z=id
   .subst aY;rw[Dl ⟨rfl,rfl⟩] at bn;exact aax aaz λaK=>bn (by rw[aK];rfl)
   .rw[tE (λh=>aY h.2)] at bn;exact aaw (mt af z jc bn)
  .rw[tE (λh=>c h.1)] at bn;show z∈(if af=h then _ else S.ids af);rw[aDq c];exact mt af z jc bn
def pb (A:UInt64->Option c_)(id:UInt64):c_×Bool:=match A id with|some d=>(d,true)|none=>(j7,false)
theorem K5 {u x h af:Nat}{K:u7}{id:UInt64}(aK:¬(af=h/\id=cT x h)):rN G w u x K h af id=rN G w u x K (h+1) af id:=by
 unfold rN;by_cases c:id=cT x af/\h<=af
 .have:h+1<=af:=by
   rcases Nat.eq_or_lt_of_le c.2 with e|e
   .exact absurd ⟨e.symm,by rw[e];exact c.1⟩ aK
   .exact e
  rw[aDr c,aDr ⟨c.1,this⟩]
 .rw[aDq c,aDq λad=>c ⟨ad.1,by omega⟩]
theorem aaA {u x h:Nat}{K:u7}:rN G w u x K (h+1) h (cT x h)=K h (cT x h):=by
 unfold rN;rw[cS]
theorem K6 {u x h af:Nat}{K:u7}(b2:h<=af):rN G w u x K h af (cT x af)=GH G w u af:=by
 unfold rN;rw[aDr ⟨rfl,b2⟩]
theorem aaB (o:G.dt)(u h:Nat):(GH G w u h).1.toNat=G.leaf w h (G.bQ u h)+1:=Qz o h _
theorem aaC {v p:UInt64}{sp:Nat×Nat}{leaf:Nat}(h:v.toNat=leaf+1):leaf=(gd v p sp).1:=by
 unfold gd;rw[aDq (λe=>by rw[e] at h;simp at h)];show leaf=v.toNat-1;omega
theorem aaD {h:Nat}{op:fv}{id:UInt64}{aw to:Nat}{S:c7}(x:Nat):(G.acc h op id aw to S).R G.f x=S.R G.f x :=
 BR (by unfold cq.base;omega)
theorem aaE (o:G.dt){u0 a u:Nat}(hu:u=u0+2*G.L*a)(pM:u+2*G.L<2 ^ 63){op:fv}{x:Nat}(ai:x<2 ^ G.m){K:u7}{A:UInt64->Option c_}:∀h S gB,h<G.L->lk G w u0 (G.bQ u h+1) S->s5 G w u0 (G.bQ u h+1) h S (K h (cT x h)).1 (K h (cT x h)).2->S.gone.length=G.L*a+(G.L-1-h) ->
 QD G w u x h S gB K A ->
 ((∀af,af<=h->(kl G w u op x h (K h (cT x h)).1 (K h (cT x h)).2 S).1.over af=false)∨(∀af,af<=h->S.over af=false/\((kl G w u op x h (K h (cT x h)).1 (K h (cT x h)).2 S).1.ids af).length<=G.t)) ->
 ∃t_,xP G (kl G w u op x h (K h (cT x h)).1 (K h (cT x h)).2 S).1 t_ (rN G w u x K 0) (λid=>if id=cT x 0 then op.now (pb A id).1 (pb A id).2 else A id)/\(kl G w u op x h (K h (cT x h)).1 (K h (cT x h)).2 S).2=pb A (cT x 0) /\
  (kl G w u op x h (K h (cT x h)).1 (K h (cT x h)).2 S).1.gone=S.gone++(List.range (h+1)).map (λi=>AE G w u x K (h-i))/\∀af,af<=h->(kl G w u op x h (K h (cT x h)).1 (K h (cT x h)).2 S).1.over af=false
 | 0,S,gB,b2,e2,c,hlen,n,fin=>by
  obtain⟨aa,ad⟩:=xJ o hu b2 e2 c hlen;generalize hc:gd (K 0 (cT x 0)).1 (K 0 (cT x 0)).2 (G.leaf w 0 (G.bQ u 0+1),G.bQ u 0+1)=aw at *;have u9:kl G w u op x 0 (K 0 (cT x 0)).1 (K 0 (cT x 0)).2 S=(G.acc 0 op (cT x 0) aw.1 (G.leaf w 0 (G.bQ u 0)) { S with gone:=S.gone++[aw] },G.old 0 (cT x 0) aw.1 { S with gone:=S.gone++[aw] }):=by rw[<-hc];rfl
  rw[u9] at fin ⊢;have hw:∀leaf d,gB 0 (cT x 0)=some (leaf,d)->leaf=aw.1:=λleaf d e=>by rw[<-hc];exact aaC (n.aav leaf d e)
  obtain⟨av,aN,a3,a4⟩:=aay o b2 (S:={ S with gone:=S.gone++[aw] }) (op:=op) (id:=cT x 0) (oM o ai).2 aa (G.pN w 0 (G.bQ u 0)) n.li n.mt hw (fin.imp (λf=>f 0 (aDt _)) λf=>f 0 (aDt _));have aaF:pb A (cT x 0)=G.old 0 (cT x 0) aw.1 { S with gone:=S.gone++[aw] }:=by
   rw[aN];unfold pb;rw[<-n.BS];cases gB 0 (cT x 0)<;>rfl
  refine⟨_,⟨a3,λaf id jc=>?_,λaf id leaf d jc he=>?_,λid=>?_,a4⟩,aaF.symm,?_,λaf jc=>?_⟩
  .rw[<-n.q9 af id jc];unfold told;by_cases c:af+1=G.L
   .rw[aDr c,aDr c,aaD]
   .rw[aDq c,aDq c,tE (by omega)]
  .by_cases c:af=0/\id=cT x 0
   .rw[Dl c] at he;obtain⟨y,_,e⟩:=Option.map_eq_some_iff.1 he;have e:=(aEp e).1;rw[c.1,c.2,K6 (aDt _),aaB o,<-e]
   .rw[tE c] at he;exact n.sN af id leaf d jc c he
  .by_cases c:id=cT x 0
   .subst c;rw[Dl ⟨rfl,rfl⟩,aDr rfl,aaF];cases op.now (G.old 0 (cT x 0) aw.1 { S with gone:=S.gone++[aw] }).1 (G.old 0 (cT x 0) aw.1 { S with gone:=S.gone++[aw] }).2<;>rfl
   .rw[tE (λh=>c h.2),aDq c];exact n.BS id
  .show S.gone++[aw]=_;simp[AE,hc]
  .have:af=0:=by omega
   subst this;exact av
 | h+1,S,gB,b2,e2,c,hlen,n,fin=>by
  obtain⟨aa,ad⟩:=xJ o hu b2 e2 c hlen;have ar:G.bQ u h<2 ^ 63:=by unfold cq.bQ;omega
  have nL:x/4 ^ h%4<4:=aEk _ (by decide);obtain⟨aaG,K7⟩:=apa (h:=h) o ai;obtain⟨ho,iz⟩:=Fk o b2 nL ar hu ad (id:=cT x (h+1)) (to:=G.leaf w (h+1) (G.bQ u (h+1))) (oM o ai).2 aa (G.pN w (h+1) _);generalize hc:gd (K (h+1) (cT x (h+1))).1 (K (h+1) (cT x (h+1))).2 (G.leaf w (h+1) (G.bQ u (h+1)+1),G.bQ u (h+1)+1)=aw at *;generalize aj:x/4 ^ h%4=q at *;have hw:∀leaf d,gB (h+1) (cT x (h+1))=some (leaf,d)->leaf=aw.1:=λleaf d e=>by rw[<-hc];exact aaC (n.aav leaf d e)
  have u9:kl G w u op x (h+1) (K (h+1) (cT x (h+1))).1 (K (h+1) (cT x (h+1))).2 S =
   kl G w u op x h (ih (G.old (h+1) (cT x (h+1)) aw.1 { S with gone:=S.gone++[aw] }).1 (2*q)) (ih (G.old (h+1) (cT x (h+1)) aw.1 { S with gone:=S.gone++[aw] }).1 (2*q+1)) (G.acc (h+1) (.part (2*q) (UInt64.ofNat (G.leaf w h (G.bQ u h)+1)) (UInt64.ofNat (G.bQ u h))) (cT x (h+1)) aw.1 (G.leaf w (h+1) (G.bQ u (h+1))) { S with gone:=S.gone++[aw] }):=by
   rw[<-hc,<-aj];rfl
  rw[u9] at fin ⊢;have fb:=λv p=>Pw (G:=G) (w:=w) op u x h v p (G.acc (h+1) (.part (2*q) (UInt64.ofNat (G.leaf w h (G.bQ u h)+1)) (UInt64.ofNat (G.bQ u h))) (cT x (h+1)) aw.1 (G.leaf w (h+1) (G.bQ u (h+1))) { S with gone:=S.gone++[aw] }) (h+1) (by omega);obtain⟨av,aN,a3,a4⟩:=aay o b2 (S:={ S with gone:=S.gone++[aw] }) (op:= .part (2*q) (UInt64.ofNat (G.leaf w h (G.bQ u h)+1)) (UInt64.ofNat (G.bQ u h))) (id:=cT x (h+1)) (oM o ai).2 aa (G.pN w (h+1) (G.bQ u (h+1))) n.li n.mt hw
   (fin.imp (λf=>(fb _ _).1.symm.trans (f (h+1) (aDt _))) λf=>⟨(f (h+1) (aDt _)).1,by rw[<-(fb _ _).2];exact(f (h+1) (aDt _)).2⟩)
  generalize hold:G.old (h+1) (cT x (h+1)) aw.1 { S with gone:=S.gone++[aw] }=old at *;have aaH:ih old.1 (2*q)=(K h (cT x h)).1/\ih old.1 (2*q+1)=(K h (cT x h)).2:=by
   have bG:=n.q9 h (cT x h) (by omega);rw[aaA] at bG;unfold told at bG;rw[cS,aaG,K7] at bG;rw[aN,<-bG];cases gB (h+1) (cT x (h+1)) with
   | none=>exact⟨AD _,AD _⟩
   | some y=>exact⟨rfl,rfl⟩
  rw[aaH.1,aaH.2] at fin iz ⊢;have apc:∀z,(G.acc (h+1) (.part (2*q) (UInt64.ofNat (G.leaf w h (G.bQ u h)+1)) (UInt64.ofNat (G.bQ u h))) (cT x (h+1)) aw.1 (G.leaf w (h+1) (G.bQ u (h+1))) { S with gone:=S.gone++[aw] }).over z=if z=h+1 then false else S.over z:=λz=>by
   by_cases c:z=h+1
   .rw[aDr c,c];exact av
   .rw[aDq c];show(if z=h+1 then _ else S.over z)=_;rw[aDq c]
  have QE:QD G w u x h (G.acc (h+1) (.part (2*q) (UInt64.ofNat (G.leaf w h (G.bQ u h)+1)) (UInt64.ofNat (G.bQ u h))) (cT x (h+1)) aw.1 (G.leaf w (h+1) (G.bQ u (h+1))) { S with gone:=S.gone++[aw] }) (AF gB (h+1) (cT x (h+1)) ((fv.now (.part (2*q) (UInt64.ofNat (G.leaf w h (G.bQ u h)+1)) (UInt64.ofNat (G.bQ u h))) old.1 old.2).map (λd=>(G.leaf w (h+1) (G.bQ u (h+1)),d)))) K A:=by
   refine⟨a3,λaf id jc=>?_,λaf id leaf d jc dA he=>?_,λleaf d he=>?_,λid=>?_,a4⟩
   .unfold told;by_cases AG:af+1=G.L
    .have:=n.q9 af id jc;unfold told at this;rw[aDr AG] at this ⊢;rw[aaD,K5 (by omega)];exact this
    .have ep:=n.q9 af id jc;unfold told at ep;rw[aDq AG] at ep ⊢;by_cases nU:af+1=h+1/\UInt64.ofNat (id.toNat/4)=cT x (h+1)
     .have apd:af=h:=by omega
      subst apd;rw[Dl nU];have aCv:id.toNat/4=x/4 ^ (af+1):=by
       have:=congrArg UInt64.toNat nU.2;rw[(oM o ai).1,aDw] at this;have:=id.toNat_lt;omega
      show(ih ((old.1.setIfInBounds (2*q) _).setIfInBounds (2*q+1) _) (2*(id.toNat%4)),ih ((old.1.setIfInBounds (2*q) _).setIfInBounds (2*q+1) _) (2*(id.toNat%4)+1))=_;rw[QA,QA];by_cases ape:id.toNat%4=q
      .have K8:id=cT x af:=by
        apply aDE.1;rw[(oM o ai).1];have b6:x/4 ^ (af+1)=x/4 ^ af/4:=by rw[aD_,<-aEo]
        omega
       rw[K8,K6 (aDt _),<-K8,cS,eY,eY];rfl
      .have K8:¬(af=af/\id=cT x af):=λe=>ape (by rw[e.2,K7]);rw[K5 K8,cS,cS,cS,cS,<-ep,nU.2,aN];cases gB (af+1) (cT x (af+1)) with
       | none=>exact aFn (AD _) (AD _)
       | some y=>rfl
     .rw[tE nU,ep];refine(K5 ?_).symm;rintro⟨rfl,rfl⟩;exact nU ⟨rfl,aaG⟩
   .by_cases c:af=h+1/\id=cT x (h+1)
    .rw[Dl c] at he;obtain⟨y,_,e⟩:=Option.map_eq_some_iff.1 he;have e:=(aEp e).1;rw[c.1,c.2,K6 (by omega),aaB o,<-e]
    .rw[tE c] at he;rw[K5 dA];exact n.sN af id leaf d jc c he
   .rw[tE (by omega)] at he;have:=n.sN h (cT x h) leaf d (by omega) (by omega) he;rw[aaA] at this;exact this
   .rw[tE (by omega)];exact n.BS id
  obtain⟨t_,eD,fK,oT,tC⟩:=aaE o hu pM (op:=op) ai (K:=K) (A:=A) h _ _ (by omega) ho iz (by show(S.gone++[_]).length=_;rw[aDs,hlen];simp;omega) QE
   (fin.imp (λf af jc=>f af (by omega)) λf af jc=>⟨by rw[apc,cS];exact(f af (by omega)).1,(f af (by omega)).2⟩)
  refine⟨t_,eD,fK,?_,λaf jc=>?_⟩
  .have aH:(List.range (h+1+1)).map (λi=>AE G w u x K (h+1-i))=aw::(List.range (h+1)).map (λi=>AE G w u x K (h-i)):=by
    have a_:AE G w u x K (h+1)=aw:=hc;rw[List.range_succ_eq_map,aEs,aEH,aFm,a_];refine congrArg (aw::·) (aDU λi _=>?_);show AE G w u x K (h+1-(i+1))=_;rw[show h+1-(i+1)=h-i by omega]
   rw[oT,aH];show S.gone++[aw]++_=_;rw[aDD];rfl
  .by_cases c:af=h+1
   .subst c;rw[(fb _ _).1];exact av
   .exact tC af (by omega)
theorem UN (o:G.dt){u0 a:Nat}{S:c7}(hu:S.used=u0+2*G.L*a)(pM:S.used+2*G.L<2 ^ 63)(e2:lk G w u0 S.used S)(dd:S.gone.length=G.L*a){op:fv}{x:Nat}(ai:x<2 ^ G.m)(tD:x/4 ^ (G.L-1)<G.top){gB:ua}{K:u7}{A:UInt64->Option c_}(n:xP G S gB K A)
 (fin:(∀h,h<G.L->(de G w op x S).1.over h=false)∨(∀h,h<G.L->S.over h=false/\((de G w op x S).1.ids h).length<=G.t)) :
 ∃t_,xP G (de G w op x S).1 t_ (rN G w S.used x K 0) (λid=>if id=cT x 0 then op.now (pb A id).1 (pb A id).2 else A id)/\(de G w op x S).2=pb A (cT x 0) /\
  (de G w op x S).1.gone=S.gone++(List.range G.L).map (λi=>AE G w S.used x K (G.L-1-i))/\∀h,h<G.L->(de G w op x S).1.over h=false:=by
 have eg:=o.L;obtain⟨s1,s2⟩:=Fl o hu (by omega) e2 tD;have wK:=(oM o ai (h:=G.L-1)).1;have l4:∀(c:cM) h r i,G.bV h (fM S.R (G.f,x/4 ^ (G.L-1)) c) r i=G.bV h S.R r i:=λc h r i=>by
  unfold cq.bV kZ fM;rw[aDq (λe=>by have:=e.1;unfold cq.base at this;omega)]
 have ah:K (G.L-1) (cT x (G.L-1))=((S.R G.f (x/4 ^ (G.L-1)))[0],(S.R G.f (x/4 ^ (G.L-1)))[1]):=by
  rw[<-n.q9 (G.L-1) _ (by omega)];unfold told;rw[eY,wK]
 have kB:de G w op x S=kl G w S.used op x (G.L-1) (K (G.L-1) (cT x (G.L-1))).1 (K (G.L-1) (cT x (G.L-1))).2 (G.begin w (x/4 ^ (G.L-1)) S):=by rw[ah];rfl
 rw[kB] at fin ⊢;have aaI:∀af id,¬(af=G.L-1/\id=cT x (G.L-1))->af<G.L->rN G w S.used x K (G.L-1) af id=K af id:=λaf id aK b2=>by
  unfold rN;rw[aDq];rintro⟨aS,aY⟩;have:af=G.L-1:=by omega
  exact aK ⟨this,by rw[aS,this]⟩
 have QE:QD G w S.used x (G.L-1) (G.begin w (x/4 ^ (G.L-1)) S) gB K A:=by
  refine⟨λh b2=>(n.li h b2).congr λr i _=>l4 _ h r i,λaf id jc=>?_,λaf id leaf d jc dA he=>?_,λleaf d he=>n.sN _ _ leaf d (by omega) he,n.BS,n.mt⟩
  .have ep:=n.q9 af id jc;by_cases c:af=G.L-1/\id=cT x (G.L-1)
   .rw[c.1,c.2,K6 (aDt _)];unfold told;rw[eY,wK];have:(G.begin w (x/4 ^ (G.L-1)) S).R G.f (x/4 ^ (G.L-1))=u6 (GH G w S.used (G.L-1)).1 (GH G w S.used (G.L-1)).2:=by
     show fM S.R _ _ G.f _=_;unfold fM;rw[aDr ⟨rfl,rfl⟩];rfl
    rw[this];rfl
   .rw[aaI af id c jc,<-ep];unfold told;by_cases AG:af+1=G.L
    .rw[aDr AG,aDr AG];have dA:id.toNat≠x/4 ^ (G.L-1):=λe=>c ⟨by omega,aDE.1 (by rw[wK,e])⟩;have:(G.begin w (x/4 ^ (G.L-1)) S).R G.f id.toNat=S.R G.f id.toNat:=by
      show fM S.R _ _ G.f _=_;unfold fM;rw[aDq (λh=>dA h.2)]
     rw[this]
    .rw[aDq AG,aDq AG]
  .rw[aaI af id dA jc];exact n.sN af id leaf d jc he
 have Dm:s5 G w u0 (G.bQ S.used (G.L-1)+1) (G.L-1) (G.begin w (x/4 ^ (G.L-1)) S) (K (G.L-1) (cT x (G.L-1))).1 (K (G.L-1) (cT x (G.L-1))).2:=by rw[ah];exact s2
 obtain⟨t_,eD,fK,oT,tC⟩:=aaE o hu pM (op:=op) ai (K:=K) (A:=A) (G.L-1) _ _ (by omega) s1 Dm (by show S.gone.length=_;omega) QE
  (fin.imp (λf af jc=>f af (by omega)) λf af jc=>f af (by omega))
 refine⟨t_,eD,fK,?_,λaf jc=>tC af (by omega)⟩;rw[oT,show G.L-1+1=G.L by omega];rfl
theorem xP.zero {S:c7}(jL:∀r i,S.R r i=fm):xP G S (λ_ _=>none) (λ_ _=>(0,0)) (λ_=>none):=by
 refine⟨λh _=>oA.zero λr i _=>jL _ _,λh id _=>?_,λh id leaf d _ he=>(by cases he),λ_=>rfl,λh id _ aK=>absurd rfl aK⟩;unfold told;split
 .rw[jL];rfl
 .rfl
theorem lk.zero {u0:Nat}{S:c7}(jL:∀r i,S.R r i=fm)(dd:S.gone=[]):lk G w u0 u0 S:=by
 refine⟨λh _ r i _ ar=>?_,λl bG v p he b0=>?_,λl bG v p fw ns gx eW he _ b0=>?_,?_⟩
 .have e:G.bV h S.R r i=fm:=jL _ _;rw[e,wI] at ar;cases ar
 .cases l with
  | top x=>obtain⟨_,_,e,_⟩:=he;rw[jL] at e;exact absurd e b0
  | bp h r i q =>
   obtain⟨_,_,_,ar,_⟩:=he;have e:G.bV h S.R r i=fm:=jL _ _;rw[e,wI] at ar;cases ar
 .cases l with
  | top x=>obtain⟨_,_,e,_⟩:=he;rw[jL] at e;exact absurd e b0
  | bp h r i q =>
   obtain⟨_,_,_,ar,_⟩:=he;have e:G.bV h S.R r i=fm:=jL _ _;rw[e,wI] at ar;cases ar
 .rw[dd];exact⟨aE7,λx ai=>(by cases ai),λi x hi=>(by simp at hi),λi x hi=>(by simp at hi)⟩

import Derived.Test.YtegdpmgnhnccaaaGreatSh
namespace Go.cQ
section aeS
variable {α:Type}
def mf (key:α->Nat)(up:Bool)(a b:α):α×α:=if (bif up then decide (key b<key a) else decide (key a<key b))=true then (b,a) else (a,b)
def k3 (key:α->Nat)(f:Nat->α)(p:Nat×Nat×Bool):Nat->α:=λx =>
 if x=p.1 then (mf key p.2.2 (f p.1) (f p.2.1)).1 else if x=p.2.1 then (mf key p.2.2 (f p.1) (f p.2.1)).2 else f x
def ip (k j n:Nat):List (Nat×Nat×Bool):=((List.range n).filter λi=>decide (i/j%2=0)).map λi=>(i,i+j,decide (i/k%2=0))
theorem aeT (k j n:Nat):ip k j (n+1)=ip k j n++(if n/j%2=0 then [(n,n+j,decide (n/k%2=0))] else []):=by
 unfold ip;rw[ato,auY,atD];congr 1;by_cases h:n/j%2=0<;>simp[h]
def ts (n a:Nat):Nat->List (Nat×Nat×Bool)
 | 0=>[]
 | b+1=>ip (2 ^ (a+1)) (2 ^ b) n++ts n a b
def u5 (n:Nat):Nat->List (Nat×Nat×Bool)
 | 0=>[]
 | a+1=>u5 n a++ts n a (a+1)
def h9 (K:Nat):List (Nat×Nat×Bool):=u5 (2 ^ K) K
def gQ (key:α->Nat)(l:List (Nat×Nat×Bool))(f:Nat->α):Nat->α:=l.foldl (k3 key) f
def par (key:α->Nat)(k j:Nat)(f:Nat->α)(x:Nat):α :=
 if x/j%2=0 then (mf key (decide (x/k%2=0)) (f x) (f (x+j))).1
 else (mf key (decide ((x-j)/k%2=0)) (f (x-j)) (f x)).2
theorem Cb {x j:Nat}(aL:0<j):(x+j)/j=x/j+1:=Nat.add_div_right x aL
theorem R8 {x j:Nat}(h:x/j%2≠0):j<=x:=by
 rcases atF x j with aa|aa
 .rw[auo aa] at h;exact absurd rfl h
 .exact aa
theorem aeU {x j:Nat}(aL:0<j)(h:j<=x):(x-j)/j+1=x/j:=by
 have:=Cb (x:=x-j) aL;rw[Nat.sub_add_cancel h] at this;omega
theorem Cc (key:α->Nat)(l eF:List (Nat×Nat×Bool))(f:Nat->α):gQ key (l++eF) f=gQ key eF (gQ key l f):=by simp[gQ,List.foldl_append]
theorem aeV (key:α->Nat)(f:Nat->α)(k j:Nat)(aL:0<j)(n:Nat):∀x,gQ key (ip k j n) f x =
 if x/j%2=0 then (if x<n then par key k j f x else f x) else (if x-j<n then par key k j f x else f x):=by
 induction n with
 | zero=>intro x;simp[ip,gQ]
 | succ n c6 =>
  intro x;rw[aeT,Cc];by_cases aH:n/j%2=0
  .rw[as8 aH];have eg:∀(g:Nat->α) p y,gQ key [p] g y=k3 key g p y:=λ_ _ _=>rfl;rw[eg];simp only[k3];have aC:gQ key (ip k j n) f n=f n:=by rw[c6,as8 aH,cS]
   have J8:(n+j)/j%2≠0:=by rw[Cb aL];omega
   have a7:gQ key (ip k j n) f (n+j)=f (n+j):=by rw[c6,as7 J8,cS]
   rw[aC,a7];by_cases aa:x=n
   .subst aa;rw[as8 rfl,as8 aH,d_,par,as8 aH]
   .rw[as7 aa];by_cases ad:x=n+j
    .subst ad;rw[as8 rfl,as7 J8,d_,par,as7 J8,auK]
    .rw[as7 ad,c6];by_cases af:x/j%2=0
     .rw[as8 af,as8 af];by_cases aq:x<n
      .rw[as8 aq,d_]
      .rw[as7 aq,cS]
     .have:=R8 af;rw[as7 af,as7 af];by_cases aq:x-j<n
      .rw[as8 aq,d_]
      .rw[as7 aq,cS]
  .rw[as7 aH];have eg:∀(g:Nat->α),gQ key [] g=g:=λ_=>rfl;rw[eg,c6];by_cases af:x/j%2=0
   .rw[as8 af,as8 af];have aa:x≠n:=λe=>aH (e▸af);by_cases aq:x<n
    .rw[as8 aq,d_]
    .rw[as7 aq,cS]
   .rw[as7 af,as7 af];have c3:=R8 af;have aa:x-j≠n:=λe=>by
     have:=aeU aL c3;rw[e] at this;omega
    by_cases aq:x-j<n
    .rw[as8 aq,d_]
    .rw[as7 aq,cS]
def ow (k j:Nat)(s:Nat->Bool)(x:Nat):Bool :=
 if x/j%2=0 then (bif decide (x/k%2=0) then s x&&s (x+j) else s x||s (x+j))
 else (bif decide ((x-j)/k%2=0) then s (x-j)||s x else s (x-j)&&s x)
theorem R9 (key:α->Nat)(up:Bool)(a b:α)(t:Nat) :
 decide (t<=key (mf key up a b).1)=(bif up then decide (t<=key a)&&decide (t<=key b) else decide (t<=key a)||decide (t<=key b)) /\
 decide (t<=key (mf key up a b).2)=(bif up then decide (t<=key a)||decide (t<=key b) else decide (t<=key a)&&decide (t<=key b)):=by
 unfold mf;cases up<;>simp only[aud,auA,aui]
 .by_cases h:key a<key b
  .rw[as8 h];constructor<;>(rw[atz];simp;omega)
  .rw[as7 h];constructor<;>(rw[atz];simp;omega)
 .by_cases h:key b<key a
  .rw[as8 h];constructor<;>(rw[atz];simp;omega)
  .rw[as7 h];constructor<;>(rw[atz];simp;omega)
theorem aeW (key:α->Nat)(k j:Nat)(f:Nat->α)(t x:Nat):decide (t<=key (par key k j f x))=ow k j (λy=>decide (t<=key (f y))) x:=by
 unfold par ow;split
 .exact(R9 key _ _ _ t).1
 .exact(R9 key _ _ _ t).2
def r_ (a:Nat):Nat->(Nat->Bool)->Nat->Bool
 | 0,s=>s
 | b+1,s=>r_ a b (ow (2 ^ (a+1)) (2 ^ b) s)
def pg:Nat->(Nat->Bool)->Nat->Bool
 | 0,s=>s
 | a+1,s=>r_ a (a+1) (pg a s)
theorem J9 {b o i:Nat}(dQ:o%2 ^ (b+1)=0)(hi:i<2 ^ (b+1)):(o+i)/2 ^ b%2=0↔i<2 ^ b:=by
 have aM:0<2 ^ b:=at5 (by decide);obtain⟨q,rfl⟩:=auI dQ;have e:2 ^ (b+1)=2 ^ b*2:=atP 2 b;rw[e,Nat.mul_assoc,Nat.mul_add_div aM];by_cases h:i<2 ^ b
 .rw[auo h];simp[h]
 .have:i/2 ^ b=1:=by
   apply Nat.div_eq_of_lt_le<;>omega
  rw[this];simp[h]
theorem aeX {a b o i:Nat}(au:b<=a)(dQ:o%2 ^ b=0)(hi:i<2 ^ b):(o+i)/2 ^ a=o/2 ^ a:=by
 have aM:0<2 ^ b:=at5 (by decide);obtain⟨q,rfl⟩:=auI dQ;have e:2 ^ a=2 ^ b*2 ^ (a-b):=by rw[<-Nat.pow_add];congr 1;omega
 rw[e,<-atZ,<-atZ,Nat.mul_add_div aM,auo hi,Nat.mul_div_cancel_left _ aM,atQ]
def sa (s:Nat->Bool)(o m:Nat):Prop:=∃(c:Bool) (u v:Nat),∀i,i<m->s (o+i)=(c ^^ decide (u<=i/\i<v))
theorem R_ {s lo hi:Nat->Bool}{o h:Nat}(aR:sa s o (2*h))(aO:∀i,i<h->lo (o+i)=(s (o+i)&&s (o+i+h)))(bT:∀i,i<h->hi (o+h+i)=(s (o+i)||s (o+i+h))) :
 sa lo o h/\sa hi (o+h) h/\((∀i,i<h->lo (o+i)=false)∨(∀i,i<h->hi (o+h+i)=true)):=by
 obtain⟨c,u,v,e⟩:=aR;have aC:∀i,i<h->s (o+i)=(c ^^ decide (u<=i/\i<v)):=λi hi=>e i (by omega);have a7:∀i,i<h->s (o+i+h)=(c ^^ decide (u<=i+h/\i+h<v)):=λi hi=>by rw[Nat.add_assoc];exact e (i+h) (by omega)
 have L:∀i,i<h->lo (o+i)=((c ^^ decide (u<=i/\i<v))&&(c ^^ decide (u<=i+h/\i+h<v))):=λi hi=>by rw[aO i hi,aC i hi,a7 i hi]
 have H:∀i,i<h->hi (o+h+i)=((c ^^ decide (u<=i/\i<v))||(c ^^ decide (u<=i+h/\i+h<v))):=λi hi=>by rw[bT i hi,aC i hi,a7 i hi]
 clear aO bT e aC a7;cases c
 .simp only[au1] at L H;refine⟨⟨false,u,v-h,λi hi=>?_⟩,?_,?_⟩
  .rw[L i hi,au1,atz];simp;omega
  .by_cases aX:v<=h
   .exact⟨false,u,v,λi hi=>by rw[H i hi,au1,atz];simp;omega⟩
   .by_cases aZ:h<=u
    .exact⟨false,u-h,v-h,λi hi=>by rw[H i hi,au1,atz];simp;omega⟩
    .exact⟨true,v-h,u,λi hi=>by rw[H i hi,Bool.true_xor,atz];simp;omega⟩
  .by_cases aX:u<v-h/\u<h
   .right;intro i hi;rw[H i hi];simp;omega
   .left;intro i hi;rw[L i hi];simp;omega
 .simp only[Bool.true_xor] at L H;refine⟨?_,⟨true,u,v-h,λi hi=>?_⟩,?_⟩
  .by_cases aX:v<=h
   .exact⟨true,u,v,λi hi=>by rw[L i hi,Bool.true_xor,atz];simp;omega⟩
   .by_cases aZ:h<=u
    .exact⟨true,u-h,v-h,λi hi=>by rw[L i hi,Bool.true_xor,atz];simp;omega⟩
    .exact⟨false,v-h,u,λi hi=>by rw[L i hi,au1,atz];simp;omega⟩
  .rw[H i hi,Bool.true_xor,atz];simp;omega
  .by_cases aX:u<v-h/\u<h
   .left;intro i hi;rw[L i hi];simp;omega
   .right;intro i hi;rw[H i hi];simp;omega
theorem sa.not {s:Nat->Bool}{o m:Nat}(h:sa s o m):sa (λx=>!s x) o m:=by
 obtain⟨c,u,v,e⟩:=h;exact⟨!c,u,v,λi hi=>by show(!s (o+i))=_;rw[e i hi];cases c<;>simp⟩
def zl (up:Bool)(s:Nat->Bool)(o m:Nat):Prop:=∀i j,i<=j->j<m->(bif up then s (o+i)=true->s (o+j)=true else s (o+j)=true->s (o+i)=true)
theorem zm {a:Nat}(c:Bool):∀(b:Nat) (s:Nat->Bool) (o:Nat),b<=a+1->o%2 ^ b=0->(∀i,i<2 ^ b->s (o+i)=c)->∀i,i<2 ^ b->r_ a b s (o+i)=c
 | 0,s,o,_,_,h,i,hi=>h i hi
 | b+1,s,o,au,dQ,h,i,hi=>by
  have aM:0<2 ^ b:=at5 (by decide);have e:2 ^ (b+1)=2 ^ b*2:=atP 2 b;have aa:∀i,i<2 ^ (b+1)->ow (2 ^ (a+1)) (2 ^ b) s (o+i)=c:=by
   intro i hi;unfold ow;have k4:=J9 dQ hi;split
   .rename_i h0
    have:=k4.1 h0;rw[h i hi,show o+i+2 ^ b=o+(i+2 ^ b) by omega,h (i+2 ^ b) (by omega)];cases c<;>simp
   .rename_i h0
    have ad:¬i<2 ^ b:=λx=>h0 (k4.2 x);rw[h i hi,show o+i-2 ^ b=o+(i-2 ^ b) by omega,h (i-2 ^ b) (by omega)];cases c<;>simp
  have xb:o%2 ^ b=0:=by rw[e] at dQ;exact Nat.mod_eq_zero_of_dvd (Nat.dvd_trans (Nat.dvd_mul_right _ _) (auI dQ))
  show r_ a b (ow (2 ^ (a+1)) (2 ^ b) s) (o+i)=c;by_cases aq:i<2 ^ b
  .exact zm (a:=a) c b _ o (by omega) xb (λi hi=>aa i (by omega)) i aq
  .have:=zm (a:=a) c b (ow (2 ^ (a+1)) (2 ^ b) s) (o+2 ^ b) (by omega) (by rw[Nat.add_mod_right];exact xb) (λi hi=>by rw[Nat.add_assoc];exact aa (2 ^ b+i) (by omega)) (i-2 ^ b) (by omega);rw[show o+i=o+2 ^ b+(i-2 ^ b) by omega];exact this
theorem J_ {a:Nat}:∀(b:Nat) (s:Nat->Bool) (o:Nat),b<=a+1->o%2 ^ b=0->sa s o (2 ^ b)->zl (decide (o/2 ^ (a+1)%2=0)) (r_ a b s) o (2 ^ b)
 | 0,s,o,_,_,_=>by
  intro i j aa ad;have aq:i=0/\j=0:=by simp at ad;omega
  obtain⟨rfl,rfl⟩:=aq;cases decide (o/2 ^ (a+1)%2=0)<;>simp
 | b+1,s,o,au,dQ,Cd=>by
  have aM:0<2 ^ b:=at5 (by decide);have e:2 ^ (b+1)=2*2 ^ b:=by rw[atP];omega
  have xb:o%2 ^ b=0:=by rw[e] at dQ;exact Nat.mod_eq_zero_of_dvd (Nat.dvd_trans (Nat.dvd_mul_left _ _) (auI dQ))
  have Ka:(o+2 ^ b)%2 ^ b=0:=by rw[Nat.add_mod_right];exact xb
  have bK:∀i,i<2 ^ (b+1)->(o+i)/2 ^ (a+1)=o/2 ^ (a+1):=λi hi=>aeX au dQ hi;have jk:(o+2 ^ b)/2 ^ (a+1)=o/2 ^ (a+1):=bK _ (by omega);generalize hZ:ow (2 ^ (a+1)) (2 ^ b) s=p;have zn:∀i,i<2 ^ b->p (o+i)=(bif decide (o/2 ^ (a+1)%2=0) then s (o+i)&&s (o+i+2 ^ b) else s (o+i)||s (o+i+2 ^ b)):=λi hi=>by
   rw[<-hZ];unfold ow;rw[as8 ((J9 dQ (by omega)).2 hi),bK i (by omega)]
  have zo:∀i,i<2 ^ b->p (o+2 ^ b+i)=(bif decide (o/2 ^ (a+1)%2=0) then s (o+i)||s (o+i+2 ^ b) else s (o+i)&&s (o+i+2 ^ b)):=λi hi=>by
   rw[<-hZ];unfold ow;have aC:o+2 ^ b+i=o+(2 ^ b+i):=by omega
   rw[as7 (by rw[aC,J9 dQ (by omega)];omega),show o+2 ^ b+i-2 ^ b=o+i by omega,bK i (by omega),show o+2 ^ b+i=o+i+2 ^ b by omega]
  have key:sa p o (2 ^ b)/\sa p (o+2 ^ b) (2 ^ b)/\(bif decide (o/2 ^ (a+1)%2=0) then ((∀i,i<2 ^ b->p (o+i)=false)∨(∀i,i<2 ^ b->p (o+2 ^ b+i)=true)) else ((∀i,i<2 ^ b->p (o+i)=true)∨(∀i,i<2 ^ b->p (o+2 ^ b+i)=false))):=by
   rw[e] at Cd;cases hu:decide (o/2 ^ (a+1)%2=0) with
   | true =>
    rw[hu] at zn zo;simp only[aud] at zn zo ⊢;exact R_ Cd zn zo
   | false =>
    rw[hu] at zn zo;simp only[auA] at zn zo ⊢;obtain⟨aa,ad,aq⟩:=R_ (lo:=λx=>!p x) (hi:=λx=>!p x) Cd.not (λi hi=>by simp[zn i hi]) (λi hi=>by simp[zo i hi]);refine⟨by simpa using aa.not,by simpa using ad.not,?_⟩;rcases aq with aq|aq
    .left;intro i hi;have:=aq i hi;simpa using this
    .right;intro i hi;have:=aq i hi;simpa using this
  obtain⟨aj,aB,aS⟩:=key;have s1:=J_ (a:=a) b p o (by omega) xb aj;have s2:=J_ (a:=a) b p (o+2 ^ b) (by omega) Ka aB;rw[jk] at s2;show zl _ (r_ a b (ow (2 ^ (a+1)) (2 ^ b) s)) o (2 ^ (b+1));rw[hZ];intro i j mC aL;by_cases Bb:j<2 ^ b
  .exact s1 i j mC Bb
  .by_cases ux:i<2 ^ b
   .rw[show o+j=o+2 ^ b+(j-2 ^ b) by omega];cases hu:decide (o/2 ^ (a+1)%2=0) with
    | true =>
     rw[hu] at aS;simp only[aud] at aS ⊢;rcases aS with aS|aS
     .intro h;rw[zm false b p o (by omega) xb aS i ux] at h;cases h
     .intro _;exact zm true b p _ (by omega) Ka aS _ (by omega)
    | false =>
     rw[hu] at aS;simp only[auA] at aS ⊢;rcases aS with aS|aS
     .intro _;exact zm true b p o (by omega) xb aS i ux
     .intro h;rw[zm false b p _ (by omega) Ka aS _ (by omega)] at h;cases h
   .have:=s2 (i-2 ^ b) (j-2 ^ b) (by omega) (by omega);rw[show o+2 ^ b+(i-2 ^ b)=o+i by omega,show o+2 ^ b+(j-2 ^ b)=o+j by omega] at this;exact this
theorem Kb {s:Nat->Bool}{o:Nat}:∀m,(∀i j,i<=j->j<m->s (o+i)=true->s (o+j)=true)->∃u,u<=m/\∀i,i<m->s (o+i)=decide (u<=i)
 | 0,_=>⟨0,by omega,λi hi=>by omega⟩
 | m+1,h=>by
  obtain⟨u,hu,aR⟩:=Kb m (λi j aa ad=>h i j aa (by omega));cases e:s (o+m) with
  | true =>
   refine⟨u,by omega,λi hi=>?_⟩;by_cases hm:i=m
   .subst hm;rw[e];simp[hu]
   .exact aR i (by omega)
  | false =>
   refine⟨m+1,by omega,λi hi=>?_⟩;have:s (o+i)≠true:=λx=>by rw[h i m (by omega) (by omega) x] at e;cases e
   simp only[Bool.not_eq_true] at this;rw[this];simp;omega
theorem aeY {s:Nat->Bool}{o h:Nat}(aa:zl true s o h)(ad:zl false s (o+h) h):sa s o (2*h):=by
 obtain⟨u,hu,aC⟩:=Kb h (λi j a b=>aa i j a b);obtain⟨v,bH,a7⟩:=Kb (s:=λx=>!s x) (o:=o+h) h (λi j a b=>by
  have:=ad i j a b;simp only[auA] at this;simp only[Bool.not_eq_true'];intro aH;cases e:s (o+h+j) with
  | false=>rfl
  | true=>rw[this e] at aH;cases aH)
 refine⟨false,u,h+v,λi hi=>?_⟩;rw[au1];by_cases c:i<h
 .rw[aC i c,atz];simp;omega
 .have:=a7 (i-h) (by omega);rw[show o+h+(i-h)=o+i by omega] at this;have aq:s (o+i)= !decide (v<=i-h):=by rw[<-this];simp
  rw[aq,atz];simp;omega
theorem Kc:∀(a:Nat) (s:Nat->Bool) (o:Nat),o%2 ^ a=0->zl (decide (o/2 ^ a%2=0)) (pg a s) o (2 ^ a)
 | 0,s,o,_=>by
  intro i j aa ad;have aq:i=0/\j=0:=by simp at ad;omega
  obtain⟨rfl,rfl⟩:=aq;cases decide (o/2 ^ 0%2=0)<;>simp
 | a+1,s,o,dQ=>by
  have aM:0<2 ^ a:=at5 (by decide);have e:2 ^ (a+1)=2*2 ^ a:=by rw[atP];omega
  show zl _ (r_ a (a+1) (pg a s)) o (2 ^ (a+1));refine J_ (a+1) _ o (as_ _) dQ ?_;obtain⟨q,rfl⟩:=auI dQ;have aC:2 ^ (a+1)*q/2 ^ a=2*q:=by
   rw[e,show 2*2 ^ a*q=2 ^ a*(2*q) by rw[atK 2,Nat.mul_assoc]];exact Nat.mul_div_cancel_left _ aM
  have mG:2 ^ (a+1)*q%2 ^ a=0:=by
   rw[e,show 2*2 ^ a*q=2 ^ a*(2*q) by rw[atK 2,Nat.mul_assoc]];exact Nat.mul_mod_right _ _
  have s1:=Kc a s (2 ^ (a+1)*q) mG;have s2:=Kc a s (2 ^ (a+1)*q+2 ^ a) (by rw[Nat.add_mod_right];exact mG);rw[aC,pS] at s1;rw[Cb aM,aC,hv] at s2;rw[e];rw[e] at s1 s2;exact aeY s1 s2
theorem aeZ (key:α->Nat){K a b:Nat}(au:b<K)(f:Nat->α){x:Nat}(af:x<2 ^ K):gQ key (ip (2 ^ (a+1)) (2 ^ b) (2 ^ K)) f x=par key (2 ^ (a+1)) (2 ^ b) f x:=by
 rw[aeV key f _ _ (at5 (by decide)),as8 af,as8 (avg (Nat.sub_le x (2 ^ b)) af),ite_self]
theorem ae0 {K b k:Nat}(au:b<K){s cx:Nat->Bool}(h:∀x,x<2 ^ K->s x=cx x){x:Nat}(af:x<2 ^ K):ow k (2 ^ b) s x=ow k (2 ^ b) cx x:=by
 unfold ow;split
 .rename_i h0
  have aM:0<2 ^ b:=at5 (by decide);have ad:x+2 ^ b<2 ^ K:=by
   have e:2 ^ K=2 ^ b*2 ^ (K-b):=by rw[<-Nat.pow_add];congr 1;omega
   have a7:2 ^ (K-b)%2=0:=by
    rw[show K-b=(K-b-1)+1 by omega,atP];omega
   have aq:x/2 ^ b<2 ^ (K-b):=by rw[auc aM,atK,<-e];exact af
   have aJ:x/2 ^ b+1<2 ^ (K-b):=by omega
   have aW:(x+2 ^ b)/2 ^ b<2 ^ (K-b):=by rw[Cb aM];exact aJ
   rw[auc aM,atK,<-e] at aW;exact aW
  rw[h x af,h _ ad]
 .rename_i h0
  rw[h x af,h (x-2 ^ b) (avg (Nat.sub_le x (2 ^ b)) af)]
theorem Sa (key:α->Nat){K a:Nat}(t:Nat):∀(b:Nat) (f:Nat->α) (s:Nat->Bool),b<=K->(∀x,x<2 ^ K->s x=decide (t<=key (f x)))->∀x,x<2 ^ K->r_ a b s x=decide (t<=key (gQ key (ts (2 ^ K) a b) f x))
 | 0,f,s,_,h,x,af=>h x af
 | b+1,f,s,au,h,x,af=>by
  show r_ a b _ x=decide (t<=key (gQ key (ip (2 ^ (a+1)) (2 ^ b) (2 ^ K)++ts (2 ^ K) a b) f x));rw[Cc];refine Sa key t b _ _ (by omega) (λx af=>?_) x af;rw[aeZ key (by omega) f af,aeW];exact ae0 (by omega) h af
theorem Kd (key:α->Nat){K:Nat}(t:Nat)(f:Nat->α):∀a,a<=K->∀x,x<2 ^ K->pg a (λx=>decide (t<=key (f x))) x=decide (t<=key (gQ key (u5 (2 ^ K) a) f x))
 | 0,_,x,af=>rfl
 | a+1,bV,x,af=>by
  show r_ a (a+1) _ x=decide (t<=key (gQ key (u5 (2 ^ K) a++ts (2 ^ K) a (a+1)) f x));rw[Cc];exact Sa key t (a+1) _ _ bV (Kd key t f a (by omega)) x af
theorem Fq (key:α->Nat)(K:Nat)(f:Nat->α){i j:Nat}(mC:i<=j)(aL:j<2 ^ K):key (gQ key (h9 K) f i)<=key (gQ key (h9 K) f j):=by
 have h:=Kc K (λx=>decide (key (gQ key (h9 K) f i)<=key (f x))) 0 (Nat.zero_mod _);rw[Nat.zero_div,atl (by decide)] at h;have aa:=h i j mC aL;simp only[aud,Nat.zero_add] at aa;rw[Kd key _ f K (as_ _) i (by omega),Kd key _ f K (as_ _) j aL] at aa;exact atC (aa (atl (as_ _)))
theorem ae1 {n i j:Nat}(hi:i<n)(aL:j<n)(cX:i≠j){f g:Nat->α}(h:∀x,x≠i->x≠j->g x=f x)(aR:(g i=f i/\g j=f j)∨(g i=f j/\g j=f i)) :
 ((List.range n).map g).Perm ((List.range n).map f):=by
 have hF:(List.range n).Perm (i::j::((List.range n).erase i).erase j) :=
  (au5 (atq.2 hi)).trans (List.Perm.cons _ (au5 ((List.mem_erase_of_ne cX.symm).2 (atq.2 aL))))
 have hk:(List.range n).Nodup:=List.nodup_range;have aK:(((List.range n).erase i).erase j).map g=(((List.range n).erase i).erase j).map f:=by
  apply atv;intro x af;have aa:=(auB (hk.erase i)).1 af;have ad:=(auB hk).1 aa.2;exact h x ad.1 aa.1
 have aC:=hF.map g;have a7:=hF.map f;simp only[at1] at aC a7;rw[aK] at aC;rcases aR with ⟨a,b⟩|⟨a,b⟩
 .rw[a,b] at aC;exact aC.trans a7.symm
 .rw[a,b] at aC;exact aC.trans ((List.Perm.swap _ _ _).trans a7.symm)
theorem ae2 (key:α->Nat)(f:Nat->α){n:Nat}{p:Nat×Nat×Bool}(aa:p.1<p.2.1)(ad:p.2.1<n):((List.range n).map (k3 key f p)).Perm ((List.range n).map f):=by
 refine ae1 (i:=p.1) (j:=p.2.1) (by omega) ad (by omega) (λx a b=>by simp[k3,a,b]) ?_;have aC:k3 key f p p.1=(mf key p.2.2 (f p.1) (f p.2.1)).1:=by simp[k3]
 have a7:k3 key f p p.2.1=(mf key p.2.2 (f p.1) (f p.2.1)).2:=by simp only[k3];rw[cS];simp
 rw[aC,a7];unfold mf;split
 .exact .inr ⟨rfl,rfl⟩
 .exact .inl ⟨rfl,rfl⟩
theorem ae3 (key:α->Nat)(f:Nat->α){n:Nat}{p:Nat×Nat×Bool}(aa:p.1<p.2.1)(ad:p.2.1<n){x:Nat}(af:n<=x):k3 key f p x=f x:=by
 simp only[k3];rw[cS,cS]
theorem Sb (key:α->Nat){n:Nat}:∀(l:List (Nat×Nat×Bool)) (f:Nat->α),(∀p∈l,p.1<p.2.1/\p.2.1<n)->((List.range n).map (gQ key l f)).Perm ((List.range n).map f)/\∀x,n<=x->gQ key l f x=f x
 | [],f,_=>⟨List.Perm.refl _,λ_ _=>rfl⟩
 | p::l,f,h=>by
  have aM:=h p (atm ..);obtain⟨aa,ad⟩:=Sb key l (k3 key f p) (λq ah=>h q (atn _ ah));exact⟨aa.trans (ae2 key f aM.1 aM.2),λx af=>(ad x af).trans (ae3 key f aM.1 aM.2 af)⟩
theorem ae4 {K b k:Nat}(au:b<K):∀p∈ip k (2 ^ b) (2 ^ K),p.1<p.2.1/\p.2.1<2 ^ K:=by
 intro p aM;have pY:0<2 ^ b:=at5 (by decide);simp only[ip,atE,auL,atq,aui] at aM;obtain⟨x,⟨af,h0⟩,rfl⟩:=aM;refine⟨by show x<x+2 ^ b;omega,?_⟩;show x+2 ^ b<2 ^ K;have e:2 ^ K=2 ^ b*2 ^ (K-b):=by rw[<-Nat.pow_add];congr 1;omega
 have a7:2 ^ (K-b)%2=0:=by
  rw[show K-b=(K-b-1)+1 by omega,atP];omega
 have aq:x/2 ^ b<2 ^ (K-b):=by rw[auc pY,atK,<-e];exact af
 have aW:(x+2 ^ b)/2 ^ b<2 ^ (K-b):=by rw[Cb pY];omega
 rw[auc pY,atK,<-e] at aW;exact aW
theorem Sc {K a:Nat}:∀b,b<=K->∀p∈ts (2 ^ K) a b,p.1<p.2.1/\p.2.1<2 ^ K
 | 0,_,p,aM=>by simp[ts] at aM
 | b+1,au,p,aM=>by
  rcases atw.1 aM with h|h
  .exact ae4 (by omega) p h
  .exact Sc b (by omega) p h
theorem Ce {K:Nat}:∀a,a<=K->∀p∈u5 (2 ^ K) a,p.1<p.2.1/\p.2.1<2 ^ K
 | 0,_,p,aM=>by simp[u5] at aM
 | a+1,bV,p,aM=>by
  rcases atw.1 aM with h|h
  .exact Ce a (by omega) p h
  .exact Sc (a+1) bV p h
theorem Sd (key:α->Nat)(K:Nat)(f:Nat->α):((List.range (2 ^ K)).map (gQ key (h9 K) f)).Perm ((List.range (2 ^ K)).map f)/\∀x,2 ^ K<=x->gQ key (h9 K) f x=f x :=
 Sb key _ f (Ce K (as_ _))
end aeS
end Go.cQ
namespace Go.cQ
section ae5
variable {α:Type}
def dG (d:Nat->α)(i j:Nat):Nat->α:=λx=>if x=i then d j else if x=j then d i else d x
def cW (a b:Nat)(d bq:Nat->α):Prop:=(∀x,x<a∨b<=x->bq x=d x)/\((List.range' a (b-a)).map bq).Perm ((List.range' a (b-a)).map d)
theorem cW.refl (a b:Nat)(d:Nat->α):cW a b d d:=⟨λ_ _=>rfl,List.Perm.refl _⟩
theorem cW.trans {a b:Nat}{d bq Se:Nat->α}(p:cW a b d bq)(q:cW a b bq Se):cW a b d Se :=
 ⟨λx af=>(q.1 x af).trans (p.1 x af),q.2.trans p.2⟩
theorem Sf {a m b:Nat}(aa:a<=m)(ad:m<=b):List.range' a (b-a)=List.range' a (m-a)++List.range' m (b-m):=by
 rw[show b-a=(m-a)+(b-m) by omega,<-List.range'_append_1,show a+(m-a)=m by omega]
theorem Sg {a n:Nat}{d bq:Nat->α}(h:∀x,a<=x->x<a+n->bq x=d x):(List.range' a n).map bq=(List.range' a n).map d :=
 atv λx af=>by
  have:=auZ.1 af;exact h x this.1 this.2
theorem cW.mono {a b dq iv:Nat}{d bq:Nat->α}(p:cW a b d bq)(aa:dq<=a)(ad:a<=b)(aq:b<=iv):cW dq iv d bq:=by
 refine⟨λx af=>p.1 x (by omega),?_⟩;rw[Sf (m:=a) aa (by omega),Sf (a:=a) (m:=b) ad aq];simp only[atD];rw[Sg (a:=dq) (d:=d) (bq:=bq) λx _ af=>p.1 x (by omega),Sg (a:=b) (d:=d) (bq:=bq) λx af _=>p.1 x (by omega)];exact(List.Perm.refl _).append (p.2.append (List.Perm.refl _))
theorem cW.all {a b:Nat}{d bq:Nat->α}(p:cW a b d bq){P:α->Prop}(h:∀x,a<=x->x<b->P (d x)){x:Nat}(aa:a<=x)(ad:x<b):P (bq x):=by
 have hm:bq x∈(List.range' a (b-a)).map bq:=List.mem_map_of_mem (auZ.2 ⟨aa,by omega⟩);obtain⟨y,aA,e⟩:=atE.1 (p.2.mem_iff.1 hm);have:=auZ.1 aA;rw[<-e];exact h y this.1 (by omega)
theorem cW.dG {a b i j:Nat}(d:Nat->α)(hi:a<=i/\i<b)(aL:a<=j/\j<b):cW a b d (dG d i j):=by
 refine⟨λx af=>by simp only[Go.cQ.dG];rw[cS,cS],?_⟩;by_cases e:i=j
 .subst e;have:Go.cQ.dG d i i=d:=by funext x;simp only[Go.cQ.dG];split<;>simp_all
  rw[this]
 have hk:(List.range' a (b-a)).Nodup:=List.nodup_range';have hF:(List.range' a (b-a)).Perm (i::j::((List.range' a (b-a)).erase i).erase j) :=
  (au5 (auZ.2 ⟨hi.1,by omega⟩)).trans (List.Perm.cons _ (au5 ((List.mem_erase_of_ne (λh=>e h.symm)).2 (auZ.2 ⟨aL.1,by omega⟩))))
 have aK:(((List.range' a (b-a)).erase i).erase j).map (Go.cQ.dG d i j)=(((List.range' a (b-a)).erase i).erase j).map d:=by
  apply atv;intro x af;have aa:=(auB (hk.erase i)).1 af;have ad:=(auB hk).1 aa.2;simp only[Go.cQ.dG];rw[as7 ad.1,as7 aa.1]
 have aC:=hF.map (Go.cQ.dG d i j);have a7:=hF.map d;simp only[at1] at aC a7;rw[aK] at aC;have ar:Go.cQ.dG d i j i=d j:=by simp[Go.cQ.dG]
 have aN:Go.cQ.dG d i j j=d i:=by simp only[Go.cQ.dG];rw[as7 (λh=>e h.symm)];simp
 rw[ar,aN] at aC;exact aC.trans ((List.Perm.swap _ _ _).trans a7.symm)
def cr (key:α->Nat)(a b:Nat)(d:Nat->α):Prop:=∀i j,a<=i->i<=j->j<b->key (d i)<=key (d j)
variable {key:α->Nat}
theorem cr.sub {a b dq iv:Nat}{d:Nat->α}(s:cr key a b d)(aa:a<=dq)(ad:iv<=b):cr key dq iv d:=λi j x y z=>s i j (by omega) y (by omega)
theorem cr.congr {a b:Nat}{d bq:Nat->α}(s:cr key a b d)(h:∀x,a<=x->x<b->bq x=d x):cr key a b bq:=λi j x y z=>by
 rw[h i x (by omega),h j (by omega) z];exact s i j x y z
theorem cr.one {a b:Nat}(h:b<=a+1)(d:Nat->α):cr key a b d:=λi j aa ad aq=>by
 have:i=j:=by omega
 subst this;exact as_ _
theorem cr.join {a m b:Nat}{d:Nat->α}(s:cr key a m d)(t:cr key m b d)(h:∀i j,a<=i->i<m->m<=j->j<b->key (d i)<=key (d j)):cr key a b d:=λi j x y z=>by
 by_cases aX:j<m
 .exact s i j x y aX
 .by_cases aZ:i<m
  .exact h i j x aZ (by omega) z
  .exact t i j (by omega) y z
structure q7 (key:α->Nat)(a i j:Nat)(e:Nat->α):Prop where
 low:a<=j/\j<=i
 ord:∀x y,a<=x->x<=y->y<=i->x≠j->y≠j->key (e x)<=key (e y)
 up:∀y,j<y->y<=i->key (e j)<key (e y)
theorem q7.start {a i:Nat}{e:Nat->α}(h:a<=i)(s:cr key a i e):q7 key a i i e:=⟨⟨h,as_ _⟩,λx y aa ad aq aJ aW=>s x y aa ad (by omega),λy aa ad=>by omega⟩
theorem q7.step {a i j:Nat}{e:Nat->α}(s:q7 key a i j e)(aL:a<j)(b1:key (e j)<key (e (j-1))):q7 key a i (j-1) (dG e j (j-1)):=by
 have jU:dG e j (j-1) j=e (j-1):=by simp[dG]
 have ae6:dG e j (j-1) (j-1)=e j:=by simp only[dG];rw[cS];simp
 have rL:∀x,x≠j->x≠j-1->dG e j (j-1) x=e x:=λx aa ad=>by simp only[dG];rw[as7 aa,as7 ad]
 have aO:=s.low;refine⟨by omega,λx y aa ad aq aJ aW=>?_,λy aa ad=>?_⟩
 .by_cases aX:x=j
  .by_cases aZ:y=j
   .rw[aX,aZ];exact as_ _
   .rw[aX,jU,rL y aZ aW];exact s.ord (j-1) y (by omega) (by omega) aq (by omega) aZ
  .by_cases aZ:y=j
   .rw[aZ,jU,rL x aX aJ];exact s.ord x (j-1) aa (by omega) (by omega) aX (by omega)
   .rw[rL x aX aJ,rL y aZ aW];exact s.ord x y aa ad aq aX aZ
 .rw[ae6];by_cases c:y=j
  .rw[c,jU];exact b1
  .rw[rL y c (by omega)];exact s.up y (by omega) ad
theorem q7.done {a i j:Nat}{e:Nat->α}(s:q7 key a i j e)(h:j<=a∨¬key (e j)<key (e (j-1))):cr key a (i+1) e:=λx y aa ad aq=>by
 have aO:=s.low;by_cases aX:x=j
 .by_cases aZ:y=j
  .rw[aX,aZ];exact as_ _
  .rw[aX];exact Nat.le_of_lt (s.up y (by omega) (by omega))
 .by_cases aZ:y=j
  .rcases h with h|h
   .omega
   .rw[aZ];have aJ:key (e x)<=key (e (j-1)):=s.ord x (j-1) aa (by omega) (by omega) aX (by omega);omega
  .exact s.ord x y aa ad (by omega) aX aZ
def nI (d:Nat->α)(a k:Nat):Nat->α:=λx=>if a<=x/\x<k then d (x+1) else if x=k then d a else d x
theorem zp (d:Nat->α)(a:Nat):nI d a a=d:=by
 funext x;simp only[nI];rw[cS];split
 .rename_i h;rw[h]
 .rfl
theorem Sh {d:Nat->α}{a k:Nat}(h:a<=k):dG (nI d a k) k (k+1)=nI d a (k+1):=by
 funext x;simp only[dG,nI];by_cases aX:x=k
 .rw[as8 aX,cS,cS,d_,aX]
 .rw[as7 aX];by_cases aZ:x=k+1
  .rw[as8 aZ,cS,as8 trivial,cS];simp[aZ]
  .rw[as7 aZ];by_cases cp:a<=x/\x<k
   .rw[as8 cp,d_]
   .rw[as7 cp,as7 aX,cS,as7 aZ]
theorem Si {d:Nat->α}{a i b:Nat}(aa:a<i)(ad:i<=b)(s:cr key (a+1) b d)(lo:∀x,a+1<=x->x<i->key (d x)<key (d a))(hi:∀x,i<=x->x<b->key (d a)<=key (d x)):cr key a b (nI d a (i-1)):=λx y aq aJ aW=>by
 simp only[nI];by_cases aX:a<=x/\x<i-1
 .rw[as8 aX];by_cases aZ:a<=y/\y<i-1
  .rw[as8 aZ];exact s _ _ (by omega) (by omega) (by omega)
  .rw[as7 aZ];by_cases cp:y=i-1
   .rw[as8 cp];exact Nat.le_of_lt (lo _ (by omega) (by omega))
   .rw[as7 cp];exact s _ _ (by omega) (by omega) (by omega)
 .rw[as7 aX,as7 (show ¬(a<=y/\y<i-1) by omega)];by_cases cp:x=i-1
  .rw[as8 cp];by_cases dc:y=i-1
   .rw[as8 dc];exact as_ _
   .rw[as7 dc];exact hi _ (by omega) (by omega)
  .rw[as7 cp,cS];exact s _ _ (by omega) (by omega) (by omega)
def nJ (d:Nat->α)(m k:Nat):Nat->α:=λx=>if k<x/\x<=m then d (x-1) else if x=k then d m else d x
theorem zq (d:Nat->α)(m:Nat):nJ d m m=d:=by
 funext x;simp only[nJ];rw[cS];split
 .rename_i h;rw[h]
 .rfl
theorem Sj {d:Nat->α}{m k:Nat}(h:k<=m)(h0:0<k):dG (nJ d m k) k (k-1)=nJ d m (k-1):=by
 funext x;simp only[dG,nJ];by_cases aX:x=k
 .rw[as8 aX,cS,cS,d_,aX]
 .rw[as7 aX];by_cases aZ:x=k-1
  .rw[as8 aZ,cS,as8 trivial,cS];simp[aZ]
  .rw[as7 aZ];by_cases cp:k<x/\x<=m
   .rw[as8 cp,d_]
   .rw[as7 cp,as7 aX,cS,as7 aZ]
theorem Sk {d:Nat->α}{a i m:Nat}(aa:a<=i)(ad:i<=m)(s:cr key a m d)(lo:∀x,a<=x->x<i->key (d x)<=key (d m))(hi:∀x,i<=x->x<m->key (d m)<key (d x)):cr key a (m+1) (nJ d m i):=λx y aq aJ aW=>by
 simp only[nJ];by_cases aX:i<y/\y<=m
 .rw[as8 aX];by_cases aZ:i<x/\x<=m
  .rw[as8 aZ];exact s _ _ (by omega) (by omega) (by omega)
  .rw[as7 aZ];by_cases cp:x=i
   .rw[as8 cp];exact Nat.le_of_lt (hi _ (by omega) (by omega))
   .rw[as7 cp];exact s _ _ (by omega) (by omega) (by omega)
 .rw[as7 aX,as7 (show ¬(i<x/\x<=m) by omega)];by_cases cp:y=i
  .rw[as8 cp];by_cases dc:x=i
   .rw[as8 dc];exact as_ _
   .rw[as7 dc];exact lo _ (by omega) (by omega)
  .rw[as7 cp,cS];exact s _ _ (by omega) (by omega) (by omega)
def iW (d:Nat->α)(a b n:Nat):Nat->α:=λx=>if a<=x/\x<a+n then d (x-a+b) else if b<=x/\x<b+n then d (x-b+a) else d x
theorem Fs (d:Nat->α)(a b:Nat):iW d a b 0=d:=by funext x;simp only[iW];rw[cS,cS]
theorem Sl {d:Nat->α}{a b n:Nat}(h:a+n<b):dG (iW d a b n) (a+n) (b+n)=iW d a b (n+1):=by
 funext x;simp only[dG,iW]
 repeat' split
 all_goals first|(exfalso;omega)|rfl|(congr 1;omega)
def gj (d:Nat->α)(a m b:Nat):Nat->α:=λx=>if a<=x/\x<a+(b-m) then d (x+(m-a)) else if a+(b-m)<=x/\x<b then d (x-(b-m)) else d x
theorem Sm {d:Nat->α}{m i:Nat}(h:i<=m):iW d (m-i) m i=gj d (m-i) m (m+i):=by
 funext x;simp only[iW,gj]
 repeat' split
 all_goals first|(exfalso;omega)|rfl|(congr 1;omega)
theorem Sn {d:Nat->α}{m i j:Nat}(h:i<=m)(aL:j<i):gj (iW d (m-i) m j) (m-(i-j)) m (m+j)=gj d (m-i) m (m+j):=by
 funext x;simp only[iW,gj]
 repeat' split
 all_goals first|(exfalso;omega)|rfl|(congr 1;omega)
theorem So {d:Nat->α}{m i j:Nat}(h:i<=m)(aL:i<j):gj (iW d (m-i) (m+j-i) i) (m-i) m (m+(j-i))=gj d (m-i) m (m+j):=by
 funext x;simp only[iW,gj]
 repeat' split
 all_goals first|(exfalso;omega)|rfl|(congr 1;omega)
theorem zr (d:Nat->α)(m b:Nat)(h:m<=b):gj d m m b=d:=by
 funext x;simp only[gj];by_cases aX:m<=x/\x<m+(b-m)
 .rw[as8 aX];congr 1;omega
 .rw[as7 aX,cS]
theorem zs (d:Nat->α)(a m:Nat)(h:a<=m):gj d a m m=d:=by
 funext x;simp only[gj];rw[cS];by_cases aX:a+(m-m)<=x/\x<m
 .rw[as8 aX];congr 1;omega
 .rw[as7 aX]
structure Cut (key:α->Nat)(a m b st:Nat)(d:Nat->α):Prop where
 lo:a<=st/\st<=m/\st<=(a+b)/2
 dA:m<=(a+b)/2+m-st/\(a+b)/2+m-st<=b
 bO:st<m->m<(a+b)/2+m-st->key (d ((a+b)/2+m-st-1))<=key (d st)
 ca:a<st->(a+b)/2+m-st<b->key (d (st-1))<=key (d ((a+b)/2+m-st))
theorem Cut.use {a m b st:Nat}{d d1:Nat->α}(Sp:a<m/\m<b)(s1:cr key a m d)(s2:cr key m b d)(c:Cut key a m b st d)(bK:d1=gj d st m ((a+b)/2+m-st)) :
 cr key a st d1/\cr key st ((a+b)/2) d1/\cr key ((a+b)/2) ((a+b)/2+m-st) d1/\cr key ((a+b)/2+m-st) b d1/\∀i j,a<=i->i<(a+b)/2->(a+b)/2<=j->j<b->key (d1 i)<=key (d1 j):=by
 subst bK;obtain⟨⟨g_,hW,qP⟩,⟨aC,a7⟩,bO,ca⟩:=c;generalize mg:(a+b)/2=mid at *;have rz:a<=mid/\mid<b:=by omega
 generalize Ft:mid+m-st=dA at *;have kB:st+(dA-m)=mid:=by omega
 have ev:∀x,x<st->gj d st m dA x=d x:=λx af=>by simp only[gj];rw[cS,cS]
 have e5:∀x,st<=x->x<mid->gj d st m dA x=d (x+(m-st)):=λx aa ad=>by simp only[gj];rw[d_]
 have nx:∀x,mid<=x->x<dA->gj d st m dA x=d (x-(dA-m)):=λx aa ad=>by simp only[gj];rw[cS,d_]
 have q8:∀x,dA<=x->gj d st m dA x=d x:=λx af=>by simp only[gj];rw[cS,cS]
 refine⟨λi j aa ad aq=>?_,λi j aa ad aq=>?_,λi j aa ad aq=>?_,λi j aa ad aq=>?_,λi j aa ad aq aJ=>?_⟩
 .rw[ev i (by omega),ev j aq];exact s1 _ _ aa ad (by omega)
 .rw[e5 i aa (by omega),e5 j (by omega) aq];exact s2 _ _ (by omega) (by omega) (by omega)
 .rw[nx i aa (by omega),nx j (by omega) aq];exact s1 _ _ (by omega) (by omega) (by omega)
 .rw[q8 i aa,q8 j (by omega)];exact s2 _ _ (by omega) (by omega) aq
 .by_cases aX:i<st
  .rw[ev i aX];by_cases aZ:j<dA
   .rw[nx j aq aZ];exact s1 _ _ aa (by omega) (by omega)
   .rw[q8 j (by omega)];have aE:key (d i)<=key (d (st-1)):=s1 _ _ aa (by omega) (by omega);have az:=ca (by omega) (by omega);have aD:key (d dA)<=key (d j):=s2 _ _ (by omega) (by omega) aJ;omega
  .rw[e5 i (by omega) ad];by_cases aZ:j<dA
   .rw[nx j aq aZ];have aE:key (d (i+(m-st)))<=key (d (dA-1)):=s2 _ _ (by omega) (by omega) (by omega);have az:=bO (by omega) (by omega);have aD:key (d st)<=key (d (j-(dA-m))):=s1 _ _ (by omega) (by omega) (by omega);omega
   .rw[q8 j (by omega)];exact s2 _ _ (by omega) (by omega) aJ
theorem merge_join {a mid b:Nat}{d1 d2 d3:Nat->α}(h:a<=mid/\mid<=b)(hF:cW a mid d1 d2)(s1:cr key a mid d2)(jt:cW mid b d2 d3)(s2:cr key mid b d3)(lo:∀i j,a<=i->i<mid->mid<=j->j<b->key (d1 i)<=key (d1 j)):cr key a b d3:=by
 have aa:∀x,x<mid->d3 x=d2 x:=λx af=>jt.1 x (.inl af);refine cr.join (s1.congr λx _ af=>aa x af) s2 λi j ar aN a3 a4=>?_;refine jt.all (P:=λz=>key (d3 i)<=key z) (λy aj aB=>?_) a3 a4;rw[aa i aN,hF.1 y (.inr aj)];exact hF.all (P:=λz=>key z<=key (d1 y)) (λz aX aZ=>lo z y aX aZ aj aB) ar aN
end ae5
end Go.cQ
namespace Go.cQ
structure l4 where
 bS:Int
 on:Nat
 st:Nat
def hf (k s t:Nat)(x:l4)(deep:Int):l4×Option Nat :=
 let bS:=if deep<x.bS then deep else x.bS
 let on:=if deep<x.bS then 0 else x.on
 if bS<0 then (if x.st=t then (⟨bS,on,x.st⟩,none) else (⟨bS,on,x.st+1⟩,some (s*(k+1)+x.st)))
 else (if on+1=s then ⟨bS-1,0,x.st⟩ else ⟨bS,on+1,x.st⟩,some (bS.toNat*s+on))
def hh (k s t:Nat):List Int->l4->List (Option Nat)
 | [],_=>[]
 | d::l,x=>if d<0 then none::l.map (λ_=>none) else (hf k s t x d).2::hh k s t l (hf k s t x d).1
theorem El (k s t:Nat):∀(l:List Int) (x:l4),(hh k s t l x).length=l.length
 | [],_=>rfl
 | d::l,x=>by
  unfold hh;split
  .simp
  .simp[El k s t l]
def fc:List Int->Nat
 | []=>0
 | d::l=>if d<0 then 0 else fc l+1
theorem rC:∀l:List Int,fc l<=l.length
 | []=>by simp[fc]
 | d::l=>by
  unfold fc;split;· omega
  .have:=rC l;simp;omega
def n4 (n:Nat)(cc:List (Option Nat)):List Nat:=(List.range n).filter λx=>!cc.contains (some x)
def hj:List (Option Nat)->List Nat->List Nat
 | [],_=>[]
 | some p::l,r=>p::hj l r
 | none::l,r=>r.headD 0::hj l r.tail
def fU (k:Nat):l4:=⟨k,0,0⟩
def jK (k s t:Nat)(l:List Int):List Nat:=hj (hh k s t l (fU k)) (n4 l.length (hh k s t l (fU k)))
def jY (k s t:Nat)(l:List Int):List Nat:=(List.range (fc l)).filter λi=>(hh k s t l (fU k)).getD i none==none
def u6 (k s t:Nat)(x:l4)(p:Nat):Prop :=
 (p<s*(k+1)->(p/s:Nat)<x.bS∨((p/s:Nat)=x.bS/\x.on<=p%s))/\(s*(k+1)<=p->s*(k+1)+x.st<=p/\p<s*(k+1)+t)
structure rB (k s t:Nat)(x:l4):Prop where
 bS:x.bS<=k
 on:x.on<s
 st:x.st<=t
theorem Sq {k s:Nat}{a b:Nat}(bV:a<=k)(au:b<s):a*s+b<s*(k+1):=by
 have aa:a*s<=k*s:=aug s bV;have ad:s*(k+1)=k*s+s:=by rw[Nat.mul_add,auw,atK]
 omega
theorem yV {s a b:Nat}(au:b<s):(a*s+b)/s=a/\(a*s+b)%s=b:=by
 have aR:0<s:=by omega
 constructor
 .rw[atK,Nat.mul_add_div aR,auo au,atQ]
 .rw[atK,Nat.mul_add_mod,aun au]
theorem Pj {k s t:Nat}{x:l4}(w:rB k s t x){d:Int}(bK:0<=d) :
 rB k s t (hf k s t x d).1/\(∀p,u6 k s t (hf k s t x d).1 p->u6 k s t x p) /\
 (∀p,(hf k s t x d).2=some p->u6 k s t x p/\¬u6 k s t (hf k s t x d).1 p/\p<s*(k+1)+t/\(p<s*(k+1)->((p/s:Nat):Int)<=d)) /\
 ((hf k s t x d).2=none->x.st=t)/\(hf k s t x d).1.st<=x.st+1:=by
 obtain⟨jJ,iO,n2⟩:=w;have aR:0<s:=by omega
 generalize kd:(if d<x.bS then d else x.bS)=bS;generalize l5:(if d<x.bS then 0 else x.on)=on;have e:hf k s t x d=if bS<0 then (if x.st=t then (⟨bS,on,x.st⟩,none) else (⟨bS,on,x.st+1⟩,some (s*(k+1)+x.st))) else (if on+1=s then ⟨bS-1,0,x.st⟩ else ⟨bS,on+1,x.st⟩,some (bS.toNat*s+on)):=by
  unfold hf;rw[kd,l5]
 have aO:bS<=x.bS/\bS<=d/\on<s:=by
  by_cases c:d<x.bS
  .rw[as8 c] at kd l5;omega
  .rw[as7 c] at kd l5;omega
 have Fu:∀p st,x.st<=st->u6 k s t ⟨bS,on,st⟩ p->u6 k s t x p:=by
  intro p st kB h;refine⟨λaM=>?_,λaM=>?_⟩
  .have:=h.1 aM;by_cases c:d<x.bS
   .rw[as8 c] at kd l5;simp only at this;left;omega
   .rw[as7 c] at kd l5;simp only at this;omega
  .have:=h.2 aM;simp only at this;omega
 rw[e];by_cases aX:bS<0
 .rw[as8 aX];by_cases aZ:x.st=t
  .rw[as8 aZ];exact⟨⟨by simp only;omega,aO.2.2,n2⟩,λp h=>Fu p _ (as_ _) h,λp h=>(by cases h),λ_=>aZ,by simp⟩
  .rw[as7 aZ];refine⟨⟨by simp only;omega,aO.2.2,by simp only;omega⟩,λp h=>Fu p _ (by omega) h,λp h=>?_,λh=>(by cases h),by simp⟩;have aM:s*(k+1)+x.st=p:=atH h;subst aM;exact⟨⟨λh=>by omega,λ_=>⟨as_ _,by omega⟩⟩,λh=>by have:=(h.2 (by omega)).1;simp only at this;omega,by omega,λh=>by omega⟩
 .rw[as7 aX];have lh:((bS.toNat:Nat):Int)=bS:=by omega
  have b1:bS.toNat*s+on<s*(k+1):=Sq (by omega) aO.2.2;obtain⟨d1,d2⟩:=yV (a:=bS.toNat) aO.2.2;have ae7:u6 k s t ⟨bS,on,x.st⟩ (bS.toNat*s+on):=⟨λ_=> .inr ⟨by rw[d1];exact lh,by rw[d2];exact as_ _⟩,λh=>by omega⟩;have kB:((if on+1=s then ⟨bS-1,0,x.st⟩ else ⟨bS,on+1,x.st⟩:l4)).st=x.st:=by split<;>rfl
  refine⟨?_,λp h=>Fu p x.st (as_ _) ?_,λp h=>?_,λh=>(by cases h),by simp only[kB];omega⟩
  .split
   .exact⟨by simp only;omega,by simp only;omega,n2⟩
   .exact⟨by simp only;omega,by simp only;omega,n2⟩
  .refine⟨λaM=>?_,λaM=>?_⟩
   .have:=h.1 aM;by_cases aZ:on+1=s
    .simp only[as8 aZ] at this;simp only;left;omega
    .simp only[as7 aZ] at this;simp only;omega
   .have:=h.2 aM;simp only[kB] at this;exact this
  .have aM:bS.toNat*s+on=p:=atH h;subst aM;refine⟨Fu _ x.st (as_ _) ae7,λh=>?_,by omega,λ_=>by rw[d1];omega⟩;have:=h.1 b1;rw[d1,d2] at this;by_cases aZ:on+1=s
   .simp only[as8 aZ] at this;omega
   .simp only[as7 aZ] at this;omega
theorem Bc {k s t:Nat}:∀(l:List Int) (x:l4),rB k s t x ->
 (∀p,some p∈hh k s t l x->u6 k s t x p/\p<s*(k+1)+t) /\
 (∀(i j p:Nat),(hh k s t l x)[i]? =some (some p)->(hh k s t l x)[j]? =some (some p)->i=j) /\
 (∀(i p:Nat) (d:Int),(hh k s t l x)[i]? =some (some p)->l[i]? =some d->0<=d/\(p<s*(k+1)->((p/s:Nat):Int)<=d)) /\
 (∀(i:Nat),i<fc l->x.st+i<t->∃p,(hh k s t l x)[i]? =some (some p)) /\
 (∀(i p:Nat),(hh k s t l x)[i]? =some (some p)->i<fc l)
 | [],x,_=>⟨λp h=>by simp[hh] at h,λi j p h=>by simp[hh] at h,λi p d h=>by simp[hh] at h,λi h=>by simp[fc] at h,λi p h=>by simp[hh] at h⟩
 | d::l,x,w=>by
  by_cases c:d<0
  .have e:hh k s t (d::l) x=none::l.map (λ_=>none):=by rw[hh,as8 c]
   rw[e];have no:∀(i p:Nat),¬((none:Option Nat)::l.map (λ_=>none))[i]? =some (some p):=by
    intro i p h;have:=au6 h;simp at this
   refine⟨λp h=>by simp at h,λi j p h=>absurd h (no i p),λi p d h=>absurd h (no i p),λi h=>by rw[fc,as8 c] at h;omega,λi p h=>absurd h (no i p)⟩
  .have e:hh k s t (d::l) x=(hf k s t x d).2::hh k s t l (hf k s t x d).1:=by rw[hh,as7 c]
   rw[e];obtain⟨ax,ay,aI,aQ,bm⟩:=Pj w (d:=d) (by omega);obtain⟨i1,i2,i3,i4,i5⟩:=Bc l (hf k s t x d).1 ax;refine⟨λp h=>?_,λi j p hi aL=>?_,λi p bq hi bK=>?_,λi hi aR=>?_,λi p hi=>?_⟩
   .rcases at3.1 h with h|h
    .have:=aI p h.symm;exact⟨this.1,this.2.2.1⟩
    .have:=i1 p h;exact⟨ay p this.1,this.2⟩
   .cases i with
    | zero =>
     cases j with
     | zero=>rfl
     | succ j =>
      simp only[atp,atX] at hi;simp only[atu] at aL;exact absurd (i1 p (au6 aL)).1 (aI p hi).2.1
    | succ i =>
     cases j with
     | zero =>
      simp only[atp,atX] at aL;simp only[atu] at hi;exact absurd (i1 p (au6 hi)).1 (aI p aL).2.1
     | succ j =>
      simp only[atu] at hi aL;rw[i2 i j p hi aL]
   .cases i with
    | zero =>
     simp only[atp,atX] at hi bK;subst bK;exact⟨by omega,(aI p hi).2.2.2⟩
    | succ i =>
     simp only[atu] at hi bK;exact i3 i p bq hi bK
   .rw[fc,as7 c] at hi;cases i with
    | zero =>
     simp only[atp,atX];cases h:(hf k s t x d).2 with
     | some p=>exact⟨p,rfl⟩
     | none=>have:=aQ h;omega
    | succ i =>
     simp only[atu];exact i4 i (by omega) (by omega)
   .rw[fc,as7 c];cases i with
    | zero=>omega
    | succ i =>
     simp only[atu] at hi;have:=i5 i p hi;omega
theorem Bn:∀(l:List (Option Nat)) (r:List Nat),(hj l r).length=l.length
 | [],_=>rfl
 | some p::l,r=>by simp[hj,Bn l]
 | none::l,r=>by simp[hj,Bn l]
def hx (l:List (Option Nat)):Nat:=(l.filter (·==none)).length
theorem Ke:∀(l:List (Option Nat)) (r:List Nat),hx l<=r.length->r.Nodup->(∀p,some p∈l->p∉r)->(∀(i j p:Nat),l[i]? =some (some p)->l[j]? =some (some p)->i=j) ->
 (hj l r).Nodup/\(∀p∈hj l r,some p∈l∨p∈r)/\∀(i p:Nat),l[i]? =some (some p)->(hj l r)[i]? =some p
 | [],r,_,_,_,_=>⟨auG,λp h=>by simp[hj] at h,λi p h=>by simp at h⟩
 | some p::l,r,aH,hk,cG,inj=>by
  have ph:hx l<=r.length:=by simpa [hx] using aH
  obtain⟨a,b,c⟩:=Ke l r ph hk (λq ah=>cG q (atn _ ah)) (λi j q hi aL=>by have:=inj (i+1) (j+1) q (by simpa using hi) (by simpa using aL);omega);refine⟨auk.2 ⟨λh=>?_,a⟩,λq h=>?_,λi q h=>?_⟩
  .rcases b p h with h|h
   .obtain⟨i,hi⟩:=List.getElem?_of_mem h;have:=inj 0 (i+1) p (by simp) (by simpa using hi);omega
   .exact cG p (atm ..) h
  .rcases at3.1 h with h|h
   .left;rw[h];exact atm ..
   .rcases b q h with h|h
    .left;exact atn _ h
    .exact .inr h
  .cases i with
   | zero=>simp only[atp,atX] at h;simp[hj,h]
   | succ i=>simp only[atu] at h;simp[hj,c i q h]
 | none::l,r,aH,hk,cG,inj=>by
  have ph:hx l+1<=r.length:=by simpa [hx] using aH
  cases r with
  | nil=>simp at ph
  | cons y r =>
   obtain⟨ae8,ae9⟩:=auk.1 hk;obtain⟨a,b,c⟩:=Ke l r (by simp at ph;omega) ae9 (λq ah h=>cG q (atn _ ah) (atn _ h)) (λi j q hi aL=>by have:=inj (i+1) (j+1) q (by simpa using hi) (by simpa using aL);omega);refine⟨auk.2 ⟨λh=>?_,a⟩,λq h=>?_,λi q h=>?_⟩
   .rcases b _ h with h|h
    .exact cG _ (atn _ h) (atm ..)
    .exact ae8 h
   .rcases at3.1 h with h|h
    .right;rw[h];exact atm ..
    .rcases b q h with h|h
     .left;exact atn _ h
     .exact .inr (atn _ h)
   .cases i with
    | zero=>simp at h
    | succ i=>simp only[atu] at h;simp[hj,c i q h]
theorem ae_ (p:Nat->Bool)(l:List Nat):(l.filter p).length+(l.filter λx=>!p x).length=l.length:=by
 induction l with
 | nil=>rfl
 | cons x l c6=>cases h:p x<;>simp[h]<;>omega
theorem Fv {l r:List Nat}(hk:l.Nodup)(h:∀x∈l,x∈r):l.length<=r.length:=by
 induction l generalizing r with
 | nil=>simp
 | cons x l c6 =>
  obtain⟨aa,ad⟩:=auk.1 hk;have af:=h x (atm ..);have:=c6 (r:=r.erase x) ad λy aA=>(List.mem_erase_of_ne (λe=>aa (by rw[<-e];exact aA))).2 (h y (atn _ aA));have aq:=List.length_erase_of_mem af;have aJ:0<r.length:=List.length_pos_of_mem af;simp;omega
theorem Ii {n:Nat}(l:List (Option Nat))(aO:l.length=n)(inj:∀(i j p:Nat),l[i]? =some (some p)->l[j]? =some (some p)->i=j)(b1:∀p,some p∈l->p<n):hx l=(n4 n l).length:=by
 have key:∀(l:List (Option Nat)),(l.filterMap id).length+hx l=l.length:=by
  intro l
  induction l with
  | nil=>rfl
  | cons a l c6=>cases a<;>simp[hx] at c6 ⊢<;>omega
 have hk:(l.filterMap id).Nodup:=by
  clear b1 aO
  induction l with
  | nil=>simp
  | cons a l c6 =>
   have c6:=c6 (λi j q hi aL=>by have:=inj (i+1) (j+1) q (by simpa using hi) (by simpa using aL);omega);cases a with
   | none=>simpa using c6
   | some p =>
    simp only[List.filterMap_cons,id];refine auk.2 ⟨λh=>?_,c6⟩;have ad:some p∈l:=by simpa using h
    obtain⟨i,hi⟩:=List.getElem?_of_mem ad;have:=inj 0 (i+1) p (by simp) (by simpa using hi);omega
 have mG:(l.filterMap id).length=((List.range n).filter λx=>l.contains (some x)).length:=by
  apply Nat.le_antisymm
  .refine Fv hk λx af=>?_;have ad:some x∈l:=by simpa using af
   simp only[auL,atq];exact⟨b1 x ad,by simpa using ad⟩
  .refine Fv (List.nodup_range.filter _) λx af=>?_;simp only[auL] at af;have:some x∈l:=by simpa using af.2
   simpa using this
 have aa:=key l;have ad:=ae_ (λx=>l.contains (some x)) (List.range n);rw[atj] at ad;show hx l=((List.range n).filter λx=>!l.contains (some x)).length;omega
structure afa (k s t:Nat)(l:List Int):Prop where
 len:(jK k s t l).length=l.length
 nodup:(jK k s t l).Nodup
 lt:∀p∈jK k s t l,p<l.length
 at_:∀(i p:Nat) (d:Int),(jK k s t l)[i]? =some p->l[i]? =some d->i<fc l->i∉jY k s t l->0<=d/\p<s*(k+1)+t/\(p<s*(k+1)->((p/s:Nat):Int)<=d)
 lost:∀i∈jY k s t l,i<fc l
 Kf:fc l<=t->jY k s t l=[]
theorem JS (k s t:Nat)(aR:0<s)(l:List Int)(aO:s*(k+1)+t<=l.length):afa k s t l:=by
 have w:rB k s t (fU k):=⟨by simp[fU],aR,by simp[fU]⟩;obtain⟨i1,i2,i3,i4,i5⟩:=Bc l (fU k) w;have hlen:=El k s t l (fU k);have aH:=Ii (n:=l.length) (hh k s t l (fU k)) hlen i2 λp aM=>by have:=(i1 p aM).2;omega
 obtain⟨a,b,c⟩:=Ke (hh k s t l (fU k)) (n4 l.length (hh k s t l (fU k))) (Nat.le_of_eq aH) (List.nodup_range.filter _) (λp aM h=>by simp[n4,aM] at h) i2;refine⟨by unfold jK;rw[Bn,hlen],a,λp aM=>?_,λi p d aM bK hi Bh=>?_,λi h=>?_,λh=>?_⟩
 .rcases b p aM with h|h
  .have:=(i1 p h).2;omega
  .simp[n4] at h;exact h.1
 .have bN:i<(hh k s t l (fU k)).length:=by rw[hlen];have:=rC l;omega
  have e:(hh k s t l (fU k))[i]? =some ((hh k s t l (fU k))[i]):=atc bN;cases h:(hh k s t l (fU k))[i] with
  | none =>
   rw[h] at e;exact absurd (auL.2 ⟨atq.2 hi,by simp[List.getD,e]⟩) Bh
  | some q =>
   rw[h] at e;have:=c i q e;have ah:q=p:=by
    have ad:(jK k s t l)[i]? =some q:=this;rw[aM] at ad;exact(atH ad).symm
   subst ah;have aq:=i3 i q d e bK;exact⟨aq.1,(i1 q (au6 e)).2,aq.2⟩
 .have:=auL.1 h;exact atq.1 this.1
 .unfold jY;rw[List.filter_eq_nil_iff];intro i hi;have hi:=atq.1 hi;obtain⟨p,aM⟩:=i4 i hi (by simp[fU];omega);simp[List.getD,aM]
end Go.cQ
namespace Go.cQ
abbrev cM:=bk 12
abbrev ei:=bk 8
def gz:cM:=Vector.replicate 12 0
def kE:ei:=Vector.replicate 8 0
def dm (c:cM):Bool:=c[0]==1
def jh (c:cM):ei:=#v[c[3],c[4],c[5],c[6],c[7],c[8],c[9],c[10]]
def kk (id leaf:UInt64)(d:ei):cM:=#v[1,id,leaf,d[0],d[1],d[2],d[3],d[4],d[5],d[6],d[7],0]
structure c1 where
 k:Nat
 s:Nat
 t:Nat
 E:Nat
def c1.tree (P:c1):Nat:=P.s*(P.k+1)
def c1.m (P:c1):Nat:=P.s*(P.k+1)+P.t
def c1.n (P:c1):Nat:=P.s*(P.k+1)+P.t+1
structure c1.dk (P:c1):Prop where
 k:P.k<=10
 s:1<=P.s/\P.s<=8
 t:1<=P.t/\P.t<=64
 E:P.E<=8
 n:P.n<=2 ^ P.E
def ou:Nat->Nat->Nat->Nat
 | 0,_,_=>0
 | f+1,a,b=>if a=b then 0 else ou f (a/2) (b/2)+1
def ji (k a b:Nat):Nat:=k-ou k a b
def kh (k leaf d:Nat):Nat:=2 ^ d-1+leaf/2 ^ (k-d)
def spot (P:c1)(leaf p:Nat):Nat×Nat:=if p<P.s*(P.k+1) then (0,kh P.k leaf (p/P.s)*P.s+p%P.s) else (1,p-P.s*(P.k+1))
def me (P:c1)(ao:Nat)(i:Nat)(c:cM):UInt64:=if i<P.n/\dm c=true then UInt64.ofNat (P.k-ji P.k ao (c[2].toNat))*(4294967296:UInt64)+(c[1]:UInt64) else (4611686018427387904:UInt64)+UInt64.ofNat i
def gb (c:cM):Nat:=c[11].toNat
def tl (P:c1)(ao:Nat)(c:cM):Int:=if dm c=true then (ji P.k ao c[2].toNat:Nat) else -1
def gm (P:c1)(ao:Nat)(T:Nat->cM):Nat->cM:=λi=>(T i).set 11 (me P ao i (T i))
def eB (P:c1)(ao:Nat)(T:Nat->cM):Nat->cM:=gQ gb (h9 P.E) (gm P ao T)
def hq (P:c1)(ao:Nat)(T:Nat->cM):List Int:=(List.range P.n).map λi=>tl P ao (eB P ao T i)
def kl (P:c1)(ao:Nat)(T:Nat->cM):Nat->cM:=λi =>
 (if i∈jY P.k P.s P.t (hq P ao T) then gz else eB P ao T i).set 11 (if i<P.n then UInt64.ofNat ((jK P.k P.s P.t (hq P ao T)).getD i 0) else UInt64.ofNat i)
def iT (P:c1)(ao:Nat)(T:Nat->cM):Nat->cM:=gQ gb (h9 P.E) (kl P ao T)
def ki (P:c1)(ao:Nat)(T:Nat->cM):Bool:=!(jY P.k P.s P.t (hq P ao T)).isEmpty
structure Cf (n:Nat)(σ τ:Nat->Nat):Prop where
 s:∀i,i<n->σ i<n
 t:∀i,i<n->τ i<n
 st:∀i,i<n->σ (τ i)=i
 h1:∀i,i<n->τ (σ i)=i
theorem Cf.inj {n:Nat}{σ τ:Nat->Nat}(b:Cf n σ τ){i j:Nat}(hi:i<n)(aL:j<n)(h:σ i=σ j):i=j:=by
 rw[<-b.h1 i hi,<-b.h1 j aL,h]
theorem afb {α:Type}(key:α->Nat)(f:Nat->α){n:Nat}{p:Nat×Nat×Bool}(aa:p.1<p.2.1)(ad:p.2.1<n):∃σ,Cf n σ σ/\∀i,k3 key f p i=f (σ i):=by
 by_cases c:(bif p.2.2 then decide (key (f p.2.1)<key (f p.1)) else decide (key (f p.1)<key (f p.2.1)))=true
 .refine⟨λi=>if i=p.1 then p.2.1 else if i=p.2.1 then p.1 else i,?_,λi=>?_⟩
  .constructor<;>intro i hi<;>(repeat' split)<;>first|omega|simp_all
  .simp only[k3,mf,as8 c]
   repeat' split
   all_goals first|rfl|omega|simp_all
 .refine⟨λi=>i,⟨λ_ h=>h,λ_ h=>h,λ_ _=>rfl,λ_ _=>rfl⟩,λi=>?_⟩;simp only[k3,mf,as7 c];split
  .rename_i h;rw[h]
  .split
   .rename_i h;rw[h]
   .rfl
theorem Sr {α:Type}(key:α->Nat){n:Nat}:∀(l:List (Nat×Nat×Bool)) (f:Nat->α),(∀p∈l,p.1<p.2.1/\p.2.1<n)->∃σ τ,Cf n σ τ/\∀i,i<n->gQ key l f i=f (σ i)
 | [],f,_=>⟨λi=>i,λi=>i,⟨λ_ h=>h,λ_ h=>h,λ_ _=>rfl,λ_ _=>rfl⟩,λ_ _=>rfl⟩
 | p::l,f,h=>by
  have aM:=h p (atm ..);obtain⟨σ,b,e⟩:=afb key f aM.1 aM.2;obtain⟨tt,Fw,iv,ch⟩:=Sr key l (k3 key f p) (λq ah=>h q (atn _ ah));refine⟨λi=>σ (tt i),λi=>Fw (σ i),⟨λi hi=>b.s _ (iv.s i hi),λi hi=>iv.t _ (b.s i hi),λi hi=>?_,λi hi=>?_⟩,λi hi=>?_⟩
  .show σ (tt (Fw (σ i)))=i;rw[iv.st _ (b.s i hi),b.st i hi]
  .show Fw (σ (σ (tt i)))=i;rw[b.st _ (iv.s i hi),iv.h1 i hi]
  .show gQ key l (k3 key f p) i=_;rw[ch i hi,e]
theorem Kg {α:Type}(key:α->Nat)(K:Nat)(f:Nat->α):∃σ τ,Cf (2 ^ K) σ τ/\∀i,i<2 ^ K->gQ key (h9 K) f i=f (σ i) :=
 Sr key _ f (Ce K (as_ _))
theorem afc {N:Nat}{f:Nat->Nat}(b1:∀i,i<N->f i<N)(inj:∀i j,i<N->j<N->f i=f j->i=j)(mono:∀i j,i<=j->j<N->f i<=f j){i:Nat}(hi:i<N):f i=i:=by
 have strict:∀i j,i<j->j<N->f i<f j:=λi j aa ad=>by
  rcases Nat.lt_or_eq_of_le (mono i j (by omega) ad) with h|h
  .exact h
  .have:=inj i j (by omega) ad h;omega
 have lo:∀i,i<N->i<=f i:=λi=>by
  induction i with
  | zero=>omega
  | succ i c6=>intro h;have:=c6 (by omega);have:=strict i (i+1) (by omega) h;omega
 have bN:∀d i,i+d+1=N->f i<=i:=λd=>by
  induction d with
  | zero=>intro i h;have:=b1 i (by omega);omega
  | succ d c6=>intro i h;have:=c6 (i+1) (by omega);have:=strict i (i+1) (by omega) (by omega);omega
 have:=lo i hi;have:=bN (N-1-i) i (by omega);omega
theorem zj {l:List Nat}(hk:l.Nodup){i j:Nat}(hi:i<l.length)(aL:j<l.length)(h:l.getD i 0=l.getD j 0):i=j:=by
 simp only[at7,atc hi,atc aL,au7] at h;have hk:=auR.1 hk;rcases Nat.lt_trichotomy i j with c|c|c
 .exact absurd h (hk i j hi aL c)
 .exact c
 .exact absurd h.symm (hk j i aL hi c)
theorem Ss {n:Nat}{f:Nat->Nat}(inj:∀i j,i<j->j<n->f i≠f j):((List.range n).map f).Nodup:=by
 rw[List.nodup_iff_pairwise_ne,auR];intro i j hi aL h;simp only[au2,auX];exact inj i j h (by simpa using aL)
theorem St:∀(l:List Int) (j:Nat),j<l.length->(∀i (hi:i<=j) (h:i<l.length),0<=l[i])->j<fc l
 | [],j,h,_=>by simp at h
 | d::l,j,h,aM=>by
  have h0:=aM 0 (by omega) (by simp);simp only[List.getElem_cons_zero] at h0;rw[fc,cS];cases j with
  | zero=>omega
  | succ j =>
   have:=St l j (by simpa using h) λi hi h=>by have:=aM (i+1) (by omega) (by simpa using h);simpa using this
   omega
theorem Ic:∀(l:List Int) (i:Nat),i<fc l->∃d,l[i]? =some d/\0<=d
 | [],i,h=>by simp[fc] at h
 | d::l,i,h=>by
  unfold fc at h;split at h
  .omega
  .cases i with
   | zero=>exact⟨d,by simp,by omega⟩
   | succ i=>obtain⟨e,aa,ad⟩:=Ic l i (by omega);exact⟨e,by simpa using aa,ad⟩
structure u2 (P:c1)(T:Nat->cM):Prop where
 lt:∀i,dm (T i)=true->i<P.n
 id:∀i,dm (T i)=true->(T i)[1].toNat<=2147483648
 leaf:∀i,dm (T i)=true->(T i)[2].toNat<2 ^ P.k
theorem Rq (c:cM)(x:UInt64):(c.set 11 x)[0]=c[0]:=by simp[atL]
theorem ox (c:cM)(x:UInt64):dm (c.set 11 x)=dm c:=by unfold dm;rw[Rq]
theorem u1 (c:cM)(x:UInt64):(c.set 11 x)[11]=x:=by simp[atL]
theorem Fx (c:cM)(x:UInt64):(c.set 11 x)[2]=c[2]:=by simp[atL]
theorem sb (c:cM)(x:UInt64):(c.set 11 x)[1]=c[1]:=by simp[atL]
theorem tu:dm gz=false:=by decide
theorem Su {P:c1}(o:P.dk){ao i:Nat}{c:cM}(hi:i<P.n)(au:dm c=true)(gJ:c[1].toNat<=2147483648):(me P ao i c).toNat=(P.k-ji P.k ao c[2].toNat)*4294967296+c[1].toNat:=by
 unfold me;rw[as8 ⟨hi,au⟩];have:=o.k;have aa:P.k-ji P.k ao c[2].toNat<=10:=by omega
 generalize P.k-ji P.k ao c[2].toNat=x at aa;rw[au8,UInt64.toNat_mul,ate];have e:(4294967296:UInt64).toNat=4294967296:=rfl;rw[e];omega
theorem Sv {P:c1}{ao i:Nat}{c:cM}(hi:i<4294967296)(au:¬(i<P.n/\dm c=true)):(me P ao i c).toNat=4611686018427387904+i:=by
 unfold me;rw[as7 au,au8,ate];have e:(4611686018427387904:UInt64).toNat=4611686018427387904:=rfl;rw[e];omega
theorem wS {P:c1}(o:P.dk):2 ^ P.E<=256:=atg (n:=2) (by decide) o.E
structure afd (P:c1)(ao:Nat)(T:Nat->cM)(g:Nat->Nat):Prop where
 key:∀p,p<2 ^ P.E->(iT P ao T p)[11].toNat=p
 b_:∀p,p<2 ^ P.E->dm (iT P ao T p)=true->g p<P.n/\dm (T (g p))=true/\(∃x y,(iT P ao T p).set 11 x=(T (g p)).set 11 y)/\p<P.m/\(p<P.tree->p/P.s<=ji P.k ao (T (g p))[2].toNat)
 inj:∀p q,p<2 ^ P.E->q<2 ^ P.E->g p=g q->p=q
 all:ki P ao T=false->∀i,i<P.n->dm (T i)=true->∃p,p<P.m/\dm (iT P ao T p)=true/\g p=i
theorem Fy {P:c1}(o:P.dk)(ao:Nat)(T:Nat->cM)(w:u2 P T):∃g,afd P ao T g /\
 (∀S:List UInt64,S.length<=P.t->(∀i,dm (T i)=true->(T i)[1]∈S)->(∀i j,dm (T i)=true->dm (T j)=true->(T i)[1]=(T j)[1]->i=j)->ki P ao T=false):=by
 have h7:=wS o;have aH:=o.n;obtain⟨σ,τ,b,e⟩:=Kg gb P.E (gm P ao T);obtain⟨tt,Fw,iv,ch⟩:=Kg gb P.E (kl P ao T);have e:∀i,i<2 ^ P.E->eB P ao T i=gm P ao T (σ i):=e;have ch:∀i,i<2 ^ P.E->iT P ao T i=kl P ao T (tt i):=ch;generalize nt:hq P ao T=cG at *;have hlen:cG.length=P.n:=by rw[<-nt];simp[hq]
 have dl:=JS P.k P.s P.t (by have:=o.s;omega) cG (by rw[hlen];unfold c1.n;omega);have t3:∀i,kl P ao T i=(if i∈jY P.k P.s P.t cG then gz else eB P ao T i).set 11 (if i<P.n then UInt64.ofNat ((jK P.k P.s P.t cG).getD i 0) else UInt64.ofNat i):=λi=>by simp only[kl,nt]
 have aD:∀i,i<2 ^ P.E->gb (kl P ao T i)=if i<P.n then (jK P.k P.s P.t cG).getD i 0 else i:=λi hi=>by
  rw[t3,gb,u1];split
  .rename_i h
   have aa:(jK P.k P.s P.t cG).getD i 0<cG.length:=by
    refine dl.lt _ ?_;rw[at7,atc (by rw[dl.len,hlen];exact h)];exact aty _
   rw[ate];rw[hlen] at aa;omega
  .rw[ate];omega
 have Kh:∀i,i<P.n->(jK P.k P.s P.t cG).getD i 0<P.n:=λi h=>by
  rw[<-hlen];refine dl.lt _ ?_;rw[at7,atc (by rw[dl.len,hlen];exact h)];exact aty _
 have Sw:∀i,i<2 ^ P.E->gb (kl P ao T i)<2 ^ P.E:=λi hi=>by
  rw[aD i hi];split
  .rename_i h;have:=Kh i h;omega
  .exact hi
 have Sx:∀i j,i<2 ^ P.E->j<2 ^ P.E->gb (kl P ao T i)=gb (kl P ao T j)->i=j:=λi j hi aL h=>by
  rw[aD i hi,aD j aL] at h;by_cases aX:i<P.n
  .by_cases aZ:j<P.n
   .rw[as8 aX,as8 aZ] at h;exact zj dl.nodup (by rw[dl.len,hlen];exact aX) (by rw[dl.len,hlen];exact aZ) h
   .rw[as8 aX,as7 aZ] at h;have:=Kh i aX;omega
  .by_cases aZ:j<P.n
   .rw[as7 aX,as8 aZ] at h;have:=Kh j aZ;omega
   .rw[as7 aX,as7 aZ] at h;exact h
 have bc:∀p,p<2 ^ P.E->gb (iT P ao T p)=p:=λp aM=>by
  refine afc (N:=2 ^ P.E) (f:=λp=>gb (iT P ao T p)) (λi hi=>?_) (λi j hi aL h=>?_) (λi j mC aL=>?_) aM
  .show gb (iT P ao T i)<_;rw[ch i hi];exact Sw _ (iv.s i hi)
  .have h:gb (iT P ao T i)=gb (iT P ao T j):=h;rw[ch i hi,ch j aL] at h;exact iv.inj hi aL (Sx _ _ (iv.s i hi) (iv.s j aL) h)
  .exact Fq gb P.E _ mC aL
 have aj:∀i,dm (gm P ao T i)=dm (T i):=λi=>ox _ _;have afe:∀i,i<2 ^ P.E->dm (T i)=true->gb (gm P ao T i)<4611686018427387904:=λi hi h=>by
  have b1:=w.lt i h;have gJ:=w.id i h;rw[gm,gb,u1,Su o b1 h gJ];have:=o.k;have ad:P.k-ji P.k ao (T i)[2].toNat<=10:=by omega
  have:=aug 4294967296 ad;omega
 have aff:∀i,i<2 ^ P.E->dm (T i)=false->4611686018427387904<=gb (gm P ao T i):=λi hi h=>by
  rw[gm,gb,u1,Sv (by omega) (by rw[h];simp)];omega
 have ahead:∀i j,i<=j->j<2 ^ P.E->dm (eB P ao T j)=true->dm (eB P ao T i)=true:=λi j mC aL h=>by
  have aa:gb (eB P ao T i)<=gb (eB P ao T j):=Fq gb P.E _ mC aL;rw[e j aL] at h aa;rw[e i (by omega)] at aa ⊢;rw[aj] at h ⊢;have ad:=afe _ (b.s j aL) h;cases aq:dm (T (σ i)) with
  | true=>rfl
  | false=>have:=aff _ (b.s i (by omega)) aq;omega
 have Ki:∀j,j<2 ^ P.E->dm (eB P ao T j)=true->j<P.n:=λj aL h=>by
  have:((List.range (j+1)).map σ).length<=(List.range P.n).length:=by
   refine Fv ?_ λx af=>?_
   .refine Ss λa c afg aT h=>?_;have:=b.inj (by omega) (by omega) h;omega
   .obtain⟨i,hi,rfl⟩:=atE.1 af;have bN:=atq.1 hi;have aa:=ahead i j (by omega) aL h;rw[e i (by omega),aj] at aa;exact atq.2 (w.lt _ aa)
  simp at this;omega
 have hJ:∀i,i<P.n->cG[i]? =some (tl P ao (eB P ao T i)):=λi hi=>by rw[<-nt];simp[hq,hi]
 have Fz:∀j,j<2 ^ P.E->dm (eB P ao T j)=true->j<fc cG:=λj aL h=>by
  have jn:=Ki j aL h;refine St cG j (by rw[hlen];exact jn) λi hi ag=>?_;have aa:=hJ i (by omega);rw[atc ag] at aa;rw[atH aa,tl,as8 (ahead i j hi aL h)];omega
 have Kj:∀j,j<fc cG->dm (eB P ao T j)=true:=λj aL=>by
  obtain⟨d,aa,ad⟩:=Ic cG j aL;have jn:j<P.n:=by have:=rC cG;omega
  rw[hJ j jn] at aa;have aa:=atH aa;unfold tl at aa;split at aa
  .assumption
  .omega
 refine⟨λp=>σ (tt p),⟨bc,λp aM h=>?_,λp q aM ah h=>?_,λaO i hi h=>?_⟩,λS r4 aa ad=>?_⟩
 .have aL:=iv.s p aM;have ab:=bc p aM;rw[ch p aM] at h ab ⊢;generalize tt p=j at *;rw[aD j aL] at ab;rw[t3,ox] at h;by_cases c:j∈jY P.k P.s P.t cG
  .rw[as8 c,tu] at h;cases h
  .rw[as7 c] at h;have jn:=Ki j aL h;have afh:=Fz j aL h;rw[as8 jn] at ab;have oV:(jK P.k P.s P.t cG)[j]? =some p:=by
    rw[atc (by rw[dl.len,hlen];exact jn)];rw[at7,atc (by rw[dl.len,hlen];exact jn),au7] at ab;rw[ab]
   obtain⟨d0,d1,d2⟩:=dl.at_ j p _ oV (hJ j jn) afh c;have ag:=h;rw[e j aL,aj] at ag;have Kk:(eB P ao T j)[2]=(T (σ j))[2]:=by rw[e j aL,gm,Fx]
   refine⟨w.lt _ ag,ag,⟨0,0,?_⟩,d1,λaM=>?_⟩
   .rw[t3,as7 c,Vector.set_set,e j aL,gm,Vector.set_set]
   .have:=d2 aM;rw[tl,as8 h,Kk] at this;omega
 .exact iv.inj aM ah (b.inj (iv.s p aM) (iv.s q ah) h)
 .have zt:τ i<2 ^ P.E:=b.t i (by omega);have Sy:σ (τ i)=i:=b.st i (by omega);have gI:dm (eB P ao T (τ i))=true:=by rw[e _ zt,aj,Sy];exact h
  have jn:=Ki _ zt gI;have zu:τ i∉jY P.k P.s P.t cG:=by
   have:jY P.k P.s P.t (hq P ao T)=[]:=by simpa [ki] using aO
   rw[nt] at this;rw[this];simp
  generalize aL:τ i=j at *;have aM:gb (kl P ao T j)<2 ^ P.E:=Sw j zt;generalize Sz:gb (kl P ao T j)=p at *;have SA:tt p=j:=Sx _ _ (iv.s p aM) zt (by have:=bc p aM;rw[ch p aM] at this;rw[this,Sz]);have q9:dm (iT P ao T p)=true:=by rw[ch p aM,SA,t3,ox,as7 zu];exact gI
  refine⟨p,?_,q9,by show σ (tt p)=i;rw[SA,Sy]⟩;have ab:=aD j zt;rw[Sz,as8 jn] at ab;have oV:(jK P.k P.s P.t cG)[j]? =some p:=by
   rw[atc (by rw[dl.len,hlen];exact jn)];rw[at7,atc (by rw[dl.len,hlen];exact jn),au7] at ab;rw[ab]
  exact(dl.at_ j p _ oV (hJ j jn) (Fz j zt gI) zu).2.1
 .have hm:fc cG<=P.t:=by
   have:((List.range (fc cG)).map λi=>(eB P ao T i)[1].toNat).length<=(S.map UInt64.toNat).length:=by
    have bK:=rC cG;refine Fv ?_ λx af=>?_
    .refine Ss λa c afg k5 h=>?_;have bV:=Kj a (by omega);have Kl:=Kj c k5;rw[e a (by omega)] at h bV;rw[e c (by omega)] at h Kl;rw[aj] at bV Kl;have aJ:(T (σ a))[1]=(T (σ c))[1]:=by
      simp only[gm,sb] at h;exact att.1 h
     have:=b.inj (by omega) (by omega) (ad _ _ bV Kl aJ);omega
    .obtain⟨i,hi,rfl⟩:=atE.1 af;have bN:=atq.1 hi;have aq:=Kj i bN;rw[e i (by omega)] at aq ⊢;rw[aj] at aq;simp only[gm,sb];exact List.mem_map_of_mem (aa _ aq)
   simp at this;omega
  unfold ki;rw[nt,dl.Kf hm];rfl
end Go.cQ
namespace Go.cQ
theorem SB:∀(f a b:Nat),a<2 ^ f->b<2 ^ f->∀j,ou f a b<=j->a/2 ^ j=b/2 ^ j
 | 0,a,b,bV,au,j,_=>by simp at bV au;rw[bV,au]
 | f+1,a,b,bV,au,j,aL=>by
  unfold ou at aL;split at aL
  .rename_i h;rw[h]
  .cases j with
   | zero=>omega
   | succ j =>
    rw[atP] at bV au;have:=SB f (a/2) (b/2) (by omega) (by omega) j (by omega);rw[atP,atK,<-atZ,<-atZ];exact this
theorem Km {k a b d:Nat}(bV:a<2 ^ k)(au:b<2 ^ k)(bK:d<=ji k a b)(ab:d<=k):kh k a d=kh k b d:=by
 unfold kh;by_cases h0:ou k a b<=k
 .rw[SB k a b bV au (k-d) (by unfold ji at bK;omega)]
 .have:d=0:=by unfold ji at bK;omega
  subst this;rw[auz,auo bV,auo au]
theorem Kn {k leaf d:Nat}(aO:leaf<2 ^ k)(bK:d<=k):2 ^ d-1<=kh k leaf d/\kh k leaf d<2 ^ (d+1)-1:=by
 have e:2 ^ k=2 ^ (k-d)*2 ^ d:=by rw[<-Nat.pow_add];congr 1;omega
 have aa:leaf/2 ^ (k-d)<2 ^ d:=by rw[auc (at5 (by decide)),atK,<-e];exact aO
 have ad:2 ^ (d+1)=2*2 ^ d:=by rw[atP];omega
 have aq:0<2 ^ d:=at5 (by decide);unfold kh;generalize leaf/2 ^ (k-d)=x at *;omega
theorem afi {k g_ hW d1 d2:Nat}(aa:g_<2 ^ k)(ad:hW<2 ^ k)(afj:d1<=k)(jk:d2<=k)(h:kh k g_ d1=kh k hW d2):d1=d2:=by
 have a:=Kn aa afj;have b:=Kn ad jk;rw[h] at a;rcases Nat.lt_trichotomy d1 d2 with c|c|c
 .have:=atg (n:=2) (by decide) (show d1+1<=d2 by omega);omega
 .exact c
 .have:=atg (n:=2) (by decide) (show d2+1<=d1 by omega);omega
theorem afk {k leaf d:Nat}(aO:leaf<2 ^ k)(bK:d<=k):kh k leaf d<2 ^ (k+1)-1:=by
 have a:=Kn aO bK;have:=atg (n:=2) (by decide) (show d+1<=k+1 by omega);omega
def k6 (P:c1)(r i:Nat):Prop:=(r=0/\i<P.s*(2 ^ (P.k+1)-1))∨(r=1/\i<P.t)
theorem uP {P:c1}{leaf p:Nat}(h:p<P.s*(P.k+1)):spot P leaf p=(0,kh P.k leaf (p/P.s)*P.s+p%P.s):=by unfold spot;rw[as8 h]
theorem uQ {P:c1}{leaf p:Nat}(h:¬p<P.s*(P.k+1)):spot P leaf p=(1,p-P.s*(P.k+1)):=by unfold spot;rw[as7 h]
theorem zv {P:c1}{p:Nat}(aR:0<P.s)(h:p<P.s*(P.k+1)):p/P.s<=P.k:=by
 have:p/P.s<P.k+1:=by rw[auc aR,atK];exact h
 omega
theorem lJ {P:c1}(o:P.dk){leaf p:Nat}(aO:leaf<2 ^ P.k)(aM:p<P.m):k6 P (spot P leaf p).1 (spot P leaf p).2:=by
 have aR:0<P.s:=by have:=o.s;omega
 by_cases h:p<P.s*(P.k+1)
 .rw[uP h];refine .inl ⟨rfl,?_⟩;have aa:=afk aO (zv aR h);have ad:=aum p aR;have aq:=Nat.mul_le_mul_left P.s (show kh P.k leaf (p/P.s)+1<=2 ^ (P.k+1)-1 by omega);rw[Nat.mul_add,auw,atK P.s (kh _ _ _)] at aq;show kh P.k leaf (p/P.s)*P.s+p%P.s<_;omega
 .rw[uQ h];exact .inr ⟨rfl,by unfold c1.m at aM;show p-_<_;omega⟩
theorem Cg {P:c1}(o:P.dk){leaf p q:Nat}(aO:leaf<2 ^ P.k)(h:spot P leaf p=spot P leaf q):p=q:=by
 have aR:0<P.s:=by have:=o.s;omega
 by_cases aa:p<P.s*(P.k+1)
 .by_cases ad:q<P.s*(P.k+1)
  .rw[uP aa,uP ad] at h;have h:=(at0 h).2;have ar:=yV (s:=P.s) (a:=kh P.k leaf (p/P.s)) (aum p aR);have aN:=yV (s:=P.s) (a:=kh P.k leaf (q/P.s)) (aum q aR);rw[h] at ar;have aC:kh P.k leaf (p/P.s)=kh P.k leaf (q/P.s):=ar.1.symm.trans aN.1;have a7:p%P.s=q%P.s:=ar.2.symm.trans aN.2;have b2:=afi aO aO (zv aR aa) (zv aR ad) aC;rw[<-auW p P.s,<-auW q P.s,a7,b2]
  .rw[uP aa,uQ ad] at h;have:=(at0 h).1;omega
 .by_cases ad:q<P.s*(P.k+1)
  .rw[uQ aa,uP ad] at h;have:=(at0 h).1;omega
  .rw[uQ aa,uQ ad] at h;have:=(at0 h).2;omega
theorem afl {P:c1}(o:P.dk){leaf i d:Nat}(bK:d<=P.k)(h:i/P.s=kh P.k leaf d):∃p,p<P.m/\spot P leaf p=(0,i):=by
 have aR:0<P.s:=by have:=o.s;omega
 have hm:=aum i aR;have aa:d*P.s+i%P.s<P.s*(P.k+1):=Sq bK hm;obtain⟨aC,a7⟩:=yV (s:=P.s) (a:=d) hm;refine⟨d*P.s+i%P.s,by unfold c1.m;omega,?_⟩;rw[uP aa,aC,a7,<-h,atK,auW]
theorem afm {P:c1}{leaf i:Nat}(h:i<P.t):∃p,p<P.m/\spot P leaf p=(1,i) :=
 ⟨P.s*(P.k+1)+i,by unfold c1.m;omega,by rw[uQ (by omega),Nat.add_sub_cancel_left]⟩
abbrev dw:=Nat->Nat->cM
def fs (M:dw)(q:Nat×Nat)(c:cM):dw:=λr i=>if r=q.1/\i=q.2 then c else M r i
def oo (P:c1)(leaf:Nat)(T:Nat->cM)(M:dw):Nat->dw
 | 0=>M
 | p+1=>fs (oo P leaf T M p) (spot P leaf p) ((T p).set 11 0)
def strip (id:UInt64)(c:cM):cM:=if dm c=true/\c[1]=id then gz else c
def gO (id:UInt64)(f:Nat->cM):Nat->ei×Bool
 | 0=>(kE,false)
 | p+1=>if dm (f p)=true/\(f p)[1]=id then (jh (f p),true) else gO id f p
def ee (P:c1)(leaf:Nat)(M:dw)(p:Nat):cM:=M (spot P leaf p).1 (spot P leaf p).2
def jx (P:c1)(leaf:Nat)(id:UInt64)(M:dw)(c:cM):Nat->cM:=λp=>if p<P.m then strip id (ee P leaf M p) else if p=P.m then c else gz
inductive fN where
 | look
 | put (d:ei)
 | part (at_:Nat) (x y:UInt64)
 | drop
def fN.now (op:fN)(old:ei)(there:Bool):Option ei :=
 match op with
 | .look=>if there then some old else none
 | .put d=>some d
 | .part a x y=>some ((old.setIfInBounds a x).setIfInBounds (a+1) y)
 | .drop=>none
def wZ (id:UInt64)(to:Nat):Option ei->cM
 | some d=>kk id (UInt64.ofNat to) d
 | none=>gz
def rZ (P:c1)(T:Nat->cM)(M:dw):dw:=λr i=>if r=2/\i<2 ^ P.E then T i else M r i
def j4 (P:c1)(id:UInt64)(ao:Nat)(M:dw):ei×Bool:=gO id (ee P ao M) P.m
def hl (P:c1)(op:fN)(id:UInt64)(ao to:Nat)(M:dw):Nat->cM:=jx P ao id M (wZ id to (op.now (j4 P id ao M).1 (j4 P id ao M).2))
def kY (P:c1)(op:fN)(id:UInt64)(ao to:Nat)(M:dw):dw:=oo P ao (iT P ao (hl P op id ao to M)) (rZ P (iT P ao (hl P op id ao to M)) M) P.m
def qV (P:c1)(op:fN)(id:UInt64)(ao to:Nat)(M:dw):Bool:=ki P ao (hl P op id ao to M)
theorem E2 {P:c1}{leaf:Nat}{T:Nat->cM}{M:dw}{r i:Nat}:∀n,(∀p,p<n->spot P leaf p≠(r,i))->oo P leaf T M n r i=M r i
 | 0,_=>rfl
 | n+1,h=>by
  unfold oo fs;rw[as7 (λe=>h n (by omega) (by rw[e.1,e.2])),E2 n λp aM=>h p (by omega)]
theorem SC {P:c1}(o:P.dk){leaf:Nat}(aO:leaf<2 ^ P.k){T:Nat->cM}{M:dw}{p:Nat}:∀n,p<n->oo P leaf T M n (spot P leaf p).1 (spot P leaf p).2=(T p).set 11 0
 | 0,h=>by omega
 | n+1,h=>by
  unfold oo fs;by_cases c:p=n
  .subst c;rw[as8 ⟨rfl,rfl⟩]
  .rw[as7 (λe=>c (Cg o aO (auS e.1 e.2))),SC o aO n (by omega)]
theorem zw {P:c1}(o:P.dk){op:fN}{id:UInt64}{ao to:Nat}(aO:ao<2 ^ P.k)(M:dw){p:Nat}(aM:p<P.m):kY P op id ao to M (spot P ao p).1 (spot P ao p).2=(iT P ao (hl P op id ao to M) p).set 11 0:=SC o aO _ aM
theorem SD {P:c1}{op:fN}{id:UInt64}{ao to:Nat}(M:dw){r i:Nat}(aK:r≠2)(h:∀p,p<P.m->spot P ao p≠(r,i)):kY P op id ao to M r i=M r i:=by
 unfold kY;rw[E2 _ h,rZ,as7 (λe=>aK e.1)]
def qb (P:c1)(M:dw):Prop:=∀r i,k6 P r i->dm (M r i)=true->(M r i)[1].toNat<=2147483648/\(M r i)[2].toNat<2 ^ P.k
theorem afn (id leaf:UInt64)(d:ei):dm (kk id leaf d)=true:=by simp[dm,kk]
theorem Ch (id leaf:UInt64)(d:ei):(kk id leaf d)[1]=id:=by simp[kk]
theorem Ko (id leaf:UInt64)(d:ei):(kk id leaf d)[2]=leaf:=by simp[kk]
theorem SE (id leaf:UInt64)(d:ei):jh (kk id leaf d)=d:=by
 apply aub;intro i hi;have h:i=0∨i=1∨i=2∨i=3∨i=4∨i=5∨i=6∨i=7:=by omega
 rcases h with rfl|rfl|rfl|rfl|rfl|rfl|rfl|rfl<;>simp[jh,kk]
theorem afo {id:UInt64}{c:cM}(h:dm (strip id c)=true):strip id c=c/\dm c=true/\c[1]≠id:=by
 unfold strip at h ⊢;split at h
 .rw[tu] at h;cases h
 .rename_i aH;rw[as7 aH];exact⟨rfl,h,λe=>aH ⟨h,e⟩⟩
theorem tv {P:c1}{leaf:Nat}{id:UInt64}{M:dw}{c:cM}{p:Nat}(h:dm (jx P leaf id M c p)=true) :
 (p<P.m/\jx P leaf id M c p=ee P leaf M p/\dm (ee P leaf M p)=true/\(ee P leaf M p)[1]≠id)∨(p=P.m/\jx P leaf id M c p=c/\dm c=true):=by
 unfold jx at h ⊢;by_cases aa:p<P.m
 .rw[as8 aa] at h ⊢;obtain⟨a,b,b8⟩:=afo h;exact .inl ⟨aa,a,b,b8⟩
 .rw[as7 aa] at h ⊢;by_cases ad:p=P.m
  .rw[as8 ad] at h ⊢;exact .inr ⟨ad,rfl,h⟩
  .rw[as7 ad,tu] at h;cases h
theorem zx {id:UInt64}{to:Nat}{x:Option ei}(h:dm (wZ id to x)=true):∃d,x=some d/\wZ id to x=kk id (UInt64.ofNat to) d:=by
 cases x with
 | none=>unfold wZ at h;rw[tu] at h;cases h
 | some d=>exact⟨d,rfl,rfl⟩
theorem Kp {k to:Nat}(ab:k<=10)(h:to<2 ^ k):(UInt64.ofNat to).toNat=to:=by
 have:=atg (n:=2) (by decide) ab;rw[ate];omega
theorem y4 {P:c1}(o:P.dk){op:fN}{id:UInt64}{ao to:Nat}{M:dw}(w:qb P M)(bf:ao<2 ^ P.k)(bz:to<2 ^ P.k)(gJ:id.toNat<=2147483648):u2 P (hl P op id ao to M):=by
 have key:∀i,dm (hl P op id ao to M i)=true->i<P.n/\(hl P op id ao to M i)[1].toNat<=2147483648/\(hl P op id ao to M i)[2].toNat<2 ^ P.k:=by
  intro i h;have aH:P.n=P.m+1:=rfl;rcases tv h with ⟨aa,ad,aq,_⟩|⟨aa,ad,aq⟩
  .have:=w _ _ (lJ o bf aa) aq;unfold hl;rw[ad];exact⟨by omega,this⟩
  .obtain⟨d,_,e⟩:=zx aq;unfold hl;rw[ad,e,Ch,Ko];exact⟨by omega,gJ,by rw[Kp o.k bz];exact bz⟩
 exact⟨λi h=>(key i h).1,λi h=>(key i h).2.1,λi h=>(key i h).2.2⟩
theorem FA {c b8:cM}(h:∃x y,c.set 11 x=b8.set 11 y):dm c=dm b8/\c[1]=b8[1]/\c[2]=b8[2]/\jh c=jh b8:=by
 obtain⟨x,y,e⟩:=h;have g:∀i (hi:i<11),c[i]=b8[i]:=λi hi=>by
  have:=congrArg (λv:cM=>v[i]'(by omega)) e;simpa [atL,show(11:Nat)≠i by omega] using this
 refine⟨by unfold dm;rw[g 0 (by omega)],g 1 (by omega),g 2 (by omega),?_⟩;unfold jh;rw[g 3 (by omega),g 4 (by omega),g 5 (by omega),g 6 (by omega),g 7 (by omega),g 8 (by omega),g 9 (by omega),g 10 (by omega)]
theorem Kq (c:cM)(x:UInt64):jh (c.set 11 x)=jh c:=by simp[jh]
theorem tw {P:c1}(o:P.dk){p:Nat}(h:p<P.m):p<2 ^ P.E:=by have:=o.n;unfold c1.n at this;unfold c1.m at h;omega
theorem zy {P:c1}(o:P.dk){op:fN}{id:UInt64}{ao to:Nat}(bf:ao<2 ^ P.k)(M:dw){r i:Nat}(bH:k6 P r i) :
 (∃p,p<P.m/\spot P ao p=(r,i)/\kY P op id ao to M r i=(iT P ao (hl P op id ao to M) p).set 11 0)∨((∀p,p<P.m->spot P ao p≠(r,i))/\kY P op id ao to M r i=M r i):=by
 by_cases h:∃p,p<P.m/\spot P ao p=(r,i)
 .obtain⟨p,aM,e⟩:=h;have:=zw o (op:=op) (id:=id) (to:=to) bf M aM;rw[e] at this;exact .inl ⟨p,aM,e,this⟩
 .have ag:∀p,p<P.m->spot P ao p≠(r,i):=λp aM e=>h ⟨p,aM,e⟩;refine .inr ⟨ag,SD M ?_ ag⟩;rcases bH with ⟨h,_⟩|⟨h,_⟩<;>omega
theorem SF {P:c1}(o:P.dk){op:fN}{id:UInt64}{ao to:Nat}{M:dw}(w:qb P M)(bf:ao<2 ^ P.k)(bz:to<2 ^ P.k)(gJ:id.toNat<=2147483648):qb P (kY P op id ao to M):=by
 intro r i bH au;have dp:=y4 o (op:=op) w bf bz gJ;obtain⟨g,q_,_⟩:=Fy o ao _ dp;rcases zy o (op:=op) (id:=id) (to:=to) bf M bH with ⟨p,aM,_,e⟩|⟨_,e⟩
 .rw[e] at au ⊢;rw[ox] at au;rw[sb,Fx];obtain⟨aa,ad,aq,_⟩:=q_.b_ p (tw o aM) au;obtain⟨_,f1,f2,_⟩:=FA aq;rw[f1,f2];exact⟨dp.id _ ad,dp.leaf _ ad⟩
 .rw[e] at au ⊢;exact w r i bH au
structure mh (P:c1)(M:dw)(B:UInt64->Option (Nat×ei)):Prop where
 sound:∀r i,k6 P r i->dm (M r i)=true->∃leaf,B (M r i)[1]=some (leaf,jh (M r i))/\(M r i)[2].toNat=leaf/\leaf<2 ^ P.k/\(M r i)[1].toNat<=2147483648/\(r=0->∃d,d<=P.k/\i/P.s=kh P.k leaf d)
 comp:∀id x,B id=some x->∃r i,k6 P r i/\dm (M r i)=true/\(M r i)[1]=id
 uniq:∀r i ej di,k6 P r i->k6 P ej di->dm (M r i)=true->dm (M ej di)=true->(M r i)[1]=(M ej di)[1]->r=ej/\i=di
theorem mh.lK {P:c1}{M:dw}{B:UInt64->Option (Nat×ei)}(l:mh P M B):qb P M:=λr i bH au=>by
 obtain⟨leaf,_,ad,aq,aJ,_⟩:=l.sound r i bH au;exact⟨aJ,by omega⟩
theorem mh.spot {P:c1}(o:P.dk){M:dw}{B:UInt64->Option (Nat×ei)}(l:mh P M B){id:UInt64}{ao:Nat}(hw:∀leaf d,B id=some (leaf,d)->leaf=ao){r i:Nat}(bH:k6 P r i)(au:dm (M r i)=true)(hi:(M r i)[1]=id):∃p,p<P.m/\Go.cQ.spot P ao p=(r,i):=by
 obtain⟨leaf,aa,_,_,_,aW⟩:=l.sound r i bH au;rw[hi] at aa;have:=hw _ _ aa;subst this;rcases bH with ⟨h,b1⟩|⟨h,b1⟩
 .subst h;obtain⟨d,bK,e⟩:=aW rfl;exact afl o bK e
 .subst h;exact afm b1
theorem SG {id:UInt64}{f:Nat->cM}:∀n,(∀p,p<n->¬(dm (f p)=true/\(f p)[1]=id))->gO id f n=(kE,false)
 | 0,_=>rfl
 | n+1,h=>by unfold gO;rw[as7 (h n (by omega)),SG n λp aM=>h p (by omega)]
theorem SH {id:UInt64}{f:Nat->cM}{q:Nat}(ah:dm (f q)=true/\(f q)[1]=id):∀n,q<n->(∀p,p<n->dm (f p)=true/\(f p)[1]=id->p=q)->gO id f n=(jh (f q),true)
 | 0,h,_=>by omega
 | n+1,h,u=>by
  unfold gO;by_cases c:q=n
  .subst c;rw[as8 ah]
  .rw[as7 (λe=>c (u n (by omega) e).symm),SH ah n (by omega) λp aM=>u p (by omega)]
theorem afp {P:c1}(o:P.dk){M:dw}{B:UInt64->Option (Nat×ei)}(l:mh P M B){id:UInt64}{ao:Nat}(bf:ao<2 ^ P.k)(hw:∀leaf d,B id=some (leaf,d)->leaf=ao) :
 j4 P id ao M=match B id with|some (_,d)=>(d,true)|none=>(kE,false):=by
 unfold j4;cases h:B id with
 | none =>
  refine SG _ λp aM e=>?_;obtain⟨leaf,aa,_⟩:=l.sound _ _ (lJ o bf aM) e.1;have a7:(M (Go.cQ.spot P ao p).1 (Go.cQ.spot P ao p).2)[1]=id:=e.2;rw[a7,h] at aa;cases aa
 | some x =>
  obtain⟨leaf,d⟩:=x;obtain⟨r,i,bH,au,hi⟩:=l.comp id _ h;obtain⟨q,ah,e⟩:=l.spot o hw bH au hi;have eq:ee P ao M q=M r i:=by unfold ee;rw[e]
  refine(SH (q:=q) (by rw[eq];exact⟨au,hi⟩) _ ah λp aM ch=>?_).trans ?_
  .have:=l.uniq _ _ _ _ (lJ o bf aM) (lJ o bf ah) ch.1 (by rw[e];exact au) (by rw[e];show(ee P ao M p)[1]=_;rw[ch.2,hi]);exact Cg o bf (auS this.1 this.2)
  .rw[eq];obtain⟨ar7,aa,_⟩:=l.sound r i bH au;rw[hi,h] at aa;obtain⟨rfl,rfl⟩:=at0 (atH aa);rfl
theorem afq {P:c1}(o:P.dk){op:fN}{M:dw}{B:UInt64->Option (Nat×ei)}(l:mh P M B){id:UInt64}{ao to:Nat}(bf:ao<2 ^ P.k)(bz:to<2 ^ P.k)(gJ:id.toNat<=2147483648)
 (hw:∀leaf d,B id=some (leaf,d)->leaf=ao) (aO:qV P op id ao to M=false) :
 mh P (kY P op id ao to M) (λx=>if x=id then (op.now (j4 P id ao M).1 (j4 P id ao M).2).map (λd=>(to,d)) else B x):=by
 have dp:=y4 o (op:=op) l.lK bf bz gJ;obtain⟨g,q_,_⟩:=Fy o ao _ dp;have h7:=wS o;generalize afr:op.now (j4 P id ao M).1 (j4 P id ao M).2=now at *;have iR:hl P op id ao to M=jx P ao id M (wZ id to now):=by unfold hl;rw[afr]
 have b_:∀p,p<P.m->dm (iT P ao (hl P op id ao to M) p)=true ->
  ((g p<P.m/\dm (ee P ao M (g p))=true/\(ee P ao M (g p))[1]≠id/\(iT P ao (hl P op id ao to M) p)[1]=(ee P ao M (g p))[1])∨(g p=P.m/\(iT P ao (hl P op id ao to M) p)[1]=id)) /\
  ∃leaf,(if (iT P ao (hl P op id ao to M) p)[1]=id then now.map (λd=>(to,d)) else B (iT P ao (hl P op id ao to M) p)[1])=some (leaf,jh (iT P ao (hl P op id ao to M) p)) /\
   (iT P ao (hl P op id ao to M) p)[2].toNat=leaf/\leaf<2 ^ P.k/\(iT P ao (hl P op id ao to M) p)[1].toNat<=2147483648/\(p<P.tree->kh P.k ao (p/P.s)=kh P.k leaf (p/P.s)):=by
  intro p aM au;have aR:0<P.s:=by have:=o.s;omega
  obtain⟨aa,ad,aq,aJ,aW⟩:=q_.b_ p (tw o aM) au;obtain⟨_,f1,f2,f3⟩:=FA aq;have qZ:=ad;rw[iR] at qZ;rw[f1,f2,f3];rcases tv qZ with ⟨ar,aN,a3,a4⟩|⟨ar,aN,a3⟩
  .rw[<-iR] at aN;rw[aN];obtain⟨leaf,aj,aB,aS,b7,_⟩:=l.sound _ _ (lJ o bf ar) a3;refine⟨.inl ⟨ar,a3,a4,rfl⟩,leaf,?_,aB,aS,b7,λbz=>?_⟩
   .rw[as7 a4];exact aj
   .have:=aW bz;rw[aN] at this;have Kk:(ee P ao M (g p))[2].toNat=leaf:=aB;rw[Kk] at this;exact Km bf aS this (zv aR bz)
  .rw[<-iR] at aN;rw[aN];obtain⟨d,aC,a7⟩:=zx a3;rw[a7,Ch,Ko,SE,Kp o.k bz];refine⟨.inr ⟨ar,rfl⟩,to,?_,rfl,bz,gJ,λzz=>?_⟩
   .rw[as8 rfl,aC];rfl
   .have:=aW zz;rw[aN,a7,Ko,Kp o.k bz] at this;exact Km bf bz this (zv aR zz)
 have off:∀r i,k6 P r i->(∀p,p<P.m->spot P ao p≠(r,i))->dm (M r i)=true->(M r i)[1]≠id:=λr i bH aH au hi=>by
  obtain⟨p,aM,e⟩:=l.spot o hw bH au hi;exact aH p aM e
 refine⟨λr i bH au=>?_,λxc x af=>?_,λr i ej di bH gk au hn he=>?_⟩
 .rcases zy o (op:=op) (id:=id) (to:=to) bf M bH with ⟨p,aM,eg,e⟩|⟨aH,e⟩
  .rw[e] at au ⊢;rw[ox] at au;obtain⟨_,leaf,aj,aB,aS,b7,b4⟩:=b_ p aM au;rw[sb,Fx,Kq];refine⟨leaf,aj,aB,aS,b7,λaK=>?_⟩;have aR:0<P.s:=by have:=o.s;omega
   have zz:p<P.s*(P.k+1):=by
    rcases atF p (P.s*(P.k+1)) with h|h
    .exact h
    .rw[uQ (by omega),aK] at eg;have:=(at0 eg).1;omega
   refine⟨p/P.s,zv aR zz,?_⟩;rw[uP zz] at eg;have:=(at0 eg).2;rw[<-this,(yV (aum p aR)).1];exact b4 zz
  .rw[e] at au ⊢;obtain⟨leaf,aj,aB⟩:=l.sound r i bH au;exact⟨leaf,by rw[as7 (off r i bH aH au)];exact aj,aB⟩
 .by_cases hi:xc=id
  .subst hi;rw[as8 rfl] at af;obtain⟨d,bK,_⟩:=Option.map_eq_some_iff.1 af;have j0:dm (hl P op xc ao to M P.m)=true:=by
    rw[iR,jx,cS,as8 rfl,bK];exact afn _ _ _
   obtain⟨p,aM,au,cR⟩:=q_.all aO P.m (by show P.s*(P.k+1)+P.t<_;unfold c1.n;omega) j0;refine⟨_,_,lJ o bf aM,?_⟩;rw[zw o bf M aM,ox,sb];refine⟨au,?_⟩;rcases (b_ p aM au).1 with ⟨h,_⟩|⟨_,h⟩
   .omega
   .exact h
  .rw[as7 hi] at af;obtain⟨r,i,bH,au,e⟩:=l.comp xc x af;rcases zy o (op:=op) (id:=id) (to:=to) bf M bH with ⟨p,aM,eg,aC⟩|⟨aH,aC⟩
   .have es:ee P ao M p=M r i:=by unfold ee;rw[eg]
    have j0:hl P op id ao to M p=M r i:=by
     rw[iR,jx,as8 aM,strip,es,as7 (λh=>hi (by rw[<-e,h.2]))]
    obtain⟨q,ah,au,cR⟩:=q_.all aO p (by show p<P.m+1;omega) (by rw[j0];exact au);refine⟨_,_,lJ o bf ah,?_⟩;rw[zw o bf M ah,ox,sb];refine⟨au,?_⟩;rcases (b_ q ah au).1 with ⟨_,_,_,h⟩|⟨h,_⟩
    .rw[h,cR,es,e]
    .omega
   .exact⟨r,i,bH,by rw[aC];exact⟨au,e⟩⟩
 .rcases zy o (op:=op) (id:=id) (to:=to) bf M bH with ⟨p,aM,eg,aC⟩|⟨aH,aC⟩
  .rw[aC] at au he;rw[ox] at au;rw[sb] at he;rcases zy o (op:=op) (id:=id) (to:=to) bf M gk with ⟨q,ah,f0,f1⟩|⟨ph,f1⟩
   .rw[f1] at hn he;rw[ox] at hn;rw[sb] at he;have Kr:p=q:=by
     refine q_.inj p q (tw o aM) (tw o ah) ?_;rcases (b_ p aM au).1 with ⟨ar,aN,a3,a4⟩|⟨ar,aN⟩
     .rcases (b_ q ah hn).1 with ⟨aj,aB,aS,b7⟩|⟨aj,aB⟩
      .have:=l.uniq _ _ _ _ (lJ o bf ar) (lJ o bf aj) aN aB (by show(ee P ao M (g p))[1]=(ee P ao M (g q))[1];rw[<-a4,<-b7,he]);exact Cg o bf (auS this.1 this.2)
      .rw[a4,aB] at he;exact absurd he a3
     .rcases (b_ q ah hn).1 with ⟨aj,aB,aS,b7⟩|⟨aj,aB⟩
      .rw[aN,b7] at he;exact absurd he.symm aS
      .rw[ar,aj]
    subst Kr;rw[eg] at f0;exact⟨(at0 f0).1,(at0 f0).2⟩
   .rw[f1] at hn he;rcases (b_ p aM au).1 with ⟨ar,aN,a3,a4⟩|⟨ar,aN⟩
    .have:=l.uniq _ _ _ _ (lJ o bf ar) gk aN hn (by show(ee P ao M (g p))[1]=_;rw[<-a4,he]);exact absurd (auS this.1 this.2) (ph _ ar)
    .rw[aN] at he;exact absurd he.symm (off ej di gk ph hn)
  .rw[aC] at au he;rcases zy o (op:=op) (id:=id) (to:=to) bf M gk with ⟨q,ah,f0,f1⟩|⟨ph,f1⟩
   .rw[f1] at hn he;rw[ox] at hn;rw[sb] at he;rcases (b_ q ah hn).1 with ⟨ar,aN,a3,a4⟩|⟨ar,aN⟩
    .have:=l.uniq _ _ _ _ (lJ o bf ar) bH aN au (by show(ee P ao M (g q))[1]=_;rw[<-a4,he]);exact absurd (auS this.1 this.2) (aH _ ar)
    .rw[aN] at he;exact absurd he (off r i bH aH au)
   .rw[f1] at hn he;exact l.uniq _ _ _ _ bH gk au hn he
theorem afs {P:c1}(o:P.dk){op:fN}{M:dw}{B:UInt64->Option (Nat×ei)}(l:mh P M B){id:UInt64}{ao to:Nat}(bf:ao<2 ^ P.k)(bz:to<2 ^ P.k)(gJ:id.toNat<=2147483648)
 (S:List UInt64) (r4:S.length<=P.t) (c7:∀x,B x≠none->x∈S) (aH:op.now (j4 P id ao M).1 (j4 P id ao M).2≠none->id∈S):qV P op id ao to M=false:=by
 have dp:=y4 o (op:=op) l.lK bf bz gJ;obtain⟨g,_,Kf⟩:=Fy o ao _ dp;refine Kf S r4 (λi h=>?_) (λi j h ag he=>?_)
 .rcases tv h with ⟨ar,aN,a3,a4⟩|⟨ar,aN,a3⟩
  .unfold hl;rw[aN];obtain⟨leaf,aj,_⟩:=l.sound _ _ (lJ o bf ar) a3;exact c7 _ (by show B (M _ _)[1]≠none;rw[aj];simp)
  .obtain⟨d,aC,a7⟩:=zx a3;unfold hl;rw[aN,a7,Ch];exact aH (by rw[aC];simp)
 .unfold hl at he;rcases tv h with ⟨ar,aN,a3,a4⟩|⟨ar,aN,a3⟩
  .rcases tv ag with ⟨aj,aB,aS,b7⟩|⟨aj,aB,aS⟩
   .rw[aN,aB] at he;have:=l.uniq _ _ _ _ (lJ o bf ar) (lJ o bf aj) a3 aS he;exact Cg o bf (auS this.1 this.2)
   .obtain⟨d,_,a7⟩:=zx aS;rw[aN,aB,a7,Ch] at he;exact absurd he a4
  .rcases tv ag with ⟨aj,aB,aS,b7⟩|⟨aj,aB,aS⟩
   .obtain⟨d,_,a7⟩:=zx a3;rw[aN,aB,a7,Ch] at he;exact absurd he.symm b7
   .omega
theorem mh.zero {P:c1}{M:dw}(h:∀r i,k6 P r i->M r i=gz):mh P M (λ_=>none) :=
 ⟨λr i bH au=>(by rw[h r i bH,tu] at au;cases au),λid x af=>(by cases af),λr i ej di bH _ au=>(by rw[h r i bH,tu] at au;cases au)⟩
end Go.cQ
namespace Go.cQ
theorem SI:∀ {l eF:List Nat},l.Perm eF->l.Pairwise (·<=·)->eF.Pairwise (·<=·)->l=eF
 | [],eF,p,_,_=>(List.Perm.eq_nil p.symm).symm
 | a::l,[],p,_,_=>by have:=p.length_eq;simp at this
 | a::l,b::eF,p,s,cx=>by
  obtain⟨aft,iA⟩:=List.pairwise_cons.1 s;obtain⟨cm,afu⟩:=List.pairwise_cons.1 cx;have Sp:a=b:=by
   have aa:a∈b::eF:=p.mem_iff.1 (atm ..);have ad:b∈a::l:=p.mem_iff.2 (atm ..);rcases at3.1 aa with aa|aa
   .exact aa
   .rcases at3.1 ad with ad|ad
    .exact ad.symm
    .have:=aft b ad;have:=cm a aa;omega
  subst Sp;rw[SI (List.Perm.cons_inv p) iA afu]
theorem SJ {n:Nat}{f:Nat->Nat}(h:∀i j,i<=j->j<n->f i<=f j):((List.range n).map f).Pairwise (·<=·):=by
 rw[auR];intro i j hi aL mC;simp only[au2,auX];exact h i j (by omega) (by simpa using aL)
theorem afv {n:Nat}{f g:Nat->Nat}(p:((List.range n).map f).Perm ((List.range n).map g))(bf:∀i j,i<=j->j<n->f i<=f j)(cR:∀i j,i<=j->j<n->g i<=g j){i:Nat}(hi:i<n):f i=g i:=by
 have e:=SI p (SJ bf) (SJ cR);have:=congrArg (λl=>l[i]?) e;simpa [hi] using this
def mV (k key:Nat):UInt64×Int:=if key<4611686018427387904 then (UInt64.ofNat (key%4294967296),(k:Int)-(key/4294967296:Nat)) else (0,-1)
def hX (P:c1)(ao:Nat)(c:cM):UInt64×Int:=if dm c=true then (c[1],((ji P.k ao c[2].toNat:Nat):Int)) else (0,-1)
theorem y7 (k a b:Nat):ji k a b<=k:=by unfold ji;omega
theorem RE {P:c1}(o:P.dk){ao:Nat}{T:Nat->cM}(w:u2 P T){i:Nat}(hi:i<2 ^ P.E):hX P ao (T i)=mV P.k (gb (gm P ao T i)):=by
 have h7:=wS o;unfold hX;by_cases h:dm (T i)=true
 .rw[as8 h];have gJ:=w.id i h;have e:gb (gm P ao T i)=(P.k-ji P.k ao (T i)[2].toNat)*4294967296+(T i)[1].toNat:=by
   unfold gb gm;rw[u1];exact Su o (w.lt i h) h gJ
  have bK:=y7 P.k ao (T i)[2].toNat;have ab:=o.k;generalize ji P.k ao (T i)[2].toNat=d at *;unfold mV;rw[e,d_];have aC:((P.k-d)*4294967296+(T i)[1].toNat)%4294967296=(T i)[1].toNat:=by omega
  have a7:((P.k-d)*4294967296+(T i)[1].toNat)/4294967296=P.k-d:=by omega
  rw[aC,a7];refine auS ?_ ?_
  .show(T i)[1]=UInt64.ofNat (T i)[1].toNat;simp
  .show((d:Nat):Int)=(P.k:Int)-((P.k-d:Nat):Int);omega
 .rw[as7 h];have e:gb (gm P ao T i)=4611686018427387904+i:=by
   unfold gb gm;rw[u1];exact Sv (by omega) (λx=>h x.2)
  unfold mV;rw[e,cS]
theorem afw (P:c1)(ao:Nat)(c:cM)(x:UInt64):hX P ao (c.set 11 x)=hX P ao c:=by
 unfold hX;rw[ox,sb,Fx]
theorem JT {P:c1}(o:P.dk){ao:Nat}{T:Nat->cM}(w:u2 P T){i:Nat}(hi:i<2 ^ P.E):hX P ao (eB P ao T i)=mV P.k (gb (eB P ao T i)):=by
 obtain⟨σ,τ,b,e⟩:=Kg gb P.E (gm P ao T);have e:eB P ao T i=gm P ao T (σ i):=e i hi;rw[e,<-RE o w (b.s i hi)];unfold gm;rw[afw]
theorem Fk (P:c1)(ao:Nat)(c:cM):(hX P ao c).2=tl P ao c:=by unfold hX tl;split<;>rfl
theorem aeo {P:c1}(o:P.dk){ao:Nat}{T:Nat->cM}(w:u2 P T){bq:Nat->Nat}(p:((List.range (2 ^ P.E)).map bq).Perm ((List.range (2 ^ P.E)).map λi=>gb (gm P ao T i)))(s:∀i j,i<=j->j<2 ^ P.E->bq i<=bq j){i:Nat}(hi:i<2 ^ P.E) :
 mV P.k (bq i)=hX P ao (eB P ao T i):=by
 rw[JT o w hi];congr 1;refine afv (f:=bq) (g:=λi=>gb (eB P ao T i)) (p.trans ?_) s (λi j aa ad=>Fq gb P.E _ aa ad) hi;have:=((Sd gb P.E (gm P ao T)).1.map gb).symm;rw[auf,auf] at this;exact this
theorem RF (P:c1)(ao:Nat)(T:Nat->cM){i j:Nat}(aa:i<=j)(ad:j<2 ^ P.E):gb (eB P ao T i)<=gb (eB P ao T j):=Fq gb P.E _ aa ad
end Go.cQ
namespace Go.cQ
structure c2 where
 m:Nat
 L:Nat
 s:Nat
 t:Nat
 E:Nat->Nat
 f:Nat
def c2.k (G:c2)(h:Nat):Nat:=G.m-2*h
def c2.dP (G:c2)(h:Nat):c1:=⟨G.m-2*h,G.s,G.t,G.E h⟩
def c2.top (G:c2):Nat:=2 ^ (G.m-2*(G.L-1))
def c2.base (G:c2)(h:Nat):Nat:=G.f+1+3*h
structure c2.dk (G:c2):Prop where
 m:G.m<=10
 L:1<=G.L/\G.L<=4
 fu:∀h,(G.dP h).dk
def c2.bG (G:c2)(u h:Nat):Nat:=u+2*(G.L-1-h)
def c2.leaf (G:c2)(w:Nat->UInt64)(h p:Nat):Nat:=(w p).toNat%2 ^ (G.m-2*h)
theorem c2.pj (G:c2)(w:Nat->UInt64)(h p:Nat):G.leaf w h p<2 ^ (G.dP h).k:=aum _ (at5 (by decide))
structure fj where
 R:dw
 used:Nat
 over:Nat->Bool
 ids:Nat->List UInt64
 gone:List (Nat×Nat)
def jg (b:Nat)(R:dw):dw:=λr i=>R (b+r) i
def lL (b:Nat)(R M:dw):dw:=λr i=>if b<=r/\r<b+3 then M (r-b) i else R r i
def meets (op:fN)(id:UInt64)(l:List UInt64):List UInt64 :=
 match op with
 | .put _=>if id∈l then l else l++[id]
 | .part _ _ _=>if id∈l then l else l++[id]
 | _=>l
def c2.bS (G:c2)(h:Nat)(R:dw):dw:=jg (G.base h) R
def c2.acc (G:c2)(h:Nat)(op:fN)(id:UInt64)(ao to:Nat)(S:fj):fj :=
 { S with
  R:=lL (G.base h) S.R (kY (G.dP h) op id ao to (G.bS h S.R))
  over:=λx=>if x=h then S.over h||qV (G.dP h) op id ao to (G.bS h S.R) else S.over x
  ids:=λx=>if x=h then meets op id (S.ids h) else S.ids x }
def c2.old (G:c2)(h:Nat)(id:UInt64)(ao:Nat)(S:fj):ei×Bool:=j4 (G.dP h) id ao (G.bS h S.R)
def fD (v p:UInt64)(sp:Nat×Nat):Nat×Nat:=if v=0 then sp else (v.toNat-1,p.toNat)
def cu (x h:Nat):UInt64:=UInt64.ofNat (x/4 ^ h)
def hJ (d:ei)(j:Nat):UInt64:=d[j]?.getD 0
def j2 (G:c2)(w:Nat->UInt64)(u:Nat)(op:fN)(x:Nat):(h:Nat)->UInt64->UInt64->fj->fj×ei×Bool
 | 0,v,p,S =>
  let ao:=fD v p (G.leaf w 0 (G.bG u 0+1),G.bG u 0+1);let hK:={ S with gone:=S.gone++[ao] }
  (G.acc 0 op (cu x 0) ao.1 (G.leaf w 0 (G.bG u 0)) hK,G.old 0 (cu x 0) ao.1 hK)
 | h+1,v,p,S =>
  let ao:=fD v p (G.leaf w (h+1) (G.bG u (h+1)+1),G.bG u (h+1)+1);let hK:={ S with gone:=S.gone++[ao] };let j:=2*(x/4 ^ h%4);let old:=(G.old (h+1) (cu x (h+1)) ao.1 hK).1
  j2 G w u op x h (hJ old j) (hJ old (j+1)) (G.acc (h+1) (.part j (UInt64.ofNat (G.leaf w h (G.bG u h)+1)) (UInt64.ofNat (G.bG u h))) (cu x (h+1)) ao.1 (G.leaf w (h+1) (G.bG u (h+1))) hK)
def sc (v p:UInt64):cM:=#v[v,p,0,0,0,0,0,0,0,0,0,0]
def gV (G:c2)(w:Nat->UInt64)(op:fN)(x:Nat)(S:fj):fj×ei×Bool :=
 let c:=S.R G.f (x/4 ^ (G.L-1))
 j2 G w S.used op x (G.L-1) c[0] c[1]
  { S with R:=fs S.R (G.f,x/4 ^ (G.L-1)) (sc (UInt64.ofNat (G.leaf w (G.L-1) (G.bG S.used (G.L-1))+1)) (UInt64.ofNat (G.bG S.used (G.L-1)))),used:=S.used+2*G.L }
theorem SK {id:UInt64}{f:Nat->cM}:∀n,gO id f n=(kE,false)∨∃p,p<n/\dm (f p)=true/\(f p)[1]=id/\gO id f n=(jh (f p),true)
 | 0=> .inl rfl
 | n+1=>by
  unfold gO;split
  .rename_i h;exact .inr ⟨n,by omega,h.1,h.2,rfl⟩
  .rcases SK (id:=id) (f:=f) n with h|⟨p,aa,ad⟩
   .exact .inl h
   .exact .inr ⟨p,by omega,ad⟩
theorem afx {P:c1}(o:P.dk){op:fN}{id:UInt64}{ao to:Nat}{M:dw}(w:qb P M)(bf:ao<2 ^ P.k)(bz:to<2 ^ P.k)(gJ:id.toNat<=2147483648) :
 ∃φ:Nat->Nat->Option (Nat×Nat),
  (∀r i,k6 P r i->dm (kY P op id ao to M r i)=true->φ r i=none->∃d,op.now (j4 P id ao M).1 (j4 P id ao M).2=some d/\jh (kY P op id ao to M r i)=d) /\
  (∀r i q,k6 P r i->dm (kY P op id ao to M r i)=true->φ r i=some q->k6 P q.1 q.2/\dm (M q.1 q.2)=true/\jh (kY P op id ao to M r i)=jh (M q.1 q.2)/\((∃p,p<P.m/\spot P ao p=q)->(M q.1 q.2)[1]≠id)) /\
  (∀r i ej di,k6 P r i->k6 P ej di->dm (kY P op id ao to M r i)=true->dm (kY P op id ao to M ej di)=true->φ r i=φ ej di->r=ej/\i=di):=by
 have dp:=y4 o (op:=op) w bf bz gJ;obtain⟨g,q_,_⟩:=Fy o ao _ dp;have dec:∀r i,∃y:Option Nat,(match y with|some p=>p<P.m/\spot P ao p=(r,i)|none=>∀p,p<P.m->spot P ao p≠(r,i)):=λr i=>by
  by_cases h:∃p,p<P.m/\spot P ao p=(r,i)
  .obtain⟨p,aM⟩:=h;exact⟨some p,aM⟩
  .exact⟨none,λp aM e=>h ⟨p,aM,e⟩⟩
 let sp:Nat->Nat->Option Nat:=λr i=>Classical.choose (dec r i);have k4:∀r i,(match sp r i with|some p=>p<P.m/\spot P ao p=(r,i)|none=>∀p,p<P.m->spot P ao p≠(r,i)):=λr i=>Classical.choose_spec (dec r i);have v2:∀ {r i},k6 P r i->r≠2:=λbH=>by rcases bH with ⟨h,_⟩|⟨h,_⟩<;>omega
 refine⟨λr i=>match sp r i with|some p=>if g p<P.m then some (spot P ao (g p)) else none|none=>some (r,i),λr i bH au h=>?_,λr i q bH au h=>?_,λr i ej di bH gk au hn h=>?_⟩
 .have aR:=k4 r i;cases e:sp r i with
  | none=>simp only[e] at h;cases h
  | some p =>
   simp only[e] at h aR;obtain⟨aM,eg⟩:=aR;have aC:=zw o (op:=op) (id:=id) (to:=to) bf M aM;rw[eg] at aC;rw[aC,ox] at au;rw[aC,Kq];obtain⟨aa,ad,aq,_⟩:=q_.b_ p (tw o aM) au;obtain⟨_,f1,f2,f3⟩:=FA aq;split at h
   .cases h
   .rcases tv ad with ⟨ar,_⟩|⟨ar,aN,a3⟩
    .omega
    .obtain⟨d,a7,b2⟩:=zx a3;refine⟨d,a7,?_⟩;rw[f3];unfold hl;rw[aN,b2,SE]
 .have aR:=k4 r i;cases e:sp r i with
  | none =>
   simp only[e] at h aR;cases h;have aC:=SD (op:=op) (id:=id) (to:=to) M (v2 bH) aR;rw[aC] at au ⊢;exact⟨bH,au,rfl,fun⟨p,aM,h⟩=>absurd h (aR p aM)⟩
  | some p =>
   simp only[e] at h aR;obtain⟨aM,eg⟩:=aR;have aC:=zw o (op:=op) (id:=id) (to:=to) bf M aM;rw[eg] at aC;rw[aC,ox] at au;rw[aC,Kq];obtain⟨aa,ad,aq,_⟩:=q_.b_ p (tw o aM) au;obtain⟨_,f1,f2,f3⟩:=FA aq;split at h
   .rename_i cR
    cases h;rcases tv ad with ⟨ar,aN,a3,a4⟩|⟨ar,_⟩
    .refine⟨lJ o bf cR,a3,?_,λ_=>a4⟩;rw[f3];unfold hl;rw[aN];rfl
    .omega
   .cases h
 .have aR:=k4 r i;have nK:=k4 ej di;have b_:∀p,p<P.m->∀r i,spot P ao p=(r,i)->dm (kY P op id ao to M r i)=true->g p<P.m∨g p=P.m:=λp aM r i eg au=>by
   have aC:=zw o (op:=op) (id:=id) (to:=to) bf M aM;rw[eg] at aC;rw[aC,ox] at au;obtain⟨_,ad,_⟩:=q_.b_ p (tw o aM) au;rcases tv ad with ⟨ar,_⟩|⟨ar,_⟩
   .exact .inl ar
   .exact .inr ar
  cases e:sp r i with
  | none =>
   simp only[e] at h aR;cases ch:sp ej di with
   | none=>simp only[ch] at h;cases h;exact⟨rfl,rfl⟩
   | some q =>
    simp only[ch] at h nK;split at h
    .rename_i cR
     exact absurd (atH h).symm (aR _ cR)
    .cases h
  | some p =>
   simp only[e] at h aR;cases ch:sp ej di with
   | none =>
    simp only[ch] at h nK;split at h
    .rename_i cR
     exact absurd (atH h) (nK _ cR)
    .cases h
   | some q =>
    simp only[ch] at h nK;have Kr:p=q:=by
     refine q_.inj p q (tw o aR.1) (tw o nK.1) ?_;split at h
     .split at h
      .exact Cg o bf (atH h)
      .cases h
     .split at h
      .cases h
      .rcases b_ p aR.1 r i aR.2 au with c|c<;>rcases b_ q nK.1 ej di nK.2 hn with b8|b8<;>omega
    subst Kr;have:=aR.2.symm.trans nK.2;exact⟨(at0 this).1,(at0 this).2⟩
end Go.cQ
namespace Go.cQ
variable {G:c2} {w:Nat->UInt64}
inductive Loc where
 | top (x:Nat)
 | b_ (h r i q:Nat)
 deriving DecidableEq
def mi (G:c2)(R:dw):Loc->Nat->UInt64->UInt64->Prop
 | .top x,bz,v,p=>x<G.top/\bz+1=G.L/\v=(R G.f x)[0]/\p=(R G.f x)[1]
 | .b_ h r i q,bz,v,p=>h<G.L/\bz+1=h/\k6 (G.dP h) r i/\dm (G.bS h R r i)=true/\q<4/\v=hJ (jh (G.bS h R r i)) (2*q)/\p=hJ (jh (G.bS h R r i)) (2*q+1)
structure zA (G:c2)(w:Nat->UInt64)(u0 mX bz:Nat)(v p:UInt64):Prop where
 lt:p.toNat<mX
 val:v.toNat=G.leaf w bz p.toNat+1
 kind:∃a,p.toNat=G.bG (u0+2*G.L*a) bz
 bz:bz<G.L
structure afy (G:c2)(w:Nat->UInt64)(u0 mX:Nat)(g:List (Nat×Nat)):Prop where
 nodup:(g.map (·.2)).Nodup
 lt:∀x∈g,x.2<mX
 val:∀i x,g[i]? =some x->x.1=G.leaf w (G.L-1-i%G.L) x.2
 kind:∀i x,g[i]? =some x->∃a e,a<=i/G.L/\e<=1/\x.2=G.bG (u0+2*G.L*a) (G.L-1-i%G.L)+e
structure kD (G:c2)(w:Nat->UInt64)(u0 mX:Nat)(S:fj):Prop where
 lK:∀h,h<G.L->qb (G.dP h) (G.bS h S.R)
 nH:∀l bz v p,mi G S.R l bz v p->v≠0->zA G w u0 mX bz v p/\p.toNat∉S.gone.map (·.2)
 uniq:∀l bz v p eF ly hp dF,mi G S.R l bz v p->mi G S.R eF ly hp dF->v≠0->hp≠0->p=dF->l=eF
 gone:afy G w u0 mX S.gone
structure sd (G:c2)(w:Nat->UInt64)(u0 mX h:Nat)(S:fj)(v p:UInt64):Prop where
 nH:v≠0->zA G w u0 mX h v p/\p.toNat∉S.gone.map (·.2)
 uniq:∀l bz hp dF,v≠0->mi G S.R l bz hp dF->hp≠0->dF≠p
theorem Ks {b:Nat}{R M:dw}{r i:Nat}(h:r<3):jg b (lL b R M) r i=M r i:=by
 unfold jg lL;rw[d_,Nat.add_sub_cancel_left]
theorem FB {b:Nat}{R M:dw}{r i:Nat}(h:r<b∨b+3<=r):lL b R M r i=R r i:=by
 unfold lL;rw[cS]
theorem Ci {h ag:Nat}{R M:dw}{r i:Nat}(cX:h≠ag)(aK:r<3):G.bS ag (lL (G.base h) R M) r i=G.bS ag R r i:=by
 unfold c2.bS jg;exact FB (by unfold c2.base;omega)
theorem xd {P:c1}{r i:Nat}(h:k6 P r i):r<3:=by rcases h with ⟨h,_⟩|⟨h,_⟩<;>omega
theorem qb.congr {P:c1}{M jj:dw}(w:qb P M)(h:∀r i,r<3->jj r i=M r i):qb P jj:=λr i bH au=>by
 rw[h r i (xd bH)] at au ⊢;exact w r i bH au
theorem mh.congr {P:c1}{M jj:dw}{B:UInt64->Option (Nat×ei)}(l:mh P M B)(h:∀r i,r<3->jj r i=M r i):mh P jj B:=by
 refine⟨λr i bH au=>?_,λid x af=>?_,λr i ej di bH gk au hn he=>?_⟩
 .rw[h r i (xd bH)] at au ⊢;exact l.sound r i bH au
 .obtain⟨r,i,bH,au⟩:=l.comp id x af;exact⟨r,i,bH,by rw[h r i (xd bH)];exact au⟩
 .rw[h r i (xd bH)] at au he;rw[h ej di (xd gk)] at hn he;exact l.uniq r i ej di bH gk au hn he
theorem nL (o:G.dk){x h:Nat}(af:x<2 ^ G.m):(cu x h).toNat=x/4 ^ h/\(cu x h).toNat<=2147483648:=by
 have aa:x/4 ^ h<=x:=auy _ _;have ad:2 ^ G.m<=2 ^ 10:=atg (by decide) o.m;unfold cu;rw[ate];generalize x/4 ^ h=y at *;omega
theorem u7 (o:G.dk)(h p:Nat):G.leaf w h p<1024:=by
 have aa:=G.pj w h p;have ad:2 ^ (G.dP h).k<=2 ^ 10:=atg (by decide) (o.fu h).k;omega
theorem Kt (o:G.dk)(h p:Nat):(UInt64.ofNat (G.leaf w h p+1)).toNat=G.leaf w h p+1:=by
 have:=u7 (w:=w) o h p;rw[ate];omega
theorem SL {p:Nat}(h:p<2 ^ 63):(UInt64.ofNat p).toNat=p:=by rw[ate];omega
theorem zB (o:G.dk){u0 u h:Nat}{a:Nat}(hu:u=u0+2*G.L*a)(bT:h<G.L){S:fj}(dY:kD G w u0 (G.bG u h+1) S){v p:UInt64}(c:sd G w u0 (G.bG u h+1) h S v p)
 (hlen:S.gone.length=G.L*a+(G.L-1-h)) :
 (fD v p (G.leaf w h (G.bG u h+1),G.bG u h+1)).1<2 ^ (G.dP h).k/\kD G w u0 (G.bG u h+2) { S with gone:=S.gone++[fD v p (G.leaf w h (G.bG u h+1),G.bG u h+1)] }:=by
 have fp:=o.L;have SM:(G.L*a+(G.L-1-h))%G.L=G.L-1-h:=by
  rw[Nat.mul_add_mod];exact aun (by omega)
 have hdiv:(G.L*a+(G.L-1-h))/G.L=a:=by
  rw[Nat.mul_add_div (by omega),auo (by omega)];omega
 have FC:G.L-1-(G.L-1-h)=h:=by omega
 have key:(fD v p (G.leaf w h (G.bG u h+1),G.bG u h+1)).2<G.bG u h+2/\(fD v p (G.leaf w h (G.bG u h+1),G.bG u h+1)).1=G.leaf w h (fD v p (G.leaf w h (G.bG u h+1),G.bG u h+1)).2 /\
  (∃b e,b<=a/\e<=1/\(fD v p (G.leaf w h (G.bG u h+1),G.bG u h+1)).2=G.bG (u0+2*G.L*b) h+e)/\(fD v p (G.leaf w h (G.bG u h+1),G.bG u h+1)).2∉S.gone.map (·.2) /\
  (∀l bz hp dF,mi G S.R l bz hp dF->hp≠0->dF.toNat≠(fD v p (G.leaf w h (G.bG u h+1),G.bG u h+1)).2):=by
  by_cases bH:v=0
  .unfold fD;rw[as8 bH];refine⟨by show G.bG u h+1<_;omega,rfl,⟨a,1,by omega,by omega,by rw[hu]⟩,λhm=>?_,λl bz hp dF he gk aa=>?_⟩
   .obtain⟨x,af,e⟩:=atE.1 hm;have:=dY.gone.lt x af;have e:x.2=G.bG u h+1:=e;omega
   .have:=(dY.nH l bz hp dF he gk).1.lt;have aa:dF.toNat=G.bG u h+1:=aa;omega
  .obtain⟨g,cR⟩:=c.nH bH;unfold fD;rw[as7 bH];refine⟨by have:=g.lt;show p.toNat<_;omega,by have:=g.val;show v.toNat-1=G.leaf w h p.toNat;omega,?_,cR,λl bz hp dF he gk aa=>?_⟩
   .obtain⟨b,au⟩:=g.kind;refine⟨b,0,?_,by omega,by rw[atQ];exact au⟩;have:=g.lt;rw[au,hu] at this;unfold c2.bG at this;have ad:2*G.L*b<2*G.L*(a+1):=by rw[Nat.mul_add];omega
    have:=Nat.lt_of_mul_lt_mul_left ad;omega
   .exact c.uniq l bz hp dF bH he gk (att.1 aa)
 obtain⟨aE,az,aD,bc,bU⟩:=key;refine⟨by rw[az];exact G.pj w h _,dY.lK,λl bz hp dF he gk=>?_,dY.uniq,?_⟩
 .obtain⟨g,cR⟩:=dY.nH l bz hp dF he gk;refine⟨⟨by have:=g.lt;omega,g.val,g.kind,g.bz⟩,λhm=>?_⟩;rw[atD] at hm;rcases atw.1 hm with aa|aa
  .exact cR aa
  .simp only[at1,List.map_nil,aus] at aa;exact bU l bz hp dF he gk aa
 .refine⟨?_,λx af=>?_,λi x hi=>?_,λi x hi=>?_⟩
  .rw[atD,auP];refine⟨dY.gone.nodup,by simp,λx af y aA=>?_⟩;simp only[at1,List.map_nil,aus] at aA;subst aA;exact λe=>bc (e▸af)
  .rcases atw.1 af with aa|aa
   .have:=dY.gone.lt x aa;omega
   .simp only[aus] at aa;rw[aa];exact aE
  .rcases atF i S.gone.length with aa|aa
   .rw[atB aa] at hi;exact dY.gone.val i x hi
   .rw[auN aa] at hi;have mB:i-S.gone.length=0:=by
     rcases auV (i-S.gone.length) with ad|ad
     .exact ad
     .rw[auM (by simp;omega)] at hi;cases hi
    rw[mB] at hi;simp only[atp,atX] at hi;have:i=G.L*a+(G.L-1-h):=by omega
    rw[this,SM,FC,<-hi];exact az
  .rcases atF i S.gone.length with aa|aa
   .rw[atB aa] at hi;exact dY.gone.kind i x hi
   .rw[auN aa] at hi;have mB:i-S.gone.length=0:=by
     rcases auV (i-S.gone.length) with ad|ad
     .exact ad
     .rw[auM (by simp;omega)] at hi;cases hi
    rw[mB] at hi;simp only[atp,atX] at hi;have:i=G.L*a+(G.L-1-h):=by omega
    rw[this,SM,FC,hdiv,<-hi];exact aD
theorem Ku (d:ei)(j:Nat)(x y:UInt64)(i:Nat):hJ ((d.setIfInBounds j x).setIfInBounds (j+1) y) i=if i=j+1/\i<8 then y else if i=j/\i<8 then x else hJ d i:=by
 unfold hJ;by_cases h:i<8
 .simp only[Vector.getElem?_setIfInBounds];by_cases aX:i=j+1
  .subst aX;simp[h]
  .by_cases aZ:i=j
   .subst aZ;simp[h]
   .rw[as7 (λe=>aX e.symm),as7 (λe=>aZ e.symm),as7 (λe=>aX e.1),as7 (λe=>aZ e.1)]
 .rw[as7 (λe=>h e.2),as7 (λe=>h e.2)];simp[h]
theorem xe (i:Nat):hJ kE i=0:=by
 unfold hJ kE;by_cases h:i<8
 .simp[h]
 .simp[h]
theorem FD (o:G.dk){u0 u h q1:Nat}(bT:h+1<G.L)(p1:q1<4)(pk:G.bG u h<2 ^ 63){a:Nat}(hu:u=u0+2*G.L*a){S:fj}(dY:kD G w u0 (G.bG u (h+1)+2) S){id:UInt64}(gJ:id.toNat<=2147483648){ao to:Nat}(bf:ao<2 ^ (G.dP (h+1)).k)(bz:to<2 ^ (G.dP (h+1)).k) :
 kD G w u0 (G.bG u h+1) (G.acc (h+1) (.part (2*q1) (UInt64.ofNat (G.leaf w h (G.bG u h)+1)) (UInt64.ofNat (G.bG u h))) id ao to S) /\
 sd G w u0 (G.bG u h+1) h (G.acc (h+1) (.part (2*q1) (UInt64.ofNat (G.leaf w h (G.bG u h)+1)) (UInt64.ofNat (G.bG u h))) id ao to S) (hJ (G.old (h+1) id ao S).1 (2*q1)) (hJ (G.old (h+1) id ao S).1 (2*q1+1)):=by
 have afz:G.bG u h=G.bG u (h+1)+2:=by unfold c2.bG;omega
 have hw:=dY.lK (h+1) bT;have lo:=o.fu (h+1);generalize FE:UInt64.ofNat (G.leaf w h (G.bG u h)+1)=lT;generalize FF:UInt64.ofNat (G.bG u h)=j5;have env:lT.toNat=G.leaf w h (G.bG u h)+1:=by rw[<-FE];exact Kt o _ _
 have Cj:j5.toNat=G.bG u h:=by rw[<-FF];exact SL pk
 obtain⟨φ,f1,f2,f3⟩:=afx lo (op:= .part (2*q1) lT j5) (id:=id) (to:=to) hw bf bz gJ;generalize Ck:kY (G.dP (h+1)) (.part (2*q1) lT j5) id ao to (G.bS (h+1) S.R)=jj at *;have pn:(G.acc (h+1) (.part (2*q1) lT j5) id ao to S).R=lL (G.base (h+1)) S.R jj:=by rw[<-Ck];rfl
 have iq:(G.acc (h+1) (.part (2*q1) lT j5) id ao to S).gone=S.gone:=rfl;have own:∀ {r i},r<3->G.bS (h+1) (lL (G.base (h+1)) S.R jj) r i=jj r i:=λaK=>Ks aK;have hold:G.old (h+1) id ao S=(kE,false)∨∃cc,cc<(G.dP (h+1)).m/\dm (ee (G.dP (h+1)) ao (G.bS (h+1) S.R) cc)=true/\(ee (G.dP (h+1)) ao (G.bS (h+1) S.R) cc)[1]=id/\G.old (h+1) id ao S=(jh (ee (G.dP (h+1)) ao (G.bS (h+1) S.R) cc),true):=SK _;have po:∀l bz v p,mi G (lL (G.base (h+1)) S.R jj) l bz v p->v≠0 ->
  (mi G S.R l bz v p/\∀r i q,l≠.b_ (h+1) r i q) ∨
  (∃r i q gW,l= .b_ (h+1) r i q/\φ r i=some gW/\k6 (G.dP (h+1)) r i/\dm (jj r i)=true/\mi G S.R (.b_ (h+1) gW.1 gW.2 q) bz v p/\((∃p,p<(G.dP (h+1)).m/\spot (G.dP (h+1)) ao p=gW)->(G.bS (h+1) S.R gW.1 gW.2)[1]≠id)) ∨
  (∃r i q cc,l= .b_ (h+1) r i q/\φ r i=none/\k6 (G.dP (h+1)) r i/\dm (jj r i)=true/\cc<(G.dP (h+1)).m/\mi G S.R (.b_ (h+1) (spot (G.dP (h+1)) ao cc).1 (spot (G.dP (h+1)) ao cc).2 q) bz v p/\(ee (G.dP (h+1)) ao (G.bS (h+1) S.R) cc)[1]=id/\q≠q1) ∨
  (∃r i,l= .b_ (h+1) r i q1/\φ r i=none/\k6 (G.dP (h+1)) r i/\dm (jj r i)=true/\v=lT/\p=j5/\bz=h):=by
  intro l bz v p he bH;cases l with
  | top x =>
   left;refine⟨?_,λ_ _ _ e=>by cases e⟩;obtain⟨aC,a7,b2,b5⟩:=he;have af:lL (G.base (h+1)) S.R jj G.f x=S.R G.f x:=FB (by unfold c2.base;omega);rw[af] at b2 b5;exact⟨aC,a7,b2,b5⟩
  | b_ ag r i q =>
   obtain⟨aC,a7,b2,b5,cD,dK,fq⟩:=he;have aK:=xd b2;by_cases hr:ag=h+1
   .subst hr;rw[own aK] at b5 dK fq;cases Cl:φ r i with
    | some gW =>
     right;left;obtain⟨g1,g2,g3,g4⟩:=f2 r i gW b2 b5 Cl;rw[g3] at dK fq;exact⟨r,i,q,gW,rfl,Cl,b2,b5,⟨aC,a7,g1,g2,cD,dK,fq⟩,g4⟩
    | none =>
     obtain⟨d,g1,g2⟩:=f1 r i b2 b5 Cl;have g1:some (((G.old (h+1) id ao S).1.setIfInBounds (2*q1) lT).setIfInBounds (2*q1+1) j5)=some d:=g1;rw[g2,<-atH g1,Ku] at dK fq;by_cases ah:q=q1
     .right;right;right;subst ah;rw[cS,d_] at dK;rw[d_] at fq;exact⟨r,i,rfl,Cl,b2,b5,dK,fq,by omega⟩
     .right;right;left;rw[cS,cS] at dK fq;rcases hold with dQ|⟨cc,hF,jt,yK,sW⟩
      .rw[dQ,xe] at dK;exact absurd dK bH
      .rw[sW] at dK fq;exact⟨r,i,q,cc,rfl,Cl,b2,b5,hF,⟨aC,a7,lJ lo bf hF,jt,cD,dK,fq⟩,yK,ah⟩
   .left;rw[Ci (λe=>hr e.symm) aK] at b5 dK fq;exact⟨⟨aC,a7,b2,b5,cD,dK,fq⟩,λ_ _ _ e=>by cases e;exact hr rfl⟩
 have km:∀ {l bz v p},mi G S.R l bz v p->v≠0->zA G w u0 (G.bG u h+1) bz v p/\p.toNat∉S.gone.map (·.2)/\p.toNat<G.bG u h:=λhe bH=>by
  obtain⟨g,cR⟩:=dY.nH _ _ _ _ he bH;have:=g.lt;exact⟨⟨by omega,g.val,g.kind,g.bz⟩,cR,by omega⟩
 have Kv:zA G w u0 (G.bG u h+1) h lT j5:=⟨by omega,by rw[env,Cj],⟨a,by rw[Cj,hu]⟩,by omega⟩;have Kw:j5.toNat∉S.gone.map (·.2):=λhm=>by
  obtain⟨x,af,e⟩:=atE.1 hm;have:=dY.gone.lt x af;have e:x.2=j5.toNat:=e;omega
 refine⟨⟨λag hr=>?_,λl ly v p he bH=>?_,λl ly v p eF u9 hp dF he qi bH gk aM=>?_,?_⟩,⟨λbH=>?_,λl ly hp dF bH he gk aM=>?_⟩⟩
 .rw[pn];by_cases e:h+1=ag
  .subst e;have:=SF lo (op:= .part (2*q1) lT j5) hw bf bz gJ;rw[Ck] at this;exact this.congr λr i aK=>own aK
  .exact(dY.lK ag hr).congr λr i aK=>Ci e aK
 .rw[pn] at he;rw[iq];rcases po l ly v p he bH with ⟨c,_⟩|⟨r,i,q,gW,_,_,_,_,c,_⟩|⟨r,i,q,cc,_,_,_,_,_,c,_⟩|⟨r,i,_,_,_,_,aC,a7,b2⟩
  .exact⟨(km c bH).1,(km c bH).2.1⟩
  .exact⟨(km c bH).1,(km c bH).2.1⟩
  .exact⟨(km c bH).1,(km c bH).2.1⟩
  .rw[aC,a7,b2];exact⟨Kv,Kw⟩
 .rw[pn] at he qi;rcases po l ly v p he bH with ⟨c,n⟩|⟨r,i,q,gW,rfl,aX,aZ,cp,c,dc⟩|⟨r,i,q,cc,rfl,aX,aZ,cp,dc,c,ff,fC⟩|⟨r,i,rfl,aX,aZ,cp,aC,a7,b2⟩
  .rcases po eF u9 hp dF qi gk with ⟨d,oy⟩|⟨ej,di,df,FG,rfl,d1,d2,d3,d,d4⟩|⟨ej,di,df,Cm,rfl,d1,d2,d3,d4,d,d5,d6⟩|⟨ej,di,rfl,d1,d2,d3,g1,g2,g3⟩
   .exact dY.uniq _ _ _ _ _ _ _ _ c d bH gk aM
   .exact absurd (dY.uniq _ _ _ _ _ _ _ _ c d bH gk aM) (n _ _ _)
   .exact absurd (dY.uniq _ _ _ _ _ _ _ _ c d bH gk aM) (n _ _ _)
   .have:=(km c bH).2.2;rw[aM,g2] at this;omega
  .rcases po eF u9 hp dF qi gk with ⟨d,oy⟩|⟨ej,di,df,FG,rfl,d1,d2,d3,d,d4⟩|⟨ej,di,df,Cm,rfl,d1,d2,d3,d4,d,d5,d6⟩|⟨ej,di,rfl,d1,d2,d3,g1,g2,g3⟩
   .exact absurd (dY.uniq _ _ _ _ _ _ _ _ d c gk bH aM.symm) (oy _ _ _)
   .have e:=dY.uniq _ _ _ _ _ _ _ _ c d bH gk aM;injection e with _ aC a7 b2;have:=f3 r i ej di aZ d2 cp d3 (by rw[aX,d1];exact congrArg some (auS aC a7));rw[this.1,this.2,b2]
   .have e:=dY.uniq _ _ _ _ _ _ _ _ c d bH gk aM;injection e with _ aC a7 b2;refine absurd d5 ?_;have:=dc ⟨Cm,d4,(auS aC a7).symm⟩;rw[aC,a7] at this;exact this
   .have:=(km c bH).2.2;rw[aM,g2] at this;omega
  .rcases po eF u9 hp dF qi gk with ⟨d,oy⟩|⟨ej,di,df,FG,rfl,d1,d2,d3,d,d4⟩|⟨ej,di,df,Cm,rfl,d1,d2,d3,d4,d,d5,d6⟩|⟨ej,di,rfl,d1,d2,d3,g1,g2,g3⟩
   .exact absurd (dY.uniq _ _ _ _ _ _ _ _ d c gk bH aM.symm) (oy _ _ _)
   .have e:=dY.uniq _ _ _ _ _ _ _ _ c d bH gk aM;injection e with _ aC a7 b2;refine absurd ff ?_;have:=d4 ⟨cc,dc,auS aC a7⟩;rw[<-aC,<-a7] at this;exact this
   .have e:=dY.uniq _ _ _ _ _ _ _ _ c d bH gk aM;injection e with _ aC a7 b2;have:=f3 r i ej di aZ d2 cp d3 (by rw[aX,d1]);rw[this.1,this.2,b2]
   .have:=(km c bH).2.2;rw[aM,g2] at this;omega
  .rcases po eF u9 hp dF qi gk with ⟨d,oy⟩|⟨ej,di,df,FG,rfl,d1,d2,d3,d,d4⟩|⟨ej,di,df,Cm,rfl,d1,d2,d3,d4,d,d5,d6⟩|⟨ej,di,rfl,d1,d2,d3,g1,g2,g3⟩
   .have:=(km d gk).2.2;rw[<-aM,a7] at this;omega
   .have:=(km d gk).2.2;rw[<-aM,a7] at this;omega
   .have:=(km d gk).2.2;rw[<-aM,a7] at this;omega
   .have:=f3 r i ej di aZ d2 cp d3 (by rw[aX,d1]);rw[this.1,this.2]
 .rw[iq];exact⟨dY.gone.nodup,λx af=>by have:=dY.gone.lt x af;omega,dY.gone.val,dY.gone.kind⟩
 .rw[iq];rcases hold with dQ|⟨cc,hF,jt,yK,sW⟩
  .rw[dQ,xe] at bH;exact absurd rfl bH
  .rw[sW] at bH ⊢;have he:mi G S.R (.b_ (h+1) (spot (G.dP (h+1)) ao cc).1 (spot (G.dP (h+1)) ao cc).2 q1) h _ _:=⟨bT,rfl,lJ lo bf hF,jt,p1,rfl,rfl⟩;exact⟨(km he bH).1,(km he bH).2.1⟩
 .rw[pn] at he;rcases hold with dQ|⟨cc,hF,jt,yK,sW⟩
  .rw[dQ,xe] at bH;exact absurd rfl bH
  .rw[sW] at bH aM;have FH:mi G S.R (.b_ (h+1) (spot (G.dP (h+1)) ao cc).1 (spot (G.dP (h+1)) ao cc).2 q1) h _ _:=⟨bT,rfl,lJ lo bf hF,jt,p1,rfl,rfl⟩;rcases po l ly hp dF he gk with ⟨d,oy⟩|⟨ej,di,df,FG,rfl,d1,d2,d3,d,d4⟩|⟨ej,di,df,Cm,rfl,d1,d2,d3,d4,d,d5,d6⟩|⟨ej,di,rfl,d1,d2,d3,g1,g2,g3⟩
   .exact absurd (dY.uniq _ _ _ _ _ _ _ _ d FH gk bH aM) (oy _ _ _)
   .have e:=dY.uniq _ _ _ _ _ _ _ _ d FH gk bH aM;injection e with _ aC a7 b2;refine absurd yK ?_;have:=d4 ⟨cc,hF,(auS aC a7).symm⟩;rw[aC,a7] at this;exact this
   .have e:=dY.uniq _ _ _ _ _ _ _ _ d FH gk bH aM;injection e with _ aC a7 b2;exact d6 b2
   .have e:=g2.symm.trans aM;have h0:j5.toNat<G.bG u h:=by rw[e];exact(km FH bH).2.2
    omega
end Go.cQ
namespace Go.cQ
variable {G:c2} {w:Nat->UInt64}
theorem afA (o:G.dk){u0 mX:Nat}{S:fj}(dY:kD G w u0 mX S){op:fN}{id:UInt64}(gJ:id.toNat<=2147483648){ao to:Nat}(bf:ao<2 ^ (G.dP 0).k)(bz:to<2 ^ (G.dP 0).k) :
 kD G w u0 mX (G.acc 0 op id ao to S):=by
 have hw:=dY.lK 0 (by have:=o.L;omega);have lo:=o.fu 0;generalize Ck:kY (G.dP 0) op id ao to (G.bS 0 S.R)=jj at *;have pn:(G.acc 0 op id ao to S).R=lL (G.base 0) S.R jj:=by rw[<-Ck];rfl
 have iq:(G.acc 0 op id ao to S).gone=S.gone:=rfl;have old:∀ {l bz v p},mi G (lL (G.base 0) S.R jj) l bz v p->mi G S.R l bz v p:=by
  intro l bz v p he;cases l with
  | top x =>
   obtain⟨aC,a7,b2,b5⟩:=he;have af:lL (G.base 0) S.R jj G.f x=S.R G.f x:=FB (by unfold c2.base;omega);rw[af] at b2 b5;exact⟨aC,a7,b2,b5⟩
  | b_ ag r i q =>
   obtain⟨aC,a7,b2,b5,cD,dK,fq⟩:=he;have aK:=xd b2;rw[Ci (by omega) aK] at b5 dK fq;exact⟨aC,a7,b2,b5,cD,dK,fq⟩
 refine⟨λag hr=>?_,λl ly v p he bH=>?_,λl ly v p eF u9 hp dF he qi bH gk aM=>?_,?_⟩
 .rw[pn];by_cases e:0=ag
  .subst e;have:=SF lo (op:=op) hw bf bz gJ;rw[Ck] at this;exact this.congr λr i aK=>Ks aK
  .exact(dY.lK ag hr).congr λr i aK=>Ci e aK
 .rw[pn] at he;rw[iq];exact dY.nH _ _ _ _ (old he) bH
 .rw[pn] at he qi;exact dY.uniq _ _ _ _ _ _ _ _ (old he) (old qi) bH gk aM
 .rw[iq];exact dY.gone
theorem SN (G:c2)(u:Nat):G.bG u (G.L-1)=u:=by unfold c2.bG;omega
def c2.begin (G:c2)(w:Nat->UInt64)(lU:Nat)(S:fj):fj :=
 { S with R:=fs S.R (G.f,lU) (sc (UInt64.ofNat (G.leaf w (G.L-1) (G.bG S.used (G.L-1))+1)) (UInt64.ofNat (G.bG S.used (G.L-1)))),used:=S.used+2*G.L }
theorem FI (o:G.dk){u0 a:Nat}{S:fj}(hu:S.used=u0+2*G.L*a)(pk:S.used<2 ^ 63)(dY:kD G w u0 S.used S){lU:Nat}(af:lU<G.top) :
 kD G w u0 (G.bG S.used (G.L-1)+1) (G.begin w lU S)/\sd G w u0 (G.bG S.used (G.L-1)+1) (G.L-1) (G.begin w lU S) (S.R G.f lU)[0] (S.R G.f lU)[1]:=by
 have fp:=o.L;have FJ:=SN G S.used;generalize FE:UInt64.ofNat (G.leaf w (G.L-1) (G.bG S.used (G.L-1))+1)=lT;generalize FF:UInt64.ofNat (G.bG S.used (G.L-1))=j5;have env:lT.toNat=G.leaf w (G.L-1) (G.bG S.used (G.L-1))+1:=by rw[<-FE];exact Kt o _ _
 have Cj:j5.toNat=S.used:=by rw[<-FF,FJ];exact SL pk
 have pn:(G.begin w lU S).R=fs S.R (G.f,lU) (sc lT j5):=by rw[<-FE,<-FF];rfl
 have iq:(G.begin w lU S).gone=S.gone:=rfl;have kd:∀h r i,G.bS h (fs S.R (G.f,lU) (sc lT j5)) r i=G.bS h S.R r i:=λh r i=>by
  unfold c2.bS jg fs;rw[as7 (λe=>by have:=e.1;unfold c2.base at this;omega)]
 have po:∀l bz v p,mi G (fs S.R (G.f,lU) (sc lT j5)) l bz v p->(mi G S.R l bz v p/\l≠.top lU)∨(l= .top lU/\v=lT/\p=j5/\bz+1=G.L):=by
  intro l bz v p he;cases l with
  | top x =>
   obtain⟨aC,a7,b2,b5⟩:=he;by_cases c:x=lU
   .subst c;have e:fs S.R (G.f,x) (sc lT j5) G.f x=sc lT j5:=by unfold fs;rw[as8 ⟨rfl,rfl⟩]
    rw[e] at b2 b5;exact .inr ⟨rfl,b2,b5,a7⟩
   .have e:fs S.R (G.f,lU) (sc lT j5) G.f x=S.R G.f x:=by unfold fs;rw[as7 (λh=>c h.2)]
    rw[e] at b2 b5;exact .inl ⟨⟨aC,a7,b2,b5⟩,λh=>by cases h;exact c rfl⟩
  | b_ ag r i q =>
   obtain⟨aC,a7,b2,b5,cD,dK,fq⟩:=he;rw[kd] at b5 dK fq;exact .inl ⟨⟨aC,a7,b2,b5,cD,dK,fq⟩,λh=>by cases h⟩
 have km:∀ {l bz v p},mi G S.R l bz v p->v≠0->zA G w u0 (S.used+1) bz v p/\p.toNat∉S.gone.map (·.2)/\p.toNat<S.used:=λhe bH=>by
  obtain⟨g,cR⟩:=dY.nH _ _ _ _ he bH;have:=g.lt;exact⟨⟨by omega,g.val,g.kind,g.bz⟩,cR,this⟩
 have Kv:zA G w u0 (S.used+1) (G.L-1) lT j5:=⟨by omega,by rw[env,Cj,FJ],⟨a,by rw[Cj,<-hu,FJ]⟩,by omega⟩;have Kw:j5.toNat∉S.gone.map (·.2):=λhm=>by
  obtain⟨x,af,e⟩:=atE.1 hm;have:=dY.gone.lt x af;have e:x.2=j5.toNat:=e;omega
 rw[FJ];have FK:mi G S.R (.top lU) (G.L-1) (S.R G.f lU)[0] (S.R G.f lU)[1]:=⟨af,by omega,rfl,rfl⟩;refine⟨⟨λag hr=>?_,λl ly v p he bH=>?_,λl ly v p eF u9 hp dF he qi bH gk aM=>?_,?_⟩,⟨λbH=>?_,λl ly hp dF bH he gk aM=>?_⟩⟩
 .rw[pn];exact(dY.lK ag hr).congr λr i _=>kd ag r i
 .rw[pn] at he;rw[iq];rcases po l ly v p he with ⟨c,_⟩|⟨_,aC,a7,b2⟩
  .exact⟨(km c bH).1,(km c bH).2.1⟩
  .rw[aC,a7,show ly=G.L-1 by omega];exact⟨Kv,Kw⟩
 .rw[pn] at he qi;rcases po l ly v p he with ⟨c,n⟩|⟨rfl,aC,a7,b2⟩
  .rcases po eF u9 hp dF qi with ⟨d,oy⟩|⟨rfl,g1,g2,g3⟩
   .exact dY.uniq _ _ _ _ _ _ _ _ c d bH gk aM
   .have:=(km c bH).2.2;rw[aM,g2] at this;omega
  .rcases po eF u9 hp dF qi with ⟨d,oy⟩|⟨rfl,g1,g2,g3⟩
   .have:=(km d gk).2.2;rw[<-aM,a7] at this;omega
   .rfl
 .rw[iq];exact⟨dY.gone.nodup,λx af=>by have:=dY.gone.lt x af;omega,dY.gone.val,dY.gone.kind⟩
 .rw[iq];exact⟨(km FK bH).1,(km FK bH).2.1⟩
 .rw[pn] at he;rcases po l ly hp dF he with ⟨d,oy⟩|⟨rfl,g1,g2,g3⟩
  .exact oy (dY.uniq _ _ _ _ _ _ _ _ d FK gk bH aM)
  .have:=(km FK bH).2.2;rw[<-aM,g2] at this;omega
theorem SO (o:G.dk){u0 a u:Nat}(hu:u=u0+2*G.L*a)(pk:u+2*G.L<2 ^ 63){op:fN}{x:Nat}(af:x<2 ^ G.m):∀h v p S,h<G.L->kD G w u0 (G.bG u h+1) S->sd G w u0 (G.bG u h+1) h S v p->S.gone.length=G.L*a+(G.L-1-h) ->
 kD G w u0 (u+2*G.L) (j2 G w u op x h v p S).1/\(j2 G w u op x h v p S).1.gone.length=G.L*(a+1)/\(j2 G w u op x h v p S).1.used=S.used
 | 0,v,p,S,bT,dY,c,hlen=>by
  obtain⟨aa,ad⟩:=zB o hu bT dY c hlen;have:=afA o ad (op:=op) (id:=cu x 0) (to:=G.leaf w 0 (G.bG u 0)) (nL o af).2 aa (G.pj w 0 _);have e:G.bG u 0+2=u+2*G.L:=by unfold c2.bG;omega
  rw[e] at this;refine⟨this,?_,rfl⟩;show(S.gone++[_]).length=_;rw[as9,hlen,Nat.mul_succ];simp;omega
 | h+1,v,p,S,bT,dY,c,hlen=>by
  obtain⟨aa,ad⟩:=zB o hu bT dY c hlen;have au:G.bG u h<2 ^ 63:=by unfold c2.bG;omega
  obtain⟨hF,jt⟩:=FD o bT (q1:=x/4 ^ (h+1-1)%4) (aum _ (by decide)) au hu ad (id:=cu x (h+1)) (to:=G.leaf w (h+1) (G.bG u (h+1))) (nL o af).2 aa (G.pj w (h+1) _);exact SO o hu pk af h _ _ _ (by omega) hF jt (by show(S.gone++[_]).length=_;rw[as9,hlen];simp;omega)
theorem Qi (o:G.dk){u0 a:Nat}{S:fj}(hu:S.used=u0+2*G.L*a)(pk:S.used+2*G.L<2 ^ 63)(dY:kD G w u0 S.used S)(cR:S.gone.length=G.L*a){op:fN}{x:Nat}(af:x<2 ^ G.m)(ra:x/4 ^ (G.L-1)<G.top) :
 kD G w u0 (S.used+2*G.L) (gV G w op x S).1/\(gV G w op x S).1.gone.length=G.L*(a+1)/\(gV G w op x S).1.used=S.used+2*G.L:=by
 have fp:=o.L;obtain⟨s1,s2⟩:=FI o hu (by omega) dY ra;obtain⟨g1,g2,g3⟩:=SO o hu pk (op:=op) af (G.L-1) _ _ _ (by omega) s1 s2 (by show S.gone.length=_;omega);exact⟨g1,g2,g3⟩
end Go.cQ
namespace Go.cQ
variable {G:c2} {w:Nat->UInt64}
abbrev rP:=Nat->UInt64->Option (Nat×ei)
abbrev qR:=Nat->UInt64->UInt64×UInt64
def told (G:c2)(R:dw)(fF:rP)(h:Nat)(id:UInt64):UInt64×UInt64 :=
 if h+1=G.L then ((R G.f id.toNat)[0],(R G.f id.toNat)[1]) else
 match fF (h+1) (UInt64.ofNat (id.toNat/4)) with
 | some (_,d)=>(hJ d (2*(id.toNat%4)),hJ d (2*(id.toNat%4)+1))
 | none=>(0,0)
structure s4 (G:c2)(S:fj)(fF:rP)(K:qR)(A:UInt64->Option ei):Prop where
 li:∀h,h<G.L->mh (G.dP h) (G.bS h S.R) (fF h)
 qW:∀h id,h<G.L->told G S.R fF h id=K h id
 se:∀h id leaf d,h<G.L->fF h id=some (leaf,d)->(K h id).1.toNat=leaf+1
 Cn:∀id,(fF 0 id).map (·.2)=A id
 mt:∀h id,h<G.L->fF h id≠none->id∈S.ids h
def Co (G:c2)(w:Nat->UInt64)(u h:Nat):UInt64×UInt64:=(UInt64.ofNat (G.leaf w h (G.bG u h)+1),UInt64.ofNat (G.bG u h))
def od (G:c2)(w:Nat->UInt64)(u x:Nat)(K:qR)(h:Nat):qR:=λag id=>if id=cu x ag/\h<=ag then Co G w u ag else K ag id
def uE (G:c2)(w:Nat->UInt64)(u x:Nat)(K:qR)(h:Nat):Nat×Nat:=fD (K h (cu x h)).1 (K h (cu x h)).2 (G.leaf w h (G.bG u h+1),G.bG u h+1)
structure Kx (G:c2)(w:Nat->UInt64)(u x h:Nat)(S:fj)(fF:rP)(K:qR)(A:UInt64->Option ei):Prop where
 li:∀h,h<G.L->mh (G.dP h) (G.bS h S.R) (fF h)
 qW:∀ag id,ag<G.L->told G S.R fF ag id=od G w u x K h ag id
 se:∀ag id leaf d,ag<G.L->¬(ag=h/\id=cu x h)->fF ag id=some (leaf,d)->(od G w u x K h ag id).1.toNat=leaf+1
 SP:∀leaf d,fF h (cu x h)=some (leaf,d)->(K h (cu x h)).1.toNat=leaf+1
 Cn:∀id,(fF 0 id).map (·.2)=A id
 mt:∀h id,h<G.L->fF h id≠none->id∈S.ids h
theorem I0 (op:fN)(u x:Nat):∀h v p S ag,h<ag->(j2 G w u op x h v p S).1.over ag=S.over ag/\(j2 G w u op x h v p S).1.ids ag=S.ids ag
 | 0,v,p,S,ag,bT=>by
  have cX:ag≠0:=by omega
  exact⟨by show(if ag=0 then _ else S.over ag)=_;rw[as7 cX],by show(if ag=0 then _ else S.ids ag)=_;rw[as7 cX]⟩
 | h+1,v,p,S,ag,bT=>by
  have cX:ag≠h+1:=by omega
  obtain⟨aa,ad⟩:=I0 op u x h (hJ (G.old (h+1) (cu x (h+1)) (fD v p (G.leaf w (h+1) (G.bG u (h+1)+1),G.bG u (h+1)+1)).1 { S with gone:=S.gone++[fD v p (G.leaf w (h+1) (G.bG u (h+1)+1),G.bG u (h+1)+1)] }).1 (2*(x/4 ^ h%4))) (hJ (G.old (h+1) (cu x (h+1)) (fD v p (G.leaf w (h+1) (G.bG u (h+1)+1),G.bG u (h+1)+1)).1 { S with gone:=S.gone++[fD v p (G.leaf w (h+1) (G.bG u (h+1)+1),G.bG u (h+1)+1)] }).1 (2*(x/4 ^ h%4)+1))
   (G.acc (h+1) (.part (2*(x/4 ^ h%4)) (UInt64.ofNat (G.leaf w h (G.bG u h)+1)) (UInt64.ofNat (G.bG u h))) (cu x (h+1)) (fD v p (G.leaf w (h+1) (G.bG u (h+1)+1),G.bG u (h+1)+1)).1 (G.leaf w (h+1) (G.bG u (h+1))) { S with gone:=S.gone++[fD v p (G.leaf w (h+1) (G.bG u (h+1)+1),G.bG u (h+1)+1)] }) ag (by omega)
  refine⟨aa.trans ?_,ad.trans ?_⟩
  .show(if ag=h+1 then _ else S.over ag)=_;rw[as7 cX]
  .show(if ag=h+1 then _ else S.ids ag)=_;rw[as7 cX]
theorem afB {x h:Nat}(o:G.dk)(af:x<2 ^ G.m):UInt64.ofNat ((cu x h).toNat/4)=cu x (h+1)/\(cu x h).toNat%4=x/4 ^ h%4:=by
 have aa:=(nL o af (h:=h)).1;rw[aa];refine⟨?_,rfl⟩;unfold cu;rw[atP,<-atZ]
theorem SQ {op:fN}{id:UInt64}{l:List UInt64}:∀ {y},y∈l->y∈meets op id l:=by
 intro y aA;cases op<;>simp only[meets]
 .exact aA
 .split
  .exact aA
  .exact List.mem_append_left _ aA
 .split
  .exact aA
  .exact List.mem_append_left _ aA
 .exact aA
theorem SR {op:fN}{id:UInt64}{l:List UInt64}{old:ei}{there:Bool}(bz:there=true->id∈l)(h:op.now old there≠none):id∈meets op id l:=by
 cases op with
 | look =>
  cases there with
  | true=>exact bz rfl
  | false=>simp[fN.now] at h
 | put d=>
  simp only[meets];split
  .assumption
  .simp
 | part a x y=>
  simp only[meets];split
  .assumption
  .simp
 | drop=>simp[fN.now] at h
def xf (fF:rP)(h:Nat)(id:UInt64)(v:Option (Nat×ei)):rP:=λag z=>if ag=h/\z=id then v else fF ag z
theorem rb {fF:rP}{h ag:Nat}{id z:UInt64}{v:Option (Nat×ei)}(aH:¬(ag=h/\z=id)):xf fF h id v ag z=fF ag z:=as7 aH
theorem zC {fF:rP}{h ag:Nat}{id z:UInt64}{v:Option (Nat×ei)}(aH:ag=h/\z=id):xf fF h id v ag z=v:=as8 aH
theorem SS (o:G.dk){h:Nat}(bT:h<G.L){S:fj}{fF:rP}{op:fN}{id:UInt64}(gJ:id.toNat<=2147483648){ao to:Nat}(bf:ao<2 ^ (G.dP h).k)(bz:to<2 ^ (G.dP h).k)
 (li:∀h,h<G.L->mh (G.dP h) (G.bS h S.R) (fF h)) (mt:∀h id,h<G.L->fF h id≠none->id∈S.ids h) (hw:∀leaf d,fF h id=some (leaf,d)->leaf=ao)
 (fin:(G.acc h op id ao to S).over h=false∨(S.over h=false/\((G.acc h op id ao to S).ids h).length<=G.t)) :
 (G.acc h op id ao to S).over h=false/\G.old h id ao S=(match fF h id with|some (_,d)=>(d,true)|none=>(kE,false)) /\
 (∀ag,ag<G.L->mh (G.dP ag) (G.bS ag (G.acc h op id ao to S).R) (xf fF h id ((op.now (G.old h id ao S).1 (G.old h id ao S).2).map (λd=>(to,d))) ag)) /\
 (∀ag z,ag<G.L->xf fF h id ((op.now (G.old h id ao S).1 (G.old h id ao S).2).map (λd=>(to,d))) ag z≠none->z∈(G.acc h op id ao to S).ids ag):=by
 have lo:=o.fu h;have l:=li h bT;have hold:G.old h id ao S=_:=afp lo l bf hw;have rL:(G.acc h op id ao to S).over h=(S.over h||qV (G.dP h) op id ao to (G.bS h S.R)):=by show(if h=h then _ else _)=_;rw[as8 rfl]
 have kQ:(G.acc h op id ao to S).ids h=meets op id (S.ids h):=by show(if h=h then _ else _)=_;rw[as8 rfl]
 have SU:(G.old h id ao S).2=true->id∈S.ids h:=λbz=>by
  refine mt h id bT λaH=>?_;rw[hold,aH] at bz;cases bz
 have lost:qV (G.dP h) op id ao to (G.bS h S.R)=false/\S.over h=false:=by
  rcases fin with FL|⟨h0,aO⟩
  .rw[rL] at FL;rw[Bool.or_eq_false_iff] at FL;exact⟨FL.2,FL.1⟩
  .refine⟨afs lo l bf bz gJ (meets op id (S.ids h)) (by rw[<-kQ];exact aO) (λx af=>SQ (mt h x bT af)) (λaH=>SR SU aH),h0⟩
 have afC:=afq lo l bf bz gJ hw lost.1;refine⟨by rw[rL,lost.1,lost.2];rfl,hold,λag hr=>?_,λag z hr bt=>?_⟩
 .by_cases c:ag=h
  .subst c;have e:xf fF ag id ((op.now (G.old ag id ao S).1 (G.old ag id ao S).2).map (λd=>(to,d))) ag=λx=>if x=id then (op.now (j4 (G.dP ag) id ao (G.bS ag S.R)).1 (j4 (G.dP ag) id ao (G.bS ag S.R)).2).map (λd=>(to,d)) else fF ag x:=by
    funext z;by_cases c:z=id
    .rw[zC ⟨rfl,c⟩,as8 c];rfl
    .rw[rb (λh=>c h.2),as7 c]
   rw[e];exact afC.congr λr i aK=>Ks aK
  .have e:xf fF h id ((op.now (G.old h id ao S).1 (G.old h id ao S).2).map (λd=>(to,d))) ag=fF ag:=by
    funext z;rw[rb (λh=>c h.1)]
   rw[e];exact(li ag hr).congr λr i aK=>Ci (λe=>c e.symm) aK
 .by_cases c:ag=h
  .subst c;rw[kQ];by_cases aZ:z=id
   .subst aZ;rw[zC ⟨rfl,rfl⟩] at bt;exact SR SU λaH=>bt (by rw[aH];rfl)
   .rw[rb (λh=>aZ h.2)] at bt;exact SQ (mt ag z hr bt)
  .rw[rb (λh=>c h.1)] at bt;show z∈(if ag=h then _ else S.ids ag);rw[as7 c];exact mt ag z hr bt
def m9 (A:UInt64->Option ei)(id:UInt64):ei×Bool:=match A id with|some d=>(d,true)|none=>(kE,false)
theorem FM {u x h ag:Nat}{K:qR}{id:UInt64}(aH:¬(ag=h/\id=cu x h)):od G w u x K h ag id=od G w u x K (h+1) ag id:=by
 unfold od;by_cases c:id=cu x ag/\h<=ag
 .have:h+1<=ag:=by
   rcases Nat.eq_or_lt_of_le c.2 with e|e
   .exact absurd ⟨e.symm,by rw[e];exact c.1⟩ aH
   .exact e
  rw[as8 c,as8 ⟨c.1,this⟩]
 .rw[as7 c,as7 λad=>c ⟨ad.1,by omega⟩]
theorem SV {u x h:Nat}{K:qR}:od G w u x K (h+1) h (cu x h)=K h (cu x h):=by
 unfold od;rw[cS]
theorem FN {u x h ag:Nat}{K:qR}(bT:h<=ag):od G w u x K h ag (cu x ag)=Co G w u ag:=by
 unfold od;rw[as8 ⟨rfl,bT⟩]
theorem SW (o:G.dk)(u h:Nat):(Co G w u h).1.toNat=G.leaf w h (G.bG u h)+1:=Kt o h _
theorem SX {v p:UInt64}{sp:Nat×Nat}{leaf:Nat}(h:v.toNat=leaf+1):leaf=(fD v p sp).1:=by
 unfold fD;rw[as7 (λe=>by rw[e] at h;simp at h)];show leaf=v.toNat-1;omega
theorem SY {h:Nat}{op:fN}{id:UInt64}{ao to:Nat}{S:fj}(x:Nat):(G.acc h op id ao to S).R G.f x=S.R G.f x :=
 FB (by unfold c2.base;omega)
theorem SZ (o:G.dk){u0 a u:Nat}(hu:u=u0+2*G.L*a)(pk:u+2*G.L<2 ^ 63){op:fN}{x:Nat}(af:x<2 ^ G.m){K:qR}{A:UInt64->Option ei}:∀h S fF,h<G.L->kD G w u0 (G.bG u h+1) S->sd G w u0 (G.bG u h+1) h S (K h (cu x h)).1 (K h (cu x h)).2->S.gone.length=G.L*a+(G.L-1-h) ->
 Kx G w u x h S fF K A ->
 ((∀ag,ag<=h->(j2 G w u op x h (K h (cu x h)).1 (K h (cu x h)).2 S).1.over ag=false)∨(∀ag,ag<=h->S.over ag=false/\((j2 G w u op x h (K h (cu x h)).1 (K h (cu x h)).2 S).1.ids ag).length<=G.t)) ->
 ∃s5,s4 G (j2 G w u op x h (K h (cu x h)).1 (K h (cu x h)).2 S).1 s5 (od G w u x K 0) (λid=>if id=cu x 0 then op.now (m9 A id).1 (m9 A id).2 else A id)/\(j2 G w u op x h (K h (cu x h)).1 (K h (cu x h)).2 S).2=m9 A (cu x 0) /\
  (j2 G w u op x h (K h (cu x h)).1 (K h (cu x h)).2 S).1.gone=S.gone++(List.range (h+1)).map (λi=>uE G w u x K (h-i))/\∀ag,ag<=h->(j2 G w u op x h (K h (cu x h)).1 (K h (cu x h)).2 S).1.over ag=false
 | 0,S,fF,bT,dY,c,hlen,n,fin=>by
  obtain⟨aa,ad⟩:=zB o hu bT dY c hlen;generalize fP:fD (K 0 (cu x 0)).1 (K 0 (cu x 0)).2 (G.leaf w 0 (G.bG u 0+1),G.bG u 0+1)=ao at *;have sf:j2 G w u op x 0 (K 0 (cu x 0)).1 (K 0 (cu x 0)).2 S=(G.acc 0 op (cu x 0) ao.1 (G.leaf w 0 (G.bG u 0)) { S with gone:=S.gone++[ao] },G.old 0 (cu x 0) ao.1 { S with gone:=S.gone++[ao] }):=by rw[<-fP];rfl
  rw[sf] at fin ⊢;have hw:∀leaf d,fF 0 (cu x 0)=some (leaf,d)->leaf=ao.1:=λleaf d e=>by rw[<-fP];exact SX (n.SP leaf d e)
  obtain⟨ar,aN,a3,a4⟩:=SS o bT (S:={ S with gone:=S.gone++[ao] }) (op:=op) (id:=cu x 0) (nL o af).2 aa (G.pj w 0 (G.bG u 0)) n.li n.mt hw (fin.imp (λf=>f 0 (as_ _)) λf=>f 0 (as_ _));have S0:m9 A (cu x 0)=G.old 0 (cu x 0) ao.1 { S with gone:=S.gone++[ao] }:=by
   rw[aN];unfold m9;rw[<-n.Cn];cases fF 0 (cu x 0)<;>rfl
  refine⟨_,⟨a3,λag id hr=>?_,λag id leaf d hr he=>?_,λid=>?_,a4⟩,S0.symm,?_,λag hr=>?_⟩
  .rw[<-n.qW ag id hr];unfold told;by_cases c:ag+1=G.L
   .rw[as8 c,as8 c,SY]
   .rw[as7 c,as7 c,rb (by omega)]
  .by_cases c:ag=0/\id=cu x 0
   .rw[zC c] at he;obtain⟨y,_,e⟩:=Option.map_eq_some_iff.1 he;have e:=(at0 e).1;rw[c.1,c.2,FN (as_ _),SW o,<-e]
   .rw[rb c] at he;exact n.se ag id leaf d hr c he
  .by_cases c:id=cu x 0
   .subst c;rw[zC ⟨rfl,rfl⟩,as8 rfl,S0];cases op.now (G.old 0 (cu x 0) ao.1 { S with gone:=S.gone++[ao] }).1 (G.old 0 (cu x 0) ao.1 { S with gone:=S.gone++[ao] }).2<;>rfl
   .rw[rb (λh=>c h.2),as7 c];exact n.Cn id
  .show S.gone++[ao]=_;simp[uE,fP]
  .have:ag=0:=by omega
   subst this;exact ar
 | h+1,S,fF,bT,dY,c,hlen,n,fin=>by
  obtain⟨aa,ad⟩:=zB o hu bT dY c hlen;have au:G.bG u h<2 ^ 63:=by unfold c2.bG;omega
  have lQ:x/4 ^ h%4<4:=aum _ (by decide);obtain⟨S1,FO⟩:=afB (h:=h) o af;obtain⟨hF,jt⟩:=FD o bT lQ au hu ad (id:=cu x (h+1)) (to:=G.leaf w (h+1) (G.bG u (h+1))) (nL o af).2 aa (G.pj w (h+1) _);generalize fP:fD (K (h+1) (cu x (h+1))).1 (K (h+1) (cu x (h+1))).2 (G.leaf w (h+1) (G.bG u (h+1)+1),G.bG u (h+1)+1)=ao at *;generalize ah:x/4 ^ h%4=q at *;have hw:∀leaf d,fF (h+1) (cu x (h+1))=some (leaf,d)->leaf=ao.1:=λleaf d e=>by rw[<-fP];exact SX (n.SP leaf d e)
  have sf:j2 G w u op x (h+1) (K (h+1) (cu x (h+1))).1 (K (h+1) (cu x (h+1))).2 S =
   j2 G w u op x h (hJ (G.old (h+1) (cu x (h+1)) ao.1 { S with gone:=S.gone++[ao] }).1 (2*q)) (hJ (G.old (h+1) (cu x (h+1)) ao.1 { S with gone:=S.gone++[ao] }).1 (2*q+1)) (G.acc (h+1) (.part (2*q) (UInt64.ofNat (G.leaf w h (G.bG u h)+1)) (UInt64.ofNat (G.bG u h))) (cu x (h+1)) ao.1 (G.leaf w (h+1) (G.bG u (h+1))) { S with gone:=S.gone++[ao] }):=by
   rw[<-fP,<-ah];rfl
  rw[sf] at fin ⊢;have dV:=λv p=>I0 (G:=G) (w:=w) op u x h v p (G.acc (h+1) (.part (2*q) (UInt64.ofNat (G.leaf w h (G.bG u h)+1)) (UInt64.ofNat (G.bG u h))) (cu x (h+1)) ao.1 (G.leaf w (h+1) (G.bG u (h+1))) { S with gone:=S.gone++[ao] }) (h+1) (by omega);obtain⟨ar,aN,a3,a4⟩:=SS o bT (S:={ S with gone:=S.gone++[ao] }) (op:= .part (2*q) (UInt64.ofNat (G.leaf w h (G.bG u h)+1)) (UInt64.ofNat (G.bG u h))) (id:=cu x (h+1)) (nL o af).2 aa (G.pj w (h+1) (G.bG u (h+1))) n.li n.mt hw
   (fin.imp (λf=>(dV _ _).1.symm.trans (f (h+1) (as_ _))) λf=>⟨(f (h+1) (as_ _)).1,by rw[<-(dV _ _).2];exact(f (h+1) (as_ _)).2⟩)
  generalize hold:G.old (h+1) (cu x (h+1)) ao.1 { S with gone:=S.gone++[ao] }=old at *;have S2:hJ old.1 (2*q)=(K h (cu x h)).1/\hJ old.1 (2*q+1)=(K h (cu x h)).2:=by
   have bz:=n.qW h (cu x h) (by omega);rw[SV] at bz;unfold told at bz;rw[cS,S1,FO] at bz;rw[aN,<-bz];cases fF (h+1) (cu x (h+1)) with
   | none=>exact⟨xe _,xe _⟩
   | some y=>exact⟨rfl,rfl⟩
  rw[S2.1,S2.2] at fin jt ⊢;have afD:∀z,(G.acc (h+1) (.part (2*q) (UInt64.ofNat (G.leaf w h (G.bG u h)+1)) (UInt64.ofNat (G.bG u h))) (cu x (h+1)) ao.1 (G.leaf w (h+1) (G.bG u (h+1))) { S with gone:=S.gone++[ao] }).over z=if z=h+1 then false else S.over z:=λz=>by
   by_cases c:z=h+1
   .rw[as8 c,c];exact ar
   .rw[as7 c];show(if z=h+1 then _ else S.over z)=_;rw[as7 c]
  have Ky:Kx G w u x h (G.acc (h+1) (.part (2*q) (UInt64.ofNat (G.leaf w h (G.bG u h)+1)) (UInt64.ofNat (G.bG u h))) (cu x (h+1)) ao.1 (G.leaf w (h+1) (G.bG u (h+1))) { S with gone:=S.gone++[ao] }) (xf fF (h+1) (cu x (h+1)) ((fN.now (.part (2*q) (UInt64.ofNat (G.leaf w h (G.bG u h)+1)) (UInt64.ofNat (G.bG u h))) old.1 old.2).map (λd=>(G.leaf w (h+1) (G.bG u (h+1)),d)))) K A:=by
   refine⟨a3,λag id hr=>?_,λag id leaf d hr cX he=>?_,λleaf d he=>?_,λid=>?_,a4⟩
   .unfold told;by_cases xg:ag+1=G.L
    .have:=n.qW ag id hr;unfold told at this;rw[as8 xg] at this ⊢;rw[SY,FM (by omega)];exact this
    .have dQ:=n.qW ag id hr;unfold told at dQ;rw[as7 xg] at dQ ⊢;by_cases lV:ag+1=h+1/\UInt64.ofNat (id.toNat/4)=cu x (h+1)
     .have afE:ag=h:=by omega
      subst afE;rw[zC lV];have ar8:id.toNat/4=x/4 ^ (ag+1):=by
       have:=congrArg UInt64.toNat lV.2;rw[(nL o af).1,ate] at this;have:=id.toNat_lt;omega
      show(hJ ((old.1.setIfInBounds (2*q) _).setIfInBounds (2*q+1) _) (2*(id.toNat%4)),hJ ((old.1.setIfInBounds (2*q) _).setIfInBounds (2*q+1) _) (2*(id.toNat%4)+1))=_;rw[Ku,Ku];by_cases afF:id.toNat%4=q
      .have FP:id=cu x ag:=by
        apply att.1;rw[(nL o af).1];have b5:x/4 ^ (ag+1)=x/4 ^ ag/4:=by rw[atP,<-atZ]
        omega
       rw[FP,FN (as_ _),<-FP,cS,d_,d_];rfl
      .have FP:¬(ag=ag/\id=cu x ag):=λe=>afF (by rw[e.2,FO]);rw[FM FP,cS,cS,cS,cS,<-dQ,lV.2,aN];cases fF (ag+1) (cu x (ag+1)) with
       | none=>exact auS (xe _) (xe _)
       | some y=>rfl
     .rw[rb lV,dQ];refine(FM ?_).symm;rintro⟨rfl,rfl⟩;exact lV ⟨rfl,S1⟩
   .by_cases c:ag=h+1/\id=cu x (h+1)
    .rw[zC c] at he;obtain⟨y,_,e⟩:=Option.map_eq_some_iff.1 he;have e:=(at0 e).1;rw[c.1,c.2,FN (by omega),SW o,<-e]
    .rw[rb c] at he;rw[FM cX];exact n.se ag id leaf d hr c he
   .rw[rb (by omega)] at he;have:=n.se h (cu x h) leaf d (by omega) (by omega) he;rw[SV] at this;exact this
   .rw[rb (by omega)];exact n.Cn id
  obtain⟨s5,ev,e5,nx,q8⟩:=SZ o hu pk (op:=op) af (K:=K) (A:=A) h _ _ (by omega) hF jt (by show(S.gone++[_]).length=_;rw[as9,hlen];simp;omega) Ky
   (fin.imp (λf ag hr=>f ag (by omega)) λf ag hr=>⟨by rw[afD,cS];exact(f ag (by omega)).1,(f ag (by omega)).2⟩)
  refine⟨s5,ev,e5,?_,λag hr=>?_⟩
  .have aC:(List.range (h+1+1)).map (λi=>uE G w u x K (h+1-i))=ao::(List.range (h+1)).map (λi=>uE G w u x K (h-i)):=by
    have a7:uE G w u x K (h+1)=ao:=fP;rw[List.range_succ_eq_map,at1,auf,auz,a7];refine congrArg (ao::·) (atv λi _=>?_);show uE G w u x K (h+1-(i+1))=_;rw[show h+1-(i+1)=h-i by omega]
   rw[nx,aC];show S.gone++[ao]++_=_;rw[atr];rfl
  .by_cases c:ag=h+1
   .subst c;rw[(dV _ _).1];exact ar
   .exact q8 ag (by omega)
theorem ab8 (o:G.dk){u0 a:Nat}{S:fj}(hu:S.used=u0+2*G.L*a)(pk:S.used+2*G.L<2 ^ 63)(dY:kD G w u0 S.used S)(cR:S.gone.length=G.L*a){op:fN}{x:Nat}(af:x<2 ^ G.m)(ra:x/4 ^ (G.L-1)<G.top){fF:rP}{K:qR}{A:UInt64->Option ei}(n:s4 G S fF K A)
 (fin:(∀h,h<G.L->(gV G w op x S).1.over h=false)∨(∀h,h<G.L->S.over h=false/\((gV G w op x S).1.ids h).length<=G.t)) :
 ∃s5,s4 G (gV G w op x S).1 s5 (od G w S.used x K 0) (λid=>if id=cu x 0 then op.now (m9 A id).1 (m9 A id).2 else A id)/\(gV G w op x S).2=m9 A (cu x 0) /\
  (gV G w op x S).1.gone=S.gone++(List.range G.L).map (λi=>uE G w S.used x K (G.L-1-i))/\∀h,h<G.L->(gV G w op x S).1.over h=false:=by
 have fp:=o.L;obtain⟨s1,s2⟩:=FI o hu (by omega) dY ra;have tx:=(nL o af (h:=G.L-1)).1;have kd:∀(c:cM) h r i,G.bS h (fs S.R (G.f,x/4 ^ (G.L-1)) c) r i=G.bS h S.R r i:=λc h r i=>by
  unfold c2.bS jg fs;rw[as7 (λe=>by have:=e.1;unfold c2.base at this;omega)]
 have ab:K (G.L-1) (cu x (G.L-1))=((S.R G.f (x/4 ^ (G.L-1)))[0],(S.R G.f (x/4 ^ (G.L-1)))[1]):=by
  rw[<-n.qW (G.L-1) _ (by omega)];unfold told;rw[d_,tx]
 have kB:gV G w op x S=j2 G w S.used op x (G.L-1) (K (G.L-1) (cu x (G.L-1))).1 (K (G.L-1) (cu x (G.L-1))).2 (G.begin w (x/4 ^ (G.L-1)) S):=by rw[ab];rfl
 rw[kB] at fin ⊢;have S3:∀ag id,¬(ag=G.L-1/\id=cu x (G.L-1))->ag<G.L->od G w S.used x K (G.L-1) ag id=K ag id:=λag id aH bT=>by
  unfold od;rw[as7];rintro⟨aX,aZ⟩;have:ag=G.L-1:=by omega
  exact aH ⟨this,by rw[aX,this]⟩
 have Ky:Kx G w S.used x (G.L-1) (G.begin w (x/4 ^ (G.L-1)) S) fF K A:=by
  refine⟨λh bT=>(n.li h bT).congr λr i _=>kd _ h r i,λag id hr=>?_,λag id leaf d hr cX he=>?_,λleaf d he=>n.se _ _ leaf d (by omega) he,n.Cn,n.mt⟩
  .have dQ:=n.qW ag id hr;by_cases c:ag=G.L-1/\id=cu x (G.L-1)
   .rw[c.1,c.2,FN (as_ _)];unfold told;rw[d_,tx];have:(G.begin w (x/4 ^ (G.L-1)) S).R G.f (x/4 ^ (G.L-1))=sc (Co G w S.used (G.L-1)).1 (Co G w S.used (G.L-1)).2:=by
     show fs S.R _ _ G.f _=_;unfold fs;rw[as8 ⟨rfl,rfl⟩];rfl
    rw[this];rfl
   .rw[S3 ag id c hr,<-dQ];unfold told;by_cases xg:ag+1=G.L
    .rw[as8 xg,as8 xg];have cX:id.toNat≠x/4 ^ (G.L-1):=λe=>c ⟨by omega,att.1 (by rw[tx,e])⟩;have:(G.begin w (x/4 ^ (G.L-1)) S).R G.f id.toNat=S.R G.f id.toNat:=by
      show fs S.R _ _ G.f _=_;unfold fs;rw[as7 (λh=>cX h.2)]
     rw[this]
    .rw[as7 xg,as7 xg]
  .rw[S3 ag id cX hr];exact n.se ag id leaf d hr he
 have zD:sd G w u0 (G.bG S.used (G.L-1)+1) (G.L-1) (G.begin w (x/4 ^ (G.L-1)) S) (K (G.L-1) (cu x (G.L-1))).1 (K (G.L-1) (cu x (G.L-1))).2:=by rw[ab];exact s2
 obtain⟨s5,ev,e5,nx,q8⟩:=SZ o hu pk (op:=op) af (K:=K) (A:=A) (G.L-1) _ _ (by omega) s1 zD (by show S.gone.length=_;omega) Ky
  (fin.imp (λf ag hr=>f ag (by omega)) λf ag hr=>f ag (by omega))
 refine⟨s5,ev,e5,?_,λag hr=>q8 ag (by omega)⟩;rw[nx,show G.L-1+1=G.L by omega];rfl
theorem s4.zero {S:fj}(jc:∀r i,S.R r i=gz):s4 G S (λ_ _=>none) (λ_ _=>(0,0)) (λ_=>none):=by
 refine⟨λh _=>mh.zero λr i _=>jc _ _,λh id _=>?_,λh id leaf d _ he=>(by cases he),λ_=>rfl,λh id _ aH=>absurd rfl aH⟩;unfold told;split
 .rw[jc];rfl
 .rfl
theorem kD.zero {u0:Nat}{S:fj}(jc:∀r i,S.R r i=gz)(cR:S.gone=[]):kD G w u0 u0 S:=by
 refine⟨λh _ r i _ au=>?_,λl bz v p he bH=>?_,λl bz v p eF ly hp dF he _ bH=>?_,?_⟩
 .have e:G.bS h S.R r i=gz:=jc _ _;rw[e,tu] at au;cases au
 .cases l with
  | top x=>obtain⟨_,_,e,_⟩:=he;rw[jc] at e;exact absurd e bH
  | b_ h r i q =>
   obtain⟨_,_,_,au,_⟩:=he;have e:G.bS h S.R r i=gz:=jc _ _;rw[e,tu] at au;cases au
 .cases l with
  | top x=>obtain⟨_,_,e,_⟩:=he;rw[jc] at e;exact absurd e bH
  | b_ h r i q =>
   obtain⟨_,_,_,au,_⟩:=he;have e:G.bS h S.R r i=gz:=jc _ _;rw[e,tu] at au;cases au
 .rw[cR];exact⟨auG,λx af=>(by cases af),λi x hi=>(by simp at hi),λi x hi=>(by simp at hi)⟩

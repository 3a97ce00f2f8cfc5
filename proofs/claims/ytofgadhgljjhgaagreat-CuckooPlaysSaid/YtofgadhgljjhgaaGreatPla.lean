namespace Go.cD
section alm
variable {α:Type}
def nP (key:α->Nat)(up:Bool)(a b:α):α×α:=if (bif up then decide (key b<key a) else decide (key a<key b))=true then (b,a) else (a,b)
def mw (key:α->Nat)(f:Nat->α)(p:Nat×Nat×Bool):Nat->α:=λx =>
 if x=p.1 then (nP key p.2.2 (f p.1) (f p.2.1)).1 else if x=p.2.1 then (nP key p.2.2 (f p.1) (f p.2.1)).2 else f x
def ip (k j n:Nat):List (Nat×Nat×Bool):=((List.range n).filter λi=>decide (i/j%2=0)).map λi=>(i,i+j,decide (i/k%2=0))
theorem aln (k j n:Nat):ip k j (n+1)=ip k j n++(if n/j%2=0 then [(n,n+j,decide (n/k%2=0))] else []):=by
 unfold ip
 rw[List.range_succ,List.filter_append,List.map_append]
 congr 1
 by_cases h:n/j%2=0<;>simp[h]
def vr (n a:Nat):Nat->List (Nat×Nat×Bool)
 | 0=>[]
 | b+1=>ip (2 ^ (a+1)) (2 ^ b) n++vr n a b
def xh (n:Nat):Nat->List (Nat×Nat×Bool)
 | 0=>[]
 | a+1=>xh n a++vr n a (a+1)
def je (K:Nat):List (Nat×Nat×Bool):=xh (2 ^ K) K
def hV (key:α->Nat)(l:List (Nat×Nat×Bool))(f:Nat->α):Nat->α:=l.foldl (mw key) f
def par (key:α->Nat)(k j:Nat)(f:Nat->α)(x:Nat):α :=
 if x/j%2=0 then (nP key (decide (x/k%2=0)) (f x) (f (x+j))).1
 else (nP key (decide ((x-j)/k%2=0)) (f (x-j)) (f x)).2
theorem Ff {x j:Nat}(aV:0<j):(x+j)/j=x/j+1:=Nat.add_div_right x aV
theorem Xv {x j:Nat}(h:x/j%2≠0):j<=x:=by
 rcases Nat.lt_or_ge x j with aa|aa
 .rw[Nat.div_eq_of_lt aa] at h;exact absurd rfl h
 .exact aa
theorem alo {x j:Nat}(aV:0<j)(h:j<=x):(x-j)/j+1=x/j:=by
 have:=Ff (x:=x-j) aV
 rw[Nat.sub_add_cancel h] at this;omega
theorem Fg (key:α->Nat)(l fx:List (Nat×Nat×Bool))(f:Nat->α):hV key (l++fx) f=hV key fx (hV key l f):=by simp[hV,List.foldl_append]
theorem alp (key:α->Nat)(f:Nat->α)(k j:Nat)(aV:0<j)(n:Nat):∀x,hV key (ip k j n) f x =
 if x/j%2=0 then (if x<n then par key k j f x else f x) else (if x-j<n then par key k j f x else f x):=by
 induction n with
 | zero=>intro x;simp[ip,hV]
 | succ n dK =>
  intro x
  rw[aln,Fg]
  by_cases aH:n/j%2=0
  .rw[if_pos aH]
   have dB:∀(g:Nat->α) p y,hV key [p] g y=mw key g p y:=λ_ _ _=>rfl
   rw[dB]
   simp only[mw]
   have aF:hV key (ip k j n) f n=f n:=by rw[dK,if_pos aH,if_neg (by omega)]
   have Oo:(n+j)/j%2≠0:=by rw[Ff aV];omega
   have a8:hV key (ip k j n) f (n+j)=f (n+j):=by rw[dK,if_neg Oo,if_neg (by omega)]
   rw[aF,a8]
   by_cases aa:x=n
   .subst aa;rw[if_pos rfl,if_pos aH,if_pos (by omega),par,if_pos aH]
   .rw[if_neg aa]
    by_cases ad:x=n+j
    .subst ad;rw[if_pos rfl,if_neg Oo,if_pos (by omega),par,if_neg Oo,Nat.add_sub_cancel]
    .rw[if_neg ad,dK]
     by_cases ai:x/j%2=0
     .rw[if_pos ai,if_pos ai]
      by_cases an:x<n
      .rw[if_pos an,if_pos (by omega)]
      .rw[if_neg an,if_neg (by omega)]
     .have:=Xv ai
      rw[if_neg ai,if_neg ai]
      by_cases an:x-j<n
      .rw[if_pos an,if_pos (by omega)]
      .rw[if_neg an,if_neg (by omega)]
  .rw[if_neg aH]
   have dB:∀(g:Nat->α),hV key [] g=g:=λ_=>rfl
   rw[dB,dK]
   by_cases ai:x/j%2=0
   .rw[if_pos ai,if_pos ai]
    have aa:x≠n:=λe=>aH (e▸ai)
    by_cases an:x<n
    .rw[if_pos an,if_pos (by omega)]
    .rw[if_neg an,if_neg (by omega)]
   .rw[if_neg ai,if_neg ai]
    have dx:=Xv ai
    have aa:x-j≠n:=λe=>by
     have:=alo aV dx
     rw[e] at this;omega
    by_cases an:x-j<n
    .rw[if_pos an,if_pos (by omega)]
    .rw[if_neg an,if_neg (by omega)]
def p7 (k j:Nat)(s:Nat->Bool)(x:Nat):Bool :=
 if x/j%2=0 then (bif decide (x/k%2=0) then s x&&s (x+j) else s x||s (x+j))
 else (bif decide ((x-j)/k%2=0) then s (x-j)||s x else s (x-j)&&s x)
theorem Xw (key:α->Nat)(up:Bool)(a b:α)(t:Nat) :
 decide (t<=key (nP key up a b).1)=(bif up then decide (t<=key a)&&decide (t<=key b) else decide (t<=key a)||decide (t<=key b)) /\
 decide (t<=key (nP key up a b).2)=(bif up then decide (t<=key a)||decide (t<=key b) else decide (t<=key a)&&decide (t<=key b)):=by
 unfold nP
 cases up<;>simp only[cond_true,cond_false,decide_eq_true_eq]
 .by_cases h:key a<key b
  .rw[if_pos h];constructor<;>(rw[Bool.eq_iff_iff];simp;omega)
  .rw[if_neg h];constructor<;>(rw[Bool.eq_iff_iff];simp;omega)
 .by_cases h:key b<key a
  .rw[if_pos h];constructor<;>(rw[Bool.eq_iff_iff];simp;omega)
  .rw[if_neg h];constructor<;>(rw[Bool.eq_iff_iff];simp;omega)
theorem alq (key:α->Nat)(k j:Nat)(f:Nat->α)(t x:Nat):decide (t<=key (par key k j f x))=p7 k j (λy=>decide (t<=key (f y))) x:=by
 unfold par p7
 split
 .exact(Xw key _ _ _ t).1
 .exact(Xw key _ _ _ t).2
def tT (a:Nat):Nat->(Nat->Bool)->Nat->Bool
 | 0,s=>s
 | b+1,s=>tT a b (p7 (2 ^ (a+1)) (2 ^ b) s)
def qT:Nat->(Nat->Bool)->Nat->Bool
 | 0,s=>s
 | a+1,s=>tT a (a+1) (qT a s)
theorem Oq {b o i:Nat}(dS:o%2 ^ (b+1)=0)(hi:i<2 ^ (b+1)):(o+i)/2 ^ b%2=0↔i<2 ^ b:=by
 have aS:0<2 ^ b:=Nat.pow_pos (by decide)
 obtain⟨q,rfl⟩:=Nat.dvd_of_mod_eq_zero dS
 have e:2 ^ (b+1)=2 ^ b*2:=Nat.pow_succ 2 b
 rw[e,Nat.mul_assoc,Nat.mul_add_div aS]
 by_cases h:i<2 ^ b
 .rw[Nat.div_eq_of_lt h];simp[h]
 .have:i/2 ^ b=1:=by
   apply Nat.div_eq_of_lt_le<;>omega
  rw[this];simp[h]
theorem alr {a b o i:Nat}(au:b<=a)(dS:o%2 ^ b=0)(hi:i<2 ^ b):(o+i)/2 ^ a=o/2 ^ a:=by
 have aS:0<2 ^ b:=Nat.pow_pos (by decide)
 obtain⟨q,rfl⟩:=Nat.dvd_of_mod_eq_zero dS
 have e:2 ^ a=2 ^ b*2 ^ (a-b):=by rw[<-Nat.pow_add];congr 1;omega
 rw[e,<-Nat.div_div_eq_div_mul,<-Nat.div_div_eq_div_mul,Nat.mul_add_div aS,Nat.div_eq_of_lt hi,Nat.mul_div_cancel_left _ aS,Nat.add_zero]
def tU (s:Nat->Bool)(o m:Nat):Prop:=∃(c:Bool) (u v:Nat),∀i,i<m->s (o+i)=(c ^^ decide (u<=i/\i<v))
theorem Xx {s lo hi:Nat->Bool}{o h:Nat}(aU:tU s o (2*h))(aT:∀i,i<h->lo (o+i)=(s (o+i)&&s (o+i+h)))(bR:∀i,i<h->hi (o+h+i)=(s (o+i)||s (o+i+h))) :
 tU lo o h/\tU hi (o+h) h/\((∀i,i<h->lo (o+i)=false)∨(∀i,i<h->hi (o+h+i)=true)):=by
 obtain⟨c,u,v,e⟩:=aU
 have aF:∀i,i<h->s (o+i)=(c ^^ decide (u<=i/\i<v)):=λi hi=>e i (by omega)
 have a8:∀i,i<h->s (o+i+h)=(c ^^ decide (u<=i+h/\i+h<v)):=λi hi=>by rw[Nat.add_assoc];exact e (i+h) (by omega)
 have L:∀i,i<h->lo (o+i)=((c ^^ decide (u<=i/\i<v))&&(c ^^ decide (u<=i+h/\i+h<v))):=λi hi=>by rw[aT i hi,aF i hi,a8 i hi]
 have H:∀i,i<h->hi (o+h+i)=((c ^^ decide (u<=i/\i<v))||(c ^^ decide (u<=i+h/\i+h<v))):=λi hi=>by rw[bR i hi,aF i hi,a8 i hi]
 clear aT bR e aF a8
 cases c
 .simp only[Bool.false_xor] at L H
  refine⟨⟨false,u,v-h,λi hi=>?_⟩,?_,?_⟩
  .rw[L i hi,Bool.false_xor,Bool.eq_iff_iff];simp;omega
  .by_cases aQ:v<=h
   .exact⟨false,u,v,λi hi=>by rw[H i hi,Bool.false_xor,Bool.eq_iff_iff];simp;omega⟩
   .by_cases aY:h<=u
    .exact⟨false,u-h,v-h,λi hi=>by rw[H i hi,Bool.false_xor,Bool.eq_iff_iff];simp;omega⟩
    .exact⟨true,v-h,u,λi hi=>by rw[H i hi,Bool.true_xor,Bool.eq_iff_iff];simp;omega⟩
  .by_cases aQ:u<v-h/\u<h
   .right;intro i hi;rw[H i hi];simp;omega
   .left;intro i hi;rw[L i hi];simp;omega
 .simp only[Bool.true_xor] at L H
  refine⟨?_,⟨true,u,v-h,λi hi=>?_⟩,?_⟩
  .by_cases aQ:v<=h
   .exact⟨true,u,v,λi hi=>by rw[L i hi,Bool.true_xor,Bool.eq_iff_iff];simp;omega⟩
   .by_cases aY:h<=u
    .exact⟨true,u-h,v-h,λi hi=>by rw[L i hi,Bool.true_xor,Bool.eq_iff_iff];simp;omega⟩
    .exact⟨false,v-h,u,λi hi=>by rw[L i hi,Bool.false_xor,Bool.eq_iff_iff];simp;omega⟩
  .rw[H i hi,Bool.true_xor,Bool.eq_iff_iff];simp;omega
  .by_cases aQ:u<v-h/\u<h
   .left;intro i hi;rw[L i hi];simp;omega
   .right;intro i hi;rw[H i hi];simp;omega
theorem tU.not {s:Nat->Bool}{o m:Nat}(h:tU s o m):tU (λx=>!s x) o m:=by
 obtain⟨c,u,v,e⟩:=h
 exact⟨!c,u,v,λi hi=>by show(!s (o+i))=_;rw[e i hi];cases c<;>simp⟩
def B0 (up:Bool)(s:Nat->Bool)(o m:Nat):Prop:=∀i j,i<=j->j<m->(bif up then s (o+i)=true->s (o+j)=true else s (o+j)=true->s (o+i)=true)
theorem B1 {a:Nat}(c:Bool):∀(b:Nat) (s:Nat->Bool) (o:Nat),b<=a+1->o%2 ^ b=0->(∀i,i<2 ^ b->s (o+i)=c)->∀i,i<2 ^ b->tT a b s (o+i)=c
 | 0,s,o,_,_,h,i,hi=>h i hi
 | b+1,s,o,au,dS,h,i,hi=>by
  have aS:0<2 ^ b:=Nat.pow_pos (by decide)
  have e:2 ^ (b+1)=2 ^ b*2:=Nat.pow_succ 2 b
  have aa:∀i,i<2 ^ (b+1)->p7 (2 ^ (a+1)) (2 ^ b) s (o+i)=c:=by
   intro i hi
   unfold p7
   have ix:=Oq dS hi
   split
   .rename_i h0
    have:=ix.1 h0
    rw[h i hi,show o+i+2 ^ b=o+(i+2 ^ b) by omega,h (i+2 ^ b) (by omega)]
    cases c<;>simp
   .rename_i h0
    have ad:¬i<2 ^ b:=λx=>h0 (ix.2 x)
    rw[h i hi,show o+i-2 ^ b=o+(i-2 ^ b) by omega,h (i-2 ^ b) (by omega)]
    cases c<;>simp
  have zs:o%2 ^ b=0:=by rw[e] at dS;exact Nat.mod_eq_zero_of_dvd (Nat.dvd_trans (Nat.dvd_mul_right _ _) (Nat.dvd_of_mod_eq_zero dS))
  show tT a b (p7 (2 ^ (a+1)) (2 ^ b) s) (o+i)=c
  by_cases an:i<2 ^ b
  .exact B1 (a:=a) c b _ o (by omega) zs (λi hi=>aa i (by omega)) i an
  .have:=B1 (a:=a) c b (p7 (2 ^ (a+1)) (2 ^ b) s) (o+2 ^ b) (by omega) (by rw[Nat.add_mod_right];exact zs) (λi hi=>by rw[Nat.add_assoc];exact aa (2 ^ b+i) (by omega)) (i-2 ^ b) (by omega)
   rw[show o+i=o+2 ^ b+(i-2 ^ b) by omega];exact this
theorem Ot {a:Nat}:∀(b:Nat) (s:Nat->Bool) (o:Nat),b<=a+1->o%2 ^ b=0->tU s o (2 ^ b)->B0 (decide (o/2 ^ (a+1)%2=0)) (tT a b s) o (2 ^ b)
 | 0,s,o,_,_,_=>by
  intro i j aa ad
  have an:i=0/\j=0:=by simp at ad;omega
  obtain⟨rfl,rfl⟩:=an
  cases decide (o/2 ^ (a+1)%2=0)<;>simp
 | b+1,s,o,au,dS,Fh=>by
  have aS:0<2 ^ b:=Nat.pow_pos (by decide)
  have e:2 ^ (b+1)=2*2 ^ b:=by rw[Nat.pow_succ];omega
  have zs:o%2 ^ b=0:=by rw[e] at dS;exact Nat.mod_eq_zero_of_dvd (Nat.dvd_trans (Nat.dvd_mul_left _ _) (Nat.dvd_of_mod_eq_zero dS))
  have Ou:(o+2 ^ b)%2 ^ b=0:=by rw[Nat.add_mod_right];exact zs
  have bV:∀i,i<2 ^ (b+1)->(o+i)/2 ^ (a+1)=o/2 ^ (a+1):=λi hi=>alr au dS hi
  have kz:(o+2 ^ b)/2 ^ (a+1)=o/2 ^ (a+1):=bV _ (by omega)
  generalize iC:p7 (2 ^ (a+1)) (2 ^ b) s=p
  have B2:∀i,i<2 ^ b->p (o+i)=(bif decide (o/2 ^ (a+1)%2=0) then s (o+i)&&s (o+i+2 ^ b) else s (o+i)||s (o+i+2 ^ b)):=λi hi=>by
   rw[<-iC];unfold p7
   rw[if_pos ((Oq dS (by omega)).2 hi),bV i (by omega)]
  have B3:∀i,i<2 ^ b->p (o+2 ^ b+i)=(bif decide (o/2 ^ (a+1)%2=0) then s (o+i)||s (o+i+2 ^ b) else s (o+i)&&s (o+i+2 ^ b)):=λi hi=>by
   rw[<-iC];unfold p7
   have aF:o+2 ^ b+i=o+(2 ^ b+i):=by omega
   rw[if_neg (by rw[aF,Oq dS (by omega)];omega),show o+2 ^ b+i-2 ^ b=o+i by omega,bV i (by omega),show o+2 ^ b+i=o+i+2 ^ b by omega]
  have key:tU p o (2 ^ b)/\tU p (o+2 ^ b) (2 ^ b)/\(bif decide (o/2 ^ (a+1)%2=0) then ((∀i,i<2 ^ b->p (o+i)=false)∨(∀i,i<2 ^ b->p (o+2 ^ b+i)=true)) else ((∀i,i<2 ^ b->p (o+i)=true)∨(∀i,i<2 ^ b->p (o+2 ^ b+i)=false))):=by
   rw[e] at Fh
   cases hu:decide (o/2 ^ (a+1)%2=0) with
   | true =>
    rw[hu] at B2 B3
    simp only[cond_true] at B2 B3 ⊢
    exact Xx Fh B2 B3
   | false =>
    rw[hu] at B2 B3
    simp only[cond_false] at B2 B3 ⊢
    obtain⟨aa,ad,an⟩:=Xx (lo:=λx=>!p x) (hi:=λx=>!p x) Fh.not (λi hi=>by simp[B2 i hi]) (λi hi=>by simp[B3 i hi])
    refine⟨by simpa using aa.not,by simpa using ad.not,?_⟩
    rcases an with an|an
    .left;intro i hi;have:=an i hi;simpa using this
    .right;intro i hi;have:=an i hi;simpa using this
  obtain⟨ae,ay,aN⟩:=key
  have s1:=Ot (a:=a) b p o (by omega) zs ae
  have s2:=Ot (a:=a) b p (o+2 ^ b) (by omega) Ou ay
  rw[kz] at s2
  show B0 _ (tT a b (p7 (2 ^ (a+1)) (2 ^ b) s)) o (2 ^ (b+1))
  rw[iC]
  intro i j n7 aV
  by_cases Ev:j<2 ^ b
  .exact s1 i j n7 Ev
  .by_cases wZ:i<2 ^ b
   .rw[show o+j=o+2 ^ b+(j-2 ^ b) by omega]
    cases hu:decide (o/2 ^ (a+1)%2=0) with
    | true =>
     rw[hu] at aN;simp only[cond_true] at aN ⊢
     rcases aN with aN|aN
     .intro h;rw[B1 false b p o (by omega) zs aN i wZ] at h;cases h
     .intro _;exact B1 true b p _ (by omega) Ou aN _ (by omega)
    | false =>
     rw[hu] at aN;simp only[cond_false] at aN ⊢
     rcases aN with aN|aN
     .intro _;exact B1 true b p o (by omega) zs aN i wZ
     .intro h;rw[B1 false b p _ (by omega) Ou aN _ (by omega)] at h;cases h
   .have:=s2 (i-2 ^ b) (j-2 ^ b) (by omega) (by omega)
    rw[show o+2 ^ b+(i-2 ^ b)=o+i by omega,show o+2 ^ b+(j-2 ^ b)=o+j by omega] at this
    exact this
theorem Ov {s:Nat->Bool}{o:Nat}:∀m,(∀i j,i<=j->j<m->s (o+i)=true->s (o+j)=true)->∃u,u<=m/\∀i,i<m->s (o+i)=decide (u<=i)
 | 0,_=>⟨0,by omega,λi hi=>by omega⟩
 | m+1,h=>by
  obtain⟨u,hu,aU⟩:=Ov m (λi j aa ad=>h i j aa (by omega))
  cases e:s (o+m) with
  | true =>
   refine⟨u,by omega,λi hi=>?_⟩
   by_cases hm:i=m
   .subst hm;rw[e];simp[hu]
   .exact aU i (by omega)
  | false =>
   refine⟨m+1,by omega,λi hi=>?_⟩
   have:s (o+i)≠true:=λx=>by rw[h i m (by omega) (by omega) x] at e;cases e
   simp only[Bool.not_eq_true] at this
   rw[this];simp;omega
theorem als {s:Nat->Bool}{o h:Nat}(aa:B0 true s o h)(ad:B0 false s (o+h) h):tU s o (2*h):=by
 obtain⟨u,hu,aF⟩:=Ov h (λi j a b=>aa i j a b)
 obtain⟨v,bQ,a8⟩:=Ov (s:=λx=>!s x) (o:=o+h) h (λi j a b=>by
  have:=ad i j a b
  simp only[cond_false] at this
  simp only[Bool.not_eq_true']
  intro aH
  cases e:s (o+h+j) with
  | false=>rfl
  | true=>rw[this e] at aH;cases aH)
 refine⟨false,u,h+v,λi hi=>?_⟩
 rw[Bool.false_xor]
 by_cases c:i<h
 .rw[aF i c,Bool.eq_iff_iff];simp;omega
 .have:=a8 (i-h) (by omega)
  rw[show o+h+(i-h)=o+i by omega] at this
  have an:s (o+i)= !decide (v<=i-h):=by rw[<-this];simp
  rw[an,Bool.eq_iff_iff];simp;omega
theorem Ow:∀(a:Nat) (s:Nat->Bool) (o:Nat),o%2 ^ a=0->B0 (decide (o/2 ^ a%2=0)) (qT a s) o (2 ^ a)
 | 0,s,o,_=>by
  intro i j aa ad
  have an:i=0/\j=0:=by simp at ad;omega
  obtain⟨rfl,rfl⟩:=an
  cases decide (o/2 ^ 0%2=0)<;>simp
 | a+1,s,o,dS=>by
  have aS:0<2 ^ a:=Nat.pow_pos (by decide)
  have e:2 ^ (a+1)=2*2 ^ a:=by rw[Nat.pow_succ];omega
  show B0 _ (tT a (a+1) (qT a s)) o (2 ^ (a+1))
  refine Ot (a+1) _ o (Nat.le_refl _) dS ?_
  obtain⟨q,rfl⟩:=Nat.dvd_of_mod_eq_zero dS
  have aF:2 ^ (a+1)*q/2 ^ a=2*q:=by
   rw[e,show 2*2 ^ a*q=2 ^ a*(2*q) by rw[Nat.mul_comm 2,Nat.mul_assoc]]
   exact Nat.mul_div_cancel_left _ aS
  have m7:2 ^ (a+1)*q%2 ^ a=0:=by
   rw[e,show 2*2 ^ a*q=2 ^ a*(2*q) by rw[Nat.mul_comm 2,Nat.mul_assoc]]
   exact Nat.mul_mod_right _ _
  have s1:=Ow a s (2 ^ (a+1)*q) m7
  have s2:=Ow a s (2 ^ (a+1)*q+2 ^ a) (by rw[Nat.add_mod_right];exact m7)
  rw[aF,decide_eq_true (by omega)] at s1
  rw[Ff aS,aF,decide_eq_false (by omega)] at s2
  rw[e];rw[e] at s1 s2
  exact als s1 s2
theorem alu (key:α->Nat){K a b:Nat}(au:b<K)(f:Nat->α){x:Nat}(ai:x<2 ^ K):hV key (ip (2 ^ (a+1)) (2 ^ b) (2 ^ K)) f x=par key (2 ^ (a+1)) (2 ^ b) f x:=by
 rw[alp key f _ _ (Nat.pow_pos (by decide)),if_pos ai,if_pos (Nat.lt_of_le_of_lt (Nat.sub_le x (2 ^ b)) ai),ite_self]
theorem alv {K b k:Nat}(au:b<K){s cX:Nat->Bool}(h:∀x,x<2 ^ K->s x=cX x){x:Nat}(ai:x<2 ^ K):p7 k (2 ^ b) s x=p7 k (2 ^ b) cX x:=by
 unfold p7
 split
 .rename_i h0
  have aS:0<2 ^ b:=Nat.pow_pos (by decide)
  have ad:x+2 ^ b<2 ^ K:=by
   have e:2 ^ K=2 ^ b*2 ^ (K-b):=by rw[<-Nat.pow_add];congr 1;omega
   have a8:2 ^ (K-b)%2=0:=by
    rw[show K-b=(K-b-1)+1 by omega,Nat.pow_succ];omega
   have an:x/2 ^ b<2 ^ (K-b):=by rw[Nat.div_lt_iff_lt_mul aS,Nat.mul_comm,<-e];exact ai
   have aK:x/2 ^ b+1<2 ^ (K-b):=by omega
   have aR:(x+2 ^ b)/2 ^ b<2 ^ (K-b):=by rw[Ff aS];exact aK
   rw[Nat.div_lt_iff_lt_mul aS,Nat.mul_comm,<-e] at aR;exact aR
  rw[h x ai,h _ ad]
 .rename_i h0
  rw[h x ai,h (x-2 ^ b) (Nat.lt_of_le_of_lt (Nat.sub_le x (2 ^ b)) ai)]
theorem Xy (key:α->Nat){K a:Nat}(t:Nat):∀(b:Nat) (f:Nat->α) (s:Nat->Bool),b<=K->(∀x,x<2 ^ K->s x=decide (t<=key (f x)))->∀x,x<2 ^ K->tT a b s x=decide (t<=key (hV key (vr (2 ^ K) a b) f x))
 | 0,f,s,_,h,x,ai=>h x ai
 | b+1,f,s,au,h,x,ai=>by
  show tT a b _ x=decide (t<=key (hV key (ip (2 ^ (a+1)) (2 ^ b) (2 ^ K)++vr (2 ^ K) a b) f x))
  rw[Fg]
  refine Xy key t b _ _ (by omega) (λx ai=>?_) x ai
  rw[alu key (by omega) f ai,alq]
  exact alv (by omega) h ai
theorem Ox (key:α->Nat){K:Nat}(t:Nat)(f:Nat->α):∀a,a<=K->∀x,x<2 ^ K->qT a (λx=>decide (t<=key (f x))) x=decide (t<=key (hV key (xh (2 ^ K) a) f x))
 | 0,_,x,ai=>rfl
 | a+1,bO,x,ai=>by
  show tT a (a+1) _ x=decide (t<=key (hV key (xh (2 ^ K) a++vr (2 ^ K) a (a+1)) f x))
  rw[Fg]
  exact Xy key t (a+1) _ _ bO (Ox key t f a (by omega)) x ai
theorem Jh (key:α->Nat)(K:Nat)(f:Nat->α){i j:Nat}(n7:i<=j)(aV:j<2 ^ K):key (hV key (je K) f i)<=key (hV key (je K) f j):=by
 have h:=Ow K (λx=>decide (key (hV key (je K) f i)<=key (f x))) 0 (Nat.zero_mod _)
 rw[Nat.zero_div,decide_eq_true (by decide)] at h
 have aa:=h i j n7 aV
 simp only[cond_true,Nat.zero_add] at aa
 rw[Ox key _ f K (Nat.le_refl _) i (by omega),Ox key _ f K (Nat.le_refl _) j aV] at aa
 exact of_decide_eq_true (aa (decide_eq_true (Nat.le_refl _)))
theorem alw {n i j:Nat}(hi:i<n)(aV:j<n)(df:i≠j){f g:Nat->α}(h:∀x,x≠i->x≠j->g x=f x)(aU:(g i=f i/\g j=f j)∨(g i=f j/\g j=f i)) :
 ((List.range n).map g).Perm ((List.range n).map f):=by
 have gX:(List.range n).Perm (i::j::((List.range n).erase i).erase j) :=
  (List.perm_cons_erase (List.mem_range.2 hi)).trans (List.Perm.cons _ (List.perm_cons_erase ((List.mem_erase_of_ne df.symm).2 (List.mem_range.2 aV))))
 have ir:(List.range n).Nodup:=List.nodup_range
 have aP:(((List.range n).erase i).erase j).map g=(((List.range n).erase i).erase j).map f:=by
  apply List.map_congr_left
  intro x ai
  have aa:=(List.Nodup.mem_erase_iff (ir.erase i)).1 ai
  have ad:=(List.Nodup.mem_erase_iff ir).1 aa.2
  exact h x ad.1 aa.1
 have aF:=gX.map g
 have a8:=gX.map f
 simp only[List.map_cons] at aF a8
 rw[aP] at aF
 rcases aU with ⟨a,b⟩|⟨a,b⟩
 .rw[a,b] at aF;exact aF.trans a8.symm
 .rw[a,b] at aF;exact aF.trans ((List.Perm.swap _ _ _).trans a8.symm)
theorem alx (key:α->Nat)(f:Nat->α){n:Nat}{p:Nat×Nat×Bool}(aa:p.1<p.2.1)(ad:p.2.1<n):((List.range n).map (mw key f p)).Perm ((List.range n).map f):=by
 refine alw (i:=p.1) (j:=p.2.1) (by omega) ad (by omega) (λx a b=>by simp[mw,a,b]) ?_
 have aF:mw key f p p.1=(nP key p.2.2 (f p.1) (f p.2.1)).1:=by simp[mw]
 have a8:mw key f p p.2.1=(nP key p.2.2 (f p.1) (f p.2.1)).2:=by simp only[mw];rw[if_neg (by omega)];simp
 rw[aF,a8]
 unfold nP
 split
 .exact .inr ⟨rfl,rfl⟩
 .exact .inl ⟨rfl,rfl⟩
theorem aly (key:α->Nat)(f:Nat->α){n:Nat}{p:Nat×Nat×Bool}(aa:p.1<p.2.1)(ad:p.2.1<n){x:Nat}(ai:n<=x):mw key f p x=f x:=by
 simp only[mw];rw[if_neg (by omega),if_neg (by omega)]
theorem Xz (key:α->Nat){n:Nat}:∀(l:List (Nat×Nat×Bool)) (f:Nat->α),(∀p∈l,p.1<p.2.1/\p.2.1<n)->((List.range n).map (hV key l f)).Perm ((List.range n).map f)/\∀x,n<=x->hV key l f x=f x
 | [],f,_=>⟨List.Perm.refl _,λ_ _=>rfl⟩
 | p::l,f,h=>by
  have aS:=h p (List.mem_cons_self ..)
  obtain⟨aa,ad⟩:=Xz key l (mw key f p) (λq aj=>h q (List.mem_cons_of_mem _ aj))
  exact⟨aa.trans (alx key f aS.1 aS.2),λx ai=>(ad x ai).trans (aly key f aS.1 aS.2 ai)⟩
theorem alz {K b k:Nat}(au:b<K):∀p∈ip k (2 ^ b) (2 ^ K),p.1<p.2.1/\p.2.1<2 ^ K:=by
 intro p aS
 have rK:0<2 ^ b:=Nat.pow_pos (by decide)
 simp only[ip,List.mem_map,List.mem_filter,List.mem_range,decide_eq_true_eq] at aS
 obtain⟨x,⟨ai,h0⟩,rfl⟩:=aS
 refine⟨by show x<x+2 ^ b;omega,?_⟩
 show x+2 ^ b<2 ^ K
 have e:2 ^ K=2 ^ b*2 ^ (K-b):=by rw[<-Nat.pow_add];congr 1;omega
 have a8:2 ^ (K-b)%2=0:=by
  rw[show K-b=(K-b-1)+1 by omega,Nat.pow_succ];omega
 have an:x/2 ^ b<2 ^ (K-b):=by rw[Nat.div_lt_iff_lt_mul rK,Nat.mul_comm,<-e];exact ai
 have aR:(x+2 ^ b)/2 ^ b<2 ^ (K-b):=by rw[Ff rK];omega
 rw[Nat.div_lt_iff_lt_mul rK,Nat.mul_comm,<-e] at aR;exact aR
theorem XA {K a:Nat}:∀b,b<=K->∀p∈vr (2 ^ K) a b,p.1<p.2.1/\p.2.1<2 ^ K
 | 0,_,p,aS=>by simp[vr] at aS
 | b+1,au,p,aS=>by
  rcases List.mem_append.1 aS with h|h
  .exact alz (by omega) p h
  .exact XA b (by omega) p h
theorem Fi {K:Nat}:∀a,a<=K->∀p∈xh (2 ^ K) a,p.1<p.2.1/\p.2.1<2 ^ K
 | 0,_,p,aS=>by simp[xh] at aS
 | a+1,bO,p,aS=>by
  rcases List.mem_append.1 aS with h|h
  .exact Fi a (by omega) p h
  .exact XA (a+1) bO p h
theorem XB (key:α->Nat)(K:Nat)(f:Nat->α):((List.range (2 ^ K)).map (hV key (je K) f)).Perm ((List.range (2 ^ K)).map f)/\∀x,2 ^ K<=x->hV key (je K) f x=f x :=
 Xz key _ f (Fi K (Nat.le_refl _))
end alm
end Go.cD
namespace Go.cD
section alA
variable {α:Type}
def dQ (d:Nat->α)(i j:Nat):Nat->α:=λx=>if x=i then d j else if x=j then d i else d x
def dc (a b:Nat)(d bC:Nat->α):Prop:=(∀x,x<a∨b<=x->bC x=d x)/\((List.range' a (b-a)).map bC).Perm ((List.range' a (b-a)).map d)
theorem dc.refl (a b:Nat)(d:Nat->α):dc a b d d:=⟨λ_ _=>rfl,List.Perm.refl _⟩
theorem dc.trans {a b:Nat}{d bC XC:Nat->α}(p:dc a b d bC)(q:dc a b bC XC):dc a b d XC :=
 ⟨λx ai=>(q.1 x ai).trans (p.1 x ai),q.2.trans p.2⟩
theorem XD {a m b:Nat}(aa:a<=m)(ad:m<=b):List.range' a (b-a)=List.range' a (m-a)++List.range' m (b-m):=by
 rw[show b-a=(m-a)+(b-m) by omega,<-List.range'_append_1,show a+(m-a)=m by omega]
theorem XE {a n:Nat}{d bC:Nat->α}(h:∀x,a<=x->x<a+n->bC x=d x):(List.range' a n).map bC=(List.range' a n).map d :=
 List.map_congr_left λx ai=>by
  have:=List.mem_range'_1.1 ai
  exact h x this.1 this.2
theorem dc.mono {a b dT jN:Nat}{d bC:Nat->α}(p:dc a b d bC)(aa:dT<=a)(ad:a<=b)(an:b<=jN):dc dT jN d bC:=by
 refine⟨λx ai=>p.1 x (by omega),?_⟩
 rw[XD (m:=a) aa (by omega),XD (a:=a) (m:=b) ad an]
 simp only[List.map_append]
 rw[XE (a:=dT) (d:=d) (bC:=bC) λx _ ai=>p.1 x (by omega),XE (a:=b) (d:=d) (bC:=bC) λx ai _=>p.1 x (by omega)]
 exact(List.Perm.refl _).append (p.2.append (List.Perm.refl _))
theorem dc.all {a b:Nat}{d bC:Nat->α}(p:dc a b d bC){P:α->Prop}(h:∀x,a<=x->x<b->P (d x)){x:Nat}(aa:a<=x)(ad:x<b):P (bC x):=by
 have hm:bC x∈(List.range' a (b-a)).map bC:=List.mem_map_of_mem (List.mem_range'_1.2 ⟨aa,by omega⟩)
 obtain⟨y,aB,e⟩:=List.mem_map.1 (p.2.mem_iff.1 hm)
 have:=List.mem_range'_1.1 aB
 rw[<-e];exact h y this.1 (by omega)
theorem dc.dQ {a b i j:Nat}(d:Nat->α)(hi:a<=i/\i<b)(aV:a<=j/\j<b):dc a b d (dQ d i j):=by
 refine⟨λx ai=>by simp only[Go.cD.dQ];rw[if_neg (by omega),if_neg (by omega)],?_⟩
 by_cases e:i=j
 .subst e
  have:Go.cD.dQ d i i=d:=by funext x;simp only[Go.cD.dQ];split<;>simp_all
  rw[this]
 have ir:(List.range' a (b-a)).Nodup:=List.nodup_range'
 have gX:(List.range' a (b-a)).Perm (i::j::((List.range' a (b-a)).erase i).erase j) :=
  (List.perm_cons_erase (List.mem_range'_1.2 ⟨hi.1,by omega⟩)).trans (List.Perm.cons _ (List.perm_cons_erase ((List.mem_erase_of_ne (λh=>e h.symm)).2 (List.mem_range'_1.2 ⟨aV.1,by omega⟩))))
 have aP:(((List.range' a (b-a)).erase i).erase j).map (Go.cD.dQ d i j)=(((List.range' a (b-a)).erase i).erase j).map d:=by
  apply List.map_congr_left
  intro x ai
  have aa:=(List.Nodup.mem_erase_iff (ir.erase i)).1 ai
  have ad:=(List.Nodup.mem_erase_iff ir).1 aa.2
  simp only[Go.cD.dQ];rw[if_neg ad.1,if_neg aa.1]
 have aF:=gX.map (Go.cD.dQ d i j)
 have a8:=gX.map d
 simp only[List.map_cons] at aF a8
 rw[aP] at aF
 have aq:Go.cD.dQ d i j i=d j:=by simp[Go.cD.dQ]
 have aM:Go.cD.dQ d i j j=d i:=by simp only[Go.cD.dQ];rw[if_neg (λh=>e h.symm)];simp
 rw[aq,aM] at aF
 exact aF.trans ((List.Perm.swap _ _ _).trans a8.symm)
def cP (key:α->Nat)(a b:Nat)(d:Nat->α):Prop:=∀i j,a<=i->i<=j->j<b->key (d i)<=key (d j)
variable {key:α->Nat}
theorem cP.sub {a b dT jN:Nat}{d:Nat->α}(s:cP key a b d)(aa:a<=dT)(ad:jN<=b):cP key dT jN d:=λi j x y z=>s i j (by omega) y (by omega)
theorem cP.congr {a b:Nat}{d bC:Nat->α}(s:cP key a b d)(h:∀x,a<=x->x<b->bC x=d x):cP key a b bC:=λi j x y z=>by
 rw[h i x (by omega),h j (by omega) z];exact s i j x y z
theorem cP.one {a b:Nat}(h:b<=a+1)(d:Nat->α):cP key a b d:=λi j aa ad an=>by
 have:i=j:=by omega
 subst this;exact Nat.le_refl _
theorem cP.join {a m b:Nat}{d:Nat->α}(s:cP key a m d)(t:cP key m b d)(h:∀i j,a<=i->i<m->m<=j->j<b->key (d i)<=key (d j)):cP key a b d:=λi j x y z=>by
 by_cases aQ:j<m
 .exact s i j x y aQ
 .by_cases aY:i<m
  .exact h i j x aY (by omega) z
  .exact t i j (by omega) y z
structure sO (key:α->Nat)(a i j:Nat)(e:Nat->α):Prop where
 low:a<=j/\j<=i
 ord:∀x y,a<=x->x<=y->y<=i->x≠j->y≠j->key (e x)<=key (e y)
 up:∀y,j<y->y<=i->key (e j)<key (e y)
theorem sO.start {a i:Nat}{e:Nat->α}(h:a<=i)(s:cP key a i e):sO key a i i e:=⟨⟨h,Nat.le_refl _⟩,λx y aa ad an aK aR=>s x y aa ad (by omega),λy aa ad=>by omega⟩
theorem sO.step {a i j:Nat}{e:Nat->α}(s:sO key a i j e)(aV:a<j)(ca:key (e j)<key (e (j-1))):sO key a i (j-1) (dQ e j (j-1)):=by
 have k6:dQ e j (j-1) j=e (j-1):=by simp[dQ]
 have alB:dQ e j (j-1) (j-1)=e j:=by simp only[dQ];rw[if_neg (by omega)];simp
 have tH:∀x,x≠j->x≠j-1->dQ e j (j-1) x=e x:=λx aa ad=>by simp only[dQ];rw[if_neg aa,if_neg ad]
 have aT:=s.low
 refine⟨by omega,λx y aa ad an aK aR=>?_,λy aa ad=>?_⟩
 .by_cases aQ:x=j
  .by_cases aY:y=j
   .rw[aQ,aY];exact Nat.le_refl _
   .rw[aQ,k6,tH y aY aR];exact s.ord (j-1) y (by omega) (by omega) an (by omega) aY
  .by_cases aY:y=j
   .rw[aY,k6,tH x aQ aK];exact s.ord x (j-1) aa (by omega) (by omega) aQ (by omega)
   .rw[tH x aQ aK,tH y aY aR];exact s.ord x y aa ad an aQ aY
 .rw[alB]
  by_cases c:y=j
  .rw[c,k6];exact ca
  .rw[tH y c (by omega)];exact s.up y (by omega) ad
theorem sO.done {a i j:Nat}{e:Nat->α}(s:sO key a i j e)(h:j<=a∨¬key (e j)<key (e (j-1))):cP key a (i+1) e:=λx y aa ad an=>by
 have aT:=s.low
 by_cases aQ:x=j
 .by_cases aY:y=j
  .rw[aQ,aY];exact Nat.le_refl _
  .rw[aQ];exact Nat.le_of_lt (s.up y (by omega) (by omega))
 .by_cases aY:y=j
  .rcases h with h|h
   .omega
   .rw[aY]
    have aK:key (e x)<=key (e (j-1)):=s.ord x (j-1) aa (by omega) (by omega) aQ (by omega)
    omega
  .exact s.ord x y aa ad (by omega) aQ aY
def pn (d:Nat->α)(a k:Nat):Nat->α:=λx=>if a<=x/\x<k then d (x+1) else if x=k then d a else d x
theorem B4 (d:Nat->α)(a:Nat):pn d a a=d:=by
 funext x;simp only[pn];rw[if_neg (by omega)];split
 .rename_i h;rw[h]
 .rfl
theorem XF {d:Nat->α}{a k:Nat}(h:a<=k):dQ (pn d a k) k (k+1)=pn d a (k+1):=by
 funext x
 simp only[dQ,pn]
 by_cases aQ:x=k
 .rw[if_pos aQ,if_neg (by omega),if_neg (by omega),if_pos (by omega),aQ]
 .rw[if_neg aQ]
  by_cases aY:x=k+1
  .rw[if_pos aY,if_neg (by omega),if_pos trivial,if_neg (by omega)];simp[aY]
  .rw[if_neg aY]
   by_cases ck:a<=x/\x<k
   .rw[if_pos ck,if_pos (by omega)]
   .rw[if_neg ck,if_neg aQ,if_neg (by omega),if_neg aY]
theorem XG {d:Nat->α}{a i b:Nat}(aa:a<i)(ad:i<=b)(s:cP key (a+1) b d)(lo:∀x,a+1<=x->x<i->key (d x)<key (d a))(hi:∀x,i<=x->x<b->key (d a)<=key (d x)):cP key a b (pn d a (i-1)):=λx y an aK aR=>by
 simp only[pn]
 by_cases aQ:a<=x/\x<i-1
 .rw[if_pos aQ]
  by_cases aY:a<=y/\y<i-1
  .rw[if_pos aY];exact s _ _ (by omega) (by omega) (by omega)
  .rw[if_neg aY]
   by_cases ck:y=i-1
   .rw[if_pos ck];exact Nat.le_of_lt (lo _ (by omega) (by omega))
   .rw[if_neg ck];exact s _ _ (by omega) (by omega) (by omega)
 .rw[if_neg aQ,if_neg (show ¬(a<=y/\y<i-1) by omega)]
  by_cases ck:x=i-1
  .rw[if_pos ck]
   by_cases dz:y=i-1
   .rw[if_pos dz];exact Nat.le_refl _
   .rw[if_neg dz];exact hi _ (by omega) (by omega)
  .rw[if_neg ck,if_neg (by omega)];exact s _ _ (by omega) (by omega) (by omega)
def po (d:Nat->α)(m k:Nat):Nat->α:=λx=>if k<x/\x<=m then d (x-1) else if x=k then d m else d x
theorem B5 (d:Nat->α)(m:Nat):po d m m=d:=by
 funext x;simp only[po];rw[if_neg (by omega)];split
 .rename_i h;rw[h]
 .rfl
theorem XH {d:Nat->α}{m k:Nat}(h:k<=m)(h0:0<k):dQ (po d m k) k (k-1)=po d m (k-1):=by
 funext x
 simp only[dQ,po]
 by_cases aQ:x=k
 .rw[if_pos aQ,if_neg (by omega),if_neg (by omega),if_pos (by omega),aQ]
 .rw[if_neg aQ]
  by_cases aY:x=k-1
  .rw[if_pos aY,if_neg (by omega),if_pos trivial,if_neg (by omega)];simp[aY]
  .rw[if_neg aY]
   by_cases ck:k<x/\x<=m
   .rw[if_pos ck,if_pos (by omega)]
   .rw[if_neg ck,if_neg aQ,if_neg (by omega),if_neg aY]
theorem XI {d:Nat->α}{a i m:Nat}(aa:a<=i)(ad:i<=m)(s:cP key a m d)(lo:∀x,a<=x->x<i->key (d x)<=key (d m))(hi:∀x,i<=x->x<m->key (d m)<key (d x)):cP key a (m+1) (po d m i):=λx y an aK aR=>by
 simp only[po]
 by_cases aQ:i<y/\y<=m
 .rw[if_pos aQ]
  by_cases aY:i<x/\x<=m
  .rw[if_pos aY];exact s _ _ (by omega) (by omega) (by omega)
  .rw[if_neg aY]
   by_cases ck:x=i
   .rw[if_pos ck];exact Nat.le_of_lt (hi _ (by omega) (by omega))
   .rw[if_neg ck];exact s _ _ (by omega) (by omega) (by omega)
 .rw[if_neg aQ,if_neg (show ¬(i<x/\x<=m) by omega)]
  by_cases ck:y=i
  .rw[if_pos ck]
   by_cases dz:x=i
   .rw[if_pos dz];exact Nat.le_refl _
   .rw[if_neg dz];exact lo _ (by omega) (by omega)
  .rw[if_neg ck,if_neg (by omega)];exact s _ _ (by omega) (by omega) (by omega)
def kh (d:Nat->α)(a b n:Nat):Nat->α:=λx=>if a<=x/\x<a+n then d (x-a+b) else if b<=x/\x<b+n then d (x-b+a) else d x
theorem Ji (d:Nat->α)(a b:Nat):kh d a b 0=d:=by funext x;simp only[kh];rw[if_neg (by omega),if_neg (by omega)]
theorem XJ {d:Nat->α}{a b n:Nat}(h:a+n<b):dQ (kh d a b n) (a+n) (b+n)=kh d a b (n+1):=by
 funext x;simp only[dQ,kh]
 repeat' split
 all_goals first|(exfalso;omega)|rfl|(congr 1;omega)
def ha (d:Nat->α)(a m b:Nat):Nat->α:=λx=>if a<=x/\x<a+(b-m) then d (x+(m-a)) else if a+(b-m)<=x/\x<b then d (x-(b-m)) else d x
theorem XK {d:Nat->α}{m i:Nat}(h:i<=m):kh d (m-i) m i=ha d (m-i) m (m+i):=by
 funext x;simp only[kh,ha]
 repeat' split
 all_goals first|(exfalso;omega)|rfl|(congr 1;omega)
theorem XL {d:Nat->α}{m i j:Nat}(h:i<=m)(aV:j<i):ha (kh d (m-i) m j) (m-(i-j)) m (m+j)=ha d (m-i) m (m+j):=by
 funext x;simp only[kh,ha]
 repeat' split
 all_goals first|(exfalso;omega)|rfl|(congr 1;omega)
theorem XM {d:Nat->α}{m i j:Nat}(h:i<=m)(aV:i<j):ha (kh d (m-i) (m+j-i) i) (m-i) m (m+(j-i))=ha d (m-i) m (m+j):=by
 funext x;simp only[kh,ha]
 repeat' split
 all_goals first|(exfalso;omega)|rfl|(congr 1;omega)
theorem B6 (d:Nat->α)(m b:Nat)(h:m<=b):ha d m m b=d:=by
 funext x;simp only[ha]
 by_cases aQ:m<=x/\x<m+(b-m)
 .rw[if_pos aQ];congr 1;omega
 .rw[if_neg aQ,if_neg (by omega)]
theorem B7 (d:Nat->α)(a m:Nat)(h:a<=m):ha d a m m=d:=by
 funext x;simp only[ha]
 rw[if_neg (by omega)]
 by_cases aQ:a+(m-m)<=x/\x<m
 .rw[if_pos aQ];congr 1;omega
 .rw[if_neg aQ]
structure Cut (key:α->Nat)(a m b st:Nat)(d:Nat->α):Prop where
 lo:a<=st/\st<=m/\st<=(a+b)/2
 ej:m<=(a+b)/2+m-st/\(a+b)/2+m-st<=b
 bq:st<m->m<(a+b)/2+m-st->key (d ((a+b)/2+m-st-1))<=key (d st)
 bz:a<st->(a+b)/2+m-st<b->key (d (st-1))<=key (d ((a+b)/2+m-st))
theorem Cut.use {a m b st:Nat}{d d1:Nat->α}(XN:a<m/\m<b)(s1:cP key a m d)(s2:cP key m b d)(c:Cut key a m b st d)(bV:d1=ha d st m ((a+b)/2+m-st)) :
 cP key a st d1/\cP key st ((a+b)/2) d1/\cP key ((a+b)/2) ((a+b)/2+m-st) d1/\cP key ((a+b)/2+m-st) b d1/\∀i j,a<=i->i<(a+b)/2->(a+b)/2<=j->j<b->key (d1 i)<=key (d1 j):=by
 subst bV
 obtain⟨⟨h_,gx,o6⟩,⟨aF,a8⟩,bq,bz⟩:=c
 generalize nQ:(a+b)/2=dq at *
 have tu:a<=dq/\dq<b:=by omega
 generalize Jj:dq+m-st=ej at *
 have j7:st+(ej-m)=dq:=by omega
 have ew:∀x,x<st->ha d st m ej x=d x:=λx ai=>by simp only[ha];rw[if_neg (by omega),if_neg (by omega)]
 have fF:∀x,st<=x->x<dq->ha d st m ej x=d (x+(m-st)):=λx aa ad=>by simp only[ha];rw[if_pos (by omega)]
 have n8:∀x,dq<=x->x<ej->ha d st m ej x=d (x-(ej-m)):=λx aa ad=>by simp only[ha];rw[if_neg (by omega),if_pos (by omega)]
 have sP:∀x,ej<=x->ha d st m ej x=d x:=λx ai=>by simp only[ha];rw[if_neg (by omega),if_neg (by omega)]
 refine⟨λi j aa ad an=>?_,λi j aa ad an=>?_,λi j aa ad an=>?_,λi j aa ad an=>?_,λi j aa ad an aK=>?_⟩
 .rw[ew i (by omega),ew j an];exact s1 _ _ aa ad (by omega)
 .rw[fF i aa (by omega),fF j (by omega) an];exact s2 _ _ (by omega) (by omega) (by omega)
 .rw[n8 i aa (by omega),n8 j (by omega) an];exact s1 _ _ (by omega) (by omega) (by omega)
 .rw[sP i aa,sP j (by omega)];exact s2 _ _ (by omega) (by omega) an
 .by_cases aQ:i<st
  .rw[ew i aQ]
   by_cases aY:j<ej
   .rw[n8 j an aY];exact s1 _ _ aa (by omega) (by omega)
   .rw[sP j (by omega)]
    have aE:key (d i)<=key (d (st-1)):=s1 _ _ aa (by omega) (by omega)
    have aC:=bz (by omega) (by omega)
    have aI:key (d ej)<=key (d j):=s2 _ _ (by omega) (by omega) aK
    omega
  .rw[fF i (by omega) ad]
   by_cases aY:j<ej
   .rw[n8 j an aY]
    have aE:key (d (i+(m-st)))<=key (d (ej-1)):=s2 _ _ (by omega) (by omega) (by omega)
    have aC:=bq (by omega) (by omega)
    have aI:key (d st)<=key (d (j-(ej-m))):=s1 _ _ (by omega) (by omega) (by omega)
    omega
   .rw[sP j (by omega)];exact s2 _ _ (by omega) (by omega) aK
theorem merge_join {a dq b:Nat}{d1 d2 d3:Nat->α}(h:a<=dq/\dq<=b)(gX:dc a dq d1 d2)(s1:cP key a dq d2)(h9:dc dq b d2 d3)(s2:cP key dq b d3)(lo:∀i j,a<=i->i<dq->dq<=j->j<b->key (d1 i)<=key (d1 j)):cP key a b d3:=by
 have aa:∀x,x<dq->d3 x=d2 x:=λx ai=>h9.1 x (.inl ai)
 refine cP.join (s1.congr λx _ ai=>aa x ai) s2 λi j aq aM a3 a4=>?_
 refine h9.all (P:=λz=>key (d3 i)<=key z) (λy ae ay=>?_) a3 a4
 rw[aa i aM,gX.1 y (.inr ae)]
 exact gX.all (P:=λz=>key z<=key (d1 y)) (λz aQ aY=>lo z y aQ aY ae ay) aq aM
end alA
end Go.cD
namespace Go.cD
structure nI where
 b2:Int
 on:Nat
 st:Nat
def il (k s t:Nat)(x:nI)(deep:Int):nI×Option Nat :=
 let b2:=if deep<x.b2 then deep else x.b2
 let on:=if deep<x.b2 then 0 else x.on
 if b2<0 then (if x.st=t then (⟨b2,on,x.st⟩,none) else (⟨b2,on,x.st+1⟩,some (s*(k+1)+x.st)))
 else (if on+1=s then ⟨b2-1,0,x.st⟩ else ⟨b2,on+1,x.st⟩,some (b2.toNat*s+on))
def im (k s t:Nat):List Int->nI->List (Option Nat)
 | [],_=>[]
 | d::l,x=>if d<0 then none::l.map (λ_=>none) else (il k s t x d).2::im k s t l (il k s t x d).1
theorem Ip (k s t:Nat):∀(l:List Int) (x:nI),(im k s t l x).length=l.length
 | [],_=>rfl
 | d::l,x=>by
  unfold im;split
  .simp
  .simp[Ip k s t l]
def gg:List Int->Nat
 | []=>0
 | d::l=>if d<0 then 0 else gg l+1
theorem tx:∀l:List Int,gg l<=l.length
 | []=>by simp[gg]
 | d::l=>by
  unfold gg;split;· omega
  .have:=tx l;simp;omega
def pU (n:Nat)(cx:List (Option Nat)):List Nat:=(List.range n).filter λx=>!cx.contains (some x)
def iq:List (Option Nat)->List Nat->List Nat
 | [],_=>[]
 | some p::l,r=>p::iq l r
 | none::l,r=>r.headD 0::iq l r.tail
def gL (k:Nat):nI:=⟨k,0,0⟩
def kX (k s t:Nat)(l:List Int):List Nat:=iq (im k s t l (gL k)) (pU l.length (im k s t l (gL k)))
def ld (k s t:Nat)(l:List Int):List Nat:=(List.range (gg l)).filter λi=>(im k s t l (gL k)).getD i none==none
def xi (k s t:Nat)(x:nI)(p:Nat):Prop :=
 (p<s*(k+1)->(p/s:Nat)<x.b2∨((p/s:Nat)=x.b2/\x.on<=p%s))/\(s*(k+1)<=p->s*(k+1)+x.st<=p/\p<s*(k+1)+t)
structure tw (k s t:Nat)(x:nI):Prop where
 b2:x.b2<=k
 on:x.on<s
 st:x.st<=t
theorem XO {k s:Nat}{a b:Nat}(bO:a<=k)(au:b<s):a*s+b<s*(k+1):=by
 have aa:a*s<=k*s:=Nat.mul_le_mul_right s bO
 have ad:s*(k+1)=k*s+s:=by rw[Nat.mul_add,Nat.mul_one,Nat.mul_comm]
 omega
theorem BF {s a b:Nat}(au:b<s):(a*s+b)/s=a/\(a*s+b)%s=b:=by
 have aU:0<s:=by omega
 constructor
 .rw[Nat.mul_comm,Nat.mul_add_div aU,Nat.div_eq_of_lt au,Nat.add_zero]
 .rw[Nat.mul_comm,Nat.mul_add_mod,Nat.mod_eq_of_lt au]
theorem Vl {k s t:Nat}{x:nI}(w:tw k s t x){d:Int}(bV:0<=d) :
 tw k s t (il k s t x d).1/\(∀p,xi k s t (il k s t x d).1 p->xi k s t x p) /\
 (∀p,(il k s t x d).2=some p->xi k s t x p/\¬xi k s t (il k s t x d).1 p/\p<s*(k+1)+t/\(p<s*(k+1)->((p/s:Nat):Int)<=d)) /\
 ((il k s t x d).2=none->x.st=t)/\(il k s t x d).1.st<=x.st+1:=by
 obtain⟨lA,kG,rH⟩:=w
 have aU:0<s:=by omega
 generalize lC:(if d<x.b2 then d else x.b2)=b2
 generalize jj:(if d<x.b2 then 0 else x.on)=on
 have e:il k s t x d=if b2<0 then (if x.st=t then (⟨b2,on,x.st⟩,none) else (⟨b2,on,x.st+1⟩,some (s*(k+1)+x.st))) else (if on+1=s then ⟨b2-1,0,x.st⟩ else ⟨b2,on+1,x.st⟩,some (b2.toNat*s+on)):=by
  unfold il;rw[lC,jj]
 have aT:b2<=x.b2/\b2<=d/\on<s:=by
  by_cases c:d<x.b2
  .rw[if_pos c] at lC jj;omega
  .rw[if_neg c] at lC jj;omega
 have Jk:∀p st,x.st<=st->xi k s t ⟨b2,on,st⟩ p->xi k s t x p:=by
  intro p st j7 h
  refine⟨λaS=>?_,λaS=>?_⟩
  .have:=h.1 aS
   by_cases c:d<x.b2
   .rw[if_pos c] at lC jj
    simp only at this;left;omega
   .rw[if_neg c] at lC jj
    simp only at this;omega
  .have:=h.2 aS;simp only at this;omega
 rw[e]
 by_cases aQ:b2<0
 .rw[if_pos aQ]
  by_cases aY:x.st=t
  .rw[if_pos aY]
   exact⟨⟨by simp only;omega,aT.2.2,rH⟩,λp h=>Jk p _ (Nat.le_refl _) h,λp h=>(by cases h),λ_=>aY,by simp⟩
  .rw[if_neg aY]
   refine⟨⟨by simp only;omega,aT.2.2,by simp only;omega⟩,λp h=>Jk p _ (by omega) h,λp h=>?_,λh=>(by cases h),by simp⟩
   have aS:s*(k+1)+x.st=p:=Option.some.inj h
   subst aS
   exact⟨⟨λh=>by omega,λ_=>⟨Nat.le_refl _,by omega⟩⟩,λh=>by have:=(h.2 (by omega)).1;simp only at this;omega,by omega,λh=>by omega⟩
 .rw[if_neg aQ]
  have gG:((b2.toNat:Nat):Int)=b2:=by omega
  have ca:b2.toNat*s+on<s*(k+1):=XO (by omega) aT.2.2
  obtain⟨d1,d2⟩:=BF (a:=b2.toNat) aT.2.2
  have AW:xi k s t ⟨b2,on,x.st⟩ (b2.toNat*s+on):=⟨λ_=> .inr ⟨by rw[d1];exact gG,by rw[d2];exact Nat.le_refl _⟩,λh=>by omega⟩
  have j7:((if on+1=s then ⟨b2-1,0,x.st⟩ else ⟨b2,on+1,x.st⟩:nI)).st=x.st:=by split<;>rfl
  refine⟨?_,λp h=>Jk p x.st (Nat.le_refl _) ?_,λp h=>?_,λh=>(by cases h),by simp only[j7];omega⟩
  .split
   .exact⟨by simp only;omega,by simp only;omega,rH⟩
   .exact⟨by simp only;omega,by simp only;omega,rH⟩
  .refine⟨λaS=>?_,λaS=>?_⟩
   .have:=h.1 aS
    by_cases aY:on+1=s
    .simp only[if_pos aY] at this;simp only;left;omega
    .simp only[if_neg aY] at this;simp only;omega
   .have:=h.2 aS
    simp only[j7] at this;exact this
  .have aS:b2.toNat*s+on=p:=Option.some.inj h
   subst aS
   refine⟨Jk _ x.st (Nat.le_refl _) AW,λh=>?_,by omega,λ_=>by rw[d1];omega⟩
   have:=h.1 ca
   rw[d1,d2] at this
   by_cases aY:on+1=s
   .simp only[if_pos aY] at this;omega
   .simp only[if_neg aY] at this;omega
theorem Ew {k s t:Nat}:∀(l:List Int) (x:nI),tw k s t x ->
 (∀p,some p∈im k s t l x->xi k s t x p/\p<s*(k+1)+t) /\
 (∀(i j p:Nat),(im k s t l x)[i]? =some (some p)->(im k s t l x)[j]? =some (some p)->i=j) /\
 (∀(i p:Nat) (d:Int),(im k s t l x)[i]? =some (some p)->l[i]? =some d->0<=d/\(p<s*(k+1)->((p/s:Nat):Int)<=d)) /\
 (∀(i:Nat),i<gg l->x.st+i<t->∃p,(im k s t l x)[i]? =some (some p)) /\
 (∀(i p:Nat),(im k s t l x)[i]? =some (some p)->i<gg l)
 | [],x,_=>⟨λp h=>by simp[im] at h,λi j p h=>by simp[im] at h,λi p d h=>by simp[im] at h,λi h=>by simp[gg] at h,λi p h=>by simp[im] at h⟩
 | d::l,x,w=>by
  by_cases c:d<0
  .have e:im k s t (d::l) x=none::l.map (λ_=>none):=by rw[im,if_pos c]
   rw[e]
   have no:∀(i p:Nat),¬((none:Option Nat)::l.map (λ_=>none))[i]? =some (some p):=by
    intro i p h
    have:=List.mem_of_getElem? h
    simp at this
   refine⟨λp h=>by simp at h,λi j p h=>absurd h (no i p),λi p d h=>absurd h (no i p),λi h=>by rw[gg,if_pos c] at h;omega,λi p h=>absurd h (no i p)⟩
  .have e:im k s t (d::l) x=(il k s t x d).2::im k s t l (il k s t x d).1:=by rw[im,if_neg c]
   rw[e]
   obtain⟨aw,aA,aL,aO,bm⟩:=Vl w (d:=d) (by omega)
   obtain⟨i1,i2,i3,i4,i5⟩:=Ew l (il k s t x d).1 aw
   refine⟨λp h=>?_,λi j p hi aV=>?_,λi p bC hi bV=>?_,λi hi aU=>?_,λi p hi=>?_⟩
   .rcases List.mem_cons.1 h with h|h
    .have:=aL p h.symm;exact⟨this.1,this.2.2.1⟩
    .have:=i1 p h;exact⟨aA p this.1,this.2⟩
   .cases i with
    | zero =>
     cases j with
     | zero=>rfl
     | succ j =>
      simp only[List.getElem?_cons_zero,Option.some.injEq] at hi
      simp only[List.getElem?_cons_succ] at aV
      exact absurd (i1 p (List.mem_of_getElem? aV)).1 (aL p hi).2.1
    | succ i =>
     cases j with
     | zero =>
      simp only[List.getElem?_cons_zero,Option.some.injEq] at aV
      simp only[List.getElem?_cons_succ] at hi
      exact absurd (i1 p (List.mem_of_getElem? hi)).1 (aL p aV).2.1
     | succ j =>
      simp only[List.getElem?_cons_succ] at hi aV
      rw[i2 i j p hi aV]
   .cases i with
    | zero =>
     simp only[List.getElem?_cons_zero,Option.some.injEq] at hi bV
     subst bV
     exact⟨by omega,(aL p hi).2.2.2⟩
    | succ i =>
     simp only[List.getElem?_cons_succ] at hi bV
     exact i3 i p bC hi bV
   .rw[gg,if_neg c] at hi
    cases i with
    | zero =>
     simp only[List.getElem?_cons_zero,Option.some.injEq]
     cases h:(il k s t x d).2 with
     | some p=>exact⟨p,rfl⟩
     | none=>have:=aO h;omega
    | succ i =>
     simp only[List.getElem?_cons_succ]
     exact i4 i (by omega) (by omega)
   .rw[gg,if_neg c]
    cases i with
    | zero=>omega
    | succ i =>
     simp only[List.getElem?_cons_succ] at hi
     have:=i5 i p hi;omega
theorem EH:∀(l:List (Option Nat)) (r:List Nat),(iq l r).length=l.length
 | [],_=>rfl
 | some p::l,r=>by simp[iq,EH l]
 | none::l,r=>by simp[iq,EH l]
def iz (l:List (Option Nat)):Nat:=(l.filter (·==none)).length
theorem Oy:∀(l:List (Option Nat)) (r:List Nat),iz l<=r.length->r.Nodup->(∀p,some p∈l->p∉r)->(∀(i j p:Nat),l[i]? =some (some p)->l[j]? =some (some p)->i=j) ->
 (iq l r).Nodup/\(∀p∈iq l r,some p∈l∨p∈r)/\∀(i p:Nat),l[i]? =some (some p)->(iq l r)[i]? =some p
 | [],r,_,_,_,_=>⟨List.nodup_nil,λp h=>by simp[iq] at h,λi p h=>by simp at h⟩
 | some p::l,r,aH,ir,cY,inj=>by
  have l1:iz l<=r.length:=by simpa [iz] using aH
  obtain⟨a,b,c⟩:=Oy l r l1 ir (λq aj=>cY q (List.mem_cons_of_mem _ aj)) (λi j q hi aV=>by have:=inj (i+1) (j+1) q (by simpa using hi) (by simpa using aV);omega)
  refine⟨List.nodup_cons.2 ⟨λh=>?_,a⟩,λq h=>?_,λi q h=>?_⟩
  .rcases b p h with h|h
   .obtain⟨i,hi⟩:=List.getElem?_of_mem h
    have:=inj 0 (i+1) p (by simp) (by simpa using hi);omega
   .exact cY p (List.mem_cons_self ..) h
  .rcases List.mem_cons.1 h with h|h
   .left;rw[h];exact List.mem_cons_self ..
   .rcases b q h with h|h
    .left;exact List.mem_cons_of_mem _ h
    .exact .inr h
  .cases i with
   | zero=>simp only[List.getElem?_cons_zero,Option.some.injEq] at h;simp[iq,h]
   | succ i=>simp only[List.getElem?_cons_succ] at h;simp[iq,c i q h]
 | none::l,r,aH,ir,cY,inj=>by
  have l1:iz l+1<=r.length:=by simpa [iz] using aH
  cases r with
  | nil=>simp at l1
  | cons y r =>
   obtain⟨alC,alD⟩:=List.nodup_cons.1 ir
   obtain⟨a,b,c⟩:=Oy l r (by simp at l1;omega) alD (λq aj h=>cY q (List.mem_cons_of_mem _ aj) (List.mem_cons_of_mem _ h)) (λi j q hi aV=>by have:=inj (i+1) (j+1) q (by simpa using hi) (by simpa using aV);omega)
   refine⟨List.nodup_cons.2 ⟨λh=>?_,a⟩,λq h=>?_,λi q h=>?_⟩
   .rcases b _ h with h|h
    .exact cY _ (List.mem_cons_of_mem _ h) (List.mem_cons_self ..)
    .exact alC h
   .rcases List.mem_cons.1 h with h|h
    .right;rw[h];exact List.mem_cons_self ..
    .rcases b q h with h|h
     .left;exact List.mem_cons_of_mem _ h
     .exact .inr (List.mem_cons_of_mem _ h)
   .cases i with
    | zero=>simp at h
    | succ i=>simp only[List.getElem?_cons_succ] at h;simp[iq,c i q h]
theorem alE (p:Nat->Bool)(l:List Nat):(l.filter p).length+(l.filter λx=>!p x).length=l.length:=by
 induction l with
 | nil=>rfl
 | cons x l dK=>cases h:p x<;>simp[h]<;>omega
theorem Jl {l r:List Nat}(ir:l.Nodup)(h:∀x∈l,x∈r):l.length<=r.length:=by
 induction l generalizing r with
 | nil=>simp
 | cons x l dK =>
  obtain⟨aa,ad⟩:=List.nodup_cons.1 ir
  have ai:=h x (List.mem_cons_self ..)
  have:=dK (r:=r.erase x) ad λy aB=>(List.mem_erase_of_ne (λe=>aa (by rw[<-e];exact aB))).2 (h y (List.mem_cons_of_mem _ aB))
  have an:=List.length_erase_of_mem ai
  have aK:0<r.length:=List.length_pos_of_mem ai
  simp;omega
theorem M7 {n:Nat}(l:List (Option Nat))(aT:l.length=n)(inj:∀(i j p:Nat),l[i]? =some (some p)->l[j]? =some (some p)->i=j)(ca:∀p,some p∈l->p<n):iz l=(pU n l).length:=by
 have key:∀(l:List (Option Nat)),(l.filterMap id).length+iz l=l.length:=by
  intro l
  induction l with
  | nil=>rfl
  | cons a l dK=>cases a<;>simp[iz] at dK ⊢<;>omega
 have ir:(l.filterMap id).Nodup:=by
  clear ca aT
  induction l with
  | nil=>simp
  | cons a l dK =>
   have dK:=dK (λi j q hi aV=>by have:=inj (i+1) (j+1) q (by simpa using hi) (by simpa using aV);omega)
   cases a with
   | none=>simpa using dK
   | some p =>
    simp only[List.filterMap_cons,id]
    refine List.nodup_cons.2 ⟨λh=>?_,dK⟩
    have ad:some p∈l:=by simpa using h
    obtain⟨i,hi⟩:=List.getElem?_of_mem ad
    have:=inj 0 (i+1) p (by simp) (by simpa using hi);omega
 have m7:(l.filterMap id).length=((List.range n).filter λx=>l.contains (some x)).length:=by
  apply Nat.le_antisymm
  .refine Jl ir λx ai=>?_
   have ad:some x∈l:=by simpa using ai
   simp only[List.mem_filter,List.mem_range]
   exact⟨ca x ad,by simpa using ad⟩
  .refine Jl (List.nodup_range.filter _) λx ai=>?_
   simp only[List.mem_filter] at ai
   have:some x∈l:=by simpa using ai.2
   simpa using this
 have aa:=key l
 have ad:=alE (λx=>l.contains (some x)) (List.range n)
 rw[List.length_range] at ad
 show iz l=((List.range n).filter λx=>!l.contains (some x)).length
 omega
structure alF (k s t:Nat)(l:List Int):Prop where
 len:(kX k s t l).length=l.length
 nodup:(kX k s t l).Nodup
 lt:∀p∈kX k s t l,p<l.length
 at_:∀(i p:Nat) (d:Int),(kX k s t l)[i]? =some p->l[i]? =some d->i<gg l->i∉ld k s t l->0<=d/\p<s*(k+1)+t/\(p<s*(k+1)->((p/s:Nat):Int)<=d)
 lost:∀i∈ld k s t l,i<gg l
 Oz:gg l<=t->ld k s t l=[]
theorem Oa (k s t:Nat)(aU:0<s)(l:List Int)(aT:s*(k+1)+t<=l.length):alF k s t l:=by
 have w:tw k s t (gL k):=⟨by simp[gL],aU,by simp[gL]⟩
 obtain⟨i1,i2,i3,i4,i5⟩:=Ew l (gL k) w
 have hlen:=Ip k s t l (gL k)
 have aH:=M7 (n:=l.length) (im k s t l (gL k)) hlen i2 λp aS=>by have:=(i1 p aS).2;omega
 obtain⟨a,b,c⟩:=Oy (im k s t l (gL k)) (pU l.length (im k s t l (gL k))) (Nat.le_of_eq aH) (List.nodup_range.filter _) (λp aS h=>by simp[pU,aS] at h) i2
 refine⟨by unfold kX;rw[EH,hlen],a,λp aS=>?_,λi p d aS bV hi EA=>?_,λi h=>?_,λh=>?_⟩
 .rcases b p aS with h|h
  .have:=(i1 p h).2;omega
  .simp[pU] at h;exact h.1
 .have b5:i<(im k s t l (gL k)).length:=by rw[hlen];have:=tx l;omega
  have e:(im k s t l (gL k))[i]? =some ((im k s t l (gL k))[i]):=List.getElem?_eq_getElem b5
  cases h:(im k s t l (gL k))[i] with
  | none =>
   rw[h] at e
   exact absurd (List.mem_filter.2 ⟨List.mem_range.2 hi,by simp[List.getD,e]⟩) EA
  | some q =>
   rw[h] at e
   have:=c i q e
   have aj:q=p:=by
    have ad:(kX k s t l)[i]? =some q:=this
    rw[aS] at ad;exact(Option.some.inj ad).symm
   subst aj
   have an:=i3 i q d e bV
   exact⟨an.1,(i1 q (List.mem_of_getElem? e)).2,an.2⟩
 .have:=List.mem_filter.1 h
  exact List.mem_range.1 this.1
 .unfold ld
  rw[List.filter_eq_nil_iff]
  intro i hi
  have hi:=List.mem_range.1 hi
  obtain⟨p,aS⟩:=i4 i hi (by simp[gL];omega)
  simp[List.getD,aS]
end Go.cD
namespace Go.cD
abbrev cv:=Vector UInt64 12
abbrev c0:=Vector UInt64 8
def e6:cv:=Vector.replicate 12 0
def jB:c0:=Vector.replicate 8 0
def dU (c:cv):Bool:=c[0]==1
def jX (c:cv):c0:=#v[c[3],c[4],c[5],c[6],c[7],c[8],c[9],c[10]]
def la (id leaf:UInt64)(d:c0):cv:=#v[1,id,leaf,d[0],d[1],d[2],d[3],d[4],d[5],d[6],d[7],0]
structure db where
 k:Nat
 s:Nat
 t:Nat
 E:Nat
def db.tree (P:db):Nat:=P.s*(P.k+1)
def db.m (P:db):Nat:=P.s*(P.k+1)+P.t
def db.n (P:db):Nat:=P.s*(P.k+1)+P.t+1
structure db.da (P:db):Prop where
 k:P.k<=10
 s:1<=P.s/\P.s<=8
 t:1<=P.t/\P.t<=64
 E:P.E<=8
 n:P.n<=2 ^ P.E
def p4:Nat->Nat->Nat->Nat
 | 0,_,_=>0
 | f+1,a,b=>if a=b then 0 else p4 f (a/2) (b/2)+1
def ky (k a b:Nat):Nat:=k-p4 k a b
def lG (k leaf d:Nat):Nat:=2 ^ d-1+leaf/2 ^ (k-d)
def spot (P:db)(leaf p:Nat):Nat×Nat:=if p<P.s*(P.k+1) then (0,lG P.k leaf (p/P.s)*P.s+p%P.s) else (1,p-P.s*(P.k+1))
def nO (P:db)(av:Nat)(i:Nat)(c:cv):UInt64:=if i<P.n/\dU c=true then UInt64.ofNat (P.k-ky P.k av (c[2].toNat))*(4294967296:UInt64)+(c[1]:UInt64) else (4611686018427387904:UInt64)+UInt64.ofNat i
def gU (c:cv):Nat:=c[11].toNat
def vn (P:db)(av:Nat)(c:cv):Int:=if dU c=true then (ky P.k av c[2].toNat:Nat) else -1
def hh (P:db)(av:Nat)(T:Nat->cv):Nat->cv:=λi=>(T i).set 11 (nO P av i (T i))
def fk (P:db)(av:Nat)(T:Nat->cv):Nat->cv:=hV gU (je P.E) (hh P av T)
def iu (P:db)(av:Nat)(T:Nat->cv):List Int:=(List.range P.n).map λi=>vn P av (fk P av T i)
def lJ (P:db)(av:Nat)(T:Nat->cv):Nat->cv:=λi =>
 (if i∈ld P.k P.s P.t (iu P av T) then e6 else fk P av T i).set 11 (if i<P.n then UInt64.ofNat ((kX P.k P.s P.t (iu P av T)).getD i 0) else UInt64.ofNat i)
def ke (P:db)(av:Nat)(T:Nat->cv):Nat->cv:=hV gU (je P.E) (lJ P av T)
def lH (P:db)(av:Nat)(T:Nat->cv):Bool:=!(ld P.k P.s P.t (iu P av T)).isEmpty
structure Fj (n:Nat)(σ τ:Nat->Nat):Prop where
 s:∀i,i<n->σ i<n
 t:∀i,i<n->τ i<n
 st:∀i,i<n->σ (τ i)=i
 iY:∀i,i<n->τ (σ i)=i
theorem Fj.inj {n:Nat}{σ τ:Nat->Nat}(b:Fj n σ τ){i j:Nat}(hi:i<n)(aV:j<n)(h:σ i=σ j):i=j:=by
 rw[<-b.iY i hi,<-b.iY j aV,h]
theorem alG {α:Type}(key:α->Nat)(f:Nat->α){n:Nat}{p:Nat×Nat×Bool}(aa:p.1<p.2.1)(ad:p.2.1<n):∃σ,Fj n σ σ/\∀i,mw key f p i=f (σ i):=by
 by_cases c:(bif p.2.2 then decide (key (f p.2.1)<key (f p.1)) else decide (key (f p.1)<key (f p.2.1)))=true
 .refine⟨λi=>if i=p.1 then p.2.1 else if i=p.2.1 then p.1 else i,?_,λi=>?_⟩
  .constructor<;>intro i hi<;>(repeat' split)<;>first|omega|simp_all
  .simp only[mw,nP,if_pos c]
   repeat' split
   all_goals first|rfl|omega|simp_all
 .refine⟨λi=>i,⟨λ_ h=>h,λ_ h=>h,λ_ _=>rfl,λ_ _=>rfl⟩,λi=>?_⟩
  simp only[mw,nP,if_neg c]
  split
  .rename_i h;rw[h]
  .split
   .rename_i h;rw[h]
   .rfl
theorem XP {α:Type}(key:α->Nat){n:Nat}:∀(l:List (Nat×Nat×Bool)) (f:Nat->α),(∀p∈l,p.1<p.2.1/\p.2.1<n)->∃σ τ,Fj n σ τ/\∀i,i<n->hV key l f i=f (σ i)
 | [],f,_=>⟨λi=>i,λi=>i,⟨λ_ h=>h,λ_ h=>h,λ_ _=>rfl,λ_ _=>rfl⟩,λ_ _=>rfl⟩
 | p::l,f,h=>by
  have aS:=h p (List.mem_cons_self ..)
  obtain⟨σ,b,e⟩:=alG key f aS.1 aS.2
  obtain⟨vs,Jm,jN,b4⟩:=XP key l (mw key f p) (λq aj=>h q (List.mem_cons_of_mem _ aj))
  refine⟨λi=>σ (vs i),λi=>Jm (σ i),⟨λi hi=>b.s _ (jN.s i hi),λi hi=>jN.t _ (b.s i hi),λi hi=>?_,λi hi=>?_⟩,λi hi=>?_⟩
  .show σ (vs (Jm (σ i)))=i
   rw[jN.st _ (b.s i hi),b.st i hi]
  .show Jm (σ (σ (vs i)))=i
   rw[b.st _ (jN.s i hi),jN.iY i hi]
  .show hV key l (mw key f p) i=_
   rw[b4 i hi,e]
theorem OA {α:Type}(key:α->Nat)(K:Nat)(f:Nat->α):∃σ τ,Fj (2 ^ K) σ τ/\∀i,i<2 ^ K->hV key (je K) f i=f (σ i) :=
 XP key _ f (Fi K (Nat.le_refl _))
theorem alH {N:Nat}{f:Nat->Nat}(ca:∀i,i<N->f i<N)(inj:∀i j,i<N->j<N->f i=f j->i=j)(mono:∀i j,i<=j->j<N->f i<=f j){i:Nat}(hi:i<N):f i=i:=by
 have strict:∀i j,i<j->j<N->f i<f j:=λi j aa ad=>by
  rcases Nat.lt_or_eq_of_le (mono i j (by omega) ad) with h|h
  .exact h
  .have:=inj i j (by omega) ad h;omega
 have lo:∀i,i<N->i<=f i:=λi=>by
  induction i with
  | zero=>omega
  | succ i dK=>intro h;have:=dK (by omega);have:=strict i (i+1) (by omega) h;omega
 have b5:∀d i,i+d+1=N->f i<=i:=λd=>by
  induction d with
  | zero=>intro i h;have:=ca i (by omega);omega
  | succ d dK=>intro i h;have:=dK (i+1) (by omega);have:=strict i (i+1) (by omega) (by omega);omega
 have:=lo i hi
 have:=b5 (N-1-i) i (by omega)
 omega
theorem BY {l:List Nat}(ir:l.Nodup){i j:Nat}(hi:i<l.length)(aV:j<l.length)(h:l.getD i 0=l.getD j 0):i=j:=by
 simp only[List.getD_eq_getElem?_getD,List.getElem?_eq_getElem hi,List.getElem?_eq_getElem aV,Option.getD_some] at h
 have ir:=List.pairwise_iff_getElem.1 ir
 rcases Nat.lt_trichotomy i j with c|c|c
 .exact absurd h (ir i j hi aV c)
 .exact c
 .exact absurd h.symm (ir j i aV hi c)
theorem XQ {n:Nat}{f:Nat->Nat}(inj:∀i j,i<j->j<n->f i≠f j):((List.range n).map f).Nodup:=by
 rw[List.nodup_iff_pairwise_ne,List.pairwise_iff_getElem]
 intro i j hi aV h
 simp only[List.getElem_map,List.getElem_range]
 exact inj i j h (by simpa using aV)
theorem XR:∀(l:List Int) (j:Nat),j<l.length->(∀i (hi:i<=j) (h:i<l.length),0<=l[i])->j<gg l
 | [],j,h,_=>by simp at h
 | d::l,j,h,aS=>by
  have h0:=aS 0 (by omega) (by simp)
  simp only[List.getElem_cons_zero] at h0
  rw[gg,if_neg (by omega)]
  cases j with
  | zero=>omega
  | succ j =>
   have:=XR l j (by simpa using h) λi hi h=>by have:=aS (i+1) (by omega) (by simpa using h);simpa using this
   omega
theorem M3:∀(l:List Int) (i:Nat),i<gg l->∃d,l[i]? =some d/\0<=d
 | [],i,h=>by simp[gg] at h
 | d::l,i,h=>by
  unfold gg at h
  split at h
  .omega
  .cases i with
   | zero=>exact⟨d,by simp,by omega⟩
   | succ i=>obtain⟨e,aa,ad⟩:=M3 l i (by omega);exact⟨e,by simpa using aa,ad⟩
structure xe (P:db)(T:Nat->cv):Prop where
 lt:∀i,dU (T i)=true->i<P.n
 id:∀i,dU (T i)=true->(T i)[1].toNat<=2147483648
 leaf:∀i,dU (T i)=true->(T i)[2].toNat<2 ^ P.k
theorem WS (c:cv)(x:UInt64):(c.set 11 x)[0]=c[0]:=by simp[Vector.getElem_set]
theorem o2 (c:cv)(x:UInt64):dU (c.set 11 x)=dU c:=by unfold dU;rw[WS]
theorem xd (c:cv)(x:UInt64):(c.set 11 x)[11]=x:=by simp[Vector.getElem_set]
theorem Jn (c:cv)(x:UInt64):(c.set 11 x)[2]=c[2]:=by simp[Vector.getElem_set]
theorem tV (c:cv)(x:UInt64):(c.set 11 x)[1]=c[1]:=by simp[Vector.getElem_set]
theorem vt:dU e6=false:=by decide
theorem XS {P:db}(o:P.da){av i:Nat}{c:cv}(hi:i<P.n)(au:dU c=true)(ho:c[1].toNat<=2147483648):(nO P av i c).toNat=(P.k-ky P.k av c[2].toNat)*4294967296+c[1].toNat:=by
 unfold nO;rw[if_pos ⟨hi,au⟩]
 have:=o.k
 have aa:P.k-ky P.k av c[2].toNat<=10:=by omega
 generalize P.k-ky P.k av c[2].toNat=x at aa
 rw[UInt64.toNat_add,UInt64.toNat_mul,UInt64.toNat_ofNat']
 have e:(4294967296:UInt64).toNat=4294967296:=rfl
 rw[e];omega
theorem XT {P:db}{av i:Nat}{c:cv}(hi:i<4294967296)(au:¬(i<P.n/\dU c=true)):(nO P av i c).toNat=4611686018427387904+i:=by
 unfold nO;rw[if_neg au,UInt64.toNat_add,UInt64.toNat_ofNat']
 have e:(4611686018427387904:UInt64).toNat=4611686018427387904:=rfl
 rw[e];omega
theorem y9 {P:db}(o:P.da):2 ^ P.E<=256:=Nat.pow_le_pow_right (n:=2) (by decide) o.E
structure alI (P:db)(av:Nat)(T:Nat->cv)(g:Nat->Nat):Prop where
 key:∀p,p<2 ^ P.E->(ke P av T p)[11].toNat=p
 bl:∀p,p<2 ^ P.E->dU (ke P av T p)=true->g p<P.n/\dU (T (g p))=true/\(∃x y,(ke P av T p).set 11 x=(T (g p)).set 11 y)/\p<P.m/\(p<P.tree->p/P.s<=ky P.k av (T (g p))[2].toNat)
 inj:∀p q,p<2 ^ P.E->q<2 ^ P.E->g p=g q->p=q
 all:lH P av T=false->∀i,i<P.n->dU (T i)=true->∃p,p<P.m/\dU (ke P av T p)=true/\g p=i
theorem Ea {P:db}(o:P.da)(av:Nat)(T:Nat->cv)(w:xe P T):∃g,alI P av T g /\
 (∀S:List UInt64,S.length<=P.t->(∀i,dU (T i)=true->(T i)[1]∈S)->(∀i j,dU (T i)=true->dU (T j)=true->(T i)[1]=(T j)[1]->i=j)->lH P av T=false):=by
 have jJ:=y9 o
 have aH:=o.n
 obtain⟨σ,τ,b,e⟩:=OA gU P.E (hh P av T)
 obtain⟨vs,Jm,jN,b4⟩:=OA gU P.E (lJ P av T)
 have e:∀i,i<2 ^ P.E->fk P av T i=hh P av T (σ i):=e
 have b4:∀i,i<2 ^ P.E->ke P av T i=lJ P av T (vs i):=b4
 generalize o9:iu P av T=cY at *
 have hlen:cY.length=P.n:=by rw[<-o9];simp[iu]
 have dl:=Oa P.k P.s P.t (by have:=o.s;omega) cY (by rw[hlen];unfold db.n;omega)
 have t3:∀i,lJ P av T i=(if i∈ld P.k P.s P.t cY then e6 else fk P av T i).set 11 (if i<P.n then UInt64.ofNat ((kX P.k P.s P.t cY).getD i 0) else UInt64.ofNat i):=λi=>by simp only[lJ,o9]
 have aI:∀i,i<2 ^ P.E->gU (lJ P av T i)=if i<P.n then (kX P.k P.s P.t cY).getD i 0 else i:=λi hi=>by
  rw[t3,gU,xd]
  split
  .rename_i h
   have aa:(kX P.k P.s P.t cY).getD i 0<cY.length:=by
    refine dl.lt _ ?_
    rw[List.getD_eq_getElem?_getD,List.getElem?_eq_getElem (by rw[dl.len,hlen];exact h)]
    exact List.getElem_mem _
   rw[UInt64.toNat_ofNat'];rw[hlen] at aa;omega
  .rw[UInt64.toNat_ofNat'];omega
 have OB:∀i,i<P.n->(kX P.k P.s P.t cY).getD i 0<P.n:=λi h=>by
  rw[<-hlen]
  refine dl.lt _ ?_
  rw[List.getD_eq_getElem?_getD,List.getElem?_eq_getElem (by rw[dl.len,hlen];exact h)]
  exact List.getElem_mem _
 have XU:∀i,i<2 ^ P.E->gU (lJ P av T i)<2 ^ P.E:=λi hi=>by
  rw[aI i hi];split
  .rename_i h;have:=OB i h;omega
  .exact hi
 have XV:∀i j,i<2 ^ P.E->j<2 ^ P.E->gU (lJ P av T i)=gU (lJ P av T j)->i=j:=λi j hi aV h=>by
  rw[aI i hi,aI j aV] at h
  by_cases aQ:i<P.n
  .by_cases aY:j<P.n
   .rw[if_pos aQ,if_pos aY] at h
    exact BY dl.nodup (by rw[dl.len,hlen];exact aQ) (by rw[dl.len,hlen];exact aY) h
   .rw[if_pos aQ,if_neg aY] at h;have:=OB i aQ;omega
  .by_cases aY:j<P.n
   .rw[if_neg aQ,if_pos aY] at h;have:=OB j aY;omega
   .rw[if_neg aQ,if_neg aY] at h;exact h
 have bh:∀p,p<2 ^ P.E->gU (ke P av T p)=p:=λp aS=>by
  refine alH (N:=2 ^ P.E) (f:=λp=>gU (ke P av T p)) (λi hi=>?_) (λi j hi aV h=>?_) (λi j n7 aV=>?_) aS
  .show gU (ke P av T i)<_
   rw[b4 i hi];exact XU _ (jN.s i hi)
  .have h:gU (ke P av T i)=gU (ke P av T j):=h
   rw[b4 i hi,b4 j aV] at h
   exact jN.inj hi aV (XV _ _ (jN.s i hi) (jN.s j aV) h)
  .exact Jh gU P.E _ n7 aV
 have ae:∀i,dU (hh P av T i)=dU (T i):=λi=>o2 _ _
 have alJ:∀i,i<2 ^ P.E->dU (T i)=true->gU (hh P av T i)<4611686018427387904:=λi hi h=>by
  have ca:=w.lt i h
  have ho:=w.id i h
  rw[hh,gU,xd,XS o ca h ho]
  have:=o.k
  have ad:P.k-ky P.k av (T i)[2].toNat<=10:=by omega
  have:=Nat.mul_le_mul_right 4294967296 ad
  omega
 have alK:∀i,i<2 ^ P.E->dU (T i)=false->4611686018427387904<=gU (hh P av T i):=λi hi h=>by
  rw[hh,gU,xd,XT (by omega) (by rw[h];simp)]
  omega
 have ahead:∀i j,i<=j->j<2 ^ P.E->dU (fk P av T j)=true->dU (fk P av T i)=true:=λi j n7 aV h=>by
  have aa:gU (fk P av T i)<=gU (fk P av T j):=Jh gU P.E _ n7 aV
  rw[e j aV] at h aa;rw[e i (by omega)] at aa ⊢
  rw[ae] at h ⊢
  have ad:=alJ _ (b.s j aV) h
  cases an:dU (T (σ i)) with
  | true=>rfl
  | false=>have:=alK _ (b.s i (by omega)) an;omega
 have OC:∀j,j<2 ^ P.E->dU (fk P av T j)=true->j<P.n:=λj aV h=>by
  have:((List.range (j+1)).map σ).length<=(List.range P.n).length:=by
   refine Jl ?_ λx ai=>?_
   .refine XQ λa c alL aZ h=>?_
    have:=b.inj (by omega) (by omega) h;omega
   .obtain⟨i,hi,rfl⟩:=List.mem_map.1 ai
    have b5:=List.mem_range.1 hi
    have aa:=ahead i j (by omega) aV h
    rw[e i (by omega),ae] at aa
    exact List.mem_range.2 (w.lt _ aa)
  simp at this;omega
 have hP:∀i,i<P.n->cY[i]? =some (vn P av (fk P av T i)):=λi hi=>by rw[<-o9];simp[iu,hi]
 have Jo:∀j,j<2 ^ P.E->dU (fk P av T j)=true->j<gg cY:=λj aV h=>by
  have kB:=OC j aV h
  refine XR cY j (by rw[hlen];exact kB) λi hi ah=>?_
  have aa:=hP i (by omega)
  rw[List.getElem?_eq_getElem ah] at aa
  rw[Option.some.inj aa,vn,if_pos (ahead i j hi aV h)]
  omega
 have OD:∀j,j<gg cY->dU (fk P av T j)=true:=λj aV=>by
  obtain⟨d,aa,ad⟩:=M3 cY j aV
  have kB:j<P.n:=by have:=tx cY;omega
  rw[hP j kB] at aa
  have aa:=Option.some.inj aa
  unfold vn at aa
  split at aa
  .assumption
  .omega
 refine⟨λp=>σ (vs p),⟨bh,λp aS h=>?_,λp q aS aj h=>?_,λaT i hi h=>?_⟩,λS tP aa ad=>?_⟩
 .have aV:=jN.s p aS
  have ag:=bh p aS
  rw[b4 p aS] at h ag ⊢
  generalize vs p=j at *
  rw[aI j aV] at ag
  rw[t3,o2] at h
  by_cases c:j∈ld P.k P.s P.t cY
  .rw[if_pos c,vt] at h;cases h
  .rw[if_neg c] at h
   have kB:=OC j aV h
   have alM:=Jo j aV h
   rw[if_pos kB] at ag
   have lV:(kX P.k P.s P.t cY)[j]? =some p:=by
    rw[List.getElem?_eq_getElem (by rw[dl.len,hlen];exact kB)]
    rw[List.getD_eq_getElem?_getD,List.getElem?_eq_getElem (by rw[dl.len,hlen];exact kB),Option.getD_some] at ag
    rw[ag]
   obtain⟨d0,d1,d2⟩:=dl.at_ j p _ lV (hP j kB) alM c
   have ah:=h
   rw[e j aV,ae] at ah
   have OE:(fk P av T j)[2]=(T (σ j))[2]:=by rw[e j aV,hh,Jn]
   refine⟨w.lt _ ah,ah,⟨0,0,?_⟩,d1,λaS=>?_⟩
   .rw[t3,if_neg c,Vector.set_set,e j aV,hh,Vector.set_set]
   .have:=d2 aS
    rw[vn,if_pos h,OE] at this
    omega
 .exact jN.inj aS aj (b.inj (jN.s p aS) (jN.s q aj) h)
 .have B8:τ i<2 ^ P.E:=b.t i (by omega)
  have AR:σ (τ i)=i:=b.st i (by omega)
  have hZ:dU (fk P av T (τ i))=true:=by rw[e _ B8,ae,AR];exact h
  have kB:=OC _ B8 hZ
  have B9:τ i∉ld P.k P.s P.t cY:=by
   have:ld P.k P.s P.t (iu P av T)=[]:=by simpa [lH] using aT
   rw[o9] at this;rw[this];simp
  generalize aV:τ i=j at *
  have aS:gU (lJ P av T j)<2 ^ P.E:=XU j B8
  generalize XW:gU (lJ P av T j)=p at *
  have XX:vs p=j:=XV _ _ (jN.s p aS) B8 (by have:=bh p aS;rw[b4 p aS] at this;rw[this,XW])
  have oH:dU (ke P av T p)=true:=by rw[b4 p aS,XX,t3,o2,if_neg B9];exact hZ
  refine⟨p,?_,oH,by show σ (vs p)=i;rw[XX,AR]⟩
  have ag:=aI j B8
  rw[XW,if_pos kB] at ag
  have lV:(kX P.k P.s P.t cY)[j]? =some p:=by
   rw[List.getElem?_eq_getElem (by rw[dl.len,hlen];exact kB)]
   rw[List.getD_eq_getElem?_getD,List.getElem?_eq_getElem (by rw[dl.len,hlen];exact kB),Option.getD_some] at ag
   rw[ag]
  exact(dl.at_ j p _ lV (hP j kB) (Jo j B8 hZ) B9).2.1
 .have hm:gg cY<=P.t:=by
   have:((List.range (gg cY)).map λi=>(fk P av T i)[1].toNat).length<=(S.map UInt64.toNat).length:=by
    have bV:=tx cY
    refine Jl ?_ λx ai=>?_
    .refine XQ λa c alL mx h=>?_
     have bO:=OD a (by omega);have OF:=OD c mx
     rw[e a (by omega)] at h bO;rw[e c (by omega)] at h OF
     rw[ae] at bO OF
     have aK:(T (σ a))[1]=(T (σ c))[1]:=by
      simp only[hh,tV] at h
      exact UInt64.toNat_inj.1 h
     have:=b.inj (by omega) (by omega) (ad _ _ bO OF aK);omega
    .obtain⟨i,hi,rfl⟩:=List.mem_map.1 ai
     have b5:=List.mem_range.1 hi
     have an:=OD i b5
     rw[e i (by omega)] at an ⊢
     rw[ae] at an
     simp only[hh,tV]
     exact List.mem_map_of_mem (aa _ an)
   simp at this;omega
  unfold lH
  rw[o9,dl.Oz hm];rfl
end Go.cD
namespace Go.cD
theorem XY:∀(f a b:Nat),a<2 ^ f->b<2 ^ f->∀j,p4 f a b<=j->a/2 ^ j=b/2 ^ j
 | 0,a,b,bO,au,j,_=>by simp at bO au;rw[bO,au]
 | f+1,a,b,bO,au,j,aV=>by
  unfold p4 at aV
  split at aV
  .rename_i h;rw[h]
  .cases j with
   | zero=>omega
   | succ j =>
    rw[Nat.pow_succ] at bO au
    have:=XY f (a/2) (b/2) (by omega) (by omega) j (by omega)
    rw[Nat.pow_succ,Nat.mul_comm,<-Nat.div_div_eq_div_mul,<-Nat.div_div_eq_div_mul];exact this
theorem OG {k a b d:Nat}(bO:a<2 ^ k)(au:b<2 ^ k)(bV:d<=ky k a b)(ag:d<=k):lG k a d=lG k b d:=by
 unfold lG
 by_cases h0:p4 k a b<=k
 .rw[XY k a b bO au (k-d) (by unfold ky at bV;omega)]
 .have:d=0:=by unfold ky at bV;omega
  subst this
  rw[Nat.sub_zero,Nat.div_eq_of_lt bO,Nat.div_eq_of_lt au]
theorem OH {k leaf d:Nat}(aT:leaf<2 ^ k)(bV:d<=k):2 ^ d-1<=lG k leaf d/\lG k leaf d<2 ^ (d+1)-1:=by
 have e:2 ^ k=2 ^ (k-d)*2 ^ d:=by rw[<-Nat.pow_add];congr 1;omega
 have aa:leaf/2 ^ (k-d)<2 ^ d:=by rw[Nat.div_lt_iff_lt_mul (Nat.pow_pos (by decide)),Nat.mul_comm,<-e];exact aT
 have ad:2 ^ (d+1)=2*2 ^ d:=by rw[Nat.pow_succ];omega
 have an:0<2 ^ d:=Nat.pow_pos (by decide)
 unfold lG
 generalize leaf/2 ^ (k-d)=x at *
 omega
theorem alN {k h_ gx d1 d2:Nat}(aa:h_<2 ^ k)(ad:gx<2 ^ k)(alO:d1<=k)(kz:d2<=k)(h:lG k h_ d1=lG k gx d2):d1=d2:=by
 have a:=OH aa alO
 have b:=OH ad kz
 rw[h] at a
 rcases Nat.lt_trichotomy d1 d2 with c|c|c
 .have:=Nat.pow_le_pow_right (n:=2) (by decide) (show d1+1<=d2 by omega);omega
 .exact c
 .have:=Nat.pow_le_pow_right (n:=2) (by decide) (show d2+1<=d1 by omega);omega
theorem alP {k leaf d:Nat}(aT:leaf<2 ^ k)(bV:d<=k):lG k leaf d<2 ^ (k+1)-1:=by
 have a:=OH aT bV
 have:=Nat.pow_le_pow_right (n:=2) (by decide) (show d+1<=k+1 by omega)
 omega
def l2 (P:db)(r i:Nat):Prop:=(r=0/\i<P.s*(2 ^ (P.k+1)-1))∨(r=1/\i<P.t)
theorem w7 {P:db}{leaf p:Nat}(h:p<P.s*(P.k+1)):spot P leaf p=(0,lG P.k leaf (p/P.s)*P.s+p%P.s):=by unfold spot;rw[if_pos h]
theorem w8 {P:db}{leaf p:Nat}(h:¬p<P.s*(P.k+1)):spot P leaf p=(1,p-P.s*(P.k+1)):=by unfold spot;rw[if_neg h]
theorem B_ {P:db}{p:Nat}(aU:0<P.s)(h:p<P.s*(P.k+1)):p/P.s<=P.k:=by
 have:p/P.s<P.k+1:=by rw[Nat.div_lt_iff_lt_mul aU,Nat.mul_comm];exact h
 omega
theorem mr {P:db}(o:P.da){leaf p:Nat}(aT:leaf<2 ^ P.k)(aS:p<P.m):l2 P (spot P leaf p).1 (spot P leaf p).2:=by
 have aU:0<P.s:=by have:=o.s;omega
 by_cases h:p<P.s*(P.k+1)
 .rw[w7 h]
  refine .inl ⟨rfl,?_⟩
  have aa:=alP aT (B_ aU h)
  have ad:=Nat.mod_lt p aU
  have an:=Nat.mul_le_mul_left P.s (show lG P.k leaf (p/P.s)+1<=2 ^ (P.k+1)-1 by omega)
  rw[Nat.mul_add,Nat.mul_one,Nat.mul_comm P.s (lG _ _ _)] at an
  show lG P.k leaf (p/P.s)*P.s+p%P.s<_
  omega
 .rw[w8 h]
  exact .inr ⟨rfl,by unfold db.m at aS;show p-_<_;omega⟩
theorem Fk {P:db}(o:P.da){leaf p q:Nat}(aT:leaf<2 ^ P.k)(h:spot P leaf p=spot P leaf q):p=q:=by
 have aU:0<P.s:=by have:=o.s;omega
 by_cases aa:p<P.s*(P.k+1)
 .by_cases ad:q<P.s*(P.k+1)
  .rw[w7 aa,w7 ad] at h
   have h:=(Prod.mk.inj h).2
   have aq:=BF (s:=P.s) (a:=lG P.k leaf (p/P.s)) (Nat.mod_lt p aU)
   have aM:=BF (s:=P.s) (a:=lG P.k leaf (q/P.s)) (Nat.mod_lt q aU)
   rw[h] at aq
   have aF:lG P.k leaf (p/P.s)=lG P.k leaf (q/P.s):=aq.1.symm.trans aM.1
   have a8:p%P.s=q%P.s:=aq.2.symm.trans aM.2
   have b0:=alN aT aT (B_ aU aa) (B_ aU ad) aF
   rw[<-Nat.div_add_mod p P.s,<-Nat.div_add_mod q P.s,a8,b0]
  .rw[w7 aa,w8 ad] at h
   have:=(Prod.mk.inj h).1;omega
 .by_cases ad:q<P.s*(P.k+1)
  .rw[w8 aa,w7 ad] at h
   have:=(Prod.mk.inj h).1;omega
  .rw[w8 aa,w8 ad] at h
   have:=(Prod.mk.inj h).2;omega
theorem alQ {P:db}(o:P.da){leaf i d:Nat}(bV:d<=P.k)(h:i/P.s=lG P.k leaf d):∃p,p<P.m/\spot P leaf p=(0,i):=by
 have aU:0<P.s:=by have:=o.s;omega
 have hm:=Nat.mod_lt i aU
 have aa:d*P.s+i%P.s<P.s*(P.k+1):=XO bV hm
 obtain⟨aF,a8⟩:=BF (s:=P.s) (a:=d) hm
 refine⟨d*P.s+i%P.s,by unfold db.m;omega,?_⟩
 rw[w7 aa,aF,a8,<-h,Nat.mul_comm,Nat.div_add_mod]
theorem alR {P:db}{leaf i:Nat}(h:i<P.t):∃p,p<P.m/\spot P leaf p=(1,i) :=
 ⟨P.s*(P.k+1)+i,by unfold db.m;omega,by rw[w8 (by omega),Nat.add_sub_cancel_left]⟩
abbrev dF:=Nat->Nat->cv
def fA (M:dF)(q:Nat×Nat)(c:cv):dF:=λr i=>if r=q.1/\i=q.2 then c else M r i
def p2 (P:db)(leaf:Nat)(T:Nat->cv)(M:dF):Nat->dF
 | 0=>M
 | p+1=>fA (p2 P leaf T M p) (spot P leaf p) ((T p).set 11 0)
def strip (id:UInt64)(c:cv):cv:=if dU c=true/\c[1]=id then e6 else c
def hU (id:UInt64)(f:Nat->cv):Nat->c0×Bool
 | 0=>(jB,false)
 | p+1=>if dU (f p)=true/\(f p)[1]=id then (jX (f p),true) else hU id f p
def eZ (P:db)(leaf:Nat)(M:dF)(p:Nat):cv:=M (spot P leaf p).1 (spot P leaf p).2
def ku (P:db)(leaf:Nat)(id:UInt64)(M:dF)(c:cv):Nat->cv:=λp=>if p<P.m then strip id (eZ P leaf M p) else if p=P.m then c else e6
inductive fg where
 | look
 | put (d:c0)
 | part (at_:Nat) (x y:UInt64)
 | drop
def fg.now (op:fg)(old:c0)(there:Bool):Option c0 :=
 match op with
 | .look=>if there then some old else none
 | .put d=>some d
 | .part a x y=>some ((old.setIfInBounds a x).setIfInBounds (a+1) y)
 | .drop=>none
def ze (id:UInt64)(to:Nat):Option c0->cv
 | some d=>la id (UInt64.ofNat to) d
 | none=>e6
def tL (P:db)(T:Nat->cv)(M:dF):dF:=λr i=>if r=2/\i<2 ^ P.E then T i else M r i
def jH (P:db)(id:UInt64)(av:Nat)(M:dF):c0×Bool:=hU id (eZ P av M) P.m
def ib (P:db)(op:fg)(id:UInt64)(av to:Nat)(M:dF):Nat->cv:=ku P av id M (ze id to (op.now (jH P id av M).1 (jH P id av M).2))
def k8 (P:db)(op:fg)(id:UInt64)(av to:Nat)(M:dF):dF:=p2 P av (ke P av (ib P op id av to M)) (tL P (ke P av (ib P op id av to M)) M) P.m
def sI (P:db)(op:fg)(id:UInt64)(av to:Nat)(M:dF):Bool:=lH P av (ib P op id av to M)
theorem IT {P:db}{leaf:Nat}{T:Nat->cv}{M:dF}{r i:Nat}:∀n,(∀p,p<n->spot P leaf p≠(r,i))->p2 P leaf T M n r i=M r i
 | 0,_=>rfl
 | n+1,h=>by
  unfold p2 fA
  rw[if_neg (λe=>h n (by omega) (by rw[e.1,e.2])),IT n λp aS=>h p (by omega)]
theorem XZ {P:db}(o:P.da){leaf:Nat}(aT:leaf<2 ^ P.k){T:Nat->cv}{M:dF}{p:Nat}:∀n,p<n->p2 P leaf T M n (spot P leaf p).1 (spot P leaf p).2=(T p).set 11 0
 | 0,h=>by omega
 | n+1,h=>by
  unfold p2 fA
  by_cases c:p=n
  .subst c;rw[if_pos ⟨rfl,rfl⟩]
  .rw[if_neg (λe=>c (Fk o aT (Prod.ext e.1 e.2))),XZ o aT n (by omega)]
theorem Ca {P:db}(o:P.da){op:fg}{id:UInt64}{av to:Nat}(aT:av<2 ^ P.k)(M:dF){p:Nat}(aS:p<P.m):k8 P op id av to M (spot P av p).1 (spot P av p).2=(ke P av (ib P op id av to M) p).set 11 0:=XZ o aT _ aS
theorem X0 {P:db}{op:fg}{id:UInt64}{av to:Nat}(M:dF){r i:Nat}(aP:r≠2)(h:∀p,p<P.m->spot P av p≠(r,i)):k8 P op id av to M r i=M r i:=by
 unfold k8;rw[IT _ h,tL,if_neg (λe=>aP e.1)]
def qA (P:db)(M:dF):Prop:=∀r i,l2 P r i->dU (M r i)=true->(M r i)[1].toNat<=2147483648/\(M r i)[2].toNat<2 ^ P.k
theorem alS (id leaf:UInt64)(d:c0):dU (la id leaf d)=true:=by simp[dU,la]
theorem Fl (id leaf:UInt64)(d:c0):(la id leaf d)[1]=id:=by simp[la]
theorem OI (id leaf:UInt64)(d:c0):(la id leaf d)[2]=leaf:=by simp[la]
theorem Mx (id leaf:UInt64)(d:c0):jX (la id leaf d)=d:=by
 apply Vector.ext
 intro i hi
 have h:i=0∨i=1∨i=2∨i=3∨i=4∨i=5∨i=6∨i=7:=by omega
 rcases h with rfl|rfl|rfl|rfl|rfl|rfl|rfl|rfl<;>simp[jX,la]
theorem alT {id:UInt64}{c:cv}(h:dU (strip id c)=true):strip id c=c/\dU c=true/\c[1]≠id:=by
 unfold strip at h ⊢
 split at h
 .rw[vt] at h;cases h
 .rename_i aH;rw[if_neg aH];exact⟨rfl,h,λe=>aH ⟨h,e⟩⟩
theorem vu {P:db}{leaf:Nat}{id:UInt64}{M:dF}{c:cv}{p:Nat}(h:dU (ku P leaf id M c p)=true) :
 (p<P.m/\ku P leaf id M c p=eZ P leaf M p/\dU (eZ P leaf M p)=true/\(eZ P leaf M p)[1]≠id)∨(p=P.m/\ku P leaf id M c p=c/\dU c=true):=by
 unfold ku at h ⊢
 by_cases aa:p<P.m
 .rw[if_pos aa] at h ⊢
  obtain⟨a,b,cc⟩:=alT h
  exact .inl ⟨aa,a,b,cc⟩
 .rw[if_neg aa] at h ⊢
  by_cases ad:p=P.m
  .rw[if_pos ad] at h ⊢;exact .inr ⟨ad,rfl,h⟩
  .rw[if_neg ad,vt] at h;cases h
theorem Cb {id:UInt64}{to:Nat}{x:Option c0}(h:dU (ze id to x)=true):∃d,x=some d/\ze id to x=la id (UInt64.ofNat to) d:=by
 cases x with
 | none=>unfold ze at h;rw[vt] at h;cases h
 | some d=>exact⟨d,rfl,rfl⟩
theorem OJ {k to:Nat}(ag:k<=10)(h:to<2 ^ k):(UInt64.ofNat to).toNat=to:=by
 have:=Nat.pow_le_pow_right (n:=2) (by decide) ag
 rw[UInt64.toNat_ofNat'];omega
theorem yN {P:db}(o:P.da){op:fg}{id:UInt64}{av to:Nat}{M:dF}(w:qA P M)(a_:av<2 ^ P.k)(bw:to<2 ^ P.k)(ho:id.toNat<=2147483648):xe P (ib P op id av to M):=by
 have key:∀i,dU (ib P op id av to M i)=true->i<P.n/\(ib P op id av to M i)[1].toNat<=2147483648/\(ib P op id av to M i)[2].toNat<2 ^ P.k:=by
  intro i h
  have aH:P.n=P.m+1:=rfl
  rcases vu h with ⟨aa,ad,an,_⟩|⟨aa,ad,an⟩
  .have:=w _ _ (mr o a_ aa) an
   unfold ib;rw[ad]
   exact⟨by omega,this⟩
  .obtain⟨d,_,e⟩:=Cb an
   unfold ib;rw[ad,e,Fl,OI]
   exact⟨by omega,ho,by rw[OJ o.k bw];exact bw⟩
 exact⟨λi h=>(key i h).1,λi h=>(key i h).2.1,λi h=>(key i h).2.2⟩
theorem Eb {c cc:cv}(h:∃x y,c.set 11 x=cc.set 11 y):dU c=dU cc/\c[1]=cc[1]/\c[2]=cc[2]/\jX c=jX cc:=by
 obtain⟨x,y,e⟩:=h
 have g:∀i (hi:i<11),c[i]=cc[i]:=λi hi=>by
  have:=congrArg (λv:cv=>v[i]'(by omega)) e
  simpa [Vector.getElem_set,show(11:Nat)≠i by omega] using this
 refine⟨by unfold dU;rw[g 0 (by omega)],g 1 (by omega),g 2 (by omega),?_⟩
 unfold jX
 rw[g 3 (by omega),g 4 (by omega),g 5 (by omega),g 6 (by omega),g 7 (by omega),g 8 (by omega),g 9 (by omega),g 10 (by omega)]
theorem H3 (c:cv)(x:UInt64):jX (c.set 11 x)=jX c:=by simp[jX]
theorem tq {P:db}(o:P.da){p:Nat}(h:p<P.m):p<2 ^ P.E:=by have:=o.n;unfold db.n at this;unfold db.m at h;omega
theorem yO {P:db}(o:P.da){op:fg}{id:UInt64}{av to:Nat}(a_:av<2 ^ P.k)(M:dF){r i:Nat}(bQ:l2 P r i) :
 (∃p,p<P.m/\spot P av p=(r,i)/\k8 P op id av to M r i=(ke P av (ib P op id av to M) p).set 11 0)∨((∀p,p<P.m->spot P av p≠(r,i))/\k8 P op id av to M r i=M r i):=by
 by_cases h:∃p,p<P.m/\spot P av p=(r,i)
 .obtain⟨p,aS,e⟩:=h
  have:=Ca o (op:=op) (id:=id) (to:=to) a_ M aS
  rw[e] at this
  exact .inl ⟨p,aS,e,this⟩
 .have ah:∀p,p<P.m->spot P av p≠(r,i):=λp aS e=>h ⟨p,aS,e⟩
  refine .inr ⟨ah,X0 M ?_ ah⟩
  rcases bQ with ⟨h,_⟩|⟨h,_⟩<;>omega
theorem X1 {P:db}(o:P.da){op:fg}{id:UInt64}{av to:Nat}{M:dF}(w:qA P M)(a_:av<2 ^ P.k)(bw:to<2 ^ P.k)(ho:id.toNat<=2147483648):qA P (k8 P op id av to M):=by
 intro r i bQ au
 have dR:=yN o (op:=op) w a_ bw ho
 obtain⟨g,pK,_⟩:=Ea o av _ dR
 rcases yO o (op:=op) (id:=id) (to:=to) a_ M bQ with ⟨p,aS,_,e⟩|⟨_,e⟩
 .rw[e] at au ⊢
  rw[o2] at au
  rw[tV,Jn]
  obtain⟨aa,ad,an,_⟩:=pK.bl p (tq o aS) au
  obtain⟨_,f1,f2,_⟩:=Eb an
  rw[f1,f2]
  exact⟨dR.id _ ad,dR.leaf _ ad⟩
 .rw[e] at au ⊢;exact w r i bQ au
structure nR (P:db)(M:dF)(B:UInt64->Option (Nat×c0)):Prop where
 sound:∀r i,l2 P r i->dU (M r i)=true->∃leaf,B (M r i)[1]=some (leaf,jX (M r i))/\(M r i)[2].toNat=leaf/\leaf<2 ^ P.k/\(M r i)[1].toNat<=2147483648/\(r=0->∃d,d<=P.k/\i/P.s=lG P.k leaf d)
 comp:∀id x,B id=some x->∃r i,l2 P r i/\dU (M r i)=true/\(M r i)[1]=id
 uniq:∀r i e5 dw,l2 P r i->l2 P e5 dw->dU (M r i)=true->dU (M e5 dw)=true->(M r i)[1]=(M e5 dw)[1]->r=e5/\i=dw
theorem nR.mf {P:db}{M:dF}{B:UInt64->Option (Nat×c0)}(l:nR P M B):qA P M:=λr i bQ au=>by
 obtain⟨leaf,_,ad,an,aK,_⟩:=l.sound r i bQ au
 exact⟨aK,by omega⟩
theorem nR.spot {P:db}(o:P.da){M:dF}{B:UInt64->Option (Nat×c0)}(l:nR P M B){id:UInt64}{av:Nat}(hw:∀leaf d,B id=some (leaf,d)->leaf=av){r i:Nat}(bQ:l2 P r i)(au:dU (M r i)=true)(hi:(M r i)[1]=id):∃p,p<P.m/\Go.cD.spot P av p=(r,i):=by
 obtain⟨leaf,aa,_,_,_,aR⟩:=l.sound r i bQ au
 rw[hi] at aa
 have:=hw _ _ aa
 subst this
 rcases bQ with ⟨h,ca⟩|⟨h,ca⟩
 .subst h
  obtain⟨d,bV,e⟩:=aR rfl
  exact alQ o bV e
 .subst h;exact alR ca
theorem X2 {id:UInt64}{f:Nat->cv}:∀n,(∀p,p<n->¬(dU (f p)=true/\(f p)[1]=id))->hU id f n=(jB,false)
 | 0,_=>rfl
 | n+1,h=>by unfold hU;rw[if_neg (h n (by omega)),X2 n λp aS=>h p (by omega)]
theorem X3 {id:UInt64}{f:Nat->cv}{q:Nat}(aj:dU (f q)=true/\(f q)[1]=id):∀n,q<n->(∀p,p<n->dU (f p)=true/\(f p)[1]=id->p=q)->hU id f n=(jX (f q),true)
 | 0,h,_=>by omega
 | n+1,h,u=>by
  unfold hU
  by_cases c:q=n
  .subst c;rw[if_pos aj]
  .rw[if_neg (λe=>c (u n (by omega) e).symm),X3 aj n (by omega) λp aS=>u p (by omega)]
theorem alU {P:db}(o:P.da){M:dF}{B:UInt64->Option (Nat×c0)}(l:nR P M B){id:UInt64}{av:Nat}(a_:av<2 ^ P.k)(hw:∀leaf d,B id=some (leaf,d)->leaf=av) :
 jH P id av M=match B id with|some (_,d)=>(d,true)|none=>(jB,false):=by
 unfold jH
 cases h:B id with
 | none =>
  refine X2 _ λp aS e=>?_
  obtain⟨leaf,aa,_⟩:=l.sound _ _ (mr o a_ aS) e.1
  have a8:(M (Go.cD.spot P av p).1 (Go.cD.spot P av p).2)[1]=id:=e.2
  rw[a8,h] at aa;cases aa
 | some x =>
  obtain⟨leaf,d⟩:=x
  obtain⟨r,i,bQ,au,hi⟩:=l.comp id _ h
  obtain⟨q,aj,e⟩:=l.spot o hw bQ au hi
  have eq:eZ P av M q=M r i:=by unfold eZ;rw[e]
  refine(X3 (q:=q) (by rw[eq];exact⟨au,hi⟩) _ aj λp aS b4=>?_).trans ?_
  .have:=l.uniq _ _ _ _ (mr o a_ aS) (mr o a_ aj) b4.1 (by rw[e];exact au) (by rw[e];show(eZ P av M p)[1]=_;rw[b4.2,hi])
   exact Fk o a_ (Prod.ext this.1 this.2)
  .rw[eq]
   obtain⟨azm,aa,_⟩:=l.sound r i bQ au
   rw[hi,h] at aa
   obtain⟨rfl,rfl⟩:=Prod.mk.inj (Option.some.inj aa)
   rfl
theorem alV {P:db}(o:P.da){op:fg}{M:dF}{B:UInt64->Option (Nat×c0)}(l:nR P M B){id:UInt64}{av to:Nat}(a_:av<2 ^ P.k)(bw:to<2 ^ P.k)(ho:id.toNat<=2147483648)
 (hw:∀leaf d,B id=some (leaf,d)->leaf=av) (aT:sI P op id av to M=false) :
 nR P (k8 P op id av to M) (λx=>if x=id then (op.now (jH P id av M).1 (jH P id av M).2).map (λd=>(to,d)) else B x):=by
 have dR:=yN o (op:=op) l.mf a_ bw ho
 obtain⟨g,pK,_⟩:=Ea o av _ dR
 have jJ:=y9 o
 generalize alW:op.now (jH P id av M).1 (jH P id av M).2=now at *
 have fW:ib P op id av to M=ku P av id M (ze id to now):=by unfold ib;rw[alW]
 have bl:∀p,p<P.m->dU (ke P av (ib P op id av to M) p)=true ->
  ((g p<P.m/\dU (eZ P av M (g p))=true/\(eZ P av M (g p))[1]≠id/\(ke P av (ib P op id av to M) p)[1]=(eZ P av M (g p))[1])∨(g p=P.m/\(ke P av (ib P op id av to M) p)[1]=id)) /\
  ∃leaf,(if (ke P av (ib P op id av to M) p)[1]=id then now.map (λd=>(to,d)) else B (ke P av (ib P op id av to M) p)[1])=some (leaf,jX (ke P av (ib P op id av to M) p)) /\
   (ke P av (ib P op id av to M) p)[2].toNat=leaf/\leaf<2 ^ P.k/\(ke P av (ib P op id av to M) p)[1].toNat<=2147483648/\(p<P.tree->lG P.k av (p/P.s)=lG P.k leaf (p/P.s)):=by
  intro p aS au
  have aU:0<P.s:=by have:=o.s;omega
  obtain⟨aa,ad,an,aK,aR⟩:=pK.bl p (tq o aS) au
  obtain⟨_,f1,f2,f3⟩:=Eb an
  have rB:=ad
  rw[fW] at rB
  rw[f1,f2,f3]
  rcases vu rB with ⟨aq,aM,a3,a4⟩|⟨aq,aM,a3⟩
  .rw[<-fW] at aM
   rw[aM]
   obtain⟨leaf,ae,ay,aN,bJ,_⟩:=l.sound _ _ (mr o a_ aq) a3
   refine⟨.inl ⟨aq,a3,a4,rfl⟩,leaf,?_,ay,aN,bJ,λbw=>?_⟩
   .rw[if_neg a4];exact ae
   .have:=aR bw
    rw[aM] at this
    have OE:(eZ P av M (g p))[2].toNat=leaf:=ay
    rw[OE] at this
    exact OG a_ aN this (B_ aU bw)
  .rw[<-fW] at aM
   rw[aM]
   obtain⟨d,aF,a8⟩:=Cb a3
   rw[a8,Fl,OI,Mx,OJ o.k bw]
   refine⟨.inr ⟨aq,rfl⟩,to,?_,rfl,bw,ho,λCc=>?_⟩
   .rw[if_pos rfl,aF];rfl
   .have:=aR Cc
    rw[aM,a8,OI,OJ o.k bw] at this
    exact OG a_ bw this (B_ aU Cc)
 have off:∀r i,l2 P r i->(∀p,p<P.m->spot P av p≠(r,i))->dU (M r i)=true->(M r i)[1]≠id:=λr i bQ aH au hi=>by
  obtain⟨p,aS,e⟩:=l.spot o hw bQ au hi
  exact aH p aS e
 refine⟨λr i bQ au=>?_,λzt x ai=>?_,λr i e5 dw bQ hb au hA he=>?_⟩
 .rcases yO o (op:=op) (id:=id) (to:=to) a_ M bQ with ⟨p,aS,dB,e⟩|⟨aH,e⟩
  .rw[e] at au ⊢
   rw[o2] at au
   obtain⟨_,leaf,ae,ay,aN,bJ,bZ⟩:=bl p aS au
   rw[tV,Jn,H3]
   refine⟨leaf,ae,ay,aN,bJ,λaP=>?_⟩
   have aU:0<P.s:=by have:=o.s;omega
   have Cc:p<P.s*(P.k+1):=by
    rcases Nat.lt_or_ge p (P.s*(P.k+1)) with h|h
    .exact h
    .rw[w8 (by omega),aP] at dB;have:=(Prod.mk.inj dB).1;omega
   refine⟨p/P.s,B_ aU Cc,?_⟩
   rw[w7 Cc] at dB
   have:=(Prod.mk.inj dB).2
   rw[<-this,(BF (Nat.mod_lt p aU)).1]
   exact bZ Cc
  .rw[e] at au ⊢
   obtain⟨leaf,ae,ay⟩:=l.sound r i bQ au
   exact⟨leaf,by rw[if_neg (off r i bQ aH au)];exact ae,ay⟩
 .by_cases hi:zt=id
  .subst hi
   rw[if_pos rfl] at ai
   obtain⟨d,bV,_⟩:=Option.map_eq_some_iff.1 ai
   have lf:dU (ib P op zt av to M P.m)=true:=by
    rw[fW,ku,if_neg (by omega),if_pos rfl,bV];exact alS _ _ _
   obtain⟨p,aS,au,c_⟩:=pK.all aT P.m (by show P.s*(P.k+1)+P.t<_;unfold db.n;omega) lf
   refine⟨_,_,mr o a_ aS,?_⟩
   rw[Ca o a_ M aS,o2,tV]
   refine⟨au,?_⟩
   rcases (bl p aS au).1 with ⟨h,_⟩|⟨_,h⟩
   .omega
   .exact h
  .rw[if_neg hi] at ai
   obtain⟨r,i,bQ,au,e⟩:=l.comp zt x ai
   rcases yO o (op:=op) (id:=id) (to:=to) a_ M bQ with ⟨p,aS,dB,aF⟩|⟨aH,aF⟩
   .have es:eZ P av M p=M r i:=by unfold eZ;rw[dB]
    have lf:ib P op id av to M p=M r i:=by
     rw[fW,ku,if_pos aS,strip,es,if_neg (λh=>hi (by rw[<-e,h.2]))]
    obtain⟨q,aj,au,c_⟩:=pK.all aT p (by show p<P.m+1;omega) (by rw[lf];exact au)
    refine⟨_,_,mr o a_ aj,?_⟩
    rw[Ca o a_ M aj,o2,tV]
    refine⟨au,?_⟩
    rcases (bl q aj au).1 with ⟨_,_,_,h⟩|⟨h,_⟩
    .rw[h,c_,es,e]
    .omega
   .exact⟨r,i,bQ,by rw[aF];exact⟨au,e⟩⟩
 .rcases yO o (op:=op) (id:=id) (to:=to) a_ M bQ with ⟨p,aS,dB,aF⟩|⟨aH,aF⟩
  .rw[aF] at au he
   rw[o2] at au;rw[tV] at he
   rcases yO o (op:=op) (id:=id) (to:=to) a_ M hb with ⟨q,aj,f0,f1⟩|⟨l1,f1⟩
   .rw[f1] at hA he
    rw[o2] at hA;rw[tV] at he
    have OK:p=q:=by
     refine pK.inj p q (tq o aS) (tq o aj) ?_
     rcases (bl p aS au).1 with ⟨aq,aM,a3,a4⟩|⟨aq,aM⟩
     .rcases (bl q aj hA).1 with ⟨ae,ay,aN,bJ⟩|⟨ae,ay⟩
      .have:=l.uniq _ _ _ _ (mr o a_ aq) (mr o a_ ae) aM ay (by show(eZ P av M (g p))[1]=(eZ P av M (g q))[1];rw[<-a4,<-bJ,he])
       exact Fk o a_ (Prod.ext this.1 this.2)
      .rw[a4,ay] at he;exact absurd he a3
     .rcases (bl q aj hA).1 with ⟨ae,ay,aN,bJ⟩|⟨ae,ay⟩
      .rw[aM,bJ] at he;exact absurd he.symm aN
      .rw[aq,ae]
    subst OK
    rw[dB] at f0
    exact⟨(Prod.mk.inj f0).1,(Prod.mk.inj f0).2⟩
   .rw[f1] at hA he
    rcases (bl p aS au).1 with ⟨aq,aM,a3,a4⟩|⟨aq,aM⟩
    .have:=l.uniq _ _ _ _ (mr o a_ aq) hb aM hA (by show(eZ P av M (g p))[1]=_;rw[<-a4,he])
     exact absurd (Prod.ext this.1 this.2) (l1 _ aq)
    .rw[aM] at he;exact absurd he.symm (off e5 dw hb l1 hA)
  .rw[aF] at au he
   rcases yO o (op:=op) (id:=id) (to:=to) a_ M hb with ⟨q,aj,f0,f1⟩|⟨l1,f1⟩
   .rw[f1] at hA he
    rw[o2] at hA;rw[tV] at he
    rcases (bl q aj hA).1 with ⟨aq,aM,a3,a4⟩|⟨aq,aM⟩
    .have:=l.uniq _ _ _ _ (mr o a_ aq) bQ aM au (by show(eZ P av M (g q))[1]=_;rw[<-a4,he])
     exact absurd (Prod.ext this.1 this.2) (aH _ aq)
    .rw[aM] at he;exact absurd he (off r i bQ aH au)
   .rw[f1] at hA he
    exact l.uniq _ _ _ _ bQ hb au hA he
theorem alX {P:db}(o:P.da){op:fg}{M:dF}{B:UInt64->Option (Nat×c0)}(l:nR P M B){id:UInt64}{av to:Nat}(a_:av<2 ^ P.k)(bw:to<2 ^ P.k)(ho:id.toNat<=2147483648)
 (S:List UInt64) (tP:S.length<=P.t) (dh:∀x,B x≠none->x∈S) (aH:op.now (jH P id av M).1 (jH P id av M).2≠none->id∈S):sI P op id av to M=false:=by
 have dR:=yN o (op:=op) l.mf a_ bw ho
 obtain⟨g,_,Oz⟩:=Ea o av _ dR
 refine Oz S tP (λi h=>?_) (λi j h ah he=>?_)
 .rcases vu h with ⟨aq,aM,a3,a4⟩|⟨aq,aM,a3⟩
  .unfold ib;rw[aM]
   obtain⟨leaf,ae,_⟩:=l.sound _ _ (mr o a_ aq) a3
   exact dh _ (by show B (M _ _)[1]≠none;rw[ae];simp)
  .obtain⟨d,aF,a8⟩:=Cb a3
   unfold ib;rw[aM,a8,Fl]
   exact aH (by rw[aF];simp)
 .unfold ib at he
  rcases vu h with ⟨aq,aM,a3,a4⟩|⟨aq,aM,a3⟩
  .rcases vu ah with ⟨ae,ay,aN,bJ⟩|⟨ae,ay,aN⟩
   .rw[aM,ay] at he
    have:=l.uniq _ _ _ _ (mr o a_ aq) (mr o a_ ae) a3 aN he
    exact Fk o a_ (Prod.ext this.1 this.2)
   .obtain⟨d,_,a8⟩:=Cb aN
    rw[aM,ay,a8,Fl] at he;exact absurd he a4
  .rcases vu ah with ⟨ae,ay,aN,bJ⟩|⟨ae,ay,aN⟩
   .obtain⟨d,_,a8⟩:=Cb a3
    rw[aM,ay,a8,Fl] at he;exact absurd he.symm bJ
   .omega
theorem nR.zero {P:db}{M:dF}(h:∀r i,l2 P r i->M r i=e6):nR P M (λ_=>none) :=
 ⟨λr i bQ au=>(by rw[h r i bQ,vt] at au;cases au),λid x ai=>(by cases ai),λr i e5 dw bQ _ au=>(by rw[h r i bQ,vt] at au;cases au)⟩
end Go.cD
namespace Go.cD
theorem X4:∀ {l fx:List Nat},l.Perm fx->l.Pairwise (·<=·)->fx.Pairwise (·<=·)->l=fx
 | [],fx,p,_,_=>(List.Perm.eq_nil p.symm).symm
 | a::l,[],p,_,_=>by have:=p.length_eq;simp at this
 | a::l,b::fx,p,s,cX=>by
  obtain⟨alY,kb⟩:=List.pairwise_cons.1 s
  obtain⟨cr,alZ⟩:=List.pairwise_cons.1 cX
  have XN:a=b:=by
   have aa:a∈b::fx:=p.mem_iff.1 (List.mem_cons_self ..)
   have ad:b∈a::l:=p.mem_iff.2 (List.mem_cons_self ..)
   rcases List.mem_cons.1 aa with aa|aa
   .exact aa
   .rcases List.mem_cons.1 ad with ad|ad
    .exact ad.symm
    .have:=alY b ad;have:=cr a aa;omega
  subst XN
  rw[X4 (List.Perm.cons_inv p) kb alZ]
theorem X5 {n:Nat}{f:Nat->Nat}(h:∀i j,i<=j->j<n->f i<=f j):((List.range n).map f).Pairwise (·<=·):=by
 rw[List.pairwise_iff_getElem]
 intro i j hi aV n7
 simp only[List.getElem_map,List.getElem_range]
 exact h i j (by omega) (by simpa using aV)
theorem al0 {n:Nat}{f g:Nat->Nat}(p:((List.range n).map f).Perm ((List.range n).map g))(a_:∀i j,i<=j->j<n->f i<=f j)(c_:∀i j,i<=j->j<n->g i<=g j){i:Nat}(hi:i<n):f i=g i:=by
 have e:=X4 p (X5 a_) (X5 c_)
 have:=congrArg (λl=>l[i]?) e
 simpa [hi] using this
def oj (k key:Nat):UInt64×Int:=if key<4611686018427387904 then (UInt64.ofNat (key%4294967296),(k:Int)-(key/4294967296:Nat)) else (0,-1)
def iX (P:db)(av:Nat)(c:cv):UInt64×Int:=if dU c=true then (c[1],((ky P.k av c[2].toNat:Nat):Int)) else (0,-1)
theorem BP (k a b:Nat):ky k a b<=k:=by unfold ky;omega
theorem W6 {P:db}(o:P.da){av:Nat}{T:Nat->cv}(w:xe P T){i:Nat}(hi:i<2 ^ P.E):iX P av (T i)=oj P.k (gU (hh P av T i)):=by
 have jJ:=y9 o
 unfold iX
 by_cases h:dU (T i)=true
 .rw[if_pos h]
  have ho:=w.id i h
  have e:gU (hh P av T i)=(P.k-ky P.k av (T i)[2].toNat)*4294967296+(T i)[1].toNat:=by
   unfold gU hh;rw[xd];exact XS o (w.lt i h) h ho
  have bV:=BP P.k av (T i)[2].toNat
  have ag:=o.k
  generalize ky P.k av (T i)[2].toNat=d at *
  unfold oj
  rw[e,if_pos (by omega)]
  have aF:((P.k-d)*4294967296+(T i)[1].toNat)%4294967296=(T i)[1].toNat:=by omega
  have a8:((P.k-d)*4294967296+(T i)[1].toNat)/4294967296=P.k-d:=by omega
  rw[aF,a8]
  refine Prod.ext ?_ ?_
  .show(T i)[1]=UInt64.ofNat (T i)[1].toNat;simp
  .show((d:Nat):Int)=(P.k:Int)-((P.k-d:Nat):Int);omega
 .rw[if_neg h]
  have e:gU (hh P av T i)=4611686018427387904+i:=by
   unfold gU hh;rw[xd];exact XT (by omega) (λx=>h x.2)
  unfold oj;rw[e,if_neg (by omega)]
theorem al1 (P:db)(av:Nat)(c:cv)(x:UInt64):iX P av (c.set 11 x)=iX P av c:=by
 unfold iX;rw[o2,tV,Jn]
theorem Ob {P:db}(o:P.da){av:Nat}{T:Nat->cv}(w:xe P T){i:Nat}(hi:i<2 ^ P.E):iX P av (fk P av T i)=oj P.k (gU (fk P av T i)):=by
 obtain⟨σ,τ,b,e⟩:=OA gU P.E (hh P av T)
 have e:fk P av T i=hh P av T (σ i):=e i hi
 rw[e,<-W6 o w (b.s i hi)]
 unfold hh;rw[al1]
theorem Ja (P:db)(av:Nat)(c:cv):(iX P av c).2=vn P av c:=by unfold iX vn;split<;>rfl
theorem akS {P:db}(o:P.da){av:Nat}{T:Nat->cv}(w:xe P T){bC:Nat->Nat}(p:((List.range (2 ^ P.E)).map bC).Perm ((List.range (2 ^ P.E)).map λi=>gU (hh P av T i)))(s:∀i j,i<=j->j<2 ^ P.E->bC i<=bC j){i:Nat}(hi:i<2 ^ P.E) :
 oj P.k (bC i)=iX P av (fk P av T i):=by
 rw[Ob o w hi]
 congr 1
 refine al0 (f:=bC) (g:=λi=>gU (fk P av T i)) (p.trans ?_) s (λi j aa ad=>Jh gU P.E _ aa ad) hi
 have:=((XB gU P.E (hh P av T)).1.map gU).symm
 rw[List.map_map,List.map_map] at this
 exact this
theorem W7 (P:db)(av:Nat)(T:Nat->cv){i j:Nat}(aa:i<=j)(ad:j<2 ^ P.E):gU (fk P av T i)<=gU (fk P av T j):=Jh gU P.E _ aa ad
end Go.cD
namespace Go.cD
structure cG where
 m:Nat
 L:Nat
 s:Nat
 t:Nat
 E:Nat->Nat
 f:Nat
def cG.k (G:cG)(h:Nat):Nat:=G.m-2*h
def cG.d_ (G:cG)(h:Nat):db:=⟨G.m-2*h,G.s,G.t,G.E h⟩
def cG.top (G:cG):Nat:=2 ^ (G.m-2*(G.L-1))
def cG.base (G:cG)(h:Nat):Nat:=G.f+1+3*h
structure cG.da (G:cG):Prop where
 m:G.m<=10
 L:1<=G.L/\G.L<=4
 gy:∀h,(G.d_ h).da
def cG.bH (G:cG)(u h:Nat):Nat:=u+2*(G.L-1-h)
def cG.leaf (G:cG)(w:Nat->UInt64)(h p:Nat):Nat:=(w p).toNat%2 ^ (G.m-2*h)
theorem cG.o4 (G:cG)(w:Nat->UInt64)(h p:Nat):G.leaf w h p<2 ^ (G.d_ h).k:=Nat.mod_lt _ (Nat.pow_pos (by decide))
structure cU where
 R:dF
 used:Nat
 over:Nat->Bool
 ids:Nat->List UInt64
 gone:List (Nat×Nat)
def kx (b:Nat)(R:dF):dF:=λr i=>R (b+r) i
def lp (b:Nat)(R M:dF):dF:=λr i=>if b<=r/\r<b+3 then M (r-b) i else R r i
def meets (op:fg)(id:UInt64)(l:List UInt64):List UInt64 :=
 match op with
 | .put _=>if id∈l then l else l++[id]
 | .part _ _ _=>if id∈l then l else l++[id]
 | _=>l
def cG.b2 (G:cG)(h:Nat)(R:dF):dF:=kx (G.base h) R
def cG.acc (G:cG)(h:Nat)(op:fg)(id:UInt64)(av to:Nat)(S:cU):cU :=
 { S with
  R:=lp (G.base h) S.R (k8 (G.d_ h) op id av to (G.b2 h S.R))
  over:=λx=>if x=h then S.over h||sI (G.d_ h) op id av to (G.b2 h S.R) else S.over x
  ids:=λx=>if x=h then meets op id (S.ids h) else S.ids x }
def cG.old (G:cG)(h:Nat)(id:UInt64)(av:Nat)(S:cU):c0×Bool:=jH (G.d_ h) id av (G.b2 h S.R)
def fM (v p:UInt64)(sp:Nat×Nat):Nat×Nat:=if v=0 then sp else (v.toNat-1,p.toNat)
def cE (x h:Nat):UInt64:=UInt64.ofNat (x/4 ^ h)
def hP (d:c0)(j:Nat):UInt64:=d[j]?.getD 0
def jR (G:cG)(w:Nat->UInt64)(u:Nat)(op:fg)(x:Nat):(h:Nat)->UInt64->UInt64->cU->cU×c0×Bool
 | 0,v,p,S =>
  let av:=fM v p (G.leaf w 0 (G.bH u 0+1),G.bH u 0+1)
  let fm:={ S with gone:=S.gone++[av] }
  (G.acc 0 op (cE x 0) av.1 (G.leaf w 0 (G.bH u 0)) fm,G.old 0 (cE x 0) av.1 fm)
 | h+1,v,p,S =>
  let av:=fM v p (G.leaf w (h+1) (G.bH u (h+1)+1),G.bH u (h+1)+1)
  let fm:={ S with gone:=S.gone++[av] }
  let j:=2*(x/4 ^ h%4)
  let old:=(G.old (h+1) (cE x (h+1)) av.1 fm).1
  jR G w u op x h (hP old j) (hP old (j+1)) (G.acc (h+1) (.part j (UInt64.ofNat (G.leaf w h (G.bH u h)+1)) (UInt64.ofNat (G.bH u h))) (cE x (h+1)) av.1 (G.leaf w (h+1) (G.bH u (h+1))) fm)
def tW (v p:UInt64):cv:=#v[v,p,0,0,0,0,0,0,0,0,0,0]
def c3 (G:cG)(w:Nat->UInt64)(op:fg)(x:Nat)(S:cU):cU×c0×Bool :=
 let c:=S.R G.f (x/4 ^ (G.L-1))
 jR G w S.used op x (G.L-1) c[0] c[1]
  { S with R:=fA S.R (G.f,x/4 ^ (G.L-1)) (tW (UInt64.ofNat (G.leaf w (G.L-1) (G.bH S.used (G.L-1))+1)) (UInt64.ofNat (G.bH S.used (G.L-1)))),used:=S.used+2*G.L }
theorem Mw {id:UInt64}{f:Nat->cv}:∀n,hU id f n=(jB,false)∨∃p,p<n/\dU (f p)=true/\(f p)[1]=id/\hU id f n=(jX (f p),true)
 | 0=> .inl rfl
 | n+1=>by
  unfold hU
  split
  .rename_i h;exact .inr ⟨n,by omega,h.1,h.2,rfl⟩
  .rcases Mw (id:=id) (f:=f) n with h|⟨p,aa,ad⟩
   .exact .inl h
   .exact .inr ⟨p,by omega,ad⟩
theorem al2 {P:db}(o:P.da){op:fg}{id:UInt64}{av to:Nat}{M:dF}(w:qA P M)(a_:av<2 ^ P.k)(bw:to<2 ^ P.k)(ho:id.toNat<=2147483648) :
 ∃φ:Nat->Nat->Option (Nat×Nat),
  (∀r i,l2 P r i->dU (k8 P op id av to M r i)=true->φ r i=none->∃d,op.now (jH P id av M).1 (jH P id av M).2=some d/\jX (k8 P op id av to M r i)=d) /\
  (∀r i q,l2 P r i->dU (k8 P op id av to M r i)=true->φ r i=some q->l2 P q.1 q.2/\dU (M q.1 q.2)=true/\jX (k8 P op id av to M r i)=jX (M q.1 q.2)/\((∃p,p<P.m/\spot P av p=q)->(M q.1 q.2)[1]≠id)) /\
  (∀r i e5 dw,l2 P r i->l2 P e5 dw->dU (k8 P op id av to M r i)=true->dU (k8 P op id av to M e5 dw)=true->φ r i=φ e5 dw->r=e5/\i=dw):=by
 have dR:=yN o (op:=op) w a_ bw ho
 obtain⟨g,pK,_⟩:=Ea o av _ dR
 have dec:∀r i,∃y:Option Nat,(match y with|some p=>p<P.m/\spot P av p=(r,i)|none=>∀p,p<P.m->spot P av p≠(r,i)):=λr i=>by
  by_cases h:∃p,p<P.m/\spot P av p=(r,i)
  .obtain⟨p,aS⟩:=h;exact⟨some p,aS⟩
  .exact⟨none,λp aS e=>h ⟨p,aS,e⟩⟩
 let sp:Nat->Nat->Option Nat:=λr i=>Classical.choose (dec r i)
 have ix:∀r i,(match sp r i with|some p=>p<P.m/\spot P av p=(r,i)|none=>∀p,p<P.m->spot P av p≠(r,i)):=λr i=>Classical.choose_spec (dec r i)
 have v2:∀ {r i},l2 P r i->r≠2:=λbQ=>by rcases bQ with ⟨h,_⟩|⟨h,_⟩<;>omega
 refine⟨λr i=>match sp r i with|some p=>if g p<P.m then some (spot P av (g p)) else none|none=>some (r,i),λr i bQ au h=>?_,λr i q bQ au h=>?_,λr i e5 dw bQ hb au hA h=>?_⟩
 .have aU:=ix r i
  cases e:sp r i with
  | none=>simp only[e] at h;cases h
  | some p =>
   simp only[e] at h aU
   obtain⟨aS,dB⟩:=aU
   have aF:=Ca o (op:=op) (id:=id) (to:=to) a_ M aS
   rw[dB] at aF
   rw[aF,o2] at au
   rw[aF,H3]
   obtain⟨aa,ad,an,_⟩:=pK.bl p (tq o aS) au
   obtain⟨_,f1,f2,f3⟩:=Eb an
   split at h
   .cases h
   .rcases vu ad with ⟨aq,_⟩|⟨aq,aM,a3⟩
    .omega
    .obtain⟨d,a8,b0⟩:=Cb a3
     refine⟨d,a8,?_⟩
     rw[f3];unfold ib;rw[aM,b0,Mx]
 .have aU:=ix r i
  cases e:sp r i with
  | none =>
   simp only[e] at h aU
   cases h
   have aF:=X0 (op:=op) (id:=id) (to:=to) M (v2 bQ) aU
   rw[aF] at au ⊢
   exact⟨bQ,au,rfl,fun⟨p,aS,h⟩=>absurd h (aU p aS)⟩
  | some p =>
   simp only[e] at h aU
   obtain⟨aS,dB⟩:=aU
   have aF:=Ca o (op:=op) (id:=id) (to:=to) a_ M aS
   rw[dB] at aF
   rw[aF,o2] at au
   rw[aF,H3]
   obtain⟨aa,ad,an,_⟩:=pK.bl p (tq o aS) au
   obtain⟨_,f1,f2,f3⟩:=Eb an
   split at h
   .rename_i c_
    cases h
    rcases vu ad with ⟨aq,aM,a3,a4⟩|⟨aq,_⟩
    .refine⟨mr o a_ c_,a3,?_,λ_=>a4⟩
     rw[f3];unfold ib;rw[aM];rfl
    .omega
   .cases h
 .have aU:=ix r i
  have pq:=ix e5 dw
  have bl:∀p,p<P.m->∀r i,spot P av p=(r,i)->dU (k8 P op id av to M r i)=true->g p<P.m∨g p=P.m:=λp aS r i dB au=>by
   have aF:=Ca o (op:=op) (id:=id) (to:=to) a_ M aS
   rw[dB] at aF
   rw[aF,o2] at au
   obtain⟨_,ad,_⟩:=pK.bl p (tq o aS) au
   rcases vu ad with ⟨aq,_⟩|⟨aq,_⟩
   .exact .inl aq
   .exact .inr aq
  cases e:sp r i with
  | none =>
   simp only[e] at h aU
   cases b4:sp e5 dw with
   | none=>simp only[b4] at h;cases h;exact⟨rfl,rfl⟩
   | some q =>
    simp only[b4] at h pq
    split at h
    .rename_i c_
     exact absurd (Option.some.inj h).symm (aU _ c_)
    .cases h
  | some p =>
   simp only[e] at h aU
   cases b4:sp e5 dw with
   | none =>
    simp only[b4] at h pq
    split at h
    .rename_i c_
     exact absurd (Option.some.inj h) (pq _ c_)
    .cases h
   | some q =>
    simp only[b4] at h pq
    have OK:p=q:=by
     refine pK.inj p q (tq o aU.1) (tq o pq.1) ?_
     split at h
     .split at h
      .exact Fk o a_ (Option.some.inj h)
      .cases h
     .split at h
      .cases h
      .rcases bl p aU.1 r i aU.2 au with c|c<;>rcases bl q pq.1 e5 dw pq.2 hA with cc|cc<;>omega
    subst OK
    have:=aU.2.symm.trans pq.2
    exact⟨(Prod.mk.inj this).1,(Prod.mk.inj this).2⟩
end Go.cD
namespace Go.cD
variable {G:cG} {w:Nat->UInt64}
inductive Loc where
 | top (x:Nat)
 | bl (h r i q:Nat)
 deriving DecidableEq
def me (G:cG)(R:dF):Loc->Nat->UInt64->UInt64->Prop
 | .top x,bw,v,p=>x<G.top/\bw+1=G.L/\v=(R G.f x)[0]/\p=(R G.f x)[1]
 | .bl h r i q,bw,v,p=>h<G.L/\bw+1=h/\l2 (G.d_ h) r i/\dU (G.b2 h R r i)=true/\q<4/\v=hP (jX (G.b2 h R r i)) (2*q)/\p=hP (jX (G.b2 h R r i)) (2*q+1)
structure Cd (G:cG)(w:Nat->UInt64)(u0 oo bw:Nat)(v p:UInt64):Prop where
 lt:p.toNat<oo
 val:v.toNat=G.leaf w bw p.toNat+1
 kind:∃a,p.toNat=G.bH (u0+2*G.L*a) bw
 bw:bw<G.L
structure al3 (G:cG)(w:Nat->UInt64)(u0 oo:Nat)(g:List (Nat×Nat)):Prop where
 nodup:(g.map (·.2)).Nodup
 lt:∀x∈g,x.2<oo
 val:∀i x,g[i]? =some x->x.1=G.leaf w (G.L-1-i%G.L) x.2
 kind:∀i x,g[i]? =some x->∃a e,a<=i/G.L/\e<=1/\x.2=G.bH (u0+2*G.L*a) (G.L-1-i%G.L)+e
structure kQ (G:cG)(w:Nat->UInt64)(u0 oo:Nat)(S:cU):Prop where
 mf:∀h,h<G.L->qA (G.d_ h) (G.b2 h S.R)
 oA:∀l bw v p,me G S.R l bw v p->v≠0->Cd G w u0 oo bw v p/\p.toNat∉S.gone.map (·.2)
 uniq:∀l bw v p fx mW fZ eu,me G S.R l bw v p->me G S.R fx mW fZ eu->v≠0->fZ≠0->p=eu->l=fx
 gone:al3 G w u0 oo S.gone
structure sn (G:cG)(w:Nat->UInt64)(u0 oo h:Nat)(S:cU)(v p:UInt64):Prop where
 oA:v≠0->Cd G w u0 oo h v p/\p.toNat∉S.gone.map (·.2)
 uniq:∀l bw fZ eu,v≠0->me G S.R l bw fZ eu->fZ≠0->eu≠p
theorem H4 {b:Nat}{R M:dF}{r i:Nat}(h:r<3):kx b (lp b R M) r i=M r i:=by
 unfold kx lp;rw[if_pos (by omega),Nat.add_sub_cancel_left]
theorem AP {b:Nat}{R M:dF}{r i:Nat}(h:r<b∨b+3<=r):lp b R M r i=R r i:=by
 unfold lp;rw[if_neg (by omega)]
theorem Fm {h ah:Nat}{R M:dF}{r i:Nat}(df:h≠ah)(aP:r<3):G.b2 ah (lp (G.base h) R M) r i=G.b2 ah R r i:=by
 unfold cG.b2 kx
 exact AP (by unfold cG.base;omega)
theorem zu {P:db}{r i:Nat}(h:l2 P r i):r<3:=by rcases h with ⟨h,_⟩|⟨h,_⟩<;>omega
theorem qA.congr {P:db}{M jI:dF}(w:qA P M)(h:∀r i,r<3->jI r i=M r i):qA P jI:=λr i bQ au=>by
 rw[h r i (zu bQ)] at au ⊢;exact w r i bQ au
theorem nR.congr {P:db}{M jI:dF}{B:UInt64->Option (Nat×c0)}(l:nR P M B)(h:∀r i,r<3->jI r i=M r i):nR P jI B:=by
 refine⟨λr i bQ au=>?_,λid x ai=>?_,λr i e5 dw bQ hb au hA he=>?_⟩
 .rw[h r i (zu bQ)] at au ⊢;exact l.sound r i bQ au
 .obtain⟨r,i,bQ,au⟩:=l.comp id x ai
  exact⟨r,i,bQ,by rw[h r i (zu bQ)];exact au⟩
 .rw[h r i (zu bQ)] at au he;rw[h e5 dw (zu hb)] at hA he
  exact l.uniq r i e5 dw bQ hb au hA he
theorem n0 (o:G.da){x h:Nat}(ai:x<2 ^ G.m):(cE x h).toNat=x/4 ^ h/\(cE x h).toNat<=2147483648:=by
 have aa:x/4 ^ h<=x:=Nat.div_le_self _ _
 have ad:2 ^ G.m<=2 ^ 10:=Nat.pow_le_pow_right (by decide) o.m
 unfold cE;rw[UInt64.toNat_ofNat']
 generalize x/4 ^ h=y at *
 omega
theorem xj (o:G.da)(h p:Nat):G.leaf w h p<1024:=by
 have aa:=G.o4 w h p
 have ad:2 ^ (G.d_ h).k<=2 ^ 10:=Nat.pow_le_pow_right (by decide) (o.gy h).k
 omega
theorem OL (o:G.da)(h p:Nat):(UInt64.ofNat (G.leaf w h p+1)).toNat=G.leaf w h p+1:=by
 have:=xj (w:=w) o h p
 rw[UInt64.toNat_ofNat'];omega
theorem X6 {p:Nat}(h:p<2 ^ 63):(UInt64.ofNat p).toNat=p:=by rw[UInt64.toNat_ofNat'];omega
theorem wO (o:G.da){u0 u h:Nat}{a:Nat}(hu:u=u0+2*G.L*a)(bR:h<G.L){S:cU}(eJ:kQ G w u0 (G.bH u h+1) S){v p:UInt64}(c:sn G w u0 (G.bH u h+1) h S v p)
 (hlen:S.gone.length=G.L*a+(G.L-1-h)) :
 (fM v p (G.leaf w h (G.bH u h+1),G.bH u h+1)).1<2 ^ (G.d_ h).k/\kQ G w u0 (G.bH u h+2) { S with gone:=S.gone++[fM v p (G.leaf w h (G.bH u h+1),G.bH u h+1)] }:=by
 have dY:=o.L
 have X7:(G.L*a+(G.L-1-h))%G.L=G.L-1-h:=by
  rw[Nat.mul_add_mod];exact Nat.mod_eq_of_lt (by omega)
 have hdiv:(G.L*a+(G.L-1-h))/G.L=a:=by
  rw[Nat.mul_add_div (by omega),Nat.div_eq_of_lt (by omega)];omega
 have Jp:G.L-1-(G.L-1-h)=h:=by omega
 have key:(fM v p (G.leaf w h (G.bH u h+1),G.bH u h+1)).2<G.bH u h+2/\(fM v p (G.leaf w h (G.bH u h+1),G.bH u h+1)).1=G.leaf w h (fM v p (G.leaf w h (G.bH u h+1),G.bH u h+1)).2 /\
  (∃b e,b<=a/\e<=1/\(fM v p (G.leaf w h (G.bH u h+1),G.bH u h+1)).2=G.bH (u0+2*G.L*b) h+e)/\(fM v p (G.leaf w h (G.bH u h+1),G.bH u h+1)).2∉S.gone.map (·.2) /\
  (∀l bw fZ eu,me G S.R l bw fZ eu->fZ≠0->eu.toNat≠(fM v p (G.leaf w h (G.bH u h+1),G.bH u h+1)).2):=by
  by_cases bQ:v=0
  .unfold fM;rw[if_pos bQ]
   refine⟨by show G.bH u h+1<_;omega,rfl,⟨a,1,by omega,by omega,by rw[hu]⟩,λhm=>?_,λl bw fZ eu he hb aa=>?_⟩
   .obtain⟨x,ai,e⟩:=List.mem_map.1 hm
    have:=eJ.gone.lt x ai
    have e:x.2=G.bH u h+1:=e
    omega
   .have:=(eJ.oA l bw fZ eu he hb).1.lt
    have aa:eu.toNat=G.bH u h+1:=aa
    omega
  .obtain⟨g,c_⟩:=c.oA bQ
   unfold fM;rw[if_neg bQ]
   refine⟨by have:=g.lt;show p.toNat<_;omega,by have:=g.val;show v.toNat-1=G.leaf w h p.toNat;omega,?_,c_,λl bw fZ eu he hb aa=>?_⟩
   .obtain⟨b,au⟩:=g.kind
    refine⟨b,0,?_,by omega,by rw[Nat.add_zero];exact au⟩
    have:=g.lt
    rw[au,hu] at this
    unfold cG.bH at this
    have ad:2*G.L*b<2*G.L*(a+1):=by rw[Nat.mul_add];omega
    have:=Nat.lt_of_mul_lt_mul_left ad
    omega
   .exact c.uniq l bw fZ eu bQ he hb (UInt64.toNat_inj.1 aa)
 obtain⟨aE,aC,aI,bh,bE⟩:=key
 refine⟨by rw[aC];exact G.o4 w h _,eJ.mf,λl bw fZ eu he hb=>?_,eJ.uniq,?_⟩
 .obtain⟨g,c_⟩:=eJ.oA l bw fZ eu he hb
  refine⟨⟨by have:=g.lt;omega,g.val,g.kind,g.bw⟩,λhm=>?_⟩
  rw[List.map_append] at hm
  rcases List.mem_append.1 hm with aa|aa
  .exact c_ aa
  .simp only[List.map_cons,List.map_nil,List.mem_singleton] at aa
   exact bE l bw fZ eu he hb aa
 .refine⟨?_,λx ai=>?_,λi x hi=>?_,λi x hi=>?_⟩
  .rw[List.map_append]
   rw[List.nodup_append]
   refine⟨eJ.gone.nodup,by simp,λx ai y aB=>?_⟩
   simp only[List.map_cons,List.map_nil,List.mem_singleton] at aB
   subst aB
   exact λe=>bh (e▸ai)
  .rcases List.mem_append.1 ai with aa|aa
   .have:=eJ.gone.lt x aa;omega
   .simp only[List.mem_singleton] at aa;rw[aa];exact aE
  .rcases Nat.lt_or_ge i S.gone.length with aa|aa
   .rw[List.getElem?_append_left aa] at hi;exact eJ.gone.val i x hi
   .rw[List.getElem?_append_right aa] at hi
    have n6:i-S.gone.length=0:=by
     rcases Nat.eq_zero_or_pos (i-S.gone.length) with ad|ad
     .exact ad
     .rw[List.getElem?_eq_none (by simp;omega)] at hi;cases hi
    rw[n6] at hi
    simp only[List.getElem?_cons_zero,Option.some.injEq] at hi
    have:i=G.L*a+(G.L-1-h):=by omega
    rw[this,X7,Jp,<-hi];exact aC
  .rcases Nat.lt_or_ge i S.gone.length with aa|aa
   .rw[List.getElem?_append_left aa] at hi;exact eJ.gone.kind i x hi
   .rw[List.getElem?_append_right aa] at hi
    have n6:i-S.gone.length=0:=by
     rcases Nat.eq_zero_or_pos (i-S.gone.length) with ad|ad
     .exact ad
     .rw[List.getElem?_eq_none (by simp;omega)] at hi;cases hi
    rw[n6] at hi
    simp only[List.getElem?_cons_zero,Option.some.injEq] at hi
    have:i=G.L*a+(G.L-1-h):=by omega
    rw[this,X7,Jp,hdiv,<-hi];exact aI
theorem OM (d:c0)(j:Nat)(x y:UInt64)(i:Nat):hP ((d.setIfInBounds j x).setIfInBounds (j+1) y) i=if i=j+1/\i<8 then y else if i=j/\i<8 then x else hP d i:=by
 unfold hP
 by_cases h:i<8
 .simp only[Vector.getElem?_setIfInBounds]
  by_cases aQ:i=j+1
  .subst aQ;simp[h]
  .by_cases aY:i=j
   .subst aY;simp[h]
   .rw[if_neg (λe=>aQ e.symm),if_neg (λe=>aY e.symm),if_neg (λe=>aQ e.1),if_neg (λe=>aY e.1)]
 .rw[if_neg (λe=>h e.2),if_neg (λe=>h e.2)]
  simp[h]
theorem zv (i:Nat):hP jB i=0:=by
 unfold hP jB
 by_cases h:i<8
 .simp[h]
 .simp[h]
theorem Ec (o:G.da){u0 u h q1:Nat}(bR:h+1<G.L)(oX:q1<4)(o3:G.bH u h<2 ^ 63){a:Nat}(hu:u=u0+2*G.L*a){S:cU}(eJ:kQ G w u0 (G.bH u (h+1)+2) S){id:UInt64}(ho:id.toNat<=2147483648){av to:Nat}(a_:av<2 ^ (G.d_ (h+1)).k)(bw:to<2 ^ (G.d_ (h+1)).k) :
 kQ G w u0 (G.bH u h+1) (G.acc (h+1) (.part (2*q1) (UInt64.ofNat (G.leaf w h (G.bH u h)+1)) (UInt64.ofNat (G.bH u h))) id av to S) /\
 sn G w u0 (G.bH u h+1) h (G.acc (h+1) (.part (2*q1) (UInt64.ofNat (G.leaf w h (G.bH u h)+1)) (UInt64.ofNat (G.bH u h))) id av to S) (hP (G.old (h+1) id av S).1 (2*q1)) (hP (G.old (h+1) id av S).1 (2*q1+1)):=by
 have al4:G.bH u h=G.bH u (h+1)+2:=by unfold cG.bH;omega
 have hw:=eJ.mf (h+1) bR
 have lo:=o.gy (h+1)
 generalize Jq:UInt64.ofNat (G.leaf w h (G.bH u h)+1)=nj
 generalize Jr:UInt64.ofNat (G.bH u h)=lg
 have env:nj.toNat=G.leaf w h (G.bH u h)+1:=by rw[<-Jq];exact OL o _ _
 have Fo:lg.toNat=G.bH u h:=by rw[<-Jr];exact X6 o3
 obtain⟨φ,f1,f2,f3⟩:=al2 lo (op:= .part (2*q1) nj lg) (id:=id) (to:=to) hw a_ bw ho
 generalize Fp:k8 (G.d_ (h+1)) (.part (2*q1) nj lg) id av to (G.b2 (h+1) S.R)=jI at *
 have qU:(G.acc (h+1) (.part (2*q1) nj lg) id av to S).R=lp (G.base (h+1)) S.R jI:=by rw[<-Fp];rfl
 have hB:(G.acc (h+1) (.part (2*q1) nj lg) id av to S).gone=S.gone:=rfl
 have own:∀ {r i},r<3->G.b2 (h+1) (lp (G.base (h+1)) S.R jI) r i=jI r i:=λaP=>H4 aP
 have hold:G.old (h+1) id av S=(jB,false)∨∃cx,cx<(G.d_ (h+1)).m/\dU (eZ (G.d_ (h+1)) av (G.b2 (h+1) S.R) cx)=true/\(eZ (G.d_ (h+1)) av (G.b2 (h+1) S.R) cx)[1]=id/\G.old (h+1) id av S=(jX (eZ (G.d_ (h+1)) av (G.b2 (h+1) S.R) cx),true):=Mw _
 have qV:∀l bw v p,me G (lp (G.base (h+1)) S.R jI) l bw v p->v≠0 ->
  (me G S.R l bw v p/\∀r i q,l≠.bl (h+1) r i q) ∨
  (∃r i q iy,l= .bl (h+1) r i q/\φ r i=some iy/\l2 (G.d_ (h+1)) r i/\dU (jI r i)=true/\me G S.R (.bl (h+1) iy.1 iy.2 q) bw v p/\((∃p,p<(G.d_ (h+1)).m/\spot (G.d_ (h+1)) av p=iy)->(G.b2 (h+1) S.R iy.1 iy.2)[1]≠id)) ∨
  (∃r i q cx,l= .bl (h+1) r i q/\φ r i=none/\l2 (G.d_ (h+1)) r i/\dU (jI r i)=true/\cx<(G.d_ (h+1)).m/\me G S.R (.bl (h+1) (spot (G.d_ (h+1)) av cx).1 (spot (G.d_ (h+1)) av cx).2 q) bw v p/\(eZ (G.d_ (h+1)) av (G.b2 (h+1) S.R) cx)[1]=id/\q≠q1) ∨
  (∃r i,l= .bl (h+1) r i q1/\φ r i=none/\l2 (G.d_ (h+1)) r i/\dU (jI r i)=true/\v=nj/\p=lg/\bw=h):=by
  intro l bw v p he bQ
  cases l with
  | top x =>
   left
   refine⟨?_,λ_ _ _ e=>by cases e⟩
   obtain⟨aF,a8,b0,b1⟩:=he
   have ai:lp (G.base (h+1)) S.R jI G.f x=S.R G.f x:=AP (by unfold cG.base;omega)
   rw[ai] at b0 b1
   exact⟨aF,a8,b0,b1⟩
  | bl ah r i q =>
   obtain⟨aF,a8,b0,b1,cy,dE,fo⟩:=he
   have aP:=zu b0
   by_cases iv:ah=h+1
   .subst iv
    rw[own aP] at b1 dE fo
    cases Fq:φ r i with
    | some iy =>
     right;left
     obtain⟨g1,g2,g3,g4⟩:=f2 r i iy b0 b1 Fq
     rw[g3] at dE fo
     exact⟨r,i,q,iy,rfl,Fq,b0,b1,⟨aF,a8,g1,g2,cy,dE,fo⟩,g4⟩
    | none =>
     obtain⟨d,g1,g2⟩:=f1 r i b0 b1 Fq
     have g1:some (((G.old (h+1) id av S).1.setIfInBounds (2*q1) nj).setIfInBounds (2*q1+1) lg)=some d:=g1
     rw[g2,<-Option.some.inj g1,OM] at dE fo
     by_cases aj:q=q1
     .right;right;right
      subst aj
      rw[if_neg (by omega),if_pos (by omega)] at dE
      rw[if_pos (by omega)] at fo
      exact⟨r,i,rfl,Fq,b0,b1,dE,fo,by omega⟩
     .right;right;left
      rw[if_neg (by omega),if_neg (by omega)] at dE fo
      rcases hold with dS|⟨cx,gX,h9,yP,qB⟩
      .rw[dS,zv] at dE;exact absurd dE bQ
      .rw[qB] at dE fo
       exact⟨r,i,q,cx,rfl,Fq,b0,b1,gX,⟨aF,a8,mr lo a_ gX,h9,cy,dE,fo⟩,yP,aj⟩
   .left
    rw[Fm (λe=>iv e.symm) aP] at b1 dE fo
    exact⟨⟨aF,a8,b0,b1,cy,dE,fo⟩,λ_ _ _ e=>by cases e;exact iv rfl⟩
 have lK:∀ {l bw v p},me G S.R l bw v p->v≠0->Cd G w u0 (G.bH u h+1) bw v p/\p.toNat∉S.gone.map (·.2)/\p.toNat<G.bH u h:=λhe bQ=>by
  obtain⟨g,c_⟩:=eJ.oA _ _ _ _ he bQ
  have:=g.lt
  exact⟨⟨by omega,g.val,g.kind,g.bw⟩,c_,by omega⟩
 have ON:Cd G w u0 (G.bH u h+1) h nj lg:=⟨by omega,by rw[env,Fo],⟨a,by rw[Fo,hu]⟩,by omega⟩
 have OO:lg.toNat∉S.gone.map (·.2):=λhm=>by
  obtain⟨x,ai,e⟩:=List.mem_map.1 hm
  have:=eJ.gone.lt x ai
  have e:x.2=lg.toNat:=e
  omega
 refine⟨⟨λah iv=>?_,λl mW v p he bQ=>?_,λl mW v p fx xk fZ eu he m5 bQ hb aS=>?_,?_⟩,⟨λbQ=>?_,λl mW fZ eu bQ he hb aS=>?_⟩⟩
 .rw[qU]
  by_cases e:h+1=ah
  .subst e
   have:=X1 lo (op:= .part (2*q1) nj lg) hw a_ bw ho
   rw[Fp] at this
   exact this.congr λr i aP=>own aP
  .exact(eJ.mf ah iv).congr λr i aP=>Fm e aP
 .rw[qU] at he;rw[hB]
  rcases qV l mW v p he bQ with ⟨c,_⟩|⟨r,i,q,iy,_,_,_,_,c,_⟩|⟨r,i,q,cx,_,_,_,_,_,c,_⟩|⟨r,i,_,_,_,_,aF,a8,b0⟩
  .exact⟨(lK c bQ).1,(lK c bQ).2.1⟩
  .exact⟨(lK c bQ).1,(lK c bQ).2.1⟩
  .exact⟨(lK c bQ).1,(lK c bQ).2.1⟩
  .rw[aF,a8,b0];exact⟨ON,OO⟩
 .rw[qU] at he m5
  rcases qV l mW v p he bQ with ⟨c,n⟩|⟨r,i,q,iy,rfl,aQ,aY,ck,c,dz⟩|⟨r,i,q,cx,rfl,aQ,aY,ck,dz,c,fJ,hc⟩|⟨r,i,rfl,aQ,aY,ck,aF,a8,b0⟩
  .rcases qV fx xk fZ eu m5 hb with ⟨d,iD⟩|⟨e5,dw,dL,Js,rfl,d1,d2,d3,d,d4⟩|⟨e5,dw,dL,Fs,rfl,d1,d2,d3,d4,d,d5,d6⟩|⟨e5,dw,rfl,d1,d2,d3,g1,g2,g3⟩
   .exact eJ.uniq _ _ _ _ _ _ _ _ c d bQ hb aS
   .exact absurd (eJ.uniq _ _ _ _ _ _ _ _ c d bQ hb aS) (n _ _ _)
   .exact absurd (eJ.uniq _ _ _ _ _ _ _ _ c d bQ hb aS) (n _ _ _)
   .have:=(lK c bQ).2.2
    rw[aS,g2] at this;omega
  .rcases qV fx xk fZ eu m5 hb with ⟨d,iD⟩|⟨e5,dw,dL,Js,rfl,d1,d2,d3,d,d4⟩|⟨e5,dw,dL,Fs,rfl,d1,d2,d3,d4,d,d5,d6⟩|⟨e5,dw,rfl,d1,d2,d3,g1,g2,g3⟩
   .exact absurd (eJ.uniq _ _ _ _ _ _ _ _ d c hb bQ aS.symm) (iD _ _ _)
   .have e:=eJ.uniq _ _ _ _ _ _ _ _ c d bQ hb aS
    injection e with _ aF a8 b0
    have:=f3 r i e5 dw aY d2 ck d3 (by rw[aQ,d1];exact congrArg some (Prod.ext aF a8))
    rw[this.1,this.2,b0]
   .have e:=eJ.uniq _ _ _ _ _ _ _ _ c d bQ hb aS
    injection e with _ aF a8 b0
    refine absurd d5 ?_
    have:=dz ⟨Fs,d4,(Prod.ext aF a8).symm⟩
    rw[aF,a8] at this;exact this
   .have:=(lK c bQ).2.2
    rw[aS,g2] at this;omega
  .rcases qV fx xk fZ eu m5 hb with ⟨d,iD⟩|⟨e5,dw,dL,Js,rfl,d1,d2,d3,d,d4⟩|⟨e5,dw,dL,Fs,rfl,d1,d2,d3,d4,d,d5,d6⟩|⟨e5,dw,rfl,d1,d2,d3,g1,g2,g3⟩
   .exact absurd (eJ.uniq _ _ _ _ _ _ _ _ d c hb bQ aS.symm) (iD _ _ _)
   .have e:=eJ.uniq _ _ _ _ _ _ _ _ c d bQ hb aS
    injection e with _ aF a8 b0
    refine absurd fJ ?_
    have:=d4 ⟨cx,dz,Prod.ext aF a8⟩
    rw[<-aF,<-a8] at this;exact this
   .have e:=eJ.uniq _ _ _ _ _ _ _ _ c d bQ hb aS
    injection e with _ aF a8 b0
    have:=f3 r i e5 dw aY d2 ck d3 (by rw[aQ,d1])
    rw[this.1,this.2,b0]
   .have:=(lK c bQ).2.2
    rw[aS,g2] at this;omega
  .rcases qV fx xk fZ eu m5 hb with ⟨d,iD⟩|⟨e5,dw,dL,Js,rfl,d1,d2,d3,d,d4⟩|⟨e5,dw,dL,Fs,rfl,d1,d2,d3,d4,d,d5,d6⟩|⟨e5,dw,rfl,d1,d2,d3,g1,g2,g3⟩
   .have:=(lK d hb).2.2
    rw[<-aS,a8] at this;omega
   .have:=(lK d hb).2.2
    rw[<-aS,a8] at this;omega
   .have:=(lK d hb).2.2
    rw[<-aS,a8] at this;omega
   .have:=f3 r i e5 dw aY d2 ck d3 (by rw[aQ,d1])
    rw[this.1,this.2]
 .rw[hB]
  exact⟨eJ.gone.nodup,λx ai=>by have:=eJ.gone.lt x ai;omega,eJ.gone.val,eJ.gone.kind⟩
 .rw[hB]
  rcases hold with dS|⟨cx,gX,h9,yP,qB⟩
  .rw[dS,zv] at bQ;exact absurd rfl bQ
  .rw[qB] at bQ ⊢
   have he:me G S.R (.bl (h+1) (spot (G.d_ (h+1)) av cx).1 (spot (G.d_ (h+1)) av cx).2 q1) h _ _:=⟨bR,rfl,mr lo a_ gX,h9,oX,rfl,rfl⟩
   exact⟨(lK he bQ).1,(lK he bQ).2.1⟩
 .rw[qU] at he
  rcases hold with dS|⟨cx,gX,h9,yP,qB⟩
  .rw[dS,zv] at bQ;exact absurd rfl bQ
  .rw[qB] at bQ aS
   have Jt:me G S.R (.bl (h+1) (spot (G.d_ (h+1)) av cx).1 (spot (G.d_ (h+1)) av cx).2 q1) h _ _:=⟨bR,rfl,mr lo a_ gX,h9,oX,rfl,rfl⟩
   rcases qV l mW fZ eu he hb with ⟨d,iD⟩|⟨e5,dw,dL,Js,rfl,d1,d2,d3,d,d4⟩|⟨e5,dw,dL,Fs,rfl,d1,d2,d3,d4,d,d5,d6⟩|⟨e5,dw,rfl,d1,d2,d3,g1,g2,g3⟩
   .exact absurd (eJ.uniq _ _ _ _ _ _ _ _ d Jt hb bQ aS) (iD _ _ _)
   .have e:=eJ.uniq _ _ _ _ _ _ _ _ d Jt hb bQ aS
    injection e with _ aF a8 b0
    refine absurd yP ?_
    have:=d4 ⟨cx,gX,(Prod.ext aF a8).symm⟩
    rw[aF,a8] at this;exact this
   .have e:=eJ.uniq _ _ _ _ _ _ _ _ d Jt hb bQ aS
    injection e with _ aF a8 b0
    exact d6 b0
   .have e:=g2.symm.trans aS
    have h0:lg.toNat<G.bH u h:=by rw[e];exact(lK Jt bQ).2.2
    omega
end Go.cD
namespace Go.cD
variable {G:cG} {w:Nat->UInt64}
theorem al5 (o:G.da){u0 oo:Nat}{S:cU}(eJ:kQ G w u0 oo S){op:fg}{id:UInt64}(ho:id.toNat<=2147483648){av to:Nat}(a_:av<2 ^ (G.d_ 0).k)(bw:to<2 ^ (G.d_ 0).k) :
 kQ G w u0 oo (G.acc 0 op id av to S):=by
 have hw:=eJ.mf 0 (by have:=o.L;omega)
 have lo:=o.gy 0
 generalize Fp:k8 (G.d_ 0) op id av to (G.b2 0 S.R)=jI at *
 have qU:(G.acc 0 op id av to S).R=lp (G.base 0) S.R jI:=by rw[<-Fp];rfl
 have hB:(G.acc 0 op id av to S).gone=S.gone:=rfl
 have old:∀ {l bw v p},me G (lp (G.base 0) S.R jI) l bw v p->me G S.R l bw v p:=by
  intro l bw v p he
  cases l with
  | top x =>
   obtain⟨aF,a8,b0,b1⟩:=he
   have ai:lp (G.base 0) S.R jI G.f x=S.R G.f x:=AP (by unfold cG.base;omega)
   rw[ai] at b0 b1
   exact⟨aF,a8,b0,b1⟩
  | bl ah r i q =>
   obtain⟨aF,a8,b0,b1,cy,dE,fo⟩:=he
   have aP:=zu b0
   rw[Fm (by omega) aP] at b1 dE fo
   exact⟨aF,a8,b0,b1,cy,dE,fo⟩
 refine⟨λah iv=>?_,λl mW v p he bQ=>?_,λl mW v p fx xk fZ eu he m5 bQ hb aS=>?_,?_⟩
 .rw[qU]
  by_cases e:0=ah
  .subst e
   have:=X1 lo (op:=op) hw a_ bw ho
   rw[Fp] at this
   exact this.congr λr i aP=>H4 aP
  .exact(eJ.mf ah iv).congr λr i aP=>Fm e aP
 .rw[qU] at he;rw[hB];exact eJ.oA _ _ _ _ (old he) bQ
 .rw[qU] at he m5;exact eJ.uniq _ _ _ _ _ _ _ _ (old he) (old m5) bQ hb aS
 .rw[hB];exact eJ.gone
theorem X8 (G:cG)(u:Nat):G.bH u (G.L-1)=u:=by unfold cG.bH;omega
def cG.begin (G:cG)(w:Nat->UInt64)(nk:Nat)(S:cU):cU :=
 { S with R:=fA S.R (G.f,nk) (tW (UInt64.ofNat (G.leaf w (G.L-1) (G.bH S.used (G.L-1))+1)) (UInt64.ofNat (G.bH S.used (G.L-1)))),used:=S.used+2*G.L }
theorem Ed (o:G.da){u0 a:Nat}{S:cU}(hu:S.used=u0+2*G.L*a)(o3:S.used<2 ^ 63)(eJ:kQ G w u0 S.used S){nk:Nat}(ai:nk<G.top) :
 kQ G w u0 (G.bH S.used (G.L-1)+1) (G.begin w nk S)/\sn G w u0 (G.bH S.used (G.L-1)+1) (G.L-1) (G.begin w nk S) (S.R G.f nk)[0] (S.R G.f nk)[1]:=by
 have dY:=o.L
 have Ju:=X8 G S.used
 generalize Jq:UInt64.ofNat (G.leaf w (G.L-1) (G.bH S.used (G.L-1))+1)=nj
 generalize Jr:UInt64.ofNat (G.bH S.used (G.L-1))=lg
 have env:nj.toNat=G.leaf w (G.L-1) (G.bH S.used (G.L-1))+1:=by rw[<-Jq];exact OL o _ _
 have Fo:lg.toNat=S.used:=by rw[<-Jr,Ju];exact X6 o3
 have qU:(G.begin w nk S).R=fA S.R (G.f,nk) (tW nj lg):=by rw[<-Jq,<-Jr];rfl
 have hB:(G.begin w nk S).gone=S.gone:=rfl
 have lC:∀h r i,G.b2 h (fA S.R (G.f,nk) (tW nj lg)) r i=G.b2 h S.R r i:=λh r i=>by
  unfold cG.b2 kx fA
  rw[if_neg (λe=>by have:=e.1;unfold cG.base at this;omega)]
 have qV:∀l bw v p,me G (fA S.R (G.f,nk) (tW nj lg)) l bw v p->(me G S.R l bw v p/\l≠.top nk)∨(l= .top nk/\v=nj/\p=lg/\bw+1=G.L):=by
  intro l bw v p he
  cases l with
  | top x =>
   obtain⟨aF,a8,b0,b1⟩:=he
   by_cases c:x=nk
   .subst c
    have e:fA S.R (G.f,x) (tW nj lg) G.f x=tW nj lg:=by unfold fA;rw[if_pos ⟨rfl,rfl⟩]
    rw[e] at b0 b1
    exact .inr ⟨rfl,b0,b1,a8⟩
   .have e:fA S.R (G.f,nk) (tW nj lg) G.f x=S.R G.f x:=by unfold fA;rw[if_neg (λh=>c h.2)]
    rw[e] at b0 b1
    exact .inl ⟨⟨aF,a8,b0,b1⟩,λh=>by cases h;exact c rfl⟩
  | bl ah r i q =>
   obtain⟨aF,a8,b0,b1,cy,dE,fo⟩:=he
   rw[lC] at b1 dE fo
   exact .inl ⟨⟨aF,a8,b0,b1,cy,dE,fo⟩,λh=>by cases h⟩
 have lK:∀ {l bw v p},me G S.R l bw v p->v≠0->Cd G w u0 (S.used+1) bw v p/\p.toNat∉S.gone.map (·.2)/\p.toNat<S.used:=λhe bQ=>by
  obtain⟨g,c_⟩:=eJ.oA _ _ _ _ he bQ
  have:=g.lt
  exact⟨⟨by omega,g.val,g.kind,g.bw⟩,c_,this⟩
 have ON:Cd G w u0 (S.used+1) (G.L-1) nj lg:=⟨by omega,by rw[env,Fo,Ju],⟨a,by rw[Fo,<-hu,Ju]⟩,by omega⟩
 have OO:lg.toNat∉S.gone.map (·.2):=λhm=>by
  obtain⟨x,ai,e⟩:=List.mem_map.1 hm
  have:=eJ.gone.lt x ai
  have e:x.2=lg.toNat:=e
  omega
 rw[Ju]
 have Jv:me G S.R (.top nk) (G.L-1) (S.R G.f nk)[0] (S.R G.f nk)[1]:=⟨ai,by omega,rfl,rfl⟩
 refine⟨⟨λah iv=>?_,λl mW v p he bQ=>?_,λl mW v p fx xk fZ eu he m5 bQ hb aS=>?_,?_⟩,⟨λbQ=>?_,λl mW fZ eu bQ he hb aS=>?_⟩⟩
 .rw[qU];exact(eJ.mf ah iv).congr λr i _=>lC ah r i
 .rw[qU] at he;rw[hB]
  rcases qV l mW v p he with ⟨c,_⟩|⟨_,aF,a8,b0⟩
  .exact⟨(lK c bQ).1,(lK c bQ).2.1⟩
  .rw[aF,a8,show mW=G.L-1 by omega];exact⟨ON,OO⟩
 .rw[qU] at he m5
  rcases qV l mW v p he with ⟨c,n⟩|⟨rfl,aF,a8,b0⟩
  .rcases qV fx xk fZ eu m5 with ⟨d,iD⟩|⟨rfl,g1,g2,g3⟩
   .exact eJ.uniq _ _ _ _ _ _ _ _ c d bQ hb aS
   .have:=(lK c bQ).2.2
    rw[aS,g2] at this;omega
  .rcases qV fx xk fZ eu m5 with ⟨d,iD⟩|⟨rfl,g1,g2,g3⟩
   .have:=(lK d hb).2.2
    rw[<-aS,a8] at this;omega
   .rfl
 .rw[hB];exact⟨eJ.gone.nodup,λx ai=>by have:=eJ.gone.lt x ai;omega,eJ.gone.val,eJ.gone.kind⟩
 .rw[hB];exact⟨(lK Jv bQ).1,(lK Jv bQ).2.1⟩
 .rw[qU] at he
  rcases qV l mW fZ eu he with ⟨d,iD⟩|⟨rfl,g1,g2,g3⟩
  .exact iD (eJ.uniq _ _ _ _ _ _ _ _ d Jv hb bQ aS)
  .have:=(lK Jv bQ).2.2
   rw[<-aS,g2] at this;omega
theorem X9 (o:G.da){u0 a u:Nat}(hu:u=u0+2*G.L*a)(o3:u+2*G.L<2 ^ 63){op:fg}{x:Nat}(ai:x<2 ^ G.m):∀h v p S,h<G.L->kQ G w u0 (G.bH u h+1) S->sn G w u0 (G.bH u h+1) h S v p->S.gone.length=G.L*a+(G.L-1-h) ->
 kQ G w u0 (u+2*G.L) (jR G w u op x h v p S).1/\(jR G w u op x h v p S).1.gone.length=G.L*(a+1)/\(jR G w u op x h v p S).1.used=S.used
 | 0,v,p,S,bR,eJ,c,hlen=>by
  obtain⟨aa,ad⟩:=wO o hu bR eJ c hlen
  have:=al5 o ad (op:=op) (id:=cE x 0) (to:=G.leaf w 0 (G.bH u 0)) (n0 o ai).2 aa (G.o4 w 0 _)
  have e:G.bH u 0+2=u+2*G.L:=by unfold cG.bH;omega
  rw[e] at this
  refine⟨this,?_,rfl⟩
  show(S.gone++[_]).length=_
  rw[List.length_append,hlen,Nat.mul_succ];simp;omega
 | h+1,v,p,S,bR,eJ,c,hlen=>by
  obtain⟨aa,ad⟩:=wO o hu bR eJ c hlen
  have au:G.bH u h<2 ^ 63:=by unfold cG.bH;omega
  obtain⟨gX,h9⟩:=Ec o bR (q1:=x/4 ^ (h+1-1)%4) (Nat.mod_lt _ (by decide)) au hu ad (id:=cE x (h+1)) (to:=G.leaf w (h+1) (G.bH u (h+1))) (n0 o ai).2 aa (G.o4 w (h+1) _)
  exact X9 o hu o3 ai h _ _ _ (by omega) gX h9 (by show(S.gone++[_]).length=_;rw[List.length_append,hlen];simp;omega)
theorem afj (o:G.da){u0 a:Nat}{S:cU}(hu:S.used=u0+2*G.L*a)(o3:S.used+2*G.L<2 ^ 63)(eJ:kQ G w u0 S.used S)(c_:S.gone.length=G.L*a){op:fg}{x:Nat}(ai:x<2 ^ G.m)(sQ:x/4 ^ (G.L-1)<G.top) :
 kQ G w u0 (S.used+2*G.L) (c3 G w op x S).1/\(c3 G w op x S).1.gone.length=G.L*(a+1)/\(c3 G w op x S).1.used=S.used+2*G.L:=by
 have dY:=o.L
 obtain⟨s1,s2⟩:=Ed o hu (by omega) eJ sQ
 obtain⟨g1,g2,g3⟩:=X9 o hu o3 (op:=op) ai (G.L-1) _ _ _ (by omega) s1 s2 (by show S.gone.length=_;omega)
 exact⟨g1,g2,g3⟩
end Go.cD
namespace Go.cD
variable {G:cG} {w:Nat->UInt64}
abbrev td:=Nat->UInt64->Option (Nat×c0)
abbrev tX:=Nat->UInt64->UInt64×UInt64
def told (G:cG)(R:dF)(gb:td)(h:Nat)(id:UInt64):UInt64×UInt64 :=
 if h+1=G.L then ((R G.f id.toNat)[0],(R G.f id.toNat)[1]) else
 match gb (h+1) (UInt64.ofNat (id.toNat/4)) with
 | some (_,d)=>(hP d (2*(id.toNat%4)),hP d (2*(id.toNat%4)+1))
 | none=>(0,0)
structure wU (G:cG)(S:cU)(gb:td)(K:tX)(A:UInt64->Option c0):Prop where
 li:∀h,h<G.L->nR (G.d_ h) (G.b2 h S.R) (gb h)
 rl:∀h id,h<G.L->told G S.R gb h id=K h id
 r7:∀h id leaf d,h<G.L->gb h id=some (leaf,d)->(K h id).1.toNat=leaf+1
 AQ:∀id,(gb 0 id).map (·.2)=A id
 mt:∀h id,h<G.L->gb h id≠none->id∈S.ids h
def Ft (G:cG)(w:Nat->UInt64)(u h:Nat):UInt64×UInt64:=(UInt64.ofNat (G.leaf w h (G.bH u h)+1),UInt64.ofNat (G.bH u h))
def qW (G:cG)(w:Nat->UInt64)(u x:Nat)(K:tX)(h:Nat):tX:=λah id=>if id=cE x ah/\h<=ah then Ft G w u ah else K ah id
def zw (G:cG)(w:Nat->UInt64)(u x:Nat)(K:tX)(h:Nat):Nat×Nat:=fM (K h (cE x h)).1 (K h (cE x h)).2 (G.leaf w h (G.bH u h+1),G.bH u h+1)
structure OP (G:cG)(w:Nat->UInt64)(u x h:Nat)(S:cU)(gb:td)(K:tX)(A:UInt64->Option c0):Prop where
 li:∀h,h<G.L->nR (G.d_ h) (G.b2 h S.R) (gb h)
 rl:∀ah id,ah<G.L->told G S.R gb ah id=qW G w u x K h ah id
 r7:∀ah id leaf d,ah<G.L->¬(ah=h/\id=cE x h)->gb ah id=some (leaf,d)->(qW G w u x K h ah id).1.toNat=leaf+1
 X_:∀leaf d,gb h (cE x h)=some (leaf,d)->(K h (cE x h)).1.toNat=leaf+1
 AQ:∀id,(gb 0 id).map (·.2)=A id
 mt:∀h id,h<G.L->gb h id≠none->id∈S.ids h
theorem NC (op:fg)(u x:Nat):∀h v p S ah,h<ah->(jR G w u op x h v p S).1.over ah=S.over ah/\(jR G w u op x h v p S).1.ids ah=S.ids ah
 | 0,v,p,S,ah,bR=>by
  have df:ah≠0:=by omega
  exact⟨by show(if ah=0 then _ else S.over ah)=_;rw[if_neg df],by show(if ah=0 then _ else S.ids ah)=_;rw[if_neg df]⟩
 | h+1,v,p,S,ah,bR=>by
  have df:ah≠h+1:=by omega
  obtain⟨aa,ad⟩:=NC op u x h (hP (G.old (h+1) (cE x (h+1)) (fM v p (G.leaf w (h+1) (G.bH u (h+1)+1),G.bH u (h+1)+1)).1 { S with gone:=S.gone++[fM v p (G.leaf w (h+1) (G.bH u (h+1)+1),G.bH u (h+1)+1)] }).1 (2*(x/4 ^ h%4))) (hP (G.old (h+1) (cE x (h+1)) (fM v p (G.leaf w (h+1) (G.bH u (h+1)+1),G.bH u (h+1)+1)).1 { S with gone:=S.gone++[fM v p (G.leaf w (h+1) (G.bH u (h+1)+1),G.bH u (h+1)+1)] }).1 (2*(x/4 ^ h%4)+1))
   (G.acc (h+1) (.part (2*(x/4 ^ h%4)) (UInt64.ofNat (G.leaf w h (G.bH u h)+1)) (UInt64.ofNat (G.bH u h))) (cE x (h+1)) (fM v p (G.leaf w (h+1) (G.bH u (h+1)+1),G.bH u (h+1)+1)).1 (G.leaf w (h+1) (G.bH u (h+1))) { S with gone:=S.gone++[fM v p (G.leaf w (h+1) (G.bH u (h+1)+1),G.bH u (h+1)+1)] }) ah (by omega)
  refine⟨aa.trans ?_,ad.trans ?_⟩
  .show(if ah=h+1 then _ else S.over ah)=_;rw[if_neg df]
  .show(if ah=h+1 then _ else S.ids ah)=_;rw[if_neg df]
theorem al6 {x h:Nat}(o:G.da)(ai:x<2 ^ G.m):UInt64.ofNat ((cE x h).toNat/4)=cE x (h+1)/\(cE x h).toNat%4=x/4 ^ h%4:=by
 have aa:=(n0 o ai (h:=h)).1
 rw[aa]
 refine⟨?_,rfl⟩
 unfold cE
 rw[Nat.pow_succ,<-Nat.div_div_eq_div_mul]
theorem Ya {op:fg}{id:UInt64}{l:List UInt64}:∀ {y},y∈l->y∈meets op id l:=by
 intro y aB
 cases op<;>simp only[meets]
 .exact aB
 .split
  .exact aB
  .exact List.mem_append_left _ aB
 .split
  .exact aB
  .exact List.mem_append_left _ aB
 .exact aB
theorem Yb {op:fg}{id:UInt64}{l:List UInt64}{old:c0}{there:Bool}(bw:there=true->id∈l)(h:op.now old there≠none):id∈meets op id l:=by
 cases op with
 | look =>
  cases there with
  | true=>exact bw rfl
  | false=>simp[fg.now] at h
 | put d=>
  simp only[meets];split
  .assumption
  .simp
 | part a x y=>
  simp only[meets];split
  .assumption
  .simp
 | drop=>simp[fg.now] at h
def zx (gb:td)(h:Nat)(id:UInt64)(v:Option (Nat×c0)):td:=λah z=>if ah=h/\z=id then v else gb ah z
theorem sR {gb:td}{h ah:Nat}{id z:UInt64}{v:Option (Nat×c0)}(aH:¬(ah=h/\z=id)):zx gb h id v ah z=gb ah z:=if_neg aH
theorem Ce {gb:td}{h ah:Nat}{id z:UInt64}{v:Option (Nat×c0)}(aH:ah=h/\z=id):zx gb h id v ah z=v:=if_pos aH
theorem Yc (o:G.da){h:Nat}(bR:h<G.L){S:cU}{gb:td}{op:fg}{id:UInt64}(ho:id.toNat<=2147483648){av to:Nat}(a_:av<2 ^ (G.d_ h).k)(bw:to<2 ^ (G.d_ h).k)
 (li:∀h,h<G.L->nR (G.d_ h) (G.b2 h S.R) (gb h)) (mt:∀h id,h<G.L->gb h id≠none->id∈S.ids h) (hw:∀leaf d,gb h id=some (leaf,d)->leaf=av)
 (fin:(G.acc h op id av to S).over h=false∨(S.over h=false/\((G.acc h op id av to S).ids h).length<=G.t)) :
 (G.acc h op id av to S).over h=false/\G.old h id av S=(match gb h id with|some (_,d)=>(d,true)|none=>(jB,false)) /\
 (∀ah,ah<G.L->nR (G.d_ ah) (G.b2 ah (G.acc h op id av to S).R) (zx gb h id ((op.now (G.old h id av S).1 (G.old h id av S).2).map (λd=>(to,d))) ah)) /\
 (∀ah z,ah<G.L->zx gb h id ((op.now (G.old h id av S).1 (G.old h id av S).2).map (λd=>(to,d))) ah z≠none->z∈(G.acc h op id av to S).ids ah):=by
 have lo:=o.gy h
 have l:=li h bR
 have hold:G.old h id av S=_:=alU lo l a_ hw
 have tH:(G.acc h op id av to S).over h=(S.over h||sI (G.d_ h) op id av to (G.b2 h S.R)):=by show(if h=h then _ else _)=_;rw[if_pos rfl]
 have mv:(G.acc h op id av to S).ids h=meets op id (S.ids h):=by show(if h=h then _ else _)=_;rw[if_pos rfl]
 have Yd:(G.old h id av S).2=true->id∈S.ids h:=λbw=>by
  refine mt h id bR λaH=>?_
  rw[hold,aH] at bw;cases bw
 have lost:sI (G.d_ h) op id av to (G.b2 h S.R)=false/\S.over h=false:=by
  rcases fin with Jw|⟨h0,aT⟩
  .rw[tH] at Jw
   rw[Bool.or_eq_false_iff] at Jw
   exact⟨Jw.2,Jw.1⟩
  .refine⟨alX lo l a_ bw ho (meets op id (S.ids h)) (by rw[<-mv];exact aT) (λx ai=>Ya (mt h x bR ai)) (λaH=>Yb Yd aH),h0⟩
 have al7:=alV lo l a_ bw ho hw lost.1
 refine⟨by rw[tH,lost.1,lost.2];rfl,hold,λah iv=>?_,λah z iv bc=>?_⟩
 .by_cases c:ah=h
  .subst c
   have e:zx gb ah id ((op.now (G.old ah id av S).1 (G.old ah id av S).2).map (λd=>(to,d))) ah=λx=>if x=id then (op.now (jH (G.d_ ah) id av (G.b2 ah S.R)).1 (jH (G.d_ ah) id av (G.b2 ah S.R)).2).map (λd=>(to,d)) else gb ah x:=by
    funext z
    by_cases c:z=id
    .rw[Ce ⟨rfl,c⟩,if_pos c];rfl
    .rw[sR (λh=>c h.2),if_neg c]
   rw[e]
   exact al7.congr λr i aP=>H4 aP
  .have e:zx gb h id ((op.now (G.old h id av S).1 (G.old h id av S).2).map (λd=>(to,d))) ah=gb ah:=by
    funext z;rw[sR (λh=>c h.1)]
   rw[e]
   exact(li ah iv).congr λr i aP=>Fm (λe=>c e.symm) aP
 .by_cases c:ah=h
  .subst c
   rw[mv]
   by_cases aY:z=id
   .subst aY
    rw[Ce ⟨rfl,rfl⟩] at bc
    exact Yb Yd λaH=>bc (by rw[aH];rfl)
   .rw[sR (λh=>aY h.2)] at bc
    exact Ya (mt ah z iv bc)
  .rw[sR (λh=>c h.1)] at bc
   show z∈(if ah=h then _ else S.ids ah)
   rw[if_neg c];exact mt ah z iv bc
def oz (A:UInt64->Option c0)(id:UInt64):c0×Bool:=match A id with|some d=>(d,true)|none=>(jB,false)
theorem Jx {u x h ah:Nat}{K:tX}{id:UInt64}(aH:¬(ah=h/\id=cE x h)):qW G w u x K h ah id=qW G w u x K (h+1) ah id:=by
 unfold qW
 by_cases c:id=cE x ah/\h<=ah
 .have:h+1<=ah:=by
   rcases Nat.eq_or_lt_of_le c.2 with e|e
   .exact absurd ⟨e.symm,by rw[e];exact c.1⟩ aH
   .exact e
  rw[if_pos c,if_pos ⟨c.1,this⟩]
 .rw[if_neg c,if_neg λad=>c ⟨ad.1,by omega⟩]
theorem Ye {u x h:Nat}{K:tX}:qW G w u x K (h+1) h (cE x h)=K h (cE x h):=by
 unfold qW;rw[if_neg (by omega)]
theorem Jy {u x h ah:Nat}{K:tX}(bR:h<=ah):qW G w u x K h ah (cE x ah)=Ft G w u ah:=by
 unfold qW;rw[if_pos ⟨rfl,bR⟩]
theorem Yf (o:G.da)(u h:Nat):(Ft G w u h).1.toNat=G.leaf w h (G.bH u h)+1:=OL o h _
theorem Yg {v p:UInt64}{sp:Nat×Nat}{leaf:Nat}(h:v.toNat=leaf+1):leaf=(fM v p sp).1:=by
 unfold fM
 rw[if_neg (λe=>by rw[e] at h;simp at h)]
 show leaf=v.toNat-1
 omega
theorem Yh {h:Nat}{op:fg}{id:UInt64}{av to:Nat}{S:cU}(x:Nat):(G.acc h op id av to S).R G.f x=S.R G.f x :=
 AP (by unfold cG.base;omega)
theorem Yi (o:G.da){u0 a u:Nat}(hu:u=u0+2*G.L*a)(o3:u+2*G.L<2 ^ 63){op:fg}{x:Nat}(ai:x<2 ^ G.m){K:tX}{A:UInt64->Option c0}:∀h S gb,h<G.L->kQ G w u0 (G.bH u h+1) S->sn G w u0 (G.bH u h+1) h S (K h (cE x h)).1 (K h (cE x h)).2->S.gone.length=G.L*a+(G.L-1-h) ->
 OP G w u x h S gb K A ->
 ((∀ah,ah<=h->(jR G w u op x h (K h (cE x h)).1 (K h (cE x h)).2 S).1.over ah=false)∨(∀ah,ah<=h->S.over ah=false/\((jR G w u op x h (K h (cE x h)).1 (K h (cE x h)).2 S).1.ids ah).length<=G.t)) ->
 ∃tc,wU G (jR G w u op x h (K h (cE x h)).1 (K h (cE x h)).2 S).1 tc (qW G w u x K 0) (λid=>if id=cE x 0 then op.now (oz A id).1 (oz A id).2 else A id)/\(jR G w u op x h (K h (cE x h)).1 (K h (cE x h)).2 S).2=oz A (cE x 0) /\
  (jR G w u op x h (K h (cE x h)).1 (K h (cE x h)).2 S).1.gone=S.gone++(List.range (h+1)).map (λi=>zw G w u x K (h-i))/\∀ah,ah<=h->(jR G w u op x h (K h (cE x h)).1 (K h (cE x h)).2 S).1.over ah=false
 | 0,S,gb,bR,eJ,c,hlen,n,fin=>by
  obtain⟨aa,ad⟩:=wO o hu bR eJ c hlen
  generalize gI:fM (K 0 (cE x 0)).1 (K 0 (cE x 0)).2 (G.leaf w 0 (G.bH u 0+1),G.bH u 0+1)=av at *
  have tY:jR G w u op x 0 (K 0 (cE x 0)).1 (K 0 (cE x 0)).2 S=(G.acc 0 op (cE x 0) av.1 (G.leaf w 0 (G.bH u 0)) { S with gone:=S.gone++[av] },G.old 0 (cE x 0) av.1 { S with gone:=S.gone++[av] }):=by rw[<-gI];rfl
  rw[tY] at fin ⊢
  have hw:∀leaf d,gb 0 (cE x 0)=some (leaf,d)->leaf=av.1:=λleaf d e=>by rw[<-gI];exact Yg (n.X_ leaf d e)
  obtain⟨aq,aM,a3,a4⟩:=Yc o bR (S:={ S with gone:=S.gone++[av] }) (op:=op) (id:=cE x 0) (n0 o ai).2 aa (G.o4 w 0 (G.bH u 0)) n.li n.mt hw (fin.imp (λf=>f 0 (Nat.le_refl _)) λf=>f 0 (Nat.le_refl _))
  have Yj:oz A (cE x 0)=G.old 0 (cE x 0) av.1 { S with gone:=S.gone++[av] }:=by
   rw[aM];unfold oz;rw[<-n.AQ]
   cases gb 0 (cE x 0)<;>rfl
  refine⟨_,⟨a3,λah id iv=>?_,λah id leaf d iv he=>?_,λid=>?_,a4⟩,Yj.symm,?_,λah iv=>?_⟩
  .rw[<-n.rl ah id iv]
   unfold told
   by_cases c:ah+1=G.L
   .rw[if_pos c,if_pos c,Yh]
   .rw[if_neg c,if_neg c,sR (by omega)]
  .by_cases c:ah=0/\id=cE x 0
   .rw[Ce c] at he
    obtain⟨y,_,e⟩:=Option.map_eq_some_iff.1 he
    have e:=(Prod.mk.inj e).1
    rw[c.1,c.2,Jy (Nat.le_refl _),Yf o,<-e]
   .rw[sR c] at he
    exact n.r7 ah id leaf d iv c he
  .by_cases c:id=cE x 0
   .subst c
    rw[Ce ⟨rfl,rfl⟩,if_pos rfl,Yj]
    cases op.now (G.old 0 (cE x 0) av.1 { S with gone:=S.gone++[av] }).1 (G.old 0 (cE x 0) av.1 { S with gone:=S.gone++[av] }).2<;>rfl
   .rw[sR (λh=>c h.2),if_neg c];exact n.AQ id
  .show S.gone++[av]=_
   simp[zw,gI]
  .have:ah=0:=by omega
   subst this;exact aq
 | h+1,S,gb,bR,eJ,c,hlen,n,fin=>by
  obtain⟨aa,ad⟩:=wO o hu bR eJ c hlen
  have au:G.bH u h<2 ^ 63:=by unfold cG.bH;omega
  have ng:x/4 ^ h%4<4:=Nat.mod_lt _ (by decide)
  obtain⟨Yk,Jz⟩:=al6 (h:=h) o ai
  obtain⟨gX,h9⟩:=Ec o bR ng au hu ad (id:=cE x (h+1)) (to:=G.leaf w (h+1) (G.bH u (h+1))) (n0 o ai).2 aa (G.o4 w (h+1) _)
  generalize gI:fM (K (h+1) (cE x (h+1))).1 (K (h+1) (cE x (h+1))).2 (G.leaf w (h+1) (G.bH u (h+1)+1),G.bH u (h+1)+1)=av at *
  generalize aj:x/4 ^ h%4=q at *
  have hw:∀leaf d,gb (h+1) (cE x (h+1))=some (leaf,d)->leaf=av.1:=λleaf d e=>by rw[<-gI];exact Yg (n.X_ leaf d e)
  have tY:jR G w u op x (h+1) (K (h+1) (cE x (h+1))).1 (K (h+1) (cE x (h+1))).2 S =
   jR G w u op x h (hP (G.old (h+1) (cE x (h+1)) av.1 { S with gone:=S.gone++[av] }).1 (2*q)) (hP (G.old (h+1) (cE x (h+1)) av.1 { S with gone:=S.gone++[av] }).1 (2*q+1)) (G.acc (h+1) (.part (2*q) (UInt64.ofNat (G.leaf w h (G.bH u h)+1)) (UInt64.ofNat (G.bH u h))) (cE x (h+1)) av.1 (G.leaf w (h+1) (G.bH u (h+1))) { S with gone:=S.gone++[av] }):=by
   rw[<-gI,<-aj];rfl
  rw[tY] at fin ⊢
  have eS:=λv p=>NC (G:=G) (w:=w) op u x h v p (G.acc (h+1) (.part (2*q) (UInt64.ofNat (G.leaf w h (G.bH u h)+1)) (UInt64.ofNat (G.bH u h))) (cE x (h+1)) av.1 (G.leaf w (h+1) (G.bH u (h+1))) { S with gone:=S.gone++[av] }) (h+1) (by omega)
  obtain⟨aq,aM,a3,a4⟩:=Yc o bR (S:={ S with gone:=S.gone++[av] }) (op:= .part (2*q) (UInt64.ofNat (G.leaf w h (G.bH u h)+1)) (UInt64.ofNat (G.bH u h))) (id:=cE x (h+1)) (n0 o ai).2 aa (G.o4 w (h+1) (G.bH u (h+1))) n.li n.mt hw
   (fin.imp (λf=>(eS _ _).1.symm.trans (f (h+1) (Nat.le_refl _))) λf=>⟨(f (h+1) (Nat.le_refl _)).1,by rw[<-(eS _ _).2];exact(f (h+1) (Nat.le_refl _)).2⟩)
  generalize hold:G.old (h+1) (cE x (h+1)) av.1 { S with gone:=S.gone++[av] }=old at *
  have Yl:hP old.1 (2*q)=(K h (cE x h)).1/\hP old.1 (2*q+1)=(K h (cE x h)).2:=by
   have bw:=n.rl h (cE x h) (by omega)
   rw[Ye] at bw
   unfold told at bw
   rw[if_neg (by omega),Yk,Jz] at bw
   rw[aM,<-bw]
   cases gb (h+1) (cE x (h+1)) with
   | none=>exact⟨zv _,zv _⟩
   | some y=>exact⟨rfl,rfl⟩
  rw[Yl.1,Yl.2] at fin h9 ⊢
  have al8:∀z,(G.acc (h+1) (.part (2*q) (UInt64.ofNat (G.leaf w h (G.bH u h)+1)) (UInt64.ofNat (G.bH u h))) (cE x (h+1)) av.1 (G.leaf w (h+1) (G.bH u (h+1))) { S with gone:=S.gone++[av] }).over z=if z=h+1 then false else S.over z:=λz=>by
   by_cases c:z=h+1
   .rw[if_pos c,c];exact aq
   .rw[if_neg c];show(if z=h+1 then _ else S.over z)=_;rw[if_neg c]
  have OQ:OP G w u x h (G.acc (h+1) (.part (2*q) (UInt64.ofNat (G.leaf w h (G.bH u h)+1)) (UInt64.ofNat (G.bH u h))) (cE x (h+1)) av.1 (G.leaf w (h+1) (G.bH u (h+1))) { S with gone:=S.gone++[av] }) (zx gb (h+1) (cE x (h+1)) ((fg.now (.part (2*q) (UInt64.ofNat (G.leaf w h (G.bH u h)+1)) (UInt64.ofNat (G.bH u h))) old.1 old.2).map (λd=>(G.leaf w (h+1) (G.bH u (h+1)),d)))) K A:=by
   refine⟨a3,λah id iv=>?_,λah id leaf d iv df he=>?_,λleaf d he=>?_,λid=>?_,a4⟩
   .unfold told
    by_cases zy:ah+1=G.L
    .have:=n.rl ah id iv
     unfold told at this
     rw[if_pos zy] at this ⊢
     rw[Yh,Jx (by omega)]
     exact this
    .have dS:=n.rl ah id iv
     unfold told at dS
     rw[if_neg zy] at dS ⊢
     by_cases nm:ah+1=h+1/\UInt64.ofNat (id.toNat/4)=cE x (h+1)
     .have al9:ah=h:=by omega
      subst al9
      rw[Ce nm]
      have azn:id.toNat/4=x/4 ^ (ah+1):=by
       have:=congrArg UInt64.toNat nm.2
       rw[(n0 o ai).1,UInt64.toNat_ofNat'] at this
       have:=id.toNat_lt
       omega
      show(hP ((old.1.setIfInBounds (2*q) _).setIfInBounds (2*q+1) _) (2*(id.toNat%4)),hP ((old.1.setIfInBounds (2*q) _).setIfInBounds (2*q+1) _) (2*(id.toNat%4)+1))=_
      rw[OM,OM]
      by_cases al_:id.toNat%4=q
      .have JA:id=cE x ah:=by
        apply UInt64.toNat_inj.1
        rw[(n0 o ai).1]
        have b1:x/4 ^ (ah+1)=x/4 ^ ah/4:=by rw[Nat.pow_succ,<-Nat.div_div_eq_div_mul]
        omega
       rw[JA,Jy (Nat.le_refl _),<-JA,if_neg (by omega),if_pos (by omega),if_pos (by omega)]
       rfl
      .have JA:¬(ah=ah/\id=cE x ah):=λe=>al_ (by rw[e.2,Jz])
       rw[Jx JA,if_neg (by omega),if_neg (by omega),if_neg (by omega),if_neg (by omega),<-dS,nm.2,aM]
       cases gb (ah+1) (cE x (ah+1)) with
       | none=>exact Prod.ext (zv _) (zv _)
       | some y=>rfl
     .rw[sR nm,dS]
      refine(Jx ?_).symm
      rintro⟨rfl,rfl⟩
      exact nm ⟨rfl,Yk⟩
   .by_cases c:ah=h+1/\id=cE x (h+1)
    .rw[Ce c] at he
     obtain⟨y,_,e⟩:=Option.map_eq_some_iff.1 he
     have e:=(Prod.mk.inj e).1
     rw[c.1,c.2,Jy (by omega),Yf o,<-e]
    .rw[sR c] at he
     rw[Jx df]
     exact n.r7 ah id leaf d iv c he
   .rw[sR (by omega)] at he
    have:=n.r7 h (cE x h) leaf d (by omega) (by omega) he
    rw[Ye] at this;exact this
   .rw[sR (by omega)];exact n.AQ id
  obtain⟨tc,ew,fF,n8,sP⟩:=Yi o hu o3 (op:=op) ai (K:=K) (A:=A) h _ _ (by omega) gX h9 (by show(S.gone++[_]).length=_;rw[List.length_append,hlen];simp;omega) OQ
   (fin.imp (λf ah iv=>f ah (by omega)) λf ah iv=>⟨by rw[al8,if_neg (by omega)];exact(f ah (by omega)).1,(f ah (by omega)).2⟩)
  refine⟨tc,ew,fF,?_,λah iv=>?_⟩
  .have aF:(List.range (h+1+1)).map (λi=>zw G w u x K (h+1-i))=av::(List.range (h+1)).map (λi=>zw G w u x K (h-i)):=by
    have a8:zw G w u x K (h+1)=av:=gI
    rw[List.range_succ_eq_map,List.map_cons,List.map_map,Nat.sub_zero,a8]
    refine congrArg (av::·) (List.map_congr_left λi _=>?_)
    show zw G w u x K (h+1-(i+1))=_
    rw[show h+1-(i+1)=h-i by omega]
   rw[n8,aF]
   show S.gone++[av]++_=_
   rw[List.append_assoc];rfl
  .by_cases c:ah=h+1
   .subst c;rw[(eS _ _).1];exact aq
   .exact sP ah (by omega)
theorem S5 (o:G.da){u0 a:Nat}{S:cU}(hu:S.used=u0+2*G.L*a)(o3:S.used+2*G.L<2 ^ 63)(eJ:kQ G w u0 S.used S)(c_:S.gone.length=G.L*a){op:fg}{x:Nat}(ai:x<2 ^ G.m)(sQ:x/4 ^ (G.L-1)<G.top){gb:td}{K:tX}{A:UInt64->Option c0}(n:wU G S gb K A)
 (fin:(∀h,h<G.L->(c3 G w op x S).1.over h=false)∨(∀h,h<G.L->S.over h=false/\((c3 G w op x S).1.ids h).length<=G.t)) :
 ∃tc,wU G (c3 G w op x S).1 tc (qW G w S.used x K 0) (λid=>if id=cE x 0 then op.now (oz A id).1 (oz A id).2 else A id)/\(c3 G w op x S).2=oz A (cE x 0) /\
  (c3 G w op x S).1.gone=S.gone++(List.range G.L).map (λi=>zw G w S.used x K (G.L-1-i))/\∀h,h<G.L->(c3 G w op x S).1.over h=false:=by
 have dY:=o.L
 obtain⟨s1,s2⟩:=Ed o hu (by omega) eJ sQ
 have vv:=(n0 o ai (h:=G.L-1)).1
 have lC:∀(c:cv) h r i,G.b2 h (fA S.R (G.f,x/4 ^ (G.L-1)) c) r i=G.b2 h S.R r i:=λc h r i=>by
  unfold cG.b2 kx fA
  rw[if_neg (λe=>by have:=e.1;unfold cG.base at this;omega)]
 have ag:K (G.L-1) (cE x (G.L-1))=((S.R G.f (x/4 ^ (G.L-1)))[0],(S.R G.f (x/4 ^ (G.L-1)))[1]):=by
  rw[<-n.rl (G.L-1) _ (by omega)]
  unfold told
  rw[if_pos (by omega),vv]
 have j7:c3 G w op x S=jR G w S.used op x (G.L-1) (K (G.L-1) (cE x (G.L-1))).1 (K (G.L-1) (cE x (G.L-1))).2 (G.begin w (x/4 ^ (G.L-1)) S):=by rw[ag];rfl
 rw[j7] at fin ⊢
 have Ym:∀ah id,¬(ah=G.L-1/\id=cE x (G.L-1))->ah<G.L->qW G w S.used x K (G.L-1) ah id=K ah id:=λah id aH bR=>by
  unfold qW;rw[if_neg]
  rintro⟨aQ,aY⟩
  have:ah=G.L-1:=by omega
  exact aH ⟨this,by rw[aQ,this]⟩
 have OQ:OP G w S.used x (G.L-1) (G.begin w (x/4 ^ (G.L-1)) S) gb K A:=by
  refine⟨λh bR=>(n.li h bR).congr λr i _=>lC _ h r i,λah id iv=>?_,λah id leaf d iv df he=>?_,λleaf d he=>n.r7 _ _ leaf d (by omega) he,n.AQ,n.mt⟩
  .have dS:=n.rl ah id iv
   by_cases c:ah=G.L-1/\id=cE x (G.L-1)
   .rw[c.1,c.2,Jy (Nat.le_refl _)]
    unfold told
    rw[if_pos (by omega),vv]
    have:(G.begin w (x/4 ^ (G.L-1)) S).R G.f (x/4 ^ (G.L-1))=tW (Ft G w S.used (G.L-1)).1 (Ft G w S.used (G.L-1)).2:=by
     show fA S.R _ _ G.f _=_
     unfold fA;rw[if_pos ⟨rfl,rfl⟩];rfl
    rw[this];rfl
   .rw[Ym ah id c iv,<-dS]
    unfold told
    by_cases zy:ah+1=G.L
    .rw[if_pos zy,if_pos zy]
     have df:id.toNat≠x/4 ^ (G.L-1):=λe=>c ⟨by omega,UInt64.toNat_inj.1 (by rw[vv,e])⟩
     have:(G.begin w (x/4 ^ (G.L-1)) S).R G.f id.toNat=S.R G.f id.toNat:=by
      show fA S.R _ _ G.f _=_
      unfold fA;rw[if_neg (λh=>df h.2)]
     rw[this]
    .rw[if_neg zy,if_neg zy]
  .rw[Ym ah id df iv]
   exact n.r7 ah id leaf d iv he
 have Cf:sn G w u0 (G.bH S.used (G.L-1)+1) (G.L-1) (G.begin w (x/4 ^ (G.L-1)) S) (K (G.L-1) (cE x (G.L-1))).1 (K (G.L-1) (cE x (G.L-1))).2:=by rw[ag];exact s2
 obtain⟨tc,ew,fF,n8,sP⟩:=Yi o hu o3 (op:=op) ai (K:=K) (A:=A) (G.L-1) _ _ (by omega) s1 Cf (by show S.gone.length=_;omega) OQ
  (fin.imp (λf ah iv=>f ah (by omega)) λf ah iv=>f ah (by omega))
 refine⟨tc,ew,fF,?_,λah iv=>sP ah (by omega)⟩
 rw[n8,show G.L-1+1=G.L by omega];rfl
theorem wU.zero {S:cU}(jd:∀r i,S.R r i=e6):wU G S (λ_ _=>none) (λ_ _=>(0,0)) (λ_=>none):=by
 refine⟨λh _=>nR.zero λr i _=>jd _ _,λh id _=>?_,λh id leaf d _ he=>(by cases he),λ_=>rfl,λh id _ aH=>absurd rfl aH⟩
 unfold told
 split
 .rw[jd];rfl
 .rfl
theorem kQ.zero {u0:Nat}{S:cU}(jd:∀r i,S.R r i=e6)(c_:S.gone=[]):kQ G w u0 u0 S:=by
 refine⟨λh _ r i _ au=>?_,λl bw v p he bQ=>?_,λl bw v p fx mW fZ eu he _ bQ=>?_,?_⟩
 .have e:G.b2 h S.R r i=e6:=jd _ _
  rw[e,vt] at au;cases au
 .cases l with
  | top x=>obtain⟨_,_,e,_⟩:=he;rw[jd] at e;exact absurd e bQ
  | bl h r i q =>
   obtain⟨_,_,_,au,_⟩:=he
   have e:G.b2 h S.R r i=e6:=jd _ _
   rw[e,vt] at au;cases au
 .cases l with
  | top x=>obtain⟨_,_,e,_⟩:=he;rw[jd] at e;exact absurd e bQ
  | bl h r i q =>
   obtain⟨_,_,_,au,_⟩:=he
   have e:G.b2 h S.R r i=e6:=jd _ _
   rw[e,vt] at au;cases au
 .rw[c_];exact⟨List.nodup_nil,λx ai=>(by cases ai),λi x hi=>(by simp at hi),λi x hi=>(by simp at hi)⟩

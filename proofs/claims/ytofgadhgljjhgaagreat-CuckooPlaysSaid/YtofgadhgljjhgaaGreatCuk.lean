import Derived.Test.YtofgadhgljjhgaaGreatLawR
namespace Go.cD
open Go.Proofs.Tryz
abbrev gr:=UInt64×UInt64
def fL (e:gr):c0:=#v[1,e.1+1,e.2,0,0,0,0,0]
def m3 (d:c0):gr:=(d[1]-1,d[2])
def hW (d:c0):Option gr:=if d[0]=1 then some (m3 d) else none
theorem LJ (e:gr):hW (fL e)=some e:=by
 unfold hW
 rw[if_pos (show(fL e)[0]=1 from rfl)]
 show some (e.1+1-1,e.2)=some e
 rw[show e.1+1-1=e.1 from by
  apply UInt64.toNat_inj.1
  rw[UInt64.toNat_sub,UInt64.toNat_add]
  have:=e.1.toNat_lt
  simp;omega]
def m4 (e:gr):cv:=#v[1,e.1+1,e.2,0,0,0,0,0,0,0,0,0]
def yx (c:cv):Option gr:=if c[0]=1 then some (c[1]-1,c[2]) else none
theorem LK (e:gr):yx (m4 e)=some e:=LJ e
theorem afh:yx e6=none:=rfl
structure ek where
 T:Nat
 pl:Nat->UInt64->Nat
 K:Nat
 sp:Nat
structure ek.da (X:ek):Prop where
 T:1<=X.T
 pl:∀t k,X.pl t k<X.T
 sp:1<=X.sp
def ek.bl (X:ek)(t:Nat)(k:UInt64):Nat:=t*X.T+X.pl t k
theorem ek.lS {X:ek}(o:X.da){t:Nat}(bw:t<2)(k:UInt64):X.bl t k<2*X.T:=by
 have:=o.pl t k
 have:t=0∨t=1:=by omega
 unfold ek.bl
 rcases this with rfl|rfl<;>omega
theorem ek.afi {X:ek}(o:X.da)(t:Nat)(k:UInt64):X.bl t k/X.T=t:=by
 unfold ek.bl
 rw[Nat.mul_comm,Nat.mul_add_div (by have:=o.T;omega),Nat.div_eq_of_lt (o.pl t k),Nat.add_zero]
def gu (p:Nat->Bool):Nat->Option Nat
 | 0=>none
 | m+1=>match gu p m with
  | some i=>some i
  | none=>if p m then some m else none
theorem AN {p:Nat->Bool}:∀ {m i},gu p m=some i->i<m/\p i=true
 | m+1,i,h=>by
  simp only[gu] at h
  cases e:gu p m with
  | some j =>
   rw[e] at h;cases h
   have:=AN e
   exact⟨by omega,this.2⟩
  | none =>
   rw[e] at h
   simp only at h
   split at h
   .rename_i aS;cases h;exact⟨by omega,aS⟩
   .cases h
theorem LL {p:Nat->Bool}:∀ {m},gu p m=none->∀i,i<m->p i=false
 | m+1,h,i,hi=>by
  simp only[gu] at h
  cases e:gu p m with
  | some j=>rw[e] at h;cases h
  | none =>
   rw[e] at h
   simp only at h
   split at h
   .cases h
   .rename_i aS
    by_cases c:i=m
    .subst c;simpa using aS
    .exact LL e i (by omega)
def kn (key:UInt64)(o:Option gr):Option UInt64:=match o with
 | some e=>if e.1=key then some e.2 else none
 | none=>none
abbrev rk:=Int×UInt64×UInt64
def ek.spot (X:ek)(key:UInt64)(a b:Option gr)(f:Nat->cv):rk :=
 match kn key a with
 | some c=>(0,UInt64.ofNat (X.pl 0 key),c)
 | none=>match kn key b with
  | some c=>(1,UInt64.ofNat (X.pl 1 key),c)
  | none=>match gu (λi=>(f i)[1]==key+1) X.sp with
   | some i=>(2,UInt64.ofNat i,(f i)[2])
   | none=>(-1,0,0)
def hO (S:cU)(q:Nat×Nat)(c:cv):cU:={ S with R:=fA S.R q c }
section
variable (G:cG) (w:Nat->UInt64) (X:ek)
def kC (S:cU):cU:=(c3 G w .look 0 S).1
def kD:Nat->cU->cU
 | 0,S=>S
 | n+1,S=>kD n (kC G w S)
def gK (key:UInt64)(S:cU):cU×rk :=
 let a:=c3 G w .look (X.bl 0 key) S
 let b:=c3 G w .look (X.bl 1 key) a.1
 (b.1,X.spot key (hW a.2.1) (hW b.2.1) (S.R 0))
def e7:(n i:Nat)->cU->gr->Bool->List (Nat×c0)->cU×gr×Bool×List (Nat×c0)
 | 0,_,S,e,on,ey=>(S,e,on,ey)
 | n+1,i,S,e,on,ey =>
  if on then
   let r:=c3 G w (.put (fL e)) (X.bl (i%2) e.1) S
   e7 n (i+1) r.1 (m3 r.2.1) (r.2.1[0]==1) (ey++[(X.bl (i%2) e.1,r.2.1)])
  else e7 n (i+1) (kC G w S) e on ey
def mH:List (Nat×c0)->cU->cU
 | [],S=>S
 | (b,d)::l,S=>mH l (c3 G w (.put d) b S).1
def hX (key cell:UInt64)(on:Bool)(S:cU):cU×Bool :=
 let r:=e7 G w X X.K 0 S (key,cell) on []
 if r.2.2.1 then
  match gu (λi=>(S.R 0 i)[0]==0) X.sp with
  | some i=>(kD G w X.K (hO r.1 (0,i) (m4 r.2.1)),true)
  | none=>(mH G w r.2.2.2.reverse r.1,false)
 else (kD G w X.K r.1,true)
def mI (key:UInt64)(t:Int)(at_:UInt64)(on:Bool)(S:cU):cU :=
 let fm:=if on&&(t==0||t==1) then (c3 G w .drop (X.bl t.toNat key) S).1 else kC G w S
 if on&&t==2&&decide (at_.toNat<X.sp) then hO fm (0,at_.toNat) e6 else fm
end
structure h3 (G:cG)(w:Nat->UInt64)(a:Nat)(S:cU):Prop where
 eJ:kQ G w 0 S.used S
 us:S.used=0+2*G.L*a
 oy:S.gone.length=G.L*a
def jx (G:cG)(S:cU):Prop:=∀z,z<G.L->S.over z=false
section
variable {G:cG} {w:Nat->UInt64} {X:ek}
theorem h3.acc (o:G.da){a:Nat}{S:cU}(p:h3 G w a S)(bO:a<=100000){op:fg}{x:Nat}(ai:x<2 ^ G.m):h3 G w (a+1) (c3 G w op x S).1:=by
 have dY:=o.L
 have aa:2*G.L*a<=2*4*100000:=Nat.mul_le_mul (by omega) bO
 have hu:=p.us
 obtain⟨ae,ay,aN⟩:=afj o p.us (by omega) p.eJ p.oy (op:=op) ai (AO o ai)
 exact⟨by rw[aN];exact ae,by rw[aN,hu,Nat.mul_succ];omega,ay⟩
theorem Live.acc (o:G.da){a:Nat}{S:cU}(p:h3 G w a S)(bO:a<=100000){op:fg}{x:Nat}(ai:x<2 ^ G.m){A:UInt64->Option c0}(l:Live G S A)(f:jx G (c3 G w op x S).1) :
 Live G (c3 G w op x S).1 (yy A op (UInt64.ofNat x))/\(c3 G w op x S).2=oz A (UInt64.ofNat x):=by
 have dY:=o.L
 have aa:2*G.L*a<=2*4*100000:=Nat.mul_le_mul (by omega) bO
 have hu:=p.us
 obtain⟨gb,K,n⟩:=l
 obtain⟨tc,iD,iE,_,_⟩:=S5 o p.us (by omega) p.eJ p.oy ai (AO o ai) n (.inl f)
 rw[afk] at iD iE
 exact⟨⟨tc,_,iD⟩,iE⟩
theorem jx.back {op:fg}{x:Nat}{S:cU}(f:jx G (c3 G w op x S).1):jx G S:=λz bc=>afl op x S z (f z bc)
theorem S6 (a_:G.f=1)(op:fg)(u x:Nat)(i:Nat):∀h v p S,(jR G w u op x h v p S).1.R 0 i=S.R 0 i
 | 0,v,p,S=>by
  show lp (G.base 0) S.R (k8 (G.d_ 0) op (cE x 0) (fM v p (G.leaf w 0 (G.bH u 0+1),G.bH u 0+1)).1 (G.leaf w 0 (G.bH u 0)) (G.b2 0 S.R)) 0 i=S.R 0 i
  exact AP (.inl (by unfold cG.base;omega))
 | h+1,v,p,S=>by
  let fm:cU:={ S with gone:=S.gone++[fM v p (G.leaf w (h+1) (G.bH u (h+1)+1),G.bH u (h+1)+1)] }
  let cj:fg:= .part (2*(x/4 ^ h%4)) (UInt64.ofNat (G.leaf w h (G.bH u h)+1)) (UInt64.ofNat (G.bH u h))
  let fy:=G.acc (h+1) cj (cE x (h+1)) (fM v p (G.leaf w (h+1) (G.bH u (h+1)+1),G.bH u (h+1)+1)).1 (G.leaf w (h+1) (G.bH u (h+1))) fm
  let ol:=(G.old (h+1) (cE x (h+1)) (fM v p (G.leaf w (h+1) (G.bH u (h+1)+1),G.bH u (h+1)+1)).1 fm).1
  have ad:=S6 a_ op u x i h (hP ol (2*(x/4 ^ h%4))) (hP ol (2*(x/4 ^ h%4)+1)) fy
  show(jR G w u op x h (hP ol (2*(x/4 ^ h%4))) (hP ol (2*(x/4 ^ h%4)+1)) fy).1.R 0 i=_
  rw[ad]
  show lp (G.base (h+1)) S.R (k8 (G.d_ (h+1)) cj (cE x (h+1)) (fM v p (G.leaf w (h+1) (G.bH u (h+1)+1),G.bH u (h+1)+1)).1 (G.leaf w (h+1) (G.bH u (h+1))) (G.b2 (h+1) S.R)) 0 i=S.R 0 i
  exact AP (.inl (by unfold cG.base;omega))
theorem afm (a_:G.f=1)(op:fg)(x:Nat)(S:cU)(i:Nat):(c3 G w op x S).1.R 0 i=S.R 0 i:=by
 have h:=S6 (G:=G) (w:=w) a_ op S.used x i (G.L-1) (S.R G.f (x/4 ^ (G.L-1)))[0] (S.R G.f (x/4 ^ (G.L-1)))[1] (G.begin w (x/4 ^ (G.L-1)) S)
 refine Eq.trans h ?_
 show fA S.R (G.f,_) _ 0 i=S.R 0 i
 exact LM _ (λe=>by have:(0:Nat)=G.f:=e.1;omega)
theorem LN (a_:G.f=1){i:Nat}{c:cv}{S:cU}(h:Nat):G.b2 h (hO S (0,i) c).R=G.b2 h S.R:=by
 funext r j
 exact LM _ λe=>by have:G.base h+r=0:=e.1;unfold cG.base at this;omega
theorem S7 (a_:G.f=1){i:Nat}{c:cv}{S:cU}:(hO S (0,i) c).R G.f=S.R G.f:=by
 funext j
 exact LM _ λe=>by have:G.f=0:=e.1;omega
theorem afn {R dm:dF}(aa:∀h,G.b2 h dm=G.b2 h R)(ad:dm G.f=R G.f):me G dm=me G R:=by
 funext l bw v p
 cases l<;>simp only[me,aa,ad]
theorem afo {R dm:dF}{gb:td}(ad:dm G.f=R G.f):told G dm gb=told G R gb:=by
 funext h id
 simp only[told,ad]
theorem h3.hO (a_:G.f=1){a i:Nat}{c:cv}{S:cU}(p:h3 G w a S):h3 G w a (Go.cD.hO S (0,i) c):=by
 have aF:=afn (LN a_ (i:=i) (c:=c) (S:=S)) (S7 a_)
 refine⟨⟨λh bR=>by rw[LN a_];exact p.eJ.mf h bR,?_,?_,p.eJ.gone⟩,p.us,p.oy⟩
 .rw[aF];exact p.eJ.oA
 .rw[aF];exact p.eJ.uniq
theorem Live.hO (a_:G.f=1){i:Nat}{c:cv}{S:cU}{A:UInt64->Option c0}(l:Live G S A):Live G (Go.cD.hO S (0,i) c) A:=by
 obtain⟨gb,K,n⟩:=l
 refine⟨gb,K,λh bR=>by rw[LN a_];exact n.li h bR,?_,n.r7,n.AQ,n.mt⟩
 rw[afo (S7 a_)];exact n.rl
def hy (A:UInt64->Option c0)(n:Nat):Option gr:=(A (UInt64.ofNat n)).bind hW
theorem LO (A:UInt64->Option c0)(n:Nat):hW (oz A (UInt64.ofNat n)).1=hy A n:=by
 unfold oz hy
 cases A (UInt64.ofNat n) with
 | none=>rfl
 | some d=>rfl
theorem DH (A:UInt64->Option c0)(x:UInt64):yy A .look x=A:=by
 funext id
 by_cases e:id=x
 .subst e
  rw[LP]
  show fg.look.now _ _=_
  unfold oz
  cases A id<;>rfl
 .exact LQ e
theorem ofNat_inj {x y:Nat}(ai:x<100000)(aB:y<100000)(e:UInt64.ofNat x=UInt64.ofNat y):x=y:=by
 have:=congrArg UInt64.toNat e
 rw[UInt64.toNat_ofNat',UInt64.toNat_ofNat'] at this;omega
theorem S8 {A:UInt64->Option c0}{d:c0}{b n:Nat}(au:b<100000)(aH:n<100000):hy (yy A (.put d) (UInt64.ofNat b)) n=if n=b then hW d else hy A n:=by
 by_cases e:n=b
 .subst e;rw[if_pos rfl];unfold hy;rw[LP];rfl
 .rw[if_neg e];unfold hy;rw[LQ λh=>e (ofNat_inj aH au h)]
theorem afp {A:UInt64->Option c0}{b n:Nat}(au:b<100000)(aH:n<100000):hy (yy A .drop (UInt64.ofNat b)) n=if n=b then none else hy A n:=by
 by_cases e:n=b
 .subst e;rw[if_pos rfl];unfold hy;rw[LP];rfl
 .rw[if_neg e];unfold hy;rw[LQ λh=>e (ofNat_inj aH au h)]
def hl (X:ek)(F:Nat->Option gr)(f:Nat->cv)(co:Option gr):Nat->Option gr:=λn=>if n<2*X.T then F n else if n<2*X.T+X.sp then yx (f (n-2*X.T)) else if n=2*X.T+X.sp then co else none
structure k9 (X:ek)(H:Nat->Option gr)(M:UInt64->Option UInt64):Prop where
 ok:∀n,n<2*X.T->∀e,H n=some e->n=X.bl (n/X.T) e.1
 inj:∀n iD e b4,H n=some e->H iD=some b4->e.1=b4.1->n=iD
 mod:∀k c,M k=some c↔∃n,H n=some (k,c)
theorem k9.swap {H r8:Nat->Option gr}{M:UInt64->Option UInt64}(r:k9 X H M){x y:Nat}(aU:∀n,r8 n=if n=x then H y else if n=y then H x else H n)
 (afq:x<2*X.T->∀e,H y=some e->x=X.bl (x/X.T) e.1) (afr:y<2*X.T->∀e,H x=some e->y=X.bl (y/X.T) e.1):k9 X r8 M:=by
 let σ:Nat->Nat:=λn=>if n=x then y else if n=y then x else n
 have AR:∀n,r8 n=H (σ n):=λn=>by
  rw[aU];simp only[σ]
  split
  .rfl
  .split<;>rfl
 have inv:∀n,σ (σ n)=n:=λn=>by
  simp only[σ]
  by_cases aa:n=x
  .subst aa;rw[if_pos rfl]
   by_cases ad:y=n
   .rw[if_pos ad,ad]
   .rw[if_neg ad,if_pos rfl]
  .rw[if_neg aa]
   by_cases ad:n=y
   .subst ad;rw[if_pos rfl,if_pos rfl]
   .rw[if_neg ad,if_neg aa,if_neg ad]
 refine⟨λn aH e he=>?_,λn iD e b4 aa ad an=>?_,λk c=>?_⟩
 .rw[aU] at he
  split at he
  .rename_i h;subst h;exact afq aH e he
  .split at he
   .rename_i h;subst h;exact afr aH e he
   .exact r.ok n aH e he
 .rw[AR] at aa ad
  have:=r.inj _ _ e b4 aa ad an
  rw[<-inv n,this,inv]
 .rw[r.mod]
  constructor
  .rintro⟨n,aH⟩;exact⟨σ n,by rw[AR,inv];exact aH⟩
  .rintro⟨n,aH⟩;exact⟨σ n,by rw[<-AR];exact aH⟩
theorem k9.congr {H r8:Nat->Option gr}{M:UInt64->Option UInt64}(r:k9 X H M)(h:∀n,r8 n=H n):k9 X r8 M:=by
 have:r8=H:=funext h
 rw[this];exact r
theorem k9.take {F:Nat->Option gr}{f:Nat->cv}{M:UInt64->Option UInt64}(r:k9 X (hl X F f none) M){k c:UInt64}(ag:M k=none):k9 X (hl X F f (some (k,c))) (λx=>if x=k then some c else M x):=by
 have h0:∀n,n≠2*X.T+X.sp->hl X F f (some (k,c)) n=hl X F f none n:=λn aH=>by
  unfold hl
  split
  .rfl
  .split
   .rfl
   .simp only[aH,if_false]
 have ji:hl X F f (some (k,c)) (2*X.T+X.sp)=some (k,c):=by
  unfold hl;rw[if_neg (by omega),if_neg (by omega),if_pos rfl]
 have afs:hl X F f none (2*X.T+X.sp)=none:=by
  unfold hl;rw[if_neg (by omega),if_neg (by omega),if_pos rfl]
 have fresh:∀n e,hl X F f none n=some e->e.1≠k:=λn e he gp=>by
  have:=(r.mod e.1 e.2).2 ⟨n,he⟩
  rw[gp,ag] at this;cases this
 refine⟨λn aH e he=>?_,λn iD e b4 aa ad an=>?_,λx y=>?_⟩
 .rw[h0 n (by omega)] at he;exact r.ok n aH e he
 .by_cases aQ:n=2*X.T+X.sp
  .subst aQ
   rw[ji] at aa;cases aa
   by_cases aY:iD=2*X.T+X.sp
   .exact aY.symm
   .rw[h0 iD aY] at ad;exact absurd an.symm (fresh iD b4 ad)
  .rw[h0 n aQ] at aa
   by_cases aY:iD=2*X.T+X.sp
   .subst aY
    rw[ji] at ad;cases ad
    exact absurd an (fresh n e aa)
   .rw[h0 iD aY] at ad;exact r.inj n iD e b4 aa ad an
 .show(if x=k then some c else M x)=some y↔_
  by_cases e:x=k
  .subst e;rw[if_pos rfl]
   constructor
   .intro h;cases h;exact⟨_,ji⟩
   .rintro⟨n,aH⟩
    by_cases aQ:n=2*X.T+X.sp
    .subst aQ;rw[ji] at aH;cases aH;rfl
    .rw[h0 n aQ] at aH;exact absurd rfl (fresh n (x,y) aH)
  .rw[if_neg e,r.mod]
   constructor
   .rintro⟨n,aH⟩
    refine⟨n,?_⟩
    by_cases aQ:n=2*X.T+X.sp
    .subst aQ;rw[afs] at aH;cases aH
    .rw[h0 n aQ];exact aH
   .rintro⟨n,aH⟩
    by_cases aQ:n=2*X.T+X.sp
    .subst aQ;rw[ji] at aH;cases aH;exact absurd rfl e
    .rw[h0 n aQ] at aH;exact⟨n,aH⟩
theorem k9.gone {H r8:Nat->Option gr}{M:UInt64->Option UInt64}(r:k9 X H M){x:Nat}{k c:UInt64}(ai:H x=some (k,c))(aU:∀n,r8 n=if n=x then none else H n):k9 X r8 (λy=>if y=k then none else M y):=by
 have sub:∀n e,r8 n=some e->n≠x/\H n=some e:=λn e he=>by
  rw[aU] at he
  split at he
  .cases he
  .rename_i h;exact⟨h,he⟩
 refine⟨λn aH e he=>r.ok n aH e (sub n e he).2,λn iD e b4 aa ad an=>r.inj n iD e b4 (sub n e aa).2 (sub iD b4 ad).2 an,λy z=>?_⟩
 show(if y=k then none else M y)=some z↔_
 by_cases e:y=k
 .subst e;rw[if_pos rfl]
  constructor
  .intro h;cases h
  .rintro⟨n,aH⟩
   obtain⟨aa,ad⟩:=sub n _ aH
   exact absurd (r.inj n x _ _ ad ai rfl) aa
 .rw[if_neg e,r.mod]
  constructor
  .rintro⟨n,aH⟩
   refine⟨n,?_⟩
   rw[aU,if_neg (λh=>e ?_)]
   .exact aH
   .rw[h,ai] at aH;cases aH;rfl
  .rintro⟨n,aH⟩;exact⟨n,(sub n _ aH).2⟩
def Hx (F:Nat->Option gr)(b:Nat)(o:Option gr):Nat->Option gr:=λn=>if n=b then o else F n
def yz:List (Nat×c0)->(Nat->Option gr)->Nat->Option gr
 | [],F=>F
 | (b,d)::l,F=>yz l (Hx F b (hW d))
theorem LR {T:Nat}:∀(l:List (Nat×c0)) {F dW:Nat->Option gr},(∀n,n<T->F n=dW n)->∀n,n<T->yz l F n=yz l dW n
 | [],_,_,h=>h
 | (b,d)::l,F,dW,h=>LR l λn aH=>by unfold Hx;rw[h n aH]
theorem rm (a_:G.f=1)(op:fg)(x:Nat)(S:cU):(c3 G w op x S).1.R 0=S.R 0:=funext λi=>afm a_ op x S i
theorem h3.blank (o:G.da){a:Nat}{S:cU}(p:h3 G w a S)(bO:a<=100000):h3 G w (a+1) (kC G w S):=p.acc o bO (Nat.pow_pos (by decide))
theorem yA:∀n S,jx G (kD G w n S)->jx G S
 | 0,_,h=>h
 | n+1,S,h=>(yA n _ h).back
theorem Hy (o:G.da)(a_:G.f=1):∀n a S,h3 G w a S->a+n<=100000->h3 G w (a+n) (kD G w n S)/\(kD G w n S).R 0=S.R 0/\∀A,Live G S A->jx G (kD G w n S)->Live G (kD G w n S) A
 | 0,a,S,p,_=>⟨p,rfl,λ_ l _=>l⟩
 | n+1,a,S,p,h=>by
  obtain⟨aa,ad,an⟩:=Hy o a_ n (a+1) (kC G w S) (p.blank o (by omega)) (by omega)
  refine⟨by rw[show a+(n+1)=a+1+n by omega];exact aa,ad.trans (rm a_ _ _ _),λA l f=>an A ?_ f⟩
  have:=(l.acc o p (by omega) (Nat.pow_pos (by decide)) (yA n _ f)).1
  rwa [DH] at this
theorem yB:∀n i S e on ey,jx G (e7 G w X n i S e on ey).1->jx G S
 | 0,_,_,_,_,_,h=>h
 | n+1,i,S,e,on,ey,h=>by
  cases on with
  | true=>exact(yB n _ _ _ _ _ h).back
  | false=>exact(yB n _ _ _ _ _ h).back
theorem AS (o:G.da)(fv:X.da)(hm:2 ^ G.m=2*X.T)(a_:G.f=1):∀n i a S e on ey,h3 G w a S->a+n<=100000->h3 G w (a+n) (e7 G w X n i S e on ey).1/\(e7 G w X n i S e on ey).1.R 0=S.R 0
 | 0,_,_,_,_,_,_,p,_=>⟨p,rfl⟩
 | n+1,i,a,S,e,on,ey,p,h=>by
  rw[show a+(n+1)=a+1+n by omega]
  cases on with
  | true =>
   obtain⟨aa,ad⟩:=AS o fv hm a_ n (i+1) (a+1) _ (m3 (c3 G w (.put (fL e)) (X.bl (i%2) e.1) S).2.1) ((c3 G w (.put (fL e)) (X.bl (i%2) e.1) S).2.1[0]==1) (ey++[(X.bl (i%2) e.1,(c3 G w (.put (fL e)) (X.bl (i%2) e.1) S).2.1)]) (p.acc o (by omega) (op:= .put (fL e)) (x:=X.bl (i%2) e.1) (by rw[hm];exact ek.lS fv (Nat.mod_lt _ (by decide)) _)) (by omega)
   exact⟨aa,ad.trans (rm a_ _ _ _)⟩
  | false =>
   obtain⟨aa,ad⟩:=AS o fv hm a_ n (i+1) (a+1) _ e false ey (p.blank o (by omega)) (by omega)
   exact⟨aa,ad.trans (rm a_ _ _ _)⟩
theorem aft {F dW:Nat->Option gr}{f:Nat->cv}{co:Option gr}{b:Nat}(au:b<2*X.T)(hY:∀n,n<2*X.T->dW n=if n=b then co else F n)(n:Nat) :
 hl X dW f (F b) n=if n=b then hl X F f co (2*X.T+X.sp) else if n=2*X.T+X.sp then hl X F f co b else hl X F f co n:=by
 have ji:hl X F f co (2*X.T+X.sp)=co:=by unfold hl;rw[if_neg (by omega),if_neg (by omega),if_pos rfl]
 have dh:hl X F f co b=F b:=by unfold hl;rw[if_pos au]
 rw[ji,dh]
 by_cases aa:n=b
 .rw[if_pos aa];subst aa;unfold hl;rw[if_pos au,hY n au,if_pos rfl]
 .rw[if_neg aa]
  by_cases an:n=2*X.T+X.sp
  .rw[if_pos an];unfold hl;rw[if_neg (by omega),if_neg (by omega),if_pos an]
  .rw[if_neg an];unfold hl
   by_cases aK:n<2*X.T
   .rw[if_pos aK,if_pos aK,hY n aK,if_neg aa]
   .rw[if_neg aK,if_neg aK]
    by_cases aR:n<2*X.T+X.sp
    .rw[if_pos aR,if_pos aR]
    .rw[if_neg aR,if_neg aR,if_neg an,if_neg an]
theorem AT (o:G.da)(fv:X.da)(hm:2 ^ G.m=2*X.T)(fW:X.T<=1000)(a_:G.f=1){F0:Nat->Option gr}{M:UInt64->Option UInt64}{f:Nat->cv}:∀n i a S e on ey A,h3 G w a S->a+n<=100000->Live G S A->jx G (e7 G w X n i S e on ey).1 ->
 k9 X (hl X (hy A) f (if on then some e else none)) M->(∀x∈ey,x.1<2*X.T)->(∀n,n<2*X.T->yz ey.reverse (hy A) n=F0 n) ->
 ∃gF,Live G (e7 G w X n i S e on ey).1 gF/\k9 X (hl X (hy gF) f (if (e7 G w X n i S e on ey).2.2.1 then some (e7 G w X n i S e on ey).2.1 else none)) M /\
  (∀x∈(e7 G w X n i S e on ey).2.2.2,x.1<2*X.T)/\(∀z,z<2*X.T->yz (e7 G w X n i S e on ey).2.2.2.reverse (hy gF) z=F0 z)/\(on=false->(e7 G w X n i S e on ey).2.2.1=false/\∀z,hy gF z=hy A z)
 | 0,_,_,_,_,_,_,A,_,_,l,_,r,aZ,hu=>⟨A,l,r,aZ,hu,λh=>⟨h,λ_=>rfl⟩⟩
 | n+1,i,a,S,e,on,ey,A,p,h,l,fin,r,aZ,hu=>by
  cases on with
  | true =>
   have au:X.bl (i%2) e.1<2*X.T:=ek.lS fv (Nat.mod_lt _ (by decide)) _
   have hdiv:=ek.afi fv (i%2) e.1
   have r9:=yB n (i+1) _ _ _ _ fin
   have h9:=p.acc o (by omega) (op:= .put (fL e)) (x:=X.bl (i%2) e.1) (by rw[hm];exact au)
   obtain⟨gx,dS⟩:=l.acc o p (by omega) (op:= .put (fL e)) (x:=X.bl (i%2) e.1) (by rw[hm];exact au) r9
   have hold:hW (c3 G w (.put (fL e)) (X.bl (i%2) e.1) S).2.1=hy A (X.bl (i%2) e.1):=by rw[dS];exact LO A _
   have hY:∀z,z<2*X.T->hy (yy A (.put (fL e)) (UInt64.ofNat (X.bl (i%2) e.1))) z=if z=X.bl (i%2) e.1 then some e else hy A z:=λz bc=>by
    rw[S8 (by omega) (by omega),LJ]
   have afu:(if ((c3 G w (.put (fL e)) (X.bl (i%2) e.1) S).2.1[0]==1)=true then some (m3 (c3 G w (.put (fL e)) (X.bl (i%2) e.1) S).2.1) else none)=hy A (X.bl (i%2) e.1):=by
    rw[<-hold];unfold hW;simp only[beq_iff_eq]
   have ji:hl X (hy A) f (some e) (2*X.T+X.sp)=some e:=by unfold hl;rw[if_neg (by omega),if_neg (by omega),if_pos rfl]
   refine(fun⟨gF,aa,ad,an,aK,_⟩=>⟨gF,aa,ad,an,aK,λh=>by cases h⟩) (AT o fv hm fW a_ n (i+1) (a+1) _ _ _ (ey++[(X.bl (i%2) e.1,(c3 G w (.put (fL e)) (X.bl (i%2) e.1) S).2.1)]) _ h9 (by omega) gx fin ?_ ?_ ?_)
   .rw[afu]
    refine k9.swap (x:=X.bl (i%2) e.1) (y:=2*X.T+X.sp) r (aft au hY) (λ_ b4 m5=>?_) (λca=>by omega)
    rw[if_pos rfl,ji] at m5
    cases m5
    rw[hdiv]
   .intro x ai
    rcases List.mem_append.1 ai with ai|ai
    .exact aZ x ai
    .rw[List.mem_singleton] at ai;rw[ai];exact au
   .intro z bc
    rw[List.reverse_append]
    show yz ey.reverse (Hx _ _ _) z=_
    rw[<-hu z bc]
    refine LR _ (λy aB=>?_) z bc
    unfold Hx
    by_cases c:y=X.bl (i%2) e.1
    .rw[if_pos c,hold,c]
    .rw[if_neg c,hY y aB,if_neg c]
  | false =>
   have r9:=yB n (i+1) _ _ _ _ fin
   have gx:=(l.acc o p (by omega) (Nat.pow_pos (by decide)) r9).1
   rw[DH] at gx
   exact AT o fv hm fW a_ n (i+1) (a+1) _ e false ey A (p.blank o (by omega)) (by omega) gx fin r aZ hu
theorem Hz:∀l S,jx G (mH G w l S)->jx G S
 | [],_,h=>h
 | (_,_)::l,_,h=>(Hz l _ h).back
theorem S9 (o:G.da)(a_:G.f=1){T:Nat}(hm:2 ^ G.m=T)(fW:T<=10000):∀(l:List (Nat×c0)) a S,h3 G w a S->a+l.length<=100000->(∀x∈l,x.1<T) ->
 h3 G w (a+l.length) (mH G w l S)/\(mH G w l S).R 0=S.R 0/\∀A,Live G S A->jx G (mH G w l S)->∃gF,Live G (mH G w l S) gF/\∀z,z<T->hy gF z=yz l (hy A) z
 | [],a,S,p,_,_=>⟨p,rfl,λA l _=>⟨A,l,λ_ _=>rfl⟩⟩
 | (b,d)::l,a,S,p,h,aZ=>by
  have aT:((b,d)::l).length=l.length+1:=rfl
  have au:b<T:=aZ (b,d) (by simp)
  obtain⟨aa,ad,an⟩:=S9 o a_ hm fW l (a+1) _ (p.acc o (by omega) (op:= .put d) (x:=b) (by rw[hm];exact au)) (by omega) λx ai=>aZ x (by simp[ai])
  refine⟨by rw[aT,show a+(l.length+1)=a+1+l.length by omega];exact aa,ad.trans (rm a_ _ _ _),λA b2 fin=>?_⟩
  obtain⟨gx,_⟩:=b2.acc o p (by omega) (op:= .put d) (x:=b) (by rw[hm];exact au) (Hz l _ fin)
  obtain⟨gF,g1,g2⟩:=an _ gx fin
  refine⟨gF,g1,λz bc=>?_⟩
  rw[g2 z bc]
  refine LR l (λy aB=>?_) z bc
  rw[S8 (by omega) (by omega)];rfl
end
end Go.cD
namespace Go.cD
open Go.Proofs.Tryz
variable {G:cG} {w:Nat->UInt64} {X:ek}
def AU (X:ek)(f:Nat->cv):Prop:=∀i,i<X.sp->f i=e6∨∃e:gr,f i=m4 e
theorem afv {a b:UInt64}(h:a+1=b+1):a=b:=by
 have aa:a+1-1=b+1-1:=by rw[h]
 have g:∀x:UInt64,x+1-1=x:=λx=>by
  apply UInt64.toNat_inj.1
  rw[UInt64.toNat_sub,UInt64.toNat_add]
  have:=x.toNat_lt
  simp;omega
 rwa [g,g] at aa
theorem S_ {key c:UInt64}{o:Option gr}(h:kn key o=some c):o=some (key,c):=by
 cases o with
 | none=>cases h
 | some e =>
  simp only[kn] at h
  split at h
  .rename_i he;cases h;rw[<-he]
  .cases h
theorem Ta {key c:UInt64}{o:Option gr}(h:kn key o=none):o≠some (key,c):=λe=>by
 rw[e] at h;simp[kn] at h
theorem AV {F:Nat->Option gr}{f:Nat->cv}{co:Option gr}{n:Nat}(h:n<2*X.T):hl X F f co n=F n:=if_pos h
theorem DI {F:Nat->Option gr}{f:Nat->cv}{co:Option gr}{i:Nat}(h:i<X.sp):hl X F f co (2*X.T+i)=yx (f i):=by
 unfold hl;rw[if_neg (by omega),if_pos (by omega),Nat.add_sub_cancel_left]
theorem Tb {F:Nat->Option gr}{f:Nat->cv}{co:Option gr}:hl X F f co (2*X.T+X.sp)=co:=by
 unfold hl;rw[if_neg (by omega),if_neg (by omega),if_pos rfl]
theorem LS {F:Nat->Option gr}{f:Nat->cv}{e:gr}{n:Nat}(h:hl X F f none n=some e):(n<2*X.T/\F n=some e)∨∃i,i<X.sp/\n=2*X.T+i/\yx (f i)=some e:=by
 unfold hl at h
 split at h
 .rename_i c;exact .inl ⟨c,h⟩
 .split at h
  .exact .inr ⟨n-2*X.T,by omega,by omega,h⟩
  .split at h<;>cases h
def afw (X:ek)(F:Nat->Option gr)(f:Nat->cv)(key c:UInt64)(t:Int)(at_:UInt64):Prop :=
 ((t=0∨t=1)/\F (X.bl t.toNat key)=some (key,c))∨(t=2/\∃i,i<X.sp/\at_=UInt64.ofNat i/\yx (f i)=some (key,c))
theorem Tc (fv:X.da){F:Nat->Option gr}{f:Nat->cv}{M:UInt64->Option UInt64}(r:k9 X (hl X F f none) M)(ws:AU X f){key:UInt64}(ag:key+1≠0) :
 (∃c t at_,M key=some c/\X.spot key (F (X.bl 0 key)) (F (X.bl 1 key)) f=(t,at_,c)/\afw X F f key c t at_)∨(M key=none/\X.spot key (F (X.bl 0 key)) (F (X.bl 1 key)) f=(-1,0,0)):=by
 have ga:=ek.lS fv (t:=0) (by decide) key
 have ae:=ek.lS fv (t:=1) (by decide) key
 unfold ek.spot
 cases h0:kn key (F (X.bl 0 key)) with
 | some c =>
  have e:=S_ h0
  exact .inl ⟨c,_,_,(r.mod key c).2 ⟨_,by rw[AV ga,e]⟩,rfl,.inl ⟨.inl rfl,e⟩⟩
 | none =>
  cases aa:kn key (F (X.bl 1 key)) with
  | some c =>
   have e:=S_ aa
   exact .inl ⟨c,_,_,(r.mod key c).2 ⟨_,by rw[AV ae,e]⟩,rfl,.inl ⟨.inr rfl,e⟩⟩
  | none =>
   cases ad:gu (λi=>(f i)[1]==key+1) X.sp with
   | some i =>
    obtain⟨hi,he⟩:=AN ad
    have he:(f i)[1]=key+1:=by simpa using he
    rcases ws i hi with bc|⟨e,bc⟩
    .rw[bc] at he;exact absurd he.symm ag
    .rw[bc] at he
     have afx:e.1=key:=afv he
     have HA:yx (f i)=some (key,(f i)[2]):=by rw[bc,LK,<-afx];rfl
     exact .inl ⟨_,_,_,(r.mod key _).2 ⟨2*X.T+i,by rw[DI hi,HA]⟩,rfl,.inr ⟨rfl,i,hi,rfl,HA⟩⟩
   | none =>
    refine .inr ⟨?_,rfl⟩
    cases te:M key with
    | none=>rfl
    | some c =>
     obtain⟨n,aH⟩:=(r.mod key c).1 te
     rcases LS aH with ⟨aT,hY⟩|⟨i,hi,_,aZ⟩
     .have mJ:=r.ok n aT (key,c) aH
      have bV:n/X.T<2:=Nat.div_lt_of_lt_mul (by rw[Nat.mul_comm];exact aT)
      have:n/X.T=0∨n/X.T=1:=by revert bV;generalize n/X.T=q;omega
      rcases this with h|h
      .rw[h] at mJ;rw[mJ] at hY;exact absurd hY (Ta h0)
      .rw[h] at mJ;rw[mJ] at hY;exact absurd hY (Ta aa)
     .have:=LL ad i hi
      rcases ws i hi with bc|⟨e,bc⟩
      .rw[bc] at aZ;cases aZ
      .rw[bc,LK] at aZ;cases aZ
       rw[bc] at this
       simp[m4] at this
theorem LU {key:UInt64}{S:cU}(f:jx G (gK G w X key S).1):jx G S:=f.back.back
theorem Td (o:G.da)(fv:X.da)(hm:2 ^ G.m=2*X.T)(a_:G.f=1){a:Nat}{S:cU}(p:h3 G w a S)(bO:a+2<=100000)(key:UInt64):h3 G w (a+2) (gK G w X key S).1/\(gK G w X key S).1.R 0=S.R 0 :=
 ⟨(p.acc o (by omega) (op:= .look) (by rw[hm];exact ek.lS fv (by decide) _)).acc o (by omega) (op:= .look) (by rw[hm];exact ek.lS fv (by decide) _),(rm a_ _ _ _).trans (rm a_ _ _ _)⟩
theorem LV (o:G.da)(fv:X.da)(hm:2 ^ G.m=2*X.T){a:Nat}{S:cU}{A:UInt64->Option c0}(p:h3 G w a S)(bO:a+2<=100000)(l:Live G S A){key:UInt64}(fin:jx G (gK G w X key S).1) :
 Live G (gK G w X key S).1 A/\(gK G w X key S).2=X.spot key (hy A (X.bl 0 key)) (hy A (X.bl 1 key)) (S.R 0):=by
 have ga:=ek.lS fv (t:=0) (by decide) key
 have ae:=ek.lS fv (t:=1) (by decide) key
 have gX:=p.acc o (by omega) (op:= .look) (x:=X.bl 0 key) (by rw[hm];exact ga)
 obtain⟨h_,cj⟩:=l.acc o p (by omega) (op:= .look) (x:=X.bl 0 key) (by rw[hm];exact ga) fin.back
 rw[DH] at h_
 obtain⟨gx,cb⟩:=h_.acc o gX (by omega) (op:= .look) (x:=X.bl 1 key) (by rw[hm];exact ae) fin
 rw[DH] at gx
 refine⟨gx,?_⟩
 show X.spot key (hW (c3 G w .look (X.bl 0 key) S).2.1) (hW (c3 G w .look (X.bl 1 key) (c3 G w .look (X.bl 0 key) S).1).2.1) (S.R 0)=_
 rw[cj,cb,LO,LO]
theorem LW:∀n i S e ey,(e7 G w X n i S e false ey).2.2.1=false
 | 0,_,_,_,_=>rfl
 | n+1,i,S,e,ey=>LW n (i+1) _ e ey
theorem DJ:∀n i S e on ey,(e7 G w X n i S e on ey).2.2.1=true->(e7 G w X n i S e on ey).2.2.2.length=ey.length+n
 | 0,_,_,_,_,_,_=>rfl
 | n+1,i,S,e,on,ey,h=>by
  cases on with
  | true =>
   refine(DJ n (i+1) _ _ _ _ h).trans ?_
   rw[List.length_append,List.length_singleton];omega
  | false =>
   have:=LW (G:=G) (w:=w) (X:=X) (n+1) i S e ey
   rw[this] at h;cases h
theorem Te {S:cU}{i j:Nat}{c:cv}:(hO S (0,i) c).R 0 j=if j=i then c else S.R 0 j:=by
 show(if (0:Nat)=0/\j=i then c else S.R 0 j)=_
 by_cases h:j=i
 .rw[if_pos ⟨rfl,h⟩,if_pos h]
 .rw[if_neg (λe=>h e.2),if_neg h]
theorem DK (fv:X.da):∀n i S e on ey,(∀x∈ey,x.1<2*X.T)->∀x∈(e7 G w X n i S e on ey).2.2.2,x.1<2*X.T
 | 0,_,_,_,_,_,h=>h
 | n+1,i,S,e,on,ey,h=>by
  cases on with
  | true =>
   refine DK fv n (i+1) _ _ _ _ λx ai=>?_
   rcases List.mem_append.1 ai with ai|ai
   .exact h x ai
   .rw[List.mem_singleton] at ai;rw[ai];exact ek.lS fv (Nat.mod_lt _ (by decide)) _
  | false=>exact DK fv n (i+1) _ e false ey h
theorem Tf (o:G.da)(fv:X.da)(hm:2 ^ G.m=2*X.T)(fW:X.T<=1000)(a_:G.f=1){a:Nat}{S:cU}{A:UInt64->Option c0}{M:UInt64->Option UInt64}(p:h3 G w a S)(bO:a+2*X.K<=100000)(l:Live G S A){key cell:UInt64}{on:Bool}
 (fin:jx G (hX G w X key cell on S).1) (r:k9 X (hl X (hy A) (S.R 0) none) M) (ws:AU X (S.R 0)) (ag:on=true->M key=none) :
 ∃gF,Live G (hX G w X key cell on S).1 gF/\AU X ((hX G w X key cell on S).1.R 0) /\
  (((hX G w X key cell on S).2=true/\k9 X (hl X (hy gF) ((hX G w X key cell on S).1.R 0) none) (if on then λx=>if x=key then some cell else M x else M)) ∨
    ((hX G w X key cell on S).2=false/\on=true/\gu (λi=>(S.R 0 i)[0]==0) X.sp=none/\k9 X (hl X (hy gF) ((hX G w X key cell on S).1.R 0) none) M)) /\
  (on=false->(hX G w X key cell on S).2=true/\(hX G w X key cell on S).1.R 0=S.R 0/\∀z,hy gF z=hy A z):=by
 obtain⟨aE,aC⟩:=AS o fv hm a_ X.K 0 a S (key,cell) on [] p (by omega)
 cases on with
 | false =>
  have qp:=LW (G:=G) (w:=w) (X:=X) X.K 0 S (key,cell) []
  have hi:hX G w X key cell false S=(kD G w X.K (e7 G w X X.K 0 S (key,cell) false []).1,true):=by
   unfold hX;simp only;rw[qp];rfl
  rw[hi] at fin ⊢
  obtain⟨ae,ay,aN⟩:=Hy o a_ X.K _ _ aE (by omega)
  obtain⟨gF,aa,ad,_,_,aR⟩:=AT o fv hm fW a_ (F0:=hy A) (M:=M) (f:=S.R 0) X.K 0 a S (key,cell) false [] A p (by omega) l (yA _ _ fin) r (by simp) (λ_ _=>rfl)
  rw[qp] at ad
  have dB:(kD G w X.K (e7 G w X X.K 0 S (key,cell) false []).1).R 0=S.R 0:=ay.trans aC
  refine⟨gF,aN gF aa fin,by rw[dB];exact ws,.inl ⟨rfl,?_⟩,λ_=>⟨rfl,dB,(aR rfl).2⟩⟩
  rw[dB];exact ad
 | true =>
  have ew:=r.take (k:=key) (c:=cell) (ag rfl)
  cases jj:(e7 G w X X.K 0 S (key,cell) true []).2.2.1 with
  | false =>
   have hi:hX G w X key cell true S=(kD G w X.K (e7 G w X X.K 0 S (key,cell) true []).1,true):=by
    unfold hX;simp only;rw[jj];rfl
   rw[hi] at fin ⊢
   obtain⟨ae,ay,aN⟩:=Hy o a_ X.K _ _ aE (by omega)
   obtain⟨gF,aa,ad,_,_,_⟩:=AT o fv hm fW a_ (F0:=hy A) (f:=S.R 0) X.K 0 a S (key,cell) true [] A p (by omega) l (yA _ _ fin) ew (by simp) (λ_ _=>rfl)
   rw[jj] at ad
   have dB:(kD G w X.K (e7 G w X X.K 0 S (key,cell) true []).1).R 0=S.R 0:=ay.trans aC
   refine⟨gF,aN gF aa fin,by rw[dB];exact ws,.inl ⟨rfl,?_⟩,λh=>by cases h⟩
   rw[dB];exact ad
  | true =>
   cases aU:gu (λi=>(S.R 0 i)[0]==0) X.sp with
   | some i =>
    have hi:hX G w X key cell true S=(kD G w X.K (hO (e7 G w X X.K 0 S (key,cell) true []).1 (0,i) (m4 (e7 G w X X.K 0 S (key,cell) true []).2.1)),true):=by
     unfold hX;simp only;rw[jj,if_pos rfl,aU]
    rw[hi] at fin ⊢
    obtain⟨ae,ay,aN⟩:=Hy o a_ X.K _ _ (aE.hO a_ (i:=i) (c:=m4 (e7 G w X X.K 0 S (key,cell) true []).2.1)) (by omega)
    obtain⟨gF,aa,ad,_,_,_⟩:=AT o fv hm fW a_ (F0:=hy A) (f:=S.R 0) X.K 0 a S (key,cell) true [] A p (by omega) l (yA X.K (hO (e7 G w X X.K 0 S (key,cell) true []).1 (0,i) (m4 (e7 G w X X.K 0 S (key,cell) true []).2.1)) fin) ew (by simp) (λ_ _=>rfl)
    rw[jj,if_pos rfl] at ad
    generalize (e7 G w X X.K 0 S (key,cell) true []).2.1=b4 at *
    have dB:∀j,(kD G w X.K (hO (e7 G w X X.K 0 S (key,cell) true []).1 (0,i) (m4 b4))).R 0 j=if j=i then m4 b4 else S.R 0 j:=λj=>by rw[ay,Te,aC]
    obtain⟨LX,AW⟩:=AN aU
    have AW:(S.R 0 i)[0]=0:=by simpa using AW
    have bc:S.R 0 i=e6:=by
     rcases ws i LX with h|⟨e,h⟩
     .exact h
     .rw[h] at AW;cases AW
    refine⟨gF,aN gF (aa.hO a_) fin,λj aV=>?_,.inl ⟨rfl,?_⟩,λh=>by cases h⟩
    .rw[dB]
     by_cases c:j=i
     .rw[if_pos c];exact .inr ⟨b4,rfl⟩
     .rw[if_neg c];exact ws j aV
    .refine k9.swap (x:=2*X.T+i) (y:=2*X.T+X.sp) ad (λn=>?_) (λh=>by omega) (λh=>by omega)
     rw[Tb,DI LX,bc,afh]
     by_cases aQ:n=2*X.T+i
     .rw[if_pos aQ,aQ,DI LX,dB,if_pos rfl,LK]
     .rw[if_neg aQ]
      by_cases aY:n=2*X.T+X.sp
      .rw[if_pos aY,aY,Tb]
      .rw[if_neg aY]
       unfold hl
       split
       .rfl
       .split
        .rw[dB,if_neg (by omega)]
        .simp only[aY,if_false]
   | none =>
    have hi:hX G w X key cell true S=(mH G w (e7 G w X X.K 0 S (key,cell) true []).2.2.2.reverse (e7 G w X X.K 0 S (key,cell) true []).1,false):=by
     unfold hX;simp only;rw[jj,if_pos rfl,aU]
    rw[hi] at fin ⊢
    have aT:=DJ X.K 0 S (key,cell) true [] jj
    rw[List.length_nil,Nat.zero_add] at aT
    obtain⟨iF,aa,ad,an,aK,_⟩:=AT o fv hm fW a_ (F0:=hy A) (f:=S.R 0) X.K 0 a S (key,cell) true [] A p (by omega) l (Hz _ _ fin) ew (by simp) (λ_ _=>rfl)
    obtain⟨_,rn,yC⟩:=S9 o a_ hm (by omega) (e7 G w X X.K 0 S (key,cell) true []).2.2.2.reverse _ _ aE (by rw[List.length_reverse,aT];omega) λx ai=>an x (List.mem_reverse.1 ai)
    obtain⟨ec,g1,g2⟩:=yC iF aa fin
    have dB:=rn.trans aC
    refine⟨ec,g1,by rw[dB];exact ws,.inr ⟨rfl,rfl,rfl,?_⟩,λh=>by cases h⟩
    rw[dB]
    refine r.congr λn=>?_
    unfold hl
    split
    .rename_i aH;rw[g2 n aH,aK n aH]
    .rfl
theorem afy {key at_:UInt64}{t:Int}{on:Bool}{S:cU}(f:jx G (mI G w X key t at_ on S)):jx G S:=by
 have h:jx G (if on&&(t==0||t==1) then (c3 G w .drop (X.bl t.toNat key) S).1 else kC G w S):=by
  unfold mI at f
  simp only at f
  split at f
  .exact f
  .exact f
 split at h
 .exact h.back
 .exact h.back
theorem afz (o:G.da)(fv:X.da)(hm:2 ^ G.m=2*X.T)(fW:X.T<=1000)(ix:X.sp<=1000)(a_:G.f=1){a:Nat}{S:cU}{A:UInt64->Option c0}{M:UInt64->Option UInt64}(p:h3 G w a S)(bO:a<=100000)(l:Live G S A){key:UInt64}{t:Int}{at_ c:UInt64}{on:Bool}
 (fin:jx G (mI G w X key t at_ on S)) (r:k9 X (hl X (hy A) (S.R 0) none) M) (ws:AU X (S.R 0)) (ag:key+1≠0) (aU:on=true->X.spot key (hy A (X.bl 0 key)) (hy A (X.bl 1 key)) (S.R 0)=(t,at_,c)) :
 ∃gF,Live G (mI G w X key t at_ on S) gF/\AU X ((mI G w X key t at_ on S).R 0)/\k9 X (hl X (hy gF) ((mI G w X key t at_ on S).R 0) none) (if on then λy=>if y=key then none else M y else M) /\
  (on=false->(mI G w X key t at_ on S).R 0=S.R 0/\∀z,hy gF z=hy A z):=by
 have ba:jx G (kC G w S)->Live G (kC G w S) A:=λf=>by
  have:=(l.acc o p bO (Nat.pow_pos (by decide)) f).1
  rwa [DH] at this
 have jS:(kC G w S).R 0=S.R 0:=rm a_ _ _ _
 cases on with
 | false =>
  have e:mI G w X key t at_ false S=kC G w S:=rfl
  rw[e] at fin ⊢
  exact⟨A,ba fin,by rw[jS];exact ws,by rw[jS];exact r,λ_=>⟨jS,λ_=>rfl⟩⟩
 | true =>
  have aU:=aU rfl
  rcases Tc fv r ws ag with ⟨cc,HB,ayR,te,aa,hw⟩|⟨te,aa⟩
  .rw[aU] at aa
   cases aa
   rcases hw with ⟨bw,hY⟩|⟨bw,i,hi,r_,HA⟩
   .have e:mI G w X key t at_ true S=(c3 G w .drop (X.bl t.toNat key) S).1:=by
     rcases bw with rfl|rfl<;>rfl
    rw[e] at fin ⊢
    have au:X.bl t.toNat key<2*X.T:=ek.lS fv (by omega) key
    have gx:=(l.acc o p bO (op:= .drop) (by rw[hm];exact au) fin).1
    have dB:(c3 G w .drop (X.bl t.toNat key) S).1.R 0=S.R 0:=rm a_ _ _ _
    refine⟨_,gx,by rw[dB];exact ws,?_,λh=>by cases h⟩
    rw[dB]
    refine r.gone (x:=X.bl t.toNat key) (k:=key) (c:=c) (by rw[AV au,hY]) λn=>?_
    by_cases aa:n<2*X.T
    .rw[AV aa,AV aa,afp (by omega) (by omega)]
    .rw[if_neg (by omega)]
     unfold hl;rw[if_neg aa,if_neg aa]
   .subst bw
    have Tg:at_.toNat=i:=by rw[r_,UInt64.toNat_ofNat'];omega
    have e:mI G w X key 2 at_ true S=hO (kC G w S) (0,i) e6:=by
     unfold mI
     simp only
     rw[if_pos (by simp[Tg,hi]),Tg,if_neg (by decide)]
    rw[e] at fin ⊢
    have dB:∀j,(hO (kC G w S) (0,i) e6).R 0 j=if j=i then e6 else S.R 0 j:=λj=>by rw[Te,jS]
    refine⟨A,(ba fin).hO a_,λj aV=>?_,?_,λh=>by cases h⟩
    .rw[dB]
     by_cases c:j=i
     .rw[if_pos c];exact .inl rfl
     .rw[if_neg c];exact ws j aV
    .refine r.gone (x:=2*X.T+i) (k:=key) (c:=c) (by rw[DI hi,HA]) λn=>?_
     by_cases aQ:n=2*X.T+i
     .rw[if_pos aQ,aQ,DI hi,dB,if_pos rfl];rfl
     .rw[if_neg aQ]
      unfold hl
      split
      .rfl
      .split
       .rw[dB,if_neg (by omega)]
       .rfl
  .rw[aU] at aa
   cases aa
   have e:mI G w X key (-1) 0 true S=kC G w S:=rfl
   rw[e] at fin ⊢
   refine⟨A,ba fin,by rw[jS];exact ws,?_,λh=>by cases h⟩
   rw[jS]
   have:(λy=>if y=key then none else M y)=M:=by
    funext y
    by_cases h:y=key
    .rw[if_pos h,h,te]
    .rw[if_neg h]
   show k9 X _ (λy=>if y=key then none else M y)
   rw[this];exact r
end Go.cD
namespace Go.cD
open Go.Proofs.Tryz
def sa (G:cG)(X:ek)(S:cU)(M:UInt64->Option UInt64):Prop:=jx G S->∃A,Live G S A/\k9 X (hl X (hy A) (S.R 0) none) M/\AU X (S.R 0)
def ayS (G:cG)(X:ek)(S:cU)(F:Nat->Option gr)(f:Nat->cv):Prop:=jx G S->(∃A,Live G S A/\∀z,z<2*X.T->hy A z=F z)/\S.R 0=f
structure pF (G:cG)(X:ek):Prop where
 o:G.da
 fv:X.da
 m:2 ^ G.m=2*X.T
 T:X.T<=1000
 sp:X.sp<=1000
 f:G.f=1
section
variable {G:cG} {w:Nat->UInt64} {X:ek}
theorem Th {key cell:UInt64}{on:Bool}{S:cU}(f:jx G (hX G w X key cell on S).1):jx G S:=by
 unfold hX at f
 simp only at f
 split at f
 .split at f
  .exact yB _ _ _ _ _ _ (show jx G (e7 G w X X.K 0 S (key,cell) on []).1 from yA _ (hO _ _ _) f)
  .exact yB _ _ _ _ _ _ (Hz _ _ f)
 .exact yB _ _ _ _ _ _ (yA _ _ f)
theorem Ti (c:pF G X){a:Nat}{S:cU}(p:h3 G w a S)(bO:a+2<=100000){M:UInt64->Option UInt64}(g:sa G X S M){key:UInt64}(ag:key+1≠0) :
 sa G X (gK G w X key S).1 M/\(jx G (gK G w X key S).1->(∃v t at_,M key=some v/\(gK G w X key S).2=(t,at_,v)/\0<=t)∨(M key=none/\(gK G w X key S).2=(-1,0,0))):=by
 have dB:=(Td c.o c.fv c.m c.f p bO key).2
 refine⟨λfin=>?_,λfin=>?_⟩
 .obtain⟨A,l,r,ws⟩:=g (LU fin)
  obtain⟨gx,_⟩:=LV c.o c.fv c.m p bO l fin
  exact⟨A,gx,by rw[dB];exact r,by rw[dB];exact ws⟩
 .obtain⟨A,l,r,ws⟩:=g (LU fin)
  obtain⟨_,aU⟩:=LV c.o c.fv c.m p bO l fin
  rw[aU]
  rcases Tc c.fv r ws ag with ⟨v,t,at_,aa,ad,an⟩|h
  .refine .inl ⟨v,t,at_,aa,ad,?_⟩
   rcases an with ⟨rfl|rfl,_⟩|⟨rfl,_⟩<;>decide
  .exact .inr h
theorem afA (c:pF G X){a:Nat}{S:cU}(p:h3 G w a S)(bO:a+2*X.K<=100000){M:UInt64->Option UInt64}(g:sa G X S M){key cell:UInt64}{on:Bool}(ag:on=true->M key=none) :
 sa G X (hX G w X key cell on S).1 (if on&&(hX G w X key cell on S).2 then λx=>if x=key then some cell else M x else M) /\
  (jx G (hX G w X key cell on S).1->(on=false->(hX G w X key cell on S).2=true)/\((hX G w X key cell on S).2=false->gu (λi=>(S.R 0 i)[0]==0) X.sp=none)):=by
 refine⟨λfin=>?_,λfin=>?_⟩
 .obtain⟨A,l,r,ws⟩:=g (Th fin)
  obtain⟨gF,aa,ad,an,_⟩:=Tf c.o c.fv c.m c.T c.f p bO l fin r ws ag
  refine⟨gF,aa,?_,ad⟩
  rcases an with ⟨e,h⟩|⟨e,a8,_,h⟩
  .rw[e,Bool.and_true];exact h
  .rw[e,Bool.and_false];exact h
 .obtain⟨A,l,r,ws⟩:=g (Th fin)
  obtain⟨gF,_,_,an,aK⟩:=Tf c.o c.fv c.m c.T c.f p bO l fin r ws ag
  refine⟨λh=>(aK h).1,λh=>?_⟩
  rcases an with ⟨e,_⟩|⟨_,_,e,_⟩
  .rw[e] at h;cases h
  .exact e
theorem afB (c:pF G X){a:Nat}{S:cU}(p:h3 G w a S)(bO:a+3<=100000){M:UInt64->Option UInt64}(g:sa G X S M){key:UInt64}(ag:key+1≠0)(on:Bool) :
 sa G X (mI G w X key (gK G w X key S).2.1 (gK G w X key S).2.2.1 on (gK G w X key S).1) (if on then λy=>if y=key then none else M y else M):=by
 obtain⟨h9,dB⟩:=Td c.o c.fv c.m c.f p (by omega) key
 intro fin
 have f1:=afy fin
 obtain⟨A,l,r,ws⟩:=g (LU f1)
 obtain⟨gx,aU⟩:=LV c.o c.fv c.m p (by omega) l f1
 obtain⟨gF,aa,ad,an,_⟩:=afz c.o c.fv c.m c.T c.sp c.f h9 (by omega) gx (c:=(gK G w X key S).2.2.2) fin (by rw[dB];exact r) (by rw[dB];exact ws) ag (λ_=>by rw[dB,<-aU])
 exact⟨gF,aa,an,ad⟩
end

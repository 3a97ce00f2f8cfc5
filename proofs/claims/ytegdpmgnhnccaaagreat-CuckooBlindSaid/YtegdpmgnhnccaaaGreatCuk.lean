import Derived.Test.YtegdpmgnhnccaaaGreatLawR
namespace Go.cR
open Go.Proofs.Tryz
abbrev gN:=aE×aE
def gb (e:gN):c_:=#v[1,e.1+1,e.2,0,0,0,0,0]
def nB (d:c_):gN:=(d[1]-1,d[2])
def ix (d:c_):Option gN:=if d[0]=1 then some (nB d) else none
theorem Nf (e:gN):ix (gb e)=some e:=by
 unfold ix;rw[aDr (show(gb e)[0]=1 from rfl)];show some (e.1+1-1,e.2)=some e;rw[show e.1+1-1=e.1 from by
  apply aDE.1;rw[aE5,aEt];have:=e.1.toNat_lt;simp;omega]
def nC (e:gN):cM:=#v[1,e.1+1,e.2,0,0,0,0,0,0,0,0,0]
def zw (c:cM):Option gN:=if c[0]=1 then some (c[1]-1,c[2]) else none
theorem Ng (e:gN):zw (nC e)=some e:=Nf e
theorem aht:zw fm=none:=rfl
structure eE where
 T:Nat
 pl:Nat->aE->Nat
 K:Nat
 sp:Nat
structure eE.dt (X:eE):Prop where
 T:1<=X.T
 pl:∀t k,X.pl t k<X.T
 sp:1<=X.sp
def eE.bp (X:eE)(t:Nat)(k:aE):Nat:=t*X.T+X.pl t k
theorem eE.ml {X:eE}(o:X.dt){t:Nat}(bG:t<2)(k:aE):X.bp t k<2*X.T:=by
 have:=o.pl t k;have:t=0∨t=1:=by omega
 unfold eE.bp;rcases this with rfl|rfl<;>omega
theorem eE.ahu {X:eE}(o:X.dt)(t:Nat)(k:aE):X.bp t k/X.T=t:=by
 unfold eE.bp;rw[aDW,aFJ (by have:=o.T;omega),aEE (o.pl t k),aEe]
def gO (p:Nat->Bool):Nat->Option Nat
 | 0=>none
 | m+1=>match gO p m with
  | some i=>some i
  | none=>if p m then some m else none
theorem BP {p:Nat->Bool}:∀ {m i},gO p m=some i->i<m/\p i=true
 | m+1,i,h=>by
  simp only[gO] at h;cases e:gO p m with
  | some j =>
   rw[e] at h;cases h;have:=BP e;exact⟨by omega,this.2⟩
  | none =>
   rw[e] at h;simp only at h;split at h
   .rename_i aP;cases h;exact⟨by omega,aP⟩
   .cases h
theorem Nh {p:Nat->Bool}:∀ {m},gO p m=none->∀i,i<m->p i=false
 | m+1,h,i,hi=>by
  simp only[gO] at h;cases e:gO p m with
  | some j=>rw[e] at h;cases h
  | none =>
   rw[e] at h;simp only at h;split at h
   .cases h
   .rename_i aP
    by_cases c:i=m
    .subst c;simpa using aP
    .exact Nh e i (by omega)
def kR (key:aE)(o:Option gN):Option aE:=match o with
 | some e=>if e.1=key then some e.2 else none
 | none=>none
abbrev r8:=Int×aE×aE
def eE.spot (X:eE)(key:aE)(a b:Option gN)(f:Nat->cM):r8 :=
 match kR key a with
 | some c=>(0,UInt64.ofNat (X.pl 0 key),c)
 | none=>match kR key b with
  | some c=>(1,UInt64.ofNat (X.pl 1 key),c)
  | none=>match gO (λi=>(f i)[1]==key+1) X.sp with
   | some i=>(2,UInt64.ofNat i,(f i)[2])
   | none=>(-1,0,0)
def ig (S:c7)(q:Nat×Nat)(c:cM):c7:={ S with R:=fM S.R q c }
section
variable (G:cq) (w:Nat->aE) (X:eE)
def k5 (S:c7):c7:=(de G w .look 0 S).1
def k6:Nat->c7->c7
 | 0,S=>S
 | n+1,S=>k6 n (k5 G w S)
def hg (key:aE)(S:c7):c7×r8 :=
 let a:=de G w .look (X.bp 0 key) S;let b:=de G w .look (X.bp 1 key) a.1
 (b.1,X.spot key (ix a.2.1) (ix b.2.1) (S.R 0))
def fo:(n i:Nat)->c7->gN->Bool->List (Nat×c_)->c7×gN×Bool×List (Nat×c_)
 | 0,_,S,e,on,eX=>(S,e,on,eX)
 | n+1,i,S,e,on,eX =>
  if on then
   let r:=de G w (.put (gb e)) (X.bp (i%2) e.1) S
   fo n (i+1) r.1 (nB r.2.1) (r.2.1[0]==1) (eX++[(X.bp (i%2) e.1,r.2.1)])
  else fo n (i+1) (k5 G w S) e on eX
def m_:List (Nat×c_)->c7->c7
 | [],S=>S
 | (b,d)::l,S=>m_ l (de G w (.put d) b S).1
def iy (key cell:aE)(on:Bool)(S:c7):c7×Bool :=
 let r:=fo G w X X.K 0 S (key,cell) on []
 if r.2.2.1 then
  match gO (λi=>(S.R 0 i)[0]==0) X.sp with
  | some i=>(k6 G w X.K (ig r.1 (0,i) (nC r.2.1)),true)
  | none=>(m_ G w r.2.2.2.reverse r.1,false)
 else (k6 G w X.K r.1,true)
def na (key:aE)(t:Int)(at_:aE)(on:Bool)(S:c7):c7 :=
 let fz:=if on&&(t==0||t==1) then (de G w .drop (X.bp t.toNat key) S).1 else k5 G w S
 if on&&t==2&&decide (at_.toNat<X.sp) then ig fz (0,at_.toNat) fm else fz
end
structure iE (G:cq)(w:Nat->aE)(a:Nat)(S:c7):Prop where
 e2:lk G w 0 S.used S
 us:S.used=0+2*G.L*a
 n5:S.gone.length=G.L*a
def j2 (G:cq)(S:c7):Prop:=∀z,z<G.L->S.over z=false
section
variable {G:cq} {w:Nat->aE} {X:eE}
theorem iE.acc (o:G.dt){a:Nat}{S:c7}(p:iE G w a S)(bY:a<=100000){op:fv}{x:Nat}(ai:x<2 ^ G.m):iE G w (a+1) (de G w op x S).1:=by
 have eg:=o.L;have aa:2*G.L*a<=2*4*100000:=aDP (by omega) bY;have hu:=p.us;obtain⟨ae,ax,aM⟩:=ahv o p.us (by omega) p.e2 p.n5 (op:=op) ai (BQ o ai);exact⟨by rw[aM];exact ae,by rw[aM,hu,Nat.mul_succ];omega,ax⟩
theorem Live.acc (o:G.dt){a:Nat}{S:c7}(p:iE G w a S)(bY:a<=100000){op:fv}{x:Nat}(ai:x<2 ^ G.m){A:aE->Option c_}(l:Live G S A)(f:j2 G (de G w op x S).1) :
 Live G (de G w op x S).1 (zx A op (UInt64.ofNat x))/\(de G w op x S).2=pb A (UInt64.ofNat x):=by
 have eg:=o.L;have aa:2*G.L*a<=2*4*100000:=aDP (by omega) bY;have hu:=p.us;obtain⟨gB,K,n⟩:=l;obtain⟨t_,jh,iF,_,_⟩:=UN o p.us (by omega) p.e2 p.n5 ai (BQ o ai) n (.inl f);rw[ahw] at jh iF;exact⟨⟨t_,_,jh⟩,iF⟩
theorem j2.back {op:fv}{x:Nat}{S:c7}(f:j2 G (de G w op x S).1):j2 G S:=λz bn=>ahx op x S z (f z bn)
theorem UO (bc:G.f=1)(op:fv)(u x:Nat)(i:Nat):∀h v p S,(kl G w u op x h v p S).1.R 0 i=S.R 0 i
 | 0,v,p,S=>by
  show lV (G.base 0) S.R (lI (G.ew 0) op (cT x 0) (gd v p (G.leaf w 0 (G.bQ u 0+1),G.bQ u 0+1)).1 (G.leaf w 0 (G.bQ u 0)) (G.bV 0 S.R)) 0 i=S.R 0 i;exact BR (.inl (by unfold cq.base;omega))
 | h+1,v,p,S=>by
  let fz:c7:={ S with gone:=S.gone++[gd v p (G.leaf w (h+1) (G.bQ u (h+1)+1),G.bQ u (h+1)+1)] };let cy:fv:= .part (2*(x/4 ^ h%4)) (UInt64.ofNat (G.leaf w h (G.bQ u h)+1)) (UInt64.ofNat (G.bQ u h));let fF:=G.acc (h+1) cy (cT x (h+1)) (gd v p (G.leaf w (h+1) (G.bQ u (h+1)+1),G.bQ u (h+1)+1)).1 (G.leaf w (h+1) (G.bQ u (h+1))) fz;let ol:=(G.old (h+1) (cT x (h+1)) (gd v p (G.leaf w (h+1) (G.bQ u (h+1)+1),G.bQ u (h+1)+1)).1 fz).1;have ad:=UO bc op u x i h (ih ol (2*(x/4 ^ h%4))) (ih ol (2*(x/4 ^ h%4)+1)) fF;show(kl G w u op x h (ih ol (2*(x/4 ^ h%4))) (ih ol (2*(x/4 ^ h%4)+1)) fF).1.R 0 i=_;rw[ad];show lV (G.base (h+1)) S.R (lI (G.ew (h+1)) cy (cT x (h+1)) (gd v p (G.leaf w (h+1) (G.bQ u (h+1)+1),G.bQ u (h+1)+1)).1 (G.leaf w (h+1) (G.bQ u (h+1))) (G.bV (h+1) S.R)) 0 i=S.R 0 i;exact BR (.inl (by unfold cq.base;omega))
theorem ahy (bc:G.f=1)(op:fv)(x:Nat)(S:c7)(i:Nat):(de G w op x S).1.R 0 i=S.R 0 i:=by
 have h:=UO (G:=G) (w:=w) bc op S.used x i (G.L-1) (S.R G.f (x/4 ^ (G.L-1)))[0] (S.R G.f (x/4 ^ (G.L-1)))[1] (G.begin w (x/4 ^ (G.L-1)) S);refine Eq.trans h ?_;show fM S.R (G.f,_) _ 0 i=S.R 0 i;exact Ni _ (λe=>by have:(0:Nat)=G.f:=e.1;omega)
theorem Nj (bc:G.f=1){i:Nat}{c:cM}{S:c7}(h:Nat):G.bV h (ig S (0,i) c).R=G.bV h S.R:=by
 funext r j;exact Ni _ λe=>by have:G.base h+r=0:=e.1;unfold cq.base at this;omega
theorem UP (bc:G.f=1){i:Nat}{c:cM}{S:c7}:(ig S (0,i) c).R G.f=S.R G.f:=by
 funext j;exact Ni _ λe=>by have:G.f=0:=e.1;omega
theorem ahz {R dG:dY}(aa:∀h,G.bV h dG=G.bV h R)(ad:dG G.f=R G.f):mP G dG=mP G R:=by
 funext l bG v p;cases l<;>simp only[mP,aa,ad]
theorem ahA {R dG:dY}{gB:ua}(ad:dG G.f=R G.f):told G dG gB=told G R gB:=by
 funext h id;simp only[told,ad]
theorem iE.ig (bc:G.f=1){a i:Nat}{c:cM}{S:c7}(p:iE G w a S):iE G w a (Go.cR.ig S (0,i) c):=by
 have aH:=ahz (Nj bc (i:=i) (c:=c) (S:=S)) (UP bc);refine⟨⟨λh b2=>by rw[Nj bc];exact p.e2.mQ h b2,?_,?_,p.e2.gone⟩,p.us,p.n5⟩
 .rw[aH];exact p.e2.pc
 .rw[aH];exact p.e2.uniq
theorem Live.ig (bc:G.f=1){i:Nat}{c:cM}{S:c7}{A:aE->Option c_}(l:Live G S A):Live G (Go.cR.ig S (0,i) c) A:=by
 obtain⟨gB,K,n⟩:=l;refine⟨gB,K,λh b2=>by rw[Nj bc];exact n.li h b2,?_,n.sN,n.BS,n.mt⟩;rw[ahA (UP bc)];exact n.q9
def hW (A:aE->Option c_)(n:Nat):Option gN:=(A (UInt64.ofNat n)).bind ix
theorem Nk (A:aE->Option c_)(n:Nat):ix (pb A (UInt64.ofNat n)).1=hW A n:=by
 unfold pb hW;cases A (UInt64.ofNat n) with
 | none=>rfl
 | some d=>rfl
theorem EM (A:aE->Option c_)(x:aE):zx A .look x=A:=by
 funext id;by_cases e:id=x
 .subst e;rw[Nl];show fv.look.now _ _=_;unfold pb;cases A id<;>rfl
 .exact Nm e
theorem ofNat_inj {x y:Nat}(ai:x<100000)(aC:y<100000)(e:UInt64.ofNat x=UInt64.ofNat y):x=y:=by
 have:=congrArg UInt64.toNat e;rw[aDw,aDw] at this;omega
theorem UQ {A:aE->Option c_}{d:c_}{b n:Nat}(ar:b<100000)(aK:n<100000):hW (zx A (.put d) (UInt64.ofNat b)) n=if n=b then ix d else hW A n:=by
 by_cases e:n=b
 .subst e;rw[aDr rfl];unfold hW;rw[Nl];rfl
 .rw[aDq e];unfold hW;rw[Nm λh=>e (ofNat_inj aK ar h)]
theorem ahB {A:aE->Option c_}{b n:Nat}(ar:b<100000)(aK:n<100000):hW (zx A .drop (UInt64.ofNat b)) n=if n=b then none else hW A n:=by
 by_cases e:n=b
 .subst e;rw[aDr rfl];unfold hW;rw[Nl];rfl
 .rw[aDq e];unfold hW;rw[Nm λh=>e (ofNat_inj aK ar h)]
def hM (X:eE)(F:Nat->Option gN)(f:Nat->cM)(co:Option gN):Nat->Option gN:=λn=>if n<2*X.T then F n else if n<2*X.T+X.sp then zw (f (n-2*X.T)) else if n=2*X.T+X.sp then co else none
structure lJ (X:eE)(H:Nat->Option gN)(M:aE->Option aE):Prop where
 ok:∀n,n<2*X.T->∀e,H n=some e->n=X.bp (n/X.T) e.1
 inj:∀n jh e cc,H n=some e->H jh=some cc->e.1=cc.1->n=jh
 mod:∀k c,M k=some c↔∃n,H n=some (k,c)
theorem lJ.swap {H sO:Nat->Option gN}{M:aE->Option aE}(r:lJ X H M){x y:Nat}(aV:∀n,sO n=if n=x then H y else if n=y then H x else H n)
 (Nn:x<2*X.T->∀e,H y=some e->x=X.bp (x/X.T) e.1) (ahC:y<2*X.T->∀e,H x=some e->y=X.bp (y/X.T) e.1):lJ X sO M:=by
 let σ:Nat->Nat:=λn=>if n=x then y else if n=y then x else n
 have BT:∀n,sO n=H (σ n):=λn=>by
  rw[aV];simp only[σ];split
  .rfl
  .split<;>rfl
 have inv:∀n,σ (σ n)=n:=λn=>by
  simp only[σ];by_cases aa:n=x
  .subst aa;rw[aDr rfl];by_cases ad:y=n
   .rw[aDr ad,ad]
   .rw[aDq ad,aDr rfl]
  .rw[aDq aa];by_cases ad:n=y
   .subst ad;rw[aDr rfl,aDr rfl]
   .rw[aDq ad,aDq aa,aDq ad]
 refine⟨λn aK e he=>?_,λn jh e cc aa ad an=>?_,λk c=>?_⟩
 .rw[aV] at he;split at he
  .rename_i h;subst h;exact Nn aK e he
  .split at he
   .rename_i h;subst h;exact ahC aK e he
   .exact r.ok n aK e he
 .rw[BT] at aa ad;have:=r.inj _ _ e cc aa ad an;rw[<-inv n,this,inv]
 .rw[r.mod];constructor
  .rintro⟨n,aK⟩;exact⟨σ n,by rw[BT,inv];exact aK⟩
  .rintro⟨n,aK⟩;exact⟨σ n,by rw[<-BT];exact aK⟩
theorem lJ.congr {H sO:Nat->Option gN}{M:aE->Option aE}(r:lJ X H M)(h:∀n,sO n=H n):lJ X sO M:=by
 have:sO=H:=funext h;rw[this];exact r
theorem lJ.take {F:Nat->Option gN}{f:Nat->cM}{M:aE->Option aE}(r:lJ X (hM X F f none) M){k c:aE}(ah:M k=none):lJ X (hM X F f (some (k,c))) (λx=>if x=k then some c else M x):=by
 have h0:∀n,n≠2*X.T+X.sp->hM X F f (some (k,c)) n=hM X F f none n:=λn aK=>by
  unfold hM;split
  .rfl
  .split
   .rfl
   .simp only[aK,aEc]
 have jE:hM X F f (some (k,c)) (2*X.T+X.sp)=some (k,c):=by
  unfold hM;rw[cS,cS,aDr rfl]
 have ahD:hM X F f none (2*X.T+X.sp)=none:=by
  unfold hM;rw[cS,cS,aDr rfl]
 have fresh:∀n e,hM X F f none n=some e->e.1≠k:=λn e he gM=>by
  have:=(r.mod e.1 e.2).2 ⟨n,he⟩;rw[gM,ah] at this;cases this
 refine⟨λn aK e he=>?_,λn jh e cc aa ad an=>?_,λx y=>?_⟩
 .rw[h0 n (by omega)] at he;exact r.ok n aK e he
 .by_cases aS:n=2*X.T+X.sp
  .subst aS;rw[jE] at aa;cases aa;by_cases aY:jh=2*X.T+X.sp
   .exact aY.symm
   .rw[h0 jh aY] at ad;exact absurd an.symm (fresh jh cc ad)
  .rw[h0 n aS] at aa;by_cases aY:jh=2*X.T+X.sp
   .subst aY;rw[jE] at ad;cases ad;exact absurd an (fresh n e aa)
   .rw[h0 jh aY] at ad;exact r.inj n jh e cc aa ad an
 .show(if x=k then some c else M x)=some y↔_
  by_cases e:x=k
  .subst e;rw[aDr rfl];constructor
   .intro h;cases h;exact⟨_,jE⟩
   .rintro⟨n,aK⟩;by_cases aS:n=2*X.T+X.sp
    .subst aS;rw[jE] at aK;cases aK;rfl
    .rw[h0 n aS] at aK;exact absurd rfl (fresh n (x,y) aK)
  .rw[aDq e,r.mod];constructor
   .rintro⟨n,aK⟩;refine⟨n,?_⟩;by_cases aS:n=2*X.T+X.sp
    .subst aS;rw[ahD] at aK;cases aK
    .rw[h0 n aS];exact aK
   .rintro⟨n,aK⟩;by_cases aS:n=2*X.T+X.sp
    .subst aS;rw[jE] at aK;cases aK;exact absurd rfl e
    .rw[h0 n aS] at aK;exact⟨n,aK⟩
theorem lJ.gone {H sO:Nat->Option gN}{M:aE->Option aE}(r:lJ X H M){x:Nat}{k c:aE}(ai:H x=some (k,c))(aV:∀n,sO n=if n=x then none else H n):lJ X sO (λy=>if y=k then none else M y):=by
 have sub:∀n e,sO n=some e->n≠x/\H n=some e:=λn e he=>by
  rw[aV] at he;split at he
  .cases he
  .rename_i h;exact⟨h,he⟩
 refine⟨λn aK e he=>r.ok n aK e (sub n e he).2,λn jh e cc aa ad an=>r.inj n jh e cc (sub n e aa).2 (sub jh cc ad).2 an,λy z=>?_⟩;show(if y=k then none else M y)=some z↔_;by_cases e:y=k
 .subst e;rw[aDr rfl];constructor
  .intro h;cases h
  .rintro⟨n,aK⟩;obtain⟨aa,ad⟩:=sub n _ aK;exact absurd (r.inj n x _ _ ad ai rfl) aa
 .rw[aDq e,r.mod];constructor
  .rintro⟨n,aK⟩;refine⟨n,?_⟩;rw[aV,aDq (λh=>e ?_)]
   .exact aK
   .rw[h,ai] at aK;cases aK;rfl
  .rintro⟨n,aK⟩;exact⟨n,(sub n _ aK).2⟩
def IP (F:Nat->Option gN)(b:Nat)(o:Option gN):Nat->Option gN:=λn=>if n=b then o else F n
def zy:List (Nat×c_)->(Nat->Option gN)->Nat->Option gN
 | [],F=>F
 | (b,d)::l,F=>zy l (IP F b (ix d))
theorem No {T:Nat}:∀(l:List (Nat×c_)) {F dZ:Nat->Option gN},(∀n,n<T->F n=dZ n)->∀n,n<T->zy l F n=zy l dZ n
 | [],_,_,h=>h
 | (b,d)::l,F,dZ,h=>No l λn aK=>by unfold IP;rw[h n aK]
theorem r9 (bc:G.f=1)(op:fv)(x:Nat)(S:c7):(de G w op x S).1.R 0=S.R 0:=funext λi=>ahy bc op x S i
theorem iE.blank (o:G.dt){a:Nat}{S:c7}(p:iE G w a S)(bY:a<=100000):iE G w (a+1) (k5 G w S):=p.acc o bY (aD8 (by decide))
theorem zz:∀n S,j2 G (k6 G w n S)->j2 G S
 | 0,_,h=>h
 | n+1,S,h=>(zz n _ h).back
theorem IQ (o:G.dt)(bc:G.f=1):∀n a S,iE G w a S->a+n<=100000->iE G w (a+n) (k6 G w n S)/\(k6 G w n S).R 0=S.R 0/\∀A,Live G S A->j2 G (k6 G w n S)->Live G (k6 G w n S) A
 | 0,a,S,p,_=>⟨p,rfl,λ_ l _=>l⟩
 | n+1,a,S,p,h=>by
  obtain⟨aa,ad,an⟩:=IQ o bc n (a+1) (k5 G w S) (p.blank o (by omega)) (by omega);refine⟨by rw[show a+(n+1)=a+1+n by omega];exact aa,ad.trans (r9 bc _ _ _),λA l f=>an A ?_ f⟩;have:=(l.acc o p (by omega) (aD8 (by decide)) (zz n _ f)).1
  rwa [EM] at this
theorem zA:∀n i S e on eX,j2 G (fo G w X n i S e on eX).1->j2 G S
 | 0,_,_,_,_,_,h=>h
 | n+1,i,S,e,on,eX,h=>by
  cases on with
  | true=>exact(zA n _ _ _ _ _ h).back
  | false=>exact(zA n _ _ _ _ _ h).back
theorem BU (o:G.dt)(fE:X.dt)(hm:2 ^ G.m=2*X.T)(bc:G.f=1):∀n i a S e on eX,iE G w a S->a+n<=100000->iE G w (a+n) (fo G w X n i S e on eX).1/\(fo G w X n i S e on eX).1.R 0=S.R 0
 | 0,_,_,_,_,_,_,p,_=>⟨p,rfl⟩
 | n+1,i,a,S,e,on,eX,p,h=>by
  rw[show a+(n+1)=a+1+n by omega];cases on with
  | true =>
   obtain⟨aa,ad⟩:=BU o fE hm bc n (i+1) (a+1) _ (nB (de G w (.put (gb e)) (X.bp (i%2) e.1) S).2.1) ((de G w (.put (gb e)) (X.bp (i%2) e.1) S).2.1[0]==1) (eX++[(X.bp (i%2) e.1,(de G w (.put (gb e)) (X.bp (i%2) e.1) S).2.1)]) (p.acc o (by omega) (op:= .put (gb e)) (x:=X.bp (i%2) e.1) (by rw[hm];exact eE.ml fE (aEk _ (by decide)) _)) (by omega);exact⟨aa,ad.trans (r9 bc _ _ _)⟩
  | false =>
   obtain⟨aa,ad⟩:=BU o fE hm bc n (i+1) (a+1) _ e false eX (p.blank o (by omega)) (by omega);exact⟨aa,ad.trans (r9 bc _ _ _)⟩
theorem ahE {F dZ:Nat->Option gN}{f:Nat->cM}{co:Option gN}{b:Nat}(ar:b<2*X.T)(hh:∀n,n<2*X.T->dZ n=if n=b then co else F n)(n:Nat) :
 hM X dZ f (F b) n=if n=b then hM X F f co (2*X.T+X.sp) else if n=2*X.T+X.sp then hM X F f co b else hM X F f co n:=by
 have jE:hM X F f co (2*X.T+X.sp)=co:=by unfold hM;rw[cS,cS,aDr rfl]
 have dC:hM X F f co b=F b:=by unfold hM;rw[aDr ar]
 rw[jE,dC];by_cases aa:n=b
 .rw[aDr aa];subst aa;unfold hM;rw[aDr ar,hh n ar,aDr rfl]
 .rw[aDq aa];by_cases an:n=2*X.T+X.sp
  .rw[aDr an];unfold hM;rw[cS,cS,aDr an]
  .rw[aDq an];unfold hM;by_cases aJ:n<2*X.T
   .rw[aDr aJ,aDr aJ,hh n aJ,aDq aa]
   .rw[aDq aJ,aDq aJ];by_cases aR:n<2*X.T+X.sp
    .rw[aDr aR,aDr aR]
    .rw[aDq aR,aDq aR,aDq an,aDq an]
theorem BV (o:G.dt)(fE:X.dt)(hm:2 ^ G.m=2*X.T)(gf:X.T<=1000)(bc:G.f=1){F0:Nat->Option gN}{M:aE->Option aE}{f:Nat->cM}:∀n i a S e on eX A,iE G w a S->a+n<=100000->Live G S A->j2 G (fo G w X n i S e on eX).1 ->
 lJ X (hM X (hW A) f (if on then some e else none)) M->(∀x∈eX,x.1<2*X.T)->(∀n,n<2*X.T->zy eX.reverse (hW A) n=F0 n) ->
 ∃g_,Live G (fo G w X n i S e on eX).1 g_/\lJ X (hM X (hW g_) f (if (fo G w X n i S e on eX).2.2.1 then some (fo G w X n i S e on eX).2.1 else none)) M /\
  (∀x∈(fo G w X n i S e on eX).2.2.2,x.1<2*X.T)/\(∀z,z<2*X.T->zy (fo G w X n i S e on eX).2.2.2.reverse (hW g_) z=F0 z)/\(on=false->(fo G w X n i S e on eX).2.2.1=false/\∀z,hW g_ z=hW A z)
 | 0,_,_,_,_,_,_,A,_,_,l,_,r,a1,hu=>⟨A,l,r,a1,hu,λh=>⟨h,λ_=>rfl⟩⟩
 | n+1,i,a,S,e,on,eX,A,p,h,l,fin,r,a1,hu=>by
  cases on with
  | true =>
   have ar:X.bp (i%2) e.1<2*X.T:=eE.ml fE (aEk _ (by decide)) _;have hdiv:=eE.ahu fE (i%2) e.1;have sP:=zA n (i+1) _ _ _ _ fin;have iz:=p.acc o (by omega) (op:= .put (gb e)) (x:=X.bp (i%2) e.1) (by rw[hm];exact ar);obtain⟨gg,ep⟩:=l.acc o p (by omega) (op:= .put (gb e)) (x:=X.bp (i%2) e.1) (by rw[hm];exact ar) sP;have hold:ix (de G w (.put (gb e)) (X.bp (i%2) e.1) S).2.1=hW A (X.bp (i%2) e.1):=by rw[ep];exact Nk A _
   have hh:∀z,z<2*X.T->hW (zx A (.put (gb e)) (UInt64.ofNat (X.bp (i%2) e.1))) z=if z=X.bp (i%2) e.1 then some e else hW A z:=λz bn=>by
    rw[UQ (by omega) (by omega),Nf]
   have ahF:(if ((de G w (.put (gb e)) (X.bp (i%2) e.1) S).2.1[0]==1)=true then some (nB (de G w (.put (gb e)) (X.bp (i%2) e.1) S).2.1) else none)=hW A (X.bp (i%2) e.1):=by
    rw[<-hold];unfold ix;simp only[aFi]
   have jE:hM X (hW A) f (some e) (2*X.T+X.sp)=some e:=by unfold hM;rw[cS,cS,aDr rfl]
   refine(fun⟨g_,aa,ad,an,aJ,_⟩=>⟨g_,aa,ad,an,aJ,λh=>by cases h⟩) (BV o fE hm gf bc n (i+1) (a+1) _ _ _ (eX++[(X.bp (i%2) e.1,(de G w (.put (gb e)) (X.bp (i%2) e.1) S).2.1)]) _ iz (by omega) gg fin ?_ ?_ ?_)
   .rw[ahF];refine lJ.swap (x:=X.bp (i%2) e.1) (y:=2*X.T+X.sp) r (ahE ar hh) (λ_ cc nD=>?_) (λcl=>by omega);rw[aDr rfl,jE] at nD;cases nD;rw[hdiv]
   .intro x ai
    rcases aDO.1 ai with ai|ai
    .exact a1 x ai
    .rw[aEw] at ai;rw[ai];exact ar
   .intro z bn
    rw[List.reverse_append];show zy eX.reverse (IP _ _ _) z=_;rw[<-hu z bn];refine No _ (λy aC=>?_) z bn;unfold IP;by_cases c:y=X.bp (i%2) e.1
    .rw[aDr c,hold,c]
    .rw[aDq c,hh y aC,aDq c]
  | false =>
   have sP:=zA n (i+1) _ _ _ _ fin;have gg:=(l.acc o p (by omega) (aD8 (by decide)) sP).1;rw[EM] at gg;exact BV o fE hm gf bc n (i+1) (a+1) _ e false eX A (p.blank o (by omega)) (by omega) gg fin r a1 hu
theorem IS:∀l S,j2 G (m_ G w l S)->j2 G S
 | [],_,h=>h
 | (_,_)::l,_,h=>(IS l _ h).back
theorem UR (o:G.dt)(bc:G.f=1){T:Nat}(hm:2 ^ G.m=T)(gf:T<=10000):∀(l:List (Nat×c_)) a S,iE G w a S->a+l.length<=100000->(∀x∈l,x.1<T) ->
 iE G w (a+l.length) (m_ G w l S)/\(m_ G w l S).R 0=S.R 0/\∀A,Live G S A->j2 G (m_ G w l S)->∃g_,Live G (m_ G w l S) g_/\∀z,z<T->hW g_ z=zy l (hW A) z
 | [],a,S,p,_,_=>⟨p,rfl,λA l _=>⟨A,l,λ_ _=>rfl⟩⟩
 | (b,d)::l,a,S,p,h,a1=>by
  have aT:((b,d)::l).length=l.length+1:=rfl;have ar:b<T:=a1 (b,d) (by simp);obtain⟨aa,ad,an⟩:=UR o bc hm gf l (a+1) _ (p.acc o (by omega) (op:= .put d) (x:=b) (by rw[hm];exact ar)) (by omega) λx ai=>a1 x (by simp[ai]);refine⟨by rw[aT,show a+(l.length+1)=a+1+l.length by omega];exact aa,ad.trans (r9 bc _ _ _),λA bV fin=>?_⟩;obtain⟨gg,_⟩:=bV.acc o p (by omega) (op:= .put d) (x:=b) (by rw[hm];exact ar) (IS l _ fin);obtain⟨g_,g1,g2⟩:=an _ gg fin;refine⟨g_,g1,λz bn=>?_⟩;rw[g2 z bn];refine No l (λy aC=>?_) z bn;rw[UQ (by omega) (by omega)];rfl
end
end Go.cR
namespace Go.cR
open Go.Proofs.Tryz
variable {G:cq} {w:Nat->aE} {X:eE}
def BW (X:eE)(f:Nat->cM):Prop:=∀i,i<X.sp->f i=fm∨∃e:gN,f i=nC e
theorem ahG {a b:aE}(h:a+1=b+1):a=b:=by
 have aa:a+1-1=b+1-1:=by rw[h]
 have g:∀x:aE,x+1-1=x:=λx=>by
  apply aDE.1;rw[aE5,aEt];have:=x.toNat_lt;simp;omega
 rwa [g,g] at aa
theorem US {key c:aE}{o:Option gN}(h:kR key o=some c):o=some (key,c):=by
 cases o with
 | none=>cases h
 | some e =>
  simp only[kR] at h;split at h
  .rename_i he;cases h;rw[<-he]
  .cases h
theorem UT {key c:aE}{o:Option gN}(h:kR key o=none):o≠some (key,c):=λe=>by
 rw[e] at h;simp[kR] at h
theorem BX {F:Nat->Option gN}{f:Nat->cM}{co:Option gN}{n:Nat}(h:n<2*X.T):hM X F f co n=F n:=aDr h
theorem EN {F:Nat->Option gN}{f:Nat->cM}{co:Option gN}{i:Nat}(h:i<X.sp):hM X F f co (2*X.T+i)=zw (f i):=by
 unfold hM;rw[cS,eY,aE1]
theorem UU {F:Nat->Option gN}{f:Nat->cM}{co:Option gN}:hM X F f co (2*X.T+X.sp)=co:=by
 unfold hM;rw[cS,cS,aDr rfl]
theorem Np {F:Nat->Option gN}{f:Nat->cM}{e:gN}{n:Nat}(h:hM X F f none n=some e):(n<2*X.T/\F n=some e)∨∃i,i<X.sp/\n=2*X.T+i/\zw (f i)=some e:=by
 unfold hM at h;split at h
 .rename_i c;exact .inl ⟨c,h⟩
 .split at h
  .exact .inr ⟨n-2*X.T,by omega,by omega,h⟩
  .split at h<;>cases h
def ahH (X:eE)(F:Nat->Option gN)(f:Nat->cM)(key c:aE)(t:Int)(at_:aE):Prop :=
 ((t=0∨t=1)/\F (X.bp t.toNat key)=some (key,c))∨(t=2/\∃i,i<X.sp/\at_=UInt64.ofNat i/\zw (f i)=some (key,c))
theorem UW (fE:X.dt){F:Nat->Option gN}{f:Nat->cM}{M:aE->Option aE}(r:lJ X (hM X F f none) M)(ws:BW X f){key:aE}(ah:key+1≠0) :
 (∃c t at_,M key=some c/\X.spot key (F (X.bp 0 key)) (F (X.bp 1 key)) f=(t,at_,c)/\ahH X F f key c t at_)∨(M key=none/\X.spot key (F (X.bp 0 key)) (F (X.bp 1 key)) f=(-1,0,0)):=by
 have gA:=eE.ml fE (t:=0) (by decide) key;have ae:=eE.ml fE (t:=1) (by decide) key;unfold eE.spot;cases h0:kR key (F (X.bp 0 key)) with
 | some c =>
  have e:=US h0;exact .inl ⟨c,_,_,(r.mod key c).2 ⟨_,by rw[BX gA,e]⟩,rfl,.inl ⟨.inl rfl,e⟩⟩
 | none =>
  cases aa:kR key (F (X.bp 1 key)) with
  | some c =>
   have e:=US aa;exact .inl ⟨c,_,_,(r.mod key c).2 ⟨_,by rw[BX ae,e]⟩,rfl,.inl ⟨.inr rfl,e⟩⟩
  | none =>
   cases ad:gO (λi=>(f i)[1]==key+1) X.sp with
   | some i =>
    obtain⟨hi,he⟩:=BP ad;have he:(f i)[1]=key+1:=by simpa using he
    rcases ws i hi with bn|⟨e,bn⟩
    .rw[bn] at he;exact absurd he.symm ah
    .rw[bn] at he;have ahI:e.1=key:=ahG he;have IT:zw (f i)=some (key,(f i)[2]):=by rw[bn,Ng,<-ahI];rfl
     exact .inl ⟨_,_,_,(r.mod key _).2 ⟨2*X.T+i,by rw[EN hi,IT]⟩,rfl,.inr ⟨rfl,i,hi,rfl,IT⟩⟩
   | none =>
    refine .inr ⟨?_,rfl⟩;cases ub:M key with
    | none=>rfl
    | some c =>
     obtain⟨n,aK⟩:=(r.mod key c).1 ub;rcases Np aK with ⟨aT,hh⟩|⟨i,hi,_,a1⟩
     .have nb:=r.ok n aT (key,c) aK;have b4:n/X.T<2:=Nat.div_lt_of_lt_mul (by rw[aDW];exact aT);have:n/X.T=0∨n/X.T=1:=by revert b4;generalize n/X.T=q;omega
      rcases this with h|h
      .rw[h] at nb;rw[nb] at hh;exact absurd hh (UT h0)
      .rw[h] at nb;rw[nb] at hh;exact absurd hh (UT aa)
     .have:=Nh ad i hi;rcases ws i hi with bn|⟨e,bn⟩
      .rw[bn] at a1;cases a1
      .rw[bn,Ng] at a1;cases a1;rw[bn] at this;simp[nC] at this
theorem Nq {key:aE}{S:c7}(f:j2 G (hg G w X key S).1):j2 G S:=f.back.back
theorem UX (o:G.dt)(fE:X.dt)(hm:2 ^ G.m=2*X.T)(bc:G.f=1){a:Nat}{S:c7}(p:iE G w a S)(bY:a+2<=100000)(key:aE):iE G w (a+2) (hg G w X key S).1/\(hg G w X key S).1.R 0=S.R 0 :=
 ⟨(p.acc o (by omega) (op:= .look) (by rw[hm];exact eE.ml fE (by decide) _)).acc o (by omega) (op:= .look) (by rw[hm];exact eE.ml fE (by decide) _),(r9 bc _ _ _).trans (r9 bc _ _ _)⟩
theorem Nr (o:G.dt)(fE:X.dt)(hm:2 ^ G.m=2*X.T){a:Nat}{S:c7}{A:aE->Option c_}(p:iE G w a S)(bY:a+2<=100000)(l:Live G S A){key:aE}(fin:j2 G (hg G w X key S).1) :
 Live G (hg G w X key S).1 A/\(hg G w X key S).2=X.spot key (hW A (X.bp 0 key)) (hW A (X.bp 1 key)) (S.R 0):=by
 have gA:=eE.ml fE (t:=0) (by decide) key;have ae:=eE.ml fE (t:=1) (by decide) key;have ho:=p.acc o (by omega) (op:= .look) (x:=X.bp 0 key) (by rw[hm];exact gA);obtain⟨hz,cy⟩:=l.acc o p (by omega) (op:= .look) (x:=X.bp 0 key) (by rw[hm];exact gA) fin.back;rw[EM] at hz;obtain⟨gg,cg⟩:=hz.acc o ho (by omega) (op:= .look) (x:=X.bp 1 key) (by rw[hm];exact ae) fin;rw[EM] at gg;refine⟨gg,?_⟩;show X.spot key (ix (de G w .look (X.bp 0 key) S).2.1) (ix (de G w .look (X.bp 1 key) (de G w .look (X.bp 0 key) S).1).2.1) (S.R 0)=_;rw[cy,cg,Nk,Nk]
theorem Ns:∀n i S e eX,(fo G w X n i S e false eX).2.2.1=false
 | 0,_,_,_,_=>rfl
 | n+1,i,S,e,eX=>Ns n (i+1) _ e eX
theorem EO:∀n i S e on eX,(fo G w X n i S e on eX).2.2.1=true->(fo G w X n i S e on eX).2.2.2.length=eX.length+n
 | 0,_,_,_,_,_,_=>rfl
 | n+1,i,S,e,on,eX,h=>by
  cases on with
  | true =>
   refine(EO n (i+1) _ _ _ _ h).trans ?_;rw[aDs,aDS];omega
  | false =>
   have:=Ns (G:=G) (w:=w) (X:=X) (n+1) i S e eX;rw[this] at h;cases h
theorem UY {S:c7}{i j:Nat}{c:cM}:(ig S (0,i) c).R 0 j=if j=i then c else S.R 0 j:=by
 show(if (0:Nat)=0/\j=i then c else S.R 0 j)=_;by_cases h:j=i
 .rw[aDr ⟨rfl,h⟩,aDr h]
 .rw[aDq (λe=>h e.2),aDq h]
theorem EP (fE:X.dt):∀n i S e on eX,(∀x∈eX,x.1<2*X.T)->∀x∈(fo G w X n i S e on eX).2.2.2,x.1<2*X.T
 | 0,_,_,_,_,_,h=>h
 | n+1,i,S,e,on,eX,h=>by
  cases on with
  | true =>
   refine EP fE n (i+1) _ _ _ _ λx ai=>?_;rcases aDO.1 ai with ai|ai
   .exact h x ai
   .rw[aEw] at ai;rw[ai];exact eE.ml fE (aEk _ (by decide)) _
  | false=>exact EP fE n (i+1) _ e false eX h
theorem UZ (o:G.dt)(fE:X.dt)(hm:2 ^ G.m=2*X.T)(gf:X.T<=1000)(bc:G.f=1){a:Nat}{S:c7}{A:aE->Option c_}{M:aE->Option aE}(p:iE G w a S)(bY:a+2*X.K<=100000)(l:Live G S A){key cell:aE}{on:Bool}
 (fin:j2 G (iy G w X key cell on S).1) (r:lJ X (hM X (hW A) (S.R 0) none) M) (ws:BW X (S.R 0)) (ah:on=true->M key=none) :
 ∃g_,Live G (iy G w X key cell on S).1 g_/\BW X ((iy G w X key cell on S).1.R 0) /\
  (((iy G w X key cell on S).2=true/\lJ X (hM X (hW g_) ((iy G w X key cell on S).1.R 0) none) (if on then λx=>if x=key then some cell else M x else M)) ∨
    ((iy G w X key cell on S).2=false/\on=true/\gO (λi=>(S.R 0 i)[0]==0) X.sp=none/\lJ X (hM X (hW g_) ((iy G w X key cell on S).1.R 0) none) M)) /\
  (on=false->(iy G w X key cell on S).2=true/\(iy G w X key cell on S).1.R 0=S.R 0/\∀z,hW g_ z=hW A z):=by
 obtain⟨aD,aB⟩:=BU o fE hm bc X.K 0 a S (key,cell) on [] p (by omega);cases on with
 | false =>
  have q_:=Ns (G:=G) (w:=w) (X:=X) X.K 0 S (key,cell) [];have hi:iy G w X key cell false S=(k6 G w X.K (fo G w X X.K 0 S (key,cell) false []).1,true):=by
   unfold iy;simp only;rw[q_];rfl
  rw[hi] at fin ⊢;obtain⟨ae,ax,aM⟩:=IQ o bc X.K _ _ aD (by omega);obtain⟨g_,aa,ad,_,_,aR⟩:=BV o fE hm gf bc (F0:=hW A) (M:=M) (f:=S.R 0) X.K 0 a S (key,cell) false [] A p (by omega) l (zz _ _ fin) r (by simp) (λ_ _=>rfl);rw[q_] at ad;have dM:(k6 G w X.K (fo G w X X.K 0 S (key,cell) false []).1).R 0=S.R 0:=ax.trans aB;refine⟨g_,aM g_ aa fin,by rw[dM];exact ws,.inl ⟨rfl,?_⟩,λ_=>⟨rfl,dM,(aR rfl).2⟩⟩;rw[dM];exact ad
 | true =>
  have eD:=r.take (k:=key) (c:=cell) (ah rfl);cases jR:(fo G w X X.K 0 S (key,cell) true []).2.2.1 with
  | false =>
   have hi:iy G w X key cell true S=(k6 G w X.K (fo G w X X.K 0 S (key,cell) true []).1,true):=by
    unfold iy;simp only;rw[jR];rfl
   rw[hi] at fin ⊢;obtain⟨ae,ax,aM⟩:=IQ o bc X.K _ _ aD (by omega);obtain⟨g_,aa,ad,_,_,_⟩:=BV o fE hm gf bc (F0:=hW A) (f:=S.R 0) X.K 0 a S (key,cell) true [] A p (by omega) l (zz _ _ fin) eD (by simp) (λ_ _=>rfl);rw[jR] at ad;have dM:(k6 G w X.K (fo G w X X.K 0 S (key,cell) true []).1).R 0=S.R 0:=ax.trans aB;refine⟨g_,aM g_ aa fin,by rw[dM];exact ws,.inl ⟨rfl,?_⟩,λh=>by cases h⟩;rw[dM];exact ad
  | true =>
   cases aV:gO (λi=>(S.R 0 i)[0]==0) X.sp with
   | some i =>
    have hi:iy G w X key cell true S=(k6 G w X.K (ig (fo G w X X.K 0 S (key,cell) true []).1 (0,i) (nC (fo G w X X.K 0 S (key,cell) true []).2.1)),true):=by
     unfold iy;simp only;rw[jR,aDr rfl,aV]
    rw[hi] at fin ⊢;obtain⟨ae,ax,aM⟩:=IQ o bc X.K _ _ (aD.ig bc (i:=i) (c:=nC (fo G w X X.K 0 S (key,cell) true []).2.1)) (by omega);obtain⟨g_,aa,ad,_,_,_⟩:=BV o fE hm gf bc (F0:=hW A) (f:=S.R 0) X.K 0 a S (key,cell) true [] A p (by omega) l (zz X.K (ig (fo G w X X.K 0 S (key,cell) true []).1 (0,i) (nC (fo G w X X.K 0 S (key,cell) true []).2.1)) fin) eD (by simp) (λ_ _=>rfl);rw[jR,aDr rfl] at ad;generalize (fo G w X X.K 0 S (key,cell) true []).2.1=cc at *;have dM:∀j,(k6 G w X.K (ig (fo G w X X.K 0 S (key,cell) true []).1 (0,i) (nC cc))).R 0 j=if j=i then nC cc else S.R 0 j:=λj=>by rw[ax,UY,aB]
    obtain⟨Nt,BY⟩:=BP aV;have BY:(S.R 0 i)[0]=0:=by simpa using BY
    have bn:S.R 0 i=fm:=by
     rcases ws i Nt with h|⟨e,h⟩
     .exact h
     .rw[h] at BY;cases BY
    refine⟨g_,aM g_ (aa.ig bc) fin,λj aU=>?_,.inl ⟨rfl,?_⟩,λh=>by cases h⟩
    .rw[dM];by_cases c:j=i
     .rw[aDr c];exact .inr ⟨cc,rfl⟩
     .rw[aDq c];exact ws j aU
    .refine lJ.swap (x:=2*X.T+i) (y:=2*X.T+X.sp) ad (λn=>?_) (λh=>by omega) (λh=>by omega);rw[UU,EN Nt,bn,aht];by_cases aS:n=2*X.T+i
     .rw[aDr aS,aS,EN Nt,dM,aDr rfl,Ng]
     .rw[aDq aS];by_cases aY:n=2*X.T+X.sp
      .rw[aDr aY,aY,UU]
      .rw[aDq aY];unfold hM;split
       .rfl
       .split
        .rw[dM,cS]
        .simp only[aY,aEc]
   | none =>
    have hi:iy G w X key cell true S=(m_ G w (fo G w X X.K 0 S (key,cell) true []).2.2.2.reverse (fo G w X X.K 0 S (key,cell) true []).1,false):=by
     unfold iy;simp only;rw[jR,aDr rfl,aV]
    rw[hi] at fin ⊢;have aT:=EO X.K 0 S (key,cell) true [] jR;rw[aEW,aEX] at aT;obtain⟨jF,aa,ad,an,aJ,_⟩:=BV o fE hm gf bc (F0:=hW A) (f:=S.R 0) X.K 0 a S (key,cell) true [] A p (by omega) l (IS _ _ fin) eD (by simp) (λ_ _=>rfl);obtain⟨_,r_,zB⟩:=UR o bc hm (by omega) (fo G w X X.K 0 S (key,cell) true []).2.2.2.reverse _ _ aD (by rw[aE3,aT];omega) λx ai=>an x (List.mem_reverse.1 ai);obtain⟨eS,g1,g2⟩:=zB jF aa fin;have dM:=r_.trans aB;refine⟨eS,g1,by rw[dM];exact ws,.inr ⟨rfl,rfl,rfl,?_⟩,λh=>by cases h⟩;rw[dM];refine r.congr λn=>?_;unfold hM;split
    .rename_i aK;rw[g2 n aK,aJ n aK]
    .rfl
theorem ahJ {key at_:aE}{t:Int}{on:Bool}{S:c7}(f:j2 G (na G w X key t at_ on S)):j2 G S:=by
 have h:j2 G (if on&&(t==0||t==1) then (de G w .drop (X.bp t.toNat key) S).1 else k5 G w S):=by
  unfold na at f;simp only at f;split at f
  .exact f
  .exact f
 split at h
 .exact h.back
 .exact h.back
theorem ahK (o:G.dt)(fE:X.dt)(hm:2 ^ G.m=2*X.T)(gf:X.T<=1000)(iL:X.sp<=1000)(bc:G.f=1){a:Nat}{S:c7}{A:aE->Option c_}{M:aE->Option aE}(p:iE G w a S)(bY:a<=100000)(l:Live G S A){key:aE}{t:Int}{at_ c:aE}{on:Bool}
 (fin:j2 G (na G w X key t at_ on S)) (r:lJ X (hM X (hW A) (S.R 0) none) M) (ws:BW X (S.R 0)) (ah:key+1≠0) (aV:on=true->X.spot key (hW A (X.bp 0 key)) (hW A (X.bp 1 key)) (S.R 0)=(t,at_,c)) :
 ∃g_,Live G (na G w X key t at_ on S) g_/\BW X ((na G w X key t at_ on S).R 0)/\lJ X (hM X (hW g_) ((na G w X key t at_ on S).R 0) none) (if on then λy=>if y=key then none else M y else M) /\
  (on=false->(na G w X key t at_ on S).R 0=S.R 0/\∀z,hW g_ z=hW A z):=by
 have bf:j2 G (k5 G w S)->Live G (k5 G w S) A:=λf=>by
  have:=(l.acc o p bY (aD8 (by decide)) f).1
  rwa [EM] at this
 have jS:(k5 G w S).R 0=S.R 0:=r9 bc _ _ _;cases on with
 | false =>
  have e:na G w X key t at_ false S=k5 G w S:=rfl;rw[e] at fin ⊢;exact⟨A,bf fin,by rw[jS];exact ws,by rw[jS];exact r,λ_=>⟨jS,λ_=>rfl⟩⟩
 | true =>
  have aV:=aV rfl;rcases UW fE r ws ah with ⟨cr,IU,aBJ,ub,aa,hw⟩|⟨ub,aa⟩
  .rw[aV] at aa;cases aa;rcases hw with ⟨bG,hh⟩|⟨bG,i,hi,sQ,IT⟩
   .have e:na G w X key t at_ true S=(de G w .drop (X.bp t.toNat key) S).1:=by
     rcases bG with rfl|rfl<;>rfl
    rw[e] at fin ⊢;have ar:X.bp t.toNat key<2*X.T:=eE.ml fE (by omega) key;have gg:=(l.acc o p bY (op:= .drop) (by rw[hm];exact ar) fin).1;have dM:(de G w .drop (X.bp t.toNat key) S).1.R 0=S.R 0:=r9 bc _ _ _;refine⟨_,gg,by rw[dM];exact ws,?_,λh=>by cases h⟩;rw[dM];refine r.gone (x:=X.bp t.toNat key) (k:=key) (c:=c) (by rw[BX ar,hh]) λn=>?_;by_cases aa:n<2*X.T
    .rw[BX aa,BX aa,ahB (by omega) (by omega)]
    .rw[cS];unfold hM;rw[aDq aa,aDq aa]
   .subst bG;have U0:at_.toNat=i:=by rw[sQ,aDw];omega
    have e:na G w X key 2 at_ true S=ig (k5 G w S) (0,i) fm:=by
     unfold na;simp only;rw[aDr (by simp[U0,hi]),U0,aDq (by decide)]
    rw[e] at fin ⊢;have dM:∀j,(ig (k5 G w S) (0,i) fm).R 0 j=if j=i then fm else S.R 0 j:=λj=>by rw[UY,jS]
    refine⟨A,(bf fin).ig bc,λj aU=>?_,?_,λh=>by cases h⟩
    .rw[dM];by_cases c:j=i
     .rw[aDr c];exact .inl rfl
     .rw[aDq c];exact ws j aU
    .refine r.gone (x:=2*X.T+i) (k:=key) (c:=c) (by rw[EN hi,IT]) λn=>?_;by_cases aS:n=2*X.T+i
     .rw[aDr aS,aS,EN hi,dM,aDr rfl];rfl
     .rw[aDq aS];unfold hM;split
      .rfl
      .split
       .rw[dM,cS]
       .rfl
  .rw[aV] at aa;cases aa;have e:na G w X key (-1) 0 true S=k5 G w S:=rfl;rw[e] at fin ⊢;refine⟨A,bf fin,by rw[jS];exact ws,?_,λh=>by cases h⟩;rw[jS];have:(λy=>if y=key then none else M y)=M:=by
    funext y;by_cases h:y=key
    .rw[aDr h,h,ub]
    .rw[aDq h]
   show lJ X _ (λy=>if y=key then none else M y);rw[this];exact r
end Go.cR
namespace Go.cR
open Go.Proofs.Tryz
def sR (G:cq)(X:eE)(S:c7)(M:aE->Option aE):Prop:=j2 G S->∃A,Live G S A/\lJ X (hM X (hW A) (S.R 0) none) M/\BW X (S.R 0)
def aBK (G:cq)(X:eE)(S:c7)(F:Nat->Option gN)(f:Nat->cM):Prop:=j2 G S->(∃A,Live G S A/\∀z,z<2*X.T->hW A z=F z)/\S.R 0=f
structure qi (G:cq)(X:eE):Prop where
 o:G.dt
 fE:X.dt
 m:2 ^ G.m=2*X.T
 T:X.T<=1000
 sp:X.sp<=1000
 f:G.f=1
section
variable {G:cq} {w:Nat->aE} {X:eE}
theorem U1 {key cell:aE}{on:Bool}{S:c7}(f:j2 G (iy G w X key cell on S).1):j2 G S:=by
 unfold iy at f;simp only at f;split at f
 .split at f
  .exact zA _ _ _ _ _ _ (show j2 G (fo G w X X.K 0 S (key,cell) on []).1 from zz _ (ig _ _ _) f)
  .exact zA _ _ _ _ _ _ (IS _ _ f)
 .exact zA _ _ _ _ _ _ (zz _ _ f)
theorem U2 (c:qi G X){a:Nat}{S:c7}(p:iE G w a S)(bY:a+2<=100000){M:aE->Option aE}(g:sR G X S M){key:aE}(ah:key+1≠0) :
 sR G X (hg G w X key S).1 M/\(j2 G (hg G w X key S).1->(∃v t at_,M key=some v/\(hg G w X key S).2=(t,at_,v)/\0<=t)∨(M key=none/\(hg G w X key S).2=(-1,0,0))):=by
 have dM:=(UX c.o c.fE c.m c.f p bY key).2;refine⟨λfin=>?_,λfin=>?_⟩
 .obtain⟨A,l,r,ws⟩:=g (Nq fin);obtain⟨gg,_⟩:=Nr c.o c.fE c.m p bY l fin;exact⟨A,gg,by rw[dM];exact r,by rw[dM];exact ws⟩
 .obtain⟨A,l,r,ws⟩:=g (Nq fin);obtain⟨_,aV⟩:=Nr c.o c.fE c.m p bY l fin;rw[aV];rcases UW c.fE r ws ah with ⟨v,t,at_,aa,ad,an⟩|h
  .refine .inl ⟨v,t,at_,aa,ad,?_⟩;rcases an with ⟨rfl|rfl,_⟩|⟨rfl,_⟩<;>decide
  .exact .inr h
theorem ahL (c:qi G X){a:Nat}{S:c7}(p:iE G w a S)(bY:a+2*X.K<=100000){M:aE->Option aE}(g:sR G X S M){key cell:aE}{on:Bool}(ah:on=true->M key=none) :
 sR G X (iy G w X key cell on S).1 (if on&&(iy G w X key cell on S).2 then λx=>if x=key then some cell else M x else M) /\
  (j2 G (iy G w X key cell on S).1->(on=false->(iy G w X key cell on S).2=true)/\((iy G w X key cell on S).2=false->gO (λi=>(S.R 0 i)[0]==0) X.sp=none)):=by
 refine⟨λfin=>?_,λfin=>?_⟩
 .obtain⟨A,l,r,ws⟩:=g (U1 fin);obtain⟨g_,aa,ad,an,_⟩:=UZ c.o c.fE c.m c.T c.f p bY l fin r ws ah;refine⟨g_,aa,?_,ad⟩;rcases an with ⟨e,h⟩|⟨e,a_,_,h⟩
  .rw[e,Bool.and_true];exact h
  .rw[e,Bool.and_false];exact h
 .obtain⟨A,l,r,ws⟩:=g (U1 fin);obtain⟨g_,_,_,an,aJ⟩:=UZ c.o c.fE c.m c.T c.f p bY l fin r ws ah;refine⟨λh=>(aJ h).1,λh=>?_⟩;rcases an with ⟨e,_⟩|⟨_,_,e,_⟩
  .rw[e] at h;cases h
  .exact e
theorem ahM (c:qi G X){a:Nat}{S:c7}(p:iE G w a S)(bY:a+3<=100000){M:aE->Option aE}(g:sR G X S M){key:aE}(ah:key+1≠0)(on:Bool) :
 sR G X (na G w X key (hg G w X key S).2.1 (hg G w X key S).2.2.1 on (hg G w X key S).1) (if on then λy=>if y=key then none else M y else M):=by
 obtain⟨iz,dM⟩:=UX c.o c.fE c.m c.f p (by omega) key;intro fin;have f1:=ahJ fin;obtain⟨A,l,r,ws⟩:=g (Nq f1);obtain⟨gg,aV⟩:=Nr c.o c.fE c.m p (by omega) l f1;obtain⟨g_,aa,ad,an,_⟩:=ahK c.o c.fE c.m c.T c.sp c.f iz (by omega) gg (c:=(hg G w X key S).2.2.2) fin (by rw[dM];exact r) (by rw[dM];exact ws) ah (λ_=>by rw[dM,<-aV]);exact⟨g_,aa,an,ad⟩
end

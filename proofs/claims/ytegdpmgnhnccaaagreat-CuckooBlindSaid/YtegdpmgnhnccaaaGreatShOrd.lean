import Derived.Test.YtegdpmgnhnccaaaGreatShMem
namespace Go.cR
open Go Go.RowKit
section
variable {P:Program} {n:Nat} {e:Env}
theorem kx {x:Operand}{K:ag->Prop}(h:ie n e x K):∃s,K s/\∀bX,ie n e x bX↔bX s:=by
 cases x with
 | tmp t =>
  simp only[ie] at h;split at h
  .rename_i s aV
   exact⟨s,h,λbX=>by simp only[ie,aV]⟩
  .exact h.elim
 | const v=>exact⟨_,h,λ_=>aD7⟩
 | global g=>exact⟨_,h,λ_=>aD7⟩
 | func f=>exact⟨_,h,λ_=>aD7⟩
theorem zk {ty:fp}{x:Operand}{K:ag->Prop}(h:qf n ty e x K):∃s,K s/\∀bX,qf n ty e x bX↔bX s:=by
 cases x with
 | const v=>exact⟨_,h,λ_=>aD7⟩
 | tmp t=>exact kx (x:= .tmp t) h
 | global g=>exact kx (n:=n) (e:=e) (x:= .global g) h
 | func f=>exact kx (n:=n) (e:=e) (x:= .func f) h
theorem TD:∀(l:List Operand) (K:List ag->Prop),xk n e l K->∃r,K r/\∀bX,xk n e l bX↔bX r
 | [],K,h=>⟨[],h,λ_=>aD7⟩
 | x::l,K,h=>by
  obtain⟨s,aV,aa⟩:=kx h;obtain⟨r,aQ,ad⟩:=TD l _ aV;exact⟨_,aQ,λbX=>(aa _).trans (ad _)⟩
theorem EA:∀(l:List Operand) (jz:List TypeId) (K:List ag->Prop),r0 P n e l jz K->∃r,K r/\∀bX,r0 P n e l jz bX↔bX r
 | [],_,K,h=>⟨[],h,λ_=>aD7⟩
 | x::l,[],K,h=>by
  obtain⟨s,aV,aa⟩:=kx h;obtain⟨r,aQ,ad⟩:=EA l [] _ aV;exact⟨_,aQ,λbX=>(aa _).trans (ad _)⟩
 | x::l,t::jz,K,h=>by
  obtain⟨s,aV,aa⟩:=zk h;obtain⟨r,aQ,ad⟩:=EA l jz _ aV;exact⟨_,aQ,λbX=>(aa _).trans (ad _)⟩
theorem TE {qY:Nat->fp}:∀(l:List (Nat×Operand)) (K:List (Nat×ag)->Prop),xl P n e qY l K->∃r,K r/\∀bX,xl P n e qY l bX↔bX r
 | [],K,h=>⟨[],h,λ_=>aD7⟩
 | (i,x)::l,K,h=>by
  obtain⟨s,aV,aa⟩:=zk h;obtain⟨r,aQ,ad⟩:=TE l _ aV;exact⟨_,aQ,λbX=>(aa _).trans (ad _)⟩
theorem TF {x:Option Operand}{K:Option ag->Prop}(h:xm n e x K):∃s,K s/\∀bX,xm n e x bX↔bX s:=by
 cases x with
 | none=>exact⟨none,h,λ_=>aD7⟩
 | some x =>
  obtain⟨s,aV,aa⟩:=kx h;exact⟨some s,aV,λbX=>aa _⟩
end
def n1 (R:(ag->Prop)->Prop):Prop:=∀K,R K->∃r,∀bX,R bX↔bX r
theorem Im {s:ag}{K:IntKind->Int->Prop}(h:zg s K):∃k i,K k i/\∀bX,zg s bX↔bX k i:=by
 cases s<;>first|exact h.elim|exact⟨_,_,h,λ_=>aD7⟩
theorem xt {x:ag}{zh:Nat}{K:Nat->Prop}(h:sJ x zh K):∃m,K m/\∀bX,sJ x zh bX↔bX m:=by
 obtain⟨k,i,⟨h0,aa,ah⟩,b4⟩:=Im h;exact⟨_,ah,λbX=>(b4 _).trans ⟨λh=>h.2.2,λh=>⟨h0,aa,h⟩⟩⟩
theorem TG {len cap:Nat}{lo hi lC:Option ag}{K:Nat->Nat->Nat->Prop}(h:q4 len cap lo hi lC K) :
 ∃a b c,K a b c/\∀bX,q4 len cap lo hi lC bX↔bX a b c:=by
 unfold q4 at h;split at h
 .exact⟨_,_,_,h,λbX=>by simp only[q4]⟩
 .obtain⟨l,ah,b4⟩:=xt h;exact⟨_,_,_,ah,λbX=>by simp only[q4];exact b4 _⟩
 .obtain⟨l,ah,b4⟩:=xt h;exact⟨_,_,_,ah,λbX=>by simp only[q4];exact b4 _⟩
 .obtain⟨l,ah,b4⟩:=xt h;obtain⟨gg,ah,k2⟩:=xt ah;exact⟨_,_,_,ah,λbX=>by simp only[q4];exact(b4 _).trans (k2 _)⟩
 .obtain⟨l,ah,b4⟩:=xt h;obtain⟨gg,ah,k2⟩:=xt ah;exact⟨_,_,_,ah,λbX=>by simp only[q4];exact(b4 _).trans (k2 _)⟩
 .obtain⟨l,ah,b4⟩:=xt h;obtain⟨gg,ah,k2⟩:=xt ah;obtain⟨og,ah,r2⟩:=xt ah;exact⟨_,_,_,ah,λbX=>by simp only[q4];exact(b4 _).trans ((k2 _).trans (r2 _))⟩
 .exact h.elim
theorem azs {P:Program}{T:TypeId}{x:ag}{lo hi lC:Option ag}:n1 (Ib P T x lo hi lC):=by
 intro K h;unfold Ib at h ⊢;split at h
 .split at h
  .obtain⟨a,b,c,_,b4⟩:=TG h;exact⟨_,λbX=>b4 _⟩
  .exact h.elim
 .split at h
  .obtain⟨a,b,c,_,b4⟩:=TG h;exact⟨_,λbX=>b4 _⟩
  .exact h.elim
 .split at h
  .obtain⟨a,b,c,_,b4⟩:=TG h;exact⟨_,λbX=>b4 _⟩
  .exact h.elim
 .exact h.elim
theorem azt {op:UnOp}{x:ag}:n1 (Ik op x):=by
 intro K h;unfold Ik at h ⊢;split at h<;>first|exact h.elim|exact⟨_,λ_=>aD7⟩
theorem azu {P:Program}{s d:TypeId}{x:ag}:n1 (Il P s d x):=by
 intro K h;unfold Il at h ⊢;split at h<;>first|exact h.elim|exact⟨_,λ_=>aD7⟩
theorem azv {op:BinOp}{k:IntKind}{a b:Int}:n1 (TH op k a b):=by
 intro K h;cases op<;>first|exact h.elim|exact⟨_,λ_=>aD7⟩|exact⟨_,λbX=>⟨λb2=>b2.2,λb2=>⟨h.1,b2⟩⟩⟩
theorem azw {op:BinOp}{a b:aE}:n1 (TI op a b):=by
 intro K h;cases op<;>first|exact h.elim|exact⟨_,λ_=>aD7⟩|exact⟨_,λbX=>⟨λb2=>b2.2,λb2=>⟨h.1,b2⟩⟩⟩
theorem afT {op:BinOp}{k:IntKind}{a:Int}{c:Nat}:n1 (Io op k a c):=by
 intro K h;cases op<;>first|exact h.elim|exact⟨_,λ_=>aD7⟩
theorem azx {op:BinOp}{a:aE}{c:Nat}:n1 (TJ op a c):=by
 intro K h;cases op<;>first|exact h.elim|exact⟨_,λ_=>aD7⟩
theorem afU {P:Program}{T:TypeId}{x y:ag}{K:Bool->Prop}(h:Bx P T x y K):∃r,K r/\∀bX,Bx P T x y bX↔bX r:=by
 unfold Bx at h ⊢;split at h
 .exact⟨_,h,λ_=>aD7⟩
 .exact⟨_,h,λ_=>aD7⟩
 .exact⟨_,h,λ_=>aD7⟩
 .exact⟨_,h,λ_=>aD7⟩
 .exact⟨_,h,λ_=>aD7⟩
 .rcases h with ⟨rfl,h⟩|⟨t,v,rfl,h⟩
  .refine⟨_,h,λbX=>⟨?_,λb2=>Or.inl ⟨rfl,b2⟩⟩⟩;rintro (⟨_,b2⟩|⟨_,_,b2,_⟩)
   .exact b2
   .cases b2
  .refine⟨_,h,λbX=>⟨?_,λb2=>Or.inr ⟨t,v,rfl,b2⟩⟩⟩;rintro (⟨b2,_⟩|⟨_,_,_,b2⟩)
   .cases b2
   .exact b2
 .exact h.elim
theorem afV {P:Program}{op:BinOp}{T:TypeId}{x y:ag}:n1 (Ez P op T x y):=by
 intro K h;unfold Ez at h ⊢;split at h
 .split at h
  .obtain⟨h0,h⟩:=h;obtain⟨r,aQ⟩:=afT K h
   rename_i aV
   exact⟨r,λbX=>by simp only[aV,aEv];exact⟨λb2=>(aQ bX).1 b2.2,λb2=>⟨h0,(aQ bX).2 b2⟩⟩⟩
  .split at h
   .rename_i aV ah
    subst ah;obtain⟨r,aQ⟩:=azv K h;exact⟨r,λbX=>by simp only[aV,aEv,aEc,aEb];exact aQ bX⟩
   .exact h.elim
 .exact azw K h
 .exact afT K h
 .obtain⟨h0,h⟩:=h;obtain⟨r,aQ⟩:=azx K h;exact⟨r,λbX=>⟨λb2=>(aQ bX).1 b2.2,λb2=>⟨h0,(aQ bX).2 b2⟩⟩⟩
 .cases op
  case add=>exact⟨_,λbX=>⟨λb2=>b2.2,λb2=>⟨h.1,b2⟩⟩⟩
  case eql=>exact⟨_,λ_=>aD7⟩
  case neq=>exact⟨_,λ_=>aD7⟩
  all_goals exact h.elim
 .cases op
  case eql =>
   obtain⟨r,_,aQ⟩:=afU h;exact⟨_,λbX=>aQ _⟩
  case neq =>
   obtain⟨r,_,aQ⟩:=afU h;exact⟨_,λbX=>aQ _⟩
  all_goals exact h.elim
theorem azy {P:Program}{T:TypeId}{x:ag}{i:Int}:n1 (H_ P T x i):=by
 intro K h;unfold H_ at h ⊢;split at h
 .split at h
  .obtain⟨q,aj,h0,aa,h⟩:=h;exact⟨_,λbX=>⟨fun⟨dE,eG,_,_,b2⟩=>by rw[aj] at eG;cases eG;exact b2,λb2=>⟨q,aj,h0,aa,b2⟩⟩⟩
  .exact h.elim
 .split at h
  .obtain⟨h0,aa,h⟩:=h;exact⟨_,λbX=>⟨λb2=>b2.2.2,λb2=>⟨h0,aa,b2⟩⟩⟩
  .exact h.elim
 .exact h.elim
theorem azz {P:Program}{T:TypeId}{x:ag}{i:Int}:n1 (Ia P T x i):=by
 intro K h;unfold Ia at h ⊢;split at h
 .split at h
  .rename_i a1
   obtain⟨h0,aa,h⟩:=h;exact⟨_,λbX=>by rw[aDr a1];exact⟨fun⟨_,_,b2⟩=>b2,λb2=>⟨h0,aa,b2⟩⟩⟩
  .exact h.elim
 .obtain⟨h0,aa,h⟩:=h;exact⟨_,λbX=>⟨fun⟨_,_,b2⟩=>b2,λb2=>⟨h0,aa,b2⟩⟩⟩
 .exact h.elim
theorem azA {P:Program}{s:TypeId}{i:Nat}{l:List ag}:n1 (H9 P s i l):=by
 intro K h;unfold H9 at h ⊢;split at h
 .split at h
  .split at h
   .rename_i a1
    exact⟨_,λbX=>by rw[aDr a1]⟩
   .exact h.elim
  .exact h.elim
 .exact h.elim
theorem afW {P:Program}{gq:Array Field}:∀(cN:List (Nat×ag)) (l:List ag) (K:List ag->Prop),Bv P gq cN l K->∃r,∀bX,Bv P gq cN l bX↔bX r
 | [],l,K,h=>⟨l,λ_=>aD7⟩
 | (i,r)::cN,l,K,h=>by
  simp only[Bv] at h ⊢;split at h
  .split at h
   .rename_i a1
    obtain⟨bc,h⟩:=y0 h;obtain⟨r,aQ⟩:=afW cN _ K h;exact⟨r,λbX=>by rw[aDr a1];exact⟨λh=>(aQ bX).1 (y0 h).2,λh=>SO bc ((aQ bX).2 h)⟩⟩
   .exact h.elim
  .exact h.elim
theorem azB {n:Nat}:∀(cN:List (Nat×ag)) (c:bo n) (K:bo n->Prop),Bw n cN c K->∃r,∀bX,Bw n cN c bX↔bX r:=by
 intro cN
 induction cN with
 | nil=>exact λc K h=>⟨c,λ_=>aD7⟩
 | cons p cN dI =>
  intro c K h;obtain⟨i,r⟩:=p;cases r<;>try exact h.elim
  simp only[Bw] at h ⊢;split at h
  .rename_i a1
   obtain⟨r,aQ⟩:=dI _ K h;exact⟨r,λbX=>by rw[dif_pos a1];exact aQ bX⟩
  .exact h.elim
theorem azC {P:Program}{T:TypeId}{cN:List (Nat×ag)}:n1 (Ic P T cN):=by
 intro K h;unfold Ic at h ⊢;split at h
 .split at h
  .split at h
   .rename_i a1
    obtain⟨r,aQ⟩:=afW _ _ _ h;exact⟨_,λbX=>by rw[aDr a1];exact aQ _⟩
   .exact h.elim
  .exact h.elim
 .split at h
  .split at h
   .rename_i a1
    obtain⟨r,aQ⟩:=azB _ _ _ h;exact⟨_,λbX=>by rw[aDr a1];exact aQ _⟩
   .exact h.elim
  .exact h.elim
 .exact h.elim
theorem azD {P:Program}{T:TypeId}{x:ag}:n1 (Ih P T x):=by
 intro K h;unfold Ih at h ⊢;split at h<;>first|exact h.elim|exact⟨_,λ_=>aD7⟩
theorem afX {b:Bool}{x y:ag}:n1 (zi b x y):=by
 intro K h;unfold zi at h ⊢;split at h<;>first|exact h.elim|exact⟨_,λ_=>aD7⟩
theorem azE {P:Program}{b:Builtin}{ats:Array TypeId}{xs:List ag}:n1 (Ii P b ats xs):=by
 intro K h;unfold Ii at h ⊢;split at h
 .split at h
  .exact azD K h
  .exact h.elim
 .split at h
  .split at h
   .exact⟨_,λ_=>aD7⟩
   .exact h.elim
  .exact h.elim
 .exact afX K h
 .exact afX K h
 .exact h.elim
theorem azF {x:ag}:n1 (MH x):=by
 intro K h;unfold MH at h ⊢;split at h
 .exact⟨_,λ_=>aD7⟩
 .obtain⟨p,rfl,ah⟩:=h;exact⟨_,λbX=>⟨fun⟨eW,aP,b2⟩=>by cases aP;exact b2,λb2=>⟨p,rfl,b2⟩⟩⟩
 .exact⟨_,λ_=>aD7⟩
 .exact h.elim
theorem azG {c a b:ag}:n1 (Ij c a b):=by
 intro K h;unfold Ij at h ⊢;split at h
 .exact⟨_,λ_=>aD7⟩
 .rename_i c _
  cases c
  .exact⟨_,λ_=>aD7⟩
  .exact⟨_,λ_=>aD7⟩
 .exact h.elim
theorem azH {P:Program}{n:Nat}{op:BinOp}{T:TypeId}{y:Operand}{e:Env}{a:ag}:n1 (za P n op T y e a):=by
 intro K h;unfold za at h ⊢;split at h
 .exact afV K h
 .obtain⟨b,ah,b4⟩:=kx h;split at ah
  .exact ah.elim
  .rename_i l fw
   split at ah
   .rename_i r aQ
    cases op<;>try exact(show False from ah).elim
    .exact⟨.b r,λbX=>(b4 _).trans (by simp only[aQ,zj])⟩
    .exact⟨.b (!r),λbX=>(b4 _).trans (by simp only[aQ,zj])⟩
   .exact ah.elim
  .rename_i aD aS mu aY
   split at ah
   .rename_i hm
    subst hm;split at ah
    .rename_i r aQ
     cases op<;>try exact(show False from ah).elim
     .exact⟨.b r,λbX=>(b4 _).trans (by simp only[dif_pos,aQ,zj])⟩
     .exact⟨.b (!r),λbX=>(b4 _).trans (by simp only[dif_pos,aQ,zj])⟩
    .exact ah.elim
   .exact ah.elim
  .rename_i b0 azI Wy
   obtain⟨r,aQ⟩:=afV K ah;refine⟨r,λbX=>(b4 _).trans ?_⟩;split
   .rename_i x;exact(b0 x rfl).elim
   .exact(azI _ _ rfl rfl).elim
   .exact(Wy _ _ _ _ rfl rfl).elim
   .exact aQ bX
theorem ax5 {P:Program}{n:Nat}{o:Op}{ty:TypeId}{e:Env}:n1 (xn P n o ty e):=by
 intro K h;unfold xn at h ⊢;split at h
 .obtain⟨s,_,b4⟩:=zk h;exact⟨s,b4⟩
 .obtain⟨s,_,b4⟩:=zk h;exact⟨s,b4⟩
 .obtain⟨c,h,b4⟩:=kx h;obtain⟨a,h,k2⟩:=kx h;obtain⟨b,h,r2⟩:=kx h;obtain⟨r,aQ⟩:=azG K h;exact⟨r,λbX=>(b4 _).trans ((k2 _).trans ((r2 _).trans (aQ bX)))⟩
 .obtain⟨c,h,b4⟩:=kx h;obtain⟨r,aQ⟩:=azF K h;exact⟨r,λbX=>(b4 _).trans (aQ bX)⟩
 .obtain⟨c,h,b4⟩:=kx h;obtain⟨r,aQ⟩:=azH K h;exact⟨r,λbX=>(b4 _).trans (aQ bX)⟩
 .obtain⟨c,h,b4⟩:=kx h;obtain⟨r,aQ⟩:=azt K h;exact⟨r,λbX=>(b4 _).trans (aQ bX)⟩
 .obtain⟨c,h,b4⟩:=kx h;obtain⟨r,aQ⟩:=azu K h;exact⟨r,λbX=>(b4 _).trans (aQ bX)⟩
 .split at h
  .obtain⟨c,h,b4⟩:=kx h;split at h
   .exact⟨_,λbX=>b4 _⟩
   .exact h.elim
  .exact h.elim
 .obtain⟨c,h,b4⟩:=kx h;split at h
  .obtain⟨r,aQ⟩:=azA K h;exact⟨r,λbX=>(b4 _).trans (aQ bX)⟩
  .exact h.elim
 .obtain⟨c,h,b4⟩:=kx h;obtain⟨j,h,k2⟩:=kx h;obtain⟨k,i,h,r2⟩:=Im h;obtain⟨r,aQ⟩:=azy K h;exact⟨r,λbX=>(b4 _).trans ((k2 _).trans ((r2 _).trans (aQ bX)))⟩
 .obtain⟨c,h,b4⟩:=kx h;obtain⟨j,h,k2⟩:=kx h;obtain⟨k,i,h,r2⟩:=Im h;obtain⟨r,aQ⟩:=azz K h;exact⟨r,λbX=>(b4 _).trans ((k2 _).trans ((r2 _).trans (aQ bX)))⟩
 .obtain⟨c,h,b4⟩:=kx h;split at h
  .split at h
   .rename_i r aQ
    exact⟨r,λbX=>(b4 _).trans (by simp only[aQ])⟩
   .exact h.elim
  .exact h.elim
 .obtain⟨c,h,b4⟩:=kx h;obtain⟨lo,h,k2⟩:=TF h;obtain⟨hi,h,r2⟩:=TF h;obtain⟨lC,h,TK⟩:=TF h;obtain⟨r,aQ⟩:=azs K h;exact⟨r,λbX=>(b4 _).trans ((k2 _).trans ((r2 _).trans ((TK _).trans (aQ bX))))⟩
 .split at h
  .rename_i a1
   obtain⟨c,h,b4⟩:=TD _ _ h;exact⟨_,λbX=>by rw[aDr a1];exact b4 _⟩
  .exact h.elim
 .split at h
  .exact h.elim
  .obtain⟨c,h,b4⟩:=zk h;exact⟨_,λbX=>b4 _⟩
  .exact h.elim
 .obtain⟨c,h,b4⟩:=TE _ _ h;obtain⟨r,aQ⟩:=azC K h;exact⟨r,λbX=>(b4 _).trans (aQ bX)⟩
 .obtain⟨c,h,b4⟩:=TD _ _ h;obtain⟨r,aQ⟩:=azE K h;exact⟨r,λbX=>(b4 _).trans (aQ bX)⟩
 .exact h.elim
def lg (h:ak):Prop:=∃N,∀b,N<=b->h b=none
theorem lg.bD {h:ak}(ar:lg h)(b:Nat)(o:Obj):lg (bD h b o):=by
 obtain⟨N,jE⟩:=ar;refine⟨max N (b+1),λx ai=>?_⟩;rw[cu _ _ (by omega)];exact jE x (by omega)
theorem e8.Bn {h:ak}{w:World}(c:e8 h w):lg h:=by
 refine⟨w.heap.size,λb ar=>?_⟩;cases ai:h b with
 | none=>rfl
 | some o=>exact absurd (c.lt ai) (by omega)
theorem lg.world {h:ak}(ar:lg h):∃w,e8 h w:=by
 obtain⟨N,jE⟩:=ar;refine⟨{ (default:World) with heap:=Array.ofFn (n:=N) λi=>(h i.1).getD default },λb o ep=>?_⟩;have cl:b<N:=by
  rcases aDZ b N with aa|aa
  .exact aa
  .rw[jE b aa] at ep;cases ep
 simp[cl,ep]
theorem lg.fresh {h:ak}(ar:lg h):∃b,h b=none:=let ⟨N,jE⟩:=ar;⟨N,jE N (aDt _)⟩
theorem By {h:ak}{q:aF}{l:List Value}{K bX:ak->Prop}(ah:aW h q l K)(hm:∀af,K af->bX af):aW h q l bX :=
 let ⟨c,t,ar,aT,eL⟩:=ah;⟨c,t,ar,aT,hm _ eL⟩
theorem afY {h:ak}{o:Obj}{K bX:Nat->ak->Prop}(ah:bg h o K)(hm:∀b af,K b af->bX b af):bg h o bX:=λb ar=>hm _ _ (ah b ar)
def Mz {α:Type}(b:Nat)(o:Obj)(K:α->ak->Prop):α->ak->Prop:=λr h=>∃af,h=bD af b o/\af b=none/\K r af
theorem azJ {h:ak}{b:Nat}(o:Obj)(ar:h b=none){x i:Nat}{v:Value}(b0:bx h x i=some v):bx (bD h b o) x i=some v:=by
 have ai:x≠b:=by
  intro e;subst e;simp[bx,ar] at b0
 unfold bx at b0 ⊢;rw[cu _ _ ai];exact b0
theorem TL {h:ak}{b:Nat}(o:Obj)(ar:h b=none){x:Nat}:∀ {l:List Value} {i:Nat},fW h x i l->fW (bD h b o) x i l
 | [],_,_=>trivial
 | _::_,_,aQ=>⟨azJ o ar aQ.1,TL o ar aQ.2⟩
theorem mN.beside {h:ak}{b:Nat}(o:Obj)(ar:h b=none){q:aF}{r:ag}(aV:mN h q r):mN (bD h b o) q r:=TL o ar aV
theorem MJ {h:ak}{b:Nat}{o:Obj}(ar:h b=none){q:aF}{l:List Value}{K:ak->Prop}(ah:aW h q l K) :
 aW (bD h b o) q l λaf=>∃hQ,af=bD hQ b o/\hQ b=none/\K hQ:=by
 obtain⟨c,t,aj,aT,eL⟩:=ah;have dA:q.b≠b:=by intro e;rw[e,ar] at aj;cases aj
 refine⟨c,t,by rw[cu _ _ dA];exact aj,aT,_,MB h _ _ (aDC dA),?_,eL⟩;rw[cu _ _ (aDC dA)];exact ar
theorem azK {h:ak}{b:Nat}{o p:Obj}(ar:h b=none){K:Nat->ak->Prop}(ah:bg h p K) :
 bg (bD h b o) p λx af=>∃hQ,af=bD hQ b o/\hQ b=none/\K x hQ:=by
 intro x ai;have dA:x≠b:=by intro e;subst e;rw[eC] at ai;cases ai
 rw[cu _ _ dA] at ai;refine⟨_,MB h _ _ (aDC dA),?_,ah x ai⟩;rw[cu _ _ (aDC dA)];exact ar
theorem xu {h:ak}{x:ag}{dR n:Nat}{K bX:List Value->Prop}(ah:oO h x dR n K)(hm:∀l,K l->bX l):oO h x dR n bX:=by
 unfold oO at ah ⊢;split at ah
 .obtain⟨l,aa,ad,an,aJ⟩:=ah;exact⟨l,aa,ad,an,hm _ aJ⟩
 .exact⟨ah.1,hm _ ah.2⟩
 .exact ah.elim
theorem TM {h:ak}{b:Nat}{o:Obj}(ar:h b=none){x:ag}{dR n:Nat}{K:List Value->Prop}(ah:oO h x dR n K):oO (bD h b o) x dR n K:=by
 unfold oO at ah ⊢;split at ah
 .obtain⟨l,aa,ad,an,aJ⟩:=ah;refine⟨l,aa,ad,?_,aJ⟩;split at an
  .exact TL o ar an
  .exact an
 .exact ah
 .exact ah.elim
theorem EB {x:ag}{K bX:Nat->Prop}(ah:td x K)(hm:∀n,K n->bX n):td x bX:=by
 unfold td at ah ⊢;split at ah<;>first|exact ah.elim|exact hm _ ah
theorem afZ {P:Program}{f:FuncId}{args:List Value}{h:ak}{b:Nat}{o:Obj}{Q:Value->ak->Prop}(ar:h b=none)(ah:o2 P f args h Q) :
 o2 P f args (bD h b o) λv af=>∃hQ,af=bD hQ b o/\hQ b=none/\Q v hQ:=by
 refine⟨ah.1,λw c=>?_⟩;have ha:e8 h w:=by
  intro x y ai;have dA:x≠b:=by intro e;subst e;rw[ar] at ai;cases ai
  exact c x y (by rw[cu _ _ dA];exact ai)
 have hw:w.heap[b]? =some o:=c b o (eC _ _ _);have cl:b<w.heap.size:=(aFf.1 hw).1;refine(ah.2 w ha).mono ?_;rintro e cv ⟨v,af,rfl,fI,cr,g⟩;obtain⟨hY,TN⟩:=g.rest b ar cl;refine⟨v,bD af b o,rfl,⟨af,rfl,hY,fI⟩,?_,?_⟩
 .intro x y ai
  by_cases e:x=b
  .subst e;rw[eC] at ai;cases ai;rw[TN,hw]
  .rw[cu _ _ e] at ai;exact cr x y ai
 .refine⟨g.os,g.tape,g.output,g.size,λx ai aT=>?_⟩;have dA:x≠b:=by intro e;subst e;rw[eC] at ai;cases ai
  rw[cu _ _ dA] at ai;rw[cu _ _ dA];exact g.rest x ai aT
theorem azL {P:Program}{l:Nat}{args:List Value}{h:ak}{b:Nat}{o:Obj}{Q:Value->ak->Prop}(ar:h b=none)(ah:nj P l args h Q) :
 nj P l args (bD h b o) λv af=>∃hQ,af=bD hQ b o/\hQ b=none/\Q v hQ:=by
 intro w c;have ha:e8 h w:=by
  intro x y ai;have dA:x≠b:=by intro e;subst e;rw[ar] at ai;cases ai
  exact c x y (by rw[cu _ _ dA];exact ai)
 have hw:w.heap[b]? =some o:=c b o (eC _ _ _);have cl:b<w.heap.size:=(aFf.1 hw).1;obtain⟨r,aa,ad,an⟩:=ah w ha;refine⟨r,aa,ad,an.mono ?_⟩;rintro e cv ⟨v,af,rfl,fI,cr,g⟩;obtain⟨hY,TN⟩:=g.rest b ar cl;refine⟨v,bD af b o,rfl,⟨af,rfl,hY,fI⟩,?_,?_⟩
 .intro x y ai
  by_cases e:x=b
  .subst e;rw[eC] at ai;cases ai;rw[TN,hw]
  .rw[cu _ _ e] at ai;exact cr x y ai
 .refine⟨g.os,g.tape,g.output,g.size,λx ai aT=>?_⟩;have dA:x≠b:=by intro e;subst e;rw[eC] at ai;cases ai
  rw[cu _ _ dA] at ai;rw[cu _ _ dA];exact g.rest x ai aT
theorem af0 {P:Program}{f:FuncId}{args:List Value}{h:ak}{Q:Value->ak->Prop}(ah:o2 P f args h Q):o2 P f args h λv af=>Q v af/\lg af :=
 ⟨ah.1,λw c=>(ah.2 w c).mono λ_ _ ⟨v,af,he,fI,cr,g⟩=>⟨v,af,he,⟨fI,cr.Bn⟩,cr,g⟩⟩
theorem azM {P:Program}{l:Nat}{args:List Value}{h:ak}{Q:Value->ak->Prop}(ah:nj P l args h Q):nj P l args h λv af=>Q v af/\lg af:=λw c =>
 let ⟨r,aa,ad,an⟩:=ah w c
 ⟨r,aa,ad,an.mono λ_ _ ⟨v,af,he,fI,cr,g⟩=>⟨v,af,he,⟨fI,cr.Bn⟩,cr,g⟩⟩
theorem azN {P:Program}{x:Value}{args:List Value}{h:ak}{b:Nat}{o:Obj}{Q:Value->ak->Prop}(ar:h b=none)(ah:fL P x args h Q) :
 fL P x args (bD h b o) λv af=>∃hQ,af=bD hQ b o/\hQ b=none/\Q v hQ:=by
 unfold fL at ah ⊢;split at ah
 .exact⟨ah.1,afZ ar ah.2⟩
 .exact⟨ah.1,ah.2.1,azL ar ah.2.2⟩
 .exact ah.elim
theorem azO {P:Program}{x:Value}{args:List Value}{h:ak}{Q:Value->ak->Prop}(ah:fL P x args h Q):fL P x args h λv af=>Q v af/\lg af:=by
 unfold fL at ah ⊢;split at ah
 .exact⟨ah.1,af0 ah.2⟩
 .exact⟨ah.1,ah.2.1,azM ah.2.2⟩
 .exact ah.elim
theorem azP {P:Program}{T:TypeId}{x:ao}{y:ag}{h:ak}{K bX:ao->ak->Prop}(ah:eI P T x y h K)(hm:∀r af,K r af->bX r af):eI P T x y h bX:=by
 unfold eI at ah ⊢;split at ah
 .split at ah
  .refine EB ah λn ah=>xu ah λl ah=>?_;cases a1:decide (x.len+n<=x.cap) with
   | true =>
    rw[a1] at ah;simp only[aED] at ah ⊢;split at ah
    .exact By ah λ_ b2=>hm _ _ b2
    .exact⟨ah.1,hm _ _ ah.2⟩
   | false =>
    rw[a1] at ah;simp only[aEZ] at ah ⊢;exact⟨ah.1,ah.2.1,xu ah.2.2 λy8 b2 nU rn=>afY (b2 nU rn) λ_ _ ad=>hm _ _ ad⟩
  .exact ah.elim
 .exact ah.elim
theorem azQ {P:Program}{T:TypeId}{x:ao}{y:ag}{h:ak}{b:Nat}{o:Obj}(ar:h b=none){K:ao->ak->Prop}(ah:eI P T x y h K) :
 eI P T x y (bD h b o) (Mz b o K):=by
 unfold eI at ah ⊢;split at ah
 .split at ah
  .refine EB ah λn ah=>xu (TM ar ah) λl ah=>?_;cases a1:decide (x.len+n<=x.cap) with
   | true =>
    rw[a1] at ah;simp only[aED] at ah ⊢;split at ah
    .exact By (MJ ar ah) λ_ b2=>b2
    .exact⟨ah.1,h,rfl,ar,ah.2⟩
   | false =>
    rw[a1] at ah;simp only[aEZ] at ah ⊢;exact⟨ah.1,ah.2.1,xu (TM ar ah.2.2) λy8 b2 nU rn=>afY (azK ar (b2 nU rn)) λ_ _ ad=>ad⟩
  .exact ah.elim
 .exact ah.elim
theorem azR {P:Program}{T:TypeId}{x:ao}{y:ag}{h:ak}(dC:lg h){K:ao->ak->Prop}(ah:eI P T x y h K) :
 eI P T x y h (λr af=>K r af/\lg af):=by
 unfold eI at ah ⊢;split at ah
 .split at ah
  .refine EB ah λn ah=>xu ah λl ah=>?_;cases a1:decide (x.len+n<=x.cap) with
   | true =>
    rw[a1] at ah;simp only[aED] at ah ⊢;split at ah
    .obtain⟨c,t,aa,ad,an⟩:=ah;exact⟨c,t,aa,ad,an,dC.bD _ _⟩
    .exact⟨ah.1,ah.2,dC⟩
   | false =>
    rw[a1] at ah;simp only[aEZ] at ah ⊢;exact⟨ah.1,ah.2.1,xu ah.2.2 λy8 b2 nU rn b Ch=>⟨b2 nU rn b Ch,dC.bD _ _⟩⟩
  .exact ah.elim
 .exact ah.elim
theorem azS {P:Program}{T:TypeId}{x:ao}{y:ag}{h:ak}{K bX:Nat->ak->Prop}(ah:mB P T x y h K)(hm:∀r af,K r af->bX r af):mB P T x y h bX:=by
 unfold mB at ah ⊢;split at ah
 .split at ah
  .refine EB ah λn ah=>xu ah λl ah=>?_;split at ah
   .exact By ah λ_ b2=>hm _ _ b2
   .exact⟨ah.1,hm _ _ ah.2⟩
  .exact ah.elim
 .exact ah.elim
theorem azT {P:Program}{T:TypeId}{x:ao}{y:ag}{h:ak}{b:Nat}{o:Obj}(ar:h b=none){K:Nat->ak->Prop}(ah:mB P T x y h K) :
 mB P T x y (bD h b o) (Mz b o K):=by
 unfold mB at ah ⊢;split at ah
 .split at ah
  .refine EB ah λn ah=>xu (TM ar ah) λl ah=>?_;split at ah
   .exact By (MJ ar ah) λ_ b2=>b2
   .exact⟨ah.1,h,rfl,ar,ah.2⟩
  .exact ah.elim
 .exact ah.elim
theorem azU {P:Program}{T:TypeId}{x:ao}{y:ag}{h:ak}(dC:lg h){K:Nat->ak->Prop}(ah:mB P T x y h K) :
 mB P T x y h (λr af=>K r af/\lg af):=by
 unfold mB at ah ⊢;split at ah
 .split at ah
  .refine EB ah λn ah=>xu ah λl ah=>?_;split at ah
   .obtain⟨c,t,aa,ad,an⟩:=ah;exact⟨c,t,aa,ad,an,dC.bD _ _⟩
   .exact⟨ah.1,ah.2,dC⟩
  .exact ah.elim
 .exact ah.elim
inductive H2 where
 | q2|read|act|new
 deriving DecidableEq
def cls:Op->H2
 | .load _ _=> .read
 | .store _ _ _=> .act
 | .box _ _=> .new
 | .alloc _=> .new
 | .buildSlice _ _ _=> .new
 | .makeSlice _ _ _=> .new
 | .makeMap _ none=> .new
 | .call { callee:= .builtin .append,.. }=> .act
 | .call { callee:= .builtin .copy,.. }=> .act
 | .call { callee:= .value _,.. }=> .act
 | .call { callee:= .builtin .clear,.. }=> .act
 | .mapUpdate _ _ _ _=> .act
 | _=> .q2
def My (R:ak->(ag->ak->Prop)->Prop):Prop :=
 ∃(o:Obj) (mk:Nat->ag),∀af bX,R af bX↔∀b,af b=none->bX (mk b) (bD af b o)
mutual
theorem vu:∀(t:fp) (K bX:ag->Prop),Bf t K->(∀r,K r->bX r)->Bf t bX
 | .i k,K,bX,⟨n,ah⟩,hm=>⟨n,hm _ ah⟩
 | .u,K,bX,⟨n,ah⟩,hm=>⟨n,hm _ ah⟩
 | .b,K,bX,⟨n,ah⟩,hm=>⟨n,hm _ ah⟩
 | .p,K,bX,⟨n,ah⟩,hm=>⟨n,hm _ ah⟩
 | .f,K,bX,⟨n,c,ah⟩,hm=>⟨n,c,hm _ ah⟩
 | .ic,K,bX,⟨n,ah⟩,hm=>⟨n,hm _ ah⟩
 | .s,K,bX,⟨n,ah⟩,hm=>⟨n,hm _ ah⟩
 | .str,K,bX,⟨n,ah⟩,hm=>⟨n,hm _ ah⟩
 | .m,K,bX,⟨n,ah⟩,hm=>⟨n,hm _ ah⟩
 | .ws n,K,bX,⟨c,ah⟩,hm=>⟨c,hm _ ah⟩
 | .dz l,K,bX,aT,hm=>TO l _ _ aT λr aQ=>hm _ aQ
 | .jC l,K,bX,aT,hm=>TO l _ _ aT λr aQ=>hm _ aQ
 | .v,K,bX,⟨x,ah⟩,hm=>⟨x,hm _ ah⟩
theorem TO:∀(l:List fp) (K bX:List ag->Prop),Ef l K->(∀r,K r->bX r)->Ef l bX
 | [],K,bX,ah,hm=>hm _ ah
 | t::l,K,bX,ah,hm=>vu t _ _ ah λr aQ=>TO l _ _ aQ λrs HX=>hm _ HX
end
mutual
theorem af1 (h:ak)(b:Nat):∀(t:fp) (o:Nat) (K:ag->Prop),Eg h b t o K ->
 ∃r,K r/\fW h b o (ag.cells r)/\r≠.no/\(ag.cells r).length=t.size/\∀af bX,fW af b o (ag.cells r)->bX r->Eg af b t o bX
 | .i k,o,K,⟨n,aK,ah⟩=>⟨_,ah,⟨aK,trivial⟩,by simp,rfl,λ_ _ aQ gM=>⟨n,aQ.1,gM⟩⟩
 | .u,o,K,⟨n,aK,ah⟩=>⟨_,ah,⟨aK,trivial⟩,by simp,rfl,λ_ _ aQ gM=>⟨n,aQ.1,gM⟩⟩
 | .b,o,K,⟨n,aK,ah⟩=>⟨_,ah,⟨aK,trivial⟩,by simp,rfl,λ_ _ aQ gM=>⟨n,aQ.1,gM⟩⟩
 | .p,o,K,⟨n,aK,ah⟩=>⟨_,ah,⟨aK,trivial⟩,by simp,rfl,λ_ _ aQ gM=>⟨n,aQ.1,gM⟩⟩
 | .f,o,K,⟨n,c,aK,ah⟩=>⟨_,ah,⟨aK,trivial⟩,by simp,rfl,λ_ _ aQ gM=>⟨n,c,aQ.1,gM⟩⟩
 | .ic,o,K,⟨n,aK,ah⟩=>⟨_,ah,⟨aK,trivial⟩,by simp,rfl,λ_ _ aQ gM=>⟨n,aQ.1,gM⟩⟩
 | .s,o,K,⟨n,aK,ah⟩=>⟨_,ah,⟨aK,trivial⟩,by simp,rfl,λ_ _ aQ gM=>⟨n,aQ.1,gM⟩⟩
 | .str,o,K,⟨n,aK,ah⟩=>⟨_,ah,⟨aK,trivial⟩,by simp,rfl,λ_ _ aQ gM=>⟨n,aQ.1,gM⟩⟩
 | .m,o,K,⟨n,aK,ah⟩=>⟨_,ah,⟨aK,trivial⟩,by simp,rfl,λ_ _ aQ gM=>⟨n,aQ.1,gM⟩⟩
 | .ws n,o,K,⟨c,a1,ah⟩=>by
  refine⟨.ws n c,ah,?_,by simp,by simp[ag.cells,fp.size],λaf bX aQ gM=>⟨c,?_,gM⟩⟩
  .rw[pJ];intro i hi;have cb:i<n:=by simpa [ag.cells] using hi
   rw[a1 i cb];simp[ag.cells]
  .intro i hi
   have:=(pJ af b _ o).1 aQ i (by simpa [ag.cells] using hi);rw[this];simp[ag.cells]
 | .dz l,o,K,aT=>by
  obtain⟨r,ah,aQ,aK,dd⟩:=af2 h b l o _ aT;exact⟨.dz r,ah,aQ,by simp,aK,λaf bX TP gM=>dd af _ TP gM⟩
 | .jC _,_,_,aT=>aT.elim
 | .v,o,K,⟨x,ai,aa,ah⟩=>⟨_,ah,⟨ai,trivial⟩,by simp,rfl,λ_ _ aQ gM=>⟨x,aQ.1,aa,gM⟩⟩
theorem af2 (h:ak)(b:Nat):∀(l:List fp) (o:Nat) (K:List ag->Prop),HW h b l o K ->
 ∃r,K r/\fW h b o (ag.gL r)/\(ag.gL r).length=fp.rY l/\∀af bX,fW af b o (ag.gL r)->bX r->HW af b l o bX
 | [],o,K,ah=>⟨[],ah,trivial,rfl,λ_ _ _ gM=>gM⟩
 | t::l,o,K,ah=>by
  obtain⟨r,kO,aQ,_,aK,dd⟩:=af1 h b t o _ ah;obtain⟨rs,ki,HX,Hw,azV⟩:=af2 h b l _ _ kO;refine⟨r::rs,ki,?_,by simp[ag.gL,fp.rY,aK,Hw],λaf bX TP gM=>?_⟩
  .show fW h b o (ag.cells r++ag.gL rs);rw[SP,aK];exact⟨aQ,HX⟩
  .have nM:fW af b o (ag.cells r++ag.gL rs):=TP;rw[SP,aK] at nM;exact dd af _ nM.1 (azV af _ nM.2 gM)
end
theorem azW {P:Program}{T:TypeId}{h:ak}{q:aF}{K:ag->Prop}(aT:y9 P T h q K) :
 ∃r,K r/\mN h q r/\r≠.no/\∀af bX,mN af q r->bX r->y9 P T af q bX:=by
 unfold y9 at aT;split at aT
 .rename_i a1
  obtain⟨r,ah,aQ,aK,_,dd⟩:=af1 _ _ _ _ _ aT;exact⟨r,ah,aQ,aK,λaf bX aV gM=>by unfold y9;rw[aDr a1];exact dd af bX aV gM⟩
 .exact aT.elim
def o9 (n:Nat)(o:Op)(e:Env):Option aF :=
 match o with
 | .load _ (.tmp t)=>match (if t<n then e t else none) with|some (.p q)=>some q|_=>none
 | .load _ (.global g)=>some ⟨g,0⟩
 | _=>none
section
variable {P:Program} {n:Nat} {o:Op} {ty:TypeId} {e:Env} {h:ak} {K:ag->ak->Prop}
theorem afm (a1:cls o= .q2):iJ P n o ty e h K=xn P n o ty e λr=>K r h:=by
 unfold iJ;split<;>first|(simp[cls] at a1;done)|rfl
theorem ax7 (a1:cls o= .read)(ah:iJ P n o ty e h K) :
 ∃q r,o9 n o e=some q/\K r h/\mN h q r/\r≠.no/\∀af bX,mN af q r->bX r af->iJ P n o ty e af bX:=by
 obtain⟨T,a,rfl⟩:∃T a,o= .load T a:=by
  cases o with
  | load T a=>exact⟨T,a,rfl⟩
  | makeMap t r=>cases r<;>simp[cls] at a1
  | call c =>
   obtain⟨callee,args,ats⟩:=c;cases callee with
   | builtin b=>cases b<;>simp[cls] at a1
   | value f=>simp[cls] at a1
   | invoke r m=>simp[cls] at a1
  | _=>simp[cls] at a1
 simp only[iJ] at ah;obtain⟨s,ah,b4⟩:=kx ah;split at ah
 .rename_i q
  obtain⟨r,ah,aV,aK,dd⟩:=azW ah;refine⟨q,r,?_,ah,aV,aK,λaf bX p6 gM=>?_⟩
  .cases a with
   | tmp t =>
    have:=(b4 (λcE=>cE= .p q)).2 rfl;simp only[ie] at this;simp only[o9];split at this
    .rename_i s p6;subst this;rw[p6]
    .exact this.elim
   | const v =>
    exfalso;have:=(b4 (λcE=>cE= .p q)).2 rfl;simp only[ie,vt] at this;split at this<;>first|cases this|(split at this<;>cases this)
   | global g =>
    have:=(b4 (λcE=>cE= .p q)).2 rfl;simp only[ie] at this;cases this;rfl
   | func f =>
    exfalso;have:=(b4 (λcE=>cE= .p q)).2 rfl;simp only[ie] at this;cases this
  .simp only[iJ];exact(b4 _).2 (dd af _ p6 gM)
 .exact ah.elim
theorem ax8 (a1:cls o= .new)(ah:iJ P n o ty e h K):My (iJ P n o ty e):=by
 unfold iJ at ah;split at ah<;>try (simp[cls] at a1;done)
 .obtain⟨s,ah,b4⟩:=zk ah;obtain⟨bc,ah⟩:=y0 ah;exact⟨_,λb=> .p ⟨b,0⟩,λaf bX=>by simp only[iJ];exact(b4 _).trans ⟨λh=>(y0 h).2,λh=>SO bc h⟩⟩
 .split at ah
  .rename_i z bn
   exact⟨_,λb=> .p ⟨b,0⟩,λaf bX=>by simp only[iJ,bn];exact aD7⟩
  .exact ah.elim
 .rename_i T len cN
  obtain⟨s,ah,b4⟩:=TE _ _ ah;have xb:∀h (K:ao->ak->Prop),Bq P T len s h K->My (λh (K:ag->ak->Prop)=>Bq P T len s h λr h=>K (.s r) h):=by
   intro h K ah;unfold Bq at ah;split at ah
   .rename_i el hu
    split at ah
    .rename_i dR z bn xp
     split at ah
     .rename_i tR
      exact⟨_,λb=> .s ⟨some ⟨b,0⟩,len,len,none⟩,λaf bX=>by unfold Bq;simp only[hu,bn,xp];rw[aDr tR];exact aD7⟩
     .exact ah.elim
    .exact ah.elim
   .exact ah.elim
  obtain⟨e7,mk,aa⟩:=xb _ _ ah;exact⟨e7,mk,λaf bX=>by simp only[iJ];exact(b4 _).trans (aa af bX)⟩
 .rename_i T l c
  obtain⟨s,ah,b4⟩:=kx ah;obtain⟨s2,ah,k2⟩:=kx ah;obtain⟨k,i,ah,r2⟩:=Im ah;obtain⟨h_,dO,ah,TK⟩:=Im ah;have xb:∀h (K:ao->ak->Prop),Bs P T i dO h K->My (λh (K:ag->ak->Prop)=>Bs P T i dO h λr h=>K (.s r) h):=by
   intro h K ah;unfold Bs at ah;split at ah
   .rename_i el hu
    split at ah
    .rename_i dR z by_ bn xp kX
     obtain⟨aa,ad,an,aJ,ah⟩:=ah;exact⟨_,λb=> .s ⟨some ⟨b,0⟩,i.toNat,dO.toNat,none⟩,λaf bX=>by unfold Bs;simp only[hu,bn,xp,kX];exact⟨λb2=>b2.2.2.2.2,λgM=>⟨aa,ad,an,aJ,gM⟩⟩⟩
    .exact ah.elim
   .exact ah.elim
  obtain⟨e7,mk,aa⟩:=xb _ _ ah;exact⟨e7,mk,λaf bX=>by simp only[iJ];exact(b4 _).trans ((k2 _).trans ((r2 _).trans ((TK _).trans (aa af bX))))⟩
 .exact⟨_,λb=> .m (some b),λaf bX=>by simp only[iJ];exact aD7⟩
theorem azX {h:ak}{r:Option Nat}{k:aE}{v:Value}{K bX:ak->Prop}(ah:tx h r k v K)(hm:∀af,K af->bX af):tx h r k v bX :=
 let ⟨b,l,c,aa,ad,an⟩:=ah;⟨b,l,c,aa,ad,hm _ an⟩
theorem azY {h:ak}{b:Nat}{o:Obj}(ar:h b=none){r:Option Nat}{k:aE}{v:Value}{K:ak->Prop}(ah:tx h r k v K) :
 tx (bD h b o) r k v λaf=>∃hQ,af=bD hQ b o/\hQ b=none/\K hQ:=by
 obtain⟨x,l,c,aa,ad,an⟩:=ah;have dA:x≠b:=by intro e;rw[e,ar] at ad;cases ad
 exact⟨x,l,c,aa,by rw[cu _ _ dA];exact ad,_,MB h _ _ (aDC dA),by rw[cu _ _ (aDC dA)];exact ar,an⟩
theorem azZ {h:ak}{T:TypeId}{x:ao}{K bX:ak->Prop}(ah:sI P T x h K)(hm:∀af,K af->bX af):sI P T x h bX:=by
 unfold sI at ah ⊢;split at ah
 .split at ah
  .split at ah
   .rename_i aa
    simp only[aa,aEv];cases h0:decide (x.len=0) with
    | true=>rw[h0] at ah;exact hm _ ah
    | false=>rw[h0] at ah;obtain⟨q,aj,ah⟩:=ah;exact⟨q,aj,By ah hm⟩
   .exact ah.elim
  .exact ah.elim
 .exact ah.elim
theorem az0 {h:ak}{b:Nat}{o:Obj}(ar:h b=none){T:TypeId}{x:ao}{K:ak->Prop}(ah:sI P T x h K) :
 sI P T x (bD h b o) λaf=>∃hQ,af=bD hQ b o/\hQ b=none/\K hQ:=by
 unfold sI at ah ⊢;split at ah
 .split at ah
  .split at ah
   .rename_i aa
    simp only[aa,aEv];cases h0:decide (x.len=0) with
    | true=>rw[h0] at ah;exact⟨h,rfl,ar,ah⟩
    | false=>rw[h0] at ah;obtain⟨q,aj,ah⟩:=ah;exact⟨q,aj,MJ ar ah⟩
   .exact ah.elim
  .exact ah.elim
 .exact ah.elim
theorem az1 {h:ak}{T:TypeId}{x:ao}{K:ak->Prop}(dC:lg h)(ah:sI P T x h K):sI P T x h λaf=>K af/\lg af:=by
 unfold sI at ah ⊢;split at ah
 .split at ah
  .split at ah
   .rename_i aa
    simp only[aa,aEv];cases h0:decide (x.len=0) with
    | true=>rw[h0] at ah;exact⟨ah,dC⟩
    | false=>rw[h0] at ah;obtain⟨q,aj,c,t,av,aN,a3⟩:=ah;exact⟨q,aj,c,t,av,aN,a3,dC.bD _ _⟩
   .exact ah.elim
  .exact ah.elim
 .exact ah.elim
theorem ax9 (a1:cls o= .act)(ah:iJ P n o ty e h K) :
 (∀bX,(∀r af,K r af->bX r af)->iJ P n o ty e h bX) /\
 (∀b e7,h b=none->iJ P n o ty e (bD h b e7) (Mz b e7 K)) /\
 (lg h->iJ P n o ty e h λr af=>K r af/\lg af):=by
 unfold iJ at ah;split at ah<;>try (simp[cls] at a1;done)
 .rename_i T a x
  obtain⟨s,ah,b4⟩:=kx ah;split at ah
  .rename_i q
   obtain⟨r,ah,k2⟩:=zk ah;split at ah
   .rename_i tR
    obtain⟨bc,ah⟩:=y0 ah;refine⟨λbX hm=>?_,λb e7 ar=>?_,λdC=>?_⟩
    all_goals
     simp only[iJ];refine(b4 _).2 ((k2 _).2 ?_);rw[aDr tR];refine SO bc ?_
    .exact By ah λ_ b2=>hm _ _ b2
    .exact By (MJ ar ah) λ_ b2=>b2
    .obtain⟨c,t,aa,ad,an⟩:=ah;exact⟨c,t,aa,ad,an,dC.bD _ _⟩
   .exact ah.elim
  .exact ah.elim
 .rename_i args ats
  obtain⟨r,ah,b4⟩:=EA _ _ _ ah;split at ah
  .rename_i x y
   split at ah
   .rename_i T Bt gf Tt
    split at ah
    .rename_i bG
     refine⟨λbX hm=>?_,λb e7 ar=>?_,λdC=>?_⟩
     all_goals
      simp only[iJ];refine(b4 _).2 ?_;simp only[gf,Tt,bG,aEv]
     .exact azP ah λ_ _=>hm _ _
     .exact azQ ar ah
     .exact azR dC ah
    .exact ah.elim
   .exact ah.elim
  .exact ah.elim
 .rename_i args ats
  obtain⟨r,ah,b4⟩:=EA _ _ _ ah;split at ah
  .rename_i x y
   split at ah
   .rename_i T gf
    refine⟨λbX hm=>?_,λb e7 ar=>?_,λdC=>?_⟩
    all_goals
     simp only[iJ];refine(b4 _).2 ?_;simp only[gf]
    .exact azS ah λ_ _=>hm _ _
    .exact azT ar ah
    .exact azU dC ah
   .exact ah.elim
  .exact ah.elim
 .rename_i args ats
  obtain⟨r,ah,b4⟩:=EA _ _ _ ah;split at ah
  .rename_i x
   split at ah
   .rename_i T gf
    refine⟨λbX hm=>?_,λb e7 ar=>?_,λdC=>?_⟩
    all_goals
     simp only[iJ];refine(b4 _).2 ?_;simp only[gf]
    .exact azZ ah λ_=>hm _ _
    .exact az0 ar ah
    .exact az1 dC ah
   .exact ah.elim
  .exact ah.elim
 .rename_i T m k x
  split at ah
  .rename_i zf H7 hu
   split at ah
   .rename_i ze F1
    obtain⟨ow,ah,b4⟩:=kx ah;obtain⟨ayW,ah,k2⟩:=kx ah;obtain⟨ayY,ah,r2⟩:=zk ah;split at ah
    .rename_i r h_
     refine⟨λbX hm=>?_,λb e7 ar=>?_,λdC=>?_⟩
     all_goals
      simp only[iJ,hu,F1];refine(b4 _).2 ((k2 _).2 ((r2 _).2 ?_))
     .exact azX ah λ_=>hm _ _
     .exact azY ar ah
     .obtain⟨x,l,c,aa,ad,an⟩:=ah;exact⟨x,l,c,aa,ad,an,dC.bD _ _⟩
    .exact ah.elim
   .exact ah.elim
  .exact ah.elim
 .rename_i f args ats
  obtain⟨ayZ,ah,b4⟩:=kx ah;obtain⟨r,ah,k2⟩:=EA _ _ _ ah;split at ah
  .rename_i g c ki
   split at ah
   rotate_left
   .rename_i nb
    obtain⟨v,mg,b0⟩:=ah;refine⟨λbX hm=>?_,λb e7 ar=>?_,λdC=>?_⟩
    all_goals
     simp only[iJ];refine(b4 _).2 ((k2 _).2 ?_);simp only[nb]
    .exact⟨v,mg,vu _ _ _ b0 λr aQ=>⟨aQ.1,hm _ _ aQ.2⟩⟩
    .exact⟨v,mg,vu _ _ _ b0 λr aQ=>⟨aQ.1,h,rfl,ar,aQ.2⟩⟩
    .exact⟨v,mg,vu _ _ _ b0 λr aQ=>⟨aQ.1,aQ.2,dC⟩⟩
   rename_i nb
   refine⟨λbX hm=>?_,λb e7 ar=>?_,λdC=>?_⟩
   all_goals
    simp only[iJ];refine(b4 _).2 ((k2 _).2 ?_);simp only[nb]
   .exact ah.mono λv af b2=>vu _ _ _ b2 λr aQ=>⟨aQ.1,hm _ _ aQ.2⟩
   .refine(afZ ar ah).mono ?_
    rintro v af ⟨hQ,rfl,TQ,b2⟩;exact vu _ _ _ b2 λr aQ=>⟨aQ.1,hQ,rfl,TQ,aQ.2⟩
   .exact(af0 ah).mono λv af b2=>vu _ _ _ b2.1 λr aQ=>⟨aQ.1,aQ.2,b2.2⟩
  .rename_i x
   refine⟨λbX hm=>?_,λb e7 ar=>?_,λdC=>?_⟩
   all_goals
    simp only[iJ];refine(b4 _).2 ((k2 _).2 ?_)
   .exact ah.mono λv af b2=>vu _ _ _ b2 λr aQ=>⟨aQ.1,hm _ _ aQ.2⟩
   .refine(azN ar ah).mono ?_
    rintro v af ⟨hQ,rfl,TQ,b2⟩;exact vu _ _ _ b2 λr aQ=>⟨aQ.1,hQ,rfl,TQ,aQ.2⟩
   .exact(azO ah).mono λv af b2=>vu _ _ _ b2.1 λr aQ=>⟨aQ.1,aQ.2,b2.2⟩
  .exact ah.elim
end

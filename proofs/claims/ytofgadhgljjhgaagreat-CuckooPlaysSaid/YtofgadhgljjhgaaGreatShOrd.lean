import Derived.Test.YtofgadhgljjhgaaGreatShMem
namespace Go.cD
open Go Go.RowKit
section
variable {P:Program} {n:Nat} {e:Env}
theorem j1 {x:Operand}{K:af->Prop}(h:hN n e x K):∃s,K s/\∀bN,hN n e x bN↔bN s:=by
 cases x with
 | tmp t =>
  simp only[hN] at h
  split at h
  .rename_i s aU
   exact⟨s,h,λbN=>by simp only[hN,aU]⟩
  .exact h.elim
 | const v=>exact⟨_,h,λ_=>Iff.rfl⟩
 | global g=>exact⟨_,h,λ_=>Iff.rfl⟩
 | func f=>exact⟨_,h,λ_=>Iff.rfl⟩
theorem yn {ty:ff}{x:Operand}{K:af->Prop}(h:pB n ty e x K):∃s,K s/\∀bN,pB n ty e x bN↔bN s:=by
 cases x with
 | const v=>exact⟨_,h,λ_=>Iff.rfl⟩
 | tmp t=>exact j1 (x:= .tmp t) h
 | global g=>exact j1 (n:=n) (e:=e) (x:= .global g) h
 | func f=>exact j1 (n:=n) (e:=e) (x:= .func f) h
theorem RS:∀(l:List Operand) (K:List af->Prop),wg n e l K->∃r,K r/\∀bN,wg n e l bN↔bN r
 | [],K,h=>⟨[],h,λ_=>Iff.rfl⟩
 | x::l,K,h=>by
  obtain⟨s,aU,aa⟩:=j1 h
  obtain⟨r,aP,ad⟩:=RS l _ aU
  exact⟨_,aP,λbN=>(aa _).trans (ad _)⟩
theorem Dv:∀(l:List Operand) (iY:List TypeId) (K:List af->Prop),q_ P n e l iY K->∃r,K r/\∀bN,q_ P n e l iY bN↔bN r
 | [],_,K,h=>⟨[],h,λ_=>Iff.rfl⟩
 | x::l,[],K,h=>by
  obtain⟨s,aU,aa⟩:=j1 h
  obtain⟨r,aP,ad⟩:=Dv l [] _ aU
  exact⟨_,aP,λbN=>(aa _).trans (ad _)⟩
 | x::l,t::iY,K,h=>by
  obtain⟨s,aU,aa⟩:=yn h
  obtain⟨r,aP,ad⟩:=Dv l iY _ aU
  exact⟨_,aP,λbN=>(aa _).trans (ad _)⟩
theorem RT {qf:Nat->ff}:∀(l:List (Nat×Operand)) (K:List (Nat×af)->Prop),wh P n e qf l K->∃r,K r/\∀bN,wh P n e qf l bN↔bN r
 | [],K,h=>⟨[],h,λ_=>Iff.rfl⟩
 | (i,x)::l,K,h=>by
  obtain⟨s,aU,aa⟩:=yn h
  obtain⟨r,aP,ad⟩:=RT l _ aU
  exact⟨_,aP,λbN=>(aa _).trans (ad _)⟩
theorem RU {x:Option Operand}{K:Option af->Prop}(h:wi n e x K):∃s,K s/\∀bN,wi n e x bN↔bN s:=by
 cases x with
 | none=>exact⟨none,h,λ_=>Iff.rfl⟩
 | some x =>
  obtain⟨s,aU,aa⟩:=j1 h
  exact⟨some s,aU,λbN=>aa _⟩
end
def ns (R:(af->Prop)->Prop):Prop:=∀K,R K->∃r,∀bN,R bN↔bN r
theorem G7 {s:af}{K:IntKind->Int->Prop}(h:yi s K):∃k i,K k i/\∀bN,yi s bN↔bN k i:=by
 cases s<;>first|exact h.elim|exact⟨_,_,h,λ_=>Iff.rfl⟩
theorem wu {x:af}{yj:Nat}{K:Nat->Prop}(h:r3 x yj K):∃m,K m/\∀bN,r3 x yj bN↔bN m:=by
 obtain⟨k,i,⟨h0,aa,ag⟩,bV⟩:=G7 h
 exact⟨_,ag,λbN=>(bV _).trans ⟨λh=>h.2.2,λh=>⟨h0,aa,h⟩⟩⟩
theorem RV {len cap:Nat}{lo hi k3:Option af}{K:Nat->Nat->Nat->Prop}(h:qk len cap lo hi k3 K) :
 ∃a b c,K a b c/\∀bN,qk len cap lo hi k3 bN↔bN a b c:=by
 unfold qk at h
 split at h
 .exact⟨_,_,_,h,λbN=>by simp only[qk]⟩
 .obtain⟨l,ag,bV⟩:=wu h
  exact⟨_,_,_,ag,λbN=>by simp only[qk];exact bV _⟩
 .obtain⟨l,ag,bV⟩:=wu h
  exact⟨_,_,_,ag,λbN=>by simp only[qk];exact bV _⟩
 .obtain⟨l,ag,bV⟩:=wu h
  obtain⟨gx,ag,kz⟩:=wu ag
  exact⟨_,_,_,ag,λbN=>by simp only[qk];exact(bV _).trans (kz _)⟩
 .obtain⟨l,ag,bV⟩:=wu h
  obtain⟨gx,ag,kz⟩:=wu ag
  exact⟨_,_,_,ag,λbN=>by simp only[qk];exact(bV _).trans (kz _)⟩
 .obtain⟨l,ag,bV⟩:=wu h
  obtain⟨gx,ag,kz⟩:=wu ag
  obtain⟨o6,ag,rb⟩:=wu ag
  exact⟨_,_,_,ag,λbN=>by simp only[qk];exact(bV _).trans ((kz _).trans (rb _))⟩
 .exact h.elim
theorem awy {P:Program}{T:TypeId}{x:af}{lo hi k3:Option af}:ns (GY P T x lo hi k3):=by
 intro K h
 unfold GY at h ⊢
 split at h
 .split at h
  .obtain⟨a,b,c,_,bV⟩:=RV h
   exact⟨_,λbN=>bV _⟩
  .exact h.elim
 .split at h
  .obtain⟨a,b,c,_,bV⟩:=RV h
   exact⟨_,λbN=>bV _⟩
  .exact h.elim
 .split at h
  .obtain⟨a,b,c,_,bV⟩:=RV h
   exact⟨_,λbN=>bV _⟩
  .exact h.elim
 .exact h.elim
theorem awz {op:UnOp}{x:af}:ns (G5 op x):=by
 intro K h
 unfold G5 at h ⊢
 split at h<;>first|exact h.elim|exact⟨_,λ_=>Iff.rfl⟩
theorem awA {P:Program}{s d:TypeId}{x:af}:ns (G6 P s d x):=by
 intro K h
 unfold G6 at h ⊢
 split at h<;>first|exact h.elim|exact⟨_,λ_=>Iff.rfl⟩
theorem awB {op:BinOp}{k:IntKind}{a b:Int}:ns (RW op k a b):=by
 intro K h
 cases op<;>first|exact h.elim|exact⟨_,λ_=>Iff.rfl⟩|exact⟨_,λbN=>⟨λbR=>bR.2,λbR=>⟨h.1,bR⟩⟩⟩
theorem awC {op:BinOp}{a b:UInt64}:ns (RX op a b):=by
 intro K h
 cases op<;>first|exact h.elim|exact⟨_,λ_=>Iff.rfl⟩|exact⟨_,λbN=>⟨λbR=>bR.2,λbR=>⟨h.1,bR⟩⟩⟩
theorem adE {op:BinOp}{k:IntKind}{a:Int}{c:Nat}:ns (G8 op k a c):=by
 intro K h
 cases op<;>first|exact h.elim|exact⟨_,λ_=>Iff.rfl⟩
theorem awD {op:BinOp}{a:UInt64}{c:Nat}:ns (RY op a c):=by
 intro K h
 cases op<;>first|exact h.elim|exact⟨_,λ_=>Iff.rfl⟩
theorem adF {P:Program}{T:TypeId}{x y:af}{K:Bool->Prop}(h:At P T x y K):∃r,K r/\∀bN,At P T x y bN↔bN r:=by
 unfold At at h ⊢
 split at h
 .exact⟨_,h,λ_=>Iff.rfl⟩
 .exact⟨_,h,λ_=>Iff.rfl⟩
 .exact⟨_,h,λ_=>Iff.rfl⟩
 .exact⟨_,h,λ_=>Iff.rfl⟩
 .exact⟨_,h,λ_=>Iff.rfl⟩
 .rcases h with ⟨rfl,h⟩|⟨t,v,rfl,h⟩
  .refine⟨_,h,λbN=>⟨?_,λbR=>Or.inl ⟨rfl,bR⟩⟩⟩
   rintro (⟨_,bR⟩|⟨_,_,bR,_⟩)
   .exact bR
   .cases bR
  .refine⟨_,h,λbN=>⟨?_,λbR=>Or.inr ⟨t,v,rfl,bR⟩⟩⟩
   rintro (⟨bR,_⟩|⟨_,_,_,bR⟩)
   .cases bR
   .exact bR
 .exact h.elim
theorem adG {P:Program}{op:BinOp}{T:TypeId}{x y:af}:ns (Du P op T x y):=by
 intro K h
 unfold Du at h ⊢
 split at h
 .split at h
  .obtain⟨h0,h⟩:=h
   obtain⟨r,aP⟩:=adE K h
   rename_i aU
   exact⟨r,λbN=>by simp only[aU,if_true];exact⟨λbR=>(aP bN).1 bR.2,λbR=>⟨h0,(aP bN).2 bR⟩⟩⟩
  .split at h
   .rename_i aU ag
    subst ag
    obtain⟨r,aP⟩:=awB K h
    exact⟨r,λbN=>by simp only[aU,if_true,if_false,Bool.false_eq_true];exact aP bN⟩
   .exact h.elim
 .exact awC K h
 .exact adE K h
 .obtain⟨h0,h⟩:=h
  obtain⟨r,aP⟩:=awD K h
  exact⟨r,λbN=>⟨λbR=>(aP bN).1 bR.2,λbR=>⟨h0,(aP bN).2 bR⟩⟩⟩
 .cases op
  case add=>exact⟨_,λbN=>⟨λbR=>bR.2,λbR=>⟨h.1,bR⟩⟩⟩
  case eql=>exact⟨_,λ_=>Iff.rfl⟩
  case neq=>exact⟨_,λ_=>Iff.rfl⟩
  all_goals exact h.elim
 .cases op
  case eql =>
   obtain⟨r,_,aP⟩:=adF h
   exact⟨_,λbN=>aP _⟩
  case neq =>
   obtain⟨r,_,aP⟩:=adF h
   exact⟨_,λbN=>aP _⟩
  all_goals exact h.elim
theorem awE {P:Program}{T:TypeId}{x:af}{i:Int}:ns (GW P T x i):=by
 intro K h
 unfold GW at h ⊢
 split at h
 .split at h
  .obtain⟨q,aj,h0,aa,h⟩:=h
   exact⟨_,λbN=>⟨fun⟨dL,eB,_,_,bR⟩=>by rw[aj] at eB;cases eB;exact bR,λbR=>⟨q,aj,h0,aa,bR⟩⟩⟩
  .exact h.elim
 .split at h
  .obtain⟨h0,aa,h⟩:=h
   exact⟨_,λbN=>⟨λbR=>bR.2.2,λbR=>⟨h0,aa,bR⟩⟩⟩
  .exact h.elim
 .exact h.elim
theorem awF {P:Program}{T:TypeId}{x:af}{i:Int}:ns (GX P T x i):=by
 intro K h
 unfold GX at h ⊢
 split at h
 .split at h
  .rename_i aZ
   obtain⟨h0,aa,h⟩:=h
   exact⟨_,λbN=>by rw[if_pos aZ];exact⟨fun⟨_,_,bR⟩=>bR,λbR=>⟨h0,aa,bR⟩⟩⟩
  .exact h.elim
 .obtain⟨h0,aa,h⟩:=h
  exact⟨_,λbN=>⟨fun⟨_,_,bR⟩=>bR,λbR=>⟨h0,aa,bR⟩⟩⟩
 .exact h.elim
theorem awG {P:Program}{s:TypeId}{i:Nat}{l:List af}:ns (GV P s i l):=by
 intro K h
 unfold GV at h ⊢
 split at h
 .split at h
  .split at h
   .rename_i aZ
    exact⟨_,λbN=>by rw[if_pos aZ]⟩
   .exact h.elim
  .exact h.elim
 .exact h.elim
theorem adH {P:Program}{fU:Array Field}:∀(cx:List (Nat×af)) (l:List af) (K:List af->Prop),Ar P fU cx l K->∃r,∀bN,Ar P fU cx l bN↔bN r
 | [],l,K,h=>⟨l,λ_=>Iff.rfl⟩
 | (i,r)::cx,l,K,h=>by
  simp only[Ar] at h ⊢
  split at h
  .split at h
   .rename_i aZ
    obtain⟨a_,h⟩:=x2 h
    obtain⟨r,aP⟩:=adH cx _ K h
    exact⟨r,λbN=>by rw[if_pos aZ];exact⟨λh=>(aP bN).1 (x2 h).2,λh=>Q4 a_ ((aP bN).2 h)⟩⟩
   .exact h.elim
  .exact h.elim
theorem awH {n:Nat}:∀(cx:List (Nat×af)) (c:Vector UInt64 n) (K:Vector UInt64 n->Prop),As n cx c K->∃r,∀bN,As n cx c bN↔bN r:=by
 intro cx
 induction cx with
 | nil=>exact λc K h=>⟨c,λ_=>Iff.rfl⟩
 | cons p cx dK =>
  intro c K h
  obtain⟨i,r⟩:=p
  cases r<;>try exact h.elim
  simp only[As] at h ⊢
  split at h
  .rename_i aZ
   obtain⟨r,aP⟩:=dK _ K h
   exact⟨r,λbN=>by rw[dif_pos aZ];exact aP bN⟩
  .exact h.elim
theorem awI {P:Program}{T:TypeId}{cx:List (Nat×af)}:ns (GZ P T cx):=by
 intro K h
 unfold GZ at h ⊢
 split at h
 .split at h
  .split at h
   .rename_i aZ
    obtain⟨r,aP⟩:=adH _ _ _ h
    exact⟨_,λbN=>by rw[if_pos aZ];exact aP _⟩
   .exact h.elim
  .exact h.elim
 .split at h
  .split at h
   .rename_i aZ
    obtain⟨r,aP⟩:=awH _ _ _ h
    exact⟨_,λbN=>by rw[if_pos aZ];exact aP _⟩
   .exact h.elim
  .exact h.elim
 .exact h.elim
theorem awJ {P:Program}{T:TypeId}{x:af}:ns (G2 P T x):=by
 intro K h
 unfold G2 at h ⊢
 split at h<;>first|exact h.elim|exact⟨_,λ_=>Iff.rfl⟩
theorem adI {b:Bool}{x y:af}:ns (yl b x y):=by
 intro K h
 unfold yl at h ⊢
 split at h<;>first|exact h.elim|exact⟨_,λ_=>Iff.rfl⟩
theorem awK {P:Program}{b:Builtin}{ats:Array TypeId}{xs:List af}:ns (G3 P b ats xs):=by
 intro K h
 unfold G3 at h ⊢
 split at h
 .split at h
  .exact awJ K h
  .exact h.elim
 .split at h
  .split at h
   .exact⟨_,λ_=>Iff.rfl⟩
   .exact h.elim
  .exact h.elim
 .exact adI K h
 .exact adI K h
 .exact h.elim
theorem awL {x:af}:ns (K_ x):=by
 intro K h
 unfold K_ at h ⊢
 split at h
 .exact⟨_,λ_=>Iff.rfl⟩
 .obtain⟨p,rfl,ag⟩:=h
  exact⟨_,λbN=>⟨fun⟨eu,aS,bR⟩=>by cases aS;exact bR,λbR=>⟨p,rfl,bR⟩⟩⟩
 .exact⟨_,λ_=>Iff.rfl⟩
 .exact h.elim
theorem awM {c a b:af}:ns (G4 c a b):=by
 intro K h
 unfold G4 at h ⊢
 split at h
 .exact⟨_,λ_=>Iff.rfl⟩
 .rename_i c _
  cases c
  .exact⟨_,λ_=>Iff.rfl⟩
  .exact⟨_,λ_=>Iff.rfl⟩
 .exact h.elim
theorem awN {P:Program}{n:Nat}{op:BinOp}{T:TypeId}{y:Operand}{e:Env}{a:af}:ns (yc P n op T y e a):=by
 intro K h
 unfold yc at h ⊢
 split at h
 .exact adG K h
 .obtain⟨b,ag,bV⟩:=j1 h
  split at ag
  .exact ag.elim
  .rename_i l fx
   split at ag
   .rename_i r aP
    cases op<;>try exact(show False from ag).elim
    .exact⟨.b r,λbN=>(bV _).trans (by simp only[aP,ym])⟩
    .exact⟨.b (!r),λbN=>(bV _).trans (by simp only[aP,ym])⟩
   .exact ag.elim
  .rename_i aE aQ m7 aY
   split at ag
   .rename_i hm
    subst hm
    split at ag
    .rename_i r aP
     cases op<;>try exact(show False from ag).elim
     .exact⟨.b r,λbN=>(bV _).trans (by simp only[dif_pos,aP,ym])⟩
     .exact⟨.b (!r),λbN=>(bV _).trans (by simp only[dif_pos,aP,ym])⟩
    .exact ag.elim
   .exact ag.elim
  .rename_i bQ awO UR
   obtain⟨r,aP⟩:=adG K ag
   refine⟨r,λbN=>(bV _).trans ?_⟩
   split
   .rename_i x;exact(bQ x rfl).elim
   .exact(awO _ _ rfl rfl).elim
   .exact(UR _ _ _ _ rfl rfl).elim
   .exact aP bN
theorem au_ {P:Program}{n:Nat}{o:Op}{ty:TypeId}{e:Env}:ns (wj P n o ty e):=by
 intro K h
 unfold wj at h ⊢
 split at h
 .obtain⟨s,_,bV⟩:=yn h;exact⟨s,bV⟩
 .obtain⟨s,_,bV⟩:=yn h;exact⟨s,bV⟩
 .obtain⟨c,h,bV⟩:=j1 h
  obtain⟨a,h,kz⟩:=j1 h
  obtain⟨b,h,rb⟩:=j1 h
  obtain⟨r,aP⟩:=awM K h
  exact⟨r,λbN=>(bV _).trans ((kz _).trans ((rb _).trans (aP bN)))⟩
 .obtain⟨c,h,bV⟩:=j1 h
  obtain⟨r,aP⟩:=awL K h
  exact⟨r,λbN=>(bV _).trans (aP bN)⟩
 .obtain⟨c,h,bV⟩:=j1 h
  obtain⟨r,aP⟩:=awN K h
  exact⟨r,λbN=>(bV _).trans (aP bN)⟩
 .obtain⟨c,h,bV⟩:=j1 h
  obtain⟨r,aP⟩:=awz K h
  exact⟨r,λbN=>(bV _).trans (aP bN)⟩
 .obtain⟨c,h,bV⟩:=j1 h
  obtain⟨r,aP⟩:=awA K h
  exact⟨r,λbN=>(bV _).trans (aP bN)⟩
 .split at h
  .obtain⟨c,h,bV⟩:=j1 h
   split at h
   .exact⟨_,λbN=>bV _⟩
   .exact h.elim
  .exact h.elim
 .obtain⟨c,h,bV⟩:=j1 h
  split at h
  .obtain⟨r,aP⟩:=awG K h
   exact⟨r,λbN=>(bV _).trans (aP bN)⟩
  .exact h.elim
 .obtain⟨c,h,bV⟩:=j1 h
  obtain⟨j,h,kz⟩:=j1 h
  obtain⟨k,i,h,rb⟩:=G7 h
  obtain⟨r,aP⟩:=awE K h
  exact⟨r,λbN=>(bV _).trans ((kz _).trans ((rb _).trans (aP bN)))⟩
 .obtain⟨c,h,bV⟩:=j1 h
  obtain⟨j,h,kz⟩:=j1 h
  obtain⟨k,i,h,rb⟩:=G7 h
  obtain⟨r,aP⟩:=awF K h
  exact⟨r,λbN=>(bV _).trans ((kz _).trans ((rb _).trans (aP bN)))⟩
 .obtain⟨c,h,bV⟩:=j1 h
  split at h
  .split at h
   .rename_i r aP
    exact⟨r,λbN=>(bV _).trans (by simp only[aP])⟩
   .exact h.elim
  .exact h.elim
 .obtain⟨c,h,bV⟩:=j1 h
  obtain⟨lo,h,kz⟩:=RU h
  obtain⟨hi,h,rb⟩:=RU h
  obtain⟨k3,h,RZ⟩:=RU h
  obtain⟨r,aP⟩:=awy K h
  exact⟨r,λbN=>(bV _).trans ((kz _).trans ((rb _).trans ((RZ _).trans (aP bN))))⟩
 .split at h
  .rename_i aZ
   obtain⟨c,h,bV⟩:=RS _ _ h
   exact⟨_,λbN=>by rw[if_pos aZ];exact bV _⟩
  .exact h.elim
 .split at h
  .exact h.elim
  .obtain⟨c,h,bV⟩:=yn h
   exact⟨_,λbN=>bV _⟩
  .exact h.elim
 .obtain⟨c,h,bV⟩:=RT _ _ h
  obtain⟨r,aP⟩:=awI K h
  exact⟨r,λbN=>(bV _).trans (aP bN)⟩
 .obtain⟨c,h,bV⟩:=RS _ _ h
  obtain⟨r,aP⟩:=awK K h
  exact⟨r,λbN=>(bV _).trans (aP bN)⟩
 .exact h.elim
def kN (h:ak):Prop:=∃N,∀b,N<=b->h b=none
theorem kN.bA {h:ak}(au:kN h)(b:Nat)(o:Obj):kN (bA h b o):=by
 obtain⟨N,ji⟩:=au
 refine⟨max N (b+1),λx ai=>?_⟩
 rw[cQ _ _ (by omega)]
 exact ji x (by omega)
theorem eQ.Aj {h:ak}{w:World}(c:eQ h w):kN h:=by
 refine⟨w.heap.size,λb au=>?_⟩
 cases ai:h b with
 | none=>rfl
 | some o=>exact absurd (c.lt ai) (by omega)
theorem kN.world {h:ak}(au:kN h):∃w,eQ h w:=by
 obtain⟨N,ji⟩:=au
 refine⟨{ (default:World) with heap:=Array.ofFn (n:=N) λi=>(h i.1).getD default },λb o dS=>?_⟩
 have ca:b<N:=by
  rcases Nat.lt_or_ge b N with aa|aa
  .exact aa
  .rw[ji b aa] at dS;cases dS
 simp[ca,dS]
theorem kN.fresh {h:ak}(au:kN h):∃b,h b=none:=let ⟨N,ji⟩:=au;⟨N,ji N (Nat.le_refl _)⟩
theorem Au {h:ak}{q:aD}{l:List Value}{K bN:ak->Prop}(ag:aX h q l K)(hm:∀ah,K ah->bN ah):aX h q l bN :=
 let ⟨c,t,au,aT,eM⟩:=ag;⟨c,t,au,aT,hm _ eM⟩
theorem adJ {h:ak}{o:Obj}{K bN:Nat->ak->Prop}(ag:bj h o K)(hm:∀b ah,K b ah->bN b ah):bj h o bN:=λb au=>hm _ _ (ag b au)
def K2 {α:Type}(b:Nat)(o:Obj)(K:α->ak->Prop):α->ak->Prop:=λr h=>∃ah,h=bA ah b o/\ah b=none/\K r ah
theorem awP {h:ak}{b:Nat}(o:Obj)(au:h b=none){x i:Nat}{v:Value}(bQ:br h x i=some v):br (bA h b o) x i=some v:=by
 have ai:x≠b:=by
  intro e;subst e
  simp[br,au] at bQ
 unfold br at bQ ⊢
 rw[cQ _ _ ai];exact bQ
theorem R0 {h:ak}{b:Nat}(o:Obj)(au:h b=none){x:Nat}:∀ {l:List Value} {i:Nat},fQ h x i l->fQ (bA h b o) x i l
 | [],_,_=>trivial
 | _::_,_,aP=>⟨awP o au aP.1,R0 o au aP.2⟩
theorem mb.beside {h:ak}{b:Nat}(o:Obj)(au:h b=none){q:aD}{r:af}(aU:mb h q r):mb (bA h b o) q r:=R0 o au aU
theorem Lb {h:ak}{b:Nat}{o:Obj}(au:h b=none){q:aD}{l:List Value}{K:ak->Prop}(ag:aX h q l K) :
 aX (bA h b o) q l λah=>∃hq,ah=bA hq b o/\hq b=none/\K hq:=by
 obtain⟨c,t,aj,aT,eM⟩:=ag
 have df:q.b≠b:=by intro e;rw[e,au] at aj;cases aj
 refine⟨c,t,by rw[cQ _ _ df];exact aj,aT,_,K4 h _ _ (Ne.symm df),?_,eM⟩
 rw[cQ _ _ (Ne.symm df)];exact au
theorem awQ {h:ak}{b:Nat}{o p:Obj}(au:h b=none){K:Nat->ak->Prop}(ag:bj h p K) :
 bj (bA h b o) p λx ah=>∃hq,ah=bA hq b o/\hq b=none/\K x hq:=by
 intro x ai
 have df:x≠b:=by intro e;subst e;rw[eH] at ai;cases ai
 rw[cQ _ _ df] at ai
 refine⟨_,K4 h _ _ (Ne.symm df),?_,ag x ai⟩
 rw[cQ _ _ (Ne.symm df)];exact au
theorem wv {h:ak}{x:af}{dA n:Nat}{K bN:List Value->Prop}(ag:n3 h x dA n K)(hm:∀l,K l->bN l):n3 h x dA n bN:=by
 unfold n3 at ag ⊢
 split at ag
 .obtain⟨l,aa,ad,an,aK⟩:=ag;exact⟨l,aa,ad,an,hm _ aK⟩
 .exact⟨ag.1,hm _ ag.2⟩
 .exact ag.elim
theorem R1 {h:ak}{b:Nat}{o:Obj}(au:h b=none){x:af}{dA n:Nat}{K:List Value->Prop}(ag:n3 h x dA n K):n3 (bA h b o) x dA n K:=by
 unfold n3 at ag ⊢
 split at ag
 .obtain⟨l,aa,ad,an,aK⟩:=ag
  refine⟨l,aa,ad,?_,aK⟩
  split at an
  .exact R0 o au an
  .exact an
 .exact ag
 .exact ag.elim
theorem Dw {x:af}{K bN:Nat->Prop}(ag:sy x K)(hm:∀n,K n->bN n):sy x bN:=by
 unfold sy at ag ⊢
 split at ag<;>first|exact ag.elim|exact hm _ ag
theorem adK {P:Program}{f:FuncId}{args:List Value}{h:ak}{b:Nat}{o:Obj}{Q:Value->ak->Prop}(au:h b=none)(ag:oq P f args h Q) :
 oq P f args (bA h b o) λv ah=>∃hq,ah=bA hq b o/\hq b=none/\Q v hq:=by
 refine⟨ag.1,λw c=>?_⟩
 have gG:eQ h w:=by
  intro x y ai
  have df:x≠b:=by intro e;subst e;rw[au] at ai;cases ai
  exact c x y (by rw[cQ _ _ df];exact ai)
 have hw:w.heap[b]? =some o:=c b o (eH _ _ _)
 have ca:b<w.heap.size:=(Array.getElem?_eq_some_iff.1 hw).1
 refine(ag.2 w gG).mono ?_
 rintro e cg ⟨v,ah,rfl,fI,cc,g⟩
 obtain⟨hA,R2⟩:=g.rest b au ca
 refine⟨v,bA ah b o,rfl,⟨ah,rfl,hA,fI⟩,?_,?_⟩
 .intro x y ai
  by_cases e:x=b
  .subst e;rw[eH] at ai;cases ai;rw[R2,hw]
  .rw[cQ _ _ e] at ai;exact cc x y ai
 .refine⟨g.os,g.tape,g.output,g.size,λx ai aT=>?_⟩
  have df:x≠b:=by intro e;subst e;rw[eH] at ai;cases ai
  rw[cQ _ _ df] at ai
  rw[cQ _ _ df]
  exact g.rest x ai aT
theorem awR {P:Program}{l:Nat}{args:List Value}{h:ak}{b:Nat}{o:Obj}{Q:Value->ak->Prop}(au:h b=none)(ag:m8 P l args h Q) :
 m8 P l args (bA h b o) λv ah=>∃hq,ah=bA hq b o/\hq b=none/\Q v hq:=by
 intro w c
 have gG:eQ h w:=by
  intro x y ai
  have df:x≠b:=by intro e;subst e;rw[au] at ai;cases ai
  exact c x y (by rw[cQ _ _ df];exact ai)
 have hw:w.heap[b]? =some o:=c b o (eH _ _ _)
 have ca:b<w.heap.size:=(Array.getElem?_eq_some_iff.1 hw).1
 obtain⟨r,aa,ad,an⟩:=ag w gG
 refine⟨r,aa,ad,an.mono ?_⟩
 rintro e cg ⟨v,ah,rfl,fI,cc,g⟩
 obtain⟨hA,R2⟩:=g.rest b au ca
 refine⟨v,bA ah b o,rfl,⟨ah,rfl,hA,fI⟩,?_,?_⟩
 .intro x y ai
  by_cases e:x=b
  .subst e;rw[eH] at ai;cases ai;rw[R2,hw]
  .rw[cQ _ _ e] at ai;exact cc x y ai
 .refine⟨g.os,g.tape,g.output,g.size,λx ai aT=>?_⟩
  have df:x≠b:=by intro e;subst e;rw[eH] at ai;cases ai
  rw[cQ _ _ df] at ai
  rw[cQ _ _ df]
  exact g.rest x ai aT
theorem adL {P:Program}{f:FuncId}{args:List Value}{h:ak}{Q:Value->ak->Prop}(ag:oq P f args h Q):oq P f args h λv ah=>Q v ah/\kN ah :=
 ⟨ag.1,λw c=>(ag.2 w c).mono λ_ _ ⟨v,ah,he,fI,cc,g⟩=>⟨v,ah,he,⟨fI,cc.Aj⟩,cc,g⟩⟩
theorem awS {P:Program}{l:Nat}{args:List Value}{h:ak}{Q:Value->ak->Prop}(ag:m8 P l args h Q):m8 P l args h λv ah=>Q v ah/\kN ah:=λw c =>
 let ⟨r,aa,ad,an⟩:=ag w c
 ⟨r,aa,ad,an.mono λ_ _ ⟨v,ah,he,fI,cc,g⟩=>⟨v,ah,he,⟨fI,cc.Aj⟩,cc,g⟩⟩
theorem awT {P:Program}{x:Value}{args:List Value}{h:ak}{b:Nat}{o:Obj}{Q:Value->ak->Prop}(au:h b=none)(ag:gi P x args h Q) :
 gi P x args (bA h b o) λv ah=>∃hq,ah=bA hq b o/\hq b=none/\Q v hq:=by
 unfold gi at ag ⊢
 split at ag
 .exact⟨ag.1,adK au ag.2⟩
 .exact⟨ag.1,ag.2.1,awR au ag.2.2⟩
 .exact ag.elim
theorem awU {P:Program}{x:Value}{args:List Value}{h:ak}{Q:Value->ak->Prop}(ag:gi P x args h Q):gi P x args h λv ah=>Q v ah/\kN ah:=by
 unfold gi at ag ⊢
 split at ag
 .exact⟨ag.1,adL ag.2⟩
 .exact⟨ag.1,ag.2.1,awS ag.2.2⟩
 .exact ag.elim
theorem awV {P:Program}{T:TypeId}{x:ar}{y:af}{h:ak}{K bN:ar->ak->Prop}(ag:fh P T x y h K)(hm:∀r ah,K r ah->bN r ah):fh P T x y h bN:=by
 unfold fh at ag ⊢
 split at ag
 .split at ag
  .refine Dw ag λn ag=>wv ag λl ag=>?_
   cases aZ:decide (x.len+n<=x.cap) with
   | true =>
    rw[aZ] at ag
    simp only[cond_true] at ag ⊢
    split at ag
    .exact Au ag λ_ bR=>hm _ _ bR
    .exact⟨ag.1,hm _ _ ag.2⟩
   | false =>
    rw[aZ] at ag
    simp only[cond_false] at ag ⊢
    exact⟨ag.1,ag.2.1,wv ag.2.2 λx_ bR nm qC=>adJ (bR nm qC) λ_ _ ad=>hm _ _ ad⟩
  .exact ag.elim
 .exact ag.elim
theorem awW {P:Program}{T:TypeId}{x:ar}{y:af}{h:ak}{b:Nat}{o:Obj}(au:h b=none){K:ar->ak->Prop}(ag:fh P T x y h K) :
 fh P T x y (bA h b o) (K2 b o K):=by
 unfold fh at ag ⊢
 split at ag
 .split at ag
  .refine Dw ag λn ag=>wv (R1 au ag) λl ag=>?_
   cases aZ:decide (x.len+n<=x.cap) with
   | true =>
    rw[aZ] at ag
    simp only[cond_true] at ag ⊢
    split at ag
    .exact Au (Lb au ag) λ_ bR=>bR
    .exact⟨ag.1,h,rfl,au,ag.2⟩
   | false =>
    rw[aZ] at ag
    simp only[cond_false] at ag ⊢
    exact⟨ag.1,ag.2.1,wv (R1 au ag.2.2) λx_ bR nm qC=>adJ (awQ au (bR nm qC)) λ_ _ ad=>ad⟩
  .exact ag.elim
 .exact ag.elim
theorem awX {P:Program}{T:TypeId}{x:ar}{y:af}{h:ak}(dh:kN h){K:ar->ak->Prop}(ag:fh P T x y h K) :
 fh P T x y h (λr ah=>K r ah/\kN ah):=by
 unfold fh at ag ⊢
 split at ag
 .split at ag
  .refine Dw ag λn ag=>wv ag λl ag=>?_
   cases aZ:decide (x.len+n<=x.cap) with
   | true =>
    rw[aZ] at ag
    simp only[cond_true] at ag ⊢
    split at ag
    .obtain⟨c,t,aa,ad,an⟩:=ag
     exact⟨c,t,aa,ad,an,dh.bA _ _⟩
    .exact⟨ag.1,ag.2,dh⟩
   | false =>
    rw[aZ] at ag
    simp only[cond_false] at ag ⊢
    exact⟨ag.1,ag.2.1,wv ag.2.2 λx_ bR nm qC b Bi=>⟨bR nm qC b Bi,dh.bA _ _⟩⟩
  .exact ag.elim
 .exact ag.elim
theorem awY {P:Program}{T:TypeId}{x:ar}{y:af}{h:ak}{K bN:Nat->ak->Prop}(ag:l4 P T x y h K)(hm:∀r ah,K r ah->bN r ah):l4 P T x y h bN:=by
 unfold l4 at ag ⊢
 split at ag
 .split at ag
  .refine Dw ag λn ag=>wv ag λl ag=>?_
   split at ag
   .exact Au ag λ_ bR=>hm _ _ bR
   .exact⟨ag.1,hm _ _ ag.2⟩
  .exact ag.elim
 .exact ag.elim
theorem awZ {P:Program}{T:TypeId}{x:ar}{y:af}{h:ak}{b:Nat}{o:Obj}(au:h b=none){K:Nat->ak->Prop}(ag:l4 P T x y h K) :
 l4 P T x y (bA h b o) (K2 b o K):=by
 unfold l4 at ag ⊢
 split at ag
 .split at ag
  .refine Dw ag λn ag=>wv (R1 au ag) λl ag=>?_
   split at ag
   .exact Au (Lb au ag) λ_ bR=>bR
   .exact⟨ag.1,h,rfl,au,ag.2⟩
  .exact ag.elim
 .exact ag.elim
theorem aw0 {P:Program}{T:TypeId}{x:ar}{y:af}{h:ak}(dh:kN h){K:Nat->ak->Prop}(ag:l4 P T x y h K) :
 l4 P T x y h (λr ah=>K r ah/\kN ah):=by
 unfold l4 at ag ⊢
 split at ag
 .split at ag
  .refine Dw ag λn ag=>wv ag λl ag=>?_
   split at ag
   .obtain⟨c,t,aa,ad,an⟩:=ag
    exact⟨c,t,aa,ad,an,dh.bA _ _⟩
   .exact⟨ag.1,ag.2,dh⟩
  .exact ag.elim
 .exact ag.elim
inductive GN where
 | qi|read|act|new
 deriving DecidableEq
def cls:Op->GN
 | .load _ _=> .read
 | .store _ _ _=> .act
 | .box _ _=> .new
 | .alloc _=> .new
 | .buildSlice _ _ _=> .new
 | .makeSlice _ _ _=> .new
 | .makeMap _ none=> .new
 | .call { callee:= .builtin .append,.. }=> .act
 | .call { callee:= .builtin .copy,.. }=> .act
 | .call { callee:= .value _,.. }=> .act
 | .call { callee:= .builtin .clear,.. }=> .act
 | .mapUpdate _ _ _ _=> .act
 | _=> .qi
def K1 (R:ak->(af->ak->Prop)->Prop):Prop :=
 ∃(o:Obj) (mk:Nat->af),∀ah bN,R ah bN↔∀b,ah b=none->bN (mk b) (bA ah b o)
mutual
theorem uz:∀(t:ff) (K bN:af->Prop),Ab t K->(∀r,K r->bN r)->Ab t bN
 | .i k,K,bN,⟨n,ag⟩,hm=>⟨n,hm _ ag⟩
 | .u,K,bN,⟨n,ag⟩,hm=>⟨n,hm _ ag⟩
 | .b,K,bN,⟨n,ag⟩,hm=>⟨n,hm _ ag⟩
 | .p,K,bN,⟨n,ag⟩,hm=>⟨n,hm _ ag⟩
 | .f,K,bN,⟨n,c,ag⟩,hm=>⟨n,c,hm _ ag⟩
 | .hM,K,bN,⟨n,ag⟩,hm=>⟨n,hm _ ag⟩
 | .s,K,bN,⟨n,ag⟩,hm=>⟨n,hm _ ag⟩
 | .str,K,bN,⟨n,ag⟩,hm=>⟨n,hm _ ag⟩
 | .m,K,bN,⟨n,ag⟩,hm=>⟨n,hm _ ag⟩
 | .ws n,K,bN,⟨c,ag⟩,hm=>⟨c,hm _ ag⟩
 | .dt l,K,bN,aT,hm=>R3 l _ _ aT λr aP=>hm _ aP
 | .ja l,K,bN,aT,hm=>R3 l _ _ aT λr aP=>hm _ aP
 | .v,K,bN,⟨x,ag⟩,hm=>⟨x,hm _ ag⟩
theorem R3:∀(l:List ff) (K bN:List af->Prop),C_ l K->(∀r,K r->bN r)->C_ l bN
 | [],K,bN,ag,hm=>hm _ ag
 | t::l,K,bN,ag,hm=>uz t _ _ ag λr aP=>R3 l _ _ aP λrs GJ=>hm _ GJ
end
mutual
theorem adM (h:ak)(b:Nat):∀(t:ff) (o:Nat) (K:af->Prop),Da h b t o K ->
 ∃r,K r/\fQ h b o (af.cells r)/\r≠.no/\(af.cells r).length=t.size/\∀ah bN,fQ ah b o (af.cells r)->bN r->Da ah b t o bN
 | .i k,o,K,⟨n,aH,ag⟩=>⟨_,ag,⟨aH,trivial⟩,by simp,rfl,λ_ _ aP gp=>⟨n,aP.1,gp⟩⟩
 | .u,o,K,⟨n,aH,ag⟩=>⟨_,ag,⟨aH,trivial⟩,by simp,rfl,λ_ _ aP gp=>⟨n,aP.1,gp⟩⟩
 | .b,o,K,⟨n,aH,ag⟩=>⟨_,ag,⟨aH,trivial⟩,by simp,rfl,λ_ _ aP gp=>⟨n,aP.1,gp⟩⟩
 | .p,o,K,⟨n,aH,ag⟩=>⟨_,ag,⟨aH,trivial⟩,by simp,rfl,λ_ _ aP gp=>⟨n,aP.1,gp⟩⟩
 | .f,o,K,⟨n,c,aH,ag⟩=>⟨_,ag,⟨aH,trivial⟩,by simp,rfl,λ_ _ aP gp=>⟨n,c,aP.1,gp⟩⟩
 | .hM,o,K,⟨n,aH,ag⟩=>⟨_,ag,⟨aH,trivial⟩,by simp,rfl,λ_ _ aP gp=>⟨n,aP.1,gp⟩⟩
 | .s,o,K,⟨n,aH,ag⟩=>⟨_,ag,⟨aH,trivial⟩,by simp,rfl,λ_ _ aP gp=>⟨n,aP.1,gp⟩⟩
 | .str,o,K,⟨n,aH,ag⟩=>⟨_,ag,⟨aH,trivial⟩,by simp,rfl,λ_ _ aP gp=>⟨n,aP.1,gp⟩⟩
 | .m,o,K,⟨n,aH,ag⟩=>⟨_,ag,⟨aH,trivial⟩,by simp,rfl,λ_ _ aP gp=>⟨n,aP.1,gp⟩⟩
 | .ws n,o,K,⟨c,aZ,ag⟩=>by
  refine⟨.ws n c,ag,?_,by simp,by simp[af.cells,ff.size],λah bN aP gp=>⟨c,?_,gp⟩⟩
  .rw[pN];intro i hi
   have b5:i<n:=by simpa [af.cells] using hi
   rw[aZ i b5];simp[af.cells]
  .intro i hi
   have:=(pN ah b _ o).1 aP i (by simpa [af.cells] using hi)
   rw[this];simp[af.cells]
 | .dt l,o,K,aT=>by
  obtain⟨r,ag,aP,aH,c_⟩:=adN h b l o _ aT
  exact⟨.dt r,ag,aP,by simp,aH,λah bN R4 gp=>c_ ah _ R4 gp⟩
 | .ja _,_,_,aT=>aT.elim
 | .v,o,K,⟨x,ai,aa,ag⟩=>⟨_,ag,⟨ai,trivial⟩,by simp,rfl,λ_ _ aP gp=>⟨x,aP.1,aa,gp⟩⟩
theorem adN (h:ak)(b:Nat):∀(l:List ff) (o:Nat) (K:List af->Prop),GI h b l o K ->
 ∃r,K r/\fQ h b o (af.gn r)/\(af.gn r).length=ff.q8 l/\∀ah bN,fQ ah b o (af.gn r)->bN r->GI ah b l o bN
 | [],o,K,ag=>⟨[],ag,trivial,rfl,λ_ _ _ gp=>gp⟩
 | t::l,o,K,ag=>by
  obtain⟨r,kl,aP,_,aH,c_⟩:=adM h b t o _ ag
  obtain⟨rs,jO,GJ,Gg,aw1⟩:=adN h b l _ _ kl
  refine⟨r::rs,jO,?_,by simp[af.gn,ff.q8,aH,Gg],λah bN R4 gp=>?_⟩
  .show fQ h b o (af.cells r++af.gn rs)
   rw[Q5,aH];exact⟨aP,GJ⟩
  .have nb:fQ ah b o (af.cells r++af.gn rs):=R4
   rw[Q5,aH] at nb
   exact c_ ah _ nb.1 (aw1 ah _ nb.2 gp)
end
theorem aw2 {P:Program}{T:TypeId}{h:ak}{q:aD}{K:af->Prop}(aT:ya P T h q K) :
 ∃r,K r/\mb h q r/\r≠.no/\∀ah bN,mb ah q r->bN r->ya P T ah q bN:=by
 unfold ya at aT
 split at aT
 .rename_i aZ
  obtain⟨r,ag,aP,aH,_,c_⟩:=adM _ _ _ _ _ aT
  exact⟨r,ag,aP,aH,λah bN aU gp=>by unfold ya;rw[if_pos aZ];exact c_ ah bN aU gp⟩
 .exact aT.elim
def ox (n:Nat)(o:Op)(e:Env):Option aD :=
 match o with
 | .load _ (.tmp t)=>match (if t<n then e t else none) with|some (.p q)=>some q|_=>none
 | .load _ (.global g)=>some ⟨g,0⟩
 | _=>none
section
variable {P:Program} {n:Nat} {o:Op} {ty:TypeId} {e:Env} {h:ak} {K:af->ak->Prop}
theorem ac6 (aZ:cls o= .qi):h8 P n o ty e h K=wj P n o ty e λr=>K r h:=by
 unfold h8
 split<;>first|(simp[cls] at aZ;done)|rfl
theorem avb (aZ:cls o= .read)(ag:h8 P n o ty e h K) :
 ∃q r,ox n o e=some q/\K r h/\mb h q r/\r≠.no/\∀ah bN,mb ah q r->bN r ah->h8 P n o ty e ah bN:=by
 obtain⟨T,a,rfl⟩:∃T a,o= .load T a:=by
  cases o with
  | load T a=>exact⟨T,a,rfl⟩
  | makeMap t r=>cases r<;>simp[cls] at aZ
  | call c =>
   obtain⟨callee,args,ats⟩:=c
   cases callee with
   | builtin b=>cases b<;>simp[cls] at aZ
   | value f=>simp[cls] at aZ
   | invoke r m=>simp[cls] at aZ
  | _=>simp[cls] at aZ
 simp only[h8] at ag
 obtain⟨s,ag,bV⟩:=j1 ag
 split at ag
 .rename_i q
  obtain⟨r,ag,aU,aH,c_⟩:=aw2 ag
  refine⟨q,r,?_,ag,aU,aH,λah bN pq gp=>?_⟩
  .cases a with
   | tmp t =>
    have:=(bV (λcX=>cX= .p q)).2 rfl
    simp only[hN] at this
    simp only[ox]
    split at this
    .rename_i s pq;subst this;rw[pq]
    .exact this.elim
   | const v =>
    exfalso
    have:=(bV (λcX=>cX= .p q)).2 rfl
    simp only[hN,uy] at this
    split at this<;>first|cases this|(split at this<;>cases this)
   | global g =>
    have:=(bV (λcX=>cX= .p q)).2 rfl
    simp only[hN] at this
    cases this;rfl
   | func f =>
    exfalso
    have:=(bV (λcX=>cX= .p q)).2 rfl
    simp only[hN] at this
    cases this
  .simp only[h8]
   exact(bV _).2 (c_ ah _ pq gp)
 .exact ag.elim
theorem avc (aZ:cls o= .new)(ag:h8 P n o ty e h K):K1 (h8 P n o ty e):=by
 unfold h8 at ag
 split at ag<;>try (simp[cls] at aZ;done)
 .obtain⟨s,ag,bV⟩:=yn ag
  obtain⟨a_,ag⟩:=x2 ag
  exact⟨_,λb=> .p ⟨b,0⟩,λah bN=>by simp only[h8];exact(bV _).trans ⟨λh=>(x2 h).2,λh=>Q4 a_ h⟩⟩
 .split at ag
  .rename_i z bc
   exact⟨_,λb=> .p ⟨b,0⟩,λah bN=>by simp only[h8,bc];exact Iff.rfl⟩
  .exact ag.elim
 .rename_i T len cx
  obtain⟨s,ag,bV⟩:=RT _ _ ag
  have vY:∀h (K:ar->ak->Prop),Am P T len s h K->K1 (λh (K:af->ak->Prop)=>Am P T len s h λr h=>K (.s r) h):=by
   intro h K ag
   unfold Am at ag
   split at ag
   .rename_i el hu
    split at ag
    .rename_i dA z bc wm
     split at ag
     .rename_i s3
      exact⟨_,λb=> .s ⟨some ⟨b,0⟩,len,len,none⟩,λah bN=>by unfold Am;simp only[hu,bc,wm];rw[if_pos s3];exact Iff.rfl⟩
     .exact ag.elim
    .exact ag.elim
   .exact ag.elim
  obtain⟨e3,mk,aa⟩:=vY _ _ ag
  exact⟨e3,mk,λah bN=>by simp only[h8];exact(bV _).trans (aa ah bN)⟩
 .rename_i T l c
  obtain⟨s,ag,bV⟩:=j1 ag
  obtain⟨s2,ag,kz⟩:=j1 ag
  obtain⟨k,i,ag,rb⟩:=G7 ag
  obtain⟨hJ,dw,ag,RZ⟩:=G7 ag
  have vY:∀h (K:ar->ak->Prop),Ao P T i dw h K->K1 (λh (K:af->ak->Prop)=>Ao P T i dw h λr h=>K (.s r) h):=by
   intro h K ag
   unfold Ao at ag
   split at ag
   .rename_i el hu
    split at ag
    .rename_i dA z by_ bc wm kY
     obtain⟨aa,ad,an,aK,ag⟩:=ag
     exact⟨_,λb=> .s ⟨some ⟨b,0⟩,i.toNat,dw.toNat,none⟩,λah bN=>by unfold Ao;simp only[hu,bc,wm,kY];exact⟨λbR=>bR.2.2.2.2,λgp=>⟨aa,ad,an,aK,gp⟩⟩⟩
    .exact ag.elim
   .exact ag.elim
  obtain⟨e3,mk,aa⟩:=vY _ _ ag
  exact⟨e3,mk,λah bN=>by simp only[h8];exact(bV _).trans ((kz _).trans ((rb _).trans ((RZ _).trans (aa ah bN))))⟩
 .exact⟨_,λb=> .m (some b),λah bN=>by simp only[h8];exact Iff.rfl⟩
theorem aw3 {h:ak}{r:Option Nat}{k:UInt64}{v:Value}{K bN:ak->Prop}(ag:sL h r k v K)(hm:∀ah,K ah->bN ah):sL h r k v bN :=
 let ⟨b,l,c,aa,ad,an⟩:=ag;⟨b,l,c,aa,ad,hm _ an⟩
theorem aw4 {h:ak}{b:Nat}{o:Obj}(au:h b=none){r:Option Nat}{k:UInt64}{v:Value}{K:ak->Prop}(ag:sL h r k v K) :
 sL (bA h b o) r k v λah=>∃hq,ah=bA hq b o/\hq b=none/\K hq:=by
 obtain⟨x,l,c,aa,ad,an⟩:=ag
 have df:x≠b:=by intro e;rw[e,au] at ad;cases ad
 exact⟨x,l,c,aa,by rw[cQ _ _ df];exact ad,_,K4 h _ _ (Ne.symm df),by rw[cQ _ _ (Ne.symm df)];exact au,an⟩
theorem aw5 {h:ak}{T:TypeId}{x:ar}{K bN:ak->Prop}(ag:r2 P T x h K)(hm:∀ah,K ah->bN ah):r2 P T x h bN:=by
 unfold r2 at ag ⊢
 split at ag
 .split at ag
  .split at ag
   .rename_i aa
    simp only[aa,if_true]
    cases h0:decide (x.len=0) with
    | true=>rw[h0] at ag;exact hm _ ag
    | false=>rw[h0] at ag;obtain⟨q,aj,ag⟩:=ag;exact⟨q,aj,Au ag hm⟩
   .exact ag.elim
  .exact ag.elim
 .exact ag.elim
theorem aw6 {h:ak}{b:Nat}{o:Obj}(au:h b=none){T:TypeId}{x:ar}{K:ak->Prop}(ag:r2 P T x h K) :
 r2 P T x (bA h b o) λah=>∃hq,ah=bA hq b o/\hq b=none/\K hq:=by
 unfold r2 at ag ⊢
 split at ag
 .split at ag
  .split at ag
   .rename_i aa
    simp only[aa,if_true]
    cases h0:decide (x.len=0) with
    | true=>rw[h0] at ag;exact⟨h,rfl,au,ag⟩
    | false=>rw[h0] at ag;obtain⟨q,aj,ag⟩:=ag;exact⟨q,aj,Lb au ag⟩
   .exact ag.elim
  .exact ag.elim
 .exact ag.elim
theorem aw7 {h:ak}{T:TypeId}{x:ar}{K:ak->Prop}(dh:kN h)(ag:r2 P T x h K):r2 P T x h λah=>K ah/\kN ah:=by
 unfold r2 at ag ⊢
 split at ag
 .split at ag
  .split at ag
   .rename_i aa
    simp only[aa,if_true]
    cases h0:decide (x.len=0) with
    | true=>rw[h0] at ag;exact⟨ag,dh⟩
    | false=>rw[h0] at ag;obtain⟨q,aj,c,t,aq,aM,a3⟩:=ag;exact⟨q,aj,c,t,aq,aM,a3,dh.bA _ _⟩
   .exact ag.elim
  .exact ag.elim
 .exact ag.elim
theorem avd (aZ:cls o= .act)(ag:h8 P n o ty e h K) :
 (∀bN,(∀r ah,K r ah->bN r ah)->h8 P n o ty e h bN) /\
 (∀b e3,h b=none->h8 P n o ty e (bA h b e3) (K2 b e3 K)) /\
 (kN h->h8 P n o ty e h λr ah=>K r ah/\kN ah):=by
 unfold h8 at ag
 split at ag<;>try (simp[cls] at aZ;done)
 .rename_i T a x
  obtain⟨s,ag,bV⟩:=j1 ag
  split at ag
  .rename_i q
   obtain⟨r,ag,kz⟩:=yn ag
   split at ag
   .rename_i s3
    obtain⟨a_,ag⟩:=x2 ag
    refine⟨λbN hm=>?_,λb e3 au=>?_,λdh=>?_⟩
    all_goals
     simp only[h8]
     refine(bV _).2 ((kz _).2 ?_)
     rw[if_pos s3]
     refine Q4 a_ ?_
    .exact Au ag λ_ bR=>hm _ _ bR
    .exact Au (Lb au ag) λ_ bR=>bR
    .obtain⟨c,t,aa,ad,an⟩:=ag
     exact⟨c,t,aa,ad,an,dh.bA _ _⟩
   .exact ag.elim
  .exact ag.elim
 .rename_i args ats
  obtain⟨r,ag,bV⟩:=Dv _ _ _ ag
  split at ag
  .rename_i x y
   split at ag
   .rename_i T Ap fW RI
    split at ag
    .rename_i bw
     refine⟨λbN hm=>?_,λb e3 au=>?_,λdh=>?_⟩
     all_goals
      simp only[h8]
      refine(bV _).2 ?_
      simp only[fW,RI,bw,if_true]
     .exact awV ag λ_ _=>hm _ _
     .exact awW au ag
     .exact awX dh ag
    .exact ag.elim
   .exact ag.elim
  .exact ag.elim
 .rename_i args ats
  obtain⟨r,ag,bV⟩:=Dv _ _ _ ag
  split at ag
  .rename_i x y
   split at ag
   .rename_i T fW
    refine⟨λbN hm=>?_,λb e3 au=>?_,λdh=>?_⟩
    all_goals
     simp only[h8]
     refine(bV _).2 ?_
     simp only[fW]
    .exact awY ag λ_ _=>hm _ _
    .exact awZ au ag
    .exact aw0 dh ag
   .exact ag.elim
  .exact ag.elim
 .rename_i args ats
  obtain⟨r,ag,bV⟩:=Dv _ _ _ ag
  split at ag
  .rename_i x
   split at ag
   .rename_i T fW
    refine⟨λbN hm=>?_,λb e3 au=>?_,λdh=>?_⟩
    all_goals
     simp only[h8]
     refine(bV _).2 ?_
     simp only[fW]
    .exact aw5 ag λ_=>hm _ _
    .exact aw6 au ag
    .exact aw7 dh ag
   .exact ag.elim
  .exact ag.elim
 .rename_i T m k x
  split at ag
  .rename_i yh GS hu
   split at ag
   .rename_i yg EV
    obtain⟨av1,ag,bV⟩:=j1 ag
    obtain⟨av2,ag,kz⟩:=j1 ag
    obtain⟨av4,ag,rb⟩:=yn ag
    split at ag
    .rename_i r hJ
     refine⟨λbN hm=>?_,λb e3 au=>?_,λdh=>?_⟩
     all_goals
      simp only[h8,hu,EV]
      refine(bV _).2 ((kz _).2 ((rb _).2 ?_))
     .exact aw3 ag λ_=>hm _ _
     .exact aw4 au ag
     .obtain⟨x,l,c,aa,ad,an⟩:=ag
      exact⟨x,l,c,aa,ad,an,dh.bA _ _⟩
    .exact ag.elim
   .exact ag.elim
  .exact ag.elim
 .rename_i f args ats
  obtain⟨av5,ag,bV⟩:=j1 ag
  obtain⟨r,ag,kz⟩:=Dv _ _ _ ag
  split at ag
  .rename_i g c jO
   split at ag
   rotate_left
   .rename_i mJ
    obtain⟨v,lO,bQ⟩:=ag
    refine⟨λbN hm=>?_,λb e3 au=>?_,λdh=>?_⟩
    all_goals
     simp only[h8]
     refine(bV _).2 ((kz _).2 ?_)
     simp only[mJ]
    .exact⟨v,lO,uz _ _ _ bQ λr aP=>⟨aP.1,hm _ _ aP.2⟩⟩
    .exact⟨v,lO,uz _ _ _ bQ λr aP=>⟨aP.1,h,rfl,au,aP.2⟩⟩
    .exact⟨v,lO,uz _ _ _ bQ λr aP=>⟨aP.1,aP.2,dh⟩⟩
   rename_i mJ
   refine⟨λbN hm=>?_,λb e3 au=>?_,λdh=>?_⟩
   all_goals
    simp only[h8]
    refine(bV _).2 ((kz _).2 ?_)
    simp only[mJ]
   .exact ag.mono λv ah bR=>uz _ _ _ bR λr aP=>⟨aP.1,hm _ _ aP.2⟩
   .refine(adK au ag).mono ?_
    rintro v ah ⟨hq,rfl,R5,bR⟩
    exact uz _ _ _ bR λr aP=>⟨aP.1,hq,rfl,R5,aP.2⟩
   .exact(adL ag).mono λv ah bR=>uz _ _ _ bR.1 λr aP=>⟨aP.1,aP.2,bR.2⟩
  .rename_i x
   refine⟨λbN hm=>?_,λb e3 au=>?_,λdh=>?_⟩
   all_goals
    simp only[h8]
    refine(bV _).2 ((kz _).2 ?_)
   .exact ag.mono λv ah bR=>uz _ _ _ bR λr aP=>⟨aP.1,hm _ _ aP.2⟩
   .refine(awT au ag).mono ?_
    rintro v ah ⟨hq,rfl,R5,bR⟩
    exact uz _ _ _ bR λr aP=>⟨aP.1,hq,rfl,R5,aP.2⟩
   .exact(awU ag).mono λv ah bR=>uz _ _ _ bR.1 λr aP=>⟨aP.1,aP.2,bR.2⟩
  .exact ag.elim
end

import Derived.Test.YtegdpmgnhnccaaaGreatShMem
namespace Go.cQ
open Go Go.RowKit
section
variable {P:Program} {n:Nat} {e:Env}
theorem iL {x:Operand}{K:ae->Prop}(h:gM n e x K):∃s,K s/\∀bC,gM n e x bC↔bC s:=by
 cases x with
 | tmp t =>
  simp only[gM] at h;split at h
  .rename_i s aR
   exact⟨s,h,λbC=>by simp only[gM,aR]⟩
  .exact h.elim
 | const v=>exact⟨_,h,λ_=>atJ⟩
 | global g=>exact⟨_,h,λ_=>atJ⟩
 | func f=>exact⟨_,h,λ_=>atJ⟩
theorem wb {ty:eo}{x:Operand}{K:ae->Prop}(h:nW n ty e x K):∃s,K s/\∀bC,nW n ty e x bC↔bC s:=by
 cases x with
 | const v=>exact⟨_,h,λ_=>atJ⟩
 | tmp t=>exact iL (x:= .tmp t) h
 | global g=>exact iL (n:=n) (e:=e) (x:= .global g) h
 | func f=>exact iL (n:=n) (e:=e) (x:= .func f) h
theorem NG:∀(l:List Operand) (K:List ae->Prop),uc n e l K->∃r,K r/\∀bC,uc n e l bC↔bC r
 | [],K,h=>⟨[],h,λ_=>atJ⟩
 | x::l,K,h=>by
  obtain⟨s,aR,aa⟩:=iL h;obtain⟨r,aK,ad⟩:=NG l _ aR;exact⟨_,aK,λbC=>(aa _).trans (ad _)⟩
theorem AY:∀(l:List Operand) (h1:List TypeId) (K:List ae->Prop),pJ P n e l h1 K->∃r,K r/\∀bC,pJ P n e l h1 bC↔bC r
 | [],_,K,h=>⟨[],h,λ_=>atJ⟩
 | x::l,[],K,h=>by
  obtain⟨s,aR,aa⟩:=iL h;obtain⟨r,aK,ad⟩:=AY l [] _ aR;exact⟨_,aK,λbC=>(aa _).trans (ad _)⟩
 | x::l,t::h1,K,h=>by
  obtain⟨s,aR,aa⟩:=wb h;obtain⟨r,aK,ad⟩:=AY l h1 _ aR;exact⟨_,aK,λbC=>(aa _).trans (ad _)⟩
theorem NH {oH:Nat->eo}:∀(l:List (Nat×Operand)) (K:List (Nat×ae)->Prop),ud P n e oH l K->∃r,K r/\∀bC,ud P n e oH l bC↔bC r
 | [],K,h=>⟨[],h,λ_=>atJ⟩
 | (i,x)::l,K,h=>by
  obtain⟨s,aR,aa⟩:=wb h;obtain⟨r,aK,ad⟩:=NH l _ aR;exact⟨_,aK,λbC=>(aa _).trans (ad _)⟩
theorem NI {x:Option Operand}{K:Option ae->Prop}(h:ue n e x K):∃s,K s/\∀bC,ue n e x bC↔bC s:=by
 cases x with
 | none=>exact⟨none,h,λ_=>atJ⟩
 | some x =>
  obtain⟨s,aR,aa⟩:=iL h;exact⟨some s,aR,λbC=>aa _⟩
end
def l0 (R:(ae->Prop)->Prop):Prop:=∀K,R K->∃r,∀bC,R bC↔bC r
theorem DM {s:ae}{K:IntKind->Int->Prop}(h:v7 s K):∃k i,K k i/\∀bC,v7 s bC↔bC k i:=by
 cases s<;>first|exact h.elim|exact⟨_,_,h,λ_=>atJ⟩
theorem uk {x:ae}{v8:Nat}{K:Nat->Prop}(h:qw x v8 K):∃m,K m/\∀bC,qw x v8 bC↔bC m:=by
 obtain⟨k,i,⟨h0,aa,ab⟩,bK⟩:=DM h;exact⟨_,ab,λbC=>(bK _).trans ⟨λh=>h.2.2,λh=>⟨h0,aa,h⟩⟩⟩
theorem NJ {len cap:Nat}{lo hi jR:Option ae}{K:Nat->Nat->Nat->Prop}(h:oM len cap lo hi jR K) :
 ∃a b c,K a b c/\∀bC,oM len cap lo hi jR bC↔bC a b c:=by
 unfold oM at h;split at h
 .exact⟨_,_,_,h,λbC=>by simp only[oM]⟩
 .obtain⟨l,ab,bK⟩:=uk h;exact⟨_,_,_,ab,λbC=>by simp only[oM];exact bK _⟩
 .obtain⟨l,ab,bK⟩:=uk h;exact⟨_,_,_,ab,λbC=>by simp only[oM];exact bK _⟩
 .obtain⟨l,ab,bK⟩:=uk h;obtain⟨hW,ab,jk⟩:=uk ab;exact⟨_,_,_,ab,λbC=>by simp only[oM];exact(bK _).trans (jk _)⟩
 .obtain⟨l,ab,bK⟩:=uk h;obtain⟨hW,ab,jk⟩:=uk ab;exact⟨_,_,_,ab,λbC=>by simp only[oM];exact(bK _).trans (jk _)⟩
 .obtain⟨l,ab,bK⟩:=uk h;obtain⟨hW,ab,jk⟩:=uk ab;obtain⟨qP,ab,pL⟩:=uk ab;exact⟨_,_,_,ab,λbC=>by simp only[oM];exact(bK _).trans ((jk _).trans (pL _))⟩
 .exact h.elim
theorem apg {P:Program}{T:TypeId}{x:ae}{lo hi jR:Option ae}:l0 (DD P T x lo hi jR):=by
 intro K h;unfold DD at h ⊢;split at h
 .split at h
  .obtain⟨a,b,c,_,bK⟩:=NJ h;exact⟨_,λbC=>bK _⟩
  .exact h.elim
 .split at h
  .obtain⟨a,b,c,_,bK⟩:=NJ h;exact⟨_,λbC=>bK _⟩
  .exact h.elim
 .split at h
  .obtain⟨a,b,c,_,bK⟩:=NJ h;exact⟨_,λbC=>bK _⟩
  .exact h.elim
 .exact h.elim
theorem aph {op:UnOp}{x:ae}:l0 (DK op x):=by
 intro K h;unfold DK at h ⊢;split at h<;>first|exact h.elim|exact⟨_,λ_=>atJ⟩
theorem api {P:Program}{s d:TypeId}{x:ae}:l0 (DL P s d x):=by
 intro K h;unfold DL at h ⊢;split at h<;>first|exact h.elim|exact⟨_,λ_=>atJ⟩
theorem apj {op:BinOp}{k:IntKind}{a b:Int}:l0 (NK op k a b):=by
 intro K h;cases op<;>first|exact h.elim|exact⟨_,λ_=>atJ⟩|exact⟨_,λbC=>⟨λbT=>bT.2,λbT=>⟨h.1,bT⟩⟩⟩
theorem apk {op:BinOp}{a b:a8}:l0 (NL op a b):=by
 intro K h;cases op<;>first|exact h.elim|exact⟨_,λ_=>atJ⟩|exact⟨_,λbC=>⟨λbT=>bT.2,λbT=>⟨h.1,bT⟩⟩⟩
theorem YH {op:BinOp}{k:IntKind}{a:Int}{c:Nat}:l0 (DN op k a c):=by
 intro K h;cases op<;>first|exact h.elim|exact⟨_,λ_=>atJ⟩
theorem apl {op:BinOp}{a:a8}{c:Nat}:l0 (NM op a c):=by
 intro K h;cases op<;>first|exact h.elim|exact⟨_,λ_=>atJ⟩
theorem YI {P:Program}{T:TypeId}{x y:ae}{K:Bool->Prop}(h:x8 P T x y K):∃r,K r/\∀bC,x8 P T x y bC↔bC r:=by
 unfold x8 at h ⊢;split at h
 .exact⟨_,h,λ_=>atJ⟩
 .exact⟨_,h,λ_=>atJ⟩
 .exact⟨_,h,λ_=>atJ⟩
 .exact⟨_,h,λ_=>atJ⟩
 .exact⟨_,h,λ_=>atJ⟩
 .rcases h with ⟨rfl,h⟩|⟨t,v,rfl,h⟩
  .refine⟨_,h,λbC=>⟨?_,λbT=>Or.inl ⟨rfl,bT⟩⟩⟩;rintro (⟨_,bT⟩|⟨_,_,bT,_⟩)
   .exact bT
   .cases bT
  .refine⟨_,h,λbC=>⟨?_,λbT=>Or.inr ⟨t,v,rfl,bT⟩⟩⟩;rintro (⟨bT,_⟩|⟨_,_,_,bT⟩)
   .cases bT
   .exact bT
 .exact h.elim
theorem YJ {P:Program}{op:BinOp}{T:TypeId}{x y:ae}:l0 (AX P op T x y):=by
 intro K h;unfold AX at h ⊢;split at h
 .split at h
  .obtain⟨h0,h⟩:=h;obtain⟨r,aK⟩:=YH K h
   rename_i aR
   exact⟨r,λbC=>by simp only[aR,at2];exact⟨λbT=>(aK bC).1 bT.2,λbT=>⟨h0,(aK bC).2 bT⟩⟩⟩
  .split at h
   .rename_i aR ab
    subst ab;obtain⟨r,aK⟩:=apj K h;exact⟨r,λbC=>by simp only[aR,at2,atS,atN];exact aK bC⟩
   .exact h.elim
 .exact apk K h
 .exact YH K h
 .obtain⟨h0,h⟩:=h;obtain⟨r,aK⟩:=apl K h;exact⟨r,λbC=>⟨λbT=>(aK bC).1 bT.2,λbT=>⟨h0,(aK bC).2 bT⟩⟩⟩
 .cases op
  case add=>exact⟨_,λbC=>⟨λbT=>bT.2,λbT=>⟨h.1,bT⟩⟩⟩
  case eql=>exact⟨_,λ_=>atJ⟩
  case neq=>exact⟨_,λ_=>atJ⟩
  all_goals exact h.elim
 .cases op
  case eql =>
   obtain⟨r,_,aK⟩:=YI h;exact⟨_,λbC=>aK _⟩
  case neq =>
   obtain⟨r,_,aK⟩:=YI h;exact⟨_,λbC=>aK _⟩
  all_goals exact h.elim
theorem apm {P:Program}{T:TypeId}{x:ae}{i:Int}:l0 (DB P T x i):=by
 intro K h;unfold DB at h ⊢;split at h
 .split at h
  .obtain⟨q,ah,h0,aa,h⟩:=h;exact⟨_,λbC=>⟨fun⟨df,ek,_,_,bT⟩=>by rw[ah] at ek;cases ek;exact bT,λbT=>⟨q,ah,h0,aa,bT⟩⟩⟩
  .exact h.elim
 .split at h
  .obtain⟨h0,aa,h⟩:=h;exact⟨_,λbC=>⟨λbT=>bT.2.2,λbT=>⟨h0,aa,bT⟩⟩⟩
  .exact h.elim
 .exact h.elim
theorem apn {P:Program}{T:TypeId}{x:ae}{i:Int}:l0 (DC P T x i):=by
 intro K h;unfold DC at h ⊢;split at h
 .split at h
  .rename_i aT
   obtain⟨h0,aa,h⟩:=h;exact⟨_,λbC=>by rw[as8 aT];exact⟨fun⟨_,_,bT⟩=>bT,λbT=>⟨h0,aa,bT⟩⟩⟩
  .exact h.elim
 .obtain⟨h0,aa,h⟩:=h;exact⟨_,λbC=>⟨fun⟨_,_,bT⟩=>bT,λbT=>⟨h0,aa,bT⟩⟩⟩
 .exact h.elim
theorem apo {P:Program}{s:TypeId}{i:Nat}{l:List ae}:l0 (DA P s i l):=by
 intro K h;unfold DA at h ⊢;split at h
 .split at h
  .split at h
   .rename_i aT
    exact⟨_,λbC=>by rw[as8 aT]⟩
   .exact h.elim
  .exact h.elim
 .exact h.elim
theorem YK {P:Program}{e8:Array Field}:∀(cc:List (Nat×ae)) (l:List ae) (K:List ae->Prop),x6 P e8 cc l K->∃r,∀bC,x6 P e8 cc l bC↔bC r
 | [],l,K,h=>⟨l,λ_=>atJ⟩
 | (i,r)::cc,l,K,h=>by
  simp only[x6] at h ⊢;split at h
  .split at h
   .rename_i aT
    obtain⟨bf,h⟩:=vJ h;obtain⟨r,aK⟩:=YK cc _ K h;exact⟨r,λbC=>by rw[as8 aT];exact⟨λh=>(aK bC).1 (vJ h).2,λh=>MP bf ((aK bC).2 h)⟩⟩
   .exact h.elim
  .exact h.elim
theorem apq {n:Nat}:∀(cc:List (Nat×ae)) (c:bk n) (K:bk n->Prop),x7 n cc c K->∃r,∀bC,x7 n cc c bC↔bC r:=by
 intro cc
 induction cc with
 | nil=>exact λc K h=>⟨c,λ_=>atJ⟩
 | cons p cc c6 =>
  intro c K h;obtain⟨i,r⟩:=p;cases r<;>try exact h.elim
  simp only[x7] at h ⊢;split at h
  .rename_i aT
   obtain⟨r,aK⟩:=c6 _ K h;exact⟨r,λbC=>by rw[dif_pos aT];exact aK bC⟩
  .exact h.elim
theorem apr {P:Program}{T:TypeId}{cc:List (Nat×ae)}:l0 (DE P T cc):=by
 intro K h;unfold DE at h ⊢;split at h
 .split at h
  .split at h
   .rename_i aT
    obtain⟨r,aK⟩:=YK _ _ _ h;exact⟨_,λbC=>by rw[as8 aT];exact aK _⟩
   .exact h.elim
  .exact h.elim
 .split at h
  .split at h
   .rename_i aT
    obtain⟨r,aK⟩:=apq _ _ _ h;exact⟨_,λbC=>by rw[as8 aT];exact aK _⟩
   .exact h.elim
  .exact h.elim
 .exact h.elim
theorem aps {P:Program}{T:TypeId}{x:ae}:l0 (DH P T x):=by
 intro K h;unfold DH at h ⊢;split at h<;>first|exact h.elim|exact⟨_,λ_=>atJ⟩
theorem YL {b:Bool}{x y:ae}:l0 (v_ b x y):=by
 intro K h;unfold v_ at h ⊢;split at h<;>first|exact h.elim|exact⟨_,λ_=>atJ⟩
theorem apt {P:Program}{b:Builtin}{ats:Array TypeId}{xs:List ae}:l0 (DI P b ats xs):=by
 intro K h;unfold DI at h ⊢;split at h
 .split at h
  .exact aps K h
  .exact h.elim
 .split at h
  .split at h
   .exact⟨_,λ_=>atJ⟩
   .exact h.elim
  .exact h.elim
 .exact YL K h
 .exact YL K h
 .exact h.elim
theorem apu {x:ae}:l0 (Hs x):=by
 intro K h;unfold Hs at h ⊢;split at h
 .exact⟨_,λ_=>atJ⟩
 .obtain⟨p,rfl,ab⟩:=h;exact⟨_,λbC=>⟨fun⟨dF,aM,bT⟩=>by cases aM;exact bT,λbT=>⟨p,rfl,bT⟩⟩⟩
 .exact⟨_,λ_=>atJ⟩
 .exact h.elim
theorem apv {c a b:ae}:l0 (DJ c a b):=by
 intro K h;unfold DJ at h ⊢;split at h
 .exact⟨_,λ_=>atJ⟩
 .rename_i c _
  cases c
  .exact⟨_,λ_=>atJ⟩
  .exact⟨_,λ_=>atJ⟩
 .exact h.elim
theorem apw {P:Program}{n:Nat}{op:BinOp}{T:TypeId}{y:Operand}{e:Env}{a:ae}:l0 (vU P n op T y e a):=by
 intro K h;unfold vU at h ⊢;split at h
 .exact YJ K h
 .obtain⟨b,ab,bK⟩:=iL h;split at ab
  .exact ab.elim
  .rename_i l eF
   split at ab
   .rename_i r aK
    cases op<;>try exact(show False from ab).elim
    .exact⟨.b r,λbC=>(bK _).trans (by simp only[aK,wa])⟩
    .exact⟨.b (!r),λbC=>(bK _).trans (by simp only[aK,wa])⟩
   .exact ab.elim
  .rename_i aE aX mG aZ
   split at ab
   .rename_i hm
    subst hm;split at ab
    .rename_i r aK
     cases op<;>try exact(show False from ab).elim
     .exact⟨.b r,λbC=>(bK _).trans (by simp only[dif_pos,aK,wa])⟩
     .exact⟨.b (!r),λbC=>(bK _).trans (by simp only[dif_pos,aK,wa])⟩
    .exact ab.elim
   .exact ab.elim
  .rename_i bH apx apy
   obtain⟨r,aK⟩:=YJ K ab;refine⟨r,λbC=>(bK _).trans ?_⟩;split
   .rename_i x;exact(bH x rfl).elim
   .exact(apx _ _ rfl rfl).elim
   .exact(apy _ _ _ _ rfl rfl).elim
   .exact aK bC
theorem anQ {P:Program}{n:Nat}{o:Op}{ty:TypeId}{e:Env}:l0 (uf P n o ty e):=by
 intro K h;unfold uf at h ⊢;split at h
 .obtain⟨s,_,bK⟩:=wb h;exact⟨s,bK⟩
 .obtain⟨s,_,bK⟩:=wb h;exact⟨s,bK⟩
 .obtain⟨c,h,bK⟩:=iL h;obtain⟨a,h,jk⟩:=iL h;obtain⟨b,h,pL⟩:=iL h;obtain⟨r,aK⟩:=apv K h;exact⟨r,λbC=>(bK _).trans ((jk _).trans ((pL _).trans (aK bC)))⟩
 .obtain⟨c,h,bK⟩:=iL h;obtain⟨r,aK⟩:=apu K h;exact⟨r,λbC=>(bK _).trans (aK bC)⟩
 .obtain⟨c,h,bK⟩:=iL h;obtain⟨r,aK⟩:=apw K h;exact⟨r,λbC=>(bK _).trans (aK bC)⟩
 .obtain⟨c,h,bK⟩:=iL h;obtain⟨r,aK⟩:=aph K h;exact⟨r,λbC=>(bK _).trans (aK bC)⟩
 .obtain⟨c,h,bK⟩:=iL h;obtain⟨r,aK⟩:=api K h;exact⟨r,λbC=>(bK _).trans (aK bC)⟩
 .split at h
  .obtain⟨c,h,bK⟩:=iL h;split at h
   .exact⟨_,λbC=>bK _⟩
   .exact h.elim
  .exact h.elim
 .obtain⟨c,h,bK⟩:=iL h;split at h
  .obtain⟨r,aK⟩:=apo K h;exact⟨r,λbC=>(bK _).trans (aK bC)⟩
  .exact h.elim
 .obtain⟨c,h,bK⟩:=iL h;obtain⟨j,h,jk⟩:=iL h;obtain⟨k,i,h,pL⟩:=DM h;obtain⟨r,aK⟩:=apm K h;exact⟨r,λbC=>(bK _).trans ((jk _).trans ((pL _).trans (aK bC)))⟩
 .obtain⟨c,h,bK⟩:=iL h;obtain⟨j,h,jk⟩:=iL h;obtain⟨k,i,h,pL⟩:=DM h;obtain⟨r,aK⟩:=apn K h;exact⟨r,λbC=>(bK _).trans ((jk _).trans ((pL _).trans (aK bC)))⟩
 .obtain⟨c,h,bK⟩:=iL h;split at h
  .split at h
   .rename_i r aK
    exact⟨r,λbC=>(bK _).trans (by simp only[aK])⟩
   .exact h.elim
  .exact h.elim
 .obtain⟨c,h,bK⟩:=iL h;obtain⟨lo,h,jk⟩:=NI h;obtain⟨hi,h,pL⟩:=NI h;obtain⟨jR,h,NN⟩:=NI h;obtain⟨r,aK⟩:=apg K h;exact⟨r,λbC=>(bK _).trans ((jk _).trans ((pL _).trans ((NN _).trans (aK bC))))⟩
 .split at h
  .rename_i aT
   obtain⟨c,h,bK⟩:=NG _ _ h;exact⟨_,λbC=>by rw[as8 aT];exact bK _⟩
  .exact h.elim
 .split at h
  .exact h.elim
  .obtain⟨c,h,bK⟩:=wb h;exact⟨_,λbC=>bK _⟩
  .exact h.elim
 .obtain⟨c,h,bK⟩:=NH _ _ h;obtain⟨r,aK⟩:=apr K h;exact⟨r,λbC=>(bK _).trans (aK bC)⟩
 .obtain⟨c,h,bK⟩:=NG _ _ h;obtain⟨r,aK⟩:=apt K h;exact⟨r,λbC=>(bK _).trans (aK bC)⟩
 .exact h.elim
def jG (h:ai):Prop:=∃N,∀b,N<=b->h b=none
theorem jG.bD {h:ai}(au:jG h)(b:Nat)(o:Obj):jG (bD h b o):=by
 obtain⟨N,kZ⟩:=au;refine⟨max N (b+1),λx af=>?_⟩;rw[cJ _ _ (by omega)];exact kZ x (by omega)
theorem dU.xY {h:ai}{w:World}(c:dU h w):jG h:=by
 refine⟨w.heap.size,λb au=>?_⟩;cases af:h b with
 | none=>rfl
 | some o=>exact absurd (c.lt af) (by omega)
theorem jG.world {h:ai}(au:jG h):∃w,dU h w:=by
 obtain⟨N,kZ⟩:=au;refine⟨{ (default:World) with heap:=Array.ofFn (n:=N) λi=>(h i.1).getD default },λb o dQ=>?_⟩;have b1:b<N:=by
  rcases atF b N with aa|aa
  .exact aa
  .rw[kZ b aa] at dQ;cases dQ
 simp[b1,dQ]
theorem jG.fresh {h:ai}(au:jG h):∃b,h b=none:=let ⟨N,kZ⟩:=au;⟨N,kZ N (as_ _)⟩
theorem x9 {h:ai}{q:aG}{l:List Value}{K bC:ai->Prop}(ab:a1 h q l K)(hm:∀ag,K ag->bC ag):a1 h q l bC :=
 let ⟨c,t,au,aO,fr⟩:=ab;⟨c,t,au,aO,hm _ fr⟩
theorem YM {h:ai}{o:Obj}{K bC:Nat->ai->Prop}(ab:bn h o K)(hm:∀b ag,K b ag->bC b ag):bn h o bC:=λb au=>hm _ _ (ab b au)
def Hk {α:Type}(b:Nat)(o:Obj)(K:α->ai->Prop):α->ai->Prop:=λr h=>∃ag,h=bD ag b o/\ag b=none/\K r ag
theorem apz {h:ai}{b:Nat}(o:Obj)(au:h b=none){x i:Nat}{v:Value}(bH:bR h x i=some v):bR (bD h b o) x i=some v:=by
 have af:x≠b:=by
  intro e;subst e;simp[bR,au] at bH
 unfold bR at bH ⊢;rw[cJ _ _ af];exact bH
theorem NO {h:ai}{b:Nat}(o:Obj)(au:h b=none){x:Nat}:∀ {l:List Value} {i:Nat},fb h x i l->fb (bD h b o) x i l
 | [],_,_=>trivial
 | _::_,_,aK=>⟨apz o au aK.1,NO o au aK.2⟩
theorem kN.beside {h:ai}{b:Nat}(o:Obj)(au:h b=none){q:aG}{r:ae}(aR:kN h q r):kN (bD h b o) q r:=NO o au aR
theorem Hu {h:ai}{b:Nat}{o:Obj}(au:h b=none){q:aG}{l:List Value}{K:ai->Prop}(ab:a1 h q l K) :
 a1 (bD h b o) q l λag=>∃gp,ag=bD gp b o/\gp b=none/\K gp:=by
 obtain⟨c,t,ah,aO,fr⟩:=ab;have cX:q.b≠b:=by intro e;rw[e,au] at ah;cases ah
 refine⟨c,t,by rw[cJ _ _ cX];exact ah,aO,_,Hm h _ _ (atf cX),?_,fr⟩;rw[cJ _ _ (atf cX)];exact au
theorem apA {h:ai}{b:Nat}{o p:Obj}(au:h b=none){K:Nat->ai->Prop}(ab:bn h p K) :
 bn (bD h b o) p λx ag=>∃gp,ag=bD gp b o/\gp b=none/\K x gp:=by
 intro x af;have cX:x≠b:=by intro e;subst e;rw[ea] at af;cases af
 rw[cJ _ _ cX] at af;refine⟨_,Hm h _ _ (atf cX),?_,ab x af⟩;rw[cJ _ _ (atf cX)];exact au
theorem um {h:ai}{x:ae}{c4 n:Nat}{K bC:List Value->Prop}(ab:my h x c4 n K)(hm:∀l,K l->bC l):my h x c4 n bC:=by
 unfold my at ab ⊢;split at ab
 .obtain⟨l,aa,ad,aq,aJ⟩:=ab;exact⟨l,aa,ad,aq,hm _ aJ⟩
 .exact⟨ab.1,hm _ ab.2⟩
 .exact ab.elim
theorem NP {h:ai}{b:Nat}{o:Obj}(au:h b=none){x:ae}{c4 n:Nat}{K:List Value->Prop}(ab:my h x c4 n K):my (bD h b o) x c4 n K:=by
 unfold my at ab ⊢;split at ab
 .obtain⟨l,aa,ad,aq,aJ⟩:=ab;refine⟨l,aa,ad,?_,aJ⟩;split at aq
  .exact NO o au aq
  .exact aq
 .exact ab
 .exact ab.elim
theorem AZ {x:ae}{K bC:Nat->Prop}(ab:qA x K)(hm:∀n,K n->bC n):qA x bC:=by
 unfold qA at ab ⊢;split at ab<;>first|exact ab.elim|exact hm _ ab
theorem YN {P:Program}{f:FuncId}{args:List Value}{h:ai}{b:Nat}{o:Obj}{Q:Value->ai->Prop}(au:h b=none)(ab:mY P f args h Q) :
 mY P f args (bD h b o) λv ag=>∃gp,ag=bD gp b o/\gp b=none/\Q v gp:=by
 refine⟨ab.1,λw c=>?_⟩;have lh:dU h w:=by
  intro x y af;have cX:x≠b:=by intro e;subst e;rw[au] at af;cases af
  exact c x y (by rw[cJ _ _ cX];exact af)
 have hw:w.heap[b]? =some o:=c b o (ea _ _ _);have b1:b<w.heap.size:=(auO.1 hw).1;refine(ab.2 w lh).mono ?_;rintro e bX ⟨v,ag,rfl,ja,b8,g⟩;obtain⟨hn,NQ⟩:=g.rest b au b1;refine⟨v,bD ag b o,rfl,⟨ag,rfl,hn,ja⟩,?_,?_⟩
 .intro x y af
  by_cases e:x=b
  .subst e;rw[ea] at af;cases af;rw[NQ,hw]
  .rw[cJ _ _ e] at af;exact b8 x y af
 .refine⟨g.os,g.tape,g.output,g.size,λx af aO=>?_⟩;have cX:x≠b:=by intro e;subst e;rw[ea] at af;cases af
  rw[cJ _ _ cX] at af;rw[cJ _ _ cX];exact g.rest x af aO
theorem apB {P:Program}{l:Nat}{args:List Value}{h:ai}{b:Nat}{o:Obj}{Q:Value->ai->Prop}(au:h b=none)(ab:mZ P l args h Q) :
 mZ P l args (bD h b o) λv ag=>∃gp,ag=bD gp b o/\gp b=none/\Q v gp:=by
 intro w c;have lh:dU h w:=by
  intro x y af;have cX:x≠b:=by intro e;subst e;rw[au] at af;cases af
  exact c x y (by rw[cJ _ _ cX];exact af)
 have hw:w.heap[b]? =some o:=c b o (ea _ _ _);have b1:b<w.heap.size:=(auO.1 hw).1;obtain⟨r,aa,ad,aq⟩:=ab w lh;refine⟨r,aa,ad,aq.mono ?_⟩;rintro e bX ⟨v,ag,rfl,ja,b8,g⟩;obtain⟨hn,NQ⟩:=g.rest b au b1;refine⟨v,bD ag b o,rfl,⟨ag,rfl,hn,ja⟩,?_,?_⟩
 .intro x y af
  by_cases e:x=b
  .subst e;rw[ea] at af;cases af;rw[NQ,hw]
  .rw[cJ _ _ e] at af;exact b8 x y af
 .refine⟨g.os,g.tape,g.output,g.size,λx af aO=>?_⟩;have cX:x≠b:=by intro e;subst e;rw[ea] at af;cases af
  rw[cJ _ _ cX] at af;rw[cJ _ _ cX];exact g.rest x af aO
theorem YO {P:Program}{f:FuncId}{args:List Value}{h:ai}{Q:Value->ai->Prop}(ab:mY P f args h Q):mY P f args h λv ag=>Q v ag/\jG ag :=
 ⟨ab.1,λw c=>(ab.2 w c).mono λ_ _ ⟨v,ag,he,ja,b8,g⟩=>⟨v,ag,he,⟨ja,b8.xY⟩,b8,g⟩⟩
theorem apC {P:Program}{l:Nat}{args:List Value}{h:ai}{Q:Value->ai->Prop}(ab:mZ P l args h Q):mZ P l args h λv ag=>Q v ag/\jG ag:=λw c =>
 let ⟨r,aa,ad,aq⟩:=ab w c
 ⟨r,aa,ad,aq.mono λ_ _ ⟨v,ag,he,ja,b8,g⟩=>⟨v,ag,he,⟨ja,b8.xY⟩,b8,g⟩⟩
theorem apD {P:Program}{x:Value}{args:List Value}{h:ai}{b:Nat}{o:Obj}{Q:Value->ai->Prop}(au:h b=none)(ab:fo P x args h Q) :
 fo P x args (bD h b o) λv ag=>∃gp,ag=bD gp b o/\gp b=none/\Q v gp:=by
 unfold fo at ab ⊢;split at ab
 .exact⟨ab.1,YN au ab.2⟩
 .exact⟨ab.1,ab.2.1,apB au ab.2.2⟩
 .exact ab.elim
theorem apE {P:Program}{x:Value}{args:List Value}{h:ai}{Q:Value->ai->Prop}(ab:fo P x args h Q):fo P x args h λv ag=>Q v ag/\jG ag:=by
 unfold fo at ab ⊢;split at ab
 .exact⟨ab.1,YO ab.2⟩
 .exact⟨ab.1,ab.2.1,apC ab.2.2⟩
 .exact ab.elim
theorem apF {P:Program}{T:TypeId}{x:an}{y:ae}{h:ai}{K bC:an->ai->Prop}(ab:en P T x y h K)(hm:∀r ag,K r ag->bC r ag):en P T x y h bC:=by
 unfold en at ab ⊢;split at ab
 .split at ab
  .refine AZ ab λn ab=>um ab λl ab=>?_;cases aT:decide (x.len+n<=x.cap) with
   | true =>
    rw[aT] at ab;simp only[aud] at ab ⊢;split at ab
    .exact x9 ab λ_ bT=>hm _ _ bT
    .exact⟨ab.1,hm _ _ ab.2⟩
   | false =>
    rw[aT] at ab;simp only[auA] at ab ⊢;exact⟨ab.1,ab.2.1,um ab.2.2 λvR bT lV sH=>YM (bT lV sH) λ_ _ ad=>hm _ _ ad⟩
  .exact ab.elim
 .exact ab.elim
theorem apG {P:Program}{T:TypeId}{x:an}{y:ae}{h:ai}{b:Nat}{o:Obj}(au:h b=none){K:an->ai->Prop}(ab:en P T x y h K) :
 en P T x y (bD h b o) (Hk b o K):=by
 unfold en at ab ⊢;split at ab
 .split at ab
  .refine AZ ab λn ab=>um (NP au ab) λl ab=>?_;cases aT:decide (x.len+n<=x.cap) with
   | true =>
    rw[aT] at ab;simp only[aud] at ab ⊢;split at ab
    .exact x9 (Hu au ab) λ_ bT=>bT
    .exact⟨ab.1,h,rfl,au,ab.2⟩
   | false =>
    rw[aT] at ab;simp only[auA] at ab ⊢;exact⟨ab.1,ab.2.1,um (NP au ab.2.2) λvR bT lV sH=>YM (apA au (bT lV sH)) λ_ _ ad=>ad⟩
  .exact ab.elim
 .exact ab.elim
theorem apH {P:Program}{T:TypeId}{x:an}{y:ae}{h:ai}(c7:jG h){K:an->ai->Prop}(ab:en P T x y h K) :
 en P T x y h (λr ag=>K r ag/\jG ag):=by
 unfold en at ab ⊢;split at ab
 .split at ab
  .refine AZ ab λn ab=>um ab λl ab=>?_;cases aT:decide (x.len+n<=x.cap) with
   | true =>
    rw[aT] at ab;simp only[aud] at ab ⊢;split at ab
    .obtain⟨c,t,aa,ad,aq⟩:=ab;exact⟨c,t,aa,ad,aq,c7.bD _ _⟩
    .exact⟨ab.1,ab.2,c7⟩
   | false =>
    rw[aT] at ab;simp only[auA] at ab ⊢;exact⟨ab.1,ab.2.1,um ab.2.2 λvR bT lV sH b apI=>⟨bT lV sH b apI,c7.bD _ _⟩⟩
  .exact ab.elim
 .exact ab.elim
theorem apJ {P:Program}{T:TypeId}{x:an}{y:ae}{h:ai}{K bC:Nat->ai->Prop}(ab:kP P T x y h K)(hm:∀r ag,K r ag->bC r ag):kP P T x y h bC:=by
 unfold kP at ab ⊢;split at ab
 .split at ab
  .refine AZ ab λn ab=>um ab λl ab=>?_;split at ab
   .exact x9 ab λ_ bT=>hm _ _ bT
   .exact⟨ab.1,hm _ _ ab.2⟩
  .exact ab.elim
 .exact ab.elim
theorem apK {P:Program}{T:TypeId}{x:an}{y:ae}{h:ai}{b:Nat}{o:Obj}(au:h b=none){K:Nat->ai->Prop}(ab:kP P T x y h K) :
 kP P T x y (bD h b o) (Hk b o K):=by
 unfold kP at ab ⊢;split at ab
 .split at ab
  .refine AZ ab λn ab=>um (NP au ab) λl ab=>?_;split at ab
   .exact x9 (Hu au ab) λ_ bT=>bT
   .exact⟨ab.1,h,rfl,au,ab.2⟩
  .exact ab.elim
 .exact ab.elim
theorem apL {P:Program}{T:TypeId}{x:an}{y:ae}{h:ai}(c7:jG h){K:Nat->ai->Prop}(ab:kP P T x y h K) :
 kP P T x y h (λr ag=>K r ag/\jG ag):=by
 unfold kP at ab ⊢;split at ab
 .split at ab
  .refine AZ ab λn ab=>um ab λl ab=>?_;split at ab
   .obtain⟨c,t,aa,ad,aq⟩:=ab;exact⟨c,t,aa,ad,aq,c7.bD _ _⟩
   .exact⟨ab.1,ab.2,c7⟩
  .exact ab.elim
 .exact ab.elim
inductive Dt where
 | oK|read|act|new
 deriving DecidableEq
def cls:Op->Dt
 | .load _ _=> .read
 | .store _ _ _=> .act
 | .box _ _=> .new
 | .alloc _=> .new
 | .buildSlice _ _ _=> .new
 | .makeSlice _ _ _=> .new
 | .makeMap _ none=> .new
 | .call { callee:= .builtin .append,.. }=> .act
 | .call { callee:= .builtin .copy,.. }=> .act
 | .call { callee:= .value _,.. }=> .act
 | .call { callee:= .builtin .clear,.. }=> .act
 | .mapUpdate _ _ _ _=> .act
 | _=> .oK
def Hj (R:ai->(ae->ai->Prop)->Prop):Prop :=
 ∃(o:Obj) (mk:Nat->ae),∀ag bC,R ag bC↔∀b,ag b=none->bC (mk b) (bD ag b o)
mutual
theorem sI:∀(t:eo) (K bC:ae->Prop),xQ t K->(∀r,K r->bC r)->xQ t bC
 | .i k,K,bC,⟨n,ab⟩,hm=>⟨n,hm _ ab⟩
 | .u,K,bC,⟨n,ab⟩,hm=>⟨n,hm _ ab⟩
 | .b,K,bC,⟨n,ab⟩,hm=>⟨n,hm _ ab⟩
 | .p,K,bC,⟨n,ab⟩,hm=>⟨n,hm _ ab⟩
 | .f,K,bC,⟨n,c,ab⟩,hm=>⟨n,c,hm _ ab⟩
 | .fw,K,bC,⟨n,ab⟩,hm=>⟨n,hm _ ab⟩
 | .s,K,bC,⟨n,ab⟩,hm=>⟨n,hm _ ab⟩
 | .str,K,bC,⟨n,ab⟩,hm=>⟨n,hm _ ab⟩
 | .m,K,bC,⟨n,ab⟩,hm=>⟨n,hm _ ab⟩
 | .ws n,K,bC,⟨c,ab⟩,hm=>⟨c,hm _ ab⟩
 | .c_ l,K,bC,aO,hm=>NR l _ _ aO λr aK=>hm _ aK
 | .h5 l,K,bC,aO,hm=>NR l _ _ aO λr aK=>hm _ aK
 | .v,K,bC,⟨x,ab⟩,hm=>⟨x,hm _ ab⟩
theorem NR:∀(l:List eo) (K bC:List ae->Prop),AB l K->(∀r,K r->bC r)->AB l bC
 | [],K,bC,ab,hm=>hm _ ab
 | t::l,K,bC,ab,hm=>sI t _ _ ab λr aK=>NR l _ _ aK λrs Dp=>hm _ Dp
end
mutual
theorem YP (h:ai)(b:Nat):∀(t:eo) (o:Nat) (K:ae->Prop),AD h b t o K ->
 ∃r,K r/\fb h b o (ae.cells r)/\r≠.no/\(ae.cells r).length=t.size/\∀ag bC,fb ag b o (ae.cells r)->bC r->AD ag b t o bC
 | .i k,o,K,⟨n,aH,ab⟩=>⟨_,ab,⟨aH,trivial⟩,by simp,rfl,λ_ _ aK fx=>⟨n,aK.1,fx⟩⟩
 | .u,o,K,⟨n,aH,ab⟩=>⟨_,ab,⟨aH,trivial⟩,by simp,rfl,λ_ _ aK fx=>⟨n,aK.1,fx⟩⟩
 | .b,o,K,⟨n,aH,ab⟩=>⟨_,ab,⟨aH,trivial⟩,by simp,rfl,λ_ _ aK fx=>⟨n,aK.1,fx⟩⟩
 | .p,o,K,⟨n,aH,ab⟩=>⟨_,ab,⟨aH,trivial⟩,by simp,rfl,λ_ _ aK fx=>⟨n,aK.1,fx⟩⟩
 | .f,o,K,⟨n,c,aH,ab⟩=>⟨_,ab,⟨aH,trivial⟩,by simp,rfl,λ_ _ aK fx=>⟨n,c,aK.1,fx⟩⟩
 | .fw,o,K,⟨n,aH,ab⟩=>⟨_,ab,⟨aH,trivial⟩,by simp,rfl,λ_ _ aK fx=>⟨n,aK.1,fx⟩⟩
 | .s,o,K,⟨n,aH,ab⟩=>⟨_,ab,⟨aH,trivial⟩,by simp,rfl,λ_ _ aK fx=>⟨n,aK.1,fx⟩⟩
 | .str,o,K,⟨n,aH,ab⟩=>⟨_,ab,⟨aH,trivial⟩,by simp,rfl,λ_ _ aK fx=>⟨n,aK.1,fx⟩⟩
 | .m,o,K,⟨n,aH,ab⟩=>⟨_,ab,⟨aH,trivial⟩,by simp,rfl,λ_ _ aK fx=>⟨n,aK.1,fx⟩⟩
 | .ws n,o,K,⟨c,aT,ab⟩=>by
  refine⟨.ws n c,ab,?_,by simp,by simp[ae.cells,eo.size],λag bC aK fx=>⟨c,?_,fx⟩⟩
  .rw[qh];intro i hi;have bN:i<n:=by simpa [ae.cells] using hi
   rw[aT i bN];simp[ae.cells]
  .intro i hi
   have:=(qh ag b _ o).1 aK i (by simpa [ae.cells] using hi);rw[this];simp[ae.cells]
 | .c_ l,o,K,aO=>by
  obtain⟨r,ab,aK,aH,cR⟩:=YQ h b l o _ aO;exact⟨.c_ r,ab,aK,by simp,aH,λag bC yU fx=>cR ag _ yU fx⟩
 | .h5 _,_,_,aO=>aO.elim
 | .v,o,K,⟨x,af,aa,ab⟩=>⟨_,ab,⟨af,trivial⟩,by simp,rfl,λ_ _ aK fx=>⟨x,aK.1,aa,fx⟩⟩
theorem YQ (h:ai)(b:Nat):∀(l:List eo) (o:Nat) (K:List ae->Prop),Dn h b l o K ->
 ∃r,K r/\fb h b o (ae.fm r)/\(ae.fm r).length=eo.pG l/\∀ag bC,fb ag b o (ae.fm r)->bC r->Dn ag b l o bC
 | [],o,K,ab=>⟨[],ab,trivial,rfl,λ_ _ _ fx=>fx⟩
 | t::l,o,K,ab=>by
  obtain⟨r,jF,aK,_,aH,cR⟩:=YP h b t o _ ab;obtain⟨rs,iw,Dp,CR,apM⟩:=YQ h b l _ _ jF;refine⟨r::rs,iw,?_,by simp[ae.fm,eo.pG,aH,CR],λag bC yU fx=>?_⟩
  .show fb h b o (ae.cells r++ae.fm rs);rw[MQ,aH];exact⟨aK,Dp⟩
  .have lM:fb ag b o (ae.cells r++ae.fm rs):=yU;rw[MQ,aH] at lM;exact cR ag _ lM.1 (apM ag _ lM.2 fx)
end
theorem apN {P:Program}{T:TypeId}{h:ai}{q:aG}{K:ae->Prop}(aO:vS P T h q K) :
 ∃r,K r/\kN h q r/\r≠.no/\∀ag bC,kN ag q r->bC r->vS P T ag q bC:=by
 unfold vS at aO;split at aO
 .rename_i aT
  obtain⟨r,ab,aK,aH,_,cR⟩:=YP _ _ _ _ _ aO;exact⟨r,ab,aK,aH,λag bC aR fx=>by unfold vS;rw[as8 aT];exact cR ag bC aR fx⟩
 .exact aO.elim
def m1 (n:Nat)(o:Op)(e:Env):Option aG :=
 match o with
 | .load _ (.tmp t)=>match (if t<n then e t else none) with|some (.p q)=>some q|_=>none
 | .load _ (.global g)=>some ⟨g,0⟩
 | _=>none
section
variable {P:Program} {n:Nat} {o:Op} {ty:TypeId} {e:Env} {h:ai} {K:ae->ai->Prop}
theorem X_ (aT:cls o= .oK):gY P n o ty e h K=uf P n o ty e λr=>K r h:=by
 unfold gY;split<;>first|(simp[cls] at aT;done)|rfl
theorem anS (aT:cls o= .read)(ab:gY P n o ty e h K) :
 ∃q r,m1 n o e=some q/\K r h/\kN h q r/\r≠.no/\∀ag bC,kN ag q r->bC r ag->gY P n o ty e ag bC:=by
 obtain⟨T,a,rfl⟩:∃T a,o= .load T a:=by
  cases o with
  | load T a=>exact⟨T,a,rfl⟩
  | makeMap t r=>cases r<;>simp[cls] at aT
  | call c =>
   obtain⟨callee,args,ats⟩:=c;cases callee with
   | builtin b=>cases b<;>simp[cls] at aT
   | value f=>simp[cls] at aT
   | invoke r m=>simp[cls] at aT
  | _=>simp[cls] at aT
 simp only[gY] at ab;obtain⟨s,ab,bK⟩:=iL ab;split at ab
 .rename_i q
  obtain⟨r,ab,aR,aH,cR⟩:=apN ab;refine⟨q,r,?_,ab,aR,aH,λag bC nK fx=>?_⟩
  .cases a with
   | tmp t =>
    have:=(bK (λcx=>cx= .p q)).2 rfl;simp only[gM] at this;simp only[m1];split at this
    .rename_i s nK;subst this;rw[nK]
    .exact this.elim
   | const v =>
    exfalso;have:=(bK (λcx=>cx= .p q)).2 rfl;simp only[gM,sG] at this;split at this<;>first|cases this|(split at this<;>cases this)
   | global g =>
    have:=(bK (λcx=>cx= .p q)).2 rfl;simp only[gM] at this;cases this;rfl
   | func f =>
    exfalso;have:=(bK (λcx=>cx= .p q)).2 rfl;simp only[gM] at this;cases this
  .simp only[gY];exact(bK _).2 (cR ag _ nK fx)
 .exact ab.elim
theorem anT (aT:cls o= .new)(ab:gY P n o ty e h K):Hj (gY P n o ty e):=by
 unfold gY at ab;split at ab<;>try (simp[cls] at aT;done)
 .obtain⟨s,ab,bK⟩:=wb ab;obtain⟨bf,ab⟩:=vJ ab;exact⟨_,λb=> .p ⟨b,0⟩,λag bC=>by simp only[gY];exact(bK _).trans ⟨λh=>(vJ h).2,λh=>MP bf h⟩⟩
 .split at ab
  .rename_i z bt
   exact⟨_,λb=> .p ⟨b,0⟩,λag bC=>by simp only[gY,bt];exact atJ⟩
  .exact ab.elim
 .rename_i T len cc
  obtain⟨s,ab,bK⟩:=NH _ _ ab;have tU:∀h (K:an->ai->Prop),x1 P T len s h K->Hj (λh (K:ae->ai->Prop)=>x1 P T len s h λr h=>K (.s r) h):=by
   intro h K ab;unfold x1 at ab;split at ab
   .rename_i el hu
    split at ab
    .rename_i c4 z bt uh
     split at ab
     .rename_i rm
      exact⟨_,λb=> .s ⟨some ⟨b,0⟩,len,len,none⟩,λag bC=>by unfold x1;simp only[hu,bt,uh];rw[as8 rm];exact atJ⟩
     .exact ab.elim
    .exact ab.elim
   .exact ab.elim
  obtain⟨fJ,mk,aa⟩:=tU _ _ ab;exact⟨fJ,mk,λag bC=>by simp only[gY];exact(bK _).trans (aa ag bC)⟩
 .rename_i T l c
  obtain⟨s,ab,bK⟩:=iL ab;obtain⟨s2,ab,jk⟩:=iL ab;obtain⟨k,i,ab,pL⟩:=DM ab;obtain⟨hd,di,ab,NN⟩:=DM ab;have tU:∀h (K:an->ai->Prop),x3 P T i di h K->Hj (λh (K:ae->ai->Prop)=>x3 P T i di h λr h=>K (.s r) h):=by
   intro h K ab;unfold x3 at ab;split at ab
   .rename_i el hu
    split at ab
    .rename_i c4 z by_ bt uh jL
     obtain⟨aa,ad,aq,aJ,ab⟩:=ab;exact⟨_,λb=> .s ⟨some ⟨b,0⟩,i.toNat,di.toNat,none⟩,λag bC=>by unfold x3;simp only[hu,bt,uh,jL];exact⟨λbT=>bT.2.2.2.2,λfx=>⟨aa,ad,aq,aJ,fx⟩⟩⟩
    .exact ab.elim
   .exact ab.elim
  obtain⟨fJ,mk,aa⟩:=tU _ _ ab;exact⟨fJ,mk,λag bC=>by simp only[gY];exact(bK _).trans ((jk _).trans ((pL _).trans ((NN _).trans (aa ag bC))))⟩
 .exact⟨_,λb=> .m (some b),λag bC=>by simp only[gY];exact atJ⟩
theorem apO {h:ai}{r:Option Nat}{k:a8}{v:Value}{K bC:ai->Prop}(ab:q3 h r k v K)(hm:∀ag,K ag->bC ag):q3 h r k v bC :=
 let ⟨b,l,c,aa,ad,aq⟩:=ab;⟨b,l,c,aa,ad,hm _ aq⟩
theorem apP {h:ai}{b:Nat}{o:Obj}(au:h b=none){r:Option Nat}{k:a8}{v:Value}{K:ai->Prop}(ab:q3 h r k v K) :
 q3 (bD h b o) r k v λag=>∃gp,ag=bD gp b o/\gp b=none/\K gp:=by
 obtain⟨x,l,c,aa,ad,aq⟩:=ab;have cX:x≠b:=by intro e;rw[e,au] at ad;cases ad
 exact⟨x,l,c,aa,by rw[cJ _ _ cX];exact ad,_,Hm h _ _ (atf cX),by rw[cJ _ _ (atf cX)];exact au,aq⟩
theorem apQ {h:ai}{T:TypeId}{x:an}{K bC:ai->Prop}(ab:qv P T x h K)(hm:∀ag,K ag->bC ag):qv P T x h bC:=by
 unfold qv at ab ⊢;split at ab
 .split at ab
  .split at ab
   .rename_i aa
    simp only[aa,at2];cases h0:decide (x.len=0) with
    | true=>rw[h0] at ab;exact hm _ ab
    | false=>rw[h0] at ab;obtain⟨q,ah,ab⟩:=ab;exact⟨q,ah,x9 ab hm⟩
   .exact ab.elim
  .exact ab.elim
 .exact ab.elim
theorem apR {h:ai}{b:Nat}{o:Obj}(au:h b=none){T:TypeId}{x:an}{K:ai->Prop}(ab:qv P T x h K) :
 qv P T x (bD h b o) λag=>∃gp,ag=bD gp b o/\gp b=none/\K gp:=by
 unfold qv at ab ⊢;split at ab
 .split at ab
  .split at ab
   .rename_i aa
    simp only[aa,at2];cases h0:decide (x.len=0) with
    | true=>rw[h0] at ab;exact⟨h,rfl,au,ab⟩
    | false=>rw[h0] at ab;obtain⟨q,ah,ab⟩:=ab;exact⟨q,ah,Hu au ab⟩
   .exact ab.elim
  .exact ab.elim
 .exact ab.elim
theorem apS {h:ai}{T:TypeId}{x:an}{K:ai->Prop}(c7:jG h)(ab:qv P T x h K):qv P T x h λag=>K ag/\jG ag:=by
 unfold qv at ab ⊢;split at ab
 .split at ab
  .split at ab
   .rename_i aa
    simp only[aa,at2];cases h0:decide (x.len=0) with
    | true=>rw[h0] at ab;exact⟨ab,c7⟩
    | false=>rw[h0] at ab;obtain⟨q,ah,c,t,ar,aN,a3⟩:=ab;exact⟨q,ah,c,t,ar,aN,a3,c7.bD _ _⟩
   .exact ab.elim
  .exact ab.elim
 .exact ab.elim
theorem anU (aT:cls o= .act)(ab:gY P n o ty e h K) :
 (∀bC,(∀r ag,K r ag->bC r ag)->gY P n o ty e h bC) /\
 (∀b fJ,h b=none->gY P n o ty e (bD h b fJ) (Hk b fJ K)) /\
 (jG h->gY P n o ty e h λr ag=>K r ag/\jG ag):=by
 unfold gY at ab;split at ab<;>try (simp[cls] at aT;done)
 .rename_i T a x
  obtain⟨s,ab,bK⟩:=iL ab;split at ab
  .rename_i q
   obtain⟨r,ab,jk⟩:=wb ab;split at ab
   .rename_i rm
    obtain⟨bf,ab⟩:=vJ ab;refine⟨λbC hm=>?_,λb fJ au=>?_,λc7=>?_⟩
    all_goals
     simp only[gY];refine(bK _).2 ((jk _).2 ?_);rw[as8 rm];refine MP bf ?_
    .exact x9 ab λ_ bT=>hm _ _ bT
    .exact x9 (Hu au ab) λ_ bT=>bT
    .obtain⟨c,t,aa,ad,aq⟩:=ab;exact⟨c,t,aa,ad,aq,c7.bD _ _⟩
   .exact ab.elim
  .exact ab.elim
 .rename_i args ats
  obtain⟨r,ab,bK⟩:=AY _ _ _ ab;split at ab
  .rename_i x y
   split at ab
   .rename_i T x4 iR Nv
    split at ab
    .rename_i bz
     refine⟨λbC hm=>?_,λb fJ au=>?_,λc7=>?_⟩
     all_goals
      simp only[gY];refine(bK _).2 ?_;simp only[iR,Nv,bz,at2]
     .exact apF ab λ_ _=>hm _ _
     .exact apG au ab
     .exact apH c7 ab
    .exact ab.elim
   .exact ab.elim
  .exact ab.elim
 .rename_i args ats
  obtain⟨r,ab,bK⟩:=AY _ _ _ ab;split at ab
  .rename_i x y
   split at ab
   .rename_i T iR
    refine⟨λbC hm=>?_,λb fJ au=>?_,λc7=>?_⟩
    all_goals
     simp only[gY];refine(bK _).2 ?_;simp only[iR]
    .exact apJ ab λ_ _=>hm _ _
    .exact apK au ab
    .exact apL c7 ab
   .exact ab.elim
  .exact ab.elim
 .rename_i args ats
  obtain⟨r,ab,bK⟩:=AY _ _ _ ab;split at ab
  .rename_i x
   split at ab
   .rename_i T iR
    refine⟨λbC hm=>?_,λb fJ au=>?_,λc7=>?_⟩
    all_goals
     simp only[gY];refine(bK _).2 ?_;simp only[iR]
    .exact apQ ab λ_=>hm _ _
    .exact apR au ab
    .exact apS c7 ab
   .exact ab.elim
  .exact ab.elim
 .rename_i T m k x
  split at ab
  .rename_i vZ Dy hu
   split at ab
   .rename_i vY BA
    obtain⟨aoJ,ab,bK⟩:=iL ab;obtain⟨aoK,ab,jk⟩:=iL ab;obtain⟨aoM,ab,pL⟩:=wb ab;split at ab
    .rename_i r hd
     refine⟨λbC hm=>?_,λb fJ au=>?_,λc7=>?_⟩
     all_goals
      simp only[gY,hu,BA];refine(bK _).2 ((jk _).2 ((pL _).2 ?_))
     .exact apO ab λ_=>hm _ _
     .exact apP au ab
     .obtain⟨x,l,c,aa,ad,aq⟩:=ab;exact⟨x,l,c,aa,ad,aq,c7.bD _ _⟩
    .exact ab.elim
   .exact ab.elim
  .exact ab.elim
 .rename_i f args ats
  obtain⟨aoN,ab,bK⟩:=iL ab;obtain⟨r,ab,jk⟩:=AY _ _ _ ab;split at ab
  .rename_i g c iw
   split at ab
   rotate_left
   .rename_i lp
    obtain⟨v,jW,bH⟩:=ab;refine⟨λbC hm=>?_,λb fJ au=>?_,λc7=>?_⟩
    all_goals
     simp only[gY];refine(bK _).2 ((jk _).2 ?_);simp only[lp]
    .exact⟨v,jW,sI _ _ _ bH λr aK=>⟨aK.1,hm _ _ aK.2⟩⟩
    .exact⟨v,jW,sI _ _ _ bH λr aK=>⟨aK.1,h,rfl,au,aK.2⟩⟩
    .exact⟨v,jW,sI _ _ _ bH λr aK=>⟨aK.1,aK.2,c7⟩⟩
   rename_i lp
   refine⟨λbC hm=>?_,λb fJ au=>?_,λc7=>?_⟩
   all_goals
    simp only[gY];refine(bK _).2 ((jk _).2 ?_);simp only[lp]
   .exact ab.mono λv ag bT=>sI _ _ _ bT λr aK=>⟨aK.1,hm _ _ aK.2⟩
   .refine(YN au ab).mono ?_
    rintro v ag ⟨gp,rfl,NS,bT⟩;exact sI _ _ _ bT λr aK=>⟨aK.1,gp,rfl,NS,aK.2⟩
   .exact(YO ab).mono λv ag bT=>sI _ _ _ bT.1 λr aK=>⟨aK.1,aK.2,bT.2⟩
  .rename_i x
   refine⟨λbC hm=>?_,λb fJ au=>?_,λc7=>?_⟩
   all_goals
    simp only[gY];refine(bK _).2 ((jk _).2 ?_)
   .exact ab.mono λv ag bT=>sI _ _ _ bT λr aK=>⟨aK.1,hm _ _ aK.2⟩
   .refine(apD au ab).mono ?_
    rintro v ag ⟨gp,rfl,NS,bT⟩;exact sI _ _ _ bT λr aK=>⟨aK.1,gp,rfl,NS,aK.2⟩
   .exact(apE ab).mono λv ag bT=>sI _ _ _ bT.1 λr aK=>⟨aK.1,aK.2,bT.2⟩
  .exact ab.elim
end

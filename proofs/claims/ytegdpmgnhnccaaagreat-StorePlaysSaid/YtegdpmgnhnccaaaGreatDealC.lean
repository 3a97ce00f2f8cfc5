import Derived.Test.YtegdpmgnhnccaaaGreatSrtInt
namespace Go.cQ
open Go Go.RowKit
theorem OW {f:Int->Value}{h0 h:ai}{s:an}{l:List Int}:b9 f h0 h s l↔cI 1 (λx=>[f x]) h0 h s l:=by
 have e:∀l:List Int,l.flatMap (λx=>[f x])=l.map f:=λl=>by induction l<;>simp_all
 constructor
 .intro o
  refine⟨o.len,o.cap,?_⟩;rcases o.own with h|⟨q,c,t,aa,ad,aq,aJ,aW⟩
  .exact .inl h
  .refine .inr ⟨q,c,t,aa,ad,aq,by omega,λi hi=>?_⟩;have bN:i<l.length:=by rw[e] at hi;simpa using hi
   rw[aW i bN];simp[e]
 .intro o
  refine⟨o.len,o.cap,?_⟩;rcases o.own with h|⟨q,c,t,aa,ad,aq,aJ,aW⟩
  .exact .inl h
  .refine .inr ⟨q,c,t,aa,ad,aq,by omega,λi hi=>?_⟩;have:=aW i (by rw[e];simpa using hi);simpa [e] using this
end Go.cQ
namespace Go.Proofs.Tryz
open Go Go.cQ Go.RowKit
set_option maxRecDepth 8000
abbrev fy (fW g:ai)(s:an)(n:Nat)(d:Nat->Int):Prop:=cI 1 sR fW g s ((List.range n).map d)
theorem fy.yt {fW g:ai}{s:an}{n:Nat}{d:Nat->Int}(A:fy fW g s n d):b9 dg fW g s ((List.range n).map d):=OW.2 A
theorem fy.zero {h0 h:ai}{b n:Nat}{t:TypeId}{m:Nat}(au:h0 b=none)(e:h b=dB (kx (if m=0 then #[] else Value.cells (U 0)) m) t)(hm:m=n):fy h0 h ⟨some ⟨b,0⟩,n,n,none⟩ n λ_=>0:=by
 subst hm;refine⟨by simp,as_ _,.inr ⟨_,_,_,rfl,au,e,?_,λi hi=>?_⟩⟩
 .rw[show Value.cells (U 0)=#[U 0] from rfl,Ee _ _ rfl];simp
 .have nZ:(((List.range m).map λ_=>(0:Int)).flatMap sR).length=m:=by rw[mv sS];simp
  have bN:i<m:=by rw[nZ] at hi;exact hi
  rw[show Value.cells (U 0)=#[U 0] from rfl,Ee _ _ rfl,Nat.zero_add];have a7:((List.range m).map λ_=>(0:Int)).flatMap sR=List.replicate m (U 0):=by
   have:∀l:List Nat,(l.map λ_=>(0:Int)).flatMap sR=List.replicate l.length (U 0):=λl=>by
    induction l with
    | nil=>rfl
    | cons a l c6=>rw[at1,List.flatMap_cons,c6];rfl
   rw[this,atj]
  simp[a7,bN]
theorem fy.get {fW g:ai}{s:an}{n:Nat}{d:Nat->Int}(A:fy fW g s n d){i:Nat}(hi:i<n){I:Int}(jI:I=i){K:aG->Int->Prop}(ab:∀q,s.q=some q->K q (d i)) :
 ∃q,s.q=some q/\0<=I/\I+1<=(s.len:Int)/\∃ax:Int,bR g q.b (q.o+Int.toNat I*1)=some (U ax)/\K q ax:=by
 subst jI;refine A.rd.e0 sS (i:=i) (by simpa using hi) λq ah r=>?_;rw[pQ hi] at r;exact⟨_,r.1,ab q ah⟩
theorem fy.set {fW g:ai}{s:an}{n:Nat}{d:Nat->Int}(A:fy fW g s n d){i:Nat}(hi:i<n){I:Int}(jI:I=i)(e:Int){K:ai->Prop}
 (ab:∀bg,fy fW bg s n (λx=>if x=i then e else d x)->(∀b,(∀q,s.q=some q->b≠q.b)->bg b=g b)->K bg) :
 ∃q,s.q=some q/\0<=I/\I+1<=(s.len:Int)/\a1 g ⟨q.b,q.o+Int.toNat I*1⟩ [U e] K:=by
 subst jI;have aO:=A.len;simp only[ath,atj] at aO;obtain⟨q,ah⟩:=A.rd.ptr (by simp;omega);exact⟨q,ah,by omega,by omega,sN sS A ah hi e λbg oT il=>ab bg oT λb au=>il b (au q ah)⟩
theorem OX (a:Int):eu prog 219 [U a] (.bool false):=λh=>by
 refine aao _ ?_;exact⟨by simp,bB.refl h⟩
theorem OY (a:a8):eu prog 195 [ak a] (.bool false):=λh=>by
 refine aap _ ?_;exact⟨by simp,bB.refl h⟩
theorem aaq (a b:Int):eu prog 216 [U a,U b] (U (if a<b then -1 else if b<a then 1 else 0)):=λh=>by
 refine aar _ _ ?_;unfold OZ;refine(OX a).to λaa aE=>⟨_,rfl,(OX b).to λad az=>⟨_,rfl,b0 rfl (b0 rfl ?_)⟩⟩;refine b6 (λc=>⟨by rw[as8 c],aE.trans az⟩) λc=>b6 (λaZ=>⟨by rw[as7 c,as8 aZ],aE.trans az⟩) λaZ=>⟨by rw[as7 c,as7 aZ],aE.trans az⟩
theorem O0 (a b:a8):eu prog 177 [ak a,ak b] (U (if a<b then -1 else if b<a then 1 else 0)):=λh=>by
 refine aas _ _ ?_;unfold O1;refine(OY a).to λaa aE=>⟨_,rfl,(OY b).to λad az=>⟨_,rfl,b0 rfl (b0 rfl ?_)⟩⟩;refine b6 (λc=>⟨by rw[as8 c],aE.trans az⟩) λc=>b6 (λaZ=>⟨by rw[as7 c,as8 aZ],aE.trans az⟩) λaZ=>⟨by rw[as7 c,as7 aZ],aE.trans az⟩
def m2 (e:a8×Int):List Value:=[ak e.1,U e.2]
theorem kc (e:a8×Int):(m2 e).length=2:=rfl
theorem O2 (e:a8×Int):∀v∈m2 e,v.oneCell'=true:=by simp[m2,ak,Value.oneCell']
def ib (e:a8×Int):Nat:=if e.2<0 then 1001*18446744073709551616 else (1000-e.2.toNat)*18446744073709551616+e.1.toNat
theorem aat {a b:a8×Int}(bV:a.2<=1000)(au:b.2<=1000)(aH:¬(a.2<0/\b.2<0))(cX:a.2≠b.2):b.2<a.2↔ib a<ib b:=by
 have aau:=a.1.toNat_lt;have aV:=b.1.toNat_lt;obtain⟨x,aav⟩:=a;obtain⟨y,O3⟩:=b;simp only at *;unfold ib;simp only;generalize x.toNat=pT at *;generalize y.toNat=arG at *;by_cases aX:aav<0
 .rw[as8 aX,as7 (show ¬O3<0 by omega)];omega
 .rw[as7 aX];by_cases aZ:O3<0
  .rw[as8 aZ];omega
  .rw[as7 aZ];omega
theorem aaw (a b:a8×Int)(bV:a.2<=1000)(au:b.2<=1000)(h:ai):aw 210 [.agg #[ak a.1,U a.2],.agg #[ak b.1,U b.2]] h λr ag=>∃m,r=U m/\(m<0↔ib a<ib b)/\bB h ag:=by
 refine aax _ _ _ _ ?_;unfold O4;refine bL λaj aa f1 aC aE=>bL λaB ad f2 a7 az=>?_;have aC:=az.get aC;have rest:¬(a.2<0/\b.2<0)->∃aI,bR ad aj 1=some (U aI)/\∃aQ,bR ad aB 1=some (U aQ)/\bp (!decide (aI=aQ)) (∃bm,bR ad aB 1=some (U bm)/\∃bx,bR ad aj 1=some (U bx)/\aw 216 [U bm,U bx] ad λv1 aq=>∃bh,v1=U bh/\∃m,(U bh:Value)=U m/\(m<0↔ib a<ib b)/\bB h aq)
  (∃bO,bR ad aj 0=some (ak bO)/\∃ca,bR ad aB 0=some (ak ca)/\aw 177 [ak bO,ak ca] ad λv2 aJ=>∃bo,v2=U bo/\∃m,(U bo:Value)=U m/\(m<0↔ib a<ib b)/\bB h aJ):=by
  intro aH;refine⟨_,aF aC rfl,_,aF a7 rfl,mw (λcX=>?_) λheq=>?_⟩
  .refine⟨_,aF a7 rfl,_,aF aC rfl,?_⟩;refine(aaq _ _).to λaq aD=>⟨_,rfl,_,rfl,?_,(aE.trans az).trans aD⟩;have key:=aat bV au aH cX;rw[<-key];by_cases c:b.2<a.2
   .rw[as8 c];simp[c]
   .rw[as7 c];by_cases aZ:a.2<b.2
    .rw[as8 aZ];simp[c]
    .rw[as7 aZ];simp[c]
  .refine⟨_,aF aC rfl,_,aF a7 rfl,?_⟩;refine(O0 _ _).to λaq aD=>⟨_,rfl,_,rfl,?_,(aE.trans az).trans aD⟩;have aX:¬a.2<0:=λc=>aH ⟨c,by omega⟩;have key:(a.1<b.1)↔ib a<ib b:=by
    unfold ib;rw[as7 aX,cS,heq,atY];omega
   rw[<-key];by_cases c:a.1<b.1
   .rw[as8 c];simp[c]
   .rw[as7 c];by_cases aZ:b.1<a.1
    .rw[as8 aZ];simp[c]
    .rw[as7 aZ];simp[c]
 refine⟨_,aF aC rfl,b6 (λpU=>⟨_,aF a7 rfl,hS (λH6=>?_) λH6=>?_⟩) λpU=>rest λh=>pU h.1⟩
 .have H7:b.2<0:=by simpa using H6
  refine⟨0,rfl,?_,aE.trans az⟩;unfold ib;rw[as8 pU,as8 H7];simp
 .have H7:¬b.2<0:=by simpa using H6
  exact rest λh=>H7 h.2
theorem aay {n:Nat}(aH:n<4294967296)(h:ai):aw 209 [ak 1,ak (UInt64.ofNat n)] h λv ag=>v= .tuple #[ak 0,ak (UInt64.ofNat n)]/\ag=h:=by
 refine aaz _ _ ?_;unfold O5;refine aaA _ _ ?_;have af:UInt64.ofNat n &&& 4294967295=UInt64.ofNat n:=by
  apply att.1;rw[UInt64.toNat_and,ate,show(4294967295:a8).toNat=2 ^ 32-1 from rfl,Nat.and_two_pow_sub_one_eq_mod];omega
 have aR:ds (UInt64.ofNat n) (UInt64.toNat 32)=0:=by
  apply att.1;unfold ds;rw[show UInt64.toNat 32=32 from rfl];have cD:min 32 64=32:=rfl;simp only[auT,ate,cD];have:(0:a8).toNat=0:=rfl;omega
 have aa:ds 1 (UInt64.toNat 32)=0:=by decide
 have ad:(1:a8) &&& 4294967295=1:=by decide
 have h0:ds 0 (UInt64.toNat 32)=0:=by decide
 refine⟨_,_,rfl,?_,rfl⟩;simp only[af,aR,aa,ad,h0,UInt64.zero_mul,UInt64.one_mul,UInt64.add_zero,UInt64.zero_add,UInt64.zero_and]
theorem H8 {fW g:ai}{s:an}{n:Nat}{d:Nat->Int}(A:fy fW g s n d){q:aG}(ah:s.q=some q){i c:Nat}(hi:i+c<=n)(e:Int){l:List Value}(aO:l=List.replicate c (U e)){K:ai->Prop}
 (ab:∀bg,fy fW bg s n (λx=>if i<=x/\x<i+c then e else d x)->(∀b,b≠q.b->bg b=g b)->K bg):a1 g ⟨q.b,q.o+i⟩ l K:=by
 subst aO;have hlen:=A.len;simp only[ath,atj] at hlen;have sO:=A.cap;rcases A.own with ⟨aH,_⟩|⟨df,pU,t,aa,ad,aq,aJ,aW⟩
 .rw[ah] at aH;cases aH
 .rw[ah] at aa;cases aa;refine⟨pU,t,aq,by simp;omega,ab _ ⟨by simp[hlen],sO,.inr ⟨q,_,t,ah,ad,ea _ _ _,by rw[yr];exact aJ,λj aL=>?_⟩⟩ λb au=>cJ _ _ au⟩;have nZ:∀d:Nat->Int,((List.range n).map d).flatMap sR=(List.range n).map λx=> U (d x):=λd=>by
   rw[List.flatMap_map];exact aaB _ _
  have lg:j<n:=by rw[nZ] at aL;simpa using aL
  rw[wo,List.length_replicate];have aC:=aW j (by rw[nZ];simpa using lg);have mx:q.o+j<pU.size:=by omega
  by_cases aX:i<=j/\j<i+c
  .have aT:q.o+i<=q.o+j/\q.o+j<q.o+i+c/\q.o+j<pU.size:=⟨by omega,by omega,mx⟩;rw[as8 aT];simp[nZ,aX,List.getElem?_replicate];omega
  .have aT:¬(q.o+i<=q.o+j/\q.o+j<q.o+i+c/\q.o+j<pU.size):=λh=>aX ⟨by omega,by omega⟩;rw[as7 aT,aC];simp[nZ,aX]
where
 aaB (l:List Nat) (f:Nat->Value):l.flatMap (λx=>[f x])=l.map f:=by induction l<;>simp_all
end Go.Proofs.Tryz
namespace Go.Proofs.Tryz
open Go Go.cQ Go.RowKit
set_option maxRecDepth 8000
theorem O6 {x y:an}{h:ai}{l:List Int}(iz:ey dg h y l){q:aG}(af:x.q=some q){K:Nat->ai->Prop}(ab:a1 h q ((l.take (Nat.min l.length x.len)).map dg) λag=>K (Nat.min l.length x.len) ag):kP prog 37 x (.s y) h K:=by
 unfold kP;rw[oU.A9];simp only[oU.c4,qA,my,iz.len,af];have hm:Nat.min l.length x.len<=l.length:=auj _ _;refine⟨(l.take (Nat.min l.length x.len)).map dg,by simp,by simp only[atE];rintro v ⟨a,_,rfl⟩;rfl,?_,ab⟩;cases e:y.q with
 | none=>have aa:=iz.nil e;have ad:=iz.cap;have aq:=iz.len;have:l=[]:=atM.1 (by omega);simp[this]
 | some p =>
  simp only;rw[Ef];intro i hi;have bN:i<l.length:=by simp at hi;omega
  rw[iz.rd p e i bN];simp
theorem O7 {s:an}{q:aG}(ah:s.q=some q){i a c:Nat}(hi:i<s.cap):an.q ⟨fT s.p i s.cap 1,a,c,hE s.z i s.cap 1⟩=some ⟨q.b,q.o+i⟩:=by
 have aM:=an.A_ ah;have bt:s.z=none:=by
  obtain⟨p,k,c,z⟩:=s;cases z with
  | some z=>cases ah
  | none=>rfl
 simp only[an.q,hE,bt,ite_self,fT,aM,aua,auw];rw[cS]
theorem aaC {n:Nat}(aa:1<=n)(aH:n<=1000000){h:ai}{x:an}(rx:ey dg h x [-1]):aw 196 [aU x,U n] h λv ag=>∃s,v=aU s/\fy h ag s n (λ_=>-1)/\bB h ag:=by
 refine aaD _ _ ?_;unfold O8;refine⟨λs1 ax g=>s1=x/\ax=(n:Nat)/\g=h,b0 (by simp) ⟨rfl,rfl,rfl⟩,?_⟩;rintro s1 ax g ⟨rfl,rfl,rfl⟩;have aC:cK (s1.len:Int)=1:=by rw[rx.len];exact jr (i:=1) (by decide)
 rw[aC,jr (by omega)];refine(aay (by omega) g).mono ?_;rintro _ h ⟨rfl,rfl⟩;have dA:al (((UInt64.ofNat n).toNat:Nat):Int)=(n:Int):=by rw[ate,aun (by omega)];exact bl
 have b1:¬(9223372036854775807:a8)<UInt64.ofNat n:=by
  rw[atY,ate];have:(9223372036854775807:a8).toNat=9223372036854775807:=rfl;omega
 refine⟨_,_,rfl,b0 (by decide) (b0 (by simpa using b1) ?_)⟩;rw[dA];refine⟨by omega,by omega,by omega,by omega,bL λaj ad f1 aC aE=>?_⟩;have m3:Int.toNat (n:Int)=n:=by omega
 rw[m3] at aC ⊢;have Ba:fy h ad ⟨some ⟨aj,0⟩,n,n,none⟩ n λ_=>0:=fy.zero f1 aC (by omega);have hm:Nat.min ([(-1:Int)]).length n=1:=at4 aa;refine O6 (rx.bE aE) (x:=⟨some ⟨aj,0⟩,n,n,none⟩) (q:=⟨aj,0⟩) rfl ?_;show a1 ad ⟨aj,0⟩ (([(-1:Int)].take (Nat.min ([(-1:Int)]).length n)).map dg) λag=>_;rw[hm];refine H8 Ba (q:=⟨aj,0⟩) rfl (i:=0) (c:=1) (by omega) (-1) rfl λbg oT il=>?_;refine⟨λs2 ay g2 az=>s2=⟨some ⟨aj,0⟩,n,n,none⟩/\∃i:Nat,ay=i/\1<=i/\i<=n/\az=n-i/\fy h g2 ⟨some ⟨aj,0⟩,n,n,none⟩ n (λx=>if x<i then -1 else 0)/\(∀b,b≠aj->g2 b=ad b),
  ⟨n-1,rfl,1,rfl,as_ _,aa,rfl,by
   have e:(λx:Nat=>if 0<=x/\x<0+1 then (-1:Int) else 0)=λx=>if x<1 then -1 else 0:=by funext x;simp
   rw[e] at oT;exact oT,il⟩,?_⟩
 rintro s2 ay g2 az ⟨rfl,i,rfl,ux,ky,rfl,dn,cU⟩;refine b6 (λb1=>?_) λc3=>?_
 .have hi:i<n:=by simp only at b1;omega
  refine⟨by omega,by simp only;omega,by omega,by simp only;omega,?_⟩;have e5:=(ey.O9 dn.yt.rd (n:=i) (by simp;omega));have kQ:Int.toNat (i:Int)=i:=by omega
  rw[kQ];refine O6 e5 (O7 (s:=⟨some ⟨aj,0⟩,n,n,none⟩) rfl (i:=i) hi) ?_;have rz:Nat.min (((List.range n).map λx=>if x<i then (-1:Int) else 0).take i).length (n-i)=min i (n-i):=by
   simp only[List.length_take,ath,atj,at4 (Nat.le_of_lt hi)]
  show a1 g2 ⟨aj,0+i⟩ (((((List.range n).map λx=>if x<i then (-1:Int) else 0).take i).take (Nat.min (((List.range n).map λx=>if x<i then (-1:Int) else 0).take i).length (n-i))).map dg) λag=>_;rw[rz];refine H8 dn (q:=⟨aj,0⟩) rfl (i:=i) (c:=min i (n-i)) (by omega) (-1) ?_ λg3 im c9=>?_
  .apply aue
   .simp;omega
   .intro j ar aN
    simp at aN;simp[dg];omega
  .refine⟨n-(i+min i (n-i)),by omega,rfl,i+min i (n-i),?_,by omega,by omega,rfl,?_,λb au=>by rw[c9 b au,cU b au]⟩
   .rw[bl];omega
   .have e:(λx:Nat=>if i<=x/\x<i+min i (n-i) then (-1:Int) else if x<i then -1 else 0)=λx=>if x<i+min i (n-i) then -1 else 0:=by
     funext x;repeat' split
     all_goals first|rfl|omega
    rw[e] at im;exact im
 .have hi:i=n:=by simp only at c3;omega
  subst hi;refine⟨_,rfl,?_,λb au=>?_⟩
  .have e:(List.range i).map (λx=>if x<i then (-1:Int) else 0)=(List.range i).map λ_=>-1:=atv λx af=>as8 (atq.1 af);have H9:cI 1 sR h g2 ⟨some ⟨aj,0⟩,i,i,none⟩ ((List.range i).map λ_=>(-1:Int)):=by rw[<-e];exact dn
   exact H9
  .have pV:b≠aj:=λe=>au (e▸f1);rw[cU b pV,aE b au]
theorem aaE {h:ai}{s:an}{l:List Int}(r:ey dg h s l)(aO:l.length<=1000000) :
 aw 139 [aU s,.func (.func 200) #[] #[]] h λv ag=>ag=h/\((v=U (-1)/\∀x∈l,¬x<0)∨∃i:Nat,i<l.length/\v=U i/\(∀x∈l.take i,¬x<0)/\l.getD i 0<0):=by
 refine O_ s _ ?_;unfold H_;refine⟨λs1 v n i aa k=>s1=s/\v= .func (.func 200) #[] #[]/\n=s.len/\aa=h/\∃j:Nat,i=j/\j<=s.len/\k=s.len-j/\∀x∈l.take j,¬x<0,⟨_,rfl,rfl,rfl,rfl,0,rfl,by omega,rfl,λx af=>by simp at af⟩,?_⟩;rintro s1 v n i aa k ⟨rfl,rfl,rfl,rfl,j,rfl,sT,rfl,mz⟩;have:=r.len;refine b6 (λb1=>?_) λc3=>⟨rfl,.inl ⟨rfl,λx af=>mz x (by rw[at8 (by omega)];exact af)⟩⟩;have aL:j<l.length:=by omega
 have aaF:l.getD j 0=l[j]:=by simp[List.getD,aL]
 refine r.e0 aL λq _ aT=>⟨_,aT,?_⟩;refine⟨rfl,?_⟩;refine Pa _ ?_;refine⟨_,rfl,hS (λjs=>⟨rfl,.inr ⟨j,aL,rfl,mz,by rw[aaF];simpa using js⟩⟩) λjs=>⟨s1.len-(j+1),by omega,rfl,rfl,rfl,rfl,j+1,bl,by omega,rfl,λx af=>?_⟩⟩;rw[atV,atc aL] at af;rcases atw.1 af with h|h
 .exact mz x h
 .simp at h;rw[h];simpa using js
theorem filter_all {l:List Int}(h:∀x∈l,¬x<0):l.filter (λx=>decide (0<=x))=l:=List.filter_eq_self.2 λx af=>by have:=h x af;simp;omega
theorem aaG {fW h:ai}{s:an}{n:Nat}{d:Nat->Int}(A:fy fW h s n d)(aH:n<=1000000) :
 aw 199 [aU s,.func (.func 200) #[] #[]] h λv ag=>∃cx,v=aU cx/\ey dg ag cx (((List.range n).map d).filter λx=>decide (0<=x))/\(∀q,cx.q=some q->∃p,s.q=some p/\q.b=p.b)/\(∀b,(∀q,s.q=some q->b≠q.b)->ag b=h b)/\(∀q,s.q=some q->ag q.b≠none):=by
 have hlen:=A.len;simp only[ath,atj] at hlen;have sO:=A.cap;refine aaH _ _ ?_;unfold Pb;refine(aaE A.yt.rd (by simpa using aH)).mono ?_;rintro v h ⟨rfl,bH⟩;rcases bH with ⟨rfl,mA⟩|⟨i0,mB,rfl,mz,js⟩
 .refine⟨_,rfl,eh rfl ⟨s,rfl,by rw[filter_all mA];exact A.yt.rd,λq ah=>⟨q,ah,rfl⟩,λ_ _=>rfl,λq ah=>(A.b_ ah).2⟩⟩
 simp only[ath,atj] at mB;have js:d i0<0:=by simpa [List.getD,mB] using js
 refine⟨_,rfl,b0 (by simp) ?_⟩;have aaI:∀j,j<i0->¬d j<0:=λj aL=>mz (d j) (by
  rw[<-List.map_take];exact List.mem_map_of_mem (by rw[List.take_range];exact atq.2 (by omega)))
 let kz:Nat->List Int:=λj=>((List.range j).map d).filter λx=>decide (0<=x);have cs:∀j,kz (j+1)=kz j++if 0<=d j then [d j] else []:=λj=>by
  show((List.range (j+1)).map d).filter _=_;rw[ato,atD,auY];by_cases c:0<=d j
  .rw[as8 c];simp[c];rfl
  .rw[as7 c];simp[c];rfl
 have lh:kz i0=(List.range i0).map d:=filter_all λx af=>by
  obtain⟨j,aL,rfl⟩:=atE.1 af;exact aaI j (atq.1 aL)
 have aaJ:∀j,(kz j).length<=j:=λj=>by
  have:=auq (λx:Int=>decide (0<=x)) ((List.range j).map d);simpa using this
 refine⟨λs1 v2 ay aI g bI=>s1=s/\v2= .func (.func 200) #[] #[]/\∃(j:Nat) (e:Nat->Int),aI=j/\ay=((kz j).length:Nat)/\i0<j/\j<=n/\bI=n-j/\(kz j).length<j/\fy fW g s n e/\(∀b,(∀q,s.q=some q->b≠q.b)->g b=h b)/\(∀x,x<(kz j).length->e x=(kz j).getD x 0)/\∀x,j<=x->e x=d x,
  ⟨n-(i0+1),rfl,rfl,i0+1,d,bl,?_,by omega,by omega,rfl,?_,A,λ_ _=>rfl,λx af=>?_,λ_ _=>rfl⟩,?_⟩
 .rw[cs,cS,atU,lh];simp
 .rw[cs,cS,atU,lh];simp
 .rw[cs,cS,atU,lh] at af ⊢;simp at af;simp[List.getD,af]
 rintro s1 v2 ay aI g bI ⟨rfl,rfl,j,e,rfl,rfl,Bb,rA,rfl,n1,eb,gH,lo,hi⟩;refine b6 (λb1=>?_) λc3=>?_
 .have aL:j<n:=by omega
  refine eb.get aL rfl λq ah=>?_;rw[hi j (as_ _)];refine⟨rfl,?_⟩;refine Pa _ ?_;refine⟨_,rfl,hS (λm3=>?_) λm3=>?_⟩
  .have h0:0<=d j:=by simpa using m3
   have aC:=cs j;rw[as8 h0] at aC;have a7:(kz (j+1)).length=(kz j).length+1:=by rw[aC];simp
   refine eb.set (i:=(kz j).length) (by omega) rfl (d j) λg2 dn cU=>?_;refine⟨n-(j+1),by omega,rfl,rfl,j+1,_,bl,?_,by omega,by omega,rfl,by omega,dn,λb au=>(cU b au).trans (gH b au),λx af=>?_,λx af=>?_⟩
   .rw[a7,bl];omega
   .rw[aC];by_cases c:x=(kz j).length
    .rw[as8 c,c];simp[List.getD]
    .rw[as7 c,lo x (by omega)];simp only[List.getD];rw[atB (by omega)]
   .rw[cS];exact hi x (by omega)
  .have h0:¬0<=d j:=by simp at m3;omega
   have aC:=cs j;rw[as7 h0,atU] at aC;refine⟨n-(j+1),by omega,rfl,rfl,j+1,e,bl,by rw[aC],by omega,by omega,rfl,by rw[aC];omega,eb,gH,λx af=>by rw[aC] at af ⊢;exact lo x af,λx af=>hi x (by omega)⟩
 .have aL:j=n:=by omega
  subst aL;have arH:=aaJ j;refine⟨by omega,by omega,?_⟩;rw[show Int.toNat ((kz j).length:Int)=(kz j).length by omega];refine b0 (by simp;omega) ?_;obtain⟨q,ah⟩:=eb.rd.ptr (by simp;omega);refine⟨_,O7 ah (by omega),?_⟩;refine H8 eb ah (i:=(kz j).length) (c:=s1.len-(kz j).length) (by omega) 0 rfl λg2 dn cU=>?_;refine⟨by omega,by omega,?_⟩;refine⟨_,rfl,?_,λdf ek=>?_,λb au=>(cU b (au q ah)).trans (gH b au),λdf ek=>(dn.b_ ek).2⟩
  .have:=ey.O9 dn.yt.rd (n:=(kz j).length) (by simp;omega);have a7:((List.range j).map λx=>if (kz j).length<=x/\x<(kz j).length+(s1.len-(kz j).length) then (0:Int) else e x).take (kz j).length=kz j:=by
    apply aue
    .simp;omega
    .intro x ar aN
     have aO:=lo x aN;simp only[List.getElem_take,au2,auX];rw[cS,aO];simp[List.getD,aN]
   rw[a7] at this;exact this
  .rcases Pc ek with ⟨p,aM,a7⟩|⟨_,h0⟩
   .exact⟨p,aM,a7⟩
   .simp at h0
abbrev m4 (k s t:Nat)(x:l4):Array Value:=#[U k,U s,U t,U x.bS,U x.on,U x.st]
def gf:Option Nat->Int
 | some p=>p
 | none=>-1
theorem aaK {k s t:Nat}(o:sQ k s t){x:l4}(w:rB k s t x)(aO: -1<=x.bS){d:Int}(bK:0<=d){T:TypeId}{h:ai}{b:Nat}(e:h b=dB (m4 k s t x) T) :
 aw 198 [bu ⟨b,0⟩,U d] h λv ag=>v=U (gf (hf k s t x d).2)/\ag b=dB (m4 k s t (hf k s t x d).1) T/\(∀y,y≠b->h y≠none->ag y=h y)/\(∀y,ag y=none->h y=none):=by
 have jJ:=w.bS;have iO:=w.on;have n2:=w.st;have os:=o.s;have Pd:=o.t;have qB:=o.d;refine aaL _ _ ?_;unfold Pe;generalize kd:(if d<x.bS then d else x.bS)=bS;generalize l5:(if d<x.bS then 0 else x.on)=on;have dA:hf k s t x d=if bS<0 then (if x.st=t then (⟨bS,on,x.st⟩,none) else (⟨bS,on,x.st+1⟩,some (s*(k+1)+x.st))) else (if on+1=s then ⟨bS-1,0,x.st⟩ else ⟨bS,on+1,x.st⟩,some (bS.toNat*s+on)):=by
  unfold hf;rw[kd,l5]
 have jb:bS<=k/\-1<=bS/\on<s:=by
  by_cases c:d<x.bS
  .rw[as8 c] at kd l5;omega
  .rw[as7 c] at kd l5;omega
 rw[dA];have yu:∀(g:ai) (fJ:Obj) y,g b≠none->bD g b fJ y=none->g y=none:=λg fJ y au aA=>by
  by_cases c:y=b
  .rw[c,ea] at aA;cases aA
  .rwa [cJ _ _ c] at aA
 refine⟨λq1 g=>q1=⟨b,0⟩/\g b=dB (m4 k s t ⟨bS,on,x.st⟩) T/\(∀y,y≠b->h y≠none->g y=h y)/\(∀y,g y=none->h y=none),⟨_,aF e rfl,?_⟩,?_⟩
 .refine b6 (λc=>?_) λc=>?_
  .rw[as8 c] at kd l5;refine⟨_,T,e,by simp,?_⟩;refine⟨_,T,ea _ _ _,by simp[hg],rfl,?_,λy aA bT=>?_,λy aA=>?_⟩
   .rw[ea,<-kd,<-l5];rfl
   .rw[cJ _ _ aA,cJ _ _ aA]
   .exact yu _ _ _ (by rw[e];simp) (yu _ _ _ (by rw[ea];simp) aA)
  .rw[as7 c] at kd l5;refine⟨rfl,?_,λ_ _ _=>rfl,λ_ aA=>aA⟩;rw[e,<-kd,<-l5]
 rintro q1 g ⟨rfl,iq,gH,Ia⟩;have Pf:g b≠none:=by rw[iq];simp
 have aR:((s*(k+1):Nat):Int)=(s:Int)*((k:Int)+1):=by simp
 have yv:=wq os.1 os.2 qB.1 qB.2;have aaM:bS<0->x.st≠t->∃bx,bR g b (0+5)=some (U bx)/\a1 g ⟨b,0+5⟩ [U (al (bx+1))] λaJ=>∃bh,bR aJ b 0=some (U bh)/\∃bo,bR aJ b (0+1)=some (U bo)/\∃bY,bR aJ b (0+1+1)=some (U bY)/\∃cz,bR aJ b (0+5)=some (U cz) /\
  aw 183 [.agg #[U bh,U bo,U bY]] aJ λv1 aW=>∃cA,v1=U cA/\(bR aW b (0+5)=some (U cz)/\True)/\(U (al (al (cA+cz)-1)):Value)=U (gf (some (s*(k+1)+x.st)))/\aW b=dB (m4 k s t ⟨bS,on,x.st+1⟩) T/\(∀y,y≠b->h y≠none->aW y=h y)/\(∀y,aW y=none->h y=none):=by
  intro aX aZ;refine⟨_,aF iq rfl,_,T,iq,by simp,?_⟩;have b5:bD g b (.cells (hg (m4 k s t ⟨bS,on,x.st⟩) (0+5) [U (al ((x.st:Int)+1))]) T (0,0)) b=dB (m4 k s t ⟨bS,on,x.st+1⟩) T:=by
   rw[ea,bl];rfl
  refine⟨_,aF b5 rfl,_,aF b5 rfl,_,aF b5 rfl,_,aF b5 rfl,?_⟩;refine(OM o).to λaW bU=>⟨_,rfl,⟨aF (bU.get b5) rfl,trivial⟩,?_,bU.get b5,λy aA bT=>?_,λy aA=>?_⟩
  .congr 1;simp only[gf];generalize (s:Int)*((k:Int)+1)=z at *;rw[iN (n:=z+((x.st+1:Nat):Int)) (by omega) (by omega),bl];omega
  .have aC:bD g b (.cells (hg (m4 k s t ⟨bS,on,x.st⟩) (0+5) [U (al ((x.st:Int)+1))]) T (0,0)) y=h y:=by rw[cJ _ _ aA,gH y aA bT]
   rw[bU y (by rw[aC];exact bT),aC]
  .exact Ia y (yu _ _ _ Pf (bU.free aA))
 have aaN:¬bS<0->∃ct,bR g b (0+3)=some (U ct)/\∃cP,bR g b (0+1)=some (U cP)/\∃c8,bR g b (0+4)=some (U c8)/\∃dO,bR g b (0+4)=some (U dO)/\a1 g ⟨b,0+4⟩ [U (al (dO+1))] λbd=>∃c5,bR bd b (0+4)=some (U c5)/\∃dh,bR bd b (0+1)=some (U dh) /\
  bp (decide (c5=dh)) (∃ck,bR bd b (0+3)=some (U ck)/\a1 bd ⟨b,0+3⟩ [U (al (ck-1))] λcg=>a1 cg ⟨b,0+4⟩ [U 0] λcl=>(U (al (al (ct*cP)+c8)):Value)=U (gf (some (bS.toNat*s+on)))/\cl b=dB (m4 k s t (if on+1=s then ⟨bS-1,0,x.st⟩ else ⟨bS,on+1,x.st⟩)) T/\(∀y,y≠b->h y≠none->cl y=h y)/\(∀y,cl y=none->h y=none))
   ((U (al (al (ct*cP)+c8)):Value)=U (gf (some (bS.toNat*s+on)))/\bd b=dB (m4 k s t (if on+1=s then ⟨bS-1,0,x.st⟩ else ⟨bS,on+1,x.st⟩)) T/\(∀y,y≠b->h y≠none->bd y=h y)/\(∀y,bd y=none->h y=none)):=by
  intro aX;have bH:(U (al (al (bS*s)+on)):Value)=U (gf (some (bS.toNat*s+on))):=by
   have hm:bS*(s:Int)=((bS.toNat*s:Nat):Int):=by rw[ava,Int.toNat_of_nonneg (by omega)]
   have gI:bS.toNat*s<=10*8:=atI (by omega) (by omega);rw[hm,iN (n:=((bS.toNat*s:Nat):Int)) (by omega) (by omega),bl];congr 1
  refine⟨_,aF iq rfl,_,aF iq rfl,_,aF iq rfl,_,aF iq rfl,_,T,iq,by simp,?_⟩;have dK:bD g b (.cells (hg (m4 k s t ⟨bS,on,x.st⟩) (0+4) [U (al ((on:Int)+1))]) T (0,0)) b=dB (m4 k s t ⟨bS,on+1,x.st⟩) T:=by
   rw[ea,bl];rfl
  have eI:∀y,y≠b->h y≠none->bD g b (.cells (hg (m4 k s t ⟨bS,on,x.st⟩) (0+4) [U (al ((on:Int)+1))]) T (0,0)) y=h y:=λy aA bT=>by rw[cJ _ _ aA,gH y aA bT]
  have bx:∀y,bD g b (.cells (hg (m4 k s t ⟨bS,on,x.st⟩) (0+4) [U (al ((on:Int)+1))]) T (0,0)) y=none->h y=none:=λy aA=>Ia y (yu _ _ _ Pf aA);refine⟨((on+1:Nat):Int),aF dK rfl,(s:Int),aF dK rfl,b6 (λc=>?_) λc=>?_⟩
  .have b8:on+1=s:=by omega
   rw[as8 b8];refine⟨bS,aF dK rfl,_,T,dK,by simp,_,T,ea _ _ _,by simp[hg],bH,?_,λy aA bT=>?_,λy aA=>?_⟩
   .rw[ea,bl];rfl
   .rw[cJ _ _ aA,cJ _ _ aA];exact eI y aA bT
   .exact bx y (yu _ _ _ (by rw[dK];simp) (yu _ _ _ (by rw[ea];simp) aA))
  .have b8:¬on+1=s:=by omega
   rw[as7 b8];exact⟨bH,dK,eI,bx⟩
 refine⟨_,aF iq rfl,b6 (λaX=>?_) λaX=>?_⟩
 .rw[as8 aX];refine⟨_,aF iq rfl,_,aF iq rfl,hS (λaZ=>?_) λaZ=>?_⟩
  .have Eg:x.st=t:=by simp at aZ;omega
   rw[as8 Eg];exact⟨rfl,iq,gH,Ia⟩
  .have Eg:x.st≠t:=by simp at aZ;omega
   rw[as7 Eg];exact⟨_,aF iq rfl,b6 (λ_=>aaM aX Eg) λh=>absurd aX h⟩
 .rw[as7 aX];exact⟨_,aF iq rfl,b6 (λh=>absurd h aX) λ_=>aaN aX⟩
end Go.Proofs.Tryz
namespace Go.cQ
open Go Go.RowKit
def ke (k s t:Nat)(l:List Int)(x:l4):Nat->l4
 | 0=>x
 | i+1=>(hf k s t (ke k s t l x i) (l.getD i 0)).1
theorem Pg (k s t:Nat)(d:Int)(l:List Int)(x:l4):∀i,ke k s t (d::l) x (i+1)=ke k s t l (hf k s t x d).1 i
 | 0=>rfl
 | i+1=>by
  show(hf k s t (ke k s t (d::l) x (i+1)) ((d::l).getD (i+1) 0)).1=(hf k s t (ke k s t l (hf k s t x d).1 i) (l.getD i 0)).1;rw[Pg k s t d l x i,auC]
theorem Ib (k s t:Nat):∀(l:List Int) (x:l4) (i:Nat),i<fc l->(hh k s t l x).getD i none=(hf k s t (ke k s t l x i) (l.getD i 0)).2
 | [],x,i,h=>by simp[fc] at h
 | d::l,x,i,h=>by
  unfold fc at h;split at h
  .omega
  .rename_i bK
   rw[hh,as7 bK];cases i with
   | zero=>rfl
   | succ i=>rw[auC,auC,Pg];exact Ib k s t l _ i (by omega)
theorem Ph (k s t:Nat)(l:List Int)(x:l4)(aR:rB k s t x){i:Nat}(h:fc l<=i):(hh k s t l x).getD i none=none:=by
 obtain⟨_,_,_,_,i5⟩:=Bc l x aR;cases e:(hh k s t l x)[i]? with
 | none=>simp[List.getD,e]
 | some o =>
  cases o with
  | none=>simp[List.getD,e]
  | some p=>have:=i5 i p e;omega
theorem Eh:∀(l:List Int) (i:Nat),i<l.length->i=fc l->l.getD i 0<0
 | [],i,h,_=>by simp at h
 | d::l,i,h,e=>by
  unfold fc at e;split at e
  .subst e;simpa using (by assumption:d<0)
  .cases i with
   | zero=>omega
   | succ i=>rw[auC];exact Eh l i (by simpa using h) (by omega)
theorem Ei (l:List Int)(i:Nat)(h:i<fc l):0<=l.getD i 0:=by
 obtain⟨d,aa,ad⟩:=Ic l i h;simp[List.getD,aa];exact ad
theorem Ie {k s t:Nat}(l:List Int)(x:l4)(w:rB k s t x)(aO: -1<=x.bS):∀i,i<=fc l->rB k s t (ke k s t l x i)/\-1<=(ke k s t l x i).bS
 | 0,_=>⟨w,aO⟩
 | i+1,h=>by
  obtain⟨jJ,iO⟩:=Ie l x w aO i (by omega);have aM:=Ei l i (by omega);refine⟨(Pj jJ aM).1,?_⟩;show -1<=(hf k s t (ke k s t l x i) (l.getD i 0)).1.bS;generalize ke k s t l x i=y at *;generalize l.getD i 0=d at *;unfold hf;by_cases c:d<y.bS
  .simp only[as8 c];split
   .omega
   .split<;>simp only<;>omega
  .simp only[as7 c];split
   .split<;>simp only<;>omega
   .split<;>simp only<;>omega
theorem Ej:∀(l:List (Option Nat)) (r:List Nat) (i:Nat),i<l.length->(hj l r).getD i 0=match l.getD i none with|some p=>p|none=>r.getD (hx (l.take i)) 0
 | [],r,i,h=>by simp at h
 | some p::l,r,i,h=>by
  cases i with
  | zero=>simp[hj]
  | succ i =>
   have:=Ej l r i (by simpa using h);simp only[hj,auC,this,List.take_succ_cons];have e:hx (some p::l.take i)=hx (l.take i):=by simp[hx]
   rw[e]
 | none::l,r,i,h=>by
  cases i with
  | zero=>simp[hj,hx];cases r<;>rfl
  | succ i =>
   have:=Ej l r.tail i (by simpa using h);simp only[hj,auC,this,List.take_succ_cons];have e:hx (none::l.take i)=hx (l.take i)+1:=by simp[hx]
   rw[e];cases l.getD i none with
   | some p=>rfl
   | none=>cases r<;>simp
theorem Pk (l:List (Option Nat)){i:Nat}(h:i<l.length):hx (l.take (i+1))=hx (l.take i)+if l.getD i none=none then 1 else 0:=by
 rw[atV,atc h];have e:l.getD i none=l[i]:=by simp[List.getD,h]
 rw[e];cases ad:l[i]<;>simp[hx,ad]
theorem Pl (l:List (Option Nat))(i:Nat):hx (l.take i)<=hx l:=by
 unfold hx;exact List.Sublist.length_le ((List.take_sublist i l).filter _)
end Go.cQ
namespace Go.Proofs.Tryz
open Go Go.cQ Go.RowKit
set_option maxRecDepth 8000
def pW:a8×Int:=(0,0)
def Ek (L:List (a8×Int)):Prop:=∀i j,i<=j->j<L.length->ib (L.getD i pW)<=ib (L.getD j pW)
theorem aaO {h:ai}{s:an}{L:List (a8×Int)}(r:fi m2 h s L)(aH:L.length<=1000000)(fp:∀x∈L,x.2<=1000)(dX:Ek L) :
 aw 197 [aU s] h λv ag=>∃cx,v=aU cx/\fy h ag cx L.length (λi:Nat=>(i:Int))/\bB h ag:=by
 have hlen:=r.len;refine aaP _ ?_;unfold Pm;refine bL λaj aa f1 aC aE=>bL λaB ad f2 a7 az=>?_;have cE:aB≠aj:=λe=>by rw[e,aC] at f2;cases f2
 refine n0 (aE.trans az) (aE.free f2) a7 (by simp) λaq aD b2 c9=>?_;have oS:aq aj=_:=(c9 _ (atf cE)).trans (az.get aC);refine⟨_,aF oS rfl,by omega,by omega,by omega,by omega,bL λaS aJ f4 b5 bc=>?_⟩;have l6:=aD.trans bc;have f40:h aS=none:=aD.free f4;have n31:aS≠aj:=λe=>by rw[e,oS] at f4;cases f4
 have n32:aS≠aB:=λe=>by rw[e,b2] at f4;cases f4
 have kQ:∀n:Nat,Int.toNat (n:Int)=n:=λn=>by omega
 have Ba:fy h aJ ⟨some ⟨aS,0⟩,s.len,s.len,none⟩ s.len λ_=>0:=fy.zero f40 b5 (by omega);refine⟨λq1 aP s2 ax ay g k=>q1=⟨aj,0⟩/\aP=⟨aB,0⟩/\s2=⟨some ⟨aS,0⟩,s.len,s.len,none⟩/\ax=(s.len:Nat)/\∃i:Nat,ay=i/\i<=s.len/\k=s.len-i/\fy h g ⟨some ⟨aS,0⟩,s.len,s.len,none⟩ s.len (λx=>if x<i then (x:Int) else 0)/\∀y,y≠aS->g y=aJ y,
  ⟨s.len,rfl,rfl,rfl,rfl,0,rfl,by omega,rfl,by simpa using Ba,λ_ _=>rfl⟩,?_⟩
 rintro q1 aP s2 ax ay g k ⟨rfl,rfl,rfl,rfl,i,rfl,hi,rfl,eb,gH⟩;refine b6 (λb1=>?_) λc3=>?_
 .refine eb.set (i:=i) (by omega) rfl (i:Int) λg2 dn cU=>⟨s.len-(i+1),by omega,rfl,rfl,rfl,rfl,i+1,bl,by omega,rfl,?_,λy aA=>(cU y λq ah e=>aA (by cases ah;exact e)).trans (gH y aA)⟩;have e:(λx:Nat=>if x=i then (i:Int) else if x<i then (x:Int) else 0)=λx=>if x<i+1 then (x:Int) else 0:=by
   funext x;repeat' split
   all_goals first|rfl|omega
  rw[e] at dn;exact dn
 .have bN:i=s.len:=by omega
  subst bN;have bE:bB h g:=λy aA=>by
   have:y≠aS:=λe=>aA (e▸f40);rw[gH y this];exact l6 y aA
  have gZ:fy h g ⟨some ⟨aS,0⟩,s.len,s.len,none⟩ s.len λx:Nat=>(x:Int):=by
   have e:(List.range s.len).map (λx:Nat=>if x<s.len then (x:Int) else 0)=(List.range s.len).map λx:Nat=>(x:Int):=atv λx af=>as8 (atq.1 af);have Ig:=eb;unfold fy at Ig;rw[e] at Ig;exact Ig
  have Pn:g aj=some (.cells #[aU s] 280 (0,0)):=(gH aj (atf n31)).trans (bc.get oS);have Po:=(gH aB (atf n32)).trans (bc.get b2);have rg:fi m2 g s L:=r.bE kc bE;have aaQ:∀q,s.q=some q->0<L.length->q.b≠aS:=λq ah aO e=>r.there kc ah aO (e▸f40);have Bd:cI 1 sR kf g ⟨some ⟨aS,0⟩,s.len,s.len,none⟩ ((List.range s.len).map λx:Nat=>(x:Int)):=gZ.base λ_ _=>rfl;have C:pR prog (λb=>b=aS) g (.func (.func 212) #[] #[bu ⟨aB,0⟩,bu ⟨aj,0⟩]) yw (λx=>ib (L.getD x.toNat pW)) (λx=>0<=x/\x<(L.length:Nat)):=by
   intro ag O x y af aA;have hF:ag aj=_:=(O aj (by rw[Pn];simp) (atf n31)).trans Pn;have jt:ag aB=_:=(O aB (by rw[Po];simp) (atf n32)).trans Po;have Pp:fi m2 ag s L:=rg.move λq ah aO=>O q.b (rg.there kc ah aO) (aaQ q ah aO);obtain⟨i,rfl⟩:=auU af.1;obtain⟨j,rfl⟩:=auU aA.1;have hi:i<L.length:=by have:=af.2;omega
   have aL:j<L.length:=by have:=aA.2;omega
   refine⟨rfl,?_⟩;refine aaR _ _ _ _ ?_;unfold Pq;refine⟨_,aF jt rfl,rfl,_,aF hF rfl,?_⟩;refine Pp.e0 kc hi λq _ qC=>?_;obtain⟨aX,aZ,_⟩:=qC;refine⟨_,aX,_,aZ,_,aF hF rfl,?_⟩;refine Pp.e0 kc aL λaP _ aaS=>?_;obtain⟨cp,dc,_⟩:=aaS;refine⟨_,cp,_,dc,⟨rfl,?_⟩⟩;refine(aaw L[i] L[j] (fp _ (aty hi)) (fp _ (aty aL)) ag).mono ?_;rintro _ ad ⟨m,rfl,hm,bI⟩;refine⟨m,rfl,m,rfl,?_,bI⟩;have aC:L.getD (Int.toNat (i:Int)) pW=L[i]:=by rw[kQ];simp[List.getD,hi]
   have a7:L.getD (Int.toNat (j:Int)) pW=L[j]:=by rw[kQ];simp[List.getD,aL]
   rw[hm];show _↔ib (L.getD (Int.toNat (i:Int)) pW)<ib (L.getD (Int.toNat (j:Int)) pW);rw[aC,a7]
  refine(aaT C (λq ah=>by cases ah;rfl) (n:=s.len) (by omega) Bd (db.refl _ _) (λx af=>⟨by omega,by omega⟩)).mono ?_;rintro _ g2 ⟨rfl,bq,dn,eR,_,_,l7⟩;have bK:bq=λx:Nat=>(x:Int):=l7 λi j _ mC aL=>by
   show ib (L.getD (Int.toNat (i:Int)) pW)<=ib (L.getD (Int.toNat (j:Int)) pW);rw[kQ,kQ];exact dX i j mC (by omega)
  subst bK;refine⟨rfl,_,rfl,?_,λy aA=>?_⟩
  .rw[<-hlen];exact⟨dn.len,dn.cap,by
    rcases dn.own with h|⟨q,c,t,ar,aN,a3⟩
    .exact .inl h
    .exact .inr ⟨q,c,t,ar,by cases ar;exact f40,a3⟩⟩
  .have:y≠aS:=λe=>aA (e▸f40);rw[eR y (by rw[bE y aA];exact aA) this,bE y aA]
theorem yx {fW g:ai}{s:an}{l:List Int}(A:b9 dg fW g s l)(n3:∀b,g b=none->fW b=none)(x:Int)(aO:(l.length+1)*8<=140737488355328){t:TypeId}{K:an->ai->Prop}
 (ab:∀cx bg,b9 dg fW bg cx (l++[x])->(∀b,g b≠none->(∀q,s.q=some q->b≠q.b)->bg b=g b)->(∀df,cx.q=some df->(∃q,s.q=some q/\df.b=q.b)∨g df.b=none)->(∀b,bg b=none->g b=none)->K cx bg) :
 bn g (.cells #[U x] t) λb ag=>en prog 37 s (.s ⟨some ⟨b,0⟩,1,1,none⟩) ag K :=
 b9.sU oU qD A x n3 aO (by decide) ab
theorem aaU {k s t:Nat}(o:sQ k s t){h:ai}{x:an}{L:List (a8×Int)}(r:fi m2 h x L)(hlen:L.length=s*(k+1)+t+1)(fp:∀x∈L,x.2<=k)(dX:Ek L) :
 aw 178 [.agg #[U k,U s,U t],aU x] h λv ag=>∃s1 s2,v= .tuple #[aU s1,aU s2]/\b9 dg h ag s1 ((jK k s t (L.map (·.2))).map λp:Nat=>(p:Int))/\b9 dg h ag s2 ((jY k s t (L.map (·.2))).map λp:Nat=>(p:Int))/\bB h ag:=by
 have Be:=r.len;have os:=o.s;have Pd:=o.t;have qB:=o.d;have yv:=wq os.1 os.2 qB.1 qB.2;have Pr:((s*(k+1):Nat):Int)=(s:Int)*((k:Int)+1):=by simp
 have aaV:L.length<=153:=by rw[hlen];omega
 generalize nt:L.map (·.2)=cG at *;have qE:cG.length=L.length:=by rw[<-nt];simp
 have Bf:=rC cG;have kA:rB k s t (fU k):=⟨by simp[fU],(show 0<s by omega),by simp[fU]⟩;have wu:=El k s t cG (fU k);generalize qF:hh k s t cG (fU k)=ops at *;have wf:=Ie cG (fU k) kA (show -1<=(k:Int) by omega);have Ih:∀i,i<fc cG->ops.getD i none=(hf k s t (ke k s t cG (fU k) i) (cG.getD i 0)).2:=λi hi=>by rw[<-qF];exact Ib k s t cG _ i hi
 have Bg:∀i,fc cG<=i->ops.getD i none=none:=λi hi=>by rw[<-qF];exact Ph k s t cG _ kA hi
 obtain⟨i1,i2,_,_,_⟩:=Bc cG (fU k) kA;rw[qF] at i1 i2;have mz:=Ii (n:=L.length) ops (by rw[wu,qE]) i2 λp aM=>by have:=(i1 p aM).2;omega
 have oV:jK k s t cG=hj ops (n4 L.length ops):=by unfold jK;rw[qF,qE]
 have Bh:jY k s t cG=(List.range (fc cG)).filter λi=>ops.getD i none==none:=by unfold jY;rw[qF]
 have pX:∀i (hi:i<L.length),cG.getD i 0=L[i].2:=λi hi=>by rw[<-nt];simp[List.getD,hi]
 rw[oV,Bh];refine aaW _ _ _ _ ?_;unfold Ps;refine bL λaj aa f1 aC aE=>jV aC ?_;refine(H0 o).to λad az=>⟨_,rfl,b0 rfl (jV (az.get aC) ?_)⟩;refine(H2 o).to λaq aD=>⟨_,rfl,b0 (by rw[Be,hlen];simp) ?_⟩;have b2:=(az.trans aD).get aC;refine jV b2 (fh b2 rfl (bL λaB aJ f4 b5 bc=>bL λaS aW f5 cD bU=>?_));have hy:=(aE.trans (az.trans aD)).trans (bc.trans bU);have rx:ey dg aW ⟨some ⟨aS,0⟩,1,1,none⟩ [-1]:=(b9.nu (h0:=aJ) (l:=[(-1:Int)]) (t:=3) f5 cD rfl rfl).rd;rw[Be];refine(aaC (by omega) (by omega) rx).mono ?_;rintro _ bd ⟨sp,rfl,iP,cb⟩;refine⟨_,rfl,by omega,by omega,by omega,by omega,bL λb7 cg f7 fq cV=>?_⟩;have dP:=iP.len;simp only[ath,atj] at dP;obtain⟨rD,nv⟩:=iP.rd.ptr (by simp;omega);have Ij:aW rD.b=none:=(iP.b_ nv).1;have aaX:=(iP.b_ nv).2;have aaY:=hy.trans (cb.trans cV);have aaZ:cg aB=dB (m4 k s t (fU k)) 294:=(bU.trans (cb.trans cV)).get b5;have Pt:rD.b≠aB:=λe=>by rw[e,bU.get b5] at Ij;cases Ij
 have n42:b7≠aB:=λe=>by rw[e,(bU.trans cb).get b5] at f7;cases f7
 have Bi:b7≠rD.b:=λe=>aaX (e▸f7);have f20:h aB=none:=(aE.trans (az.trans aD)).free f4;have Pu:h rD.b=none:=hy.free Ij;have f40:h b7=none:=(hy.trans cb).free f7;have kQ:∀n:Nat,Int.toNat (n:Int)=n:=λn=>by omega
 let iA:an:=⟨some ⟨b7,0⟩,L.length,L.length,none⟩;have aa0:fy h cg iA L.length λ_=>0:=fy.zero f40 fq (by omega);have aa1:fy h cg sp L.length λ_=>-1:=(iP.bE cV).base λb au=>hy.free au;refine⟨λs2 cB bj bM ct cP g bI=>s2=x/\cB=some ⟨aB,0⟩/\bj=sp/\bM=iA/\ct=(L.length:Nat)/\∃i:Nat,cP=i/\i<=L.length/\bI=L.length-i/\fy h g iA L.length (λy=>if y<i then (y:Int) else 0)/\∀y,y≠b7->g y=cg y,
  ⟨L.length,rfl,rfl,rfl,rfl,rfl,0,rfl,by omega,rfl,by simpa using aa0,λ_ _=>rfl⟩,?_⟩
 rintro s2 cB bj bM ct cP g bI ⟨rfl,rfl,rfl,rfl,rfl,i,rfl,hi,rfl,Pv,gH⟩;refine b6 (λb1=>?_) λc3=>?_
 .refine Pv.set (i:=i) (by omega) rfl (i:Int) λg2 dn cU=>⟨L.length-(i+1),by omega,rfl,rfl,rfl,rfl,rfl,i+1,bl,by omega,rfl,?_,λy aA=>(cU y λq ah e=>aA (by cases ah;exact e)).trans (gH y aA)⟩;have e:(λx:Nat=>if x=i then (i:Int) else if x<i then (x:Int) else 0)=λx=>if x<i+1 then (x:Int) else 0:=by
   funext x;repeat' split
   all_goals first|rfl|omega
  rw[e] at dn;exact dn
 have bN:i=L.length:=by omega
 subst bN;have Ik:fy h g iA L.length λy:Nat=>(y:Int):=by
  have e:(List.range L.length).map (λx:Nat=>if x<L.length then (x:Int) else 0)=(List.range L.length).map λx:Nat=>(x:Int):=atv λx af=>as8 (atq.1 af);have Il:=Pv;unfold fy at Il;rw[e] at Il;exact Il
 have cv:bB h g:=λy aA=>by
  have:y≠b7:=λe=>aA (e▸f40);rw[gH y this];exact aaY y aA
 have Pw:fy h g bj L.length λ_=>-1:=aa1.move λq ah=>gH _ (by rw[nv] at ah;cases ah;exact Bi.symm);have Px:g aB=dB (m4 k s t (fU k)) 294:=(gH aB n42.symm).trans aaZ;have arI:∀y,g y=none->cg y=none:=λy aA=>by
  by_cases c:y=b7
  .exfalso;rw[c] at aA;exact(Ik.b_ (q:=⟨b7,0⟩) rfl).2 aA
  .rw[<-gH y c];exact aA
 let left:Nat->Int:=λy=>if ops.contains (some y)=true then -1 else (y:Int)
 let Im:List Int:=((List.range (fc cG)).filter λi=>ops.getD i none==none).map λp:Nat=>(p:Int);refine⟨λdu dC fK g=>du=bj/\dC=iA/\bB h g/\fy h g bj L.length (λy=>gf (ops.getD y none))/\fy h g iA L.length left/\b9 dg h g fK Im/\(∀q,fK.q=some q->q.b≠rD.b/\q.b≠b7),?_,?_⟩
 .have Io:∀y∈L,y.2<=1000:=λy aA=>by have:=fp y aA;omega
  refine(aaO (r.bE kc cv) (by omega) Io dX).mono ?_;rintro _ g1 ⟨Bj,rfl,sV,rE⟩;have Em:=sV.len;simp only[ath,atj] at Em;obtain⟨qG,oW⟩:=sV.rd.ptr (by simp;omega);have qH:=(sV.b_ oW).1;have En:qG.b≠aB:=λe=>by rw[e,Px] at qH;cases qH
  have aa2:qG.b≠rD.b:=λe=>(Pw.b_ nv).2 (e▸qH);have aa3:qG.b≠b7:=λe=>(Ik.b_ (q:=⟨b7,0⟩) rfl).2 (e▸qH);refine⟨_,rfl,λb3 cU du dC fK fz c8 dO g2 bI=>b3=s2/\cU=some ⟨aB,0⟩/\du=bj/\dC=iA/\fz=Bj/\c8=(L.length:Nat)/\∃i:Nat,dO=i/\i<=fc cG/\bI=L.length-i/\bB h g2/\g2 aB=dB (m4 k s t (ke k s t cG (fU k) i)) 294 /\
   fy h g2 bj L.length (λy=>if y<i then gf (ops.getD y none) else -1)/\fy h g2 iA L.length (λy=>if (ops.take i).contains (some y)=true then -1 else (y:Int))/\b9 dg h g2 fK (((List.range i).filter λi=>ops.getD i none==none).map λp:Nat=>(p:Int)) /\
   (∀q,fK.q=some q->q.b≠rD.b/\q.b≠b7/\q.b≠aB/\q.b≠qG.b)/\fy g g2 Bj L.length (λy:Nat=>(y:Int))/\fi m2 g2 s2 L,
   ⟨L.length,rfl,rfl,rfl,rfl,rfl,by rw[Em],0,rfl,by omega,rfl,cv.trans rE,rE.get Px,by simpa using Pw.bE rE,by simpa using Ik.bE rE,b9.e9 _ _ _,λq ah=>(by cases ah),sV,(r.bE kc (cv.trans rE))⟩,?_⟩
  rintro b3 cU du dC fK fz c8 dO g2 bI ⟨rfl,rfl,rfl,rfl,rfl,rfl,i,rfl,hi,rfl,n5,a7,Eo,Ep,Er,qI,Ip,e5⟩;have done:∀g3,bB g2 g3->i=fc cG->du=du/\iA=iA/\bB h g3/\fy h g3 du L.length (λy=>gf (ops.getD y none))/\fy h g3 iA L.length left/\b9 dg h g3 fK Im/\(∀q,fK.q=some q->q.b≠rD.b/\q.b≠b7):=by
   rintro g3 aD gJ;have aC:(λy=>if y<i then gf (ops.getD y none) else -1)=λy=>gf (ops.getD y none):=by
    funext y;by_cases c:y<i
    .rw[as8 c]
    .rw[as7 c,Bg y (by omega)];rfl
   have nw:∀y:Nat,(ops.take i).contains (some y)=ops.contains (some y):=λy=>by
    rw[atz];simp only[List.contains_eq_mem,aui];constructor
    .exact λh=>List.mem_of_mem_take h
    .intro hm
     obtain⟨j,aL,e⟩:=atT hm;have Iq:j<i:=by
      rcases atF j i with c|c
      .exact c
      .have:=Bg j (by omega);simp[List.getD,aL,e] at this
     rw[<-e];exact avb.2 ⟨j,by omega,rfl⟩
   refine⟨rfl,rfl,n5.trans aD,by rw[aC] at Eo;exact Eo.bE aD,?_,by rw[gJ] at Er;exact Er.bE aD,λq ah=>⟨(qI q ah).1,(qI q ah).2.1⟩⟩;have b2:(λy:Nat=>if (ops.take i).contains (some y)=true then (-1:Int) else (y:Int))=left:=by funext y;rw[nw y]
   rw[b2] at Ep;exact Ep.bE aD
  refine b6 (λb1=>?_) λc3=>done g2 (bB.refl _) (by omega);have gN:i<L.length:=by omega
  refine Ip.get gN rfl λq _=>?_;refine e5.e0 kc gN λaP _ qC=>?_;obtain⟨_,aZ,_⟩:=qC;rw[kQ];refine⟨_,aZ,b6 (λjs=>done g2 (bB.refl _) ?_) λpY=>?_⟩
  .rcases atF i (fc cG) with c|c
   .have:=Ei cG i c;rw[pX i gN] at this;omega
   .omega
  have gJ:i<fc cG:=by
   rcases atF i (fc cG) with c|c
   .exact c
   .have:=Eh cG i (by omega) (by omega);rw[pX i gN] at this;omega
  refine e5.e0 kc gN λbs _ aa4=>?_;obtain⟨_,cp,_⟩:=aa4;refine⟨_,cp,?_⟩;have ku:=Ih i gJ;rw[pX i gN] at ku;have kB:ke k s t cG (fU k) (i+1)=(hf k s t (ke k s t cG (fU k) i) L[i].2).1:=by
   show(hf k s t (ke k s t cG (fU k) i) (cG.getD i 0)).1=_;rw[pX i gN]
  refine(aaK o (wf i hi).1 (wf i hi).2 (d:=L[i].2) (by omega) a7).mono ?_;rintro _ g3 ⟨rfl,n6,c9,aI⟩;rw[<-kB] at n6;rw[<-ku];have aD:∀y,h y≠none->g3 y=h y:=λy aA=>by
   have:y≠aB:=λe=>aA (e▸f20);rw[c9 y this (by rw[n5 y aA];exact aA),n5 y aA]
  have aa5:∀q,du.q=some q->q.b≠aB:=λq ah=>by rw[nv] at ah;cases ah;exact Pt
  have yy:=Eo.move (ag:=g3) λq ah=>c9 _ (aa5 q ah) (Eo.b_ ah).2;have yz:=Ep.move (ag:=g3) λq ah=>by cases ah;exact c9 _ n42 (Ep.b_ (q:=⟨b7,0⟩) rfl).2
  have Bk:=Er.move (ag:=g3) λq ah=>c9 _ (qI q ah).2.2.1 (Er.b_ ah).2;have Es:=Ip.move (ag:=g3) λq ah=>c9 _ (by rw[oW] at ah;cases ah;exact En) (Ip.b_ ah).2;have nx:fi m2 g3 b3 L:=r.bE kc aD;have bz:ops.take (i+1)=ops.take i++[ops.getD i none]:=by
   have pZ:i<ops.length:=by rw[wu,qE];exact gN
   rw[atV,atc pZ];simp[List.getD,pZ]
  have bf:(List.range (i+1)).filter (λi=>ops.getD i none==none)=(List.range i).filter (λi=>ops.getD i none==none)++if ops.getD i none=none then [i] else []:=by
   rw[ato,auY];congr 1;rw[List.filter_cons,List.filter_nil];cases aT:ops.getD i none<;>rfl
  refine⟨_,rfl,?_⟩;cases aT:ops.getD i none with
  | none =>
   rw[aT] at bz bf;refine eh rfl ?_;refine yx Bk (λb au=>by
    cases e:h b with
    | none=>rfl
    | some fJ=>rw[aD b (by rw[e];simp),e] at au;cases au) (i:Int) (by
     have:=auq (λi=>ops.getD i none==none) (List.range i);simp at this ⊢;omega) λcx g4 hT rF rG aa6=>?_
   have Bl:∀y,g3 y≠none->(∀q,fK.q=some q->y≠q.b)->g4 y=g3 y:=rF;have sW:=Bl rD.b (by have:=(yy.b_ nv).2;exact this) λq ah e=>(qI q ah).1 e.symm;have uy:=Bl b7 (yz.b_ (q:=⟨b7,0⟩) rfl).2 λq ah e=>(qI q ah).2.1 e.symm;have d4:=Bl aB (by rw[n6];simp) λq ah e=>(qI q ah).2.2.1 e.symm;have ez:=Bl qG.b (Es.b_ oW).2 λq ah e=>(qI q ah).2.2.2 e.symm;have yA:∀y,h y≠none->g4 y=h y:=λy aA=>by
    rw[Bl y (by rw[aD y aA];exact aA) λq ah e=>aA (e▸(Bk.b_ ah).1),aD y aA]
   refine⟨L.length-(i+1),by omega,rfl,rfl,rfl,rfl,rfl,rfl,i+1,bl,by omega,rfl,yA,d4.trans n6,?_,?_,?_,λdf ek=>?_,Es.move λq ah=>by rw[oW] at ah;cases ah;exact ez,r.bE kc yA⟩
   .have e:(λy=>if y<i+1 then gf (ops.getD y none) else -1)=λy=>if y<i then gf (ops.getD y none) else -1:=by
     funext y;by_cases c:y<i
     .rw[as8 c,d_]
     .rw[as7 c];by_cases b8:y=i
      .rw[d_,b8,aT];rfl
      .rw[cS]
    rw[e];exact yy.move λq ah=>by rw[nv] at ah;cases ah;exact sW
   .have e:(λy:Nat=>if (ops.take (i+1)).contains (some y)=true then (-1:Int) else (y:Int))=λy=>if (ops.take i).contains (some y)=true then -1 else (y:Int):=by
     funext y;rw[bz];simp
    rw[e];exact yz.move λq ah=>by cases ah;exact uy
   .rw[bf,as8 rfl,atD];exact hT
   .rcases rG df ek with ⟨q,ah,e⟩|aH
    .rw[e];exact qI q ah
    .refine⟨λe=>?_,λe=>?_,λe=>?_,λe=>?_⟩
     .exact(yy.b_ nv).2 (e▸aH)
     .exact(yz.b_ (q:=⟨b7,0⟩) rfl).2 (e▸aH)
     .rw[e,n6] at aH;cases aH
     .exact(Es.b_ oW).2 (e▸aH)
  | some p =>
   rw[aT] at bz bf;have pZ:i<ops.length:=by rw[wu,qE];exact gN
   have aM:p<L.length:=by
    have:=(i1 p (by
     have:ops[i]=some p:=by simpa [List.getD,pZ] using aT
     rw[<-this];exact aty pZ)).2;omega
   refine b0 (ati (by simp only[gf];omega)) ?_;refine fy.set yy (i:=i) gN rfl (p:Int) λg4 gn ez=>?_;have uy:g4 b7=g3 b7:=ez b7 λq ah=>by rw[nv] at ah;cases ah;exact Bi
   refine fy.set (yz.move (ag:=g4) λq ah=>by cases ah;exact uy) (i:=p) aM rfl (-1) λg5 iB cY=>?_;have wv:∀y,y≠rD.b->y≠b7->g5 y=g3 y:=λy aa ad=>(cY y λq ah=>by cases ah;exact ad).trans (ez y λq ah=>by rw[nv] at ah;cases ah;exact aa);have yA:∀y,h y≠none->g5 y=h y:=λy aA=>by
    rw[wv y (λe=>aA (e▸Pu)) (λe=>aA (e▸f40)),aD y aA]
   refine⟨L.length-(i+1),by omega,rfl,rfl,rfl,rfl,rfl,rfl,i+1,bl,by omega,rfl,yA,(wv aB Pt.symm n42.symm).trans n6,?_,?_,?_,qI,Es.move λq ah=>by rw[oW] at ah;cases ah;exact wv _ aa2 aa3,r.bE kc yA⟩
   .have e:(λy=>if y<i+1 then gf (ops.getD y none) else -1)=λy=>if y=i then (p:Int) else if y<i then gf (ops.getD y none) else -1:=by
     funext y;by_cases b8:y=i
     .rw[d_,as8 b8,b8,aT];rfl
     .rw[as7 b8];by_cases c:y<i
      .rw[as8 c,d_]
      .rw[as7 c,cS]
    rw[e];exact gn.move λq ah=>cY _ λdf ek=>by cases ek;rw[nv] at ah;cases ah;exact Bi.symm
   .have e:(λy:Nat=>if (ops.take (i+1)).contains (some y)=true then (-1:Int) else (y:Int))=λy=>if y=p then -1 else if (ops.take i).contains (some y)=true then -1 else (y:Int):=by
     funext y;rw[bz];by_cases c:y=p
     .simp[c]
     .simp[c]
    rw[e];exact iB
   .rw[bf,as7 (by simp),atU];exact Bk.move λq ah=>wv _ (qI q ah).1 (qI q ah).2.1
 rintro gK iQ m5 g3 ⟨rfl,rfl,Ir,yy,yz,Bk,Py⟩;refine(aaG yz (by omega)).mono ?_;rintro _ g4 ⟨ny,rfl,Pz,aa7,ez,_⟩;have aa8:((List.range L.length).map left).filter (λx=>decide (0<=x))=(n4 L.length ops).map λp:Nat=>(p:Int):=by
  rw[List.filter_map];have aC:(List.range L.length).filter ((λx:Int=>decide (0<=x)) ∘ left)=n4 L.length ops:=by
   unfold n4;apply List.filter_congr;intro y _;show decide (0<=left y)= !ops.contains (some y);by_cases c:ops.contains (some y)=true
   .have aO:left y= -1:=as8 c;rw[aO,c];rfl
   .have aO:left y=(y:Int):=as7 c;rw[aO,Bool.eq_false_iff.2 c];exact pS
  rw[aC];apply atv;intro y aA;have:ops.contains (some y)=false:=by
   have:=(auL.1 aA).2;simpa using this
  simp only[left,this];rfl
 rw[aa8] at Pz;have PA:=yy.move (ag:=g4) λq ah=>ez _ λdf ek=>by cases ek;rw[nv] at ah;cases ah;exact Bi.symm
 have aa9:=Bk.move (ag:=g4) λq ah=>ez _ λdf ek=>by cases ek;exact(Py q ah).2
 have Bm:bB h g4:=λy aA=>by
  rw[ez y λq ah e=>aA (by cases ah;rw[e];exact f40)];exact Ir y aA
 generalize jc:n4 L.length ops=fB at *;have uz:ops.length=L.length:=by rw[wu,qE]
 refine⟨_,rfl,λlj l8 n7 mD dR cE g5 bI=>lj=gK/\n7=m5/\mD=gK/\dR=(L.length:Nat)/\∃i:Nat,cE=i/\i<=L.length/\bI=L.length-i/\bB h g5/\fy h g5 gK L.length (λy=>if y<i then ((hj ops fB).getD y 0:Nat) else gf (ops.getD y none))/\b9 dg h g5 m5 Im /\
  ey dg g5 l8 ((fB.map λp:Nat=>(p:Int)).drop (hx (ops.take i)))/\∀q,l8.q=some q->q.b=b7,
  ⟨L.length,rfl,rfl,rfl,by rw[PA.len];simp,0,rfl,by omega,rfl,Bm,by simpa using PA,aa9,by simpa [hx] using Pz,λq ah=>by obtain⟨p,aM,e⟩:=aa7 q ah;cases aM;exact e⟩,?_⟩
 rintro lj l8 n7 mD dR cE g5 bI ⟨rfl,rfl,rfl,rfl,i,rfl,hi,rfl,wx,Et,Is,yB,It⟩;refine b6 (λb1=>?_) λc3=>?_
 .have gN:i<L.length:=by omega
  have sX:=Ej ops fB i (by rw[uz];exact gN);have nz:=Pk ops (i:=i) (by rw[uz];exact gN);refine Et.get gN rfl λq _=>?_;rw[as7 (Nat.lt_irrefl i)];cases aT:ops.getD i none with
  | none =>
   rw[aT] at sX nz;rw[as8 rfl] at nz;have hle:=Pl ops (i+1);have lF:hx (ops.take i)<fB.length:=by omega
   refine eh rfl ?_;have aa_:((fB.map λp:Nat=>(p:Int)).drop (hx (ops.take i)))[0]'(by simp;omega)=((fB.getD (hx (ops.take i)) 0:Nat):Int):=by
    simp[List.getD,lF]
   obtain⟨q1,p1,Eu⟩:=yB.at (i:=0) (by simp;omega);rw[aa_] at Eu;have aba:=yB.len;have arJ:=yB.cap;simp only[auF,ath] at aba;refine⟨q1,p1,Int.NonNeg.mk 0,by omega,_,Eu,Int.NonNeg.mk 1,by omega,?_⟩;refine Et.set (i:=i) gN rfl _ λg6 wy eI=>?_;have wz:∀q,l8.q=some q->g6 q.b=g5 q.b:=λq ah=>eI _ λdf ek=>by rw[nv] at ek;cases ek;rw[It q ah];exact Bi
   refine⟨L.length-(i+1),by omega,rfl,rfl,rfl,rfl,i+1,bl,by omega,rfl,λy aA=>?_,?_,Is.move λq ah=>eI _ λdf ek=>by rw[nv] at ek;cases ek;exact(Py q ah).1,?_,λq ah=>?_⟩
   .rw[eI y λq ah e=>aA (by rw[nv] at ah;cases ah;rw[e];exact Pu)];exact wx y aA
   .have e:(λy=>if y<i+1 then (((hj ops fB).getD y 0:Nat):Int) else gf (ops.getD y none))=λy=>if y=i then ((fB.getD (hx (ops.take i)) 0:Nat):Int) else if y<i then (((hj ops fB).getD y 0:Nat):Int) else gf (ops.getD y none):=by
     funext y;by_cases b8:y=i
     .rw[d_,as8 b8,b8,sX]
     .rw[as7 b8];by_cases c:y<i
      .rw[as8 c,d_]
      .rw[as7 c,cS]
    rw[e];exact wy
   .have:=(yB.move (ag:=g6) λq ah _=>wz q ah).drop (n:=1) (by simp;omega);rw[List.drop_drop] at this;rw[nz];exact this
   .obtain⟨df,ek,e⟩:=PB yB.nil (n:=1) (by omega) ah;rw[e];exact It df ek
  | some p =>
   rw[aT] at sX nz;rw[as7 (by simp),atQ] at nz;refine b0 (ati (by simp only[gf];omega)) ?_;refine⟨L.length-(i+1),by omega,rfl,rfl,rfl,rfl,i+1,bl,by omega,rfl,wx,?_,Is,by rw[nz];exact yB,It⟩;have e:(λy=>if y<i+1 then (((hj ops fB).getD y 0:Nat):Int) else gf (ops.getD y none))=λy=>if y<i then (((hj ops fB).getD y 0:Nat):Int) else gf (ops.getD y none):=by
    funext y;by_cases c:y<i
    .rw[as8 c,d_]
    .rw[as7 c];by_cases b8:y=i
     .rw[d_,b8,sX,aT];rfl
     .rw[cS]
   rw[e];exact Et
 .have gN:i=L.length:=by omega
  subst gN;refine⟨_,_,rfl,?_,Is,wx⟩;have e:(List.range L.length).map (λy=>if y<L.length then (((hj ops fB).getD y 0:Nat):Int) else gf (ops.getD y none))=(hj ops fB).map λp:Nat=>(p:Int):=by
   apply aue
   .simp[Bn,uz]
   .intro j ar aN
    have aL:j<L.length:=by simpa using ar
    have rA:j<(hj ops fB).length:=by simpa using aN
    simp[aL,List.getD,rA]
  have:=Et.yt;rw[e] at this;exact this

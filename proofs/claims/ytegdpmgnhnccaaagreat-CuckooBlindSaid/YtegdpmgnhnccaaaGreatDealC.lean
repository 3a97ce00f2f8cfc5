import Derived.Test.YtegdpmgnhnccaaaGreatSrtInt
namespace Go.cR
open Go Go.RowKit
theorem WE {f:Int->Value}{h0 h:ak}{s:ao}{l:List Int}:c4 f h0 h s l↔ct 1 (λx=>[f x]) h0 h s l:=by
 have e:∀l:List Int,l.flatMap (λx=>[f x])=l.map f:=λl=>by induction l<;>simp_all
 constructor
 .intro o
  refine⟨o.len,o.cap,?_⟩;rcases o.own with h|⟨q,c,t,aa,ad,an,aJ,aR⟩
  .exact .inl h
  .refine .inr ⟨q,c,t,aa,ad,an,by omega,λi hi=>?_⟩;have cb:i<l.length:=by rw[e] at hi;simpa using hi
   rw[aR i cb];simp[e]
 .intro o
  refine⟨o.len,o.cap,?_⟩;rcases o.own with h|⟨q,c,t,aa,ad,an,aJ,aR⟩
  .exact .inl h
  .refine .inr ⟨q,c,t,aa,ad,an,by omega,λi hi=>?_⟩;have:=aR i (by rw[e];simpa using hi);simpa [e] using this
end Go.cR
namespace Go.Proofs.Tryz
open Go Go.cR Go.RowKit
set_option maxRecDepth 8000
abbrev gX (gA g:ak)(s:ao)(n:Nat)(d:Nat->Int):Prop:=ct 1 v_ gA g s ((List.range n).map d)
theorem gX.Co {gA g:ak}{s:ao}{n:Nat}{d:Nat->Int}(A:gX gA g s n d):c4 eo gA g s ((List.range n).map d):=WE.2 A
theorem gX.zero {h0 h:ak}{b n:Nat}{t:TypeId}{m:Nat}(ar:h0 b=none)(e:h b=ev (lq (if m=0 then #[] else Value.cells (U 0)) m) t)(hm:m=n):gX h0 h ⟨some ⟨b,0⟩,n,n,none⟩ n λ_=>0:=by
 subst hm;refine⟨by simp,aDt _,.inr ⟨_,_,_,rfl,ar,e,?_,λi hi=>?_⟩⟩
 .rw[show Value.cells (U 0)=#[U 0] from rfl,JE _ _ rfl];simp
 .have o_:(((List.range m).map λ_=>(0:Int)).flatMap v_).length=m:=by rw[nx wa];simp
  have cb:i<m:=by rw[o_] at hi;exact hi
  rw[show Value.cells (U 0)=#[U 0] from rfl,JE _ _ rfl,aEX];have a_:((List.range m).map λ_=>(0:Int)).flatMap v_=List.replicate m (U 0):=by
   have:∀l:List Nat,(l.map λ_=>(0:Int)).flatMap v_=List.replicate l.length (U 0):=λl=>by
    induction l with
    | nil=>rfl
    | cons a l dI=>rw[aEs,List.flatMap_cons,dI];rfl
   rw[this,aDL]
  simp[a_,cb]
theorem gX.get {gA g:ak}{s:ao}{n:Nat}{d:Nat->Int}(A:gX gA g s n d){i:Nat}(hi:i<n){I:Int}(lj:I=i){K:aF->Int->Prop}(ah:∀q,s.q=some q->K q (d i)) :
 ∃q,s.q=some q/\0<=I/\I+1<=(s.len:Int)/\∃ay:Int,bx g q.b (q.o+Int.toNat I*1)=some (U ay)/\K q ay:=by
 subst lj;refine A.rd.cA wa (i:=i) (by simpa using hi) λq aj r=>?_;rw[r6 hi] at r;exact⟨_,r.1,ah q aj⟩
theorem gX.set {gA g:ak}{s:ao}{n:Nat}{d:Nat->Int}(A:gX gA g s n d){i:Nat}(hi:i<n){I:Int}(lj:I=i)(e:Int){K:ak->Prop}
 (ah:∀bw,gX gA bw s n (λx=>if x=i then e else d x)->(∀b,(∀q,s.q=some q->b≠q.b)->bw b=g b)->K bw) :
 ∃q,s.q=some q/\0<=I/\I+1<=(s.len:Int)/\aW g ⟨q.b,q.o+Int.toNat I*1⟩ [U e] K:=by
 subst lj;have aT:=A.len;simp only[aDF,aDL] at aT;obtain⟨q,aj⟩:=A.rd.ptr (by simp;omega);exact⟨q,aj,by omega,by omega,vy wa A aj hi e λbw g_ iF=>ah bw g_ λb ar=>iF b (ar q aj)⟩
theorem WG (a:Int):fc prog 219 [U a] (.bool false):=λh=>by
 refine aj8 _ ?_;exact⟨by simp,bL.refl h⟩
theorem WH (a:aE):fc prog 195 [ab a] (.bool false):=λh=>by
 refine aj9 _ ?_;exact⟨by simp,bL.refl h⟩
theorem aj_ (a b:Int):fc prog 216 [U a,U b] (U (if a<b then -1 else if b<a then 1 else 0)):=λh=>by
 refine aka _ _ ?_;unfold WI;refine(WG a).to λaa aD=>⟨_,rfl,(WG b).to λad aB=>⟨_,rfl,b3 rfl (b3 rfl ?_)⟩⟩;refine cj (λc=>⟨by rw[aDr c],aD.trans aB⟩) λc=>cj (λaY=>⟨by rw[aDq c,aDr aY],aD.trans aB⟩) λaY=>⟨by rw[aDq c,aDq aY],aD.trans aB⟩
theorem WJ (a b:aE):fc prog 177 [ab a,ab b] (U (if a<b then -1 else if b<a then 1 else 0)):=λh=>by
 refine akb _ _ ?_;unfold WK;refine(WH a).to λaa aD=>⟨_,rfl,(WH b).to λad aB=>⟨_,rfl,b3 rfl (b3 rfl ?_)⟩⟩;refine cj (λc=>⟨by rw[aDr c],aD.trans aB⟩) λc=>cj (λaY=>⟨by rw[aDq c,aDr aY],aD.trans aB⟩) λaY=>⟨by rw[aDq c,aDq aY],aD.trans aB⟩
def pr (e:aE×Int):List Value:=[ab e.1,U e.2]
theorem l3 (e:aE×Int):(pr e).length=2:=rfl
theorem WL (e:aE×Int):∀v∈pr e,v.oneCell'=true:=by simp[pr,ab,Value.oneCell']
def jY (e:aE×Int):Nat:=if e.2<0 then 1001*18446744073709551616 else (1000-e.2.toNat)*18446744073709551616+e.1.toNat
theorem akc {a b:aE×Int}(bY:a.2<=1000)(ar:b.2<=1000)(aK:¬(a.2<0/\b.2<0))(dA:a.2≠b.2):b.2<a.2↔jY a<jY b:=by
 have oI:=a.1.toNat_lt;have bf:=b.1.toNat_lt;obtain⟨x,akd⟩:=a;obtain⟨y,WM⟩:=b;simp only at *;unfold jY;simp only;generalize x.toNat=tc at *;generalize y.toNat=aB2 at *;by_cases aS:akd<0
 .rw[aDr aS,aDq (show ¬WM<0 by omega)];omega
 .rw[aDq aS];by_cases aY:WM<0
  .rw[aDr aY];omega
  .rw[aDq aY];omega
theorem ake (a b:aE×Int)(bY:a.2<=1000)(ar:b.2<=1000)(h:ak):aq 210 [.agg #[ab a.1,U a.2],.agg #[ab b.1,U b.2]] h λr af=>∃m,r=U m/\(m<0↔jY a<jY b)/\bL h af:=by
 refine akf _ _ _ _ ?_;unfold WN;refine bP λae aa f1 aH aD=>bP λax ad f2 a_ aB=>?_;have aH:=aB.get aH;have rest:¬(a.2<0/\b.2<0)->∃aL,bx ad ae 1=some (U aL)/\∃aO,bx ad ax 1=some (U aO)/\bl (!decide (aL=aO)) (∃bh,bx ad ax 1=some (U bh)/\∃bB,bx ad ae 1=some (U bB)/\aq 216 [U bh,U bB] ad λv1 an=>∃br,v1=U br/\∃m,(U br:Value)=U m/\(m<0↔jY a<jY b)/\bL h an)
  (∃bu,bx ad ae 0=some (ab bu)/\∃bK,bx ad ax 0=some (ab bK)/\aq 177 [ab bu,ab bK] ad λv2 aJ=>∃bq,v2=U bq/\∃m,(U bq:Value)=U m/\(m<0↔jY a<jY b)/\bL h aJ):=by
  intro aK;refine⟨_,az aH rfl,_,az a_ rfl,wb (λdA=>?_) λheq=>?_⟩
  .refine⟨_,az a_ rfl,_,az aH rfl,?_⟩;refine(aj_ _ _).to λan aG=>⟨_,rfl,_,rfl,?_,(aD.trans aB).trans aG⟩;have key:=akc bY ar aK dA;rw[<-key];by_cases c:b.2<a.2
   .rw[aDr c];simp[c]
   .rw[aDq c];by_cases aY:a.2<b.2
    .rw[aDr aY];simp[c]
    .rw[aDq aY];simp[c]
  .refine⟨_,az aH rfl,_,az a_ rfl,?_⟩;refine(WJ _ _).to λan aG=>⟨_,rfl,_,rfl,?_,(aD.trans aB).trans aG⟩;have aS:¬a.2<0:=λc=>aK ⟨c,by omega⟩;have key:(a.1<b.1)↔jY a<jY b:=by
    unfold jY;rw[aDq aS,cS,heq,aEn];omega
   rw[<-key];by_cases c:a.1<b.1
   .rw[aDr c];simp[c]
   .rw[aDq c];by_cases aY:b.1<a.1
    .rw[aDr aY];simp[c]
    .rw[aDq aY];simp[c]
 refine⟨_,az aH rfl,cj (λsl=>⟨_,az a_ rfl,iN (λOy=>?_) λOy=>?_⟩) λsl=>rest λh=>sl h.1⟩
 .have Oz:b.2<0:=by simpa using Oy
  refine⟨0,rfl,?_,aD.trans aB⟩;unfold jY;rw[aDr sl,aDr Oz];simp
 .have Oz:¬b.2<0:=by simpa using Oy
  exact rest λh=>Oz h.2
theorem akg {n:Nat}(aK:n<4294967296)(h:ak):aq 209 [ab 1,ab (UInt64.ofNat n)] h λv af=>v= .tuple #[ab 0,ab (UInt64.ofNat n)]/\af=h:=by
 refine akh _ _ ?_;unfold WO;refine aki _ _ ?_;have ai:UInt64.ofNat n &&& 4294967295=UInt64.ofNat n:=by
  apply aDE.1;rw[UInt64.toNat_and,aDw,show(4294967295:aE).toNat=2 ^ 32-1 from rfl,aFt];omega
 have aV:dX (UInt64.ofNat n) (UInt64.toNat 32)=0:=by
  apply aDE.1;unfold dX;rw[show UInt64.toNat 32=32 from rfl];have cG:min 32 64=32:=rfl;simp only[aFp,aDw,cG];have:(0:aE).toNat=0:=rfl;omega
 have aa:dX 1 (UInt64.toNat 32)=0:=by decide
 have ad:(1:aE) &&& 4294967295=1:=by decide
 have h0:dX 0 (UInt64.toNat 32)=0:=by decide
 refine⟨_,_,rfl,?_,rfl⟩;simp only[ai,aV,aa,ad,h0,UInt64.zero_mul,UInt64.one_mul,UInt64.add_zero,UInt64.zero_add,UInt64.zero_and]
theorem OA {gA g:ak}{s:ao}{n:Nat}{d:Nat->Int}(A:gX gA g s n d){q:aF}(aj:s.q=some q){i c:Nat}(hi:i+c<=n)(e:Int){l:List Value}(aT:l=List.replicate c (U e)){K:ak->Prop}
 (ah:∀bw,gX gA bw s n (λx=>if i<=x/\x<i+c then e else d x)->(∀b,b≠q.b->bw b=g b)->K bw):aW g ⟨q.b,q.o+i⟩ l K:=by
 subst aT;have hlen:=A.len;simp only[aDF,aDL] at hlen;have vz:=A.cap;rcases A.own with ⟨aK,_⟩|⟨dE,sl,t,aa,ad,an,aJ,aR⟩
 .rw[aj] at aK;cases aK
 .rw[aj] at aa;cases aa;refine⟨sl,t,an,by simp;omega,ah _ ⟨by simp[hlen],vz,.inr ⟨q,_,t,aj,ad,eC _ _ _,by rw[BO];exact aJ,λj aU=>?_⟩⟩ λb ar=>cu _ _ ar⟩;have o_:∀d:Nat->Int,((List.range n).map d).flatMap v_=(List.range n).map λx=> U (d x):=λd=>by
   rw[List.flatMap_map];exact akj _ _
  have kb:j<n:=by rw[o_] at aU;simpa using aU
  rw[xA,List.length_replicate];have aH:=aR j (by rw[o_];simpa using kb);have oN:q.o+j<sl.size:=by omega
  by_cases aS:i<=j/\j<i+c
  .have a1:q.o+i<=q.o+j/\q.o+j<q.o+i+c/\q.o+j<sl.size:=⟨by omega,by omega,oN⟩;rw[aDr a1];simp[o_,aS,List.getElem?_replicate];omega
  .have a1:¬(q.o+i<=q.o+j/\q.o+j<q.o+i+c/\q.o+j<sl.size):=λh=>aS ⟨by omega,by omega⟩;rw[aDq a1,aH];simp[o_,aS]
where
 akj (l:List Nat) (f:Nat->Value):l.flatMap (λx=>[f x])=l.map f:=by induction l<;>simp_all
end Go.Proofs.Tryz
namespace Go.Proofs.Tryz
open Go Go.cR Go.RowKit
set_option maxRecDepth 8000
theorem WQ {x y:ao}{h:ak}{l:List Int}(iO:e4 eo h y l){q:aF}(ai:x.q=some q){K:Nat->ak->Prop}(ah:aW h q ((l.take (Nat.min l.length x.len)).map eo) λaf=>K (Nat.min l.length x.len) af):mB prog 37 x (.s y) h K:=by
 unfold mB;rw[xL.FB];simp only[xL.dR,td,oO,iO.len,ai];have hm:Nat.min l.length x.len<=l.length:=aEK _ _;refine⟨(l.take (Nat.min l.length x.len)).map eo,by simp,by simp only[aD2];rintro v ⟨a,_,rfl⟩;rfl,?_,ah⟩;cases e:y.q with
 | none=>have aa:=iO.nil e;have ad:=iO.cap;have an:=iO.len;have:l=[]:=aD9.1 (by omega);simp[this]
 | some p =>
  simp only;rw[JF];intro i hi;have cb:i<l.length:=by simp at hi;omega
  rw[iO.rd p e i cb];simp
theorem WR {s:ao}{q:aF}(aj:s.q=some q){i a c:Nat}(hi:i<s.cap):ao.q ⟨fX s.p i s.cap 1,a,c,hZ s.z i s.cap 1⟩=some ⟨q.b,q.o+i⟩:=by
 have aP:=ao.zW aj;have bn:s.z=none:=by
  obtain⟨p,k,c,z⟩:=s;cases z with
  | some z=>cases aj
  | none=>rfl
 simp only[ao.q,hZ,bn,ite_self,fX,aP,aEx,aEV];rw[cS]
theorem akk {n:Nat}(aa:1<=n)(aK:n<=1000000){h:ak}{x:ao}(rx:e4 eo h x [-1]):aq 196 [aZ x,U n] h λv af=>∃s,v=aZ s/\gX h af s n (λ_=>-1)/\bL h af:=by
 refine akl _ _ ?_;unfold WS;refine⟨λs1 ay g=>s1=x/\ay=(n:Nat)/\g=h,b3 (by simp) ⟨rfl,rfl,rfl⟩,?_⟩;rintro s1 ay g ⟨rfl,rfl,rfl⟩;have aH:cX (s1.len:Int)=1:=by rw[rx.len];exact jU (i:=1) (by decide)
 rw[aH,jU (by omega)];refine(akg (by omega) g).mono ?_;rintro _ h ⟨rfl,rfl⟩;have eN:al (((UInt64.ofNat n).toNat:Nat):Int)=(n:Int):=by rw[aDw,aEF (by omega)];exact bt
 have cl:¬(9223372036854775807:aE)<UInt64.ofNat n:=by
  rw[aEn,aDw];have:(9223372036854775807:aE).toNat=9223372036854775807:=rfl;omega
 refine⟨_,_,rfl,b3 (by decide) (b3 (by simpa using cl) ?_)⟩;rw[eN];refine⟨by omega,by omega,by omega,by omega,bP λae ad f1 aH aD=>?_⟩;have oc:Int.toNat (n:Int)=n:=by omega
 rw[oc] at aH ⊢;have FC:gX h ad ⟨some ⟨ae,0⟩,n,n,none⟩ n λ_=>0:=gX.zero f1 aH (by omega);have hm:Nat.min ([(-1:Int)]).length n=1:=aEq aa;refine WQ (rx.bA aD) (x:=⟨some ⟨ae,0⟩,n,n,none⟩) (q:=⟨ae,0⟩) rfl ?_;show aW ad ⟨ae,0⟩ (([(-1:Int)].take (Nat.min ([(-1:Int)]).length n)).map eo) λaf=>_;rw[hm];refine OA FC (q:=⟨ae,0⟩) rfl (i:=0) (c:=1) (by omega) (-1) rfl λbw g_ iF=>?_;refine⟨λs2 aA g2 aB=>s2=⟨some ⟨ae,0⟩,n,n,none⟩/\∃i:Nat,aA=i/\1<=i/\i<=n/\aB=n-i/\gX h g2 ⟨some ⟨ae,0⟩,n,n,none⟩ n (λx=>if x<i then -1 else 0)/\(∀b,b≠ae->g2 b=ad b),
  ⟨n-1,rfl,1,rfl,aDt _,aa,rfl,by
   have e:(λx:Nat=>if 0<=x/\x<0+1 then (-1:Int) else 0)=λx=>if x<1 then -1 else 0:=by funext x;simp
   rw[e] at g_;exact g_,iF⟩,?_⟩
 rintro s2 aA g2 aB ⟨rfl,i,rfl,xU,kz,rfl,eS,cg⟩;refine cj (λcl=>?_) λdH=>?_
 .have hi:i<n:=by simp only at cl;omega
  refine⟨by omega,by simp only;omega,by omega,by simp only;omega,?_⟩;have fK:=(e4.JG eS.Co.rd (n:=i) (by simp;omega));have mY:Int.toNat (i:Int)=i:=by omega
  rw[mY];refine WQ fK (WR (s:=⟨some ⟨ae,0⟩,n,n,none⟩) rfl (i:=i) hi) ?_;have uB:Nat.min (((List.range n).map λx=>if x<i then (-1:Int) else 0).take i).length (n-i)=min i (n-i):=by
   simp only[aEy,aDF,aDL,aEq (Nat.le_of_lt hi)]
  show aW g2 ⟨ae,0+i⟩ (((((List.range n).map λx=>if x<i then (-1:Int) else 0).take i).take (Nat.min (((List.range n).map λx=>if x<i then (-1:Int) else 0).take i).length (n-i))).map eo) λaf=>_;rw[uB];refine OA eS (q:=⟨ae,0⟩) rfl (i:=i) (c:=min i (n-i)) (by omega) (-1) ?_ λg3 kE da=>?_
  .apply aEG
   .simp;omega
   .intro j av aN
    simp at aN;simp[eo];omega
  .refine⟨n-(i+min i (n-i)),by omega,rfl,i+min i (n-i),?_,by omega,by omega,rfl,?_,λb ar=>by rw[da b ar,cg b ar]⟩
   .rw[bt];omega
   .have e:(λx:Nat=>if i<=x/\x<i+min i (n-i) then (-1:Int) else if x<i then -1 else 0)=λx=>if x<i+min i (n-i) then -1 else 0:=by
     funext x;repeat' split
     all_goals first|rfl|omega
    rw[e] at kE;exact kE
 .have hi:i=n:=by simp only at dH;omega
  subst hi;refine⟨_,rfl,?_,λb ar=>?_⟩
  .have e:(List.range i).map (λx=>if x<i then (-1:Int) else 0)=(List.range i).map λ_=>-1:=aDU λx ai=>aDr (aDT.1 ai);have akm:ct 1 v_ h g2 ⟨some ⟨ae,0⟩,i,i,none⟩ ((List.range i).map λ_=>(-1:Int)):=by rw[<-e];exact eS
   exact akm
  .have nG:b≠ae:=λe=>ar (e▸f1);rw[cg b nG,aD b ar]
theorem akn {h:ak}{s:ao}{l:List Int}(r:e4 eo h s l)(aT:l.length<=1000000) :
 aq 139 [aZ s,.func (.func 200) #[] #[]] h λv af=>af=h/\((v=U (-1)/\∀x∈l,¬x<0)∨∃i:Nat,i<l.length/\v=U i/\(∀x∈l.take i,¬x<0)/\l.getD i 0<0):=by
 refine WT s _ ?_;unfold OB;refine⟨λs1 v n i aa k=>s1=s/\v= .func (.func 200) #[] #[]/\n=s.len/\aa=h/\∃j:Nat,i=j/\j<=s.len/\k=s.len-j/\∀x∈l.take j,¬x<0,⟨_,rfl,rfl,rfl,rfl,0,rfl,by omega,rfl,λx ai=>by simp at ai⟩,?_⟩;rintro s1 v n i aa k ⟨rfl,rfl,rfl,rfl,j,rfl,wc,rfl,qw⟩;have:=r.len;refine cj (λcl=>?_) λdH=>⟨rfl,.inl ⟨rfl,λx ai=>qw x (by rw[aEd (by omega)];exact ai)⟩⟩;have aU:j<l.length:=by omega
 have FD:l.getD j 0=l[j]:=by simp[List.getD,aU]
 refine r.cA aU λq _ a1=>⟨_,a1,?_⟩;refine⟨rfl,?_⟩;refine WU _ ?_;refine⟨_,rfl,iN (λk_=>⟨rfl,.inr ⟨j,aU,rfl,qw,by rw[FD];simpa using k_⟩⟩) λk_=>⟨s1.len-(j+1),by omega,rfl,rfl,rfl,rfl,j+1,bt,by omega,rfl,λx ai=>?_⟩⟩;rw[aEl,aDx aU] at ai;rcases aDO.1 ai with h|h
 .exact qw x h
 .simp at h;rw[h];simpa using k_
theorem filter_all {l:List Int}(h:∀x∈l,¬x<0):l.filter (λx=>decide (0<=x))=l:=List.filter_eq_self.2 λx ai=>by have:=h x ai;simp;omega
theorem ako {gA h:ak}{s:ao}{n:Nat}{d:Nat->Int}(A:gX gA h s n d)(aK:n<=1000000) :
 aq 199 [aZ s,.func (.func 200) #[] #[]] h λv af=>∃cE,v=aZ cE/\e4 eo af cE (((List.range n).map d).filter λx=>decide (0<=x))/\(∀q,cE.q=some q->∃p,s.q=some p/\q.b=p.b)/\(∀b,(∀q,s.q=some q->b≠q.b)->af b=h b)/\(∀q,s.q=some q->af q.b≠none):=by
 have hlen:=A.len;simp only[aDF,aDL] at hlen;have vz:=A.cap;refine akp _ _ ?_;unfold WV;refine(akn A.Co.rd (by simpa using aK)).mono ?_;rintro v h ⟨rfl,b0⟩;rcases b0 with ⟨rfl,oP⟩|⟨i0,oQ,rfl,qw,k_⟩
 .refine⟨_,rfl,dF rfl ⟨s,rfl,by rw[filter_all oP];exact A.Co.rd,λq aj=>⟨q,aj,rfl⟩,λ_ _=>rfl,λq aj=>(A.bp aj).2⟩⟩
 simp only[aDF,aDL] at oQ;have k_:d i0<0:=by simpa [List.getD,oQ] using k_
 refine⟨_,rfl,b3 (by simp) ?_⟩;have akq:∀j,j<i0->¬d j<0:=λj aU=>qw (d j) (by
  rw[<-List.map_take];exact List.mem_map_of_mem (by rw[List.take_range];exact aDT.2 (by omega)))
 let mC:Nat->List Int:=λj=>((List.range j).map d).filter λx=>decide (0<=x);have cs:∀j,mC (j+1)=mC j++if 0<=d j then [d j] else []:=λj=>by
  show((List.range (j+1)).map d).filter _=_;rw[aDQ,aD4,aFu];by_cases c:0<=d j
  .rw[aDr c];simp[c];rfl
  .rw[aDq c];simp[c];rfl
 have ha:mC i0=(List.range i0).map d:=filter_all λx ai=>by
  obtain⟨j,aU,rfl⟩:=aD2.1 ai;exact akq j (aDT.1 aU)
 have akr:∀j,(mC j).length<=j:=λj=>by
  have:=aEQ (λx:Int=>decide (0<=x)) ((List.range j).map d);simpa using this
 refine⟨λs1 v2 aA aL g bW=>s1=s/\v2= .func (.func 200) #[] #[]/\∃(j:Nat) (e:Nat->Int),aL=j/\aA=((mC j).length:Nat)/\i0<j/\j<=n/\bW=n-j/\(mC j).length<j/\gX gA g s n e/\(∀b,(∀q,s.q=some q->b≠q.b)->g b=h b)/\(∀x,x<(mC j).length->e x=(mC j).getD x 0)/\∀x,j<=x->e x=d x,
  ⟨n-(i0+1),rfl,rfl,i0+1,d,bt,?_,by omega,by omega,rfl,?_,A,λ_ _=>rfl,λx ai=>?_,λ_ _=>rfl⟩,?_⟩
 .rw[cs,cS,aD5,ha];simp
 .rw[cs,cS,aD5,ha];simp
 .rw[cs,cS,aD5,ha] at ai ⊢;simp at ai;simp[List.getD,ai]
 rintro s1 v2 aA aL g bW ⟨rfl,rfl,j,e,rfl,rfl,FE,uC,rfl,qx,fi,ib,lo,hi⟩;refine cj (λcl=>?_) λdH=>?_
 .have aU:j<n:=by omega
  refine fi.get aU rfl λq aj=>?_;rw[hi j (aDt _)];refine⟨rfl,?_⟩;refine WU _ ?_;refine⟨_,rfl,iN (λoc=>?_) λoc=>?_⟩
  .have h0:0<=d j:=by simpa using oc
   have aH:=cs j;rw[aDr h0] at aH;have a_:(mC (j+1)).length=(mC j).length+1:=by rw[aH];simp
   refine fi.set (i:=(mC j).length) (by omega) rfl (d j) λg2 eS cg=>?_;refine⟨n-(j+1),by omega,rfl,rfl,j+1,_,bt,?_,by omega,by omega,rfl,by omega,eS,λb ar=>(cg b ar).trans (ib b ar),λx ai=>?_,λx ai=>?_⟩
   .rw[a_,bt];omega
   .rw[aH];by_cases c:x=(mC j).length
    .rw[aDr c,c];simp[List.getD]
    .rw[aDq c,lo x (by omega)];simp only[List.getD];rw[aD0 (by omega)]
   .rw[cS];exact hi x (by omega)
  .have h0:¬0<=d j:=by simp at oc;omega
   have aH:=cs j;rw[aDq h0,aD5] at aH;refine⟨n-(j+1),by omega,rfl,rfl,j+1,e,bt,by rw[aH],by omega,by omega,rfl,by rw[aH];omega,fi,ib,λx ai=>by rw[aH] at ai ⊢;exact lo x ai,λx ai=>hi x (by omega)⟩
 .have aU:j=n:=by omega
  subst aU;have aB3:=akr j;refine⟨by omega,by omega,?_⟩;rw[show Int.toNat ((mC j).length:Int)=(mC j).length by omega];refine b3 (by simp;omega) ?_;obtain⟨q,aj⟩:=fi.rd.ptr (by simp;omega);refine⟨_,WR aj (by omega),?_⟩;refine OA fi aj (i:=(mC j).length) (c:=s1.len-(mC j).length) (by omega) 0 rfl λg2 eS cg=>?_;refine⟨by omega,by omega,?_⟩;refine⟨_,rfl,?_,λdE eG=>?_,λb ar=>(cg b (ar q aj)).trans (ib b ar),λdE eG=>(eS.bp eG).2⟩
  .have:=e4.JG eS.Co.rd (n:=(mC j).length) (by simp;omega);have a_:((List.range j).map λx=>if (mC j).length<=x/\x<(mC j).length+(s1.len-(mC j).length) then (0:Int) else e x).take (mC j).length=mC j:=by
    apply aEG
    .simp;omega
    .intro x av aN
     have aT:=lo x aN;simp only[List.getElem_take,aFl,aFs];rw[cS,aT];simp[List.getD,aN]
   rw[a_] at this;exact this
  .rcases WW eG with ⟨p,aP,a_⟩|⟨_,h0⟩
   .exact⟨p,aP,a_⟩
   .simp at h0
abbrev ps (k s t:Nat)(x:oo):Array Value:=#[U k,U s,U t,U x.bV,U x.on,U x.st]
def hB:Option Nat->Int
 | some p=>p
 | none=>-1
theorem aks {k s t:Nat}(o:vB k s t){x:oo}(w:uD k s t x)(aT: -1<=x.bV){d:Int}(b4:0<=d){T:TypeId}{h:ak}{b:Nat}(e:h b=ev (ps k s t x) T) :
 aq 198 [bm ⟨b,0⟩,U d] h λv af=>v=U (hB (iY k s t x d).2)/\af b=ev (ps k s t (iY k s t x d).1) T/\(∀y,y≠b->h y≠none->af y=h y)/\(∀y,af y=none->h y=none):=by
 have ji:=w.bV;have h6:=w.on;have sm:=w.st;have os:=o.s;have WX:=o.t;have te:=o.d;refine akt _ _ ?_;unfold WY;generalize l4:(if d<x.bV then d else x.bV)=bV;generalize jR:(if d<x.bV then 0 else x.on)=on;have eN:iY k s t x d=if bV<0 then (if x.st=t then (⟨bV,on,x.st⟩,none) else (⟨bV,on,x.st+1⟩,some (s*(k+1)+x.st))) else (if on+1=s then ⟨bV-1,0,x.st⟩ else ⟨bV,on+1,x.st⟩,some (bV.toNat*s+on)):=by
  unfold iY;rw[l4,jR]
 have kW:bV<=k/\-1<=bV/\on<s:=by
  by_cases c:d<x.bV
  .rw[aDr c] at l4 jR;omega
  .rw[aDq c] at l4 jR;omega
 rw[eN];have Cp:∀(g:ak) (e7:Obj) y,g b≠none->bD g b e7 y=none->g y=none:=λg e7 y ar aC=>by
  by_cases c:y=b
  .rw[c,eC] at aC;cases aC
  .rwa [cu _ _ c] at aC
 refine⟨λq1 g=>q1=⟨b,0⟩/\g b=ev (ps k s t ⟨bV,on,x.st⟩) T/\(∀y,y≠b->h y≠none->g y=h y)/\(∀y,g y=none->h y=none),⟨_,az e rfl,?_⟩,?_⟩
 .refine cj (λc=>?_) λc=>?_
  .rw[aDr c] at l4 jR;refine⟨_,T,e,by simp,?_⟩;refine⟨_,T,eC _ _ _,by simp[iI],rfl,?_,λy aC b2=>?_,λy aC=>?_⟩
   .rw[eC,<-l4,<-jR];rfl
   .rw[cu _ _ aC,cu _ _ aC]
   .exact Cp _ _ _ (by rw[e];simp) (Cp _ _ _ (by rw[eC];simp) aC)
  .rw[aDq c] at l4 jR;refine⟨rfl,?_,λ_ _ _=>rfl,λ_ aC=>aC⟩;rw[e,<-l4,<-jR]
 rintro q1 g ⟨rfl,jm,ib,Cq⟩;have WZ:g b≠none:=by rw[jm];simp
 have aV:((s*(k+1):Nat):Int)=(s:Int)*((k:Int)+1):=by simp
 have Cr:=zu os.1 os.2 te.1 te.2;have aku:bV<0->x.st≠t->∃bB,bx g b (0+5)=some (U bB)/\aW g ⟨b,0+5⟩ [U (al (bB+1))] λaJ=>∃br,bx aJ b 0=some (U br)/\∃bq,bx aJ b (0+1)=some (U bq)/\∃ca,bx aJ b (0+1+1)=some (U ca)/\∃cF,bx aJ b (0+5)=some (U cF) /\
  aq 183 [.agg #[U br,U bq,U ca]] aJ λv1 aR=>∃cL,v1=U cL/\(bx aR b (0+5)=some (U cF)/\True)/\(U (al (al (cL+cF)-1)):Value)=U (hB (some (s*(k+1)+x.st)))/\aR b=ev (ps k s t ⟨bV,on,x.st+1⟩) T/\(∀y,y≠b->h y≠none->aR y=h y)/\(∀y,aR y=none->h y=none):=by
  intro aS aY;refine⟨_,az jm rfl,_,T,jm,by simp,?_⟩;have b6:bD g b (.cells (iI (ps k s t ⟨bV,on,x.st⟩) (0+5) [U (al ((x.st:Int)+1))]) T (0,0)) b=ev (ps k s t ⟨bV,on,x.st+1⟩) T:=by
   rw[eC,bt];rfl
  refine⟨_,az b6 rfl,_,az b6 rfl,_,az b6 rfl,_,az b6 rfl,?_⟩;refine(UE o).to λaR bF=>⟨_,rfl,⟨az (bF.get b6) rfl,trivial⟩,?_,bF.get b6,λy aC b2=>?_,λy aC=>?_⟩
  .congr 1;simp only[hB];generalize (s:Int)*((k:Int)+1)=z at *;rw[iK (n:=z+((x.st+1:Nat):Int)) (by omega) (by omega),bt];omega
  .have aH:bD g b (.cells (iI (ps k s t ⟨bV,on,x.st⟩) (0+5) [U (al ((x.st:Int)+1))]) T (0,0)) y=h y:=by rw[cu _ _ aC,ib y aC b2]
   rw[bF y (by rw[aH];exact b2),aH]
  .exact Cq y (Cp _ _ _ WZ (bF.free aC))
 have akv:¬bV<0->∃cd,bx g b (0+3)=some (U cd)/\∃cJ,bx g b (0+1)=some (U cJ)/\∃db,bx g b (0+4)=some (U db)/\∃dr,bx g b (0+4)=some (U dr)/\aW g ⟨b,0+4⟩ [U (al (dr+1))] λbj=>∃dj,bx bj b (0+4)=some (U dj)/\∃dm,bx bj b (0+1)=some (U dm) /\
  bl (decide (dj=dm)) (∃cw,bx bj b (0+3)=some (U cw)/\aW bj ⟨b,0+3⟩ [U (al (cw-1))] λbU=>aW bU ⟨b,0+4⟩ [U 0] λbR=>(U (al (al (cd*cJ)+db)):Value)=U (hB (some (bV.toNat*s+on)))/\bR b=ev (ps k s t (if on+1=s then ⟨bV-1,0,x.st⟩ else ⟨bV,on+1,x.st⟩)) T/\(∀y,y≠b->h y≠none->bR y=h y)/\(∀y,bR y=none->h y=none))
   ((U (al (al (cd*cJ)+db)):Value)=U (hB (some (bV.toNat*s+on)))/\bj b=ev (ps k s t (if on+1=s then ⟨bV-1,0,x.st⟩ else ⟨bV,on+1,x.st⟩)) T/\(∀y,y≠b->h y≠none->bj y=h y)/\(∀y,bj y=none->h y=none)):=by
  intro aS;have b0:(U (al (al (bV*s)+on)):Value)=U (hB (some (bV.toNat*s+on))):=by
   have hm:bV*(s:Int)=((bV.toNat*s:Nat):Int):=by rw[aEA,Int.toNat_of_nonneg (by omega)]
   have hN:bV.toNat*s<=10*8:=aDP (by omega) (by omega);rw[hm,iK (n:=((bV.toNat*s:Nat):Int)) (by omega) (by omega),bt];congr 1
  refine⟨_,az jm rfl,_,az jm rfl,_,az jm rfl,_,az jm rfl,_,T,jm,by simp,?_⟩;have dP:bD g b (.cells (iI (ps k s t ⟨bV,on,x.st⟩) (0+4) [U (al ((on:Int)+1))]) T (0,0)) b=ev (ps k s t ⟨bV,on+1,x.st⟩) T:=by
   rw[eC,bt];rfl
  have ek:∀y,y≠b->h y≠none->bD g b (.cells (iI (ps k s t ⟨bV,on,x.st⟩) (0+4) [U (al ((on:Int)+1))]) T (0,0)) y=h y:=λy aC b2=>by rw[cu _ _ aC,ib y aC b2]
  have bB:∀y,bD g b (.cells (iI (ps k s t ⟨bV,on,x.st⟩) (0+4) [U (al ((on:Int)+1))]) T (0,0)) y=none->h y=none:=λy aC=>Cq y (Cp _ _ _ WZ aC);refine⟨((on+1:Nat):Int),az dP rfl,(s:Int),az dP rfl,cj (λc=>?_) λc=>?_⟩
  .have cr:on+1=s:=by omega
   rw[aDr cr];refine⟨bV,az dP rfl,_,T,dP,by simp,_,T,eC _ _ _,by simp[iI],b0,?_,λy aC b2=>?_,λy aC=>?_⟩
   .rw[eC,bt];rfl
   .rw[cu _ _ aC,cu _ _ aC];exact ek y aC b2
   .exact bB y (Cp _ _ _ (by rw[dP];simp) (Cp _ _ _ (by rw[eC];simp) aC))
  .have cr:¬on+1=s:=by omega
   rw[aDq cr];exact⟨b0,dP,ek,bB⟩
 refine⟨_,az jm rfl,cj (λaS=>?_) λaS=>?_⟩
 .rw[aDr aS];refine⟨_,az jm rfl,_,az jm rfl,iN (λaY=>?_) λaY=>?_⟩
  .have Cd:x.st=t:=by simp at aY;omega
   rw[aDr Cd];exact⟨rfl,jm,ib,Cq⟩
  .have Cd:x.st≠t:=by simp at aY;omega
   rw[aDq Cd];exact⟨_,az jm rfl,cj (λ_=>aku aS Cd) λh=>absurd aS h⟩
 .rw[aDq aS];exact⟨_,az jm rfl,cj (λh=>absurd h aS) λ_=>akv aS⟩
end Go.Proofs.Tryz
namespace Go.cR
open Go Go.RowKit
def l5 (k s t:Nat)(l:List Int)(x:oo):Nat->oo
 | 0=>x
 | i+1=>(iY k s t (l5 k s t l x i) (l.getD i 0)).1
theorem W0 (k s t:Nat)(d:Int)(l:List Int)(x:oo):∀i,l5 k s t (d::l) x (i+1)=l5 k s t l (iY k s t x d).1 i
 | 0=>rfl
 | i+1=>by
  show(iY k s t (l5 k s t (d::l) x (i+1)) ((d::l).getD (i+1) 0)).1=(iY k s t (l5 k s t l (iY k s t x d).1 i) (l.getD i 0)).1;rw[W0 k s t d l x i,aE4]
theorem OC (k s t:Nat):∀(l:List Int) (x:oo) (i:Nat),i<gF l->(iZ k s t l x).getD i none=(iY k s t (l5 k s t l x i) (l.getD i 0)).2
 | [],x,i,h=>by simp[gF] at h
 | d::l,x,i,h=>by
  unfold gF at h;split at h
  .omega
  .rename_i b4
   rw[iZ,aDq b4];cases i with
   | zero=>rfl
   | succ i=>rw[aE4,aE4,W0];exact OC k s t l _ i (by omega)
theorem W1 (k s t:Nat)(l:List Int)(x:oo)(aV:uD k s t x){i:Nat}(h:gF l<=i):(iZ k s t l x).getD i none=none:=by
 obtain⟨_,_,_,_,i5⟩:=FF l x aV;cases e:(iZ k s t l x)[i]? with
 | none=>simp[List.getD,e]
 | some o =>
  cases o with
  | none=>simp[List.getD,e]
  | some p=>have:=i5 i p e;omega
theorem JH:∀(l:List Int) (i:Nat),i<l.length->i=gF l->l.getD i 0<0
 | [],i,h,_=>by simp at h
 | d::l,i,h,e=>by
  unfold gF at e;split at e
  .subst e;simpa using (by assumption:d<0)
  .cases i with
   | zero=>omega
   | succ i=>rw[aE4];exact JH l i (by simpa using h) (by omega)
theorem JI (l:List Int)(i:Nat)(h:i<gF l):0<=l.getD i 0:=by
 obtain⟨d,aa,ad⟩:=OD l i h;simp[List.getD,aa];exact ad
theorem OE {k s t:Nat}(l:List Int)(x:oo)(w:uD k s t x)(aT: -1<=x.bV):∀i,i<=gF l->uD k s t (l5 k s t l x i)/\-1<=(l5 k s t l x i).bV
 | 0,_=>⟨w,aT⟩
 | i+1,h=>by
  obtain⟨ji,h6⟩:=OE l x w aT i (by omega);have aP:=JI l i (by omega);refine⟨(W2 ji aP).1,?_⟩;show -1<=(iY k s t (l5 k s t l x i) (l.getD i 0)).1.bV;generalize l5 k s t l x i=y at *;generalize l.getD i 0=d at *;unfold iY;by_cases c:d<y.bV
  .simp only[aDr c];split
   .omega
   .split<;>simp only<;>omega
  .simp only[aDq c];split
   .split<;>simp only<;>omega
   .split<;>simp only<;>omega
theorem JJ:∀(l:List (Option Nat)) (r:List Nat) (i:Nat),i<l.length->(i_ l r).getD i 0=match l.getD i none with|some p=>p|none=>r.getD (je (l.take i)) 0
 | [],r,i,h=>by simp at h
 | some p::l,r,i,h=>by
  cases i with
  | zero=>simp[i_]
  | succ i =>
   have:=JJ l r i (by simpa using h);simp only[i_,aE4,this,List.take_succ_cons];have e:je (some p::l.take i)=je (l.take i):=by simp[je]
   rw[e]
 | none::l,r,i,h=>by
  cases i with
  | zero=>simp[i_,je];cases r<;>rfl
  | succ i =>
   have:=JJ l r.tail i (by simpa using h);simp only[i_,aE4,this,List.take_succ_cons];have e:je (none::l.take i)=je (l.take i)+1:=by simp[je]
   rw[e];cases l.getD i none with
   | some p=>rfl
   | none=>cases r<;>simp
theorem W3 (l:List (Option Nat)){i:Nat}(h:i<l.length):je (l.take (i+1))=je (l.take i)+if l.getD i none=none then 1 else 0:=by
 rw[aEl,aDx h];have e:l.getD i none=l[i]:=by simp[List.getD,h]
 rw[e];cases ad:l[i]<;>simp[je,ad]
theorem W4 (l:List (Option Nat))(i:Nat):je (l.take i)<=je l:=by
 unfold je;exact List.Sublist.length_le ((List.take_sublist i l).filter _)
end Go.cR
namespace Go.Proofs.Tryz
open Go Go.cR Go.RowKit
set_option maxRecDepth 8000
def sn:aE×Int:=(0,0)
def JK (L:List (aE×Int)):Prop:=∀i j,i<=j->j<L.length->jY (L.getD i sn)<=jY (L.getD j sn)
theorem akw {h:ak}{s:ao}{L:List (aE×Int)}(r:fR pr h s L)(aK:L.length<=1000000)(eg:∀x∈L,x.2<=1000)(fj:JK L) :
 aq 197 [aZ s] h λv af=>∃cE,v=aZ cE/\gX h af cE L.length (λi:Nat=>(i:Int))/\bL h af:=by
 have hlen:=r.len;refine akx _ ?_;unfold W5;refine bP λae aa f1 aH aD=>bP λax ad f2 a_ aB=>?_;have cU:ax≠ae:=λe=>by rw[e,aH] at f2;cases f2
 refine qh (aD.trans aB) (aD.free f2) a_ (by simp) λan aG b7 da=>?_;have lH:an ae=_:=(da _ (aDC cU)).trans (aB.get aH);refine⟨_,az lH rfl,by omega,by omega,by omega,by omega,bP λaM aJ f4 b6 bd=>?_⟩;have ln:=aG.trans bd;have f40:h aM=none:=aG.free f4;have n31:aM≠ae:=λe=>by rw[e,lH] at f4;cases f4
 have n32:aM≠ax:=λe=>by rw[e,b7] at f4;cases f4
 have mY:∀n:Nat,Int.toNat (n:Int)=n:=λn=>by omega
 have FC:gX h aJ ⟨some ⟨aM,0⟩,s.len,s.len,none⟩ s.len λ_=>0:=gX.zero f40 b6 (by omega);refine⟨λq1 aI s2 ay aA g k=>q1=⟨ae,0⟩/\aI=⟨ax,0⟩/\s2=⟨some ⟨aM,0⟩,s.len,s.len,none⟩/\ay=(s.len:Nat)/\∃i:Nat,aA=i/\i<=s.len/\k=s.len-i/\gX h g ⟨some ⟨aM,0⟩,s.len,s.len,none⟩ s.len (λx=>if x<i then (x:Int) else 0)/\∀y,y≠aM->g y=aJ y,
  ⟨s.len,rfl,rfl,rfl,rfl,0,rfl,by omega,rfl,by simpa using FC,λ_ _=>rfl⟩,?_⟩
 rintro q1 aI s2 ay aA g k ⟨rfl,rfl,rfl,rfl,i,rfl,hi,rfl,fi,ib⟩;refine cj (λcl=>?_) λdH=>?_
 .refine fi.set (i:=i) (by omega) rfl (i:Int) λg2 eS cg=>⟨s.len-(i+1),by omega,rfl,rfl,rfl,rfl,i+1,bt,by omega,rfl,?_,λy aC=>(cg y λq aj e=>aC (by cases aj;exact e)).trans (ib y aC)⟩;have e:(λx:Nat=>if x=i then (i:Int) else if x<i then (x:Int) else 0)=λx=>if x<i+1 then (x:Int) else 0:=by
   funext x;repeat' split
   all_goals first|rfl|omega
  rw[e] at eS;exact eS
 .have cb:i=s.len:=by omega
  subst cb;have bA:bL h g:=λy aC=>by
   have:y≠aM:=λe=>aC (e▸f40);rw[ib y this];exact ln y aC
  have jF:gX h g ⟨some ⟨aM,0⟩,s.len,s.len,none⟩ s.len λx:Nat=>(x:Int):=by
   have e:(List.range s.len).map (λx:Nat=>if x<s.len then (x:Int) else 0)=(List.range s.len).map λx:Nat=>(x:Int):=aDU λx ai=>aDr (aDT.1 ai);have OF:=fi;unfold gX at OF;rw[e] at OF;exact OF
  have rb:g ae=some (.cells #[aZ s] 280 (0,0)):=(ib ae (aDC n31)).trans (bd.get lH);have sV:=(ib ax (aDC n32)).trans (bd.get b7);have rg:fR pr g s L:=r.bA l3 bA;have aky:∀q,s.q=some q->0<L.length->q.b≠aM:=λq aj aT e=>r.there l3 aj aT (e▸f40);have akz:ct 1 v_ l6 g ⟨some ⟨aM,0⟩,s.len,s.len,none⟩ ((List.range s.len).map λx:Nat=>(x:Int)):=jF.base λ_ _=>rfl;have C:r7 prog (λb=>b=aM) g (.func (.func 212) #[] #[bm ⟨ax,0⟩,bm ⟨ae,0⟩]) Cs (λx=>jY (L.getD x.toNat sn)) (λx=>0<=x/\x<(L.length:Nat)):=by
   intro af O x y ai aC;have ho:af ae=_:=(O ae (by rw[rb];simp) (aDC n31)).trans rb;have iz:af ax=_:=(O ax (by rw[sV];simp) (aDC n32)).trans sV;have W6:fR pr af s L:=rg.move λq aj aT=>O q.b (rg.there l3 aj aT) (aky q aj aT);obtain⟨i,rfl⟩:=aE2 ai.1;obtain⟨j,rfl⟩:=aE2 aC.1;have hi:i<L.length:=by have:=ai.2;omega
   have aU:j<L.length:=by have:=aC.2;omega
   refine⟨rfl,?_⟩;refine akA _ _ _ _ ?_;unfold W7;refine⟨_,az iz rfl,rfl,_,az ho rfl,?_⟩;refine W6.cA l3 hi λq _ tf=>?_;obtain⟨aS,aY,_⟩:=tf;refine⟨_,aS,_,aY,_,az ho rfl,?_⟩;refine W6.cA l3 aU λaI _ akB=>?_;obtain⟨cB,dQ,_⟩:=akB;refine⟨_,cB,_,dQ,⟨rfl,?_⟩⟩;refine(ake L[i] L[j] (eg _ (aDR hi)) (eg _ (aDR aU)) af).mono ?_;rintro _ ad ⟨m,rfl,hm,bW⟩;refine⟨m,rfl,m,rfl,?_,bW⟩;have aH:L.getD (Int.toNat (i:Int)) sn=L[i]:=by rw[mY];simp[List.getD,hi]
   have a_:L.getD (Int.toNat (j:Int)) sn=L[j]:=by rw[mY];simp[List.getD,aU]
   rw[hm];show _↔jY (L.getD (Int.toNat (i:Int)) sn)<jY (L.getD (Int.toNat (j:Int)) sn);rw[aH,a_]
  refine(akC C (λq aj=>by cases aj;rfl) (n:=s.len) (by omega) akz (eb.refl _ _) (λx ai=>⟨by omega,by omega⟩)).mono ?_;rintro _ g2 ⟨rfl,bO,eS,ft,_,_,oq⟩;have b4:bO=λx:Nat=>(x:Int):=oq λi j _ oR aU=>by
   show jY (L.getD (Int.toNat (i:Int)) sn)<=jY (L.getD (Int.toNat (j:Int)) sn);rw[mY,mY];exact fj i j oR (by omega)
  subst b4;refine⟨rfl,_,rfl,?_,λy aC=>?_⟩
  .rw[<-hlen];exact⟨eS.len,eS.cap,by
    rcases eS.own with h|⟨q,c,t,av,aN,a3⟩
    .exact .inl h
    .exact .inr ⟨q,c,t,av,by cases av;exact f40,a3⟩⟩
  .have:y≠aM:=λe=>aC (e▸f40);rw[ft y (by rw[bA y aC];exact aC) this,bA y aC]
theorem Ct {gA g:ak}{s:ao}{l:List Int}(A:c4 eo gA g s l)(qy:∀b,g b=none->gA b=none)(x:Int)(aT:(l.length+1)*8<=140737488355328){t:TypeId}{K:ao->ak->Prop}
 (ah:∀cE bw,c4 eo gA bw cE (l++[x])->(∀b,g b≠none->(∀q,s.q=some q->b≠q.b)->bw b=g b)->(∀dE,cE.q=some dE->(∃q,s.q=some q/\dE.b=q.b)∨g dE.b=none)->(∀b,bw b=none->g b=none)->K cE bw) :
 bg g (.cells #[U x] t) λb af=>eI prog 37 s (.s ⟨some ⟨b,0⟩,1,1,none⟩) af K :=
 c4.zX xL Cj A x qy aT (by decide) ah
theorem akD {k s t:Nat}(o:vB k s t){h:ak}{x:ao}{L:List (aE×Int)}(r:fR pr h x L)(hlen:L.length=s*(k+1)+t+1)(eg:∀x∈L,x.2<=k)(fj:JK L) :
 aq 178 [.agg #[U k,U s,U t],aZ x] h λv af=>∃s1 s2,v= .tuple #[aZ s1,aZ s2]/\c4 eo h af s1 ((lx k s t (L.map (·.2))).map λp:Nat=>(p:Int))/\c4 eo h af s2 ((lP k s t (L.map (·.2))).map λp:Nat=>(p:Int))/\bL h af:=by
 have FG:=r.len;have os:=o.s;have WX:=o.t;have te:=o.d;have Cr:=zu os.1 os.2 te.1 te.2;have W8:((s*(k+1):Nat):Int)=(s:Int)*((k:Int)+1):=by simp
 have vS:L.length<=153:=by rw[hlen];omega
 generalize pR:L.map (·.2)=c9 at *;have qz:c9.length=L.length:=by rw[<-pR];simp
 have ub:=uE c9;have l2:uD k s t (hk k):=⟨by simp[hk],(show 0<s by omega),by simp[hk]⟩;have zY:=JL k s t c9 (hk k);generalize tg:iZ k s t c9 (hk k)=ops at *;have wf:=OE c9 (hk k) l2 (show -1<=(k:Int) by omega);have OG:∀i,i<gF c9->ops.getD i none=(iY k s t (l5 k s t c9 (hk k) i) (c9.getD i 0)).2:=λi hi=>by rw[<-tg];exact OC k s t c9 _ i hi
 have FH:∀i,gF c9<=i->ops.getD i none=none:=λi hi=>by rw[<-tg];exact W1 k s t c9 _ l2 hi
 obtain⟨i1,i2,_,_,_⟩:=FF c9 (hk k) l2;rw[tg] at i1 i2;have qw:=OH (n:=L.length) ops (by rw[zY,qz]) i2 λp aP=>by have:=(i1 p aP).2;omega
 have lL:lx k s t c9=i_ ops (qA L.length ops):=by unfold lx;rw[tg,qz]
 have FI:lP k s t c9=(List.range (gF c9)).filter λi=>ops.getD i none==none:=by unfold lP;rw[tg]
 have so:∀i (hi:i<L.length),c9.getD i 0=L[i].2:=λi hi=>by rw[<-pR];simp[List.getD,hi]
 rw[lL,FI];refine akE _ _ _ _ ?_;unfold W9;refine bP λae aa f1 aH aD=>kQ aH ?_;refine(Nb o).to λad aB=>⟨_,rfl,b3 rfl (kQ (aB.get aH) ?_)⟩;refine(Nc o).to λan aG=>⟨_,rfl,b3 (by rw[FG,hlen];simp) ?_⟩;have b7:=(aB.trans aG).get aH;refine kQ b7 (ga b7 rfl (bP λax aJ f4 b6 bd=>bP λaM aR f5 cG bF=>?_));have jM:=(aD.trans (aB.trans aG)).trans (bd.trans bF);have rx:e4 eo aR ⟨some ⟨aM,0⟩,1,1,none⟩ [-1]:=(c4.qs (h0:=aJ) (l:=[(-1:Int)]) (t:=3) f5 cG rfl rfl).rd;rw[FG];refine(akk (by omega) (by omega) rx).mono ?_;rintro _ bj ⟨sp,rfl,kF,cn⟩;refine⟨_,rfl,by omega,by omega,by omega,by omega,bP λbM bU f7 fa c3=>?_⟩;have ew:=kF.len;simp only[aDF,aDL] at ew;obtain⟨uF,pS⟩:=kF.rd.ptr (by simp;omega);have OI:aR uF.b=none:=(kF.bp pS).1;have akF:=(kF.bp pS).2;have we:=jM.trans (cn.trans c3);have zZ:bU ax=ev (ps k s t (hk k)) 294:=(bF.trans (cn.trans c3)).get b6;have W_:uF.b≠ax:=λe=>by rw[e,bF.get b6] at OI;cases OI
 have n42:bM≠ax:=λe=>by rw[e,(bF.trans cn).get b6] at f7;cases f7
 have FJ:bM≠uF.b:=λe=>akF (e▸f7);have f20:h ax=none:=(aD.trans (aB.trans aG)).free f4;have Xa:h uF.b=none:=jM.free OI;have f40:h bM=none:=(jM.trans cn).free f7;have mY:∀n:Nat,Int.toNat (n:Int)=n:=λn=>by omega
 let kf:ao:=⟨some ⟨bM,0⟩,L.length,L.length,none⟩;have akG:gX h bU kf L.length λ_=>0:=gX.zero f40 fa (by omega);have akH:gX h bU sp L.length λ_=>-1:=(kF.bA c3).base λb ar=>jM.free ar;refine⟨λs2 cy bz bZ cd cJ g bW=>s2=x/\cy=some ⟨ax,0⟩/\bz=sp/\bZ=kf/\cd=(L.length:Nat)/\∃i:Nat,cJ=i/\i<=L.length/\bW=L.length-i/\gX h g kf L.length (λy=>if y<i then (y:Int) else 0)/\∀y,y≠bM->g y=bU y,
  ⟨L.length,rfl,rfl,rfl,rfl,rfl,0,rfl,by omega,rfl,by simpa using akG,λ_ _=>rfl⟩,?_⟩
 rintro s2 cy bz bZ cd cJ g bW ⟨rfl,rfl,rfl,rfl,rfl,i,rfl,hi,rfl,Xb,ib⟩;refine cj (λcl=>?_) λdH=>?_
 .refine Xb.set (i:=i) (by omega) rfl (i:Int) λg2 eS cg=>⟨L.length-(i+1),by omega,rfl,rfl,rfl,rfl,rfl,i+1,bt,by omega,rfl,?_,λy aC=>(cg y λq aj e=>aC (by cases aj;exact e)).trans (ib y aC)⟩;have e:(λx:Nat=>if x=i then (i:Int) else if x<i then (x:Int) else 0)=λx=>if x<i+1 then (x:Int) else 0:=by
   funext x;repeat' split
   all_goals first|rfl|omega
  rw[e] at eS;exact eS
 have cb:i=L.length:=by omega
 subst cb;have OJ:gX h g kf L.length λy:Nat=>(y:Int):=by
  have e:(List.range L.length).map (λx:Nat=>if x<L.length then (x:Int) else 0)=(List.range L.length).map λx:Nat=>(x:Int):=aDU λx ai=>aDr (aDT.1 ai);have OK:=Xb;unfold gX at OK;rw[e] at OK;exact OK
 have cY:bL h g:=λy aC=>by
  have:y≠bM:=λe=>aC (e▸f40);rw[ib y this];exact we y aC
 have Xc:gX h g bz L.length λ_=>-1:=akH.move λq aj=>ib _ (by rw[pS] at aj;cases aj;exact FJ.symm);have Xd:g ax=ev (ps k s t (hk k)) 294:=(ib ax n42.symm).trans zZ;have aiS:∀y,g y=none->bU y=none:=λy aC=>by
  by_cases c:y=bM
  .exfalso;rw[c] at aC;exact(OJ.bp (q:=⟨bM,0⟩) rfl).2 aC
  .rw[<-ib y c];exact aC
 let left:Nat->Int:=λy=>if ops.contains (some y)=true then -1 else (y:Int)
 let OL:List Int:=((List.range (gF c9)).filter λi=>ops.getD i none==none).map λp:Nat=>(p:Int);refine⟨λdV dS fY g=>dV=bz/\dS=kf/\bL h g/\gX h g bz L.length (λy=>hB (ops.getD y none))/\gX h g kf L.length left/\c4 eo h g fY OL/\(∀q,fY.q=some q->q.b≠uF.b/\q.b≠bM),?_,?_⟩
 .have OM:∀y∈L,y.2<=1000:=λy aC=>by have:=eg y aC;omega
  refine(akw (r.bA l3 cY) (by omega) OM fj).mono ?_;rintro _ g1 ⟨FK,rfl,wg,uG⟩;have JM:=wg.len;simp only[aDF,aDL] at JM;obtain⟨qt,rr⟩:=wg.rd.ptr (by simp;omega);have th:=(wg.bp rr).1;have JN:qt.b≠ax:=λe=>by rw[e,Xd] at th;cases th
  have akI:qt.b≠uF.b:=λe=>(Xc.bp pS).2 (e▸th);have akJ:qt.b≠bM:=λe=>(OJ.bp (q:=⟨bM,0⟩) rfl).2 (e▸th);refine⟨_,rfl,λck cg dV dS fY gr db dr g2 bW=>ck=s2/\cg=some ⟨ax,0⟩/\dV=bz/\dS=kf/\gr=FK/\db=(L.length:Nat)/\∃i:Nat,dr=i/\i<=gF c9/\bW=L.length-i/\bL h g2/\g2 ax=ev (ps k s t (l5 k s t c9 (hk k) i)) 294 /\
   gX h g2 bz L.length (λy=>if y<i then hB (ops.getD y none) else -1)/\gX h g2 kf L.length (λy=>if (ops.take i).contains (some y)=true then -1 else (y:Int))/\c4 eo h g2 fY (((List.range i).filter λi=>ops.getD i none==none).map λp:Nat=>(p:Int)) /\
   (∀q,fY.q=some q->q.b≠uF.b/\q.b≠bM/\q.b≠ax/\q.b≠qt.b)/\gX g g2 FK L.length (λy:Nat=>(y:Int))/\fR pr g2 s2 L,
   ⟨L.length,rfl,rfl,rfl,rfl,rfl,by rw[JM],0,rfl,by omega,rfl,cY.trans uG,uG.get Xd,by simpa using Xc.bA uG,by simpa using OJ.bA uG,c4.gy _ _ _,λq aj=>(by cases aj),wg,(r.bA l3 (cY.trans uG))⟩,?_⟩
  rintro ck cg dV dS fY gr db dr g2 bW ⟨rfl,rfl,rfl,rfl,rfl,rfl,i,rfl,hi,rfl,ti,a_,JO,JP,JQ,tj,ON,fK⟩;have done:∀g3,bL g2 g3->i=gF c9->dV=dV/\kf=kf/\bL h g3/\gX h g3 dV L.length (λy=>hB (ops.getD y none))/\gX h g3 kf L.length left/\c4 eo h g3 fY OL/\(∀q,fY.q=some q->q.b≠uF.b/\q.b≠bM):=by
   rintro g3 aG hO;have aH:(λy=>if y<i then hB (ops.getD y none) else -1)=λy=>hB (ops.getD y none):=by
    funext y;by_cases c:y<i
    .rw[aDr c]
    .rw[aDq c,FH y (by omega)];rfl
   have oS:∀y:Nat,(ops.take i).contains (some y)=ops.contains (some y):=λy=>by
    rw[aDV];simp only[List.contains_eq_mem,aEJ];constructor
    .exact λh=>List.mem_of_mem_take h
    .intro hm
     obtain⟨j,aU,e⟩:=aEh hm;have OO:j<i:=by
      rcases aDZ j i with c|c
      .exact c
      .have:=FH j (by omega);simp[List.getD,aU,e] at this
     rw[<-e];exact aFK.2 ⟨j,by omega,rfl⟩
   refine⟨rfl,rfl,ti.trans aG,by rw[aH] at JO;exact JO.bA aG,?_,by rw[hO] at JQ;exact JQ.bA aG,λq aj=>⟨(tj q aj).1,(tj q aj).2.1⟩⟩;have b7:(λy:Nat=>if (ops.take i).contains (some y)=true then (-1:Int) else (y:Int))=left:=by funext y;rw[oS y]
   rw[b7] at JP;exact JP.bA aG
  refine cj (λcl=>?_) λdH=>done g2 (bL.refl _) (by omega);have ir:i<L.length:=by omega
  refine ON.get ir rfl λq _=>?_;refine fK.cA l3 ir λaI _ tf=>?_;obtain⟨_,aY,_⟩:=tf;rw[mY];refine⟨_,aY,cj (λk_=>done g2 (bL.refl _) ?_) λqB=>?_⟩
  .rcases aDZ i (gF c9) with c|c
   .have:=JI c9 i c;rw[so i ir] at this;omega
   .omega
  have hO:i<gF c9:=by
   rcases aDZ i (gF c9) with c|c
   .exact c
   .have:=JH c9 i (by omega) (by omega);rw[so i ir] at this;omega
  refine fK.cA l3 ir λbb _ akK=>?_;obtain⟨_,cB,_⟩:=akK;refine⟨_,cB,?_⟩;have mi:=OG i hO;rw[so i ir] at mi;have kB:l5 k s t c9 (hk k) (i+1)=(iY k s t (l5 k s t c9 (hk k) i) L[i].2).1:=by
   show(iY k s t (l5 k s t c9 (hk k) i) (c9.getD i 0)).1=_;rw[so i ir]
  refine(aks o (wf i hi).1 (wf i hi).2 (d:=L[i].2) (by omega) a_).mono ?_;rintro _ g3 ⟨rfl,pt,da,aL⟩;rw[<-kB] at pt;rw[<-mi];have aG:∀y,h y≠none->g3 y=h y:=λy aC=>by
   have:y≠ax:=λe=>aC (e▸f20);rw[da y this (by rw[ti y aC];exact aC),ti y aC]
  have akL:∀q,dV.q=some q->q.b≠ax:=λq aj=>by rw[pS] at aj;cases aj;exact W_
  have Cu:=JO.move (af:=g3) λq aj=>da _ (akL q aj) (JO.bp aj).2;have Cv:=JP.move (af:=g3) λq aj=>by cases aj;exact da _ n42 (JP.bp (q:=⟨bM,0⟩) rfl).2
  have FL:=JQ.move (af:=g3) λq aj=>da _ (tj q aj).2.2.1 (JQ.bp aj).2;have JR:=ON.move (af:=g3) λq aj=>da _ (by rw[rr] at aj;cases aj;exact JN) (ON.bp aj).2;have oT:fR pr g3 ck L:=r.bA l3 aG;have bG:ops.take (i+1)=ops.take i++[ops.getD i none]:=by
   have sq:i<ops.length:=by rw[zY,qz];exact ir
   rw[aEl,aDx sq];simp[List.getD,sq]
  have bc:(List.range (i+1)).filter (λi=>ops.getD i none==none)=(List.range i).filter (λi=>ops.getD i none==none)++if ops.getD i none=none then [i] else []:=by
   rw[aDQ,aFu];congr 1;rw[List.filter_cons,List.filter_nil];cases a1:ops.getD i none<;>rfl
  refine⟨_,rfl,?_⟩;cases a1:ops.getD i none with
  | none =>
   rw[a1] at bG bc;refine dF rfl ?_;refine Ct FL (λb ar=>by
    cases e:h b with
    | none=>rfl
    | some e7=>rw[aG b (by rw[e];simp),e] at ar;cases ar) (i:Int) (by
     have:=aEQ (λi=>ops.getD i none==none) (List.range i);simp at this ⊢;omega) λcE g4 jv uH uI akM=>?_
   have FM:∀y,g3 y≠none->(∀q,fY.q=some q->y≠q.b)->g4 y=g3 y:=uH;have rm:=FM uF.b (by have:=(Cu.bp pS).2;exact this) λq aj e=>(tj q aj).1 e.symm;have vV:=FM bM (Cv.bp (q:=⟨bM,0⟩) rfl).2 λq aj e=>(tj q aj).2.1 e.symm;have d4:=FM ax (by rw[pt];simp) λq aj e=>(tj q aj).2.2.1 e.symm;have dq:=FM qt.b (JR.bp rr).2 λq aj e=>(tj q aj).2.2.2 e.symm;have Cw:∀y,h y≠none->g4 y=h y:=λy aC=>by
    rw[FM y (by rw[aG y aC];exact aC) λq aj e=>aC (e▸(FL.bp aj).1),aG y aC]
   refine⟨L.length-(i+1),by omega,rfl,rfl,rfl,rfl,rfl,rfl,i+1,bt,by omega,rfl,Cw,d4.trans pt,?_,?_,?_,λdE eG=>?_,JR.move λq aj=>by rw[rr] at aj;cases aj;exact dq,r.bA l3 Cw⟩
   .have e:(λy=>if y<i+1 then hB (ops.getD y none) else -1)=λy=>if y<i then hB (ops.getD y none) else -1:=by
     funext y;by_cases c:y<i
     .rw[aDr c,eY]
     .rw[aDq c];by_cases cr:y=i
      .rw[eY,cr,a1];rfl
      .rw[cS]
    rw[e];exact Cu.move λq aj=>by rw[pS] at aj;cases aj;exact rm
   .have e:(λy:Nat=>if (ops.take (i+1)).contains (some y)=true then (-1:Int) else (y:Int))=λy=>if (ops.take i).contains (some y)=true then -1 else (y:Int):=by
     funext y;rw[bG];simp
    rw[e];exact Cv.move λq aj=>by cases aj;exact vV
   .rw[bc,aDr rfl,aD4];exact jv
   .rcases uI dE eG with ⟨q,aj,e⟩|aK
    .rw[e];exact tj q aj
    .refine⟨λe=>?_,λe=>?_,λe=>?_,λe=>?_⟩
     .exact(Cu.bp pS).2 (e▸aK)
     .exact(Cv.bp (q:=⟨bM,0⟩) rfl).2 (e▸aK)
     .rw[e,pt] at aK;cases aK
     .exact(JR.bp rr).2 (e▸aK)
  | some p =>
   rw[a1] at bG bc;have sq:i<ops.length:=by rw[zY,qz];exact ir
   have aP:p<L.length:=by
    have:=(i1 p (by
     have:ops[i]=some p:=by simpa [List.getD,sq] using a1
     rw[<-this];exact aDR sq)).2;omega
   refine b3 (aDz (by simp only[hB];omega)) ?_;refine gX.set Cu (i:=i) ir rfl (p:Int) λg4 hP dq=>?_;have vV:g4 bM=g3 bM:=dq bM λq aj=>by rw[pS] at aj;cases aj;exact FJ
   refine gX.set (Cv.move (af:=g4) λq aj=>by cases aj;exact vV) (i:=p) aP rfl (-1) λg5 jZ cz=>?_;have z1:∀y,y≠uF.b->y≠bM->g5 y=g3 y:=λy aa ad=>(cz y λq aj=>by cases aj;exact ad).trans (dq y λq aj=>by rw[pS] at aj;cases aj;exact aa);have Cw:∀y,h y≠none->g5 y=h y:=λy aC=>by
    rw[z1 y (λe=>aC (e▸Xa)) (λe=>aC (e▸f40)),aG y aC]
   refine⟨L.length-(i+1),by omega,rfl,rfl,rfl,rfl,rfl,rfl,i+1,bt,by omega,rfl,Cw,(z1 ax W_.symm n42.symm).trans pt,?_,?_,?_,tj,JR.move λq aj=>by rw[rr] at aj;cases aj;exact z1 _ akI akJ,r.bA l3 Cw⟩
   .have e:(λy=>if y<i+1 then hB (ops.getD y none) else -1)=λy=>if y=i then (p:Int) else if y<i then hB (ops.getD y none) else -1:=by
     funext y;by_cases cr:y=i
     .rw[eY,aDr cr,cr,a1];rfl
     .rw[aDq cr];by_cases c:y<i
      .rw[aDr c,eY]
      .rw[aDq c,cS]
    rw[e];exact hP.move λq aj=>cz _ λdE eG=>by cases eG;rw[pS] at aj;cases aj;exact FJ.symm
   .have e:(λy:Nat=>if (ops.take (i+1)).contains (some y)=true then (-1:Int) else (y:Int))=λy=>if y=p then -1 else if (ops.take i).contains (some y)=true then -1 else (y:Int):=by
     funext y;rw[bG];by_cases c:y=p
     .simp[c]
     .simp[c]
    rw[e];exact jZ
   .rw[bc,aDq (by simp),aD5];exact FL.move λq aj=>z1 _ (tj q aj).1 (tj q aj).2.1
 rintro gJ iB mD g3 ⟨rfl,rfl,OP,Cu,Cv,FL,Xe⟩;refine(ako Cv (by omega)).mono ?_;rintro _ g4 ⟨ot,rfl,Xf,akN,dq,_⟩;have akO:((List.range L.length).map left).filter (λx=>decide (0<=x))=(qA L.length ops).map λp:Nat=>(p:Int):=by
  rw[List.filter_map];have aH:(List.range L.length).filter ((λx:Int=>decide (0<=x)) ∘ left)=qA L.length ops:=by
   unfold qA;apply List.filter_congr;intro y _;show decide (0<=left y)= !ops.contains (some y);by_cases c:ops.contains (some y)=true
   .have aT:left y= -1:=aDr c;rw[aT,c];rfl
   .have aT:left y=(y:Int):=aDq c;rw[aT,Bool.eq_false_iff.2 c];exact pa
  rw[aH];apply aDU;intro y aC;have:ops.contains (some y)=false:=by
   have:=(aFd.1 aC).2;simpa using this
  simp only[left,this];rfl
 rw[akO] at Xf;have Xg:=Cu.move (af:=g4) λq aj=>dq _ λdE eG=>by cases eG;rw[pS] at aj;cases aj;exact FJ.symm
 have akP:=FL.move (af:=g4) λq aj=>dq _ λdE eG=>by cases eG;exact(Xe q aj).2
 have FN:bL h g4:=λy aC=>by
  rw[dq y λq aj e=>aC (by cases aj;rw[e];exact f40)];exact OP y aC
 generalize jL:qA L.length ops=hb at *;have xV:ops.length=L.length:=by rw[zY,qz]
 refine⟨_,rfl,λl7 ou qC oU et cU g5 bW=>l7=gJ/\qC=mD/\oU=gJ/\et=(L.length:Nat)/\∃i:Nat,cU=i/\i<=L.length/\bW=L.length-i/\bL h g5/\gX h g5 gJ L.length (λy=>if y<i then ((i_ ops hb).getD y 0:Nat) else hB (ops.getD y none))/\c4 eo h g5 mD OL /\
  e4 eo g5 ou ((hb.map λp:Nat=>(p:Int)).drop (je (ops.take i)))/\∀q,ou.q=some q->q.b=bM,
  ⟨L.length,rfl,rfl,rfl,by rw[Xg.len];simp,0,rfl,by omega,rfl,FN,by simpa using Xg,akP,by simpa [je] using Xf,λq aj=>by obtain⟨p,aP,e⟩:=akN q aj;cases aP;exact e⟩,?_⟩
 rintro l7 ou qC oU et cU g5 bW ⟨rfl,rfl,rfl,rfl,i,rfl,hi,rfl,z2,JS,OQ,Cx,OR⟩;refine cj (λcl=>?_) λdH=>?_
 .have ir:i<L.length:=by omega
  have sQ:=JJ ops hb i (by rw[xV];exact ir);have pT:=W3 ops (i:=i) (by rw[xV];exact ir);refine JS.get ir rfl λq _=>?_;rw[aDq (Nat.lt_irrefl i)];cases a1:ops.getD i none with
  | none =>
   rw[a1] at sQ pT;rw[aDr rfl] at pT;have hle:=W4 ops (i+1);have mE:je (ops.take i)<hb.length:=by omega
   refine dF rfl ?_;have akQ:((hb.map λp:Nat=>(p:Int)).drop (je (ops.take i)))[0]'(by simp;omega)=((hb.getD (je (ops.take i)) 0:Nat):Int):=by
    simp[List.getD,mE]
   obtain⟨q1,nc,xF⟩:=Cx.at (i:=0) (by simp;omega);rw[akQ] at xF;have akR:=Cx.len;have aB4:=Cx.cap;simp only[aDY,aDF] at akR;refine⟨q1,nc,Int.NonNeg.mk 0,by omega,_,xF,Int.NonNeg.mk 1,by omega,?_⟩;refine JS.set (i:=i) ir rfl _ λg6 FO ek=>?_;have z6:∀q,ou.q=some q->g6 q.b=g5 q.b:=λq aj=>ek _ λdE eG=>by rw[pS] at eG;cases eG;rw[OR q aj];exact FJ
   refine⟨L.length-(i+1),by omega,rfl,rfl,rfl,rfl,i+1,bt,by omega,rfl,λy aC=>?_,?_,OQ.move λq aj=>ek _ λdE eG=>by rw[pS] at eG;cases eG;exact(Xe q aj).1,?_,λq aj=>?_⟩
   .rw[ek y λq aj e=>aC (by rw[pS] at aj;cases aj;rw[e];exact Xa)];exact z2 y aC
   .have e:(λy=>if y<i+1 then (((i_ ops hb).getD y 0:Nat):Int) else hB (ops.getD y none))=λy=>if y=i then ((hb.getD (je (ops.take i)) 0:Nat):Int) else if y<i then (((i_ ops hb).getD y 0:Nat):Int) else hB (ops.getD y none):=by
     funext y;by_cases cr:y=i
     .rw[eY,aDr cr,cr,sQ]
     .rw[aDq cr];by_cases c:y<i
      .rw[aDr c,eY]
      .rw[aDq c,cS]
    rw[e];exact FO
   .have:=(Cx.move (af:=g6) λq aj _=>z6 q aj).drop (n:=1) (by simp;omega);rw[aFx] at this;rw[pT];exact this
   .obtain⟨dE,eG,e⟩:=JT Cx.nil (n:=1) (by omega) aj;rw[e];exact OR dE eG
  | some p =>
   rw[a1] at sQ pT;rw[aDq (by simp),aEe] at pT;refine b3 (aDz (by simp only[hB];omega)) ?_;refine⟨L.length-(i+1),by omega,rfl,rfl,rfl,rfl,i+1,bt,by omega,rfl,z2,?_,OQ,by rw[pT];exact Cx,OR⟩;have e:(λy=>if y<i+1 then (((i_ ops hb).getD y 0:Nat):Int) else hB (ops.getD y none))=λy=>if y<i then (((i_ ops hb).getD y 0:Nat):Int) else hB (ops.getD y none):=by
    funext y;by_cases c:y<i
    .rw[aDr c,eY]
    .rw[aDq c];by_cases cr:y=i
     .rw[eY,cr,sQ,a1];rfl
     .rw[cS]
   rw[e];exact JS
 .have ir:i=L.length:=by omega
  subst ir;refine⟨_,_,rfl,?_,OQ,z2⟩;have e:(List.range L.length).map (λy=>if y<L.length then (((i_ ops hb).getD y 0:Nat):Int) else hB (ops.getD y none))=(i_ ops hb).map λp:Nat=>(p:Int):=by
   apply aEG
   .simp[FP,xV]
   .intro j av aN
    have aU:j<L.length:=by simpa using av
    have uC:j<(i_ ops hb).length:=by simpa using aN
    simp[aU,List.getD,uC]
  have:=JS.Co;rw[e] at this;exact this

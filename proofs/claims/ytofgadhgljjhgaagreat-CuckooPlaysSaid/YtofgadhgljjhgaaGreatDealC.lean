import Derived.Test.YtofgadhgljjhgaaGreatSrtInt
namespace Go.cD
open Go Go.RowKit
theorem UZ {f:Int->Value}{h0 h:ak}{s:ar}{l:List Int}:cW f h0 h s l↔cF 1 (λx=>[f x]) h0 h s l:=by
 have e:∀l:List Int,l.flatMap (λx=>[f x])=l.map f:=λl=>by induction l<;>simp_all
 constructor
 .intro o
  refine⟨o.len,o.cap,?_⟩
  rcases o.own with h|⟨q,c,t,aa,ad,an,aK,aR⟩
  .exact .inl h
  .refine .inr ⟨q,c,t,aa,ad,an,by omega,λi hi=>?_⟩
   have b5:i<l.length:=by rw[e] at hi;simpa using hi
   rw[aR i b5];simp[e]
 .intro o
  refine⟨o.len,o.cap,?_⟩
  rcases o.own with h|⟨q,c,t,aa,ad,an,aK,aR⟩
  .exact .inl h
  .refine .inr ⟨q,c,t,aa,ad,an,by omega,λi hi=>?_⟩
   have:=aR i (by rw[e];simpa using hi)
   simpa [e] using this
end Go.cD
namespace Go.Proofs.Tryz
open Go Go.cD Go.RowKit
set_option maxRecDepth 8000
abbrev gC (ga g:ak)(s:ar)(n:Nat)(d:Nat->Int):Prop:=cF 1 u4 ga g s ((List.range n).map d)
theorem gC.Bp {ga g:ak}{s:ar}{n:Nat}{d:Nat->Int}(A:gC ga g s n d):cW eR ga g s ((List.range n).map d):=UZ.2 A
theorem gC.zero {h0 h:ak}{b n:Nat}{t:TypeId}{m:Nat}(au:h0 b=none)(e:h b=some (.cells (kT (if m=0 then #[] else Value.cells (U 0)) m) t (0,0)))(hm:m=n):gC h0 h ⟨some ⟨b,0⟩,n,n,none⟩ n λ_=>0:=by
 subst hm
 refine⟨by simp,Nat.le_refl _,.inr ⟨_,_,_,rfl,au,e,?_,λi hi=>?_⟩⟩
 .rw[show Value.cells (U 0)=#[U 0] from rfl,Ii _ _ rfl];simp
 .have pD:(((List.range m).map λ_=>(0:Int)).flatMap u4).length=m:=by rw[nu u5];simp
  have b5:i<m:=by rw[pD] at hi;exact hi
  rw[show Value.cells (U 0)=#[U 0] from rfl,Ii _ _ rfl,Nat.zero_add]
  have a8:((List.range m).map λ_=>(0:Int)).flatMap u4=List.replicate m (U 0):=by
   have:∀l:List Nat,(l.map λ_=>(0:Int)).flatMap u4=List.replicate l.length (U 0):=λl=>by
    induction l with
    | nil=>rfl
    | cons a l dK=>rw[List.map_cons,List.flatMap_cons,dK];rfl
   rw[this,List.length_range]
  simp[a8,b5]
theorem gC.get {ga g:ak}{s:ar}{n:Nat}{d:Nat->Int}(A:gC ga g s n d){i:Nat}(hi:i<n){I:Int}(kP:I=i){K:aD->Int->Prop}(ag:∀q,s.q=some q->K q (d i)) :
 ∃q,s.q=some q/\0<=I/\I+1<=(s.len:Int)/\∃aw:Int,br g q.b (q.o+Int.toNat I*1)=some (U aw)/\K q aw:=by
 subst kP
 refine A.rd.cp u5 (i:=i) (by simpa using hi) λq aj r=>?_
 rw[ri hi] at r
 exact⟨_,r.1,ag q aj⟩
theorem gC.set {ga g:ak}{s:ar}{n:Nat}{d:Nat->Int}(A:gC ga g s n d){i:Nat}(hi:i<n){I:Int}(kP:I=i)(e:Int){K:ak->Prop}
 (ag:∀bo,gC ga bo s n (λx=>if x=i then e else d x)->(∀b,(∀q,s.q=some q->b≠q.b)->bo b=g b)->K bo) :
 ∃q,s.q=some q/\0<=I/\I+1<=(s.len:Int)/\aX g ⟨q.b,q.o+Int.toNat I*1⟩ [U e] K:=by
 subst kP
 have aT:=A.len
 simp only[List.length_map,List.length_range] at aT
 obtain⟨q,aj⟩:=A.rd.ptr (by simp;omega)
 exact⟨q,aj,by omega,by omega,uD u5 A aj hi e λbo gF iE=>ag bo gF λb au=>iE b (au q aj)⟩
theorem U0 (a:Int):eW prog 202 [U a] (.bool false):=λh=>by
 refine ahN _ ?_
 exact⟨by simp,bL.refl h⟩
theorem U1 (a:UInt64):eW prog 175 [ab a] (.bool false):=λh=>by
 refine ahO _ ?_
 exact⟨by simp,bL.refl h⟩
theorem ahP (a b:Int):eW prog 199 [U a,U b] (U (if a<b then -1 else if b<a then 1 else 0)):=λh=>by
 refine ahQ _ _ ?_
 unfold U2
 refine(U0 a).to λaa aE=>⟨_,rfl,(U0 b).to λad aC=>⟨_,rfl,bS rfl (bS rfl ?_)⟩⟩
 refine cd (λc=>⟨by rw[if_pos c],aE.trans aC⟩) λc=>cd (λaY=>⟨by rw[if_neg c,if_pos aY],aE.trans aC⟩) λaY=>⟨by rw[if_neg c,if_neg aY],aE.trans aC⟩
theorem U3 (a b:UInt64):eW prog 157 [ab a,ab b] (U (if a<b then -1 else if b<a then 1 else 0)):=λh=>by
 refine ahR _ _ ?_
 unfold U4
 refine(U1 a).to λaa aE=>⟨_,rfl,(U1 b).to λad aC=>⟨_,rfl,bS rfl (bS rfl ?_)⟩⟩
 refine cd (λc=>⟨by rw[if_pos c],aE.trans aC⟩) λc=>cd (λaY=>⟨by rw[if_neg c,if_pos aY],aE.trans aC⟩) λaY=>⟨by rw[if_neg c,if_neg aY],aE.trans aC⟩
def oM (e:UInt64×Int):List Value:=[ab e.1,U e.2]
theorem lB (e:UInt64×Int):(oM e).length=2:=rfl
theorem U5 (e:UInt64×Int):∀v∈oM e,v.oneCell'=true:=by simp[oM,ab,Value.oneCell']
def jr (e:UInt64×Int):Nat:=if e.2<0 then 1001*18446744073709551616 else (1000-e.2.toNat)*18446744073709551616+e.1.toNat
theorem ahS {a b:UInt64×Int}(bO:a.2<=1000)(au:b.2<=1000)(aH:¬(a.2<0/\b.2<0))(df:a.2≠b.2):b.2<a.2↔jr a<jr b:=by
 have oG:=a.1.toNat_lt;have ba:=b.1.toNat_lt
 obtain⟨x,ahT⟩:=a
 obtain⟨y,U6⟩:=b
 simp only at *
 unfold jr
 simp only
 generalize x.toNat=sx at *
 generalize y.toNat=ay_ at *
 by_cases aQ:ahT<0
 .rw[if_pos aQ,if_neg (show ¬U6<0 by omega)];omega
 .rw[if_neg aQ]
  by_cases aY:U6<0
  .rw[if_pos aY];omega
  .rw[if_neg aY];omega
theorem ahU (a b:UInt64×Int)(bO:a.2<=1000)(au:b.2<=1000)(h:ak):ao 192 [.agg #[ab a.1,U a.2],.agg #[ab b.1,U b.2]] h λr ah=>∃m,r=U m/\(m<0↔jr a<jr b)/\bL h ah:=by
 refine ahV _ _ _ _ ?_
 unfold U7
 refine bM λae aa f1 aF aE=>bM λay ad f2 a8 aC=>?_
 have aF:=aC.get aF
 have rest:¬(a.2<0/\b.2<0)->∃aL,br ad ae 1=some (U aL)/\∃aO,br ad ay 1=some (U aO)/\aG (!decide (aL=aO)) (∃bm,br ad ay 1=some (U bm)/\∃bx,br ad ae 1=some (U bx)/\ao 199 [U bm,U bx] ad λv1 an=>∃bu,v1=U bu/\∃m,(U bu:Value)=U m/\(m<0↔jr a<jr b)/\bL h an)
  (∃bq,br ad ae 0=some (ab bq)/\∃bz,br ad ay 0=some (ab bz)/\ao 157 [ab bq,ab bz] ad λv2 aK=>∃bt,v2=U bt/\∃m,(U bt:Value)=U m/\(m<0↔jr a<jr b)/\bL h aK):=by
  intro aH
  refine⟨_,az aF rfl,_,az a8 rfl,u6 (λdf=>?_) λheq=>?_⟩
  .refine⟨_,az a8 rfl,_,az aF rfl,?_⟩
   refine(ahP _ _).to λan aI=>⟨_,rfl,_,rfl,?_,(aE.trans aC).trans aI⟩
   have key:=ahS bO au aH df
   rw[<-key]
   by_cases c:b.2<a.2
   .rw[if_pos c];simp[c]
   .rw[if_neg c]
    by_cases aY:a.2<b.2
    .rw[if_pos aY];simp[c]
    .rw[if_neg aY];simp[c]
  .refine⟨_,az aF rfl,_,az a8 rfl,?_⟩
   refine(U3 _ _).to λan aI=>⟨_,rfl,_,rfl,?_,(aE.trans aC).trans aI⟩
   have aQ:¬a.2<0:=λc=>aH ⟨c,by omega⟩
   have key:(a.1<b.1)↔jr a<jr b:=by
    unfold jr
    rw[if_neg aQ,if_neg (by omega),heq,UInt64.lt_iff_toNat_lt];omega
   rw[<-key]
   by_cases c:a.1<b.1
   .rw[if_pos c];simp[c]
   .rw[if_neg c]
    by_cases aY:b.1<a.1
    .rw[if_pos aY];simp[c]
    .rw[if_neg aY];simp[c]
 refine⟨_,az aF rfl,cd (λrG=>⟨_,az a8 rfl,h4 (λMW=>?_) λMW=>?_⟩) λrG=>rest λh=>rG h.1⟩
 .have MX:b.2<0:=by simpa using MW
  refine⟨0,rfl,?_,aE.trans aC⟩
  unfold jr
  rw[if_pos rG,if_pos MX];simp
 .have MX:¬b.2<0:=by simpa using MW
  exact rest λh=>MX h.2
theorem ahW {n:Nat}(aH:n<4294967296)(h:ak):ao 191 [ab 1,ab (UInt64.ofNat n)] h λv ah=>v= .tuple #[ab 0,ab (UInt64.ofNat n)]/\ah=h:=by
 refine ahX _ _ ?_
 unfold U8
 refine ahY _ _ ?_
 have ai:UInt64.ofNat n &&& 4294967295=UInt64.ofNat n:=by
  apply UInt64.toNat_inj.1
  rw[UInt64.toNat_and,UInt64.toNat_ofNat',show(4294967295:UInt64).toNat=2 ^ 32-1 from rfl,Nat.and_two_pow_sub_one_eq_mod];omega
 have aU:dD (UInt64.ofNat n) (UInt64.toNat 32)=0:=by
  apply UInt64.toNat_inj.1
  unfold dD
  rw[show UInt64.toNat 32=32 from rfl]
  have cy:min 32 64=32:=rfl
  simp only[UInt64.toNat_shiftRight,UInt64.toNat_ofNat',cy]
  have:(0:UInt64).toNat=0:=rfl
  omega
 have aa:dD 1 (UInt64.toNat 32)=0:=by decide
 have ad:(1:UInt64) &&& 4294967295=1:=by decide
 have h0:dD 0 (UInt64.toNat 32)=0:=by decide
 refine⟨_,_,rfl,?_,rfl⟩
 simp only[ai,aU,aa,ad,h0,UInt64.zero_mul,UInt64.one_mul,UInt64.add_zero,UInt64.zero_add,UInt64.zero_and]
theorem MY {ga g:ak}{s:ar}{n:Nat}{d:Nat->Int}(A:gC ga g s n d){q:aD}(aj:s.q=some q){i c:Nat}(hi:i+c<=n)(e:Int){l:List Value}(aT:l=List.replicate c (U e)){K:ak->Prop}
 (ag:∀bo,gC ga bo s n (λx=>if i<=x/\x<i+c then e else d x)->(∀b,b≠q.b->bo b=g b)->K bo):aX g ⟨q.b,q.o+i⟩ l K:=by
 subst aT
 have hlen:=A.len
 simp only[List.length_map,List.length_range] at hlen
 have uE:=A.cap
 rcases A.own with ⟨aH,_⟩|⟨dL,rG,t,aa,ad,an,aK,aR⟩
 .rw[aj] at aH;cases aH
 .rw[aj] at aa;cases aa
  refine⟨rG,t,an,by simp;omega,ag _ ⟨by simp[hlen],uE,.inr ⟨q,_,t,aj,ad,eH _ _ _,by rw[AL];exact aK,λj aV=>?_⟩⟩ λb au=>cQ _ _ au⟩
  have pD:∀d:Nat->Int,((List.range n).map d).flatMap u4=(List.range n).map λx=> U (d x):=λd=>by
   rw[List.flatMap_map]
   exact ahZ _ _
  have j6:j<n:=by rw[pD] at aV;simpa using aV
  rw[wC,List.length_replicate]
  have aF:=aR j (by rw[pD];simpa using j6)
  have n2:q.o+j<rG.size:=by omega
  by_cases aQ:i<=j/\j<i+c
  .have aZ:q.o+i<=q.o+j/\q.o+j<q.o+i+c/\q.o+j<rG.size:=⟨by omega,by omega,n2⟩
   rw[if_pos aZ]
   simp[pD,aQ,List.getElem?_replicate];omega
  .have aZ:¬(q.o+i<=q.o+j/\q.o+j<q.o+i+c/\q.o+j<rG.size):=λh=>aQ ⟨by omega,by omega⟩
   rw[if_neg aZ,aF]
   simp[pD,aQ]
where
 ahZ (l:List Nat) (f:Nat->Value):l.flatMap (λx=>[f x])=l.map f:=by induction l<;>simp_all
end Go.Proofs.Tryz
namespace Go.Proofs.Tryz
open Go Go.cD Go.RowKit
set_option maxRecDepth 8000
theorem U9 {x y:ar}{h:ak}{l:List Int}(jq:fi eR h y l){q:aD}(ai:x.q=some q){K:Nat->ak->Prop}(ag:aX h q ((l.take (Nat.min l.length x.len)).map eR) λah=>K (Nat.min l.length x.len) ah):l4 prog 64 x (.s y) h K:=by
 unfold l4
 rw[yT.Es]
 simp only[yT.dA,sy,n3,jq.len,ai]
 have hm:Nat.min l.length x.len<=l.length:=Nat.min_le_left _ _
 refine⟨(l.take (Nat.min l.length x.len)).map eR,by simp,by simp only[List.mem_map];rintro v ⟨a,_,rfl⟩;rfl,?_,ag⟩
 cases e:y.q with
 | none=>have aa:=jq.nil e;have ad:=jq.cap;have an:=jq.len;have:l=[]:=List.length_eq_zero_iff.1 (by omega);simp[this]
 | some p =>
  simp only
  rw[Ij]
  intro i hi
  have b5:i<l.length:=by simp at hi;omega
  rw[jq.rd p e i b5];simp
theorem U_ {s:ar}{q:aD}(aj:s.q=some q){i a c:Nat}(hi:i<s.cap):ar.q ⟨gA s.p i s.cap 1,a,c,iL s.z i s.cap 1⟩=some ⟨q.b,q.o+i⟩:=by
 have aS:=ar.Et aj
 have bc:s.z=none:=by
  obtain⟨p,k,c,z⟩:=s
  cases z with
  | some z=>cases aj
  | none=>rfl
 simp only[ar.q,iL,bc,ite_self,gA,aS,Option.map_some,Nat.mul_one]
 rw[if_neg (by omega)]
theorem ah0 {n:Nat}(aa:1<=n)(aH:n<=1000000){h:ak}{x:ar}(rx:fi eR h x [-1]):ao 176 [bb x,U n] h λv ah=>∃s,v=bb s/\gC h ah s n (λ_=>-1)/\bL h ah:=by
 refine ah1 _ _ ?_
 unfold Va
 refine⟨λs1 aw g=>s1=x/\aw=(n:Nat)/\g=h,bS (by simp) ⟨rfl,rfl,rfl⟩,?_⟩
 rintro s1 aw g ⟨rfl,rfl,rfl⟩
 have aF:cI (s1.len:Int)=1:=by rw[rx.len];exact jk (i:=1) (by decide)
 rw[aF,jk (by omega)]
 refine(ahW (by omega) g).mono ?_
 rintro _ h ⟨rfl,rfl⟩
 have ej:al (((UInt64.ofNat n).toNat:Nat):Int)=(n:Int):=by rw[UInt64.toNat_ofNat',Nat.mod_eq_of_lt (by omega)];exact bf (by omega) (by omega)
 have ca:¬(9223372036854775807:UInt64)<UInt64.ofNat n:=by
  rw[UInt64.lt_iff_toNat_lt,UInt64.toNat_ofNat']
  have:(9223372036854775807:UInt64).toNat=9223372036854775807:=rfl
  omega
 refine⟨_,_,rfl,bS (by decide) (bS (by simpa using ca) ?_)⟩
 rw[ej]
 refine⟨by omega,by omega,by omega,by omega,bM λae ad f1 aF aE=>?_⟩
 have nC:Int.toNat (n:Int)=n:=by omega
 rw[nC] at aF ⊢
 have Eu:gC h ad ⟨some ⟨ae,0⟩,n,n,none⟩ n λ_=>0:=gC.zero f1 aF (by omega)
 have hm:Nat.min ([(-1:Int)]).length n=1:=Nat.min_eq_left aa
 refine U9 (rx.bD aE) (x:=⟨some ⟨ae,0⟩,n,n,none⟩) (q:=⟨ae,0⟩) rfl ?_
 show aX ad ⟨ae,0⟩ (([(-1:Int)].take (Nat.min ([(-1:Int)]).length n)).map eR) λah=>_
 rw[hm]
 refine MY Eu (q:=⟨ae,0⟩) rfl (i:=0) (c:=1) (by omega) (-1) rfl λbo gF iE=>?_
 refine⟨λs2 aA g2 aC=>s2=⟨some ⟨ae,0⟩,n,n,none⟩/\∃i:Nat,aA=i/\1<=i/\i<=n/\aC=n-i/\gC h g2 ⟨some ⟨ae,0⟩,n,n,none⟩ n (λx=>if x<i then -1 else 0)/\(∀b,b≠ae->g2 b=ad b),
  ⟨n-1,rfl,1,rfl,Nat.le_refl _,aa,rfl,by
   have e:(λx:Nat=>if 0<=x/\x<0+1 then (-1:Int) else 0)=λx=>if x<1 then -1 else 0:=by funext x;simp
   rw[e] at gF;exact gF,iE⟩,?_⟩
 rintro s2 aA g2 aC ⟨rfl,i,rfl,wZ,j3,rfl,ec,cb⟩
 refine cd (λca=>?_) λdx=>?_
 .have hi:i<n:=by simp only at ca;omega
  refine⟨by omega,by simp only;omega,by omega,by simp only;omega,?_⟩
  have fF:=(fi.Vb ec.Bp.rd (n:=i) (by simp;omega))
  have mv:Int.toNat (i:Int)=i:=by omega
  rw[mv]
  refine U9 fF (U_ (s:=⟨some ⟨ae,0⟩,n,n,none⟩) rfl (i:=i) hi) ?_
  have tu:Nat.min (((List.range n).map λx=>if x<i then (-1:Int) else 0).take i).length (n-i)=min i (n-i):=by
   simp only[List.length_take,List.length_map,List.length_range,Nat.min_eq_left (Nat.le_of_lt hi)]
  show aX g2 ⟨ae,0+i⟩ (((((List.range n).map λx=>if x<i then (-1:Int) else 0).take i).take (Nat.min (((List.range n).map λx=>if x<i then (-1:Int) else 0).take i).length (n-i))).map eR) λah=>_
  rw[tu]
  refine MY ec (q:=⟨ae,0⟩) rfl (i:=i) (c:=min i (n-i)) (by omega) (-1) ?_ λg3 j_ c7=>?_
  .apply List.ext_getElem
   .simp;omega
   .intro j aq aM
    simp at aM
    simp[eR];omega
  .refine⟨n-(i+min i (n-i)),by omega,rfl,i+min i (n-i),?_,by omega,by omega,rfl,?_,λb au=>by rw[c7 b au,cb b au]⟩
   .rw[bf (by omega) (by omega)];omega
   .have e:(λx:Nat=>if i<=x/\x<i+min i (n-i) then (-1:Int) else if x<i then -1 else 0)=λx=>if x<i+min i (n-i) then -1 else 0:=by
     funext x;repeat' split
     all_goals first|rfl|omega
    rw[e] at j_;exact j_
 .have hi:i=n:=by simp only at dx;omega
  subst hi
  refine⟨_,rfl,?_,λb au=>?_⟩
  .have e:(List.range i).map (λx=>if x<i then (-1:Int) else 0)=(List.range i).map λ_=>-1:=List.map_congr_left λx ai=>if_pos (List.mem_range.1 ai)
   have MZ:cF 1 u4 h g2 ⟨some ⟨ae,0⟩,i,i,none⟩ ((List.range i).map λ_=>(-1:Int)):=by rw[<-e];exact ec
   exact MZ
  .have pJ:b≠ae:=λe=>au (e▸f1)
   rw[cb b pJ,aE b au]
theorem ah2 {h:ak}{s:ar}{l:List Int}(r:fi eR h s l)(aT:l.length<=1000000) :
 ao 109 [bb s,.func (.func 180) #[] #[]] h λv ah=>ah=h/\((v=U (-1)/\∀x∈l,¬x<0)∨∃i:Nat,i<l.length/\v=U i/\(∀x∈l.take i,¬x<0)/\l.getD i 0<0):=by
 refine Vc s _ ?_
 unfold M0
 refine⟨λs1 v n i aa k=>s1=s/\v= .func (.func 180) #[] #[]/\n=s.len/\aa=h/\∃j:Nat,i=j/\j<=s.len/\k=s.len-j/\∀x∈l.take j,¬x<0,⟨_,rfl,rfl,rfl,rfl,0,rfl,by omega,rfl,λx ai=>by simp at ai⟩,?_⟩
 rintro s1 v n i aa k ⟨rfl,rfl,rfl,rfl,j,rfl,u7,rfl,n4⟩
 have:=r.len
 refine cd (λca=>?_) λdx=>⟨rfl,.inl ⟨rfl,λx ai=>n4 x (by rw[List.take_of_length_le (by omega)];exact ai)⟩⟩
 have aV:j<l.length:=by omega
 have ah3:l.getD j 0=l[j]:=by simp[List.getD,aV]
 refine r.cp aV λq _ aZ=>⟨_,aZ,?_⟩
 refine⟨rfl,?_⟩
 refine Vd _ ?_
 refine⟨_,rfl,h4 (λkH=>⟨rfl,.inr ⟨j,aV,rfl,n4,by rw[ah3];simpa using kH⟩⟩) λkH=>⟨s1.len-(j+1),by omega,rfl,rfl,rfl,rfl,j+1,bf (by omega) (by omega),by omega,rfl,λx ai=>?_⟩⟩
 rw[List.take_add_one,List.getElem?_eq_getElem aV] at ai
 rcases List.mem_append.1 ai with h|h
 .exact n4 x h
 .simp at h;rw[h];simpa using kH
theorem filter_all {l:List Int}(h:∀x∈l,¬x<0):l.filter (λx=>decide (0<=x))=l:=List.filter_eq_self.2 λx ai=>by have:=h x ai;simp;omega
theorem ah4 {ga h:ak}{s:ar}{n:Nat}{d:Nat->Int}(A:gC ga h s n d)(aH:n<=1000000) :
 ao 179 [bb s,.func (.func 180) #[] #[]] h λv ah=>∃cX,v=bb cX/\fi eR ah cX (((List.range n).map d).filter λx=>decide (0<=x))/\(∀q,cX.q=some q->∃p,s.q=some p/\q.b=p.b)/\(∀b,(∀q,s.q=some q->b≠q.b)->ah b=h b)/\(∀q,s.q=some q->ah q.b≠none):=by
 have hlen:=A.len
 simp only[List.length_map,List.length_range] at hlen
 have uE:=A.cap
 refine ah5 _ _ ?_
 unfold Ve
 refine(ah2 A.Bp.rd (by simpa using aH)).mono ?_
 rintro v h ⟨rfl,bQ⟩
 rcases bQ with ⟨rfl,n5⟩|⟨i0,n6,rfl,n4,kH⟩
 .refine⟨_,rfl,dg rfl ⟨s,rfl,by rw[filter_all n5];exact A.Bp.rd,λq aj=>⟨q,aj,rfl⟩,λ_ _=>rfl,λq aj=>(A.bl aj).2⟩⟩
 simp only[List.length_map,List.length_range] at n6
 have kH:d i0<0:=by simpa [List.getD,n6] using kH
 refine⟨_,rfl,bS (by simp) ?_⟩
 have ah6:∀j,j<i0->¬d j<0:=λj aV=>n4 (d j) (by
  rw[<-List.map_take]
  exact List.mem_map_of_mem (by rw[List.take_range];exact List.mem_range.2 (by omega)))
 let l5:Nat->List Int:=λj=>((List.range j).map d).filter λx=>decide (0<=x)
 have cs:∀j,l5 (j+1)=l5 j++if 0<=d j then [d j] else []:=λj=>by
  show((List.range (j+1)).map d).filter _=_
  rw[List.range_succ,List.map_append,List.filter_append]
  by_cases c:0<=d j
  .rw[if_pos c];simp[c];rfl
  .rw[if_neg c];simp[c];rfl
 have gG:l5 i0=(List.range i0).map d:=filter_all λx ai=>by
  obtain⟨j,aV,rfl⟩:=List.mem_map.1 ai
  exact ah6 j (List.mem_range.1 aV)
 have ah7:∀j,(l5 j).length<=j:=λj=>by
  have:=List.length_filter_le (λx:Int=>decide (0<=x)) ((List.range j).map d)
  simpa using this
 refine⟨λs1 v2 aA aL g bP=>s1=s/\v2= .func (.func 180) #[] #[]/\∃(j:Nat) (e:Nat->Int),aL=j/\aA=((l5 j).length:Nat)/\i0<j/\j<=n/\bP=n-j/\(l5 j).length<j/\gC ga g s n e/\(∀b,(∀q,s.q=some q->b≠q.b)->g b=h b)/\(∀x,x<(l5 j).length->e x=(l5 j).getD x 0)/\∀x,j<=x->e x=d x,
  ⟨n-(i0+1),rfl,rfl,i0+1,d,bf (by omega) (by omega),?_,by omega,by omega,rfl,?_,A,λ_ _=>rfl,λx ai=>?_,λ_ _=>rfl⟩,?_⟩
 .rw[cs,if_neg (by omega),List.append_nil,gG];simp
 .rw[cs,if_neg (by omega),List.append_nil,gG];simp
 .rw[cs,if_neg (by omega),List.append_nil,gG] at ai ⊢
  simp at ai;simp[List.getD,ai]
 rintro s1 v2 aA aL g bP ⟨rfl,rfl,j,e,rfl,rfl,Ev,tv,rfl,pS,e0,hK,lo,hi⟩
 refine cd (λca=>?_) λdx=>?_
 .have aV:j<n:=by omega
  refine e0.get aV rfl λq aj=>?_
  rw[hi j (Nat.le_refl _)]
  refine⟨rfl,?_⟩
  refine Vd _ ?_
  refine⟨_,rfl,h4 (λnC=>?_) λnC=>?_⟩
  .have h0:0<=d j:=by simpa using nC
   have aF:=cs j
   rw[if_pos h0] at aF
   have a8:(l5 (j+1)).length=(l5 j).length+1:=by rw[aF];simp
   refine e0.set (i:=(l5 j).length) (by omega) rfl (d j) λg2 ec cb=>?_
   refine⟨n-(j+1),by omega,rfl,rfl,j+1,_,bf (by omega) (by omega),?_,by omega,by omega,rfl,by omega,ec,λb au=>(cb b au).trans (hK b au),λx ai=>?_,λx ai=>?_⟩
   .rw[a8,bf (by omega) (by omega)];omega
   .rw[aF]
    by_cases c:x=(l5 j).length
    .rw[if_pos c,c];simp[List.getD]
    .rw[if_neg c,lo x (by omega)]
     simp only[List.getD];rw[List.getElem?_append_left (by omega)]
   .rw[if_neg (by omega)];exact hi x (by omega)
  .have h0:¬0<=d j:=by simp at nC;omega
   have aF:=cs j
   rw[if_neg h0,List.append_nil] at aF
   refine⟨n-(j+1),by omega,rfl,rfl,j+1,e,bf (by omega) (by omega),by rw[aF],by omega,by omega,rfl,by rw[aF];omega,e0,hK,λx ai=>by rw[aF] at ai ⊢;exact lo x ai,λx ai=>hi x (by omega)⟩
 .have aV:j=n:=by omega
  subst aV
  have aza:=ah7 j
  refine⟨by omega,by omega,?_⟩
  rw[show Int.toNat ((l5 j).length:Int)=(l5 j).length by omega]
  refine bS (by simp;omega) ?_
  obtain⟨q,aj⟩:=e0.rd.ptr (by simp;omega)
  refine⟨_,U_ aj (by omega),?_⟩
  refine MY e0 aj (i:=(l5 j).length) (c:=s1.len-(l5 j).length) (by omega) 0 rfl λg2 ec cb=>?_
  refine⟨by omega,by omega,?_⟩
  refine⟨_,rfl,?_,λdL eB=>?_,λb au=>(cb b (au q aj)).trans (hK b au),λdL eB=>(ec.bl eB).2⟩
  .have:=fi.Vb ec.Bp.rd (n:=(l5 j).length) (by simp;omega)
   have a8:((List.range j).map λx=>if (l5 j).length<=x/\x<(l5 j).length+(s1.len-(l5 j).length) then (0:Int) else e x).take (l5 j).length=l5 j:=by
    apply List.ext_getElem
    .simp;omega
    .intro x aq aM
     have aT:=lo x aM
     simp only[List.getElem_take,List.getElem_map,List.getElem_range]
     rw[if_neg (by omega),aT];simp[List.getD,aM]
   rw[a8] at this;exact this
  .rcases Vf eB with ⟨p,aS,a8⟩|⟨_,h0⟩
   .exact⟨p,aS,a8⟩
   .simp at h0
abbrev oN (k s t:Nat)(x:nI):Array Value:=#[U k,U s,U t,U x.b2,U x.on,U x.st]
def gZ:Option Nat->Int
 | some p=>p
 | none=>-1
theorem ah8 {k s t:Nat}(o:uG k s t){x:nI}(w:tw k s t x)(aT: -1<=x.b2){d:Int}(bV:0<=d){T:TypeId}{h:ak}{b:Nat}(e:h b=some (.cells (oN k s t x) T (0,0))) :
 ao 178 [bg ⟨b,0⟩,U d] h λv ah=>v=U (gZ (il k s t x d).2)/\ah b=some (.cells (oN k s t (il k s t x d).1) T (0,0))/\(∀y,y≠b->h y≠none->ah y=h y)/\(∀y,ah y=none->h y=none):=by
 have lA:=w.b2;have kG:=w.on;have rH:=w.st
 have os:=o.s;have Vg:=o.t;have sz:=o.d
 refine ah9 _ _ ?_
 unfold Vh
 generalize lC:(if d<x.b2 then d else x.b2)=b2
 generalize jj:(if d<x.b2 then 0 else x.on)=on
 have ej:il k s t x d=if b2<0 then (if x.st=t then (⟨b2,on,x.st⟩,none) else (⟨b2,on,x.st+1⟩,some (s*(k+1)+x.st))) else (if on+1=s then ⟨b2-1,0,x.st⟩ else ⟨b2,on+1,x.st⟩,some (b2.toNat*s+on)):=by
  unfold il;rw[lC,jj]
 have kv:b2<=k/\-1<=b2/\on<s:=by
  by_cases c:d<x.b2
  .rw[if_pos c] at lC jj;omega
  .rw[if_neg c] at lC jj;omega
 rw[ej]
 have Bq:∀(g:ak) (e3:Obj) y,g b≠none->bA g b e3 y=none->g y=none:=λg e3 y au aB=>by
  by_cases c:y=b
  .rw[c,eH] at aB;cases aB
  .rwa [cQ _ _ c] at aB
 refine⟨λq1 g=>q1=⟨b,0⟩/\g b=some (.cells (oN k s t ⟨b2,on,x.st⟩) T (0,0))/\(∀y,y≠b->h y≠none->g y=h y)/\(∀y,g y=none->h y=none),⟨_,az e rfl,?_⟩,?_⟩
 .refine cd (λc=>?_) λc=>?_
  .rw[if_pos c] at lC jj
   refine⟨_,T,e,by simp,?_⟩
   refine⟨_,T,eH _ _ _,by simp[h5],rfl,?_,λy aB bR=>?_,λy aB=>?_⟩
   .rw[eH,<-lC,<-jj];rfl
   .rw[cQ _ _ aB,cQ _ _ aB]
   .exact Bq _ _ _ (by rw[e];simp) (Bq _ _ _ (by rw[eH];simp) aB)
  .rw[if_neg c] at lC jj
   refine⟨rfl,?_,λ_ _ _=>rfl,λ_ aB=>aB⟩
   rw[e,<-lC,<-jj]
 rintro q1 g ⟨rfl,hB,hK,w0⟩
 have Vi:g b≠none:=by rw[hB];simp
 have aU:((s*(k+1):Nat):Int)=(s:Int)*((k:Int)+1):=by simp
 have Br:=yw os.1 os.2 sz.1 sz.2
 have ah_:b2<0->x.st≠t->∃bx,br g b (0+5)=some (U bx)/\aX g ⟨b,0+5⟩ [U (al (bx+1))] λaK=>∃bu,br aK b 0=some (U bu)/\∃bt,br aK b (0+1)=some (U bt)/\∃b9,br aK b (0+1+1)=some (U b9)/\∃cK,br aK b (0+5)=some (U cK) /\
  ao 167 [.agg #[U bu,U bt,U b9]] aK λv1 aR=>∃cL,v1=U cL/\(br aR b (0+5)=some (U cK)/\True)/\(U (al (al (cL+cK)-1)):Value)=U (gZ (some (s*(k+1)+x.st)))/\aR b=some (.cells (oN k s t ⟨b2,on,x.st+1⟩) T (0,0))/\(∀y,y≠b->h y≠none->aR y=h y)/\(∀y,aR y=none->h y=none):=by
  intro aQ aY
  refine⟨_,az hB rfl,_,T,hB,by simp,?_⟩
  have b1:bA g b (.cells (h5 (oN k s t ⟨b2,on,x.st⟩) (0+5) [U (al ((x.st:Int)+1))]) T (0,0)) b=some (.cells (oN k s t ⟨b2,on,x.st+1⟩) T (0,0)):=by
   rw[eH,bf (by omega) (by omega)];rfl
  refine⟨_,az b1 rfl,_,az b1 rfl,_,az b1 rfl,_,az b1 rfl,?_⟩
  refine(SW o).to λaR bE=>⟨_,rfl,⟨az (bE.get b1) rfl,trivial⟩,?_,bE.get b1,λy aB bR=>?_,λy aB=>?_⟩
  .congr 1
   simp only[gZ]
   generalize (s:Int)*((k:Int)+1)=z at *
   rw[bf (n:=z+((x.st+1:Nat):Int)) (by omega) (by omega),bf (by omega) (by omega)];omega
  .have aF:bA g b (.cells (h5 (oN k s t ⟨b2,on,x.st⟩) (0+5) [U (al ((x.st:Int)+1))]) T (0,0)) y=h y:=by rw[cQ _ _ aB,hK y aB bR]
   rw[bE y (by rw[aF];exact bR),aF]
  .exact w0 y (Bq _ _ _ Vi (bE.free aB))
 have aia:¬b2<0->∃cA,br g b (0+3)=some (U cA)/\∃cJ,br g b (0+1)=some (U cJ)/\∃dd,br g b (0+4)=some (U dd)/\∃dV,br g b (0+4)=some (U dV)/\aX g ⟨b,0+4⟩ [U (al (dV+1))] λbp=>∃di,br bp b (0+4)=some (U di)/\∃dp,br bp b (0+1)=some (U dp) /\
  aG (decide (di=dp)) (∃cC,br bp b (0+3)=some (U cC)/\aX bp ⟨b,0+3⟩ [U (al (cC-1))] λb3=>aX b3 ⟨b,0+4⟩ [U 0] λbW=>(U (al (al (cA*cJ)+dd)):Value)=U (gZ (some (b2.toNat*s+on)))/\bW b=some (.cells (oN k s t (if on+1=s then ⟨b2-1,0,x.st⟩ else ⟨b2,on+1,x.st⟩)) T (0,0))/\(∀y,y≠b->h y≠none->bW y=h y)/\(∀y,bW y=none->h y=none))
   ((U (al (al (cA*cJ)+dd)):Value)=U (gZ (some (b2.toNat*s+on)))/\bp b=some (.cells (oN k s t (if on+1=s then ⟨b2-1,0,x.st⟩ else ⟨b2,on+1,x.st⟩)) T (0,0))/\(∀y,y≠b->h y≠none->bp y=h y)/\(∀y,bp y=none->h y=none)):=by
  intro aQ
  have bQ:(U (al (al (b2*s)+on)):Value)=U (gZ (some (b2.toNat*s+on))):=by
   have hm:b2*(s:Int)=((b2.toNat*s:Nat):Int):=by rw[Int.natCast_mul,Int.toNat_of_nonneg (by omega)]
   have hZ:b2.toNat*s<=10*8:=Nat.mul_le_mul (by omega) (by omega)
   rw[hm,bf (n:=((b2.toNat*s:Nat):Int)) (by omega) (by omega),bf (by omega) (by omega)]
   congr 1
  refine⟨_,az hB rfl,_,az hB rfl,_,az hB rfl,_,az hB rfl,_,T,hB,by simp,?_⟩
  have dE:bA g b (.cells (h5 (oN k s t ⟨b2,on,x.st⟩) (0+4) [U (al ((on:Int)+1))]) T (0,0)) b=some (.cells (oN k s t ⟨b2,on+1,x.st⟩) T (0,0)):=by
   rw[eH,bf (by omega) (by omega)];rfl
  have dZ:∀y,y≠b->h y≠none->bA g b (.cells (h5 (oN k s t ⟨b2,on,x.st⟩) (0+4) [U (al ((on:Int)+1))]) T (0,0)) y=h y:=λy aB bR=>by rw[cQ _ _ aB,hK y aB bR]
  have bx:∀y,bA g b (.cells (h5 (oN k s t ⟨b2,on,x.st⟩) (0+4) [U (al ((on:Int)+1))]) T (0,0)) y=none->h y=none:=λy aB=>w0 y (Bq _ _ _ Vi aB)
  refine⟨((on+1:Nat):Int),az dE rfl,(s:Int),az dE rfl,cd (λc=>?_) λc=>?_⟩
  .have cc:on+1=s:=by omega
   rw[if_pos cc]
   refine⟨b2,az dE rfl,_,T,dE,by simp,_,T,eH _ _ _,by simp[h5],bQ,?_,λy aB bR=>?_,λy aB=>?_⟩
   .rw[eH,bf (by omega) (by omega)];rfl
   .rw[cQ _ _ aB,cQ _ _ aB];exact dZ y aB bR
   .exact bx y (Bq _ _ _ (by rw[dE];simp) (Bq _ _ _ (by rw[eH];simp) aB))
  .have cc:¬on+1=s:=by omega
   rw[if_neg cc]
   exact⟨bQ,dE,dZ,bx⟩
 refine⟨_,az hB rfl,cd (λaQ=>?_) λaQ=>?_⟩
 .rw[if_pos aQ]
  refine⟨_,az hB rfl,_,az hB rfl,h4 (λaY=>?_) λaY=>?_⟩
  .have Be:x.st=t:=by simp at aY;omega
   rw[if_pos Be]
   exact⟨rfl,hB,hK,w0⟩
  .have Be:x.st≠t:=by simp at aY;omega
   rw[if_neg Be]
   exact⟨_,az hB rfl,cd (λ_=>ah_ aQ Be) λh=>absurd aQ h⟩
 .rw[if_neg aQ]
  exact⟨_,az hB rfl,cd (λh=>absurd h aQ) λ_=>aia aQ⟩
end Go.Proofs.Tryz
namespace Go.cD
open Go Go.RowKit
def lD (k s t:Nat)(l:List Int)(x:nI):Nat->nI
 | 0=>x
 | i+1=>(il k s t (lD k s t l x i) (l.getD i 0)).1
theorem Vj (k s t:Nat)(d:Int)(l:List Int)(x:nI):∀i,lD k s t (d::l) x (i+1)=lD k s t l (il k s t x d).1 i
 | 0=>rfl
 | i+1=>by
  show(il k s t (lD k s t (d::l) x (i+1)) ((d::l).getD (i+1) 0)).1=(il k s t (lD k s t l (il k s t x d).1 i) (l.getD i 0)).1
  rw[Vj k s t d l x i,List.getD_cons_succ]
theorem M1 (k s t:Nat):∀(l:List Int) (x:nI) (i:Nat),i<gg l->(im k s t l x).getD i none=(il k s t (lD k s t l x i) (l.getD i 0)).2
 | [],x,i,h=>by simp[gg] at h
 | d::l,x,i,h=>by
  unfold gg at h
  split at h
  .omega
  .rename_i bV
   rw[im,if_neg bV]
   cases i with
   | zero=>rfl
   | succ i=>rw[List.getD_cons_succ,List.getD_cons_succ,Vj];exact M1 k s t l _ i (by omega)
theorem Vk (k s t:Nat)(l:List Int)(x:nI)(aU:tw k s t x){i:Nat}(h:gg l<=i):(im k s t l x).getD i none=none:=by
 obtain⟨_,_,_,_,i5⟩:=Ew l x aU
 cases e:(im k s t l x)[i]? with
 | none=>simp[List.getD,e]
 | some o =>
  cases o with
  | none=>simp[List.getD,e]
  | some p=>have:=i5 i p e;omega
theorem Ik:∀(l:List Int) (i:Nat),i<l.length->i=gg l->l.getD i 0<0
 | [],i,h,_=>by simp at h
 | d::l,i,h,e=>by
  unfold gg at e
  split at e
  .subst e;simpa using (by assumption:d<0)
  .cases i with
   | zero=>omega
   | succ i=>rw[List.getD_cons_succ];exact Ik l i (by simpa using h) (by omega)
theorem Il (l:List Int)(i:Nat)(h:i<gg l):0<=l.getD i 0:=by
 obtain⟨d,aa,ad⟩:=M3 l i h
 simp[List.getD,aa];exact ad
theorem M4 {k s t:Nat}(l:List Int)(x:nI)(w:tw k s t x)(aT: -1<=x.b2):∀i,i<=gg l->tw k s t (lD k s t l x i)/\-1<=(lD k s t l x i).b2
 | 0,_=>⟨w,aT⟩
 | i+1,h=>by
  obtain⟨lA,kG⟩:=M4 l x w aT i (by omega)
  have aS:=Il l i (by omega)
  refine⟨(Vl lA aS).1,?_⟩
  show -1<=(il k s t (lD k s t l x i) (l.getD i 0)).1.b2
  generalize lD k s t l x i=y at *
  generalize l.getD i 0=d at *
  unfold il
  by_cases c:d<y.b2
  .simp only[if_pos c];split
   .omega
   .split<;>simp only<;>omega
  .simp only[if_neg c];split
   .split<;>simp only<;>omega
   .split<;>simp only<;>omega
theorem Im:∀(l:List (Option Nat)) (r:List Nat) (i:Nat),i<l.length->(iq l r).getD i 0=match l.getD i none with|some p=>p|none=>r.getD (iz (l.take i)) 0
 | [],r,i,h=>by simp at h
 | some p::l,r,i,h=>by
  cases i with
  | zero=>simp[iq]
  | succ i =>
   have:=Im l r i (by simpa using h)
   simp only[iq,List.getD_cons_succ,this,List.take_succ_cons]
   have e:iz (some p::l.take i)=iz (l.take i):=by simp[iz]
   rw[e]
 | none::l,r,i,h=>by
  cases i with
  | zero=>simp[iq,iz];cases r<;>rfl
  | succ i =>
   have:=Im l r.tail i (by simpa using h)
   simp only[iq,List.getD_cons_succ,this,List.take_succ_cons]
   have e:iz (none::l.take i)=iz (l.take i)+1:=by simp[iz]
   rw[e]
   cases l.getD i none with
   | some p=>rfl
   | none=>cases r<;>simp
theorem Vm (l:List (Option Nat)){i:Nat}(h:i<l.length):iz (l.take (i+1))=iz (l.take i)+if l.getD i none=none then 1 else 0:=by
 rw[List.take_add_one,List.getElem?_eq_getElem h]
 have e:l.getD i none=l[i]:=by simp[List.getD,h]
 rw[e]
 cases ad:l[i]<;>simp[iz,ad]
theorem Vn (l:List (Option Nat))(i:Nat):iz (l.take i)<=iz l:=by
 unfold iz
 exact List.Sublist.length_le ((List.take_sublist i l).filter _)
end Go.cD
namespace Go.Proofs.Tryz
open Go Go.cD Go.RowKit
set_option maxRecDepth 8000
def rI:UInt64×Int:=(0,0)
def Io (L:List (UInt64×Int)):Prop:=∀i j,i<=j->j<L.length->jr (L.getD i rI)<=jr (L.getD j rI)
theorem aib {h:ak}{s:ar}{L:List (UInt64×Int)}(r:fN oM h s L)(aH:L.length<=1000000)(dY:∀x∈L,x.2<=1000)(e4:Io L) :
 ao 177 [bb s] h λv ah=>∃cX,v=bb cX/\gC h ah cX L.length (λi:Nat=>(i:Int))/\bL h ah:=by
 have hlen:=r.len
 refine aic _ ?_
 unfold Vo
 refine bM λae aa f1 aF aE=>bM λay ad f2 a8 aC=>?_
 have cZ:ay≠ae:=λe=>by rw[e,aF] at f2;cases f2
 refine pE (aE.trans aC) (aE.free f2) a8 (by simp) λan aI b0 c7=>?_
 have mG:an ae=_:=(c7 _ (Ne.symm cZ)).trans (aC.get aF)
 refine⟨_,az mG rfl,by omega,by omega,by omega,by omega,bM λaN aK f4 b1 bh=>?_⟩
 have mi:=aI.trans bh
 have f40:h aN=none:=aI.free f4
 have n31:aN≠ae:=λe=>by rw[e,mG] at f4;cases f4
 have n32:aN≠ay:=λe=>by rw[e,b0] at f4;cases f4
 have mv:∀n:Nat,Int.toNat (n:Int)=n:=λn=>by omega
 have Eu:gC h aK ⟨some ⟨aN,0⟩,s.len,s.len,none⟩ s.len λ_=>0:=gC.zero f40 b1 (by omega)
 refine⟨λq1 aJ s2 aw aA g k=>q1=⟨ae,0⟩/\aJ=⟨ay,0⟩/\s2=⟨some ⟨aN,0⟩,s.len,s.len,none⟩/\aw=(s.len:Nat)/\∃i:Nat,aA=i/\i<=s.len/\k=s.len-i/\gC h g ⟨some ⟨aN,0⟩,s.len,s.len,none⟩ s.len (λx=>if x<i then (x:Int) else 0)/\∀y,y≠aN->g y=aK y,
  ⟨s.len,rfl,rfl,rfl,rfl,0,rfl,by omega,rfl,by simpa using Eu,λ_ _=>rfl⟩,?_⟩
 rintro q1 aJ s2 aw aA g k ⟨rfl,rfl,rfl,rfl,i,rfl,hi,rfl,e0,hK⟩
 refine cd (λca=>?_) λdx=>?_
 .refine e0.set (i:=i) (by omega) rfl (i:Int) λg2 ec cb=>⟨s.len-(i+1),by omega,rfl,rfl,rfl,rfl,i+1,bf (by omega) (by omega),by omega,rfl,?_,λy aB=>(cb y λq aj e=>aB (by cases aj;exact e)).trans (hK y aB)⟩
  have e:(λx:Nat=>if x=i then (i:Int) else if x<i then (x:Int) else 0)=λx=>if x<i+1 then (x:Int) else 0:=by
   funext x;repeat' split
   all_goals first|rfl|omega
  rw[e] at ec;exact ec
 .have b5:i=s.len:=by omega
  subst b5
  have bD:bL h g:=λy aB=>by
   have:y≠aN:=λe=>aB (e▸f40)
   rw[hK y this];exact mi y aB
  have iF:gC h g ⟨some ⟨aN,0⟩,s.len,s.len,none⟩ s.len λx:Nat=>(x:Int):=by
   have e:(List.range s.len).map (λx:Nat=>if x<s.len then (x:Int) else 0)=(List.range s.len).map λx:Nat=>(x:Int):=List.map_congr_left λx ai=>if_pos (List.mem_range.1 ai)
   have M5:=e0
   unfold gC at M5
   rw[e] at M5;exact M5
  have qt:g ae=some (.cells #[bb s] 260 (0,0)):=(hK ae (Ne.symm n31)).trans (bh.get mG)
  have se:=(hK ay (Ne.symm n32)).trans (bh.get b0)
  have rg:fN oM g s L:=r.bD lB bD
  have aid:∀q,s.q=some q->0<L.length->q.b≠aN:=λq aj aT e=>r.there lB aj aT (e▸f40)
  have Ex:cF 1 u4 lE g ⟨some ⟨aN,0⟩,s.len,s.len,none⟩ ((List.range s.len).map λx:Nat=>(x:Int)):=iF.base λ_ _=>rfl
  have C:rj prog (λb=>b=aN) g (.func (.func 194) #[] #[bg ⟨ay,0⟩,bg ⟨ae,0⟩]) Bs (λx=>jr (L.getD x.toNat rI)) (λx=>0<=x/\x<(L.length:Nat)):=by
   intro ah O x y ai aB
   have gX:ah ae=_:=(O ae (by rw[qt];simp) (Ne.symm n31)).trans qt
   have h9:ah ay=_:=(O ay (by rw[se];simp) (Ne.symm n32)).trans se
   have Vp:fN oM ah s L:=rg.move λq aj aT=>O q.b (rg.there lB aj aT) (aid q aj aT)
   obtain⟨i,rfl⟩:=Int.eq_ofNat_of_zero_le ai.1
   obtain⟨j,rfl⟩:=Int.eq_ofNat_of_zero_le aB.1
   have hi:i<L.length:=by have:=ai.2;omega
   have aV:j<L.length:=by have:=aB.2;omega
   refine⟨rfl,?_⟩
   refine aie _ _ _ _ ?_
   unfold Vq
   refine⟨_,az h9 rfl,rfl,_,az gX rfl,?_⟩
   refine Vp.cp lB hi λq _ sA=>?_
   obtain⟨aQ,aY,_⟩:=sA
   refine⟨_,aQ,_,aY,_,az gX rfl,?_⟩
   refine Vp.cp lB aV λaJ _ aif=>?_
   obtain⟨ck,dz,_⟩:=aif
   refine⟨_,ck,_,dz,⟨rfl,?_⟩⟩
   refine(ahU L[i] L[j] (dY _ (List.getElem_mem hi)) (dY _ (List.getElem_mem aV)) ah).mono ?_
   rintro _ ad ⟨m,rfl,hm,bP⟩
   refine⟨m,rfl,m,rfl,?_,bP⟩
   have aF:L.getD (Int.toNat (i:Int)) rI=L[i]:=by rw[mv];simp[List.getD,hi]
   have a8:L.getD (Int.toNat (j:Int)) rI=L[j]:=by rw[mv];simp[List.getD,aV]
   rw[hm];show _↔jr (L.getD (Int.toNat (i:Int)) rI)<jr (L.getD (Int.toNat (j:Int)) rI);rw[aF,a8]
  refine(aih C (λq aj=>by cases aj;rfl) (n:=s.len) (by omega) Ex (dN.refl _ _) (λx ai=>⟨by omega,by omega⟩)).mono ?_
  rintro _ g2 ⟨rfl,bC,ec,fe,_,_,nJ⟩
  have bV:bC=λx:Nat=>(x:Int):=nJ λi j _ n7 aV=>by
   show jr (L.getD (Int.toNat (i:Int)) rI)<=jr (L.getD (Int.toNat (j:Int)) rI)
   rw[mv,mv];exact e4 i j n7 (by omega)
  subst bV
  refine⟨rfl,_,rfl,?_,λy aB=>?_⟩
  .rw[<-hlen]
   exact⟨ec.len,ec.cap,by
    rcases ec.own with h|⟨q,c,t,aq,aM,a3⟩
    .exact .inl h
    .exact .inr ⟨q,c,t,aq,by cases aq;exact f40,a3⟩⟩
  .have:y≠aN:=λe=>aB (e▸f40)
   rw[fe y (by rw[bD y aB];exact aB) this,bD y aB]
theorem Bt {ga g:ak}{s:ar}{l:List Int}(A:cW eR ga g s l)(pT:∀b,g b=none->ga b=none)(x:Int)(aT:(l.length+1)*8<=140737488355328){t:TypeId}{K:ar->ak->Prop}
 (ag:∀cX bo,cW eR ga bo cX (l++[x])->(∀b,g b≠none->(∀q,s.q=some q->b≠q.b)->bo b=g b)->(∀dL,cX.q=some dL->(∃q,s.q=some q/\dL.b=q.b)∨g dL.b=none)->(∀b,bo b=none->g b=none)->K cX bo) :
 bj g (.cells #[U x] t) λb ah=>fh prog 64 s (.s ⟨some ⟨b,0⟩,1,1,none⟩) ah K :=
 cW.Bu yT Eh A x pT aT (by decide) ag
theorem aii {k s t:Nat}(o:uG k s t){h:ak}{x:ar}{L:List (UInt64×Int)}(r:fN oM h x L)(hlen:L.length=s*(k+1)+t+1)(dY:∀x∈L,x.2<=k)(e4:Io L) :
 ao 158 [.agg #[U k,U s,U t],bb x] h λv ah=>∃s1 s2,v= .tuple #[bb s1,bb s2]/\cW eR h ah s1 ((kX k s t (L.map (·.2))).map λp:Nat=>(p:Int))/\cW eR h ah s2 ((ld k s t (L.map (·.2))).map λp:Nat=>(p:Int))/\bL h ah:=by
 have Ey:=r.len
 have os:=o.s;have Vg:=o.t;have sz:=o.d
 have Br:=yw os.1 os.2 sz.1 sz.2
 have Vr:((s*(k+1):Nat):Int)=(s:Int)*((k:Int)+1):=by simp
 have uT:L.length<=153:=by rw[hlen];omega
 generalize o9:L.map (·.2)=cY at *
 have sB:cY.length=L.length:=by rw[<-o9];simp
 have te:=tx cY
 have lz:tw k s t (gL k):=⟨by simp[gL],(show 0<s by omega),by simp[gL]⟩
 have yZ:=Ip k s t cY (gL k)
 generalize sC:im k s t cY (gL k)=ops at *
 have wf:=M4 cY (gL k) lz (show -1<=(k:Int) by omega)
 have M6:∀i,i<gg cY->ops.getD i none=(il k s t (lD k s t cY (gL k) i) (cY.getD i 0)).2:=λi hi=>by rw[<-sC];exact M1 k s t cY _ i hi
 have Ez:∀i,gg cY<=i->ops.getD i none=none:=λi hi=>by rw[<-sC];exact Vk k s t cY _ lz hi
 obtain⟨i1,i2,_,_,_⟩:=Ew cY (gL k) lz
 rw[sC] at i1 i2
 have n4:=M7 (n:=L.length) ops (by rw[yZ,sB]) i2 λp aS=>by have:=(i1 p aS).2;omega
 have lV:kX k s t cY=iq ops (pU L.length ops):=by unfold kX;rw[sC,sB]
 have EA:ld k s t cY=(List.range (gg cY)).filter λi=>ops.getD i none==none:=by unfold ld;rw[sC]
 have rJ:∀i (hi:i<L.length),cY.getD i 0=L[i].2:=λi hi=>by rw[<-o9];simp[List.getD,hi]
 rw[lV,EA]
 refine aij _ _ _ _ ?_
 unfold Vs
 refine bM λae aa f1 aF aE=>k7 aF ?_
 refine(LD o).to λad aC=>⟨_,rfl,bS rfl (k7 (aC.get aF) ?_)⟩
 refine(LF o).to λan aI=>⟨_,rfl,bS (by rw[Ey,hlen];simp) ?_⟩
 have b0:=(aC.trans aI).get aF
 refine k7 b0 (gq b0 rfl (bM λay aK f4 b1 bh=>bM λaN aR f5 cy bE=>?_))
 have jL:=(aE.trans (aC.trans aI)).trans (bh.trans bE)
 have rx:fi eR aR ⟨some ⟨aN,0⟩,1,1,none⟩ [-1]:=(cW.qz (h0:=aK) (l:=[(-1:Int)]) (t:=3) f5 cy rfl rfl).rd
 rw[Ey]
 refine(ah0 (by omega) (by omega) rx).mono ?_
 rintro _ bp ⟨sp,rfl,ka,ch⟩
 refine⟨_,rfl,by omega,by omega,by omega,by omega,bM λbJ b3 f7 fo c9=>?_⟩
 have d_:=ka.len
 simp only[List.length_map,List.length_range] at d_
 obtain⟨tz,o_⟩:=ka.rd.ptr (by simp;omega)
 have M8:aR tz.b=none:=(ka.bl o_).1
 have aik:=(ka.bl o_).2
 have ail:=jL.trans (ch.trans c9)
 have aim:b3 ay=some (.cells (oN k s t (gL k)) 279 (0,0)):=(bE.trans (ch.trans c9)).get b1
 have Vt:tz.b≠ay:=λe=>by rw[e,bE.get b1] at M8;cases M8
 have n42:bJ≠ay:=λe=>by rw[e,(bE.trans ch).get b1] at f7;cases f7
 have EB:bJ≠tz.b:=λe=>aik (e▸f7)
 have f20:h ay=none:=(aE.trans (aC.trans aI)).free f4
 have Vu:h tz.b=none:=jL.free M8
 have f40:h bJ=none:=(jL.trans ch).free f7
 have mv:∀n:Nat,Int.toNat (n:Int)=n:=λn=>by omega
 let kb:ar:=⟨some ⟨bJ,0⟩,L.length,L.length,none⟩
 have ain:gC h b3 kb L.length λ_=>0:=gC.zero f40 fo (by omega)
 have aio:gC h b3 sp L.length λ_=>-1:=(ka.bD c9).base λb au=>jL.free au
 refine⟨λs2 cj bG bX cA cJ g bP=>s2=x/\cj=some ⟨ay,0⟩/\bG=sp/\bX=kb/\cA=(L.length:Nat)/\∃i:Nat,cJ=i/\i<=L.length/\bP=L.length-i/\gC h g kb L.length (λy=>if y<i then (y:Int) else 0)/\∀y,y≠bJ->g y=b3 y,
  ⟨L.length,rfl,rfl,rfl,rfl,rfl,0,rfl,by omega,rfl,by simpa using ain,λ_ _=>rfl⟩,?_⟩
 rintro s2 cj bG bX cA cJ g bP ⟨rfl,rfl,rfl,rfl,rfl,i,rfl,hi,rfl,Vv,hK⟩
 refine cd (λca=>?_) λdx=>?_
 .refine Vv.set (i:=i) (by omega) rfl (i:Int) λg2 ec cb=>⟨L.length-(i+1),by omega,rfl,rfl,rfl,rfl,rfl,i+1,bf (by omega) (by omega),by omega,rfl,?_,λy aB=>(cb y λq aj e=>aB (by cases aj;exact e)).trans (hK y aB)⟩
  have e:(λx:Nat=>if x=i then (i:Int) else if x<i then (x:Int) else 0)=λx=>if x<i+1 then (x:Int) else 0:=by
   funext x;repeat' split
   all_goals first|rfl|omega
  rw[e] at ec;exact ec
 have b5:i=L.length:=by omega
 subst b5
 have M9:gC h g kb L.length λy:Nat=>(y:Int):=by
  have e:(List.range L.length).map (λx:Nat=>if x<L.length then (x:Int) else 0)=(List.range L.length).map λx:Nat=>(x:Int):=List.map_congr_left λx ai=>if_pos (List.mem_range.1 ai)
  have M_:=Vv
  unfold gC at M_
  rw[e] at M_;exact M_
 have cO:bL h g:=λy aB=>by
  have:y≠bJ:=λe=>aB (e▸f40)
  rw[hK y this];exact ail y aB
 have Vw:gC h g bG L.length λ_=>-1:=aio.move λq aj=>hK _ (by rw[o_] at aj;cases aj;exact EB.symm)
 have Vx:g ay=some (.cells (oN k s t (gL k)) 279 (0,0)):=(hK ay n42.symm).trans aim
 have agz:∀y,g y=none->b3 y=none:=λy aB=>by
  by_cases c:y=bJ
  .exfalso;rw[c] at aB;exact(M9.bl (q:=⟨bJ,0⟩) rfl).2 aB
  .rw[<-hK y c];exact aB
 let left:Nat->Int:=λy=>if ops.contains (some y)=true then -1 else (y:Int)
 let Na:List Int:=((List.range (gg cY)).filter λi=>ops.getD i none==none).map λp:Nat=>(p:Int)
 refine⟨λeb eF hf g=>eb=bG/\eF=kb/\bL h g/\gC h g bG L.length (λy=>gZ (ops.getD y none))/\gC h g kb L.length left/\cW eR h g hf Na/\(∀q,hf.q=some q->q.b≠tz.b/\q.b≠bJ),?_,?_⟩
 .have Nb:∀y∈L,y.2<=1000:=λy aB=>by have:=dY y aB;omega
  refine(aib (r.bD lB cO) (by omega) Nb e4).mono ?_
  rintro _ g1 ⟨EC,rfl,u9,tA⟩
  have Iq:=u9.len
  simp only[List.length_map,List.length_range] at Iq
  obtain⟨pP,qE⟩:=u9.rd.ptr (by simp;omega)
  have sD:=(u9.bl qE).1
  have Ir:pP.b≠ay:=λe=>by rw[e,Vx] at sD;cases sD
  have aip:pP.b≠tz.b:=λe=>(Vw.bl o_).2 (e▸sD)
  have aiq:pP.b≠bJ:=λe=>(M9.bl (q:=⟨bJ,0⟩) rfl).2 (e▸sD)
  refine⟨_,rfl,λcl cb eb eF hf gS dd dV g2 bP=>cl=s2/\cb=some ⟨ay,0⟩/\eb=bG/\eF=kb/\gS=EC/\dd=(L.length:Nat)/\∃i:Nat,dV=i/\i<=gg cY/\bP=L.length-i/\bL h g2/\g2 ay=some (.cells (oN k s t (lD k s t cY (gL k) i)) 279 (0,0)) /\
   gC h g2 bG L.length (λy=>if y<i then gZ (ops.getD y none) else -1)/\gC h g2 kb L.length (λy=>if (ops.take i).contains (some y)=true then -1 else (y:Int))/\cW eR h g2 hf (((List.range i).filter λi=>ops.getD i none==none).map λp:Nat=>(p:Int)) /\
   (∀q,hf.q=some q->q.b≠tz.b/\q.b≠bJ/\q.b≠ay/\q.b≠pP.b)/\gC g g2 EC L.length (λy:Nat=>(y:Int))/\fN oM g2 s2 L,
   ⟨L.length,rfl,rfl,rfl,rfl,rfl,by rw[Iq],0,rfl,by omega,rfl,cO.trans tA,tA.get Vx,by simpa using Vw.bD tA,by simpa using M9.bD tA,cW.gD _ _ _,λq aj=>(by cases aj),u9,(r.bD lB (cO.trans tA))⟩,?_⟩
  rintro cl cb eb eF hf gS dd dV g2 bP ⟨rfl,rfl,rfl,rfl,rfl,rfl,i,rfl,hi,rfl,sE,a8,Is,It,Iu,sF,Nc,fF⟩
  have done:∀g3,bL g2 g3->i=gg cY->eb=eb/\kb=kb/\bL h g3/\gC h g3 eb L.length (λy=>gZ (ops.getD y none))/\gC h g3 kb L.length left/\cW eR h g3 hf Na/\(∀q,hf.q=some q->q.b≠tz.b/\q.b≠bJ):=by
   rintro g3 aI ho
   have aF:(λy=>if y<i then gZ (ops.getD y none) else -1)=λy=>gZ (ops.getD y none):=by
    funext y
    by_cases c:y<i
    .rw[if_pos c]
    .rw[if_neg c,Ez y (by omega)];rfl
   have pa:∀y:Nat,(ops.take i).contains (some y)=ops.contains (some y):=λy=>by
    rw[Bool.eq_iff_iff]
    simp only[List.contains_eq_mem,decide_eq_true_eq]
    constructor
    .exact λh=>List.mem_of_mem_take h
    .intro hm
     obtain⟨j,aV,e⟩:=List.getElem_of_mem hm
     have Nd:j<i:=by
      rcases Nat.lt_or_ge j i with c|c
      .exact c
      .have:=Ez j (by omega)
       simp[List.getD,aV,e] at this
     rw[<-e]
     exact List.mem_take_iff_getElem.2 ⟨j,by omega,rfl⟩
   refine⟨rfl,rfl,sE.trans aI,by rw[aF] at Is;exact Is.bD aI,?_,by rw[ho] at Iu;exact Iu.bD aI,λq aj=>⟨(sF q aj).1,(sF q aj).2.1⟩⟩
   have b0:(λy:Nat=>if (ops.take i).contains (some y)=true then (-1:Int) else (y:Int))=left:=by funext y;rw[pa y]
   rw[b0] at It;exact It.bD aI
  refine cd (λca=>?_) λdx=>done g2 (bL.refl _) (by omega)
  have hT:i<L.length:=by omega
  refine Nc.get hT rfl λq _=>?_
  refine fF.cp lB hT λaJ _ sA=>?_
  obtain⟨_,aY,_⟩:=sA
  rw[mv]
  refine⟨_,aY,cd (λkH=>done g2 (bL.refl _) ?_) λrK=>?_⟩
  .rcases Nat.lt_or_ge i (gg cY) with c|c
   .have:=Il cY i c;rw[rJ i hT] at this;omega
   .omega
  have ho:i<gg cY:=by
   rcases Nat.lt_or_ge i (gg cY) with c|c
   .exact c
   .have:=Ik cY i (by omega) (by omega);rw[rJ i hT] at this;omega
  refine fF.cp lB hT λbd _ air=>?_
  obtain⟨_,ck,_⟩:=air
  refine⟨_,ck,?_⟩
  have lQ:=M6 i ho
  rw[rJ i hT] at lQ
  have j7:lD k s t cY (gL k) (i+1)=(il k s t (lD k s t cY (gL k) i) L[i].2).1:=by
   show(il k s t (lD k s t cY (gL k) i) (cY.getD i 0)).1=_;rw[rJ i hT]
  refine(ah8 o (wf i hi).1 (wf i hi).2 (d:=L[i].2) (by omega) a8).mono ?_
  rintro _ g3 ⟨rfl,oO,c7,aL⟩
  rw[<-j7] at oO
  rw[<-lQ]
  have aI:∀y,h y≠none->g3 y=h y:=λy aB=>by
   have:y≠ay:=λe=>aB (e▸f20)
   rw[c7 y this (by rw[sE y aB];exact aB),sE y aB]
  have ais:∀q,eb.q=some q->q.b≠ay:=λq aj=>by rw[o_] at aj;cases aj;exact Vt
  have Bv:=Is.move (ah:=g3) λq aj=>c7 _ (ais q aj) (Is.bl aj).2
  have Bw:=It.move (ah:=g3) λq aj=>by cases aj;exact c7 _ n42 (It.bl (q:=⟨bJ,0⟩) rfl).2
  have ED:=Iu.move (ah:=g3) λq aj=>c7 _ (sF q aj).2.2.1 (Iu.bl aj).2
  have Iv:=Nc.move (ah:=g3) λq aj=>c7 _ (by rw[qE] at aj;cases aj;exact Ir) (Nc.bl aj).2
  have n8:fN oM g3 cl L:=r.bD lB aI
  have bw:ops.take (i+1)=ops.take i++[ops.getD i none]:=by
   have rL:i<ops.length:=by rw[yZ,sB];exact hT
   rw[List.take_add_one,List.getElem?_eq_getElem rL];simp[List.getD,rL]
  have a_:(List.range (i+1)).filter (λi=>ops.getD i none==none)=(List.range i).filter (λi=>ops.getD i none==none)++if ops.getD i none=none then [i] else []:=by
   rw[List.range_succ,List.filter_append]
   congr 1
   rw[List.filter_cons,List.filter_nil]
   cases aZ:ops.getD i none<;>rfl
  refine⟨_,rfl,?_⟩
  cases aZ:ops.getD i none with
  | none =>
   rw[aZ] at bw a_
   refine dg rfl ?_
   refine Bt ED (λb au=>by
    cases e:h b with
    | none=>rfl
    | some e3=>rw[aI b (by rw[e];simp),e] at au;cases au) (i:Int) (by
     have:=List.length_filter_le (λi=>ops.getD i none==none) (List.range i)
     simp at this ⊢;omega) λcX g4 iU tB tC ait=>?_
   have EE:∀y,g3 y≠none->(∀q,hf.q=some q->y≠q.b)->g4 y=g3 y:=tB
   have qB:=EE tz.b (by have:=(Bv.bl o_).2;exact this) λq aj e=>(sF q aj).1 e.symm
   have uV:=EE bJ (Bw.bl (q:=⟨bJ,0⟩) rfl).2 λq aj e=>(sF q aj).2.1 e.symm
   have d4:=EE ay (by rw[oO];simp) λq aj e=>(sF q aj).2.2.1 e.symm
   have dr:=EE pP.b (Iv.bl qE).2 λq aj e=>(sF q aj).2.2.2 e.symm
   have Bx:∀y,h y≠none->g4 y=h y:=λy aB=>by
    rw[EE y (by rw[aI y aB];exact aB) λq aj e=>aB (e▸(ED.bl aj).1),aI y aB]
   refine⟨L.length-(i+1),by omega,rfl,rfl,rfl,rfl,rfl,rfl,i+1,bf (by omega) (by omega),by omega,rfl,Bx,d4.trans oO,?_,?_,?_,λdL eB=>?_,Iv.move λq aj=>by rw[qE] at aj;cases aj;exact dr,r.bD lB Bx⟩
   .have e:(λy=>if y<i+1 then gZ (ops.getD y none) else -1)=λy=>if y<i then gZ (ops.getD y none) else -1:=by
     funext y
     by_cases c:y<i
     .rw[if_pos c,if_pos (by omega)]
     .rw[if_neg c]
      by_cases cc:y=i
      .rw[if_pos (by omega),cc,aZ];rfl
      .rw[if_neg (by omega)]
    rw[e];exact Bv.move λq aj=>by rw[o_] at aj;cases aj;exact qB
   .have e:(λy:Nat=>if (ops.take (i+1)).contains (some y)=true then (-1:Int) else (y:Int))=λy=>if (ops.take i).contains (some y)=true then -1 else (y:Int):=by
     funext y;rw[bw];simp
    rw[e];exact Bw.move λq aj=>by cases aj;exact uV
   .rw[a_,if_pos rfl,List.map_append];exact iU
   .rcases tC dL eB with ⟨q,aj,e⟩|aH
    .rw[e];exact sF q aj
    .refine⟨λe=>?_,λe=>?_,λe=>?_,λe=>?_⟩
     .exact(Bv.bl o_).2 (e▸aH)
     .exact(Bw.bl (q:=⟨bJ,0⟩) rfl).2 (e▸aH)
     .rw[e,oO] at aH;cases aH
     .exact(Iv.bl qE).2 (e▸aH)
  | some p =>
   rw[aZ] at bw a_
   have rL:i<ops.length:=by rw[yZ,sB];exact hT
   have aS:p<L.length:=by
    have:=(i1 p (by
     have:ops[i]=some p:=by simpa [List.getD,rL] using aZ
     rw[<-this];exact List.getElem_mem rL)).2;omega
   refine bS (decide_eq_false (by simp only[gZ];omega)) ?_
   refine gC.set Bv (i:=i) hT rfl (p:Int) λg4 hp dr=>?_
   have uV:g4 bJ=g3 bJ:=dr bJ λq aj=>by rw[o_] at aj;cases aj;exact EB
   refine gC.set (Bw.move (ah:=g4) λq aj=>by cases aj;exact uV) (i:=p) aS rfl (-1) λg5 js cm=>?_
   have y0:∀y,y≠tz.b->y≠bJ->g5 y=g3 y:=λy aa ad=>(cm y λq aj=>by cases aj;exact ad).trans (dr y λq aj=>by rw[o_] at aj;cases aj;exact aa)
   have Bx:∀y,h y≠none->g5 y=h y:=λy aB=>by
    rw[y0 y (λe=>aB (e▸Vu)) (λe=>aB (e▸f40)),aI y aB]
   refine⟨L.length-(i+1),by omega,rfl,rfl,rfl,rfl,rfl,rfl,i+1,bf (by omega) (by omega),by omega,rfl,Bx,(y0 ay Vt.symm n42.symm).trans oO,?_,?_,?_,sF,Iv.move λq aj=>by rw[qE] at aj;cases aj;exact y0 _ aip aiq,r.bD lB Bx⟩
   .have e:(λy=>if y<i+1 then gZ (ops.getD y none) else -1)=λy=>if y=i then (p:Int) else if y<i then gZ (ops.getD y none) else -1:=by
     funext y
     by_cases cc:y=i
     .rw[if_pos (by omega),if_pos cc,cc,aZ];rfl
     .rw[if_neg cc]
      by_cases c:y<i
      .rw[if_pos c,if_pos (by omega)]
      .rw[if_neg c,if_neg (by omega)]
    rw[e];exact hp.move λq aj=>cm _ λdL eB=>by cases eB;rw[o_] at aj;cases aj;exact EB.symm
   .have e:(λy:Nat=>if (ops.take (i+1)).contains (some y)=true then (-1:Int) else (y:Int))=λy=>if y=p then -1 else if (ops.take i).contains (some y)=true then -1 else (y:Int):=by
     funext y;rw[bw]
     by_cases c:y=p
     .simp[c]
     .simp[c]
    rw[e];exact js
   .rw[a_,if_neg (by simp),List.append_nil]
    exact ED.move λq aj=>y0 _ (sF q aj).1 (sF q aj).2.1
 rintro h6 kc oP g3 ⟨rfl,rfl,Nf,Bv,Bw,ED,Vy⟩
 refine(ah4 Bw (by omega)).mono ?_
 rintro _ g4 ⟨pb,rfl,Vz,aiu,dr,_⟩
 have aiv:((List.range L.length).map left).filter (λx=>decide (0<=x))=(pU L.length ops).map λp:Nat=>(p:Int):=by
  rw[List.filter_map]
  have aF:(List.range L.length).filter ((λx:Int=>decide (0<=x)) ∘ left)=pU L.length ops:=by
   unfold pU
   apply List.filter_congr
   intro y _
   show decide (0<=left y)= !ops.contains (some y)
   by_cases c:ops.contains (some y)=true
   .have aT:left y= -1:=if_pos c
    rw[aT,c];rfl
   .have aT:left y=(y:Int):=if_neg c
    rw[aT,Bool.eq_false_iff.2 c];exact decide_eq_true (by omega)
  rw[aF]
  apply List.map_congr_left
  intro y aB
  have:ops.contains (some y)=false:=by
   have:=(List.mem_filter.1 aB).2
   simpa using this
  simp only[left,this];rfl
 rw[aiv] at Vz
 have VA:=Bv.move (ah:=g4) λq aj=>dr _ λdL eB=>by cases eB;rw[o_] at aj;cases aj;exact EB.symm
 have aiw:=ED.move (ah:=g4) λq aj=>dr _ λdL eB=>by cases eB;exact(Vy q aj).2
 have EF:bL h g4:=λy aB=>by
  rw[dr y λq aj e=>aB (by cases aj;rw[e];exact f40)];exact Nf y aB
 generalize jd:pU L.length ops=gH at *
 have w1:ops.length=L.length:=by rw[yZ,sB]
 refine⟨_,rfl,λmQ nK pV n9 eG cZ g5 bP=>mQ=h6/\pV=oP/\n9=h6/\eG=(L.length:Nat)/\∃i:Nat,cZ=i/\i<=L.length/\bP=L.length-i/\bL h g5/\gC h g5 h6 L.length (λy=>if y<i then ((iq ops gH).getD y 0:Nat) else gZ (ops.getD y none))/\cW eR h g5 oP Na /\
  fi eR g5 nK ((gH.map λp:Nat=>(p:Int)).drop (iz (ops.take i)))/\∀q,nK.q=some q->q.b=bJ,
  ⟨L.length,rfl,rfl,rfl,by rw[VA.len];simp,0,rfl,by omega,rfl,EF,by simpa using VA,aiw,by simpa [iz] using Vz,λq aj=>by obtain⟨p,aS,e⟩:=aiu q aj;cases aS;exact e⟩,?_⟩
 rintro mQ nK pV n9 eG cZ g5 bP ⟨rfl,rfl,rfl,rfl,i,rfl,hi,rfl,y1,Iw,Ng,By,Nh⟩
 refine cd (λca=>?_) λdx=>?_
 .have hT:i<L.length:=by omega
  have r_:=Im ops gH i (by rw[w1];exact hT)
  have pc:=Vm ops (i:=i) (by rw[w1];exact hT)
  refine Iw.get hT rfl λq _=>?_
  rw[if_neg (Nat.lt_irrefl i)]
  cases aZ:ops.getD i none with
  | none =>
   rw[aZ] at r_ pc
   rw[if_pos rfl] at pc
   have hle:=Vn ops (i+1)
   have mR:iz (ops.take i)<gH.length:=by omega
   refine dg rfl ?_
   have aix:((gH.map λp:Nat=>(p:Int)).drop (iz (ops.take i)))[0]'(by simp;omega)=((gH.getD (iz (ops.take i)) 0:Nat):Int):=by
    simp[List.getD,mR]
   obtain⟨q1,oX,wK⟩:=By.at (i:=0) (by simp;omega)
   rw[aix] at wK
   have aiy:=By.len
   have azb:=By.cap
   simp only[List.length_drop,List.length_map] at aiy
   refine⟨q1,oX,Int.NonNeg.mk 0,by omega,_,wK,Int.NonNeg.mk 1,by omega,?_⟩
   refine Iw.set (i:=i) hT rfl _ λg6 EG dZ=>?_
   have y2:∀q,nK.q=some q->g6 q.b=g5 q.b:=λq aj=>dZ _ λdL eB=>by rw[o_] at eB;cases eB;rw[Nh q aj];exact EB
   refine⟨L.length-(i+1),by omega,rfl,rfl,rfl,rfl,i+1,bf (by omega) (by omega),by omega,rfl,λy aB=>?_,?_,Ng.move λq aj=>dZ _ λdL eB=>by rw[o_] at eB;cases eB;exact(Vy q aj).1,?_,λq aj=>?_⟩
   .rw[dZ y λq aj e=>aB (by rw[o_] at aj;cases aj;rw[e];exact Vu)];exact y1 y aB
   .have e:(λy=>if y<i+1 then (((iq ops gH).getD y 0:Nat):Int) else gZ (ops.getD y none))=λy=>if y=i then ((gH.getD (iz (ops.take i)) 0:Nat):Int) else if y<i then (((iq ops gH).getD y 0:Nat):Int) else gZ (ops.getD y none):=by
     funext y
     by_cases cc:y=i
     .rw[if_pos (by omega),if_pos cc,cc,r_]
     .rw[if_neg cc]
      by_cases c:y<i
      .rw[if_pos c,if_pos (by omega)]
      .rw[if_neg c,if_neg (by omega)]
    rw[e];exact EG
   .have:=(By.move (ah:=g6) λq aj _=>y2 q aj).drop (n:=1) (by simp;omega)
    rw[List.drop_drop] at this
    rw[pc];exact this
   .obtain⟨dL,eB,e⟩:=VB By.nil (n:=1) (by omega) aj
    rw[e];exact Nh dL eB
  | some p =>
   rw[aZ] at r_ pc
   rw[if_neg (by simp),Nat.add_zero] at pc
   refine bS (decide_eq_false (by simp only[gZ];omega)) ?_
   refine⟨L.length-(i+1),by omega,rfl,rfl,rfl,rfl,i+1,bf (by omega) (by omega),by omega,rfl,y1,?_,Ng,by rw[pc];exact By,Nh⟩
   have e:(λy=>if y<i+1 then (((iq ops gH).getD y 0:Nat):Int) else gZ (ops.getD y none))=λy=>if y<i then (((iq ops gH).getD y 0:Nat):Int) else gZ (ops.getD y none):=by
    funext y
    by_cases c:y<i
    .rw[if_pos c,if_pos (by omega)]
    .rw[if_neg c]
     by_cases cc:y=i
     .rw[if_pos (by omega),cc,r_,aZ];rfl
     .rw[if_neg (by omega)]
   rw[e];exact Iw
 .have hT:i=L.length:=by omega
  subst hT
  refine⟨_,_,rfl,?_,Ng,y1⟩
  have e:(List.range L.length).map (λy=>if y<L.length then (((iq ops gH).getD y 0:Nat):Int) else gZ (ops.getD y none))=(iq ops gH).map λp:Nat=>(p:Int):=by
   apply List.ext_getElem
   .simp[EH,w1]
   .intro j aq aM
    have aV:j<L.length:=by simpa using aq
    have tv:j<(iq ops gH).length:=by simpa using aM
    simp[aV,List.getD,tv]
  have:=Iw.Bp
  rw[e] at this;exact this

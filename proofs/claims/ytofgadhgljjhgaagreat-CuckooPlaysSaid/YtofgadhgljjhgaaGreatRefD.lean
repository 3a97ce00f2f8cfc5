import Derived.Test.YtofgadhgljjhgaaGreatRefM
import Derived.Test.YtofgadhgljjhgaaGreatDealC
namespace Go.cD
open Go Go.RowKit
theorem aaM:∀(f a b j:Nat),a/2 ^ j=b/2 ^ j->p4 f a b<=j
 | 0,_,_,_,_=>Nat.zero_le _
 | f+1,a,b,j,h=>by
  unfold p4
  split
  .exact Nat.zero_le _
  .rename_i df
   cases j with
   | zero=>simp at h;exact absurd h df
   | succ j =>
    have:=aaM f (a/2) (b/2) j (by rw[Nat.div_div_eq_div_mul,Nat.div_div_eq_div_mul,<-Nat.pow_succ'];exact h)
    omega
theorem arZ {n:Nat}{ops:List (Option Nat)}{gH:List Nat}(jd:pU n ops=gH){c m:Nat}(aZ:c<gH.length)(all:∀y,y<m->(ops.contains (some y)||decide (y∈gH.take c))=true) :
 m<=gH[c]/\((ops.contains (some m)||decide (m∈gH.take c))=false->m=gH[c])/\gH[c]<n:=by
 have ar0:gH.Pairwise (·<·):=by rw[<-jd];exact List.Pairwise.filter _ List.pairwise_lt_range
 have hm:∀y,y∈gH↔y<n/\ops.contains (some y)=false:=by intro y;rw[<-jd];unfold pU;simp
 have PH:gH[c]∈gH:=List.getElem_mem aZ
 have ca:=List.pairwise_iff_getElem.1 ar0
 have xO:gH[c]∉gH.take c:=λh=>by
  obtain⟨j,aV,e⟩:=List.getElem_of_mem h
  rw[List.getElem_take] at e
  have j6:j<c:=by simp at aV;omega
  have:=ca j c (by omega) aZ j6
  omega
 have u:(ops.contains (some gH[c])||decide (gH[c]∈gH.take c))=false:=by rw[((hm _).1 PH).2,decide_eq_false xO];rfl
 have hle:m<=gH[c]:=Nat.le_of_not_lt λh=>by have:=all _ h;rw[u] at this;cases this
 refine⟨hle,λh=>?_,((hm _).1 PH).1⟩
 obtain⟨aa,ad⟩:=Bool.or_eq_false_iff.1 h
 have ad:=of_decide_eq_false ad
 obtain⟨j,aV,e⟩:=List.getElem_of_mem ((hm m).2 ⟨by have:=((hm _).1 PH).1;omega,aa⟩)
 have ar1:c<=j:=Nat.le_of_not_lt λCI=>ad (List.mem_take_iff_getElem.2 ⟨j,by omega,e⟩)
 rcases Nat.lt_or_eq_of_le ar1 with an|an
 .have:=ca c j aZ aV an;omega
 .subst an;exact e.symm
end Go.cD
namespace Go.Proofs.Tryz
open Go Go.cD Go.RowKit
set_option maxRecDepth 8000
theorem aaN {k a b d:Nat}(bV:d<=k)(h:fD k a d=fD k b d):d<=ky k a b:=by
 have:=aaM k a b (k-d) (Nat.add_left_cancel h)
 unfold ky;omega
theorem aaO {k a b:Nat}(ag:k<=10)(bO:a<2 ^ k)(au:b<2 ^ k):eW prog 162 [U (2 ^ k),U a,U b] (U (ky k a b)):=by
 intro h
 refine aqB _ _ _ ?_
 unfold Z8
 refine(PI ag bO h).mono ?_
 rintro _ aa ⟨s1,rfl,cj,aE⟩
 refine⟨_,rfl,(PI ag au aa).mono ?_⟩
 rintro _ ad ⟨s2,rfl,cb,aC⟩
 have ew:=(cj.bD aC).rd
 have fF:=cb.rd
 have h_:=ew.len
 have gx:=fF.len
 rw[tD] at h_ gx
 have bc:fD k a 0=fD k b 0:=by rw[PJ bO,PJ au]
 have sB:=BP k a b
 refine⟨_,rfl,λbG bX aw aA g bP=>bG=s1/\bX=s2/\g=ad/\∃i:Nat,aA=i/\i<=k+1/\aw=(i:Int)-1/\bP=k+1-i/\∀d,d<i->fD k a d=fD k b d,
  ⟨k+1,rfl,rfl,rfl,0,rfl,by omega,rfl,rfl,λd bV=>absurd bV (by omega)⟩,?_⟩
 rintro bG bX aw aA g bP ⟨rfl,rfl,rfl,i,rfl,hi,rfl,rfl,n5⟩
 refine cd (λca=>?_) λdx=>?_
 .have b5:i<k+1:=by omega
  refine dg (decide_eq_true (by omega)) ?_
  refine ew.cp (i:=i) (by rw[tD];exact b5) λq1 _ aQ=>⟨_,aQ,fF.cp (i:=i) (by rw[tD];exact b5) λaJ _ aY=>⟨_,aY,?_⟩⟩
  have g1:(mS k a (k+1))[i]'(by rw[tD];exact b5)=(fD k a i:Int):=by simp[mS]
  have g2:(mS k b (k+1))[i]'(by rw[tD];exact b5)=(fD k b i:Int):=by simp[mS]
  rw[g1,g2]
  refine h4 (λhe=>?_) λhe=>?_
  .have he:fD k a i=fD k b i:=by
    have:=of_decide_eq_true (show decide _=true from he);omega
   refine⟨k+1-(i+1),by omega,rfl,rfl,rfl,i+1,bf (by omega) (by omega),by omega,by omega,rfl,λd bV=>?_⟩
   by_cases c:d=i
   .rw[c];exact he
   .exact n5 d (by omega)
  .have he:¬fD k a i=fD k b i:=λe=>of_decide_eq_false (show decide _=false from he) (by rw[e])
   have h0:i≠0:=λe=>he (by rw[e];exact bc)
   have aa:=aaN (d:=i-1) (by omega) (n5 (i-1) (by omega))
   have ad:¬i<=ky k a b:=λh=>he (OG bO au h (by omega))
   exact⟨by congr 1;omega,aE.trans aC⟩
 .have b5:i=k+1:=by omega
  have aa:=aaN (d:=k) (by omega) (n5 k (by omega))
  exact⟨by congr 1;omega,aE.trans aC⟩
theorem ar2 (a b:UInt64×Int):eW prog 195 [.agg #[ab a.1,U a.2],.agg #[ab b.1,U b.2]] (.bool (decide (b.2<a.2)||(decide (a.2=b.2)&&decide (a.1<b.1)))):=by
 intro h
 refine aro _ _ _ _ ?_
 unfold aak
 refine bM λae aa f1 aF aE=>bM λay ad f2 a8 aC=>⟨_,az (aC.get aF) rfl,_,az a8 rfl,h4 (λc=>⟨?_,aE.trans aC⟩) λc=>⟨_,az (aC.get aF) rfl,_,az a8 rfl,h4 (λd=>⟨_,az (aC.get aF) rfl,_,az a8 rfl,?_,aE.trans aC⟩) λd=>⟨?_,aE.trans aC⟩⟩⟩
 .rw[c];rfl
 .rw[c,d];rfl
 .rw[c,d];rfl
def Gf (b:Bool):List Value:=[.bool b]
theorem PK (b:Bool):(Gf b).length=1:=rfl
abbrev mz (ga g:ak)(s:ar)(n:Nat)(d:Nat->Bool):Prop:=cF 1 Gf ga g s ((List.range n).map d)
theorem mz.zero {h0 h:ak}{b n:Nat}{t:TypeId}{m:Nat}(au:h0 b=none)(e:h b=some (.cells (kT (if m=0 then #[] else Value.cells (.bool false)) m) t (0,0)))(hm:m=n):mz h0 h ⟨some ⟨b,0⟩,n,n,none⟩ n λ_=>false:=by
 subst hm
 refine⟨by simp,Nat.le_refl _,.inr ⟨_,_,_,rfl,au,e,?_,λi hi=>?_⟩⟩
 .rw[show Value.cells (.bool false)=#[.bool false] from rfl,Ii _ _ rfl];simp
 .have pD:(((List.range m).map λ_=>false).flatMap Gf).length=m:=by rw[nu PK];simp
  have b5:i<m:=by rw[pD] at hi;exact hi
  rw[show Value.cells (.bool false)=#[.bool false] from rfl,Ii _ _ rfl,Nat.zero_add]
  have a8:((List.range m).map λ_=>false).flatMap Gf=List.replicate m (.bool false):=by
   have:∀l:List Nat,(l.map λ_=>false).flatMap Gf=List.replicate l.length (.bool false):=λl=>by
    induction l with
    | nil=>rfl
    | cons a l dK=>rw[List.map_cons,List.flatMap_cons,dK];rfl
   rw[this,List.length_range]
  simp[a8,b5]
theorem mz.get {ga g:ak}{s:ar}{n:Nat}{d:Nat->Bool}(A:mz ga g s n d){i:Nat}(hi:i<n){I:Int}(kP:I=i){K:aD->Bool->Prop}(ag:∀q,s.q=some q->K q (d i)) :
 ∃q,s.q=some q/\0<=I/\I+1<=(s.len:Int)/\∃t:Bool,br g q.b (q.o+Int.toNat I*1)=some (.bool t)/\K q t:=by
 subst kP
 refine A.rd.cp PK (i:=i) (by simpa using hi) λq aj r=>?_
 rw[ri hi] at r
 exact⟨_,r.1,ag q aj⟩
theorem mz.set {ga g:ak}{s:ar}{n:Nat}{d:Nat->Bool}(A:mz ga g s n d){i:Nat}(hi:i<n){I:Int}(kP:I=i)(e:Bool){K:ak->Prop}
 (ag:∀bo,mz ga bo s n (λx=>if x=i then e else d x)->(∀b,(∀q,s.q=some q->b≠q.b)->bo b=g b)->K bo) :
 ∃q,s.q=some q/\0<=I/\I+1<=(s.len:Int)/\aX g ⟨q.b,q.o+Int.toNat I*1⟩ [.bool e] K:=by
 subst kP
 have aT:=A.len
 simp only[List.length_map,List.length_range] at aT
 obtain⟨q,aj⟩:=A.rd.ptr (by simp;omega)
 exact⟨q,aj,by omega,by omega,uD PK A aj hi e λbo gF iE=>ag bo gF λb au=>iE b (au q aj)⟩
def hE (l:List Nat):List Int:=l.map λx:Nat=>(x:Int)
theorem PL (l:List Nat)(x:Nat):hE l++[(x:Int)]=hE (l++[x]):=by simp[hE]
theorem ar3 {h:ak}{s:ar}{L:List (UInt64×Int)}(r:fN oM h s L)(aH:L.length<=1000000)(dY:∀x∈L,x.2<=1000)(e4:Io L) :
 ao 184 [bb s] h λv ah=>∃cX,v=bb cX/\gC h ah cX L.length (λi:Nat=>(i:Int))/\bL h ah:=by
 have hlen:=r.len
 obtain⟨iW,J7⟩:∃iW,iW=gg (L.map (·.2)):=⟨_,rfl⟩
 have hle:iW<=L.length:=by rw[J7];have:=tx (L.map (·.2));simpa using this
 have rJ:∀i (hi:i<L.length),(L.map (·.2)).getD i 0=L[i].2:=λi hi=>by simp[List.getD,hi]
 have pos:∀i (hi:i<L.length),i<iW->0<=L[i].2:=λi hi ca=>by
  have:=Il (L.map (·.2)) i (by omega);rwa [rJ i hi] at this
 have aaP:∀i (hi:i<L.length),L.getD i rI=L[i]:=λi hi=>by simp[List.getD,hi]
 have ord:∀i j (n7:i<=j) (aV:j<L.length),jr (L[i]'(by omega))<=jr L[j]:=λi j n7 aV=>by
  have:=e4 i j n7 aV;rwa [aaP i (by omega),aaP j aV] at this
 have neg:∀i (hi:i<L.length),iW<=i->L[i].2<0:=λi hi J8=>by
  have h0:iW<L.length:=by omega
  have aa:=Ik (L.map (·.2)) iW (by simpa using h0) J7
  rw[rJ iW h0] at aa
  have ad:=ord iW i J8 hi
  by_cases c:L[i].2<0
  .exact c
  .have:=UInt64.toNat_lt L[i].1
   unfold jr at ad;rw[if_pos aa,if_neg c] at ad
   have:(1000-L[i].2.toNat)<=1000:=by omega
   omega
 have ar4:∀n i (J8:n<i) (hi:i<L.length),i<iW->(decide ((L[n]'(by omega)).2<L[i].2)||(decide (L[i].2=(L[n]'(by omega)).2)&&decide (L[i].1<(L[n]'(by omega)).1)))=false:=λn i J8 hi n6=>by
  have aa:=ord n i (by omega) hi
  have gX:=pos i hi n6
  have h9:=pos n (by omega) (by omega)
  have q1:=dY _ (List.getElem_mem hi)
  have aJ:=dY _ (List.getElem_mem (show n<L.length by omega))
  unfold jr at aa
  rw[if_neg (by omega),if_neg (by omega)] at aa
  have lr:=UInt64.toNat_lt L[i].1
  have rn:=UInt64.toNat_lt (L[n]'(by omega)).1
  rw[Bool.or_eq_false_iff,Bool.and_eq_false_iff]
  refine⟨decide_eq_false (by omega),?_⟩
  by_cases c:L[i].2=(L[n]'(by omega)).2
  .right
   apply decide_eq_false
   rw[UInt64.lt_iff_toNat_lt]
   rw[c] at aa;omega
  .exact .inl (decide_eq_false c)
 clear ord e4
 refine aq7 _ ?_
 unfold aag
 refine⟨by omega,by omega,by omega,by omega,bM λae aa f1 aF aE=>?_⟩
 let kb:ar:=⟨some ⟨ae,0⟩,s.len,s.len,none⟩
 have Eu:mz h aa kb s.len λ_=>false:=mz.zero f1 aF (by omega)
 refine⟨λeF hf gS g=>eF=s/\hf=kb/\mz h g kb s.len (λx=>decide (x<iW))/\cW eR h g gS (hE (List.range iW))/\(∀q,gS.q=some q->q.b≠ae)/\bL h g,?_,?_⟩
 .refine⟨λs1 s2 bG aw g bP=>s1=s/\s2=kb/\∃n:Nat,aw=n/\n<=iW/\bP=s.len-n/\mz h g kb s.len (λx=>decide (x<n))/\cW eR h g bG (hE (List.range n))/\(∀q,bG.q=some q->q.b≠ae)/\bL h g,
   ⟨s.len,rfl,rfl,0,rfl,by omega,rfl,by simpa using Eu,cW.gD _ _ _,(λq aj=>by cases aj),aE⟩,?_⟩
  rintro s1 s2 bG aw g bP ⟨rfl,rfl,n,rfl,nC,rfl,e0,ei,sep,cO⟩
  refine cd (λca=>?_) λdx=>?_
  .have Gg:n<L.length:=by omega
   refine⟨λbX c5 cl aA aL aO bo bP=>bX=s1/\c5=kb/\cl=bG/\aA=n/\bL g bo/\∃i:Nat,aO=i/\i<=s1.len/\bP=s1.len-i/\aL=(if n<i/\n<iW then (n:Int) else -1),
    ⟨s1.len,rfl,rfl,rfl,rfl,bL.refl _,0,rfl,by omega,rfl,by rw[if_neg (by omega)]⟩,?_⟩
   rintro bX c5 cl aA aL aO bo bP ⟨rfl,rfl,rfl,rfl,hI,i,rfl,hi,rfl,rfl⟩
   have gF:mz h bo kb bX.len _:=e0.bD hI
   have e5:=r.bD lB (cO.trans hI)
   refine cd (λmR=>?_) λwP=>?_
   .have b5:i<L.length:=by omega
    refine gF.get (i:=i) (by omega) rfl λq _=>?_
    by_cases c:i<n
    .rw[decide_eq_true c]
     exact bS rfl ⟨bX.len-(i+1),by omega,rfl,rfl,rfl,rfl,hI,i+1,bf (by omega) (by omega),by omega,rfl,by rw[if_neg (by omega),if_neg (by omega)]⟩
    .rw[decide_eq_false c]
     refine dg rfl (e5.cp lB b5 λaJ _ sA=>⟨_,sA.2.1,?_⟩)
     by_cases gG:i<iW
     .refine dg (decide_eq_true (pos i b5 gG)) ?_
      by_cases ce:i=n
      .subst ce
       rw[if_neg (by omega)]
       exact dg rfl ⟨bX.len-(i+1),by omega,rfl,rfl,rfl,rfl,hI,i+1,bf (by omega) (by omega),by omega,rfl,by rw[if_pos (by omega)]⟩
      .rw[if_pos (by omega)]
       refine bS (decide_eq_false (by omega)) (e5.cp lB b5 λbd _ n8=>⟨_,n8.1,_,n8.2.1,e5.cp lB Gg λbI _ sP=>⟨_,sP.1,_,sP.2.1,(ar2 L[i] L[n]).to λg2 aC=>⟨_,rfl,?_⟩⟩⟩)
       rw[ar4 n i (by omega) b5 gG]
       exact bS rfl ⟨bX.len-(i+1),by omega,rfl,rfl,rfl,rfl,hI.trans aC,i+1,bf (by omega) (by omega),by omega,rfl,by rw[if_pos (by omega)]⟩
     .refine bS (decide_eq_false (by have:=neg i b5 (by omega);omega)) ⟨bX.len-(i+1),by omega,rfl,rfl,rfl,rfl,hI,i+1,bf (by omega) (by omega),by omega,rfl,?_⟩
      by_cases nd:n<iW
      .rw[if_pos (by omega),if_pos (by omega)]
      .rw[if_neg (by omega),if_neg (by omega)]
   .have b5:i=bX.len:=by omega
    subst b5
    by_cases nd:n<iW
    .rw[if_pos (by omega)]
     refine bS (decide_eq_false (by omega)) (gF.set (i:=n) (by omega) rfl true λg2 ec cb=>?_)
     have fe:cW eR h g2 cl (hE (List.range n)):=(ei.bD hI).move λq aj=>cb _ λdL eB=>by cases eB;exact sep q aj
     have m6:bL h g2:=λy aB=>by
      rw[cb y λq aj e=>by cases aj;exact aB (e▸f1)];exact(cO.trans hI) y aB
     refine Bt fe (λb au=>m6.free au) (n:Int) (by simp[hE];omega) λcX g3 kJ f3 rH aL=>⟨bX.len-(n+1),by omega,rfl,rfl,n+1,bf (by omega) (by omega),by omega,rfl,?_,?_,λdL eB=>?_,Bk fe m6 f3⟩
     .have e:(λx=>decide (x<n+1))=λx=>if x=n then true else decide (x<n):=by
       funext x;by_cases c:x=n
       .rw[if_pos c];simp[c]
       .rw[if_neg c,Bool.eq_iff_iff];simp;omega
      rw[e]
      exact ec.move λq aj=>by cases aj;exact f3 _ (ec.bl (q:=⟨ae,0⟩) rfl).2 λdL eB e=>sep dL eB e.symm
     .rw[List.range_succ,<-PL];exact kJ
     .rcases rH dL eB with ⟨q,aj,e⟩|au
      .rw[e];exact sep q aj
      .exact λe=>(ec.bl (q:=⟨ae,0⟩) rfl).2 (e▸au)
    .have:n=iW:=by omega
     subst this
     rw[if_neg (by omega)]
     exact dg rfl ⟨rfl,rfl,gF,ei.bD hI,sep,cO.trans hI⟩
  .have:n=iW:=by omega
   subst this
   exact⟨rfl,rfl,e0,ei,sep,cO⟩
 .rintro eF hf gS g ⟨rfl,rfl,e0,ei,sep,cO⟩
  refine⟨λs1 s2 bG aw g bP=>s1=eF/\s2=kb/\∃i:Nat,aw=i/\i<=eF.len/\bP=eF.len-i/\mz h g kb eF.len (λx=>decide (x<iW))/\cW eR h g bG (hE (List.range (max iW i)))/\(∀q,bG.q=some q->q.b≠ae)/\bL h g,
   ⟨eF.len,rfl,rfl,0,rfl,by omega,rfl,e0,by rw[Nat.max_eq_left (by omega)];exact ei,sep,cO⟩,?_⟩
  rintro s1 s2 bG aw g2 bP ⟨rfl,rfl,i,rfl,hi,rfl,ec,fe,PM,sE⟩
  refine cd (λca=>?_) λdx=>?_
  .refine ec.get (i:=i) (by omega) rfl λq _=>?_
   by_cases c:i<iW
   .rw[decide_eq_true c]
    exact bS rfl ⟨s1.len-(i+1),by omega,rfl,rfl,i+1,bf (by omega) (by omega),by omega,rfl,ec,by rw[show max iW (i+1)=max iW i by omega];exact fe,PM,sE⟩
   .rw[decide_eq_false c]
    refine dg rfl ?_
    refine Bt fe (λb au=>sE.free au) (i:Int) (by simp[hE];omega) λcX g3 kJ f3 rH aL=>⟨s1.len-(i+1),by omega,rfl,rfl,i+1,bf (by omega) (by omega),by omega,rfl,?_,?_,λdL eB=>?_,Bk fe sE f3⟩
    .exact ec.move λq aj=>by cases aj;exact f3 _ (ec.bl (q:=⟨ae,0⟩) rfl).2 λdL eB e=>PM dL eB e.symm
    .rw[show max iW (i+1)=i+1 by omega,List.range_succ,<-PL]
     rw[show max iW i=i by omega] at kJ;exact kJ
    .rcases rH dL eB with ⟨q,aj,e⟩|au
     .rw[e];exact PM q aj
     .exact λe=>(ec.bl (q:=⟨ae,0⟩) rfl).2 (e▸au)
  .have b5:i=s1.len:=by omega
   subst b5
   rw[show max iW s1.len=L.length by omega] at fe
   exact⟨_,rfl,UZ.1 fe,sE⟩
theorem ar5 {k s t:Nat}(o:uG k s t){h:ak}{x:ar}{L:List (UInt64×Int)}(r:fN oM h x L)(hlen:L.length=s*(k+1)+t+1)(dY:∀x∈L,x.2<=k)(e4:Io L) :
 ao 164 [.agg #[U k,U s,U t],bb x] h λv ah=>∃s1 s2,v= .tuple #[bb s1,bb s2]/\cW eR h ah s1 (hE (kX k s t (L.map (·.2))))/\cW eR h ah s2 (hE (ld k s t (L.map (·.2))))/\bL h ah:=by
 have Ey:=r.len
 have os:=o.s;have Vg:=o.t;have sz:=o.d
 have Br:=yw os.1 os.2 sz.1 sz.2
 have Vr:((s*(k+1):Nat):Int)=(s:Int)*((k:Int)+1):=by simp
 have uT:L.length<=153:=by rw[hlen];omega
 have Nb:∀y∈L,y.2<=1000:=λy aB=>by have:=dY y aB;omega
 generalize o9:L.map (·.2)=cY at *
 have sB:cY.length=L.length:=by rw[<-o9];simp
 have te:=tx cY
 have lz:tw k s t (gL k):=⟨by simp[gL],(show 0<s by omega),by simp[gL]⟩
 have yZ:=Ip k s t cY (gL k)
 generalize sC:im k s t cY (gL k)=ops at *
 have wf:=M4 cY (gL k) lz (show -1<=(k:Int) by omega)
 have M6:∀i,i<gg cY->ops.getD i none=(il k s t (lD k s t cY (gL k) i) (cY.getD i 0)).2:=λi hi=>by rw[<-sC];exact M1 k s t cY _ i hi
 have Ez:∀i,gg cY<=i->ops.getD i none=none:=λi hi=>by rw[<-sC];exact Vk k s t cY _ lz hi
 obtain⟨i1,i2,_,_,_⟩:=Ew cY (gL k) lz
 rw[sC] at i1 i2
 have n4:=M7 (n:=L.length) ops (by rw[yZ,sB]) i2 λp aS=>by have:=(i1 p aS).2;omega
 have lV:kX k s t cY=iq ops (pU L.length ops):=by unfold kX;rw[sC,sB]
 have EA:ld k s t cY=(List.range (gg cY)).filter λi=>ops.getD i none==none:=by unfold ld;rw[sC]
 have rJ:∀i (hi:i<L.length),cY.getD i 0=L[i].2:=λi hi=>by rw[<-o9];simp[List.getD,hi]
 have w1:ops.length=L.length:=by rw[yZ,sB]
 rw[lV,EA]
 refine aqF _ _ _ _ ?_
 unfold Z_
 refine bM λae aa f1 aF aE=>k7 aF ?_
 refine(PN o).to λad aC=>⟨_,rfl,bS rfl (k7 (aC.get aF) ?_)⟩
 refine(J9 o).to λan aI=>⟨_,rfl,bS (by rw[Ey,hlen];simp) ⟨by omega,by omega,by omega,by omega,bM λay aK f4 b1 bh=>⟨by omega,by omega,by omega,by omega,bM λaN aR f5 cy bE=>?_⟩⟩⟩
 have jL:=(aE.trans (aC.trans aI)).trans (bh.trans bE)
 have f20:h ay=none:=(aE.trans (aC.trans aI)).free f4
 have f30:h aN=none:=((aE.trans (aC.trans aI)).trans bh).free f5
 refine(ar3 (r.bD lB jL) (by omega) Nb e4).mono ?_
 rintro _ bp ⟨EC,rfl,u9,tA⟩
 have wQ:=jL.trans tA
 have q2:=tA.get ((aC.trans aI).trans (bh.trans bE) |>.get aF)
 have cZ:ay≠ae:=λe=>by rw[e,(aC.trans aI).get aF] at f4;cases f4
 have n31:aN≠ae:=λe=>by rw[e,((aC.trans aI).trans bh).get aF] at f5;cases f5
 have n32:aN≠ay:=λe=>by rw[e,b1] at f5;cases f5
 have Iq:=u9.len
 simp only[List.length_map,List.length_range] at Iq
 obtain⟨pP,qE⟩:=u9.rd.ptr (by simp;omega)
 have sD:=(u9.bl qE).1
 have azx:pP.b≠ae:=λe=>by rw[e,((aC.trans aI).trans (bh.trans bE)).get aF] at sD;cases sD
 have Ir:pP.b≠ay:=λe=>by rw[e,bE.get b1] at sD;cases sD
 have ar6:pP.b≠aN:=λe=>by rw[e,cy] at sD;cases sD
 let sp:ar:=⟨some ⟨ay,0⟩,L.length,L.length,none⟩
 let cr:ar:=⟨some ⟨aN,0⟩,L.length,L.length,none⟩
 have ar7:gC h bp sp L.length λ_=>0:=(gC.zero f20 b1 (by omega)).bD (bE.trans tA)
 have ar8:mz h bp cr L.length λ_=>false:=(mz.zero f30 cy (by omega)).bD tA
 let uf:Nat->List Nat:=λi=>(List.range i).filter λi=>ops.getD i none==none
 have a_:∀i,uf (i+1)=uf i++if ops.getD i none=none then [i] else []:=λi=>by
  show(List.range (i+1)).filter _=_
  rw[List.range_succ,List.filter_append]
  congr 1
  rw[List.filter_cons,List.filter_nil]
  cases aZ:ops.getD i none<;>rfl
 have ar9:∀i,(uf i).length<=i:=λi=>by
  have:=List.length_filter_le (λi=>ops.getD i none==none) (List.range i)
  rwa [List.length_range] at this
 let Sep:ar->Prop:=λlo=>∀q,lo.q=some q->q.b≠ae/\q.b≠ay/\q.b≠aN/\q.b≠pP.b
 let W:Nat->Nat->ar->ak->Prop:=λi j lo g=>bL h g/\g ae=bp ae/\gC h g sp L.length (λy=>if y<i then gZ (ops.getD y none) else -1)/\mz h g cr L.length (λy=>(ops.take i).contains (some y))/\cW eR h g lo (hE (uf j))/\Sep lo/\gC aR g EC L.length λy:Nat=>(y:Int)
 rw[Ey]
 refine⟨_,rfl,_,az q2 rfl,λs2 q1 bG bX c5 b9 cK cL cl cA g bP=>s2=x/\q1=⟨ae,0⟩/\bG=sp/\bX=cr/\c5=EC/\b9=(k:Nat)/\cK=0/\cL=0/\cl=⟨none,0,0,none⟩/\∃i:Nat,cA=i/\i<=L.length/\bP=L.length-i/\gC h g sp L.length (λy=>if y<i then -1 else 0)/\∀y,y≠ay->g y=bp y,
  ⟨L.length,rfl,rfl,rfl,rfl,rfl,rfl,rfl,rfl,rfl,0,rfl,by omega,rfl,by simpa using ar7,λ_ _=>rfl⟩,?_⟩
 rintro s2 q1 bG bX c5 b9 cK cL cl cA g bP ⟨rfl,rfl,rfl,rfl,rfl,rfl,rfl,rfl,rfl,i,rfl,hi,rfl,ka,hK⟩
 refine cd (λca=>?_) λdx=>?_
 .refine ka.set (i:=i) (by omega) rfl (-1) λg2 ec cb=>⟨L.length-(i+1),by omega,rfl,rfl,rfl,rfl,rfl,rfl,rfl,rfl,rfl,i+1,bf (by omega) (by omega),by omega,rfl,?_,λy aB=>(cb y λq aj e=>aB (by cases aj;exact e)).trans (hK y aB)⟩
  have e:(λx:Nat=>if x=i then (-1:Int) else if x<i then -1 else 0)=λx=>if x<i+1 then -1 else 0:=by
   funext x;repeat' split
   all_goals first|rfl|omega
  rw[e] at ec;exact ec
 have b5:i=L.length:=by omega
 subst b5
 have PO:W 0 0 ⟨none,0,0,none⟩ g:=by
  refine⟨λy aB=>(hK y λe=>aB (e▸f20)).trans (wQ y aB),hK ae (Ne.symm cZ),?_,?_,cW.gD _ _ _,(λq aj=>by cases aj),u9.move λq aj=>by rw[qE] at aj;cases aj;exact hK _ Ir⟩
  .have e:(List.range L.length).map (λx:Nat=>if x<L.length then (-1:Int) else 0)=(List.range L.length).map λx:Nat=>if x<0 then gZ (ops.getD x none) else -1:=List.map_congr_left λx ai=>by rw[if_pos (List.mem_range.1 ai),if_neg (by omega)]
   have PQ:=ka
   unfold gC at PQ
   rw[e] at PQ;exact PQ
  .have e:(λy:Nat=>(ops.take 0).contains (some y))=λ_=>false:=by funext y;simp
   rw[e];exact ar8.move λq aj=>by cases aj;exact hK _ n32
 clear ka hK
 refine⟨λeb eF hf ig g=>eb=s2/\eF=sp/\hf=cr/\bL h g/\gC h g sp L.length (λy=>gZ (ops.getD y none))/\mz h g cr L.length (λy=>ops.contains (some y))/\cW eR h g ig (hE (uf (gg cY)))/\Sep ig,?_,?_⟩
 .refine⟨λeb bd eF hf gS cJ dd dV ig di g bP=>eb=s2/\bd=⟨ae,0⟩/\eF=sp/\hf=cr/\gS=c5/\∃i:Nat,di=i/\i<=gg cY/\bP=L.length-i/\cJ=(lD k s t cY (gL k) i).b2/\dd=((lD k s t cY (gL k) i).on:Nat)/\dV=((lD k s t cY (gL k) i).st:Nat)/\W i i ig g,
   ⟨L.length,rfl,rfl,rfl,rfl,rfl,0,rfl,by omega,rfl,rfl,rfl,rfl,PO⟩,?_⟩
  clear PO
  rintro eb bd eF hf gS cJ dd dV ig di g bP ⟨rfl,rfl,rfl,rfl,rfl,i,rfl,hi,rfl,rfl,rfl,rfl,cO,q3,ka,h1,pw,sep,qb⟩
  have done:i=gg cY->eb=eb/\sp=sp/\cr=cr/\bL h g/\gC h g sp L.length (λy=>gZ (ops.getD y none))/\mz h g cr L.length (λy=>ops.contains (some y))/\cW eR h g ig (hE (uf (gg cY)))/\Sep ig:=λho=>by
   have aF:(λy=>if y<i then gZ (ops.getD y none) else -1)=λy=>gZ (ops.getD y none):=by
    funext y
    by_cases c:y<i
    .rw[if_pos c]
    .rw[if_neg c,Ez y (by omega)];rfl
   have pa:(λy:Nat=>(ops.take i).contains (some y))=λy:Nat=>ops.contains (some y):=by
    funext y
    rw[Bool.eq_iff_iff]
    simp only[List.contains_eq_mem,decide_eq_true_eq]
    constructor
    .exact λh=>List.mem_of_mem_take h
    .intro hm
     obtain⟨j,aV,e⟩:=List.getElem_of_mem hm
     have Nd:j<i:=by
      rcases Nat.lt_or_ge j i with c|c
      .exact c
      .have:=Ez j (by omega)
       simp[List.getD,aV,e] at this
     rw[<-e]
     exact List.mem_take_iff_getElem.2 ⟨j,by omega,rfl⟩
   exact⟨rfl,rfl,rfl,cO,aF▸ka,pa▸h1,ho▸pw,sep⟩
  have rg:=r.bD lB cO
  have zR:=q3.trans q2
  refine cd (λca=>?_) λdx=>done (by omega)
  have hT:i<L.length:=by omega
  refine qb.get hT rfl λq _=>rg.cp lB hT λaJ _ sA=>⟨_,sA.2.1,?_⟩
  by_cases aS:0<=L[i].2
  rotate_left
  .refine bS (decide_eq_false aS) (done ?_)
   rcases Nat.lt_or_ge i (gg cY) with c|c
   .have:=Il cY i c;rw[rJ i hT] at this;omega
   .omega
  have ho:i<gg cY:=by
   rcases Nat.lt_or_ge i (gg cY) with c|c
   .exact c
   .have:=Ik cY i (by omega) (by omega);rw[rJ i hT] at this;omega
  refine dg (decide_eq_true aS) ?_
  have lQ:=M6 i ho
  rw[rJ i hT] at lQ
  have j7:lD k s t cY (gL k) (i+1)=(il k s t (lD k s t cY (gL k) i) L[i].2).1:=by
   show(il k s t (lD k s t cY (gL k) i) (cY.getD i 0)).1=_;rw[rJ i hT]
  obtain⟨sw,wl⟩:=wf i hi
  have azy:=sw.b2;have azz:=sw.on;have azA:=sw.st
  have aaQ:=dY _ (List.getElem_mem hT)
  generalize lD k s t cY (gL k) i=X at *
  generalize bV:L[i].2=d at *
  obtain⟨sX,lC⟩:∃l,l=if d<X.b2 then d else X.b2:=⟨_,rfl⟩
  obtain⟨rV,jj⟩:∃l,l=if d<X.b2 then 0 else X.on:=⟨_,rfl⟩
  have fp:il k s t X d=(if sX<0 then (if X.st=t then (⟨sX,rV,X.st⟩,none) else (⟨sX,rV,X.st+1⟩,some (s*(k+1)+X.st))) else (if rV+1=s then ⟨sX-1,0,X.st⟩ else ⟨sX,rV+1,X.st⟩,some (sX.toNat*s+rV))):=by rw[lC,jj];rfl
  have azB:sX<=k:=by rw[lC];split<;>omega
  have azC:rV<s:=by rw[jj];split<;>omega
  refine⟨λh6 ez kc oP pb fc fs n25 mQ n26 bo=>h6=eb/\ez=⟨ae,0⟩/\kc=sp/\oP=cr/\pb=gS/\fc=sX/\fs=(rV:Nat)/\n25=(X.st:Nat)/\mQ=ig/\n26=(i:Nat)/\bo=g,?_,?_⟩
  .refine qb.get hT rfl λq _=>rg.cp lB hT λaJ _ sA=>⟨_,sA.2.1,?_⟩
   rw[bV]
   refine cd (λc=>?_) λc=>?_
   .refine qb.get hT rfl λq _=>rg.cp lB hT λaJ _ sA=>⟨_,sA.2.1,?_⟩
    rw[bV]
    exact⟨rfl,rfl,rfl,rfl,rfl,by rw[lC,if_pos c],by rw[jj,if_pos c];rfl,rfl,rfl,rfl,rfl⟩
   .exact⟨rfl,rfl,rfl,rfl,rfl,by rw[lC,if_neg c],by rw[jj,if_neg c],rfl,rfl,rfl,rfl⟩
  rintro h6 ez kc oP pb fc fs n25 mQ n26 bo ⟨rfl,rfl,rfl,rfl,rfl,rfl,rfl,rfl,rfl,rfl,rfl⟩
  refine⟨λpV gN n9 xC xD n33 n34 n35 CB n36 n37 g=>pV=h6/\gN=⟨ae,0⟩/\n9=sp/\xC=cr/\xD=pb/\n33=(il k s t X d).1.b2/\n34=((il k s t X d).1.on:Nat)/\n35=((il k s t X d).1.st:Nat)/\n36=(i:Nat)/\n37=gZ (ops.getD i none)/\W i (i+1) CB g,?_,?_⟩
  .have aaR:ops.getD i none≠none->uf (i+1)=uf i:=λdf=>by rw[a_ i,if_neg df,List.append_nil]
   by_cases kH:fc<0
   .rw[if_pos kH] at fp
    refine bS (decide_eq_false (by omega)) ⟨_,az zR rfl,?_⟩
    by_cases aaS:X.st=t
    .rw[if_pos aaS] at fp
     rw[fp] at lQ
     refine bS (decide_eq_false (by omega)) (qb.get hT rfl λq _=>Bt pw (λb au=>cO.free au) (i:Int) (by have:=ar9 i;simp[hE];omega) λcX g4 iU tB tC ait=>?_)
     have off:∀y,bo y≠none->(∀q,mQ.q=some q->y≠q.b)->g4 y=bo y:=tB
     have ar_:=off ae (by rw[zR];simp) λq aj e=>(sep q aj).1 e.symm
     have asa:=off ay (ka.bl (q:=⟨ay,0⟩) rfl).2 λq aj e=>(sep q aj).2.1 e.symm
     have asb:=off aN (h1.bl (q:=⟨aN,0⟩) rfl).2 λq aj e=>(sep q aj).2.2.1 e.symm
     have asc:=off pP.b (qb.bl qE).2 λq aj e=>(sep q aj).2.2.2 e.symm
     refine⟨rfl,rfl,rfl,rfl,rfl,by rw[fp],by rw[fp],by rw[fp],rfl,by rw[lQ];rfl,Bk pw cO tB,ar_.trans q3,ka.move λq aj=>(by cases aj;exact asa),h1.move λq aj=>(by cases aj;exact asb),?_,λdL eB=>?_,qb.move λq aj=>(by rw[qE] at aj;cases aj;exact asc)⟩
     .rw[a_ i,if_pos lQ,<-PL];exact iU
     .rcases tC dL eB with ⟨q,aj,e⟩|aH
      .rw[e];exact sep q aj
      .refine⟨λe=>?_,λe=>?_,λe=>?_,λe=>?_⟩
       .rw[e,zR] at aH;cases aH
       .exact(ka.bl (q:=⟨ay,0⟩) rfl).2 (e▸aH)
       .exact(h1.bl (q:=⟨aN,0⟩) rfl).2 (e▸aH)
       .exact(qb.bl qE).2 (e▸aH)
    .rw[if_neg aaS] at fp
     rw[fp] at lQ
     refine dg (decide_eq_true (by omega)) ⟨_,az zR rfl,_,az zR rfl,rfl,rfl,rfl,rfl,rfl,by rw[fp],by rw[fp],?_,rfl,?_,cO,q3,ka,h1,by rw[aaR (by rw[lQ];simp)];exact pw,sep,qb⟩
     .rw[fp,bf (by omega) (by omega)];simp
     .rw[lQ,bf (n:=(k:Int)+1) (by omega) (by omega),<-Vr,bf (n:=((s*(k+1):Nat):Int)) (by omega) (by omega),bf (by omega) (by omega)]
      show _=((s*(k+1)+X.st:Nat):Int)
      omega
   .rw[if_neg kH] at fp
    have aaT:ops.getD i none=some (fc.toNat*s+rV):=by rw[lQ,fp]
    have azD:fc.toNat*s<=10*8:=Nat.mul_le_mul (by omega) (by omega)
    have asd:al (al (fc*(s:Int))+(rV:Nat))=gZ (ops.getD i none):=by
     have aF:fc*(s:Int)=((fc.toNat*s:Nat):Int):=by rw[Int.natCast_mul];congr 1;omega
     rw[aaT,aF,bf (n:=((fc.toNat*s:Nat):Int)) (by omega) (by omega),bf (by omega) (by omega)]
     show _=((fc.toNat*s+rV:Nat):Int)
     omega
    have aaU:cW eR h bo mQ (hE (uf (i+1))):=by rw[aaR (by rw[aaT];simp)];exact pw
    refine dg (decide_eq_true (by omega)) ⟨_,az zR rfl,_,az zR rfl,?_⟩
    rw[asd,bf (n:=((rV:Nat):Int)+1) (by omega) (by omega)]
    by_cases aU:rV+1=s
    .rw[if_pos aU] at fp
     refine dg (decide_eq_true (by omega)) ⟨rfl,rfl,rfl,rfl,rfl,by rw[fp,bf (by omega) (by omega)],by rw[fp];rfl,by rw[fp],rfl,rfl,cO,q3,ka,h1,aaU,sep,qb⟩
    .rw[if_neg aU] at fp
     refine bS (decide_eq_false (by omega)) ⟨rfl,rfl,rfl,rfl,rfl,by rw[fp],by rw[fp];simp,by rw[fp],rfl,rfl,cO,q3,ka,h1,aaU,sep,qb⟩
  rintro pV gN n9 xC xD n33 n34 n35 CB n36 n37 g ⟨rfl,rfl,rfl,rfl,rfl,rfl,rfl,rfl,rfl,rfl,cO,q3,ka,h1,pw,sep,qb⟩
  rw[<-j7]
  have rL:i<ops.length:=by rw[w1];exact hT
  have bw:ops.take (i+1)=ops.take i++[ops.getD i none]:=by
   rw[List.take_add_one,List.getElem?_eq_getElem rL];simp[List.getD,rL]
  cases aZ:ops.getD i none with
  | none =>
   refine bS (decide_eq_false (by simp[gZ])) ⟨L.length-(i+1),by omega,rfl,rfl,rfl,rfl,rfl,i+1,bf (by omega) (by omega),by omega,rfl,rfl,rfl,rfl,cO,q3,?_,?_,pw,sep,qb⟩
   .have e:(λy=>if y<i+1 then gZ (ops.getD y none) else -1)=λy=>if y<i then gZ (ops.getD y none) else -1:=by
     funext y
     by_cases c:y<i
     .rw[if_pos c,if_pos (by omega)]
     .rw[if_neg c]
      by_cases cc:y=i
      .rw[if_pos (by omega),cc,aZ];rfl
      .rw[if_neg (by omega)]
    rw[e];exact ka
   .have e:(λy:Nat=>(ops.take (i+1)).contains (some y))=λy:Nat=>(ops.take i).contains (some y):=by
     funext y;rw[bw,aZ];simp
    rw[e];exact h1
  | some p =>
   have Jb:p<L.length:=by
    have:=(i1 p (by
     have:ops[i]=some p:=by simpa [List.getD,rL] using aZ
     rw[<-this];exact List.getElem_mem rL)).2;omega
   refine dg (decide_eq_true (by simp only[gZ];omega)) (qb.get hT rfl λq _=>ka.set (i:=i) hT rfl (p:Int) λg4 hp dr=>?_)
   refine mz.set (h1.move (ah:=g4) λq aj=>dr _ λdL eB=>by cases aj;cases eB;exact n32) (i:=p) Jb rfl true λg5 js cm=>?_
   have hK:∀y,y≠ay->y≠aN->g5 y=g y:=λy aa ad=>(cm y λq aj=>by cases aj;exact ad).trans (dr y λq aj=>by cases aj;exact aa)
   refine⟨L.length-(i+1),by omega,rfl,rfl,rfl,rfl,rfl,i+1,bf (by omega) (by omega),by omega,rfl,rfl,rfl,rfl,λy aB=>?_,(hK ae (Ne.symm cZ) (Ne.symm n31)).trans q3,?_,?_,pw.move λq aj=>hK _ (sep q aj).2.1 (sep q aj).2.2.1,sep,qb.move λq aj=>by rw[qE] at aj;cases aj;exact hK _ Ir ar6⟩
   .rw[hK y (λe=>aB (e▸f20)) (λe=>aB (e▸f30))];exact cO y aB
   .have e:(λy=>if y<i+1 then gZ (ops.getD y none) else -1)=λy=>if y=i then (p:Int) else if y<i then gZ (ops.getD y none) else -1:=by
     funext y
     by_cases cc:y=i
     .rw[if_pos (by omega),if_pos cc,cc,aZ];rfl
     .rw[if_neg cc]
      by_cases c:y<i
      .rw[if_pos c,if_pos (by omega)]
      .rw[if_neg c,if_neg (by omega)]
    rw[e];exact hp.move λq aj=>cm _ λdL eB=>by cases eB;cases aj;exact Ne.symm n32
   .have e:(λy:Nat=>(ops.take (i+1)).contains (some y))=λy:Nat=>if y=p then true else (ops.take i).contains (some y):=by
     funext y;rw[bw,aZ]
     by_cases c:y=p
     .simp[c]
     .simp[c]
    rw[e];exact js
 rintro JT Po Pp zn g ⟨rfl,rfl,rfl,cO,ka,h1,pw,sep⟩
 clear PO
 generalize jd:pU L.length ops=gH at *
 let q4:Nat->Nat->Bool:=λc y=>ops.contains (some y)||decide (y∈gH.take c)
 refine⟨λxE vL CC xF n39 n40 g bP=>xE=JT/\vL=sp/\CC=cr/\xF=zn/\∃i m:Nat,n40=i/\n39=m/\i<=L.length/\bP=L.length-i/\bL h g/\gC h g sp L.length (λy=>if y<i then ((iq ops gH).getD y 0:Nat) else gZ (ops.getD y none))/\mz h g cr L.length (q4 (iz (ops.take i)))/\cW eR h g zn (hE (uf (gg cY)))/\m<=L.length/\∀y,y<m->q4 (iz (ops.take i)) y=true,
  ⟨L.length,rfl,rfl,rfl,rfl,0,0,rfl,rfl,by omega,rfl,cO,by simpa using ka,?_,pw,by omega,λy aB=>absurd aB (by omega)⟩,?_⟩
 .have e:q4 (iz (ops.take 0))=λy:Nat=>ops.contains (some y):=by funext y;simp[q4,iz]
  rw[e];exact h1
 clear ka h1 pw cO
 rintro xE vL CC xF n39 n40 g bP ⟨rfl,rfl,rfl,rfl,i,m,rfl,rfl,hi,rfl,cO,ka,h1,pw,ase,n5⟩
 refine cd (λca=>?_) λdx=>?_
 .have hT:i<L.length:=by omega
  have r_:=Im ops gH i (by rw[w1];exact hT)
  have pc:=Vm ops (i:=i) (by rw[w1];exact hT)
  refine ka.get hT rfl λq _=>?_
  rw[if_neg (Nat.lt_irrefl i)]
  cases aZ:ops.getD i none with
  | none =>
   rw[aZ] at r_ pc
   rw[if_pos rfl] at pc
   have hle:=Vn ops (i+1)
   have mR:iz (ops.take i)<gH.length:=by omega
   generalize iz (ops.take i)=c at *
   refine bS (decide_eq_false (by simp[gZ])) ?_
   refine⟨λCD xG uc CE n42 n43 bo bP=>CD=xE/\xG=sp/\uc=cr/\CE=xF/\n43=(i:Nat)/\bo=g/\∃m:Nat,n42=m/\bP=L.length-m/\∀y,y<m->q4 c y=true,
    ⟨L.length-m,rfl,rfl,rfl,rfl,rfl,rfl,m,rfl,rfl,n5⟩,?_⟩
   rintro CD xG uc CE n42 n43 bo bP ⟨rfl,rfl,rfl,rfl,rfl,rfl,m,rfl,rfl,n5⟩
   obtain⟨aa,ad,an⟩:=arZ jd mR n5
   refine h1.get (i:=m) (by omega) rfl λq _=>?_
   cases aaV:q4 c m with
   | true =>
    refine dg rfl ⟨L.length-(m+1),by omega,rfl,rfl,rfl,rfl,rfl,rfl,m+1,bf (by omega) (by omega),rfl,λy aB=>?_⟩
    by_cases e:y=m
    .rw[e];exact aaV
    .exact n5 y (by omega)
   | false =>
    have hm:m=gH[c]:=ad aaV
    refine bS rfl (ka.set (i:=i) hT rfl (m:Int) λg4 hp dr=>?_)
    refine mz.set (h1.move (ah:=g4) λq aj=>dr _ λdL eB=>by cases aj;cases eB;exact n32) (i:=m) (by omega) rfl true λg5 js cm=>?_
    have hK:∀y,y≠ay->y≠aN->g5 y=bo y:=λy aa ad=>(cm y λq aj=>by cases aj;exact ad).trans (dr y λq aj=>by cases aj;exact aa)
    have aaW:∀y,q4 (c+1) y=if y=m then true else q4 c y:=λy=>by
     show(ops.contains (some y)||decide (y∈gH.take (c+1)))=_
     rw[List.take_add_one,List.getElem?_eq_getElem mR]
     by_cases e:y=m
     .rw[if_pos e,e,hm,decide_eq_true (List.mem_append_right _ (by simp)),Bool.or_true]
     .rw[if_neg e]
      show _=(ops.contains (some y)||decide (y∈gH.take c))
      congr 1
      rw[Bool.eq_iff_iff,decide_eq_true_iff,decide_eq_true_iff,List.mem_append]
      constructor
      .rintro (h|h)
       .exact h
       .exact absurd (by simpa using h) (hm▸e)
      .exact .inl
    refine⟨L.length-(i+1),by omega,rfl,rfl,rfl,rfl,i+1,m,bf (by omega) (by omega),rfl,by omega,rfl,λy aB=>?_,?_,?_,pw.move λq aj=>hK _ (sep q aj).2.1 (sep q aj).2.2.1,by omega,λy aB=>?_⟩
    .rw[hK y (λe=>aB (e▸f20)) (λe=>aB (e▸f30))];exact cO y aB
    .have e:(λy=>if y<i+1 then (((iq ops gH).getD y 0:Nat):Int) else gZ (ops.getD y none))=λy=>if y=i then (m:Int) else if y<i then (((iq ops gH).getD y 0:Nat):Int) else gZ (ops.getD y none):=by
      funext y
      by_cases cc:y=i
      .rw[if_pos (by omega),if_pos cc,cc,r_,hm];simp[List.getD,mR]
      .rw[if_neg cc]
       by_cases c:y<i
       .rw[if_pos c,if_pos (by omega)]
       .rw[if_neg c,if_neg (by omega)]
     rw[e];exact hp.move λq aj=>cm _ λdL eB=>by cases eB;cases aj;exact Ne.symm n32
    .rw[pc]
     have e:q4 (c+1)=λy=>if y=m then true else q4 c y:=funext aaW
     rw[e];exact js
    .rw[pc,aaW y]
     by_cases e:y=m
     .rw[if_pos e]
     .rw[if_neg e];exact n5 y aB
  | some p =>
   rw[aZ] at r_ pc
   rw[if_neg (by simp),Nat.add_zero] at pc
   refine dg (decide_eq_true (by simp only[gZ];omega)) ⟨L.length-(i+1),by omega,rfl,rfl,rfl,rfl,i+1,m,bf (by omega) (by omega),rfl,by omega,rfl,cO,?_,by rw[pc];exact h1,pw,ase,by rw[pc];exact n5⟩
   have e:(λy=>if y<i+1 then (((iq ops gH).getD y 0:Nat):Int) else gZ (ops.getD y none))=λy=>if y<i then (((iq ops gH).getD y 0:Nat):Int) else gZ (ops.getD y none):=by
    funext y
    by_cases c:y<i
    .rw[if_pos c,if_pos (by omega)]
    .rw[if_neg c]
     by_cases cc:y=i
     .rw[if_pos (by omega),cc,r_,aZ];rfl
     .rw[if_neg (by omega)]
   rw[e];exact ka
 .have hT:i=L.length:=by omega
  subst hT
  refine⟨_,_,rfl,?_,pw,cO⟩
  have e:(List.range L.length).map (λy=>if y<L.length then (((iq ops gH).getD y 0:Nat):Int) else gZ (ops.getD y none))=(iq ops gH).map λp:Nat=>(p:Int):=by
   apply List.ext_getElem
   .simp[EH,w1]
   .intro j aq aM
    have aV:j<L.length:=by simpa using aq
    have tv:j<(iq ops gH).length:=by simpa using aM
    simp[aV,List.getD,tv]
  have:=ka.Bp
  rw[e] at this;exact this

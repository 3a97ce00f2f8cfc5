import Derived.Test.YtofgadhgljjhgaaGreatBase
namespace Go.Proofs.Tryz
open Go Go.cD Go.RowKit
set_option maxRecDepth 8000
theorem yT:vk prog 64 3 (U 0) 8:=⟨by kernel_rfl,by kernel_rfl,by kernel_rfl,by kernel_rfl,rfl⟩
structure o7 (m:Nat)(s t:Int)(L:Nat):Prop where
 m:m<=10
 s:1<=s/\s<=8
 t:1<=t/\t<=64
 L:1<=L/\L<=4
theorem o7.gy {m:Nat}{s t:Int}{L:Nat}(o:o7 m s t L)(h:Nat):lR (m-2*h) s t:=⟨by have:=o.m;omega,o.s,o.t⟩
abbrev v4 (m:Nat)(s t:Int)(L:Nat):Value:= .agg #[U (2 ^ m),U s,U t,U L]
theorem abE {j:Nat}(aV:j<=10):max (al (((2:Int) ^ j).tdiv 4)) 1=2 ^ (j-2):=by
 have key:∀j:Fin 11,max (((2:Int) ^ j.val).tdiv 4) 1=2 ^ (j.val-2)/\0<=((2:Int) ^ j.val).tdiv 4/\((2:Int) ^ j.val).tdiv 4<=1024:=by decide
 obtain⟨aa,ad,an⟩:=key ⟨j,by omega⟩
 simp only at aa ad an
 rw[bf (by omega) (by omega),aa]
theorem Sl {m:Nat}{s t:Int}{L:Nat}(o:o7 m s t L)(n:Nat)(aH:n<=100):eW prog 111 [v4 m s t L,U n] (U (2 ^ (m-2*n))):=by
 intro h
 refine H0 _ s t L n ?_
 unfold ZO
 refine bM λae aa _ aF aE=>gq aF rfl ?_
 refine⟨λx l i ad k=>l=n/\∃j:Nat,i=j/\j<=n/\x=2 ^ (m-2*j)/\bL h ad/\k=n-j,⟨_,rfl,0,rfl,Nat.zero_le _,rfl,aE,rfl⟩,?_⟩
 rintro x l i ad k ⟨rfl,j,rfl,aV,rfl,aC,rfl⟩
 refine cd (λca=>⟨by decide,_,?_,rfl,j+1,bf (by omega) (by omega),by omega,?_,aC,rfl⟩) λdx=>?_
 .omega
 .rw[abE (by have:=o.m;omega)];rfl
 .have:j=n:=by omega
  subst this;exact⟨rfl,aC⟩
theorem ad8 {m:Nat}{s t:Int}{L:Nat}(o:o7 m s t L)(n:Nat)(aH:n<=100):eW prog 75 [v4 m s t L,U n] (.agg #[U (2 ^ (m-2*n)),U s,U t]):=by
 intro h
 refine aoy _ s t L n ?_
 unfold Zr
 refine bM λae aa _ aF aE=>bM λay ad f2 a8 aC=>vU (aC.get aF) (gq (aC.get aF) rfl (gq (aC.get aF) rfl ?_))
 refine(Sl o n aH).to λan aI=>⟨_,rfl,⟨az ((aC.trans aI).get aF) rfl,trivial⟩,⟨az ((aC.trans aI).get aF) rfl,trivial⟩,?_⟩
 exact pE ((aE.trans aC).trans aI) (aE.free f2) (aI.get a8) (by simp) λaK bh b1 _=>k7 b1 ⟨rfl,bh⟩
theorem axN {m:Nat}{s t:Int}{L:Nat}(o:o7 m s t L):eW prog 73 [v4 m s t L] (U (2 ^ (m-2*(L-1)))):=by
 intro h
 have dY:=o.L
 refine aov _ s t L ?_
 unfold Zq
 refine bM λae aa _ aF aE=>vU aF (gq aF rfl ?_)
 rw[bf (by omega) (by omega),show(L:Int)-1=((L-1:Nat):Int) by omega]
 exact(Sl o (L-1) (by omega)).to λad aC=>⟨_,rfl,rfl,aE.trans aC⟩
theorem Sm {m:Nat}{s t:Int}{L:Nat}(h:ak):ao 81 [v4 m s t L] h λv ah=>∃b,v= .func (.func 114) #[] #[bg ⟨b,0⟩]/\h b=none /\
 ah b=some (.cells #[U (2 ^ m),U s,U t,U L] 68 (0,0))/\bL h ah:=by
 refine aoH _ s t L ?_
 unfold Zu
 exact bM λae aa f1 aF aE=>⟨ae,rfl,f1,aF,aE⟩
theorem ad9 {h:ak}{q:aD}{L:Nat}(dY:L<=1000){y:Value}(S:Nat->ak->Prop)(h0:S 0 h)(aZ:br h q.b (q.o+3)=some (U L))
 (step:∀i ah,i<L->S i ah->gi prog y [U ((L:Int)-1-i)] ah λv hq=>v= .bool true/\S (i+1) hq) :
 ao 114 [y,bg q] h λ_ ah=>S L ah:=by
 refine ZP y q ?_
 unfold Pm
 refine⟨L,aZ,λv n aa k=>v=y/\∃i:Nat,n=(L:Int)-1-i/\i<=L/\S i aa/\k=L-i,⟨_,rfl,0,by rw[bf (by omega) (by omega)];simp,Nat.zero_le _,h0,rfl⟩,?_⟩
 rintro v n aa k ⟨rfl,i,rfl,hi,aU,rfl⟩
 refine cd (λca=>?_) λdx=>?_
 .refine(step i aa (by omega) aU).mono ?_
  rintro _ ad ⟨rfl,Hb⟩
  exact⟨_,rfl,dg rfl ⟨_,by omega,rfl,i+1,by rw[bf (by omega) (by omega)];omega,by omega,Hb,rfl⟩⟩
 .have:i=L:=by omega
  subst this;exact aU
theorem axO {m:Nat}{s t:Int}{L:Nat}(o:o7 m s t L):eW prog 72 [v4 m s t L] (.bool true):=by
 intro h
 have dY:=o.L
 refine aot _ s t L ?_
 unfold Zp
 refine bM λae aa f1 aF aE=>bM λay ad f2 a8 aC=>gq (aC.get aF) rfl (cd (λe=>absurd e (by omega)) λ_=>gq (aC.get aF) rfl (cd (λe=>absurd e (by omega)) λ_=>vU (aC.get aF) ?_))
 refine(Sm ad).mono ?_
 rintro _ an ⟨b,rfl,UN,iV,aI⟩
 refine⟨_,rfl,trivial,λz k ag aP=>⟨rfl,?_⟩⟩
 have qy:bL an (bA an k (eD z)):=(bL.refl an).bA ag _
 refine(ad9 (L:=L) (q:=⟨b,0⟩) (y:=l0 k) (by omega) (λi ah=>ah k=some (eD z)/\bL an ah) ⟨eH _ _ _,qy⟩ (az (qy.get iV) rfl) ?_).mono ?_
 .rintro i ah hi ⟨bc,bP⟩
  refine⟨rfl,rfl,aP _ ah _ bc ⟨bc,?_⟩⟩
  have BC:bL an (bA ah k (dO z)):=bP.bA ag _
  refine vU (((aC.trans aI).trans BC).get aF) ?_
  obtain⟨j,aV⟩:∃j:Nat,(L:Int)-1-i=j:=⟨L-1-i,by omega⟩
  rw[aV]
  refine(ad8 o j (by omega)).to λaR bE=>⟨_,_,_,rfl,?_⟩
  refine(LI (o.gy j)).to λbp ch=>⟨_,rfl,bS rfl ⟨(bE.trans ch).get (eH _ _ _),rfl,eH _ _ _,?_⟩⟩
  exact(BC.trans (bE.trans ch)).bA ag _
 .rintro _ aK ⟨bc,bP⟩
  refine .inr ⟨bc,?_⟩
  have cO:bL an (bA aK k (ia z none)):=bP.bA ag _
  exact pE ((aE.trans aC).trans (aI.trans cO)) (aE.free f2) ((aI.trans cO).get a8) (by simp) λaR bE cy _=>⟨_,az cy rfl,rfl,bE⟩
def vb (m:Nat)(s t:Int)(h:Nat):List Int:=[s*(2*2 ^ (m-2*h)-1),t,mc (m-2*h) s t]
def rD (m:Nat)(s t:Int)(L n:Nat):List Int:=(2 ^ (m-2*(L-1)):Int)::(List.range n).flatMap (vb m s t)
theorem NB (m:Nat)(s t:Int)(L n:Nat):rD m s t L (n+1)=rD m s t L n++vb m s t n:=by
 simp[rD,List.range_succ]
theorem UA (m:Nat)(s t:Int)(L n:Nat):(rD m s t L n).length=3*n+1:=by
 induction n with
 | zero=>rfl
 | succ n dK=>rw[NB,List.length_append,dK];simp[vb];omega
theorem VL {a b c d:Int}(aa:0<=a)(ad:a<=b)(an:0<=c)(aK:c<=d):0<=a*c/\a*c<=b*d :=
 ⟨Int.mul_nonneg aa an,Int.mul_le_mul ad aK an (by omega)⟩

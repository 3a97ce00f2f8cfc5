import Derived.Test.YtegdpmgnhnccaaaGreatBase
namespace Go.Proofs.Tryz
open Go Go.cR Go.RowKit
set_option maxRecDepth 8000
theorem xL:wA prog 37 3 (U 0) 8:=⟨by kernel_rfl,by kernel_rfl,by kernel_rfl,by kernel_rfl,rfl⟩
structure n7 (m:Nat)(s t:Int)(L:Nat):Prop where
 m:m<=10
 s:1<=s/\s<=8
 t:1<=t/\t<=64
 L:1<=L/\L<=4
theorem n7.gS {m:Nat}{s t:Int}{L:Nat}(o:n7 m s t L)(h:Nat):lG (m-2*h) s t:=⟨by have:=o.m;omega,o.s,o.t⟩
abbrev v4 (m:Nat)(s t:Int)(L:Nat):Value:= .agg #[U (2 ^ m),U s,U t,U L]
theorem ad0 {j:Nat}(aU:j<=10):max (al (((2:Int) ^ j).tdiv 4)) 1=2 ^ (j-2):=by
 have key:∀j:Fin 11,max (((2:Int) ^ j.val).tdiv 4) 1=2 ^ (j.val-2)/\0<=((2:Int) ^ j.val).tdiv 4/\((2:Int) ^ j.val).tdiv 4<=1024:=by decide
 obtain⟨aa,ad,an⟩:=key ⟨j,by omega⟩;simp only at aa ad an;rw[bt,aa]
theorem T6 {m:Nat}{s t:Int}{L:Nat}(o:n7 m s t L)(n:Nat)(aK:n<=100):fc prog 111 [v4 m s t L,U n] (U (2 ^ (m-2*n))):=by
 intro h;refine Jk _ s t L n ?_;unfold ab7;refine bP λae aa _ aH aD=>ga aH rfl ?_;refine⟨λx l i ad k=>l=n/\∃j:Nat,i=j/\j<=n/\x=2 ^ (m-2*j)/\bL h ad/\k=n-j,⟨_,rfl,0,rfl,aDM _,rfl,aD,rfl⟩,?_⟩;rintro x l i ad k ⟨rfl,j,rfl,aU,rfl,aB,rfl⟩;refine cj (λcl=>⟨by decide,_,?_,rfl,j+1,bt,by omega,?_,aB,rfl⟩) λdH=>?_
 .omega
 .rw[ad0 (by have:=o.m;omega)];rfl
 .have:j=n:=by omega
  subst this;exact⟨rfl,aB⟩
theorem Pl {m:Nat}{s t:Int}{L:Nat}(o:n7 m s t L)(n:Nat)(aK:n<=100):fc prog 77 [v4 m s t L,U n] (.agg #[U (2 ^ (m-2*n)),U s,U t]):=by
 intro h;refine arz _ s t L n ?_;unfold abR;refine bP λae aa _ aH aD=>bP λax ad f2 a_ aB=>qJ (aB.get aH) (ga (aB.get aH) rfl (ga (aB.get aH) rfl ?_));refine(T6 o n aK).to λan aG=>⟨_,rfl,⟨az ((aB.trans aG).get aH) rfl,trivial⟩,⟨az ((aB.trans aG).get aH) rfl,trivial⟩,?_⟩;exact qh ((aD.trans aB).trans aG) (aD.free f2) (aG.get a_) (by simp) λaJ bd b6 _=>kQ b6 ⟨rfl,bd⟩
theorem Pc {m:Nat}{s t:Int}{L:Nat}(o:n7 m s t L):fc prog 75 [v4 m s t L] (U (2 ^ (m-2*(L-1)))):=by
 intro h;have eg:=o.L;refine arw _ s t L ?_;unfold abQ;refine bP λae aa _ aH aD=>qJ aH (ga aH rfl ?_);rw[bt,show(L:Int)-1=((L-1:Nat):Int) by omega];exact(T6 o (L-1) (by omega)).to λad aB=>⟨_,rfl,rfl,aD.trans aB⟩
theorem Kc {m:Nat}{s t:Int}{L:Nat}(h:ak):aq 54 [v4 m s t L] h λv af=>∃b,v= .func (.func 109) #[] #[bm ⟨b,0⟩]/\h b=none /\
 af b=some (.cells #[U (2 ^ m),U s,U t,U L] 26 (0,0))/\bL h af:=by
 refine aqX _ s t L ?_;unfold abB;exact bP λae aa f1 aH aD=>⟨ae,rfl,f1,aH,aD⟩
theorem Pg {h:ak}{q:aF}{L:Nat}(eg:L<=1000){y:Value}(S:Nat->ak->Prop)(h0:S 0 h)(a1:bx h q.b (q.o+3)=some (U L))
 (step:∀i af,i<L->S i af->fL prog y [U ((L:Int)-1-i)] af λv hQ=>v= .bool true/\S (i+1) hQ) :
 aq 109 [y,bm q] h λ_ af=>S L af:=by
 refine ab6 y q ?_;unfold Rb;refine⟨L,a1,λv n aa k=>v=y/\∃i:Nat,n=(L:Int)-1-i/\i<=L/\S i aa/\k=L-i,⟨_,rfl,0,by rw[bt];simp,aDM _,h0,rfl⟩,?_⟩;rintro v n aa k ⟨rfl,i,rfl,hi,aV,rfl⟩;refine cj (λcl=>?_) λdH=>?_
 .refine(step i aa (by omega) aV).mono ?_
  rintro _ ad ⟨rfl,Is⟩;exact⟨_,rfl,dF rfl ⟨_,by omega,rfl,i+1,by rw[bt];omega,by omega,Is,rfl⟩⟩
 .have:i=L:=by omega
  subst this;exact aV
theorem XY {m:Nat}{s t:Int}{L:Nat}(o:n7 m s t L):fc prog 34 [v4 m s t L] (.bool true):=by
 intro h;have eg:=o.L;refine aqC _ s t L ?_;unfold abv;refine bP λae aa f1 aH aD=>bP λax ad f2 a_ aB=>ga (aB.get aH) rfl (cj (λe=>absurd e (by omega)) λ_=>ga (aB.get aH) rfl (cj (λe=>absurd e (by omega)) λ_=>qJ (aB.get aH) ?_));refine(Kc ad).mono ?_;rintro _ an ⟨b,rfl,Ot,iX,aG⟩;refine⟨_,rfl,trivial,λz k ah aQ=>⟨rfl,?_⟩⟩;have rk:bL an (bD an k (eA z)):=(bL.refl an).bD ah _;refine(Pg (L:=L) (q:=⟨b,0⟩) (y:=lM k) (by omega) (λi af=>af k=some (eA z)/\bL an af) ⟨eC _ _ _,rk⟩ (az (rk.get iX) rfl) ?_).mono ?_
 .rintro i af hi ⟨bn,bW⟩;refine⟨rfl,rfl,aQ _ af _ bn ⟨bn,?_⟩⟩;have sr:bL an (bD af k (dn z)):=bW.bD ah _;refine qJ (((aB.trans aG).trans sr).get aH) ?_;obtain⟨j,aU⟩:∃j:Nat,(L:Int)-1-i=j:=⟨L-1-i,by omega⟩;rw[aU];refine(Pl o j (by omega)).to λaR bF=>⟨_,_,_,rfl,?_⟩;refine(IN (o.gS j)).to λbj cn=>⟨_,rfl,b3 rfl ⟨(bF.trans cn).get (eC _ _ _),rfl,eC _ _ _,?_⟩⟩;exact(sr.trans (bF.trans cn)).bD ah _
 .rintro _ aJ ⟨bn,bW⟩;refine .inr ⟨bn,?_⟩;have cY:bL an (bD aJ k (im z none)):=bW.bD ah _;exact qh ((aD.trans aB).trans (aG.trans cY)) (aD.free f2) ((aG.trans cY).get a_) (by simp) λaR bF cG _=>⟨_,az cG rfl,rfl,bF⟩
def wk (m:Nat)(s t:Int)(h:Nat):List Int:=[s*(2*2 ^ (m-2*h)-1),t,mj (m-2*h) s t]
def sk (m:Nat)(s t:Int)(L n:Nat):List Int:=(2 ^ (m-2*(L-1)):Int)::(List.range n).flatMap (wk m s t)
theorem Pv (m:Nat)(s t:Int)(L n:Nat):sk m s t L (n+1)=sk m s t L n++wk m s t n:=by
 simp[sk,aDQ]
theorem Wi (m:Nat)(s t:Int)(L n:Nat):(sk m s t L n).length=3*n+1:=by
 induction n with
 | zero=>rfl
 | succ n dI=>rw[Pv,aDs,dI];simp[wk];omega
theorem Xr {a b c d:Int}(aa:0<=a)(ad:a<=b)(an:0<=c)(aJ:c<=d):0<=a*c/\a*c<=b*d :=
 ⟨Int.mul_nonneg aa an,Int.mul_le_mul ad aJ an (by omega)⟩

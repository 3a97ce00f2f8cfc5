import Derived.Test.YtegdpmgnhnccaaaGreatBase
namespace Go.Proofs.Tryz
open Go Go.cQ Go.RowKit
set_option maxRecDepth 8000
theorem oU:ti prog 37 3 (U 0) 8:=⟨by kernel_rfl,by kernel_rfl,by kernel_rfl,by kernel_rfl,rfl⟩
structure mK (m:Nat)(s t:Int)(L:Nat):Prop where
 m:m<=10
 s:1<=s/\s<=8
 t:1<=t/\t<=64
 L:1<=L/\L<=4
theorem mK.fu {m:Nat}{s t:Int}{L:Nat}(o:mK m s t L)(h:Nat):kv (m-2*h) s t:=⟨by have:=o.m;omega,o.s,o.t⟩
abbrev v4 (m:Nat)(s t:Int)(L:Nat):Value:= .agg #[U (2 ^ m),U s,U t,U L]
theorem WE {j:Nat}(aL:j<=10):max (al (((2:Int) ^ j).tdiv 4)) 1=2 ^ (j-2):=by
 have key:∀j:Fin 11,max (((2:Int) ^ j.val).tdiv 4) 1=2 ^ (j.val-2)/\0<=((2:Int) ^ j.val).tdiv 4/\((2:Int) ^ j.val).tdiv 4<=1024:=by decide
 obtain⟨aa,ad,aq⟩:=key ⟨j,by omega⟩;simp only at aa ad aq;rw[bl,aa]
theorem N_ {m:Nat}{s t:Int}{L:Nat}(o:mK m s t L)(n:Nat)(aH:n<=100):eu prog 111 [v4 m s t L,U n] (U (2 ^ (m-2*n))):=by
 intro h;refine aix _ s t L n ?_;unfold U0;refine bL λaj aa _ aC aE=>fh aC rfl ?_;refine⟨λx l i ad k=>l=n/\∃j:Nat,i=j/\j<=n/\x=2 ^ (m-2*j)/\bB h ad/\k=n-j,⟨_,rfl,0,rfl,atx _,rfl,aE,rfl⟩,?_⟩;rintro x l i ad k ⟨rfl,j,rfl,aL,rfl,az,rfl⟩;refine b6 (λb1=>⟨by decide,_,?_,rfl,j+1,bl,by omega,?_,az,rfl⟩) λc3=>?_
 .omega
 .rw[WE (by have:=o.m;omega)];rfl
 .have:j=n:=by omega
  subst this;exact⟨rfl,az⟩
theorem Oa {m:Nat}{s t:Int}{L:Nat}(o:mK m s t L)(n:Nat)(aH:n<=100):eu prog 77 [v4 m s t L,U n] (.agg #[U (2 ^ (m-2*n)),U s,U t]):=by
 intro h;refine aia _ s t L n ?_;unfold US;refine bL λaj aa _ aC aE=>bL λaB ad f2 a7 az=>qo (az.get aC) (fh (az.get aC) rfl (fh (az.get aC) rfl ?_));refine(N_ o n aH).to λaq aD=>⟨_,rfl,⟨aF ((az.trans aD).get aC) rfl,trivial⟩,⟨aF ((az.trans aD).get aC) rfl,trivial⟩,?_⟩;exact n0 ((aE.trans az).trans aD) (aE.free f2) (aD.get a7) (by simp) λaJ bc b5 _=>jV b5 ⟨rfl,bc⟩
theorem Zb {m:Nat}{s t:Int}{L:Nat}(o:mK m s t L):eu prog 75 [v4 m s t L] (U (2 ^ (m-2*(L-1)))):=by
 intro h;have fp:=o.L;refine ah8 _ s t L ?_;unfold UR;refine bL λaj aa _ aC aE=>qo aC (fh aC rfl ?_);rw[bl,show(L:Int)-1=((L-1:Nat):Int) by omega];exact(N_ o (L-1) (by omega)).to λad az=>⟨_,rfl,rfl,aE.trans az⟩
theorem Ob {m:Nat}{s t:Int}{L:Nat}(h:ai):aw 54 [v4 m s t L] h λv ag=>∃b,v= .func (.func 109) #[] #[bu ⟨b,0⟩]/\h b=none /\
 ag b=some (.cells #[U (2 ^ m),U s,U t,U L] 26 (0,0))/\bB h ag:=by
 refine ahy _ s t L ?_;unfold UB;exact bL λaj aa f1 aC aE=>⟨aj,rfl,f1,aC,aE⟩
theorem Zc {h:ai}{q:aG}{L:Nat}(fp:L<=1000){y:Value}(S:Nat->ai->Prop)(h0:S 0 h)(aT:bR h q.b (q.o+3)=some (U L))
 (step:∀i ag,i<L->S i ag->fo prog y [U ((L:Int)-1-i)] ag λv gp=>v= .bool true/\S (i+1) gp) :
 aw 109 [y,bu q] h λ_ ag=>S L ag:=by
 refine UZ y q ?_;unfold Le;refine⟨L,aT,λv n aa k=>v=y/\∃i:Nat,n=(L:Int)-1-i/\i<=L/\S i aa/\k=L-i,⟨_,rfl,0,by rw[bl];simp,atx _,h0,rfl⟩,?_⟩;rintro v n aa k ⟨rfl,i,rfl,hi,aR,rfl⟩;refine b6 (λb1=>?_) λc3=>?_
 .refine(step i aa (by omega) aR).mono ?_
  rintro _ ad ⟨rfl,DR⟩;exact⟨_,rfl,eh rfl ⟨_,by omega,rfl,i+1,by rw[bl];omega,by omega,DR,rfl⟩⟩
 .have:i=L:=by omega
  subst this;exact aR
theorem Zd {m:Nat}{s t:Int}{L:Nat}(o:mK m s t L):eu prog 34 [v4 m s t L] (.bool true):=by
 intro h;have fp:=o.L;refine ahi _ s t L ?_;unfold Uv;refine bL λaj aa f1 aC aE=>bL λaB ad f2 a7 az=>fh (az.get aC) rfl (b6 (λe=>absurd e (by omega)) λ_=>fh (az.get aC) rfl (b6 (λe=>absurd e (by omega)) λ_=>qo (az.get aC) ?_));refine(Ob ad).mono ?_;rintro _ aq ⟨b,rfl,asU,hU,aD⟩;refine⟨_,rfl,trivial,λz k ab aK=>⟨rfl,?_⟩⟩;have sY:bB aq (bD aq k (eS z)):=(bB.refl aq).bD ab _;refine(Zc (L:=L) (q:=⟨b,0⟩) (y:=lG k) (by omega) (λi ag=>ag k=some (eS z)/\bB aq ag) ⟨ea _ _ _,sY⟩ (aF (sY.get hU) rfl) ?_).mono ?_
 .rintro i ag hi ⟨bt,bI⟩;refine⟨rfl,rfl,aK _ ag _ bt ⟨bt,?_⟩⟩;have yH:bB aq (bD ag k (et z)):=bI.bD ab _;refine qo (((az.trans aD).trans yH).get aC) ?_;obtain⟨j,aL⟩:∃j:Nat,(L:Int)-1-i=j:=⟨L-1-i,by omega⟩;rw[aL];refine(Oa o j (by omega)).to λaW bU=>⟨_,_,_,rfl,?_⟩;refine(H5 (o.fu j)).to λbd cb=>⟨_,rfl,b0 rfl ⟨(bU.trans cb).get (ea _ _ _),rfl,ea _ _ _,?_⟩⟩;exact(yH.trans (bU.trans cb)).bD ab _
 .rintro _ aJ ⟨bt,bI⟩;refine .inr ⟨bt,?_⟩;have cv:bB aq (bD aJ k (h2 z none)):=bI.bD ab _;exact n0 ((aE.trans az).trans (aD.trans cv)) (aE.free f2) ((aD.trans cv).get a7) (by simp) λaW bU cD _=>⟨_,aF cD rfl,rfl,bU⟩
def o1 (m:Nat)(s t:Int)(h:Nat):List Int:=[s*(2*2 ^ (m-2*h)-1),t,kO (m-2*h) s t]
def mb (m:Nat)(s t:Int)(L n:Nat):List Int:=(2 ^ (m-2*(L-1)):Int)::(List.range n).flatMap (o1 m s t)
theorem EK (m:Nat)(s t:Int)(L n:Nat):mb m s t L (n+1)=mb m s t L n++o1 m s t n:=by
 simp[mb,ato]
theorem EL (m:Nat)(s t:Int)(L n:Nat):(mb m s t L n).length=3*n+1:=by
 induction n with
 | zero=>rfl
 | succ n c6=>rw[EK,as9,c6];simp[o1];omega
theorem PM {a b c d:Int}(aa:0<=a)(ad:a<=b)(aq:0<=c)(aJ:c<=d):0<=a*c/\a*c<=b*d :=
 ⟨Int.mul_nonneg aa aq,Int.mul_le_mul ad aJ aq (by omega)⟩

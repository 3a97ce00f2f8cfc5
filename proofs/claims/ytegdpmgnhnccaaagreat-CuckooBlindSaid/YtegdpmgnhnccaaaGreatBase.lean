import Derived.Test.YtegdpmgnhnccaaaGreatShKit
import Derived.Test.YtegdpmgnhnccaaaGreatRd
import Derived.Test.YtegdpmgnhnccaaaGreatLen
namespace Go.Proofs.Tryz
open Go Go.cR Go.RowKit
theorem Ut {k m:Nat}(ah:k<64)(aa:2 ^ k<=m)(ad:m<2 ^ (k+1)):Lib.bitLen m=k+1:=by
 have hm:m<2 ^ 64:=aEP ad (aDy (by decide) (by omega));rw[Lib.bitLen_shift k m aa hm];have:m/2 ^ k=1:=by
  apply Nat.div_eq_of_lt_le
  .simpa using aa
  .rw[aD_] at ad;omega
 rw[this];rfl
theorem Uu:∀(f x:Nat),x<2 ^ f->x<2 ^ Lib.bitLenAux f x
 | 0,x,h=>h
 | f+1,x,h=>by
  unfold Lib.bitLenAux;split
  .rename_i e;subst e;decide
  .rw[aD_] at h;have:=Uu f (x/2) (by omega);rw[aFH];omega
def ny (n:Int):Int:=if n<1 then 1 else 2 ^ min (Lib.bitLen (n-1).toNat) 62
theorem ag9 {k:Nat}{n:Int}(ah:k<=61)(aa:2 ^ k<n)(ad:n<=2 ^ (k+1)):ny n=2 ^ (k+1):=by
 have e:((2 ^ k:Nat):Int)=2 ^ k:=by simp
 have cc:((2 ^ (k+1):Nat):Int)=2 ^ (k+1):=by simp
 have h0:0<2 ^ k:=aD8 (by decide);rw[ny,cS,Ut (k:=k) (by omega) (by omega) (by omega),aEq (by omega)]
theorem nz {a b:Nat}(h:a<=b):(2:Int) ^ a<=2 ^ b:=by
 have e:((2 ^ a:Nat):Int)=2 ^ a:=by simp
 have cc:((2 ^ b:Nat):Int)=2 ^ b:=by simp
 have:=aDy (n:=2) (by decide) h;omega
theorem ag_ {k:Nat}{n:Int}(ah:k<=62)(h:n<=2 ^ k):ny n<=2 ^ k:=by
 unfold ny;split
 .have:=nz (aDM k);simpa using this
 .refine nz (aE_ (aEK _ _) (Lib.bitLen_le _ _ (by omega) ?_));have cc:((2 ^ k:Nat):Int)=2 ^ k:=by simp
  omega
theorem aha {n:Int}(h:n<=4611686018427387904):n<=ny n:=by
 unfold ny;split
 .omega
 .by_cases dM:(n-1).toNat=0
  .rw[dM];have:n=1:=by omega
   subst this;decide
  .have ar:=Uu 64 (n-1).toNat (by omega);have aT:=Lib.bitLen_le (n-1).toNat 62 (by omega) (by omega);have:Lib.bitLen (n-1).toNat=Lib.bitLenAux 64 (n-1).toNat:=rfl;rw[aEq aT,this];have cc:((2 ^ Lib.bitLenAux 64 (n-1).toNat:Nat):Int)=2 ^ Lib.bitLenAux 64 (n-1).toNat:=by simp
   omega
theorem M9 (x:aE):fc prog 112 [ab x] (U (Lib.bitLen x.toNat:Nat)):=λh =>
 ⟨by kernel_rfl,λw jP=>(ahb (x.toNat:Int) w (by omega) (by have:=x.toNat_lt;omega)).mono λe cv ⟨he,hw⟩ =>
  ⟨_,h,he,⟨by simp,bL.refl h⟩,hw▸jP,hw▸e5.refl _ _⟩⟩
theorem Uv (n:Int)(aK:n<=9223372036854775807):fc prog 147 [U n] (U (ny n)):=by
 intro h;refine ahc n ?_;unfold Uw;refine cj (λaa=>⟨by rw[ny,aDr aa],bL.refl _⟩) λaa=>?_;refine(M9 _).to λad aB=>⟨_,rfl,by omega,?_,aB⟩;have aH:al (n-1)=n-1:=bt;have a_:((cX (n-1)).toNat:Int)=n-1:=BN (by simp[zt];omega);have b7:(cX (al (n-1))).toNat=(n-1).toNat:=by rw[aH];omega
 rw[ny,aDq aa,b7];generalize Lib.bitLen (n-1).toNat=m;have b6:min (min (m:Int) 62).toNat 64=min m 62:=by omega
 rw[b6,Int.one_mul,iK]
 .have:=nz (aDM (min m 62));simp at this;omega
 .have:=nz (aFz m 62);simp at this;omega
theorem ahd (x:aE){k:Nat}(ah:x.toNat=2 ^ k)(gM:k<63):fc prog 57 [ab x] (U k):=by
 intro h;refine Ux x ?_;unfold M_;refine(M9 _).to λad aB=>⟨_,rfl,?_,aB⟩;rw[ah,Ut (k:=k) (by omega) (aDt _) (aFA (by decide) (by omega)),bt];congr 1;omega
theorem Uy (k:Nat)(ah:k<=10):oF .and .i64 ((2:Int) ^ k) ((2:Int) ^ k-1)=0:=by
 have key:∀k:Fin 11,oF .and .i64 ((2:Int) ^ k.val) ((2:Int) ^ k.val-1)=0:=by decide
 exact key ⟨k,by omega⟩
theorem lU {k:Nat}(ah:k<=10):(1:Int)<=2 ^ k/\(2:Int) ^ k<=1024:=by
 have aa:=nz (aDM k);have ad:=nz ah;simp at aa ad;omega
theorem IK {k:Nat}(ah:k<=10):fc prog 132 [U (2 ^ k)] (.bool true):=by
 intro h;have ar:=lU ah;refine ahe _ ?_;unfold Uz;refine cj (λ_=>cj (λ_=>⟨?_,bL.refl _⟩) λe=>absurd ar.2 e) λe=>absurd ar.1 e;rw[bt (n:=2 ^ k-1),Uy k ah,iK (by decide) (by decide)];rfl
theorem IL {k:Nat}(ah:k<=10):fc prog 163 [U (2 ^ k)] (U k):=by
 intro h;have ar:=lU ah;refine ahf _ ?_;unfold UA;refine(IK ah).to λaa aD=>⟨_,rfl,b3 rfl ?_⟩;refine(ahd (k:=k) _ ?_ (by omega)).to λad aB=>⟨_,rfl,rfl,aD.trans aB⟩;have a_:((cX (2 ^ k)).toNat:Int)=2 ^ k:=BN (by simp[zt];omega);have cc:((2 ^ k:Nat):Int)=2 ^ k:=by simp
 omega
theorem ahg {k:Nat}(ah:k<=10):fc prog 128 [U (2 ^ k)] (U (2*2 ^ k-1)):=by
 intro h;have ar:=lU ah;refine ahh _ ?_;unfold UB;refine(IK ah).to λaa aD=>⟨_,rfl,b3 rfl ⟨?_,aD⟩⟩;rw[bt (n:=2*2 ^ k),bt]
theorem Na {n a b:Int}(aa:a<=n)(ad:n<=b):fc prog 162 [U n,U a,U b] (.bool true):=by
 intro h;refine ahi n a b ?_;unfold UC;exact cj (λ_=>⟨by simp[ad],bL.refl _⟩) λe=>absurd aa e
structure vB (d s t:Int):Prop where
 d:0<=d/\d<=10
 s:1<=s/\s<=8
 t:1<=t/\t<=64
theorem Nb {d s t:Int}(o:vB d s t):fc prog 133 [.agg #[U d,U s,U t]] (.bool true):=by
 intro h;refine ahj d s t ?_;unfold UD;refine bP λae aa _ aH aD=>ga aH rfl ?_;refine(Na o.d.1 o.d.2).to λad aB=>⟨_,rfl,dF rfl (ga (aB.get aH) rfl ?_)⟩;refine(Na o.s.1 o.s.2).to λan aG=>⟨_,rfl,dF rfl (ga ((aB.trans aG).get aH) rfl ?_)⟩;exact(Na o.t.1 o.t.2).to λaJ bd=>⟨_,rfl,rfl,(aD.trans aB).trans (aG.trans bd)⟩
theorem zu {s d:Int}(aa:1<=s)(ad:s<=8)(an:0<=d)(aJ:d<=10):0<=s*(d+1)/\s*(d+1)<=88:=by
 have:s=1∨s=2∨s=3∨s=4∨s=5∨s=6∨s=7∨s=8:=by omega
 rcases this with h|h|h|h|h|h|h|h<;>subst h<;>omega
theorem UE {d s t:Int}(o:vB d s t):fc prog 183 [.agg #[U d,U s,U t]] (U (s*(d+1))):=by
 intro h;have ar:=zu o.s.1 o.s.2 o.d.1 o.d.2;have b4:=o.d;refine ahk d s t ?_;unfold UF;refine bP λae aa _ aH aD=>ga aH rfl (ga aH rfl ⟨?_,aD⟩);rw[bt (n:=d+1),bt]
theorem Nc {d s t:Int}(o:vB d s t):fc prog 161 [.agg #[U d,U s,U t]] (U (s*(d+1)+t+1)):=by
 intro h;have ar:=zu o.s.1 o.s.2 o.d.1 o.d.2;have bG:=o.t;refine ahl d s t ?_;unfold UG;refine bP λae aa _ aH aD=>kQ aH ?_;refine(Nb o).to λad aB=>⟨_,rfl,b3 rfl (kQ (aB.get aH) (ga (aB.get aH) rfl ?_))⟩;refine(UE o).to λan aG=>⟨_,rfl,⟨az ((aB.trans aG).get aH) rfl,trivial⟩,?_,(aD.trans aB).trans aG⟩;rw[bt (n:=s*(d+1)+t),bt]
structure lG (k:Nat)(s t:Int):Prop where
 k:k<=10
 s:1<=s/\s<=8
 t:1<=t/\t<=64
theorem lG.sM {k:Nat}{s t:Int}(o:lG k s t):vB k s t:=⟨⟨by omega,by have:=o.k;omega⟩,o.s,o.t⟩
def hL (k:Nat)(s t:Int):Int:=s*((k:Int)+1)+t+1
def mj (k:Nat)(s t:Int):Int:=ny (hL k s t)
theorem lG.zv {k:Nat}{s t:Int}(o:lG k s t):3<=hL k s t/\hL k s t<=153:=by
 have ar:=zu o.s.1 o.s.2 o.sM.d.1 o.sM.d.2;have bG:=o.t;have ad:1<=s*((k:Int)+1):=by
  have an:=Int.mul_le_mul o.s.1 (show(1:Int)<=(k:Int)+1 by omega) (by omega) (by have:=o.s;omega);simpa using an
 unfold hL;omega
theorem lG.IM {k:Nat}{s t:Int}(o:lG k s t):hL k s t<=mj k s t/\mj k s t<=256:=by
 have:=o.zv;exact⟨aha (by omega),by have:=ag_ (k:=8) (n:=hL k s t) (by decide) (by simp;omega);unfold mj;simpa using this⟩
theorem Nd {k:Nat}{s t:Int}(o:lG k s t):fc prog 134 [.agg #[U (2 ^ k),U s,U t]] (.agg #[U k,U s,U t]):=by
 intro h;refine ahm _ s t ?_;unfold UH;refine bP λae aa _ aH aD=>bP λax ad f2 a_ aB=>ga (aB.get aH) rfl (ga (aB.get aH) rfl (ga (aB.get aH) rfl ?_));refine(IL o.k).to λan aG=>⟨_,rfl,⟨az ((aB.trans aG).get aH) rfl,trivial⟩,⟨az ((aB.trans aG).get aH) rfl,trivial⟩,?_⟩;refine qh ((aD.trans aB).trans aG) (aD.free f2) (aG.get a_) (by simp) λaJ bd b6 _=>kQ b6 ⟨rfl,bd⟩
theorem EL {k:Nat}{s t:Int}(o:lG k s t):fc prog 129 [.agg #[U (2 ^ k),U s,U t]] (U (mj k s t)):=by
 intro h;refine ahn _ s t ?_;unfold UI;refine bP λae aa _ aH aD=>kQ aH ?_;refine(Nd o).to λad aB=>⟨_,_,_,rfl,?_⟩;refine(Nc o.sM).to λan aG=>⟨_,rfl,?_⟩;have:=o.zv;exact(Uv (hL k s t) (by omega)).to λaJ bd=>⟨_,rfl,rfl,(aD.trans aB).trans (aG.trans bd)⟩
theorem IN {k:Nat}{s t:Int}(o:lG k s t):fc prog 79 [.agg #[U (2 ^ k),U s,U t]] (.bool true):=by
 intro h;refine aho _ s t ?_;unfold UJ;refine bP λae aa _ aH aD=>ga aH rfl ?_;refine(IK o.k).to λad aB=>⟨_,rfl,dF rfl (kQ (aB.get aH) ?_)⟩;refine(Nd o).to λan aG=>⟨_,_,_,rfl,?_⟩;refine(Nb o.sM).to λaJ bd=>⟨_,rfl,dF rfl (kQ ((aB.trans (aG.trans bd)).get aH) ?_)⟩;refine(EL o).to λaR bF=>⟨_,rfl,?_,(aD.trans aB).trans (aG.trans (bd.trans bF))⟩;have:=o.IM;simp only[aED];rw[pa]
theorem ahp {k:Nat}{s t:Int}(o:lG k s t):fc prog 76 [.agg #[U (2 ^ k),U s,U t]] (.tuple #[U (s*(2*2 ^ k-1)),U t,U (mj k s t)]):=by
 intro h;have ar:=lU o.k;refine ahq _ s t ?_;unfold UK;refine bP λae aa _ aH aD=>kQ aH ?_;refine(IN o).to λad aB=>⟨_,rfl,b3 rfl (ga (aB.get aH) rfl (ga (aB.get aH) rfl (ga (aB.get aH) rfl (kQ (aB.get aH) ?_))))⟩;refine(ahg o.k).to λan aG=>⟨_,rfl,?_⟩;have b7:=(aB.trans aG).get aH;refine⟨⟨az b7 rfl,az b7 rfl,az b7 rfl,trivial⟩,⟨az b7 rfl,trivial⟩,⟨az b7 rfl,trivial⟩,?_⟩;refine(EL o).to λaJ bd=>⟨_,rfl,?_⟩;have b6:=bd.get b7;refine⟨⟨az b6 rfl,trivial⟩,⟨az b6 rfl,trivial⟩,?_,(aD.trans aB).trans (aG.trans bd)⟩;rw[iK]
 .have:=o.s;have aa:0<=s*(2*2 ^ k-1):=Int.mul_nonneg (by omega) (by omega);omega
 .have aa:s*(2*2 ^ k-1)<=8*2047:=Int.mul_le_mul o.s.2 (by omega) (by omega) (by omega);omega

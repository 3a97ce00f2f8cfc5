import Derived.Test.YtegdpmgnhnccaaaGreatShKit
import Derived.Test.YtegdpmgnhnccaaaGreatRd
import Derived.Test.YtegdpmgnhnccaaaGreatLen
namespace Go.Proofs.Tryz
open Go Go.cQ Go.RowKit
theorem OC {k m:Nat}(ab:k<64)(aa:2 ^ k<=m)(ad:m<2 ^ (k+1)):Lib.bitLen m=k+1:=by
 have hm:m<2 ^ 64:=aup ad (atg (by decide) (by omega));rw[Lib.bitLen_shift k m aa hm];have:m/2 ^ k=1:=by
  apply Nat.div_eq_of_lt_le
  .simpa using aa
  .rw[atP] at ad;omega
 rw[this];rfl
theorem OD:∀(f x:Nat),x<2 ^ f->x<2 ^ Lib.bitLenAux f x
 | 0,x,h=>h
 | f+1,x,h=>by
  unfold Lib.bitLenAux;split
  .rename_i e;subst e;decide
  .rw[atP] at h;have:=OD f (x/2) (by omega);rw[Nat.pow_add];omega
def l2 (n:Int):Int:=if n<1 then 1 else 2 ^ min (Lib.bitLen (n-1).toNat) 62
theorem Z0 {k:Nat}{n:Int}(ab:k<=61)(aa:2 ^ k<n)(ad:n<=2 ^ (k+1)):l2 n=2 ^ (k+1):=by
 have e:((2 ^ k:Nat):Int)=2 ^ k:=by simp
 have ch:((2 ^ (k+1):Nat):Int)=2 ^ (k+1):=by simp
 have h0:0<2 ^ k:=at5 (by decide);rw[l2,cS,OC (k:=k) (by omega) (by omega) (by omega),at4 (by omega)]
theorem lE {a b:Nat}(h:a<=b):(2:Int) ^ a<=2 ^ b:=by
 have e:((2 ^ a:Nat):Int)=2 ^ a:=by simp
 have ch:((2 ^ b:Nat):Int)=2 ^ b:=by simp
 have:=atg (n:=2) (by decide) h;omega
theorem Z1 {k:Nat}{n:Int}(ab:k<=62)(h:n<=2 ^ k):l2 n<=2 ^ k:=by
 unfold l2;split
 .have:=lE (atx k);simpa using this
 .refine lE (au0 (auj _ _) (Lib.bitLen_le _ _ (by omega) ?_));have ch:((2 ^ k:Nat):Int)=2 ^ k:=by simp
  omega
theorem Z2 {n:Int}(h:n<=4611686018427387904):n<=l2 n:=by
 unfold l2;split
 .omega
 .by_cases eg:(n-1).toNat=0
  .rw[eg];have:n=1:=by omega
   subst this;decide
  .have au:=OD 64 (n-1).toNat (by omega);have aO:=Lib.bitLen_le (n-1).toNat 62 (by omega) (by omega);have:Lib.bitLen (n-1).toNat=Lib.bitLenAux 64 (n-1).toNat:=rfl;rw[at4 aO,this];have ch:((2 ^ Lib.bitLenAux 64 (n-1).toNat:Nat):Int)=2 ^ Lib.bitLenAux 64 (n-1).toNat:=by simp
   omega
theorem HX (x:a8):eu prog 112 [ak x] (U (Lib.bitLen x.toNat:Nat)):=λh =>
 ⟨by kernel_rfl,λw hs=>(Z3 (x.toNat:Int) w (by omega) (by have:=x.toNat_lt;omega)).mono λe bX ⟨he,hw⟩ =>
  ⟨_,h,he,⟨by simp,bB.refl h⟩,hw▸hs,hw▸dN.refl _ _⟩⟩
theorem Z4 (n:Int)(aH:n<=9223372036854775807):eu prog 147 [U n] (U (l2 n)):=by
 intro h;refine Z5 n ?_;unfold OE;refine b6 (λaa=>⟨by rw[l2,as8 aa],bB.refl _⟩) λaa=>?_;refine(HX _).to λad az=>⟨_,rfl,by omega,?_,az⟩;have aC:al (n-1)=n-1:=bl;have a7:((cK (n-1)).toNat:Int)=n-1:=yq (by simp[wm];omega);have b2:(cK (al (n-1))).toNat=(n-1).toNat:=by rw[aC];omega
 rw[l2,as7 aa,b2];generalize Lib.bitLen (n-1).toNat=m;have b5:min (min (m:Int) 62).toNat 64=min m 62:=by omega
 rw[b5,Int.one_mul,iN]
 .have:=lE (atx (min m 62));simp at this;omega
 .have:=lE (au3 m 62);simp at this;omega
theorem Z6 (x:a8){k:Nat}(ab:x.toNat=2 ^ k)(fx:k<63):eu prog 57 [ak x] (U k):=by
 intro h;refine OF x ?_;unfold HY;refine(HX _).to λad az=>⟨_,rfl,?_,az⟩;rw[ab,OC (k:=k) (by omega) (as_ _) (Nat.pow_lt_pow_right (by decide) (by omega)),bl];congr 1;omega
theorem OG (k:Nat)(ab:k<=10):oQ .and .i64 ((2:Int) ^ k) ((2:Int) ^ k-1)=0:=by
 have key:∀k:Fin 11,oQ .and .i64 ((2:Int) ^ k.val) ((2:Int) ^ k.val-1)=0:=by decide
 exact key ⟨k,by omega⟩
theorem kb {k:Nat}(ab:k<=10):(1:Int)<=2 ^ k/\(2:Int) ^ k<=1024:=by
 have aa:=lE (atx k);have ad:=lE ab;simp at aa ad;omega
theorem Eb {k:Nat}(ab:k<=10):eu prog 132 [U (2 ^ k)] (.bool true):=by
 intro h;have au:=kb ab;refine Z7 _ ?_;unfold OH;refine b6 (λ_=>b6 (λ_=>⟨?_,bB.refl _⟩) λe=>absurd au.2 e) λe=>absurd au.1 e;rw[bl (n:=2 ^ k-1),OG k ab,iN (by decide) (by decide)];rfl
theorem Ec {k:Nat}(ab:k<=10):eu prog 163 [U (2 ^ k)] (U k):=by
 intro h;have au:=kb ab;refine Z8 _ ?_;unfold OI;refine(Eb ab).to λaa aE=>⟨_,rfl,b0 rfl ?_⟩;refine(Z6 (k:=k) _ ?_ (by omega)).to λad az=>⟨_,rfl,rfl,aE.trans az⟩;have a7:((cK (2 ^ k)).toNat:Int)=2 ^ k:=yq (by simp[wm];omega);have ch:((2 ^ k:Nat):Int)=2 ^ k:=by simp
 omega
theorem Z9 {k:Nat}(ab:k<=10):eu prog 128 [U (2 ^ k)] (U (2*2 ^ k-1)):=by
 intro h;have au:=kb ab;refine Z_ _ ?_;unfold OJ;refine(Eb ab).to λaa aE=>⟨_,rfl,b0 rfl ⟨?_,aE⟩⟩;rw[bl (n:=2*2 ^ k),bl]
theorem HZ {n a b:Int}(aa:a<=n)(ad:n<=b):eu prog 162 [U n,U a,U b] (.bool true):=by
 intro h;refine aaa n a b ?_;unfold OK;exact b6 (λ_=>⟨by simp[ad],bB.refl _⟩) λe=>absurd aa e
structure sQ (d s t:Int):Prop where
 d:0<=d/\d<=10
 s:1<=s/\s<=8
 t:1<=t/\t<=64
theorem H0 {d s t:Int}(o:sQ d s t):eu prog 133 [.agg #[U d,U s,U t]] (.bool true):=by
 intro h;refine aab d s t ?_;unfold OL;refine bL λaj aa _ aC aE=>fh aC rfl ?_;refine(HZ o.d.1 o.d.2).to λad az=>⟨_,rfl,eh rfl (fh (az.get aC) rfl ?_)⟩;refine(HZ o.s.1 o.s.2).to λaq aD=>⟨_,rfl,eh rfl (fh ((az.trans aD).get aC) rfl ?_)⟩;exact(HZ o.t.1 o.t.2).to λaJ bc=>⟨_,rfl,rfl,(aE.trans az).trans (aD.trans bc)⟩
theorem wq {s d:Int}(aa:1<=s)(ad:s<=8)(aq:0<=d)(aJ:d<=10):0<=s*(d+1)/\s*(d+1)<=88:=by
 have:s=1∨s=2∨s=3∨s=4∨s=5∨s=6∨s=7∨s=8:=by omega
 rcases this with h|h|h|h|h|h|h|h<;>subst h<;>omega
theorem OM {d s t:Int}(o:sQ d s t):eu prog 183 [.agg #[U d,U s,U t]] (U (s*(d+1))):=by
 intro h;have au:=wq o.s.1 o.s.2 o.d.1 o.d.2;have bK:=o.d;refine aac d s t ?_;unfold ON;refine bL λaj aa _ aC aE=>fh aC rfl (fh aC rfl ⟨?_,aE⟩);rw[bl (n:=d+1),bl]
theorem H2 {d s t:Int}(o:sQ d s t):eu prog 161 [.agg #[U d,U s,U t]] (U (s*(d+1)+t+1)):=by
 intro h;have au:=wq o.s.1 o.s.2 o.d.1 o.d.2;have bz:=o.t;refine aad d s t ?_;unfold OO;refine bL λaj aa _ aC aE=>jV aC ?_;refine(H0 o).to λad az=>⟨_,rfl,b0 rfl (jV (az.get aC) (fh (az.get aC) rfl ?_))⟩;refine(OM o).to λaq aD=>⟨_,rfl,⟨aF ((az.trans aD).get aC) rfl,trivial⟩,?_,(aE.trans az).trans aD⟩;rw[bl (n:=s*(d+1)+t),bl]
structure kv (k:Nat)(s t:Int):Prop where
 k:k<=10
 s:1<=s/\s<=8
 t:1<=t/\t<=64
theorem kv.qz {k:Nat}{s t:Int}(o:kv k s t):sQ k s t:=⟨⟨by omega,by have:=o.k;omega⟩,o.s,o.t⟩
def ht (k:Nat)(s t:Int):Int:=s*((k:Int)+1)+t+1
def kO (k:Nat)(s t:Int):Int:=l2 (ht k s t)
theorem kv.ys {k:Nat}{s t:Int}(o:kv k s t):3<=ht k s t/\ht k s t<=153:=by
 have au:=wq o.s.1 o.s.2 o.qz.d.1 o.qz.d.2;have bz:=o.t;have ad:1<=s*((k:Int)+1):=by
  have aq:=Int.mul_le_mul o.s.1 (show(1:Int)<=(k:Int)+1 by omega) (by omega) (by have:=o.s;omega);simpa using aq
 unfold ht;omega
theorem kv.H3 {k:Nat}{s t:Int}(o:kv k s t):ht k s t<=kO k s t/\kO k s t<=256:=by
 have:=o.ys;exact⟨Z2 (by omega),by have:=Z1 (k:=8) (n:=ht k s t) (by decide) (by simp;omega);unfold kO;simpa using this⟩
theorem H4 {k:Nat}{s t:Int}(o:kv k s t):eu prog 134 [.agg #[U (2 ^ k),U s,U t]] (.agg #[U k,U s,U t]):=by
 intro h;refine aae _ s t ?_;unfold OP;refine bL λaj aa _ aC aE=>bL λaB ad f2 a7 az=>fh (az.get aC) rfl (fh (az.get aC) rfl (fh (az.get aC) rfl ?_));refine(Ec o.k).to λaq aD=>⟨_,rfl,⟨aF ((az.trans aD).get aC) rfl,trivial⟩,⟨aF ((az.trans aD).get aC) rfl,trivial⟩,?_⟩;refine n0 ((aE.trans az).trans aD) (aE.free f2) (aD.get a7) (by simp) λaJ bc b5 _=>jV b5 ⟨rfl,bc⟩
theorem Ed {k:Nat}{s t:Int}(o:kv k s t):eu prog 129 [.agg #[U (2 ^ k),U s,U t]] (U (kO k s t)):=by
 intro h;refine aaf _ s t ?_;unfold OQ;refine bL λaj aa _ aC aE=>jV aC ?_;refine(H4 o).to λad az=>⟨_,_,_,rfl,?_⟩;refine(H2 o.qz).to λaq aD=>⟨_,rfl,?_⟩;have:=o.ys;exact(Z4 (ht k s t) (by omega)).to λaJ bc=>⟨_,rfl,rfl,(aE.trans az).trans (aD.trans bc)⟩
theorem H5 {k:Nat}{s t:Int}(o:kv k s t):eu prog 79 [.agg #[U (2 ^ k),U s,U t]] (.bool true):=by
 intro h;refine aag _ s t ?_;unfold OR;refine bL λaj aa _ aC aE=>fh aC rfl ?_;refine(Eb o.k).to λad az=>⟨_,rfl,eh rfl (jV (az.get aC) ?_)⟩;refine(H4 o).to λaq aD=>⟨_,_,_,rfl,?_⟩;refine(H0 o.qz).to λaJ bc=>⟨_,rfl,eh rfl (jV ((az.trans (aD.trans bc)).get aC) ?_)⟩;refine(Ed o).to λaW bU=>⟨_,rfl,?_,(aE.trans az).trans (aD.trans (bc.trans bU))⟩;have:=o.H3;simp only[aud];rw[pS]
theorem OS {k:Nat}{s t:Int}(o:kv k s t):eu prog 76 [.agg #[U (2 ^ k),U s,U t]] (.tuple #[U (s*(2*2 ^ k-1)),U t,U (kO k s t)]):=by
 intro h;have au:=kb o.k;refine aah _ s t ?_;unfold OT;refine bL λaj aa _ aC aE=>jV aC ?_;refine(H5 o).to λad az=>⟨_,rfl,b0 rfl (fh (az.get aC) rfl (fh (az.get aC) rfl (fh (az.get aC) rfl (jV (az.get aC) ?_))))⟩;refine(Z9 o.k).to λaq aD=>⟨_,rfl,?_⟩;have b2:=(az.trans aD).get aC;refine⟨⟨aF b2 rfl,aF b2 rfl,aF b2 rfl,trivial⟩,⟨aF b2 rfl,trivial⟩,⟨aF b2 rfl,trivial⟩,?_⟩;refine(Ed o).to λaJ bc=>⟨_,rfl,?_⟩;have b5:=bc.get b2;refine⟨⟨aF b5 rfl,trivial⟩,⟨aF b5 rfl,trivial⟩,?_,(aE.trans az).trans (aD.trans bc)⟩;rw[iN]
 .have:=o.s;have aa:0<=s*(2*2 ^ k-1):=Int.mul_nonneg (by omega) (by omega);omega
 .have aa:s*(2*2 ^ k-1)<=8*2047:=Int.mul_le_mul o.s.2 (by omega) (by omega) (by omega);omega

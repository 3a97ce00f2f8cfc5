import Derived.Test.YtofgadhgljjhgaaGreatShKit
import Derived.Test.YtofgadhgljjhgaaGreatRd
import Derived.Test.YtofgadhgljjhgaaGreatLen
namespace Go.Proofs.Tryz
open Go Go.cD Go.RowKit
theorem SK {k m:Nat}(ag:k<64)(aa:2 ^ k<=m)(ad:m<2 ^ (k+1)):Lib.bitLen m=k+1:=by
 have hm:m<2 ^ 64:=Nat.lt_of_lt_of_le ad (Nat.pow_le_pow_right (by decide) (by omega))
 rw[Lib.bitLen_shift k m aa hm]
 have:m/2 ^ k=1:=by
  apply Nat.div_eq_of_lt_le
  .simpa using aa
  .rw[Nat.pow_succ] at ad;omega
 rw[this];rfl
theorem SL:∀(f x:Nat),x<2 ^ f->x<2 ^ Lib.bitLenAux f x
 | 0,x,h=>h
 | f+1,x,h=>by
  unfold Lib.bitLenAux
  split
  .rename_i e;subst e;decide
  .rw[Nat.pow_succ] at h
   have:=SL f (x/2) (by omega)
   rw[Nat.pow_add]
   omega
def m0 (n:Int):Int:=if n<1 then 1 else 2 ^ min (Lib.bitLen (n-1).toNat) 62
theorem aeV {k:Nat}{n:Int}(ag:k<=61)(aa:2 ^ k<n)(ad:n<=2 ^ (k+1)):m0 n=2 ^ (k+1):=by
 have e:((2 ^ k:Nat):Int)=2 ^ k:=by simp
 have b4:((2 ^ (k+1):Nat):Int)=2 ^ (k+1):=by simp
 have h0:0<2 ^ k:=Nat.pow_pos (by decide)
 rw[m0,if_neg (by omega),SK (k:=k) (by omega) (by omega) (by omega)]
 rw[Nat.min_eq_left (by omega)]
theorem m1 {a b:Nat}(h:a<=b):(2:Int) ^ a<=2 ^ b:=by
 have e:((2 ^ a:Nat):Int)=2 ^ a:=by simp
 have b4:((2 ^ b:Nat):Int)=2 ^ b:=by simp
 have:=Nat.pow_le_pow_right (n:=2) (by decide) h
 omega
theorem aeW {k:Nat}{n:Int}(ag:k<=62)(h:n<=2 ^ k):m0 n<=2 ^ k:=by
 unfold m0
 split
 .have:=m1 (Nat.zero_le k);simpa using this
 .refine m1 (Nat.le_trans (Nat.min_le_left _ _) (Lib.bitLen_le _ _ (by omega) ?_))
  have b4:((2 ^ k:Nat):Int)=2 ^ k:=by simp
  omega
theorem aeX {n:Int}(h:n<=4611686018427387904):n<=m0 n:=by
 unfold m0
 split
 .omega
 .by_cases dB:(n-1).toNat=0
  .rw[dB]
   have:n=1:=by omega
   subst this;decide
  .have au:=SL 64 (n-1).toNat (by omega)
   have aT:=Lib.bitLen_le (n-1).toNat 62 (by omega) (by omega)
   have:Lib.bitLen (n-1).toNat=Lib.bitLenAux 64 (n-1).toNat:=rfl
   rw[Nat.min_eq_left aT,this]
   have b4:((2 ^ Lib.bitLenAux 64 (n-1).toNat:Nat):Int)=2 ^ Lib.bitLenAux 64 (n-1).toNat:=by simp
   omega
theorem LA (x:UInt64):eW prog 113 [ab x] (U (Lib.bitLen x.toNat:Nat)):=λh =>
 ⟨by kernel_rfl,λw jg=>(aeY (x.toNat:Int) w (by omega) (by have:=x.toNat_lt;omega)).mono λe cg ⟨he,hw⟩ =>
  ⟨_,h,he,⟨by simp,bL.refl h⟩,hw▸jg,hw▸eI.refl _ _⟩⟩
theorem SM (n:Int)(aH:n<=9223372036854775807):eW prog 78 [U n] (U (m0 n)):=by
 intro h
 refine aeZ n ?_
 unfold SN
 refine cd (λaa=>⟨by rw[m0,if_pos aa],bL.refl _⟩) λaa=>?_
 refine(LA _).to λad aC=>⟨_,rfl,by omega,?_,aC⟩
 have aF:al (n-1)=n-1:=bf (by omega) (by omega)
 have a8:((cI (n-1)).toNat:Int)=n-1:=AK (by simp[yv];omega)
 have b0:(cI (al (n-1))).toNat=(n-1).toNat:=by rw[aF];omega
 rw[m0,if_neg aa,b0]
 generalize Lib.bitLen (n-1).toNat=m
 have b1:min (min (m:Int) 62).toNat 64=min m 62:=by omega
 rw[b1,Int.one_mul,bf]
 .have:=m1 (Nat.zero_le (min m 62));simp at this;omega
 .have:=m1 (Nat.min_le_right m 62);simp at this;omega
theorem ae0 (x:UInt64){k:Nat}(ag:x.toNat=2 ^ k)(gp:k<63):eW prog 84 [ab x] (U k):=by
 intro h
 refine SO x ?_
 unfold LB
 refine(LA _).to λad aC=>⟨_,rfl,?_,aC⟩
 rw[ag,SK (k:=k) (by omega) (Nat.le_refl _) (Nat.pow_lt_pow_right (by decide) (by omega)),bf (by omega) (by omega)]
 congr 1;omega
theorem SP (k:Nat)(ag:k<=10):nV .and .i64 ((2:Int) ^ k) ((2:Int) ^ k-1)=0:=by
 have key:∀k:Fin 11,nV .and .i64 ((2:Int) ^ k.val) ((2:Int) ^ k.val-1)=0:=by decide
 exact key ⟨k,by omega⟩
theorem ln {k:Nat}(ag:k<=10):(1:Int)<=2 ^ k/\(2:Int) ^ k<=1024:=by
 have aa:=m1 (Nat.zero_le k);have ad:=m1 ag;simp at aa ad;omega
theorem Hu {k:Nat}(ag:k<=10):eW prog 134 [U (2 ^ k)] (.bool true):=by
 intro h
 have au:=ln ag
 refine ae1 _ ?_
 unfold SQ
 refine cd (λ_=>cd (λ_=>⟨?_,bL.refl _⟩) λe=>absurd au.2 e) λe=>absurd au.1 e
 rw[bf (n:=2 ^ k-1) (by omega) (by omega),SP k ag,bf (by decide) (by decide)]
 rfl
theorem Hv {k:Nat}(ag:k<=10):eW prog 150 [U (2 ^ k)] (U k):=by
 intro h
 have au:=ln ag
 refine ae2 _ ?_
 unfold SR
 refine(Hu ag).to λaa aE=>⟨_,rfl,bS rfl ?_⟩
 refine(ae0 (k:=k) _ ?_ (by omega)).to λad aC=>⟨_,rfl,rfl,aE.trans aC⟩
 have a8:((cI (2 ^ k)).toNat:Int)=2 ^ k:=AK (by simp[yv];omega)
 have b4:((2 ^ k:Nat):Int)=2 ^ k:=by simp
 omega
theorem ae3 {k:Nat}(ag:k<=10):eW prog 137 [U (2 ^ k)] (U (2*2 ^ k-1)):=by
 intro h
 have au:=ln ag
 refine ae4 _ ?_
 unfold SS
 refine(Hu ag).to λaa aE=>⟨_,rfl,bS rfl ⟨?_,aE⟩⟩
 rw[bf (n:=2*2 ^ k) (by omega) (by omega),bf (by omega) (by omega)]
theorem LC {n a b:Int}(aa:a<=n)(ad:n<=b):eW prog 149 [U n,U a,U b] (.bool true):=by
 intro h
 refine ae5 n a b ?_
 unfold SU
 exact cd (λ_=>⟨by simp[ad],bL.refl _⟩) λe=>absurd aa e
structure uG (d s t:Int):Prop where
 d:0<=d/\d<=10
 s:1<=s/\s<=8
 t:1<=t/\t<=64
theorem LD {d s t:Int}(o:uG d s t):eW prog 135 [.agg #[U d,U s,U t]] (.bool true):=by
 intro h
 refine ae6 d s t ?_
 unfold SV
 refine bM λae aa _ aF aE=>gq aF rfl ?_
 refine(LC o.d.1 o.d.2).to λad aC=>⟨_,rfl,dg rfl (gq (aC.get aF) rfl ?_)⟩
 refine(LC o.s.1 o.s.2).to λan aI=>⟨_,rfl,dg rfl (gq ((aC.trans aI).get aF) rfl ?_)⟩
 exact(LC o.t.1 o.t.2).to λaK bh=>⟨_,rfl,rfl,(aE.trans aC).trans (aI.trans bh)⟩
theorem yw {s d:Int}(aa:1<=s)(ad:s<=8)(an:0<=d)(aK:d<=10):0<=s*(d+1)/\s*(d+1)<=88:=by
 have:s=1∨s=2∨s=3∨s=4∨s=5∨s=6∨s=7∨s=8:=by omega
 rcases this with h|h|h|h|h|h|h|h<;>subst h<;>omega
theorem SW {d s t:Int}(o:uG d s t):eW prog 167 [.agg #[U d,U s,U t]] (U (s*(d+1))):=by
 intro h
 have au:=yw o.s.1 o.s.2 o.d.1 o.d.2
 have bV:=o.d
 refine ae7 d s t ?_
 unfold SX
 refine bM λae aa _ aF aE=>gq aF rfl (gq aF rfl ⟨?_,aE⟩)
 rw[bf (n:=d+1) (by omega) (by omega),bf (by omega) (by omega)]
theorem LF {d s t:Int}(o:uG d s t):eW prog 147 [.agg #[U d,U s,U t]] (U (s*(d+1)+t+1)):=by
 intro h
 have au:=yw o.s.1 o.s.2 o.d.1 o.d.2
 have bw:=o.t
 refine ae8 d s t ?_
 unfold SY
 refine bM λae aa _ aF aE=>k7 aF ?_
 refine(LD o).to λad aC=>⟨_,rfl,bS rfl (k7 (aC.get aF) (gq (aC.get aF) rfl ?_))⟩
 refine(SW o).to λan aI=>⟨_,rfl,⟨az ((aC.trans aI).get aF) rfl,trivial⟩,?_,(aE.trans aC).trans aI⟩
 rw[bf (n:=s*(d+1)+t) (by omega) (by omega),bf (by omega) (by omega)]
structure lR (k:Nat)(s t:Int):Prop where
 k:k<=10
 s:1<=s/\s<=8
 t:1<=t/\t<=64
theorem lR.r6 {k:Nat}{s t:Int}(o:lR k s t):uG k s t:=⟨⟨by omega,by have:=o.k;omega⟩,o.s,o.t⟩
def iw (k:Nat)(s t:Int):Int:=s*((k:Int)+1)+t+1
def mc (k:Nat)(s t:Int):Int:=m0 (iw k s t)
theorem lR.AM {k:Nat}{s t:Int}(o:lR k s t):3<=iw k s t/\iw k s t<=153:=by
 have au:=yw o.s.1 o.s.2 o.r6.d.1 o.r6.d.2
 have bw:=o.t
 have ad:1<=s*((k:Int)+1):=by
  have an:=Int.mul_le_mul o.s.1 (show(1:Int)<=(k:Int)+1 by omega) (by omega) (by have:=o.s;omega)
  simpa using an
 unfold iw;omega
theorem lR.LG {k:Nat}{s t:Int}(o:lR k s t):iw k s t<=mc k s t/\mc k s t<=256:=by
 have:=o.AM
 exact⟨aeX (by omega),by have:=aeW (k:=8) (n:=iw k s t) (by decide) (by simp;omega);unfold mc;simpa using this⟩
theorem LH {k:Nat}{s t:Int}(o:lR k s t):eW prog 136 [.agg #[U (2 ^ k),U s,U t]] (.agg #[U k,U s,U t]):=by
 intro h
 refine ae9 _ s t ?_
 unfold SZ
 refine bM λae aa _ aF aE=>bM λay ad f2 a8 aC=>gq (aC.get aF) rfl (gq (aC.get aF) rfl (gq (aC.get aF) rfl ?_))
 refine(Hv o.k).to λan aI=>⟨_,rfl,⟨az ((aC.trans aI).get aF) rfl,trivial⟩,⟨az ((aC.trans aI).get aF) rfl,trivial⟩,?_⟩
 refine pE ((aE.trans aC).trans aI) (aE.free f2) (aI.get a8) (by simp) λaK bh b1 _=>k7 b1 ⟨rfl,bh⟩
theorem Hw {k:Nat}{s t:Int}(o:lR k s t):eW prog 129 [.agg #[U (2 ^ k),U s,U t]] (U (mc k s t)):=by
 intro h
 refine ae_ _ s t ?_
 unfold S0
 refine bM λae aa _ aF aE=>k7 aF ?_
 refine(LH o).to λad aC=>⟨_,_,_,rfl,?_⟩
 refine(LF o.r6).to λan aI=>⟨_,rfl,?_⟩
 have:=o.AM
 exact(SM (iw k s t) (by omega)).to λaK bh=>⟨_,rfl,rfl,(aE.trans aC).trans (aI.trans bh)⟩
theorem LI {k:Nat}{s t:Int}(o:lR k s t):eW prog 110 [.agg #[U (2 ^ k),U s,U t]] (.bool true):=by
 intro h
 refine afa _ s t ?_
 unfold S1
 refine bM λae aa _ aF aE=>gq aF rfl ?_
 refine(Hu o.k).to λad aC=>⟨_,rfl,dg rfl (k7 (aC.get aF) ?_)⟩
 refine(LH o).to λan aI=>⟨_,_,_,rfl,?_⟩
 refine(LD o.r6).to λaK bh=>⟨_,rfl,dg rfl (k7 ((aC.trans (aI.trans bh)).get aF) ?_)⟩
 refine(Hw o).to λaR bE=>⟨_,rfl,?_,(aE.trans aC).trans (aI.trans (bh.trans bE))⟩
 have:=o.LG
 simp only[cond_true]
 rw[decide_eq_true (by omega)]
theorem afb {k:Nat}{s t:Int}(o:lR k s t):eW prog 112 [.agg #[U (2 ^ k),U s,U t]] (.tuple #[U (s*(2*2 ^ k-1)),U t,U (mc k s t)]):=by
 intro h
 have au:=ln o.k
 refine afc _ s t ?_
 unfold S2
 refine bM λae aa _ aF aE=>k7 aF ?_
 refine(LI o).to λad aC=>⟨_,rfl,bS rfl (gq (aC.get aF) rfl (gq (aC.get aF) rfl (gq (aC.get aF) rfl (k7 (aC.get aF) ?_))))⟩
 refine(ae3 o.k).to λan aI=>⟨_,rfl,?_⟩
 have b0:=(aC.trans aI).get aF
 refine⟨⟨az b0 rfl,az b0 rfl,az b0 rfl,trivial⟩,⟨az b0 rfl,trivial⟩,⟨az b0 rfl,trivial⟩,?_⟩
 refine(Hw o).to λaK bh=>⟨_,rfl,?_⟩
 have b1:=bh.get b0
 refine⟨⟨az b1 rfl,trivial⟩,⟨az b1 rfl,trivial⟩,?_,(aE.trans aC).trans (aI.trans bh)⟩
 rw[bf]
 .have:=o.s
  have aa:0<=s*(2*2 ^ k-1):=Int.mul_nonneg (by omega) (by omega)
  omega
 .have aa:s*(2*2 ^ k-1)<=8*2047:=Int.mul_le_mul o.s.2 (by omega) (by omega) (by omega)
  omega

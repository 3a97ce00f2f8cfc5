import Derived.Test.YtofgadhgljjhgaaGreatShKit
import Derived.Test.YtofgadhgljjhgaaGreatRd
import Derived.Test.YtofgadhgljjhgaaGreatPla
import Derived.Shelf.Spec.BitsCarry
namespace Go.cD
open Go Go.RowKit
abbrev ea {n:Nat}(c:Vector UInt64 n):Value:= .agg (c.toArray.map ab)
theorem fb {n:Nat}{c:Vector UInt64 n}{h:ak}{b:Nat}{t:TypeId}{f:Nat×Nat}(e:h b=some (.cells (af.cells (.ws n c)).toArray t f)){i:Nat}(hi:i<n):br h b i=some (ab c[i]):=by
 rw[A8 e];simp[af.cells,hi]
theorem dv {n:Nat}{c:Vector UInt64 n}{h:ak}{b:Nat}{t:TypeId}{f:Nat×Nat}(e:h b=some (.cells (af.cells (.ws n c)).toArray t f)):bU h b 0 c:=λi hi=>by
 rw[Nat.zero_add];exact fb e hi
theorem IV {n:Nat}(c:Vector UInt64 n){i:Nat}(hi:i<n)(x:UInt64):h5 (af.cells (.ws n c)).toArray i [ab x]=(af.cells (.ws n (c.set i x))).toArray:=by
 apply Array.ext_getElem?
 intro j
 simp only[axF,af.cells,List.getElem?_toArray,Array.getElem?_setIfInBounds,List.size_toArray,List.length_map,Vector.length_toList]
 by_cases e:i=j
 .subst e;simp[hi]
 .by_cases aV:j<n
  .simp[e,aV,Vector.getElem_set_ne,Vector.getElem_set]
  .simp[e,aV]
theorem pQ {h0 h:ak}{b n:Nat}{c:Vector UInt64 n}{t:TypeId}{i:Nat}{x:UInt64}{K:ak->Prop}(k:bL h0 h)(au:h0 b=none)(e:h b=some (.cells (af.cells (.ws n c)).toArray t (0,0)))(hi:i<n)
 (ag:∀ah,bL h0 ah->ah b=some (.cells (af.cells (.ws n (c.set i x))).toArray t (0,0))->(∀y,y≠b->ah y=h y)->K ah):aX h ⟨b,i⟩ [ab x] K :=
 pE k au e (by simp[af.cells];omega) λah hJ b4 zo=>ag ah hJ (by rw[b4,IV c hi]) zo
theorem pg {h0 h:ak}{b n:Nat}{c:Array Value}{cc:Vector UInt64 n}{t:TypeId}{K:ak->Prop}(k:bL h0 h)(au:h0 b=none)(e:h b=some (.cells c t (0,0)))(aU:c.size=n)
 (ag:∀ah,bL h0 ah->ah b=some (.cells (af.cells (.ws n cc)).toArray t (0,0))->(∀y,y≠b->ah y=h y)->K ah):aX h ⟨b,0⟩ (af.cells (.ws n cc)) K :=
 jl k au e (by simp[af.cells,aU]) ag
def mask (c:Bool):UInt64:=if c then 18446744073709551615 else 0
theorem aeQ (x:UInt64):(18446744073709551615:UInt64) &&& x=x:=by
 apply UInt64.toNat_inj.1
 rw[UInt64.toNat_and,Nat.and_comm]
 exact(Nat.and_two_pow_sub_one_eq_mod x.toNat 64).trans (Nat.mod_eq_of_lt x.toNat_lt)
theorem aeR (a b:UInt64):b ^^^ (a ^^^ b)=a:=by
 apply UInt64.toNat_inj.1
 rw[UInt64.toNat_xor,UInt64.toNat_xor,Nat.xor_comm a.toNat,<-Nat.xor_assoc,Nat.xor_self,Nat.zero_xor]
theorem aeS (c:Bool)(a b:UInt64):b ^^^ mask c &&& (a ^^^ b)=if c then a else b:=by
 cases c
 .show b ^^^ (0 &&& (a ^^^ b))=b
  rw[UInt64.zero_and,UInt64.xor_zero]
 .show b ^^^ (18446744073709551615 &&& (a ^^^ b))=a
  rw[aeQ,aeR]
theorem ayK (c:Bool)(a b:UInt64):a ^^^ mask c &&& (a ^^^ b)=if c then b else a:=by
 cases c
 .show a ^^^ (0 &&& (a ^^^ b))=a
  rw[UInt64.zero_and,UInt64.xor_zero]
 .show a ^^^ (18446744073709551615 &&& (a ^^^ b))=b
  rw[aeQ,<-UInt64.xor_assoc,UInt64.xor_self,UInt64.zero_xor]
theorem aue (c d:Bool):mask c &&& mask d=mask (c&&d):=by cases c<;>cases d<;>decide
theorem ayL (x:UInt64):(dD x (UInt64.toNat 63)).toNat=x.toNat/2 ^ 63:=by
 unfold dD
 rw[show UInt64.toNat 63=63 from rfl]
 simp[UInt64.toNat_shiftRight,Nat.shiftRight_eq_div_pow]
 have:=x.toNat_lt;omega
theorem ayM (n:UInt64):0-(dD (~~~(n ||| 0-n)) (UInt64.toNat 63) &&& 1)=mask (n==0):=by
 by_cases h:n=0
 .subst h;decide
 .have aa:2 ^ 63<=(n ||| 0-n).toNat:=by
   rw[UInt64.toNat_or]
   have aH:n.toNat≠0:=λe=>h (UInt64.toNat_inj.1 e)
   have aT:=n.toNat_lt
   by_cases c:2 ^ 63<=n.toNat
   .exact Nat.le_trans c Nat.left_le_or
   .refine Nat.le_trans ?_ Nat.right_le_or
    rw[UInt64.toNat_sub]
    have:(0:UInt64).toNat=0:=rfl
    omega
  have ad:dD (~~~(n ||| 0-n)) (UInt64.toNat 63)=0:=by
   apply UInt64.toNat_inj.1
   rw[ayL,UInt64.toNat_not]
   have:=(n ||| 0-n).toNat_lt
   have dB:(0:UInt64).toNat=0:=rfl
   rw[dB]
   have aF:UInt64.size=2 ^ 64:=rfl
   omega
  rw[ad]
  have:(n==0)=false:=by simpa using h
  rw[this];decide
end Go.cD
namespace Go.Proofs.Tryz
open Go Go.cD Go.RowKit
set_option maxRecDepth 8000
theorem aeT (x:UInt64):eW prog 97 [ab x] (ab (0-(x &&& 1))):=λh=>ao_ x ⟨rfl,bL.refl h⟩
theorem Mb (n:UInt64):eW prog 54 [ab n] (ab (mask (n==0))):=λh=>by
 refine an5 n ?_
 unfold Za
 exact(aeT _).to λaa aE=>⟨_,rfl,by rw[ayM],aE⟩
theorem L3 (a b:UInt64):eW prog 94 [ab a,ab b] (ab (mask (a==b))):=λh=>by
 refine ao5 a b ?_
 unfold ZD
 refine(Mb _).to λaa aE=>⟨_,rfl,?_,aE⟩
 have:(a ^^^ b==0)=(a==b):=by
  rw[Bool.eq_iff_iff]
  simp only[beq_iff_eq]
  constructor
  .intro h
   have ad:=aeR a b
   rw[h,UInt64.xor_zero] at ad;exact ad.symm
  .rintro rfl;exact UInt64.xor_self
 rw[this]
theorem ayN (x y:UInt64)(w:World):(callFunc 187 #[ab x,ab y,ab 0]).run prog w= .ok (.value (.tuple #[.int .u64 (((x.toNat+18446744073709551616-y.toNat-0)%18446744073709551616:Nat):Int),.int .u64 ((if x.toNat<y.toNat+0 then 1 else 0:Nat):Int)])) w:=by rw[run_callFunc_extern func187 (by kernel_rfl) (by kernel_rfl) (by kernel_rfl) (e:=sub64Entry) (by kernel_rfl)];have h:=run_sub64 (P:=prog) x.toNat y.toNat 0 (by omega) w;simp only[ab];erw [h];rfl
theorem acC (a b:UInt64):eW prog 172 [ab a,ab b] (ab (mask (decide (a.toNat<b.toNat)))):=λh=>by
 refine aqO a b ?_
 unfold aaa
 refine⟨_,λw=>ayN a b w,UInt64.ofNat ((a.toNat+18446744073709551616-b.toNat-0)%18446744073709551616),UInt64.ofNat (if a.toNat<b.toNat+0 then 1 else 0),?_,?_⟩
 .have aa:=a.toNat_lt;have ad:=b.toNat_lt
  simp only[ab,UInt64.toNat_ofNat',Nat.mod_mod,Nat.add_zero]
  congr 4
  by_cases c:a.toNat<b.toNat
  .simp[c]
  .simp[c]
 .refine(aeT _).to λaa aE=>⟨_,rfl,?_,aE⟩
  by_cases c:a.toNat<b.toNat
  .rw[Nat.add_zero,if_pos c,decide_eq_true c];congr 1
  .rw[Nat.add_zero,if_neg c,decide_eq_false c];congr 1
theorem TC (c:Bool)(a b:UInt64):eW prog 91 [ab (mask c),ab a,ab b] (ab (if c then a else b)):=λh=>by
 refine aoZ _ a b ?_
 exact⟨by rw[aeS],bL.refl h⟩
theorem ayO (c:Bool)(a b:UInt64):eW prog 188 [ab (mask c),ab a,ab b] (.tuple #[ab (if c then b else a),ab (if c then a else b)]):=λh=>by
 refine arb _ a b ?_
 exact⟨by rw[aeS,ayK],bL.refl h⟩
def rh (c:Bool)(a b:cv)(i:Nat):cv:=Vector.ofFn λj=>if j.1<i then (if c then a[j] else b[j]) else a[j]
theorem SG (c:Bool)(a b:cv):rh c a b 0=a:=by
 apply Vector.ext;intro i hi;simp[rh]
theorem aeU (c:Bool)(a b:cv):rh c a b 12=if c then a else b:=by
 apply Vector.ext;intro i hi;cases c<;>simp[rh,hi]
theorem SH (c:Bool)(a b:cv){i:Nat}(hi:i<12):(rh c a b i)[i]=a[i]:=by simp[rh]
theorem SI (c:Bool)(a b:cv){i:Nat}(hi:i<12):(rh c a b i).set i (if c then a[i] else b[i])=rh c a b (i+1):=by
 apply Vector.ext
 intro j aV
 rw[Vector.getElem_set]
 by_cases e:i=j
 .subst e;simp[rh]
 .rw[if_neg e];simp only[rh,Vector.getElem_ofFn]
  by_cases aQ:j<i
  .rw[if_pos aQ,if_pos (show j<i+1 by omega)]
  .rw[if_neg aQ,if_neg (show ¬j<i+1 by omega)]
theorem L4 (c:Bool)(a b:cv):eW prog 92 [ab (mask c),ea a,ea b] (ea (if c then a else b)):=λh=>by
 refine ao1 _ a b ?_
 unfold ZB
 refine bM λae aa f1 aF aE=>bM λay ad f2 a8 aC=>bM λaN an f3 b0 aI=>?_
 have aw:ay≠ae:=λe=>by rw[e,aF] at f2;cases f2
 have aA:aN≠ae:=λe=>by rw[e,aC.get aF] at f3;cases f3
 have aL:aN≠ay:=λe=>by rw[e,a8] at f3;cases f3
 have bP:=aE.trans (aC.trans aI)
 refine⟨λx q1 aJ bd n g k=>x=mask c/\q1=⟨ae,0⟩/\aJ=⟨ay,0⟩/\bd=⟨aN,0⟩/\∃i:Nat,n=i/\i<=12/\k=12-i/\bL h g/\g ae=some (.cells (af.cells (.ws 12 (rh c a b i))).toArray 56 (0,0))/\g ay=an ay/\g aN=an aN,⟨12,rfl,rfl,rfl,rfl,0,rfl,by omega,rfl,bP,by rw[SG];exact(aC.trans aI).get aF,rfl,rfl⟩,?_⟩
 rintro x q1 aJ bd n g k ⟨rfl,rfl,rfl,rfl,i,rfl,hi,rfl,cO,g1,g2,g3⟩
 refine cd (λca=>?_) λdx=>?_
 .have b5:i<12:=by omega
  refine⟨by omega,by omega,a[i],?_,by omega,by omega,b[i],?_,?_⟩
  .have:=fb g1 b5
   rw[SH c a b b5] at this
   simpa using this
  .have:=fb (g2.trans (aI.get a8)) b5
   simpa using this
  .refine(TC c a[i] b[i]).to λbo hI=>⟨_,rfl,by omega,by omega,?_⟩
   have dB:(0+Int.toNat (i:Int)*1)=i:=by omega
   rw[dB]
   refine pQ (cO.trans hI) f1 (hI.get g1) b5 λJd Hr wb yu=>⟨_,?_,rfl,rfl,rfl,rfl,i+1,bf (by omega) (by omega),by omega,rfl,Hr,by rw[wb,SI c a b b5],?_,?_⟩
   .omega
   .rw[yu _ aw,hI _ (by rw[g2,aI.get a8];simp),g2]
   .rw[yu _ aA,hI _ (by rw[g3,b0];simp),g3]
 .have:i=12:=by omega
  subst this
  rw[aeU] at g1
  refine⟨_,dv g1,pg (n:=12) cO (aE.free (aC.free f3)) (g3.trans b0) rfl λbo hI b4 _=>⟨_,dv b4,rfl,hI⟩⟩
theorem at8 (c:Bool)(a b:cv):eW prog 173 [ab (mask c),ea a,ea b] (.tuple #[ea (if c then b else a),ea (if c then a else b)]):=λh=>by
 refine aqQ _ a b ?_
 unfold aac
 refine bM λae aa f1 aF aE=>bM λay ad f2 a8 aC=>bM λaN an f3 b0 aI=>bM λbJ aK f4 b1 bh=>?_
 have aw:ay≠ae:=λe=>by rw[e,aF] at f2;cases f2
 have aA:aN≠ae:=λe=>by rw[e,aC.get aF] at f3;cases f3
 have aL:aN≠ay:=λe=>by rw[e,a8] at f3;cases f3
 have aO:bJ≠ae:=λe=>by rw[e,(aC.trans aI).get aF] at f4;cases f4
 have bm:bJ≠ay:=λe=>by rw[e,aI.get a8] at f4;cases f4
 have bx:bJ≠aN:=λe=>by rw[e,b0] at f4;cases f4
 have bP:=aE.trans (aC.trans (aI.trans bh))
 have f20:=aE.free f2
 have f30:=aE.free (aC.free f3)
 have f40:=aE.free (aC.free (aI.free f4))
 refine⟨λx q1 aJ bd bI n g k=>x=mask c/\q1=⟨ae,0⟩/\aJ=⟨ay,0⟩/\bd=⟨aN,0⟩/\bI=⟨bJ,0⟩/\∃i:Nat,n=i/\i<=12/\k=12-i/\bL h g/\g ae=some (.cells (af.cells (.ws 12 (rh (!c) a b i))).toArray 56 (0,0))/\g ay=some (.cells (af.cells (.ws 12 (rh (!c) b a i))).toArray 56 (0,0))/\g aN=aK aN/\g bJ=aK bJ,
  ⟨12,rfl,rfl,rfl,rfl,rfl,0,rfl,by omega,rfl,bP,by rw[SG];exact(aC.trans (aI.trans bh)).get aF,by rw[SG];exact(aI.trans bh).get a8,rfl,rfl⟩,?_⟩
 rintro x q1 aJ bd bI n g k ⟨rfl,rfl,rfl,rfl,rfl,i,rfl,hi,rfl,cO,g1,g2,g3,g4⟩
 refine cd (λca=>?_) λdx=>?_
 .have b5:i<12:=by omega
  have dB:(0+Int.toNat (i:Int)*1)=i:=by omega
  rw[dB]
  refine⟨by omega,by omega,a[i],?_,by omega,by omega,b[i],?_,?_⟩
  .have:=fb g1 b5
   rw[SH _ a b b5] at this;exact this
  .have:=fb g2 b5
   rw[SH _ b a b5] at this;exact this
  .refine(ayO c a[i] b[i]).to λbo hI=>⟨_,_,rfl,by omega,by omega,?_⟩
   refine pQ (cO.trans hI) f1 (hI.get g1) b5 λJd Hr wb yu=>⟨by omega,by omega,?_⟩
   refine pQ Hr f20 ((yu _ aw).trans (hI.get g2)) b5 λaAf Nf oO c7=>⟨_,?_,rfl,rfl,rfl,rfl,rfl,i+1,bf (by omega) (by omega),by omega,rfl,Nf,?_,?_,?_,?_⟩
   .omega
   .rw[c7 _ (Ne.symm aw),wb,<-SI _ a b b5];cases c<;>rfl
   .rw[oO,<-SI _ b a b5];cases c<;>rfl
   .rw[c7 _ aL,yu _ aA,hI _ (by rw[g3,bh.get b0];simp),g3]
   .rw[c7 _ bm,yu _ aO,hI _ (by rw[g4,b1];simp),g4]
 .have:i=12:=by omega
  subst this
  rw[aeU] at g1 g2
  refine⟨_,dv g1,_,dv g2,pg (n:=12) cO f30 (g3.trans (bh.get b0)) rfl λbo hI b4 iE=>⟨?_,?_⟩⟩
  .exact dv ((iE _ (Ne.symm aL)).trans g2)
  .refine pg (n:=12) hI f40 ((iE _ bx).trans (g4.trans b1)) rfl λJd Hr wb yu=>⟨_,dv ((yu _ (Ne.symm bx)).trans b4),_,dv wb,?_,Hr⟩
   cases c<;>rfl

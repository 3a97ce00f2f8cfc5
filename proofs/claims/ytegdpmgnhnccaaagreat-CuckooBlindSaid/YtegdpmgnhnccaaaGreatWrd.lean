import Derived.Test.YtegdpmgnhnccaaaGreatShKit
import Derived.Test.YtegdpmgnhnccaaaGreatRd
import Derived.Test.YtegdpmgnhnccaaaGreatPla
import Derived.Shelf.Spec.BitsCarry
namespace Go.cR
open Go Go.RowKit
abbrev ez {n:Nat}(c:bo n):Value:= .agg (c.toArray.map ab)
theorem fs {n:Nat}{c:bo n}{h:ak}{b:Nat}{t:TypeId}{f:Nat×Nat}(e:h b=some (.cells (ag.cells (.ws n c)).toArray t f)){i:Nat}(hi:i<n):bx h b i=some (ab c[i]):=by
 rw[B7 e];simp[ag.cells,hi]
theorem dL {n:Nat}{c:bo n}{h:ak}{b:Nat}{t:TypeId}{f:Nat×Nat}(e:h b=some (.cells (ag.cells (.ws n c)).toArray t f)):b5 h b 0 c:=λi hi=>by
 rw[aEX];exact fs e hi
theorem Kt {n:Nat}(c:bo n){i:Nat}(hi:i<n)(x:aE):iI (ag.cells (.ws n c)).toArray i [ab x]=(ag.cells (.ws n (c.set i x))).toArray:=by
 apply aFO;intro j;simp only[aAz,ag.cells,aD1,aEI,List.size_toArray,aDF,Vector.length_toList];by_cases e:i=j
 .subst e;simp[hi]
 .by_cases aU:j<n
  .simp[e,aU,aER,aEa]
  .simp[e,aU]
theorem qu {h0 h:ak}{b n:Nat}{c:bo n}{t:TypeId}{i:Nat}{x:aE}{K:ak->Prop}(k:bL h0 h)(ar:h0 b=none)(e:h b=some (.cells (ag.cells (.ws n c)).toArray t (0,0)))(hi:i<n)
 (ah:∀af,bL h0 af->af b=some (.cells (ag.cells (.ws n (c.set i x))).toArray t (0,0))->(∀y,y≠b->af y=h y)->K af):aW h ⟨b,i⟩ [ab x] K :=
 qh k ar e (by simp[ag.cells];omega) λaf h_ cc Ay=>ah af h_ (by rw[cc,Kt c hi]) Ay
theorem pZ {h0 h:ak}{b n:Nat}{c:Array Value}{cr:bo n}{t:TypeId}{K:ak->Prop}(k:bL h0 h)(ar:h0 b=none)(e:h b=ev c t)(aV:c.size=n)
 (ah:∀af,bL h0 af->af b=some (.cells (ag.cells (.ws n cr)).toArray t (0,0))->(∀y,y≠b->af y=h y)->K af):aW h ⟨b,0⟩ (ag.cells (.ws n cr)) K :=
 iH k ar e (by simp[ag.cells,aV]) ah
def mask (c:Bool):aE:=if c then 18446744073709551615 else 0
theorem ag4 (x:aE):(18446744073709551615:aE) &&& x=x:=by
 apply aDE.1;rw[UInt64.toNat_and,Nat.and_comm];exact(aFt x.toNat 64).trans (aEF x.toNat_lt)
theorem ag5 (a b:aE):b ^^^ (a ^^^ b)=a:=by
 apply aDE.1;rw[UInt64.toNat_xor,UInt64.toNat_xor,Nat.xor_comm a.toNat,<-Nat.xor_assoc,Nat.xor_self,Nat.zero_xor]
theorem ag6 (c:Bool)(a b:aE):b ^^^ mask c &&& (a ^^^ b)=if c then a else b:=by
 cases c
 .show b ^^^ (0 &&& (a ^^^ b))=b;rw[UInt64.zero_and,UInt64.xor_zero]
 .show b ^^^ (18446744073709551615 &&& (a ^^^ b))=a;rw[ag4,ag5]
theorem aBD (c:Bool)(a b:aE):a ^^^ mask c &&& (a ^^^ b)=if c then b else a:=by
 cases c
 .show a ^^^ (0 &&& (a ^^^ b))=a;rw[UInt64.zero_and,UInt64.xor_zero]
 .show a ^^^ (18446744073709551615 &&& (a ^^^ b))=b;rw[ag4,<-UInt64.xor_assoc,UInt64.xor_self,UInt64.zero_xor]
theorem axa (c d:Bool):mask c &&& mask d=mask (c&&d):=by cases c<;>cases d<;>decide
theorem aBE (x:aE):(dX x (UInt64.toNat 63)).toNat=x.toNat/2 ^ 63:=by
 unfold dX;rw[show UInt64.toNat 63=63 from rfl];simp[aFp,Nat.shiftRight_eq_div_pow];have:=x.toNat_lt;omega
theorem aBF (n:aE):0-(dX (~~~(n ||| 0-n)) (UInt64.toNat 63) &&& 1)=mask (n==0):=by
 by_cases h:n=0
 .subst h;decide
 .have aa:2 ^ 63<=(n ||| 0-n).toNat:=by
   rw[UInt64.toNat_or];have aK:n.toNat≠0:=λe=>h (aDE.1 e);have aT:=n.toNat_lt;by_cases c:2 ^ 63<=n.toNat
   .exact aE_ c Nat.left_le_or
   .refine aE_ ?_ Nat.right_le_or;rw[aE5];have:(0:aE).toNat=0:=rfl;omega
  have ad:dX (~~~(n ||| 0-n)) (UInt64.toNat 63)=0:=by
   apply aDE.1;rw[aBE,UInt64.toNat_not];have:=(n ||| 0-n).toNat_lt;have dM:(0:aE).toNat=0:=rfl;rw[dM];have aH:UInt64.size=2 ^ 64:=rfl;omega
  rw[ad];have:(n==0)=false:=by simpa using h
  rw[this];decide
end Go.cR
namespace Go.Proofs.Tryz
open Go Go.cR Go.RowKit
set_option maxRecDepth 8000
theorem ag7 (x:aE):fc prog 116 [ab x] (ab (0-(x &&& 1))):=λh=>asl x ⟨rfl,bL.refl h⟩
theorem NO (n:aE):fc prog 61 [ab n] (ab (mask (n==0))):=λh=>by
 refine aq_ n ?_;unfold abH;exact(ag7 _).to λaa aD=>⟨_,rfl,by rw[aBF],aD⟩
theorem NF (a b:aE):fc prog 114 [ab a,ab b] (ab (mask (a==b))):=λh=>by
 refine asg a b ?_;unfold ab9;refine(NO _).to λaa aD=>⟨_,rfl,?_,aD⟩;have:(a ^^^ b==0)=(a==b):=by
  rw[aDV];simp only[aFi];constructor
  .intro h
   have ad:=ag5 a b;rw[h,UInt64.xor_zero] at ad;exact ad.symm
  .rintro rfl;exact UInt64.xor_self
 rw[this]
theorem aBG (x y:aE)(w:World):(callFunc 205 #[ab x,ab y,ab 0]).run prog w= .ok (.value (.tuple #[.int .u64 (((x.toNat+18446744073709551616-y.toNat-0)%18446744073709551616:Nat):Int),.int .u64 ((if x.toNat<y.toNat+0 then 1 else 0:Nat):Int)])) w:=by rw[run_callFunc_extern func205 (by kernel_rfl) (by kernel_rfl) (by kernel_rfl) (e:=sub64Entry) (by kernel_rfl)];have h:=run_sub64 (P:=prog) x.toNat y.toNat 0 (by omega) w;simp only[ab];erw [h];rfl
theorem aeT (a b:aE):fc prog 192 [ab a,ab b] (ab (mask (decide (a.toNat<b.toNat)))):=λh=>by
 refine atZ a b ?_;unfold acA;refine⟨_,λw=>aBG a b w,UInt64.ofNat ((a.toNat+18446744073709551616-b.toNat-0)%18446744073709551616),UInt64.ofNat (if a.toNat<b.toNat+0 then 1 else 0),?_,?_⟩
 .have aa:=a.toNat_lt;have ad:=b.toNat_lt;simp only[ab,aDw,Nat.mod_mod,aEe];congr 4;by_cases c:a.toNat<b.toNat
  .simp[c]
  .simp[c]
 .refine(ag7 _).to λaa aD=>⟨_,rfl,?_,aD⟩
  by_cases c:a.toNat<b.toNat
  .rw[aEe,aDr c,aDA c];congr 1
  .rw[aEe,aDq c,aDz c];congr 1
theorem Vl (c:Bool)(a b:aE):fc prog 154 [ab (mask c),ab a,ab b] (ab (if c then a else b)):=λh=>by
 refine ata _ a b ?_;exact⟨by rw[ag6],bL.refl h⟩
theorem aBH (c:Bool)(a b:aE):fc prog 206 [ab (mask c),ab a,ab b] (.tuple #[ab (if c then b else a),ab (if c then a else b)]):=λh=>by
 refine auj _ a b ?_;exact⟨by rw[ag6,aBD],bL.refl h⟩
def r5 (c:Bool)(a b:cM)(i:Nat):cM:=Vector.ofFn λj=>if j.1<i then (if c then a[j] else b[j]) else a[j]
theorem Up (c:Bool)(a b:cM):r5 c a b 0=a:=by
 apply aEO;intro i hi;simp[r5]
theorem ag8 (c:Bool)(a b:cM):r5 c a b 12=if c then a else b:=by
 apply aEO;intro i hi;cases c<;>simp[r5,hi]
theorem Uq (c:Bool)(a b:cM){i:Nat}(hi:i<12):(r5 c a b i)[i]=a[i]:=by simp[r5]
theorem Ur (c:Bool)(a b:cM){i:Nat}(hi:i<12):(r5 c a b i).set i (if c then a[i] else b[i])=r5 c a b (i+1):=by
 apply aEO;intro j aU;rw[aEa];by_cases e:i=j
 .subst e;simp[r5]
 .rw[aDq e];simp only[r5,aFI];by_cases aS:j<i
  .rw[aDr aS,aDr (show j<i+1 by omega)]
  .rw[aDq aS,aDq (show ¬j<i+1 by omega)]
theorem NG (c:Bool)(a b:cM):fc prog 113 [ab (mask c),ez a,ez b] (ez (if c then a else b)):=λh=>by
 refine ase _ a b ?_;unfold ab8;refine bP λae aa f1 aH aD=>bP λax ad f2 a_ aB=>bP λaM an f3 b7 aG=>?_;have ay:ax≠ae:=λe=>by rw[e,aH] at f2;cases f2
 have aA:aM≠ae:=λe=>by rw[e,aB.get aH] at f3;cases f3
 have aL:aM≠ax:=λe=>by rw[e,a_] at f3;cases f3
 have bW:=aD.trans (aB.trans aG);refine⟨λx q1 aI bb n g k=>x=mask c/\q1=⟨ae,0⟩/\aI=⟨ax,0⟩/\bb=⟨aM,0⟩/\∃i:Nat,n=i/\i<=12/\k=12-i/\bL h g/\g ae=some (.cells (ag.cells (.ws 12 (r5 c a b i))).toArray 69 (0,0))/\g ax=an ax/\g aM=an aM,⟨12,rfl,rfl,rfl,rfl,0,rfl,by omega,rfl,bW,by rw[Up];exact(aB.trans aG).get aH,rfl,rfl⟩,?_⟩;rintro x q1 aI bb n g k ⟨rfl,rfl,rfl,rfl,i,rfl,hi,rfl,cY,g1,g2,g3⟩;refine cj (λcl=>?_) λdH=>?_
 .have cb:i<12:=by omega
  refine⟨by omega,by omega,a[i],?_,by omega,by omega,b[i],?_,?_⟩
  .have:=fs g1 cb;rw[Uq c a b cb] at this;simpa using this
  .have:=fs (g2.trans (aG.get a_)) cb;simpa using this
  .refine(Vl c a[i] b[i]).to λbw h9=>⟨_,rfl,by omega,by omega,?_⟩
   have dM:(0+Int.toNat (i:Int)*1)=i:=by omega
   rw[dM];refine qu (cY.trans h9) f1 (h9.get g1) cb λKM IH xh zs=>⟨_,?_,rfl,rfl,rfl,rfl,i+1,bt,by omega,rfl,IH,by rw[xh,Ur c a b cb],?_,?_⟩
   .omega
   .rw[zs _ ay,h9 _ (by rw[g2,aG.get a_];simp),g2]
   .rw[zs _ aA,h9 _ (by rw[g3,b7];simp),g3]
 .have:i=12:=by omega
  subst this;rw[ag8] at g1;refine⟨_,dL g1,pZ (n:=12) cY (aD.free (aB.free f3)) (g3.trans b7) rfl λbw h9 cc _=>⟨_,dL cc,rfl,h9⟩⟩
theorem aw5 (c:Bool)(a b:cM):fc prog 193 [ab (mask c),ez a,ez b] (.tuple #[ez (if c then b else a),ez (if c then a else b)]):=λh=>by
 refine at1 _ a b ?_;unfold acC;refine bP λae aa f1 aH aD=>bP λax ad f2 a_ aB=>bP λaM an f3 b7 aG=>bP λbM aJ f4 b6 bd=>?_;have ay:ax≠ae:=λe=>by rw[e,aH] at f2;cases f2
 have aA:aM≠ae:=λe=>by rw[e,aB.get aH] at f3;cases f3
 have aL:aM≠ax:=λe=>by rw[e,a_] at f3;cases f3
 have aO:bM≠ae:=λe=>by rw[e,(aB.trans aG).get aH] at f4;cases f4
 have bh:bM≠ax:=λe=>by rw[e,aG.get a_] at f4;cases f4
 have bB:bM≠aM:=λe=>by rw[e,b7] at f4;cases f4
 have bW:=aD.trans (aB.trans (aG.trans bd));have f20:=aD.free f2;have f30:=aD.free (aB.free f3);have f40:=aD.free (aB.free (aG.free f4));refine⟨λx q1 aI bb bH n g k=>x=mask c/\q1=⟨ae,0⟩/\aI=⟨ax,0⟩/\bb=⟨aM,0⟩/\bH=⟨bM,0⟩/\∃i:Nat,n=i/\i<=12/\k=12-i/\bL h g/\g ae=some (.cells (ag.cells (.ws 12 (r5 (!c) a b i))).toArray 69 (0,0))/\g ax=some (.cells (ag.cells (.ws 12 (r5 (!c) b a i))).toArray 69 (0,0))/\g aM=aJ aM/\g bM=aJ bM,
  ⟨12,rfl,rfl,rfl,rfl,rfl,0,rfl,by omega,rfl,bW,by rw[Up];exact(aB.trans (aG.trans bd)).get aH,by rw[Up];exact(aG.trans bd).get a_,rfl,rfl⟩,?_⟩
 rintro x q1 aI bb bH n g k ⟨rfl,rfl,rfl,rfl,rfl,i,rfl,hi,rfl,cY,g1,g2,g3,g4⟩;refine cj (λcl=>?_) λdH=>?_
 .have cb:i<12:=by omega
  have dM:(0+Int.toNat (i:Int)*1)=i:=by omega
  rw[dM];refine⟨by omega,by omega,a[i],?_,by omega,by omega,b[i],?_,?_⟩
  .have:=fs g1 cb;rw[Uq _ a b cb] at this;exact this
  .have:=fs g2 cb;rw[Uq _ b a cb] at this;exact this
  .refine(aBH c a[i] b[i]).to λbw h9=>⟨_,_,rfl,by omega,by omega,?_⟩
   refine qu (cY.trans h9) f1 (h9.get g1) cb λKM IH xh zs=>⟨by omega,by omega,?_⟩;refine qu IH f20 ((zs _ ay).trans (h9.get g2)) cb λaDp OP pt da=>⟨_,?_,rfl,rfl,rfl,rfl,rfl,i+1,bt,by omega,rfl,OP,?_,?_,?_,?_⟩
   .omega
   .rw[da _ (aDC ay),xh,<-Ur _ a b cb];cases c<;>rfl
   .rw[pt,<-Ur _ b a cb];cases c<;>rfl
   .rw[da _ aL,zs _ aA,h9 _ (by rw[g3,bd.get b7];simp),g3]
   .rw[da _ bh,zs _ aO,h9 _ (by rw[g4,b6];simp),g4]
 .have:i=12:=by omega
  subst this;rw[ag8] at g1 g2;refine⟨_,dL g1,_,dL g2,pZ (n:=12) cY f30 (g3.trans (bd.get b7)) rfl λbw h9 cc iF=>⟨?_,?_⟩⟩
  .exact dL ((iF _ (aDC aL)).trans g2)
  .refine pZ (n:=12) h9 f40 ((iF _ bB).trans (g4.trans b6)) rfl λKM IH xh zs=>⟨_,dL ((zs _ (aDC bB)).trans cc),_,dL xh,?_,IH⟩;cases c<;>rfl

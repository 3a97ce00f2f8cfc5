import Derived.Test.YtegdpmgnhnccaaaGreatShKit
import Derived.Test.YtegdpmgnhnccaaaGreatRd
import Derived.Test.YtegdpmgnhnccaaaGreatPla
import Derived.Shelf.Spec.BitsCarry
namespace Go.cQ
open Go Go.RowKit
abbrev ec {n:Nat}(c:bk n):Value:= .agg (c.toArray.map ak)
theorem gi {n:Nat}{c:bk n}{h:ai}{b:Nat}{t:TypeId}{f:Nat×Nat}(e:h b=some (.cells (ae.cells (.ws n c)).toArray t f)){i:Nat}(hi:i<n):bR h b i=some (ak c[i]):=by
 rw[B8 e];simp[ae.cells,hi]
theorem da {n:Nat}{c:bk n}{h:ai}{b:Nat}{t:TypeId}{f:Nat×Nat}(e:h b=some (.cells (ae.cells (.ws n c)).toArray t f)):bP h b 0 c:=λi hi=>by
 rw[Nat.zero_add];exact gi e hi
theorem E5 {n:Nat}(c:bk n){i:Nat}(hi:i<n)(x:a8):hg (ae.cells (.ws n c)).toArray i [ak x]=(ae.cells (.ws n (c.set i x))).toArray:=by
 apply Array.ext_getElem?;intro j;simp only[aqr,ae.cells,atO,auh,List.size_toArray,ath,Vector.length_toList];by_cases e:i=j
 .subst e;simp[hi]
 .by_cases aL:j<n
  .simp[e,aL,aut,atL]
  .simp[e,aL]
theorem ob {h0 h:ai}{b n:Nat}{c:bk n}{t:TypeId}{i:Nat}{x:a8}{K:ai->Prop}(k:bB h0 h)(au:h0 b=none)(e:h b=some (.cells (ae.cells (.ws n c)).toArray t (0,0)))(hi:i<n)
 (ab:∀ag,bB h0 ag->ag b=some (.cells (ae.cells (.ws n (c.set i x))).toArray t (0,0))->(∀y,y≠b->ag y=h y)->K ag):a1 h ⟨b,i⟩ [ak x] K :=
 n0 k au e (by simp[ae.cells];omega) λag hd ch w8=>ab ag hd (by rw[ch,E5 c hi]) w8
theorem m8 {h0 h:ai}{b n:Nat}{c:Array Value}{b8:bk n}{t:TypeId}{K:ai->Prop}(k:bB h0 h)(au:h0 b=none)(e:h b=dB c t)(aR:c.size=n)
 (ab:∀ag,bB h0 ag->ag b=some (.cells (ae.cells (.ws n b8)).toArray t (0,0))->(∀y,y≠b->ag y=h y)->K ag):a1 h ⟨b,0⟩ (ae.cells (.ws n b8)) K :=
 kC k au e (by simp[ae.cells,aR]) ab
def mask (c:Bool):a8:=if c then 18446744073709551615 else 0
theorem ZV (x:a8):(18446744073709551615:a8) &&& x=x:=by
 apply att.1;rw[UInt64.toNat_and,Nat.and_comm];exact(Nat.and_two_pow_sub_one_eq_mod x.toNat 64).trans (aun x.toNat_lt)
theorem ZW (a b:a8):b ^^^ (a ^^^ b)=a:=by
 apply att.1;rw[UInt64.toNat_xor,UInt64.toNat_xor,Nat.xor_comm a.toNat,<-Nat.xor_assoc,Nat.xor_self,Nat.zero_xor]
theorem ZX (c:Bool)(a b:a8):b ^^^ mask c &&& (a ^^^ b)=if c then a else b:=by
 cases c
 .show b ^^^ (0 &&& (a ^^^ b))=b;rw[UInt64.zero_and,UInt64.xor_zero]
 .show b ^^^ (18446744073709551615 &&& (a ^^^ b))=a;rw[ZV,ZW]
theorem ary (c:Bool)(a b:a8):a ^^^ mask c &&& (a ^^^ b)=if c then b else a:=by
 cases c
 .show a ^^^ (0 &&& (a ^^^ b))=a;rw[UInt64.zero_and,UInt64.xor_zero]
 .show a ^^^ (18446744073709551615 &&& (a ^^^ b))=b;rw[ZV,<-UInt64.xor_assoc,UInt64.xor_self,UInt64.zero_xor]
theorem amT (c d:Bool):mask c &&& mask d=mask (c&&d):=by cases c<;>cases d<;>decide
theorem arz (x:a8):(ds x (UInt64.toNat 63)).toNat=x.toNat/2 ^ 63:=by
 unfold ds;rw[show UInt64.toNat 63=63 from rfl];simp[auT,Nat.shiftRight_eq_div_pow];have:=x.toNat_lt;omega
theorem arA (n:a8):0-(ds (~~~(n ||| 0-n)) (UInt64.toNat 63) &&& 1)=mask (n==0):=by
 by_cases h:n=0
 .subst h;decide
 .have aa:2 ^ 63<=(n ||| 0-n).toNat:=by
   rw[UInt64.toNat_or];have aH:n.toNat≠0:=λe=>h (att.1 e);have aO:=n.toNat_lt;by_cases c:2 ^ 63<=n.toNat
   .exact au0 c Nat.left_le_or
   .refine au0 ?_ Nat.right_le_or;rw[UInt64.toNat_sub];have:(0:a8).toNat=0:=rfl;omega
  have ad:ds (~~~(n ||| 0-n)) (UInt64.toNat 63)=0:=by
   apply att.1;rw[arz,UInt64.toNat_not];have:=(n ||| 0-n).toNat_lt;have eg:(0:a8).toNat=0:=rfl;rw[eg];have aC:UInt64.size=2 ^ 64:=rfl;omega
  rw[ad];have:(n==0)=false:=by simpa using h
  rw[this];decide
end Go.cQ
namespace Go.Proofs.Tryz
open Go Go.cQ Go.RowKit
set_option maxRecDepth 8000
theorem ZY (x:a8):eu prog 116 [ak x] (ak (0-(x &&& 1))):=λh=>aiF x ⟨rfl,bB.refl h⟩
theorem Zr (n:a8):eu prog 61 [ak n] (ak (mask (n==0))):=λh=>by
 refine ahL n ?_;unfold UH;exact(ZY _).to λaa aE=>⟨_,rfl,by rw[arA],aE⟩
theorem XG (a b:a8):eu prog 114 [ak a,ak b] (ak (mask (a==b))):=λh=>by
 refine aiB a b ?_;unfold U2;refine(Zr _).to λaa aE=>⟨_,rfl,?_,aE⟩;have:(a ^^^ b==0)=(a==b):=by
  rw[atz];simp only[beq_iff_eq];constructor
  .intro h
   have ad:=ZW a b;rw[h,UInt64.xor_zero] at ad;exact ad.symm
  .rintro rfl;exact UInt64.xor_self
 rw[this]
theorem arB (x y:a8)(w:World):(callFunc 205 #[ak x,ak y,ak 0]).run prog w= .ok (.value (.tuple #[.int .u64 (((x.toNat+18446744073709551616-y.toNat-0)%18446744073709551616:Nat):Int),.int .u64 ((if x.toNat<y.toNat+0 then 1 else 0:Nat):Int)])) w:=by rw[run_callFunc_extern func205 (by kernel_rfl) (by kernel_rfl) (by kernel_rfl) (e:=sub64Entry) (by kernel_rfl)];have h:=run_sub64 (P:=prog) x.toNat y.toNat 0 (by omega) w;simp only[ak];erw [h];rfl
theorem XE (a b:a8):eu prog 192 [ak a,ak b] (ak (mask (decide (a.toNat<b.toNat)))):=λh=>by
 refine ajU a b ?_;unfold Vm;refine⟨_,λw=>arB a b w,UInt64.ofNat ((a.toNat+18446744073709551616-b.toNat-0)%18446744073709551616),UInt64.ofNat (if a.toNat<b.toNat+0 then 1 else 0),?_,?_⟩
 .have aa:=a.toNat_lt;have ad:=b.toNat_lt;simp only[ak,ate,Nat.mod_mod,atQ];congr 4;by_cases c:a.toNat<b.toNat
  .simp[c]
  .simp[c]
 .refine(ZY _).to λaa aE=>⟨_,rfl,?_,aE⟩
  by_cases c:a.toNat<b.toNat
  .rw[atQ,as8 c,atl c];congr 1
  .rw[atQ,as7 c,ati c];congr 1
theorem arC (c:Bool)(a b:a8):eu prog 154 [ak (mask c),ak a,ak b] (ak (if c then a else b)):=λh=>by
 refine aje _ a b ?_;exact⟨by rw[ZX],bB.refl h⟩
theorem arD (c:Bool)(a b:a8):eu prog 206 [ak (mask c),ak a,ak b] (.tuple #[ak (if c then b else a),ak (if c then a else b)]):=λh=>by
 refine akd _ a b ?_;exact⟨by rw[ZX,ary],bB.refl h⟩
def pP (c:Bool)(a b:cM)(i:Nat):cM:=Vector.ofFn λj=>if j.1<i then (if c then a[j] else b[j]) else a[j]
theorem Oy (c:Bool)(a b:cM):pP c a b 0=a:=by
 apply aub;intro i hi;simp[pP]
theorem ZZ (c:Bool)(a b:cM):pP c a b 12=if c then a else b:=by
 apply aub;intro i hi;cases c<;>simp[pP,hi]
theorem Oz (c:Bool)(a b:cM){i:Nat}(hi:i<12):(pP c a b i)[i]=a[i]:=by simp[pP]
theorem OA (c:Bool)(a b:cM){i:Nat}(hi:i<12):(pP c a b i).set i (if c then a[i] else b[i])=pP c a b (i+1):=by
 apply aub;intro j aL;rw[atL];by_cases e:i=j
 .subst e;simp[pP]
 .rw[as7 e];simp only[pP,auD];by_cases aX:j<i
  .rw[as8 aX,as8 (show j<i+1 by omega)]
  .rw[as7 aX,as7 (show ¬j<i+1 by omega)]
theorem XH (c:Bool)(a b:cM):eu prog 113 [ak (mask c),ec a,ec b] (ec (if c then a else b)):=λh=>by
 refine aiz _ a b ?_;unfold U1;refine bL λaj aa f1 aC aE=>bL λaB ad f2 a7 az=>bL λaS aq f3 b2 aD=>?_;have ax:aB≠aj:=λe=>by rw[e,aC] at f2;cases f2
 have ay:aS≠aj:=λe=>by rw[e,az.get aC] at f3;cases f3
 have aI:aS≠aB:=λe=>by rw[e,a7] at f3;cases f3
 have bI:=aE.trans (az.trans aD);refine⟨λx q1 aP bs n g k=>x=mask c/\q1=⟨aj,0⟩/\aP=⟨aB,0⟩/\bs=⟨aS,0⟩/\∃i:Nat,n=i/\i<=12/\k=12-i/\bB h g/\g aj=some (.cells (ae.cells (.ws 12 (pP c a b i))).toArray 69 (0,0))/\g aB=aq aB/\g aS=aq aS,⟨12,rfl,rfl,rfl,rfl,0,rfl,by omega,rfl,bI,by rw[Oy];exact(az.trans aD).get aC,rfl,rfl⟩,?_⟩;rintro x q1 aP bs n g k ⟨rfl,rfl,rfl,rfl,i,rfl,hi,rfl,cv,g1,g2,g3⟩;refine b6 (λb1=>?_) λc3=>?_
 .have bN:i<12:=by omega
  refine⟨by omega,by omega,a[i],?_,by omega,by omega,b[i],?_,?_⟩
  .have:=gi g1 bN;rw[Oz c a b bN] at this;simpa using this
  .have:=gi (g2.trans (aD.get a7)) bN;simpa using this
  .refine(arC c a[i] b[i]).to λbg gq=>⟨_,rfl,by omega,by omega,?_⟩
   have eg:(0+Int.toNat (i:Int)*1)=i:=by omega
   rw[eg];refine ob (cv.trans gq) f1 (gq.get g1) bN λFo D_ t_ wk=>⟨_,?_,rfl,rfl,rfl,rfl,i+1,bl,by omega,rfl,D_,by rw[t_,OA c a b bN],?_,?_⟩
   .omega
   .rw[wk _ ax,gq _ (by rw[g2,aD.get a7];simp),g2]
   .rw[wk _ ay,gq _ (by rw[g3,b2];simp),g3]
 .have:i=12:=by omega
  subst this;rw[ZZ] at g1;refine⟨_,da g1,m8 (n:=12) cv (aE.free (az.free f3)) (g3.trans b2) rfl λbg gq ch _=>⟨_,da ch,rfl,gq⟩⟩
theorem amM (c:Bool)(a b:cM):eu prog 193 [ak (mask c),ec a,ec b] (.tuple #[ec (if c then b else a),ec (if c then a else b)]):=λh=>by
 refine ajW _ a b ?_;unfold Vo;refine bL λaj aa f1 aC aE=>bL λaB ad f2 a7 az=>bL λaS aq f3 b2 aD=>bL λb7 aJ f4 b5 bc=>?_;have ax:aB≠aj:=λe=>by rw[e,aC] at f2;cases f2
 have ay:aS≠aj:=λe=>by rw[e,az.get aC] at f3;cases f3
 have aI:aS≠aB:=λe=>by rw[e,a7] at f3;cases f3
 have aQ:b7≠aj:=λe=>by rw[e,(az.trans aD).get aC] at f4;cases f4
 have bm:b7≠aB:=λe=>by rw[e,aD.get a7] at f4;cases f4
 have bx:b7≠aS:=λe=>by rw[e,b2] at f4;cases f4
 have bI:=aE.trans (az.trans (aD.trans bc));have f20:=aE.free f2;have f30:=aE.free (az.free f3);have f40:=aE.free (az.free (aD.free f4));refine⟨λx q1 aP bs bJ n g k=>x=mask c/\q1=⟨aj,0⟩/\aP=⟨aB,0⟩/\bs=⟨aS,0⟩/\bJ=⟨b7,0⟩/\∃i:Nat,n=i/\i<=12/\k=12-i/\bB h g/\g aj=some (.cells (ae.cells (.ws 12 (pP (!c) a b i))).toArray 69 (0,0))/\g aB=some (.cells (ae.cells (.ws 12 (pP (!c) b a i))).toArray 69 (0,0))/\g aS=aJ aS/\g b7=aJ b7,
  ⟨12,rfl,rfl,rfl,rfl,rfl,0,rfl,by omega,rfl,bI,by rw[Oy];exact(az.trans (aD.trans bc)).get aC,by rw[Oy];exact(aD.trans bc).get a7,rfl,rfl⟩,?_⟩
 rintro x q1 aP bs bJ n g k ⟨rfl,rfl,rfl,rfl,rfl,i,rfl,hi,rfl,cv,g1,g2,g3,g4⟩;refine b6 (λb1=>?_) λc3=>?_
 .have bN:i<12:=by omega
  have eg:(0+Int.toNat (i:Int)*1)=i:=by omega
  rw[eg];refine⟨by omega,by omega,a[i],?_,by omega,by omega,b[i],?_,?_⟩
  .have:=gi g1 bN;rw[Oz _ a b bN] at this;exact this
  .have:=gi g2 bN;rw[Oz _ b a bN] at this;exact this
  .refine(arD c a[i] b[i]).to λbg gq=>⟨_,_,rfl,by omega,by omega,?_⟩
   refine ob (cv.trans gq) f1 (gq.get g1) bN λFo D_ t_ wk=>⟨by omega,by omega,?_⟩;refine ob D_ f20 ((wk _ ax).trans (gq.get g2)) bN λas6 Ir n6 c9=>⟨_,?_,rfl,rfl,rfl,rfl,rfl,i+1,bl,by omega,rfl,Ir,?_,?_,?_,?_⟩
   .omega
   .rw[c9 _ (atf ax),t_,<-OA _ a b bN];cases c<;>rfl
   .rw[n6,<-OA _ b a bN];cases c<;>rfl
   .rw[c9 _ aI,wk _ ay,gq _ (by rw[g3,bc.get b2];simp),g3]
   .rw[c9 _ bm,wk _ aQ,gq _ (by rw[g4,b5];simp),g4]
 .have:i=12:=by omega
  subst this;rw[ZZ] at g1 g2;refine⟨_,da g1,_,da g2,m8 (n:=12) cv f30 (g3.trans (bc.get b2)) rfl λbg gq ch il=>⟨?_,?_⟩⟩
  .exact da ((il _ (atf aI)).trans g2)
  .refine m8 (n:=12) gq f40 ((il _ bx).trans (g4.trans b5)) rfl λFo D_ t_ wk=>⟨_,da ((wk _ (atf bx)).trans ch),_,da t_,?_,D_⟩;cases c<;>rfl

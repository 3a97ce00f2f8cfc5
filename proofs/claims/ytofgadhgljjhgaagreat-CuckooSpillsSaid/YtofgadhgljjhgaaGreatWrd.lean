/- Words without a branch: masks, and cells that are picked and turned by them. -/
import Derived.Test.YtofgadhgljjhgaaGreatShKit
import Derived.Test.YtofgadhgljjhgaaGreatRd
import Derived.Test.YtofgadhgljjhgaaGreatPla
import Derived.Shelf.Spec.BitsCarry
namespace Go.Sh
open Go Go.RowKit
abbrev wv {n:Nat} (c:Vector UInt64 n):Value:= .agg (c.toArray.map vu)
theorem wb_get {n:Nat} {c:Vector UInt64 n} {h:Hp} {b:Nat} {t:TypeId} {f:Nat×Nat} (e:h b=some (.cells (SV.cells (.ws n c)).toArray t f)) {i:Nat} (hi:i<n):hcell h b i=some (vu c[i]):=by
 rw[hcell_cells e];simp[SV.cells,hi]
theorem wb_rd {n:Nat} {c:Vector UInt64 n} {h:Hp} {b:Nat} {t:TypeId} {f:Nat×Nat} (e:h b=some (.cells (SV.cells (.ws n c)).toArray t f)):rdW h b 0 c:=fun i hi=>by
 rw[Nat.zero_add];exact wb_get e hi
theorem wb_hwr {n:Nat} (c:Vector UInt64 n) {i:Nat} (hi:i<n) (x:UInt64):hwr (SV.cells (.ws n c)).toArray i [vu x]=(SV.cells (.ws n (c.set i x))).toArray:=by
 apply Array.ext_getElem?
 intro j
 simp only[hwr_one,SV.cells,List.getElem?_toArray,Array.getElem?_setIfInBounds,List.size_toArray,List.length_map,Vector.length_toList]
 by_cases e:i=j
 · subst e;simp[hi]
 · by_cases hj:j<n
   · simp[e,hj,Vector.getElem_set_ne,Vector.getElem_set]
   · simp[e,hj]
theorem wbS {h0 h:Hp} {b n:Nat} {c:Vector UInt64 n} {t:TypeId} {i:Nat} {x:UInt64} {K:Hp→Prop} (k:Keep h0 h) (hb:h0 b=none) (e:h b=some (.cells (SV.cells (.ws n c)).toArray t (0,0))) (hi:i<n)
   (hk:∀h',Keep h0 h'→h' b=some (.cells (SV.cells (.ws n (c.set i x))).toArray t (0,0))→(∀y,y≠b→h' y=h y)→K h'):storeK h ⟨b,i⟩ [vu x] K :=
 stN k hb e (by simp[SV.cells];omega) fun h' k' e' f'=>hk h' k' (by rw[e',wb_hwr c hi]) f'
theorem wbW {h0 h:Hp} {b n:Nat} {c:Array Value} {c':Vector UInt64 n} {t:TypeId} {K:Hp→Prop} (k:Keep h0 h) (hb:h0 b=none) (e:h b=some (.cells c t (0,0))) (hs:c.size=n)
   (hk:∀h',Keep h0 h'→h' b=some (.cells (SV.cells (.ws n c')).toArray t (0,0))→(∀y,y≠b→h' y=h y)→K h'):storeK h ⟨b,0⟩ (SV.cells (.ws n c')) K :=
 stW k hb e (by simp[SV.cells,hs]) hk
def mask (c:Bool):UInt64:=if c then 18446744073709551615 else 0
theorem all_and (x:UInt64):(18446744073709551615:UInt64) &&& x=x:=by
 apply UInt64.toNat_inj.1
 rw[UInt64.toNat_and,Nat.and_comm]
 exact(Nat.and_two_pow_sub_one_eq_mod x.toNat 64).trans (Nat.mod_eq_of_lt x.toNat_lt)
theorem xor_back (a b:UInt64):b ^^^ (a ^^^ b)=a:=by
 apply UInt64.toNat_inj.1
 rw[UInt64.toNat_xor,UInt64.toNat_xor,Nat.xor_comm a.toNat,←Nat.xor_assoc,Nat.xor_self,Nat.zero_xor]
theorem pick_mask (c:Bool) (a b:UInt64):b ^^^ mask c &&& (a ^^^ b)=if c then a else b:=by
 cases c
 · show b ^^^ (0 &&& (a ^^^ b))=b
   rw[UInt64.zero_and,UInt64.xor_zero]
 · show b ^^^ (18446744073709551615 &&& (a ^^^ b))=a
   rw[all_and,xor_back]
theorem swap_mask (c:Bool) (a b:UInt64):a ^^^ mask c &&& (a ^^^ b)=if c then b else a:=by
 cases c
 · show a ^^^ (0 &&& (a ^^^ b))=a
   rw[UInt64.zero_and,UInt64.xor_zero]
 · show a ^^^ (18446744073709551615 &&& (a ^^^ b))=b
   rw[all_and,←UInt64.xor_assoc,UInt64.xor_self,UInt64.zero_xor]
theorem mask_and (c d:Bool):mask c &&& mask d=mask (c&&d):=by cases c<;>cases d<;>decide
theorem ushr63 (x:UInt64):(ushr x (UInt64.toNat 63)).toNat=x.toNat/2 ^ 63:=by
 unfold ushr
 rw[show UInt64.toNat 63=63 from rfl]
 simp[UInt64.toNat_shiftRight,Nat.shiftRight_eq_div_pow]
 have:=x.toNat_lt;omega
theorem spread_mask (n:UInt64):0-(ushr (~~~(n ||| 0-n)) (UInt64.toNat 63) &&& 1)=mask (n==0):=by
 by_cases h:n=0
 · subst h;decide
 · have h1:2 ^ 63≤(n ||| 0-n).toNat:=by
     rw[UInt64.toNat_or]
     have hn:n.toNat≠0:=fun e=>h (UInt64.toNat_inj.1 e)
     have hl:=n.toNat_lt
     by_cases c:2 ^ 63≤n.toNat
     · exact Nat.le_trans c Nat.left_le_or
     · refine Nat.le_trans ?_ Nat.right_le_or
       rw[UInt64.toNat_sub]
       have:(0:UInt64).toNat=0:=rfl
       omega
   have h2:ushr (~~~(n ||| 0-n)) (UInt64.toNat 63)=0:=by
     apply UInt64.toNat_inj.1
     rw[ushr63,UInt64.toNat_not]
     have:=(n ||| 0-n).toNat_lt
     have e0:(0:UInt64).toNat=0:=rfl
     rw[e0]
     have e1:UInt64.size=2 ^ 64:=rfl
     omega
   rw[h2]
   have:(n==0)=false:=by simpa using h
   rw[this];decide
end Go.Sh
namespace Go.Proofs.Tryz
open Go Go.Sh Go.RowKit
set_option maxRecDepth 8000
theorem word_spread (x:UInt64):PureC prog 97 [vu x] (vu (0-(x &&& 1))):=fun h=>c97 x ⟨rfl,Keep.refl h⟩
theorem word_zero (n:UInt64):PureC prog 54 [vu n] (vu (mask (n==0))):=fun h=>by
 refine c54 n ?_
 unfold G54
 exact(word_spread _).to fun h1 k1=>⟨_,rfl,by rw[spread_mask],k1⟩
theorem word_equal (a b:UInt64):PureC prog 94 [vu a,vu b] (vu (mask (a==b))):=fun h=>by
 refine c94 a b ?_
 unfold G94
 refine(word_zero _).to fun h1 k1=>⟨_,rfl,?_,k1⟩
 have:(a ^^^ b==0)=(a==b):=by
   rw[Bool.eq_iff_iff]
   simp only[beq_iff_eq]
   constructor
   · intro h
     have h2:=xor_back a b
     rw[h,UInt64.xor_zero] at h2;exact h2.symm
   · rintro rfl;exact UInt64.xor_self
 rw[this]
theorem sub64_run (x y:UInt64) (w:World):(callFunc 187 #[vu x,vu y,vu 0]).run prog w= .ok (.value (.tuple #[.int .u64 (((x.toNat+18446744073709551616-y.toNat-0)%18446744073709551616:Nat):Int),.int .u64 ((if x.toNat<y.toNat+0 then 1 else 0:Nat):Int)])) w:=by rw[run_callFunc_extern func187 (by kernel_rfl) (by kernel_rfl) (by kernel_rfl) (e:=sub64Entry) (by kernel_rfl)];have h:=run_sub64 (P:=prog) x.toNat y.toNat 0 (by omega) w;simp only[vu];erw [h];rfl
theorem word_less (a b:UInt64):PureC prog 172 [vu a,vu b] (vu (mask (decide (a.toNat<b.toNat)))):=fun h=>by
 refine c172 a b ?_
 unfold G172
 refine⟨_,fun w=>sub64_run a b w,UInt64.ofNat ((a.toNat+18446744073709551616-b.toNat-0)%18446744073709551616),UInt64.ofNat (if a.toNat<b.toNat+0 then 1 else 0),?_,?_⟩
 · have h1:=a.toNat_lt;have h2:=b.toNat_lt
   simp only[vu,UInt64.toNat_ofNat',Nat.mod_mod,Nat.add_zero]
   congr 4
   by_cases c:a.toNat<b.toNat
   · simp[c]
   · simp[c]
 · refine(word_spread _).to fun h1 k1=>⟨_,rfl,?_,k1⟩
   by_cases c:a.toNat<b.toNat
   · rw[Nat.add_zero,if_pos c,decide_eq_true c];congr 1
   · rw[Nat.add_zero,if_neg c,decide_eq_false c];congr 1
theorem word_pick (c:Bool) (a b:UInt64):PureC prog 91 [vu (mask c),vu a,vu b] (vu (if c then a else b)):=fun h=>by
 refine c91 _ a b ?_
 exact⟨by rw[pick_mask],Keep.refl h⟩
theorem word_swap (c:Bool) (a b:UInt64):PureC prog 188 [vu (mask c),vu a,vu b] (.tuple #[vu (if c then b else a),vu (if c then a else b)]):=fun h=>by
 refine c188 _ a b ?_
 exact⟨by rw[pick_mask,swap_mask],Keep.refl h⟩
def mixV (c:Bool) (a b:Cel) (i:Nat):Cel:=Vector.ofFn fun j=>if j.1<i then (if c then a[j] else b[j]) else a[j]
theorem mixV_0 (c:Bool) (a b:Cel):mixV c a b 0=a:=by
 apply Vector.ext;intro i hi;simp[mixV]
theorem mixV_12 (c:Bool) (a b:Cel):mixV c a b 12=if c then a else b:=by
 apply Vector.ext;intro i hi;cases c<;>simp[mixV,hi]
theorem mixV_get (c:Bool) (a b:Cel) {i:Nat} (hi:i<12):(mixV c a b i)[i]=a[i]:=by simp[mixV]
theorem mixV_set (c:Bool) (a b:Cel) {i:Nat} (hi:i<12):(mixV c a b i).set i (if c then a[i] else b[i])=mixV c a b (i+1):=by
 apply Vector.ext
 intro j hj
 rw[Vector.getElem_set]
 by_cases e:i=j
 · subst e;simp[mixV]
 · rw[if_neg e];simp only[mixV,Vector.getElem_ofFn]
   by_cases c1:j<i
   · rw[if_pos c1,if_pos (show j<i+1 by omega)]
   · rw[if_neg c1,if_neg (show ¬j<i+1 by omega)]
theorem word_pickCell (c:Bool) (a b:Cel):PureC prog 92 [vu (mask c),wv a,wv b] (wv (if c then a else b)):=fun h=>by
 refine c92 _ a b ?_
 unfold G92
 refine newC fun b1 h1 f1 e1 k1=>newC fun b2 h2 f2 e2 k2=>newC fun b3 h3 f3 e3 k3=>?_
 have n1:b2≠b1:=fun e=>by rw[e,e1] at f2;cases f2
 have n2:b3≠b1:=fun e=>by rw[e,k2.get e1] at f3;cases f3
 have n3:b3≠b2:=fun e=>by rw[e,e2] at f3;cases f3
 have kk:=k1.trans (k2.trans k3)
 refine⟨fun x q1 q2 q3 n g k=>x=mask c∧q1=⟨b1,0⟩∧q2=⟨b2,0⟩∧q3=⟨b3,0⟩∧∃i:Nat,n=i∧i≤12∧k=12-i∧Keep h g∧g b1=some (.cells (SV.cells (.ws 12 (mixV c a b i))).toArray 56 (0,0))∧g b2=h3 b2∧g b3=h3 b3,⟨12,rfl,rfl,rfl,rfl,0,rfl,by omega,rfl,kk,by rw[mixV_0];exact(k2.trans k3).get e1,rfl,rfl⟩,?_⟩
 rintro x q1 q2 q3 n g k ⟨rfl,rfl,rfl,rfl,i,rfl,hi,rfl,kg,g1,g2,g3⟩
 refine ifD (fun hlt=>?_) fun hge=>?_
 · have hi':i<12:=by omega
   refine⟨by omega,by omega,a[i],?_,by omega,by omega,b[i],?_,?_⟩
   · have:=wb_get g1 hi'
     rw[mixV_get c a b hi'] at this
     simpa using this
   · have:=wb_get (g2.trans (k3.get e2)) hi'
     simpa using this
   · refine(word_pick c a[i] b[i]).to fun g' kg'=>⟨_,rfl,by omega,by omega,?_⟩
     have e0:(0+Int.toNat (i:Int)*1)=i:=by omega
     rw[e0]
     refine wbS (kg.trans kg') f1 (kg'.get g1) hi' fun g'' kg'' e'' o''=>⟨_,?_,rfl,rfl,rfl,rfl,i+1,w64_id (by omega) (by omega),by omega,rfl,kg'',by rw[e'',mixV_set c a b hi'],?_,?_⟩
     · omega
     · rw[o'' _ n1,kg' _ (by rw[g2,k3.get e2];simp),g2]
     · rw[o'' _ n2,kg' _ (by rw[g3,e3];simp),g3]
 · have:i=12:=by omega
   subst this
   rw[mixV_12] at g1
   refine⟨_,wb_rd g1,wbW (n:=12) kg (k1.free (k2.free f3)) (g3.trans e3) rfl fun g' kg' e' _=>⟨_,wb_rd e',rfl,kg'⟩⟩
theorem word_swapCell (c:Bool) (a b:Cel):PureC prog 173 [vu (mask c),wv a,wv b] (.tuple #[wv (if c then b else a),wv (if c then a else b)]):=fun h=>by
 refine c173 _ a b ?_
 unfold G173
 refine newC fun b1 h1 f1 e1 k1=>newC fun b2 h2 f2 e2 k2=>newC fun b3 h3 f3 e3 k3=>newC fun b4 h4 f4 e4 k4=>?_
 have n1:b2≠b1:=fun e=>by rw[e,e1] at f2;cases f2
 have n2:b3≠b1:=fun e=>by rw[e,k2.get e1] at f3;cases f3
 have n3:b3≠b2:=fun e=>by rw[e,e2] at f3;cases f3
 have n4:b4≠b1:=fun e=>by rw[e,(k2.trans k3).get e1] at f4;cases f4
 have n5:b4≠b2:=fun e=>by rw[e,k3.get e2] at f4;cases f4
 have n6:b4≠b3:=fun e=>by rw[e,e3] at f4;cases f4
 have kk:=k1.trans (k2.trans (k3.trans k4))
 have f20:=k1.free f2
 have f30:=k1.free (k2.free f3)
 have f40:=k1.free (k2.free (k3.free f4))
 refine⟨fun x q1 q2 q3 q4 n g k=>x=mask c∧q1=⟨b1,0⟩∧q2=⟨b2,0⟩∧q3=⟨b3,0⟩∧q4=⟨b4,0⟩∧∃i:Nat,n=i∧i≤12∧k=12-i∧Keep h g∧g b1=some (.cells (SV.cells (.ws 12 (mixV (!c) a b i))).toArray 56 (0,0))∧g b2=some (.cells (SV.cells (.ws 12 (mixV (!c) b a i))).toArray 56 (0,0))∧g b3=h4 b3∧g b4=h4 b4,
   ⟨12,rfl,rfl,rfl,rfl,rfl,0,rfl,by omega,rfl,kk,by rw[mixV_0];exact(k2.trans (k3.trans k4)).get e1,by rw[mixV_0];exact(k3.trans k4).get e2,rfl,rfl⟩,?_⟩
 rintro x q1 q2 q3 q4 n g k ⟨rfl,rfl,rfl,rfl,rfl,i,rfl,hi,rfl,kg,g1,g2,g3,g4⟩
 refine ifD (fun hlt=>?_) fun hge=>?_
 · have hi':i<12:=by omega
   have e0:(0+Int.toNat (i:Int)*1)=i:=by omega
   rw[e0]
   refine⟨by omega,by omega,a[i],?_,by omega,by omega,b[i],?_,?_⟩
   · have:=wb_get g1 hi'
     rw[mixV_get _ a b hi'] at this;exact this
   · have:=wb_get g2 hi'
     rw[mixV_get _ b a hi'] at this;exact this
   · refine(word_swap c a[i] b[i]).to fun g' kg'=>⟨_,_,rfl,by omega,by omega,?_⟩
     refine wbS (kg.trans kg') f1 (kg'.get g1) hi' fun g'' kg'' e'' o''=>⟨by omega,by omega,?_⟩
     refine wbS kg'' f20 ((o'' _ n1).trans (kg'.get g2)) hi' fun g3' kg3 e3' o3=>⟨_,?_,rfl,rfl,rfl,rfl,rfl,i+1,w64_id (by omega) (by omega),by omega,rfl,kg3,?_,?_,?_,?_⟩
     · omega
     · rw[o3 _ (Ne.symm n1),e'',←mixV_set _ a b hi'];cases c<;>rfl
     · rw[e3',←mixV_set _ b a hi'];cases c<;>rfl
     · rw[o3 _ n3,o'' _ n2,kg' _ (by rw[g3,k4.get e3];simp),g3]
     · rw[o3 _ n5,o'' _ n4,kg' _ (by rw[g4,e4];simp),g4]
 · have:i=12:=by omega
   subst this
   rw[mixV_12] at g1 g2
   refine⟨_,wb_rd g1,_,wb_rd g2,wbW (n:=12) kg f30 (g3.trans (k4.get e3)) rfl fun g' kg' e' o'=>⟨?_,?_⟩⟩
   · exact wb_rd ((o' _ (Ne.symm n3)).trans g2)
   · refine wbW (n:=12) kg' f40 ((o' _ n6).trans (g4.trans e4)) rfl fun g'' kg'' e'' o''=>⟨_,wb_rd ((o'' _ (Ne.symm n6)).trans e'),_,wb_rd e'',?_,kg''⟩
     cases c<;>rfl
end Go.Proofs.Tryz

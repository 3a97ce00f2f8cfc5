/- The lower layers at a right config: rounding, trees, deals, levels, stores, configs: what each function comes to. -/
import Derived.Test.YtofgadhgljjhgaaGreatShKit
import Derived.Test.YtofgadhgljjhgaaGreatRd
import Derived.Test.YtofgadhgljjhgaaGreatLen
namespace Go.Proofs.Tryz
open Go Go.Sh Go.RowKit
/-! ## plain -/
theorem bitLen_pow {k m:Nat} (hk:k<64) (h1:2 ^ k≤m) (h2:m<2 ^ (k+1)):Lib.bitLen m=k+1:=by
 have hm:m<2 ^ 64:=Nat.lt_of_lt_of_le h2 (Nat.pow_le_pow_right (by decide) (by omega))
 rw[Lib.bitLen_shift k m h1 hm]
 have:m/2 ^ k=1:=by
   apply Nat.div_eq_of_lt_le
   · simpa using h1
   · rw[Nat.pow_succ] at h2;omega
 rw[this];rfl
theorem lt_bitLenAux:∀(f x:Nat),x<2 ^ f→x<2 ^ Lib.bitLenAux f x
 | 0,x,h=>h
 | f+1,x,h=>by
   unfold Lib.bitLenAux
   split
   · rename_i e;subst e;decide
   · rw[Nat.pow_succ] at h
     have:=lt_bitLenAux f (x/2) (by omega)
     rw[Nat.pow_add]
     omega
def roundI (n:Int):Int:=if n<1 then 1 else 2 ^ min (Lib.bitLen (n-1).toNat) 62
theorem roundI_pow {k:Nat} {n:Int} (hk:k≤61) (h1:2 ^ k<n) (h2:n≤2 ^ (k+1)):roundI n=2 ^ (k+1):=by
 have e:((2 ^ k:Nat):Int)=2 ^ k:=by simp
 have e':((2 ^ (k+1):Nat):Int)=2 ^ (k+1):=by simp
 have h0:0<2 ^ k:=Nat.pow_pos (by decide)
 rw[roundI,if_neg (by omega),bitLen_pow (k:=k) (by omega) (by omega) (by omega)]
 rw[Nat.min_eq_left (by omega)]
theorem pow_le_pow {a b:Nat} (h:a≤b):(2:Int) ^ a≤2 ^ b:=by
 have e:((2 ^ a:Nat):Int)=2 ^ a:=by simp
 have e':((2 ^ b:Nat):Int)=2 ^ b:=by simp
 have:=Nat.pow_le_pow_right (n:=2) (by decide) h
 omega
theorem roundI_le {k:Nat} {n:Int} (hk:k≤62) (h:n≤2 ^ k):roundI n≤2 ^ k:=by
 unfold roundI
 split
 · have:=pow_le_pow (Nat.zero_le k);simpa using this
 · refine pow_le_pow (Nat.le_trans (Nat.min_le_left _ _) (Lib.bitLen_le _ _ (by omega) ?_))
   have e':((2 ^ k:Nat):Int)=2 ^ k:=by simp
   omega
theorem le_roundI {n:Int} (h:n≤4611686018427387904):n≤roundI n:=by
 unfold roundI
 split
 · omega
 · by_cases e0:(n-1).toNat=0
   · rw[e0]
     have:n=1:=by omega
     subst this;decide
   · have hb:=lt_bitLenAux 64 (n-1).toNat (by omega)
     have hl:=Lib.bitLen_le (n-1).toNat 62 (by omega) (by omega)
     have:Lib.bitLen (n-1).toNat=Lib.bitLenAux 64 (n-1).toNat:=rfl
     rw[Nat.min_eq_left hl,this]
     have e':((2 ^ Lib.bitLenAux 64 (n-1).toNat:Nat):Int)=2 ^ Lib.bitLenAux 64 (n-1).toNat:=by simp
     omega
/-! ## words -/
theorem len64 (x:UInt64):PureC prog 113 [vu x] (.int .i64 (Lib.bitLen x.toNat:Nat)):=fun h =>
 ⟨by kernel_rfl,fun w cv=>(bits_Len64 (x.toNat:Int) w (by omega) (by have:=x.toNat_lt;omega)).mono fun e w' ⟨he,hw⟩ =>
   ⟨_,h,he,⟨by simp,Keep.refl h⟩,hw▸cv,hw▸Grow.refl _ _⟩⟩
theorem word_round (n:Int) (hn:n≤9223372036854775807):PureC prog 78 [.int .i64 n] (.int .i64 (roundI n)):=by
 intro h
 refine c78 n ?_
 unfold G78
 refine ifD (fun h1=>⟨by rw[roundI,if_pos h1],Keep.refl _⟩) fun h1=>?_
 refine(len64 _).to fun h2 k2=>⟨_,rfl,by omega,?_,k2⟩
 have e1:w64 (n-1)=n-1:=w64_id (by omega) (by omega)
 have e2:((toU (n-1)).toNat:Int)=n-1:=toU_ok (by simp[uok];omega)
 have e3:(toU (w64 (n-1))).toNat=(n-1).toNat:=by rw[e1];omega
 rw[roundI,if_neg h1,e3]
 generalize Lib.bitLen (n-1).toNat=m
 have e4:min (min (m:Int) 62).toNat 64=min m 62:=by omega
 rw[e4,Int.one_mul,w64_id]
 · have:=pow_le_pow (Nat.zero_le (min m 62));simp at this;omega
 · have:=pow_le_pow (Nat.min_le_right m 62);simp at this;omega
theorem word_log (x:UInt64) {k:Nat} (hk:x.toNat=2 ^ k) (hk':k<63):PureC prog 84 [vu x] (.int .i64 k):=by
 intro h
 refine c84 x ?_
 unfold G84
 refine(len64 _).to fun h2 k2=>⟨_,rfl,?_,k2⟩
 rw[hk,bitLen_pow (k:=k) (by omega) (Nat.le_refl _) (Nat.pow_lt_pow_right (by decide) (by omega)),w64_id (by omega) (by omega)]
 congr 1;omega
/-! ## trees -/
theorem pow_and (k:Nat) (hk:k≤10):ibit .and .i64 ((2:Int) ^ k) ((2:Int) ^ k-1)=0:=by
 have key:∀k:Fin 11,ibit .and .i64 ((2:Int) ^ k.val) ((2:Int) ^ k.val-1)=0:=by decide
 exact key ⟨k,by omega⟩
theorem pow_bds {k:Nat} (hk:k≤10):(1:Int)≤2 ^ k∧(2:Int) ^ k≤1024:=by
 have h1:=pow_le_pow (Nat.zero_le k);have h2:=pow_le_pow hk;simp at h1 h2;omega
theorem path_right {k:Nat} (hk:k≤10):PureC prog 134 [.int .i64 (2 ^ k)] (.bool true):=by
 intro h
 have hb:=pow_bds hk
 refine c134 _ ?_
 unfold G134
 refine ifD (fun _=>ifD (fun _=>⟨?_,Keep.refl _⟩) fun e=>absurd hb.2 e) fun e=>absurd hb.1 e
 rw[w64_id (n:=2 ^ k-1) (by omega) (by omega),pow_and k hk,w64_id (by decide) (by decide)]
 rfl
theorem path_depth {k:Nat} (hk:k≤10):PureC prog 150 [.int .i64 (2 ^ k)] (.int .i64 k):=by
 intro h
 have hb:=pow_bds hk
 refine c150 _ ?_
 unfold G150
 refine(path_right hk).to fun h1 k1=>⟨_,rfl,ifB_neg rfl ?_⟩
 refine(word_log (k:=k) _ ?_ (by omega)).to fun h2 k2=>⟨_,rfl,rfl,k1.trans k2⟩
 have e2:((toU (2 ^ k)).toNat:Int)=2 ^ k:=toU_ok (by simp[uok];omega)
 have e':((2 ^ k:Nat):Int)=2 ^ k:=by simp
 omega
theorem path_nodes {k:Nat} (hk:k≤10):PureC prog 137 [.int .i64 (2 ^ k)] (.int .i64 (2*2 ^ k-1)):=by
 intro h
 have hb:=pow_bds hk
 refine c137 _ ?_
 unfold G137
 refine(path_right hk).to fun h1 k1=>⟨_,rfl,ifB_neg rfl ⟨?_,k1⟩⟩
 rw[w64_id (n:=2*2 ^ k) (by omega) (by omega),w64_id (by omega) (by omega)]
/-! ## deals -/
theorem deal_in {n a b:Int} (h1:a≤n) (h2:n≤b):PureC prog 149 [.int .i64 n,.int .i64 a,.int .i64 b] (.bool true):=by
 intro h
 refine c149 n a b ?_
 unfold G149
 exact ifD (fun _=>⟨by simp[h2],Keep.refl _⟩) fun e=>absurd h1 e
structure DealOk (d s t:Int):Prop where
 d:0≤d∧d≤10
 s:1≤s∧s≤8
 t:1≤t∧t≤64
theorem deal_right {d s t:Int} (o:DealOk d s t):PureC prog 135 [.agg #[.int .i64 d,.int .i64 s,.int .i64 t]] (.bool true):=by
 intro h
 refine c135 d s t ?_
 unfold G135
 refine newC fun b1 h1 _ e1 k1=>rdI e1 rfl ?_
 refine(deal_in o.d.1 o.d.2).to fun h2 k2=>⟨_,rfl,ifB_pos rfl (rdI (k2.get e1) rfl ?_)⟩
 refine(deal_in o.s.1 o.s.2).to fun h3 k3=>⟨_,rfl,ifB_pos rfl (rdI ((k2.trans k3).get e1) rfl ?_)⟩
 exact(deal_in o.t.1 o.t.2).to fun h4 k4=>⟨_,rfl,rfl,(k1.trans k2).trans (k3.trans k4)⟩
theorem mul_bds {s d:Int} (h1:1≤s) (h2:s≤8) (h3:0≤d) (h4:d≤10):0≤s*(d+1)∧s*(d+1)≤88:=by
 have:s=1∨s=2∨s=3∨s=4∨s=5∨s=6∨s=7∨s=8:=by omega
 rcases this with h|h|h|h|h|h|h|h<;>subst h<;>omega
theorem deal_levels {d s t:Int} (o:DealOk d s t):PureC prog 167 [.agg #[.int .i64 d,.int .i64 s,.int .i64 t]] (.int .i64 (s*(d+1))):=by
 intro h
 have hb:=mul_bds o.s.1 o.s.2 o.d.1 o.d.2
 have hd:=o.d
 refine c167 d s t ?_
 unfold G167
 refine newC fun b1 h1 _ e1 k1=>rdI e1 rfl (rdI e1 rfl ⟨?_,k1⟩)
 rw[w64_id (n:=d+1) (by omega) (by omega),w64_id (by omega) (by omega)]
theorem deal_places {d s t:Int} (o:DealOk d s t):PureC prog 147 [.agg #[.int .i64 d,.int .i64 s,.int .i64 t]] (.int .i64 (s*(d+1)+t+1)):=by
 intro h
 have hb:=mul_bds o.s.1 o.s.2 o.d.1 o.d.2
 have ht:=o.t
 refine c147 d s t ?_
 unfold G147
 refine newC fun b1 h1 _ e1 k1=>rd3 e1 ?_
 refine(deal_right o).to fun h2 k2=>⟨_,rfl,ifB_neg rfl (rd3 (k2.get e1) (rdI (k2.get e1) rfl ?_))⟩
 refine(deal_levels o).to fun h3 k3=>⟨_,rfl,⟨rd1 ((k2.trans k3).get e1) rfl,trivial⟩,?_,(k1.trans k2).trans k3⟩
 rw[w64_id (n:=s*(d+1)+t) (by omega) (by omega),w64_id (by omega) (by omega)]
/-! ## levels -/
structure LevOk (k:Nat) (s t:Int):Prop where
 k:k≤10
 s:1≤s∧s≤8
 t:1≤t∧t≤64
theorem LevOk.deal {k:Nat} {s t:Int} (o:LevOk k s t):DealOk k s t:=⟨⟨by omega,by have:=o.k;omega⟩,o.s,o.t⟩
def plc (k:Nat) (s t:Int):Int:=s*((k:Int)+1)+t+1
def tbl (k:Nat) (s t:Int):Int:=roundI (plc k s t)
theorem LevOk.plcB {k:Nat} {s t:Int} (o:LevOk k s t):3≤plc k s t∧plc k s t≤153:=by
 have hb:=mul_bds o.s.1 o.s.2 o.deal.d.1 o.deal.d.2
 have ht:=o.t
 have h2:1≤s*((k:Int)+1):=by
   have h3:=Int.mul_le_mul o.s.1 (show(1:Int)≤(k:Int)+1 by omega) (by omega) (by have:=o.s;omega)
   simpa using h3
 unfold plc;omega
theorem LevOk.tblB {k:Nat} {s t:Int} (o:LevOk k s t):plc k s t≤tbl k s t∧tbl k s t≤256:=by
 have:=o.plcB
 exact⟨le_roundI (by omega),by have:=roundI_le (k:=8) (n:=plc k s t) (by decide) (by simp;omega);unfold tbl;simpa using this⟩
theorem level_shape {k:Nat} {s t:Int} (o:LevOk k s t):PureC prog 136 [.agg #[.int .i64 (2 ^ k),.int .i64 s,.int .i64 t]] (.agg #[.int .i64 k,.int .i64 s,.int .i64 t]):=by
 intro h
 refine c136 _ s t ?_
 unfold G136
 refine newC fun b1 h1 _ e1 k1=>newC fun b2 h2 f2 e2 k2=>rdI (k2.get e1) rfl (rdI (k2.get e1) rfl (rdI (k2.get e1) rfl ?_))
 refine(path_depth o.k).to fun h3 k3=>⟨_,rfl,⟨rd1 ((k2.trans k3).get e1) rfl,trivial⟩,⟨rd1 ((k2.trans k3).get e1) rfl,trivial⟩,?_⟩
 refine stN ((k1.trans k2).trans k3) (k1.free f2) (k3.get e2) (by simp) fun h4 k4 e4 _=>rd3 e4 ⟨rfl,k4⟩
theorem level_table {k:Nat} {s t:Int} (o:LevOk k s t):PureC prog 129 [.agg #[.int .i64 (2 ^ k),.int .i64 s,.int .i64 t]] (.int .i64 (tbl k s t)):=by
 intro h
 refine c129 _ s t ?_
 unfold G129
 refine newC fun b1 h1 _ e1 k1=>rd3 e1 ?_
 refine(level_shape o).to fun h2 k2=>⟨_,_,_,rfl,?_⟩
 refine(deal_places o.deal).to fun h3 k3=>⟨_,rfl,?_⟩
 have:=o.plcB
 exact(word_round (plc k s t) (by omega)).to fun h4 k4=>⟨_,rfl,rfl,(k1.trans k2).trans (k3.trans k4)⟩
theorem level_right {k:Nat} {s t:Int} (o:LevOk k s t):PureC prog 110 [.agg #[.int .i64 (2 ^ k),.int .i64 s,.int .i64 t]] (.bool true):=by
 intro h
 refine c110 _ s t ?_
 unfold G110
 refine newC fun b1 h1 _ e1 k1=>rdI e1 rfl ?_
 refine(path_right o.k).to fun h2 k2=>⟨_,rfl,ifB_pos rfl (rd3 (k2.get e1) ?_)⟩
 refine(level_shape o).to fun h3 k3=>⟨_,_,_,rfl,?_⟩
 refine(deal_right o.deal).to fun h4 k4=>⟨_,rfl,ifB_pos rfl (rd3 ((k2.trans (k3.trans k4)).get e1) ?_)⟩
 refine(level_table o).to fun h5 k5=>⟨_,rfl,?_,(k1.trans k2).trans (k3.trans (k4.trans k5))⟩
 have:=o.tblB
 simp only[cond_true]
 rw[decide_eq_true (by omega)]
theorem level_sizes {k:Nat} {s t:Int} (o:LevOk k s t):PureC prog 112 [.agg #[.int .i64 (2 ^ k),.int .i64 s,.int .i64 t]] (.tuple #[.int .i64 (s*(2*2 ^ k-1)),.int .i64 t,.int .i64 (tbl k s t)]):=by
 intro h
 have hb:=pow_bds o.k
 refine c112 _ s t ?_
 unfold G112
 refine newC fun b1 h1 _ e1 k1=>rd3 e1 ?_
 refine(level_right o).to fun h2 k2=>⟨_,rfl,ifB_neg rfl (rdI (k2.get e1) rfl (rdI (k2.get e1) rfl (rdI (k2.get e1) rfl (rd3 (k2.get e1) ?_))))⟩
 refine(path_nodes o.k).to fun h3 k3=>⟨_,rfl,?_⟩
 have e3:=(k2.trans k3).get e1
 refine⟨⟨rd1 e3 rfl,rd1 e3 rfl,rd1 e3 rfl,trivial⟩,⟨rd1 e3 rfl,trivial⟩,⟨rd1 e3 rfl,trivial⟩,?_⟩
 refine(level_table o).to fun h4 k4=>⟨_,rfl,?_⟩
 have e4:=k4.get e3
 refine⟨⟨rd1 e4 rfl,trivial⟩,⟨rd1 e4 rfl,trivial⟩,?_,(k1.trans k2).trans (k3.trans k4)⟩
 rw[w64_id]
 · have:=o.s
   have h1:0≤s*(2*2 ^ k-1):=Int.mul_nonneg (by omega) (by omega)
   omega
 · have h1:s*(2*2 ^ k-1)≤8*2047:=Int.mul_le_mul o.s.2 (by omega) (by omega) (by omega)
   omega
end Go.Proofs.Tryz

/- The document's answers as far as sizes go. -/
import Derived.Test.YtofgadhgljjhgaaGreatStoC
import Derived.Test.YtofgadhgljjhgaaGreatMemN
namespace Go.Proofs.Tryz
open Go Go.Sh Go.RowKit
set_option maxRecDepth 8000
theorem pow_succ_int (j:Nat):(2:Int)*2 ^ j=2 ^ (j+1):=by rw[Int.pow_succ];omega
theorem pow_pos_int (j:Nat):(1:Int)≤2 ^ j:=by have:=pow_le_pow (Nat.zero_le j);simpa using this
theorem roundI_of {n:Int} {j:Nat} (hj:j≤62) (h1:n≤2 ^ j) (h2:j=0∨2 ^ (j-1)<n):roundI n=2 ^ j:=by
 rcases h2 with rfl|h2
 · simp at h1
   by_cases e:n<1
   · rw[roundI,if_pos e];rfl
   · have:n=1:=by omega
     subst this;rfl
 · cases j with
   | zero =>
     simp at h1 h2
     omega
   | succ j=>exact roundI_pow (by omega) (by simpa using h2) h1
def Q0 (a x:Int):Prop:=Value.int .i64 x= .int .i64 (roundI a)
theorem ref_round {n:Int} (hn:n≤4611686018427387904):PureC prog 79 [.int .i64 n] (.int .i64 (roundI n)):=by
 intro h
 refine c79 n ?_
 unfold G79
 refine⟨fun a x h1 k=>a=n∧∃j:Nat,x=2 ^ j∧j≤62∧(j=0∨2 ^ (j-1)<n)∧h1=h∧k=62-j,⟨_,rfl,0,rfl,by omega,.inl rfl,rfl,rfl⟩,?_⟩
 rintro a x h1 k ⟨rfl,j,hx,hj,hr,rfl,rfl⟩
 have h62:j=62→x=4611686018427387904:=fun e=>by rw[hx,e];simp
 have h0:1≤x:=by rw[hx];exact pow_pos_int j
 have hs:j<62→2*x=2 ^ (j+1)∧2*x≤4611686018427387904:=fun e=>by
   have hp:=pow_le_pow (show j+1≤62 by omega)
   rw[hx,pow_succ_int];simp at hp;exact⟨rfl,hp⟩
 have hb:j<62→x≤2305843009213693952:=fun e=>by have:=(hs e).2;omega
 have done:¬x<a→Q0 a x:=fun hge=>by
   show Value.int .i64 x= .int .i64 (roundI a)
   rw[roundI_of hj (by rw[←hx];omega) hr,hx]
 refine ifD (fun hlt=>ifD (fun hlt2=>?_) fun hge=>⟨?_,Keep.refl _⟩) fun hge=>⟨done hge,Keep.refl _⟩
 · have hj2:j<62:=by
     rcases Nat.lt_or_ge j 62 with h|h
     · exact h
     · have:=h62 (by omega);omega
   obtain⟨e1,e2⟩:=hs hj2
   rw[w64_id (by omega) (by omega)]
   exact⟨_,by omega,rfl,j+1,e1,by omega,.inr (by simp only[Nat.add_sub_cancel];rw[←hx];exact hlt),rfl,rfl⟩
 · exfalso
   have:j=62:=by
     rcases Nat.lt_or_ge j 62 with h|h
     · have:=hb h;omega
     · omega
   have:=h62 this
   omega
theorem ref_path_right {k:Nat} (hk:k≤10):PureC prog 131 [.int .i64 (2 ^ k)] (.bool true):=by
 intro h
 refine c131 _ ?_
 unfold G131
 refine⟨fun a x h1 n=>a=2 ^ k∧∃j:Nat,x=2 ^ j∧j≤k∧h1=h∧n=k-j,⟨_,rfl,0,rfl,by omega,rfl,rfl⟩,?_⟩
 rintro a x h1 n ⟨rfl,j,rfl,hj,rfl,rfl⟩
 have hb:=pow_bds hk
 have h0:=pow_pos_int j
 have eq:¬((2:Int) ^ j<2 ^ k)→j=k:=fun e=>by
   rcases Nat.lt_or_ge j k with h|h
   · have:=pow_le_pow (show j+1≤k by omega)
     rw[←pow_succ_int] at this;omega
   · omega
 refine ifD (fun hlt=>ifB_pos (by simp;omega) ?_) fun hge=>⟨by rw[eq hge];simp,Keep.refl _⟩
 have hlt':j<k:=by
   rcases Nat.lt_or_ge j k with h|h
   · exact h
   · have:j=k:=by omega
     subst this;omega
 have hp:=pow_le_pow (show j+1≤10 by omega)
 rw[w64_id (by omega) (by rw[pow_succ_int];simp at hp;omega),pow_succ_int]
 exact⟨_,by omega,rfl,j+1,rfl,by omega,rfl,rfl⟩
theorem ref_depth {k:Nat} (hk:k≤10):PureC prog 133 [.int .i64 (2 ^ k)] (.int .i64 k):=by
 intro h
 refine c133 _ ?_
 unfold G133
 refine(ref_path_right hk).to fun h1 k1=>⟨_,rfl,ifB_neg rfl ?_⟩
 refine⟨fun x n h2 m=>∃j:Nat,x=2 ^ (k-j)∧n=j∧j≤k∧Keep h h2∧m=k-j,⟨_,0,rfl,rfl,by omega,k1,rfl⟩,?_⟩
 rintro x n h2 m ⟨j,rfl,rfl,hj,k2,rfl⟩
 refine ifD (fun hlt=>⟨by decide,?_⟩) fun hge=>⟨?_,k2⟩
 · have hlt':j<k:=by
     rcases Nat.lt_or_ge j k with h|h
     · exact h
     · rw[show k-j=0 by omega] at hlt;simp at hlt
   have e:(2:Int) ^ (k-j)=2*2 ^ (k-(j+1)):=by rw[pow_succ_int];congr 1;omega
   have hb:=pow_bds (k:=k-(j+1)) (by omega)
   obtain⟨z,hz⟩:∃z,z=(2:Int) ^ (k-(j+1)):=⟨_,rfl⟩
   rw[←hz] at e hb
   rw[e]
   have:(2*z).tdiv 2=z:=by rw[Int.tdiv_eq_ediv_of_nonneg (by omega)];omega
   rw[this,w64_id (by omega) (by omega),w64_id (by omega) (by omega)]
   exact⟨_,by omega,j+1,hz,by omega,by omega,k2,rfl⟩
 · rcases Nat.lt_or_ge j k with h|h
   · have:=pow_le_pow (show 1≤k-j by omega);simp at this;omega
   · congr 1;omega
theorem ref_nodes {k:Nat} (hk:k≤10):PureC prog 106 [.int .i64 (2 ^ k)] (.int .i64 (2*2 ^ k-1)):=by
 intro h
 have hb:=pow_bds hk
 refine c106 _ ?_
 unfold G106
 refine(ref_path_right hk).to fun h1 k1=>⟨_,rfl,ifB_neg rfl ⟨?_,k1⟩⟩
 rw[w64_id (n:=2*2 ^ k) (by omega) (by omega),w64_id (by omega) (by omega)]
theorem ref_deal_right {d s t:Int} (o:DealOk d s t):PureC prog 132 [.agg #[.int .i64 d,.int .i64 s,.int .i64 t]] (.bool true):=by
 intro h
 have:=o.d;have:=o.s;have:=o.t
 refine c132 d s t ?_
 unfold G132
 refine newC fun b1 h1 _ e1 k1=>rdI e1 rfl (ifB_pos (by simp;omega) (rdI e1 rfl (ifB_pos (by simp;omega) (rdI e1 rfl (ifB_pos (by simp;omega) (rdI e1 rfl (ifB_pos (by simp;omega) (rdI e1 rfl (ifB_pos (by simp;omega) (rdI e1 rfl ⟨?_,k1⟩))))))))))
 rw[cond_true,decide_eq_true (by omega)]
theorem ref_places {d s t:Int} (o:DealOk d s t):PureC prog 107 [.agg #[.int .i64 d,.int .i64 s,.int .i64 t]] (.int .i64 (s*(d+1)+t+1)):=by
 intro h
 have hb:=mul_bds o.s.1 o.s.2 o.d.1 o.d.2
 have ht:=o.t;have hd:=o.d
 refine c107 d s t ?_
 unfold G107
 refine newC fun b1 h1 _ e1 k1=>rd3 e1 ?_
 refine(ref_deal_right o).to fun h2 k2=>⟨_,rfl,ifB_neg rfl (rdI (k2.get e1) rfl (rdI (k2.get e1) rfl (rdI (k2.get e1) rfl ⟨?_,k1.trans k2⟩)))⟩
 rw[w64_id (n:=d+1) (by omega) (by omega),w64_id (n:=s*(d+1)) (by omega) (by omega),w64_id (n:=s*(d+1)+t) (by omega) (by omega),w64_id (by omega) (by omega)]
theorem ref_shape {k:Nat} {s t:Int} (o:LevOk k s t):PureC prog 108 [.agg #[.int .i64 (2 ^ k),.int .i64 s,.int .i64 t]] (.agg #[.int .i64 k,.int .i64 s,.int .i64 t]):=by
 intro h
 refine c108 _ s t ?_
 unfold G108
 refine newC fun b1 h1 _ e1 k1=>newC fun b2 h2 f2 e2 k2=>rdI (k2.get e1) rfl (rdI (k2.get e1) rfl (rdI (k2.get e1) rfl ?_))
 refine(ref_depth o.k).to fun h3 k3=>⟨_,rfl,⟨rd1 ((k2.trans k3).get e1) rfl,trivial⟩,⟨rd1 ((k2.trans k3).get e1) rfl,trivial⟩,?_⟩
 refine stN ((k1.trans k2).trans k3) (k1.free f2) (k3.get e2) (by simp) fun h4 k4 e4 _=>rd3 e4 ⟨rfl,k4⟩
theorem ref_level_right {k:Nat} {s t:Int} (o:LevOk k s t):PureC prog 105 [.agg #[.int .i64 (2 ^ k),.int .i64 s,.int .i64 t]] (.bool true):=by
 intro h
 refine c105 _ s t ?_
 unfold G105
 refine newC fun b1 h1 _ e1 k1=>rdI e1 rfl ?_
 refine(ref_path_right o.k).to fun h2 k2=>⟨_,rfl,ifB_pos rfl (rd3 (k2.get e1) ?_)⟩
 refine(ref_shape o).to fun h3 k3=>⟨_,_,_,rfl,?_⟩
 refine(ref_deal_right o.deal).to fun h4 k4=>⟨_,rfl,ifB_pos rfl (rd3 ((k2.trans (k3.trans k4)).get e1) ?_)⟩
 refine(ref_shape o).to fun h5 k5=>⟨_,_,_,rfl,?_⟩
 refine(ref_places o.deal).to fun h6 k6=>⟨_,rfl,?_⟩
 have:=o.plcB;have:=o.tblB
 refine(ref_round (n:=plc k s t) (by omega)).to fun h7 k7=>⟨_,rfl,?_,(k1.trans k2).trans ((k3.trans k4).trans (k5.trans (k6.trans k7)))⟩
 rw[cond_true,decide_eq_true (show roundI (plc k s t)≤1024 by show tbl k s t≤1024;omega)]
theorem ref_level_sizes {k:Nat} {s t:Int} (o:LevOk k s t):PureC prog 68 [.agg #[.int .i64 (2 ^ k),.int .i64 s,.int .i64 t]] (.tuple #[.int .i64 (s*(2*2 ^ k-1)),.int .i64 t,.int .i64 (tbl k s t)]):=by
 intro h
 have hb:=pow_bds o.k;have:=o.plcB
 refine c68 _ s t ?_
 unfold G68
 refine newC fun b1 h1 _ e1 k1=>rd3 e1 ?_
 refine(ref_level_right o).to fun h2 k2=>⟨_,rfl,ifB_neg rfl (rdI (k2.get e1) rfl (rdI (k2.get e1) rfl (rdI (k2.get e1) rfl (rd3 (k2.get e1) ?_))))⟩
 refine(ref_nodes o.k).to fun h3 k3=>⟨_,rfl,?_⟩
 have e3:=(k2.trans k3).get e1
 refine⟨⟨rd1 e3 rfl,rd1 e3 rfl,rd1 e3 rfl,trivial⟩,⟨rd1 e3 rfl,trivial⟩,⟨rd1 e3 rfl,trivial⟩,?_⟩
 refine(ref_shape o).to fun h4 k4=>⟨_,_,_,rfl,?_⟩
 have e4:=k4.get e3
 refine⟨⟨rd1 e4 rfl,trivial⟩,⟨rd1 e4 rfl,trivial⟩,?_⟩
 refine(ref_places o.deal).to fun h5 k5=>⟨_,rfl,?_⟩
 have e5:=k5.get e4
 refine⟨⟨rd1 e5 rfl,trivial⟩,⟨rd1 e5 rfl,trivial⟩,?_⟩
 refine(ref_round (n:=plc k s t) (by omega)).to fun h6 k6=>⟨_,rfl,?_⟩
 have e6:=k6.get e5
 refine⟨⟨rd1 e6 rfl,trivial⟩,⟨rd1 e6 rfl,trivial⟩,?_,(k1.trans k2).trans ((k3.trans k4).trans (k5.trans k6))⟩
 rw[w64_id]
 · rfl
 · have:=o.s
   have h1:0≤s*(2*2 ^ k-1):=Int.mul_nonneg (by omega) (by omega)
   omega
 · have h1:s*(2*2 ^ k-1)≤8*2047:=Int.mul_le_mul o.s.2 (by omega) (by omega) (by omega)
   omega
theorem ref_blocks {m:Nat} {s t:Int} {L:Nat} (o:StOk m s t L) (n:Nat) (hn:n≤100):PureC prog 67 [v4 m s t L,.int .i64 n] (.int .i64 (2 ^ (m-2*n))):=by
 intro h
 refine c67 _ s t L n ?_
 unfold G67
 refine newC fun b1 h1 _ e1 k1=>rdI e1 rfl ?_
 refine⟨fun l x i h2 k=>l=n∧∃j:Nat,i=j∧j≤n∧x=2 ^ (m-2*j)∧Keep h h2∧k=n-j,⟨_,rfl,0,rfl,Nat.zero_le _,rfl,k1,rfl⟩,?_⟩
 rintro l x i h2 k ⟨rfl,j,rfl,hj,rfl,k2,rfl⟩
 refine ifD (fun hlt=>⟨by decide,_,?_,rfl,j+1,w64_id (by omega) (by omega),by omega,?_,k2,rfl⟩) fun hge=>?_
 · omega
 · rw[step4 (by have:=o.m;omega)];rfl
 · have:j=n:=by omega
   subst this;exact⟨rfl,k2⟩
theorem ref_level {m:Nat} {s t:Int} {L:Nat} (o:StOk m s t L) (n:Nat) (hn:n≤100):PureC prog 69 [v4 m s t L,.int .i64 n] (.agg #[.int .i64 (2 ^ (m-2*n)),.int .i64 s,.int .i64 t]):=by
 intro h
 refine c69 _ s t L n ?_
 unfold G69
 refine newC fun b1 h1 _ e1 k1=>newC fun b2 h2 f2 e2 k2=>rd4 (k2.get e1) (rdI (k2.get e1) rfl (rdI (k2.get e1) rfl ?_))
 refine(ref_blocks o n hn).to fun h3 k3=>⟨_,rfl,⟨rd1 ((k2.trans k3).get e1) rfl,trivial⟩,⟨rd1 ((k2.trans k3).get e1) rfl,trivial⟩,?_⟩
 exact stN ((k1.trans k2).trans k3) (k1.free f2) (k3.get e2) (by simp) fun h4 k4 e4 _=>rd3 e4 ⟨rfl,k4⟩
theorem ref_right {m:Nat} {s t:Int} {L:Nat} (o:StOk m s t L):PureC prog 66 [v4 m s t L] (.bool true):=by
 intro h
 have hL:=o.L
 refine c66 _ s t L ?_
 unfold G66
 refine newC fun b1 h1 f1 e1 k1=>rdI e1 rfl (ifD (fun e=>absurd e (by omega)) fun _=>rdI e1 rfl (ifB_neg (by simp;omega) ?_))
 refine⟨fun q i h2 k=>q=⟨b1,0⟩∧∃j:Nat,i=j∧j≤L∧Keep h1 h2∧k=L-j,⟨_,rfl,0,rfl,Nat.zero_le _,Keep.refl _,rfl⟩,?_⟩
 rintro q i h2 k ⟨rfl,j,rfl,hj,k2,rfl⟩
 refine rdI (k2.get e1) rfl (ifD (fun hlt=>rd4 (k2.get e1) ?_) fun _=>⟨rfl,k1.trans k2⟩)
 refine(ref_level o j (by omega)).to fun h3 k3=>⟨_,_,_,rfl,?_⟩
 refine(ref_level_right (o.lev j)).to fun h4 k4=>⟨_,rfl,ifB_neg rfl ⟨_,by omega,rfl,j+1,w64_id (by omega) (by omega),by omega,k2.trans (k3.trans k4),rfl⟩⟩
theorem ref_sizes {m:Nat} {s t:Int} {L:Nat} (o:StOk m s t L) (h:Hp):callK prog 33 [v4 m s t L] h fun v h'=>∃x,v=vs x∧OwnS iv h h' x (sizesL m s t L L)∧Keep h h':=by
 have hL:=o.L
 refine c33 _ s t L ?_
 unfold G33
 refine newC fun b1 h1 f1 e1 k1=>rd4 e1 ?_
 refine(ref_right o).to fun h2 k2=>⟨_,rfl,ifB_neg rfl (rd4 (k2.get e1) (rdI (k2.get e1) rfl ?_))⟩
 rw[w64_id (by omega) (by omega),show(L:Int)-1=((L-1:Nat):Int) by omega]
 refine(ref_blocks o (L-1) (by omega)).to fun h3 k3=>⟨_,rfl,fun b2 hb2=>?_⟩
 have k03:=(k1.trans k2).trans k3
 have k4:Keep h3 (upd h3 b2 (.cells #[.int .i64 (2 ^ (m-2*(L-1)))] 3)):=(Keep.refl h3).upd hb2 _
 have o1:OwnS iv h (upd h3 b2 (.cells #[.int .i64 (2 ^ (m-2*(L-1)))] 3)) ⟨some ⟨b2,0⟩,1,1,none⟩ (sizesL m s t L 0):=OwnS.new (f:=iv) (l:=[2 ^ (m-2*(L-1))]) (k03.free hb2) 1 rfl
 have e4:=(k2.trans (k3.trans k4)).get e1
 have e13:=(k2.trans k3).get e1
 have b10:∀p,Sl.q ⟨some ⟨b2,0⟩,1,1,none⟩=some p→b1≠p.b:=by
   intro p hp e
   cases hp
   rw[show b1=b2 from e,hb2] at e13;cases e13
 refine⟨fun q x i h5 k=>q=⟨b1,0⟩∧∃j:Nat,i=j∧j≤L∧OwnS iv h h5 x (sizesL m s t L j)∧(∀p,x.q=some p→b1≠p.b)∧h5 b1=some (.cells #[.int .i64 (2 ^ m),.int .i64 s,.int .i64 t,.int .i64 L] 74 (0,0))∧Keep h h5∧k=L-j,
   ⟨_,rfl,0,rfl,Nat.zero_le _,o1,b10,e4,k03.trans k4,rfl⟩,?_⟩
 rintro q x i h5 k ⟨rfl,j,rfl,hj,oj,b1n,e5,k5,rfl⟩
 refine rdI e5 rfl (ifD (fun hlt=>?_) fun hge=>?_)
 · refine rd4 e5 ?_
   refine(ref_level o j (by omega)).to fun h6 k6=>⟨_,_,_,rfl,?_⟩
   refine(ref_level_sizes (o.lev j)).to fun h7 k7=>⟨_,_,_,rfl,newC fun b3 h8 hb3 e8 k8=>?_⟩
   have k57:=k6.trans k7
   have y:OwnS iv h h8 ⟨some ⟨b3,0⟩,3,3,none⟩ (levL m s t j):=OwnS.newE (f:=iv) (l:=levL m s t j) (k5.free (k57.free hb3)) e8 rfl rfl
   have o5:=(oj.keep k57).keep k8
   have room:((sizesL m s t L j).length+(levL m s t j).length)*8≤140737488355328:=by rw[sizesL_length,show(levL m s t j).length=3 from rfl];omega
   refine OwnS.app rtI iv_one o5 y.rd (fun c hc=>k5.free (k57.free (k8.free hc))) room (by decide) ?_
   intro x' h9 o9 f9 w9 fr9
   refine⟨_,by omega,rfl,j+1,w64_id (by omega) (by omega),by omega,by rw[sizesL_succ];exact o9,fun p' hp' e=>?_,?_,?_,rfl⟩
   · rcases w9 p' hp' with ⟨p,hp,h⟩|h
     · exact b1n p hp (e.trans h)
     · rw[←e,(k57.trans k8).get e5] at h;cases h
   · rw[f9 b1 (by rw[(k57.trans k8).get e5];simp) b1n,(k57.trans k8).get e5]
   · intro c hc
     have h1:h5 c≠none:=by rw[k5 c hc];exact hc
     have h2:h8 c=h5 c:=(k57.trans k8) c h1
     rw[f9 c (by rw[h2];exact h1) (fun p hp e=>hc (e▸(oj.blk hp).1)),h2,k5 c hc]
 · have:j=L:=by omega
   subst this;exact⟨_,rfl,oj,k5⟩
end Go.Proofs.Tryz
/- The document's memories and stores: made. -/
namespace Go.Proofs.Tryz
open Go Go.Sh Go.RowKit
set_option maxRecDepth 8000
theorem ref_mem_new {h:Hp} {s:Sl} {l:List Nat} (r:RdS iv h s (l.map fun n:Nat=>(n:Int))) (h1:1≤l.length) (h2:l.length≤16) (hb:∀n∈l,1≤n∧n≤4096) :
   callK prog 35 [vs s] h fun v h'=>∃(m:MS),v= .tuple #[vp ⟨m.b,0⟩,.int .i64 0]∧MemR 53 m (fun _ _=>cel0) [] ⟨none,0,0,none⟩ h'∧m.nr=l.length∧(∀i,m.rn i=l.getD i 0)∧(∀x,MF m ⟨none,0,0,none⟩ x→h x=none)∧Keep h h':=by
 have hlen:=r.len
 rw[List.length_map] at hlen
 refine c35 _ ?_
 unfold G35
 refine ifB_neg (decide_eq_false (by omega)) (ifB_neg (decide_eq_false (by omega)) ?_)
 refine newC fun b1 g2 f1 e1 k2=>?_
 have hb1:h b1=none:=f1
 let good:List Nat→Hp→Prop:=fun bs g=>∀j,j<bs.length→h (bs.getD j 0)=none∧∃c t,g (bs.getD j 0)=some (.cells c t (0,0))∧c.size=l.getD j 0*12∧∀a,a<l.getD j 0→∀k (hk:k<12),c[a*12+k]? =some (vu cel0[k])
 refine⟨fun s1 o1 n2 g kk=>s=s1∧o1=some ⟨b1,0⟩∧∃(i:Nat) (rs:Sl) (bs:List Nat),n2=i∧i≤l.length∧kk=l.length-i∧bs.length=i∧g b1=some (.cells #[vs rs,vs ⟨none,0,0,none⟩,.bool false] 53 (0,0))∧OwnS vs h g rs (regL l bs)∧good bs g∧bs.Nodup∧b1∉bs∧(∀q,rs.q=some q→q.b≠b1∧q.b∉bs)∧Keep h g,
   ⟨l.length,rfl,rfl,0,_,[],rfl,by omega,rfl,rfl,e1,OwnS.nilS ..,fun j hj=>absurd hj (by simp),List.nodup_nil,by simp,(by intro q hq;cases hq),k2⟩,?_⟩
 rintro s1 o1 n2 g kk ⟨rfl,rfl,i,rs,bs,rfl,hi,rfl,rfl,eb,ow,gd,nd,nb1,nrs,kg⟩
 refine ifD (fun hlt=>?_) fun hge=>?_
 · have hi':bs.length<l.length:=by omega
   have hn:=hb _ (List.getElem_mem hi')
   have hg:l.getD bs.length 0=l[bs.length]:=by simp[List.getD,hi']
   rw[←hg] at hn
   refine(r.keep kg).ix (i:=bs.length) (by simpa using hi') fun q hq hc=>?_
   have e:(l.map fun n:Nat=>(n:Int))[bs.length]'(by simpa using hi')=((l.getD bs.length 0:Nat):Int):=by rw[hg];simp
   rw[e] at hc
   generalize hnn:l.getD bs.length 0=n at *
   have j0:(0:Int)≤(bs.length:Int):=by omega
   have j1:(bs.length:Int)+1≤(s.len:Int):=by omega
   refine⟨_,hc,ifB_neg (decide_eq_false (by omega)) ⟨q,hq,j0,j1,_,hc,ifB_neg (show decide ((4096:Int)<(n:Int))=false from decide_eq_false (by omega)) ⟨_,rfl,_,rd1 eb rfl,q,hq,j0,j1,_,hc,by omega,by omega,by omega,by omega,newC fun b2 g3 f2 e2 k3=>?_⟩⟩⟩
   have ei:Int.toNat (n:Int)=n:=by omega
   rw[ei]
   rw[ei] at e2
   have hb2:h b2=none:=kg.free f2
   have ow3:=ow.keep k3
   refine OwnS.push' rtReg vs_one ow3 ⟨some ⟨b2,0⟩,n,n,none⟩ (fun b hb=>kg.free (k3.free hb)) (by simp[regL];omega) (by decide) ?_
   intro rs' g4 ow4 off4 w4 fr4
   have eb3:=k3.get eb
   have n21:b2≠b1:=fun e=>by rw[e,eb] at f2;cases f2
   have eb4:g4 b1=_:=(off4 b1 (by rw[eb3];simp) fun q hq e=>(nrs q hq).1 e.symm).trans eb3
   have kg4:Keep h g4:=fun x hx=>by
     have h3:g3 x≠none:=by rw[k3 x (by rw[kg x hx];exact hx),kg x hx];exact hx
     rw[off4 x h3 fun q hq e=>hx (e▸(ow.blk hq).1),k3 x (by rw[kg x hx];exact hx),kg x hx]
   have nrs':∀q,rs'.q=some q→q.b≠b1∧q.b≠b2∧q.b∉bs:=fun q hq=>by
     rcases w4 q hq with ⟨p,hp,e⟩|hn
     · rw[e];exact⟨(nrs p hp).1,fun e=>(ow.blk hp).2 (e▸f2),(nrs p hp).2⟩
     · refine⟨fun e=>(by rw[e,eb3] at hn;cases hn),fun e=>(by rw[e,e2] at hn;cases hn),fun hm=>?_⟩
       obtain⟨j,hj,e⟩:=List.getElem_of_mem hm
       obtain⟨_,c,t,hc,_⟩:=gd j hj
       have:bs.getD j 0=q.b:=by simp[List.getD,hj,e]
       rw[this] at hc
       rw[k3.get hc] at hn;cases hn
   refine⟨_,rfl,stN kg4 hb1 eb4 (by simp) fun g5 kg5 e5 o5=>⟨l.length-(bs.length+1),by omega,rfl,rfl,bs.length+1,rs',bs++[b2],w64_id (by omega) (by omega),by omega,rfl,by simp,by rw[e5];rfl,?_,?_,?_,?_,?_,kg5⟩⟩
   · rw[regL_snoc,hnn]
     exact ow4.move fun q hq=>o5 _ (nrs' q hq).1
   · intro j hj
     by_cases c:j<bs.length
     · have e:(bs++[b2]).getD j 0=bs.getD j 0:=by simp[List.getD,List.getElem?_append_left c]
       rw[e]
       obtain⟨h0,cc,t,hc,a1,a2⟩:=gd j c
       have hm:bs.getD j 0∈bs:=by simp[List.getD,c]
       refine⟨h0,cc,t,?_,a1,a2⟩
       rw[o5 _ fun e=>nb1 (e▸hm),off4 _ (by rw[k3.get hc];simp) fun q hq e=>(nrs q hq).2 (e▸hm),k3.get hc]
     · have ej:j=bs.length:=by simp at hj;omega
       subst ej
       have e:(bs++[b2]).getD bs.length 0=b2:=by simp[List.getD]
       rw[e,hnn]
       refine⟨hb2,_,_,by rw[o5 _ n21,off4 _ (by rw[e2];simp) fun q hq e=>(ow.blk hq).2 (e▸f2),e2],?_,fun a ha k hk=>zRow_12 ha hk⟩
       exact zRow_size _ _
   · rw[List.nodup_append]
     refine⟨nd,by simp,fun a ha b hb e=>?_⟩
     simp at hb;subst hb;subst e
     obtain⟨j,hj,e⟩:=List.getElem_of_mem ha
     obtain⟨_,c,t,hc,_⟩:=gd j hj
     have:bs.getD j 0=a:=by simp[List.getD,hj,e]
     rw[this,f2] at hc;cases hc
   · intro hm
     rcases List.mem_append.1 hm with h|h
     · exact nb1 h
     · simp at h;exact n21 h.symm
   · intro q hq
     refine⟨(nrs' q hq).1,fun hm=>?_⟩
     rcases List.mem_append.1 hm with h|h
     · exact(nrs' q hq).2.2 h
     · simp at h;exact(nrs' q hq).2.1 h
 · have hn:bs.length=l.length:=by omega
   have rl:=ow.len
   simp only[regL,List.length_map,List.length_range] at rl
   refine⟨⟨b1,rs,fun j=>bs.getD j 0,fun j=>l.getD j 0,l.length⟩,rfl,⟨eb,OwnM.nilS ..,⟨(show 0<l.length by omega),h2⟩,(show rs.len=l.length by omega),?_,?_,?_,?_,?_,(by intro q hq;cases hq),?_⟩,rfl,fun _=>rfl,?_,kg⟩
   · intro j hj
     have hj:j<l.length:=hj
     obtain⟨q,hq,e⟩:=ow.rd.at (i:=j) (by simp[regL];omega)
     refine⟨q,hq,?_⟩
     rw[e]
     simp[regL]
   · intro j hj
     have hj:j<l.length:=hj
     obtain⟨_,c,t,a1,a2,a3⟩:=gd j (by omega)
     exact⟨c,t,a1,a2,a3⟩
   · intro j hj
     have hj:j<l.length:=hj
     have:l.getD j 0=l[j]:=by simp[List.getD,hj]
     show l.getD j 0≤4096
     rw[this];exact(hb _ (List.getElem_mem hj)).2
   · intro j hj e
     have hj:j<l.length:=hj
     have hm:bs.getD j 0∈bs:=by simp[List.getD,show j<bs.length by omega]
     exact nb1 ((show bs.getD j 0=b1 from e)▸hm)
   · intro j k hj hk e
     have hj:j<l.length:=hj
     have hk:k<l.length:=hk
     exact nodup_getD nd (by omega) (by omega) e
   · intro q hq
     refine⟨(nrs q hq).1,fun j hj e=>?_,(by intro p hp;cases hp)⟩
     have hj:j<l.length:=hj
     have hm:bs.getD j 0∈bs:=by simp[List.getD,show j<bs.length by omega]
     exact(nrs q hq).2 ((show q.b=bs.getD j 0 from e)▸hm)
   · rintro x (rfl|⟨q,hq,_⟩|⟨j,hj,rfl⟩|⟨q,hq,rfl⟩)
     · exact hb1
     · cases hq
     · have hj:j<l.length:=hj
       exact(gd j (by omega)).1
     · exact(ow.blk hq).1
theorem ref_size {T:TypeId} {m:MS} {R:Regs} {ev:List Ev} {es:Sl} {h:Hp} (M:MemR T m R ev es h) {r:Nat} (hr:r<m.nr):callK prog 22 [vp ⟨m.b,0⟩,.int .i64 r] h fun v h'=>v= .int .i64 (m.rn r)∧h'=h:=by
 refine c22 _ _ ?_
 unfold G22
 have hl:=M.len
 obtain⟨q,hq,hc⟩:=M.row r hr
 refine ifB_neg (decide_eq_false (by omega)) ⟨_,rd1 M.top rfl,ifB_neg (show decide ((m.rs.len:Int)≤(r:Int))=false from decide_eq_false (by omega)) ⟨_,rd1 M.top rfl,q,hq,by omega,by omega,⟨some ⟨m.rb r,0⟩,m.rn r,m.rn r,none⟩,?_,rfl,rfl⟩⟩
 rw[show q.o+Int.toNat (r:Int)*1=q.o+r by simp];exact hc
theorem ref_level_new {T:TypeId} {m:MS} {R:Regs} {ev:List Ev} {es:Sl} {h:Hp} (M:MemR T m R ev es h) {k:Nat} {s t:Int} (o:LevOk k s t) {f:Nat} (hf:f+2<m.nr) (h1:s*(2*2 ^ k-1)≤(m.rn f:Int)) (h2:t≤(m.rn (f+1):Int)) (h3:tbl k s t≤(m.rn (f+2):Int)) :
   callK prog 77 [vp ⟨m.b,0⟩,.int .i64 f,.agg #[.int .i64 (2 ^ k),.int .i64 s,.int .i64 t]] h fun v h'=>∃b,v= .tuple #[vp ⟨b,0⟩,.int .i64 0]∧h b=none∧h' b=some (.cells #[vp ⟨m.b,0⟩,.int .i64 f,.int .i64 (2 ^ k),.int .i64 s,.int .i64 t,.bool false,vs ⟨none,0,0,none⟩] 137 (0,0))∧Keep h h':=by
 have hnr:=M.nr
 refine c77 _ _ _ _ _ ?_
 unfold G77
 refine newC fun b1 g1 f1 e1 k1=>⟨_,rd1 e1 rfl,_,rd1 e1 rfl,_,rd1 e1 rfl,?_⟩
 refine(ref_level_sizes o).to fun g2 k2=>⟨_,_,_,rfl,?_⟩
 have e2:=k2.get e1
 refine⟨_,rd1 e2 rfl,_,rd1 e2 rfl,_,rd1 e2 rfl,?_⟩
 refine(ref_level_right o).to fun g3 k3=>⟨_,rfl,ifB_neg rfl ?_⟩
 have k03:=(k1.trans k2).trans k3
 have M3:=M.keep k03
 refine(ref_size M3 (r:=f) (by omega)).mono ?_
 rintro _ g4 ⟨rfl,rfl⟩
 refine⟨_,rfl,ifB_neg (show decide ((m.rn f:Int)<s*(2*2 ^ k-1))=false from decide_eq_false (by omega)) ?_⟩
 rw[show w64 ((f:Int)+1)=((f+1:Nat):Int) by rw[w64_id (by omega) (by omega)];rfl,show w64 ((f:Int)+2)=((f+2:Nat):Int) by rw[w64_id (by omega) (by omega)];rfl]
 refine(ref_size M3 (r:=f+1) (by omega)).mono ?_
 rintro _ g5 ⟨rfl,rfl⟩
 refine⟨_,rfl,ifB_neg (show decide ((m.rn (f+1):Int)<t)=false from decide_eq_false (by omega)) ?_⟩
 refine(ref_size M3 (r:=f+2) (by omega)).mono ?_
 rintro _ g6 ⟨rfl,rfl⟩
 have e3:=k3.get e2
 refine⟨_,rfl,ifB_neg (show decide ((m.rn (f+2):Int)<tbl k s t)=false from decide_eq_false (by omega)) ⟨_,rd1 e3 rfl,_,rd1 e3 rfl,_,rd1 e3 rfl,newC fun b2 g7 f7 e7 k7=>?_⟩⟩
 exact⟨b2,rfl,k03.free f7,e7,k03.trans k7⟩
theorem rtRL:RowT prog 131 138 (.pointer none) 8:=⟨by kernel_rfl,by kernel_rfl,by kernel_rfl,by kernel_rfl,rfl⟩
theorem ref_store_new {T:TypeId} {mm:MS} {R:Regs} {ev:List Ev} {es:Sl} {h:Hp} (M:MemR T mm R ev es h) {m:Nat} {s t:Int} {L:Nat} (o:StOk m s t L) {f:Nat} (hf:f+3*L<mm.nr) (h0:(mm.rn f:Int)=2 ^ (m-2*(L-1)))
   (hr:∀i,i<L→s*(2*2 ^ (m-2*i)-1)≤(mm.rn (f+1+3*i):Int)∧t≤(mm.rn (f+1+3*i+1):Int)∧tbl (m-2*i) s t≤(mm.rn (f+1+3*i+2):Int)) (tp:Pt) :
   callK prog 38 [vp ⟨mm.b,0⟩,.int .i64 f,v4 m s t L,vp tp] h fun v h'=>∃b,v= .tuple #[vp ⟨b,0⟩,.int .i64 0]∧Keep h h':=by
 have hnr:=M.nr
 have hL:=o.L
 refine c38 _ _ _ _ _ _ _ ?_
 unfold G38
 refine newC fun b1 g1 f1 e1 k1=>⟨_,rd1 e1 rfl,_,rd1 e1 rfl,_,rd1 e1 rfl,_,rd1 e1 rfl,?_⟩
 refine(ref_right o).to fun g2 k2=>⟨_,rfl,ifB_neg rfl ?_⟩
 have e2:=k2.get e1
 have k02:=k1.trans k2
 refine⟨_,rd1 e2 rfl,_,rd1 e2 rfl,_,rd1 e2 rfl,_,rd1 e2 rfl,_,rd1 e2 rfl,?_⟩
 refine(ref_size (M.keep k02) (r:=f) (by omega)).mono ?_
 rintro _ g3 ⟨rfl,rfl⟩
 refine⟨_,rfl,⟨rd1 e2 rfl,trivial⟩,⟨rd1 e2 rfl,rd1 e2 rfl,rd1 e2 rfl,rd1 e2 rfl,trivial⟩,?_⟩
 rw[show w64 ((L:Int)-1)=((L-1:Nat):Int) by rw[w64_id (by omega) (by omega)];omega]
 refine(ref_blocks o (L-1) (by omega)).to fun g4 k4=>⟨_,rfl,ifB_neg ?_ ?_⟩
 · show(!decide ((mm.rn f:Int)=2 ^ (m-2*(L-1))))=false
   rw[decide_eq_true h0];rfl
 have e4:=k4.get e2
 have k04:=k02.trans k4
 refine⟨_,rd1 e4 rfl,_,rd1 e4 rfl,_,rd1 e4 rfl,_,rd1 e4 rfl,newC fun b2 g5 f5 e5 k5=>?_⟩
 have k05:=k04.trans k5
 have hb2:h b2=none:=k04.free f5
 have e15:=k5.get e4
 have hb1:h b1=none:=f1
 have n12:b1≠b2:=fun e=>by rw[←e,e4] at f5;cases f5
 have hlev:∀i,i<L→LevOk (m-2*i) s t:=fun i hi=>o.lev i
 refine⟨fun q1 n16 q2 o1 n17 g kk=>(⟨mm.b,0⟩:Pt)=q1∧n16=(f:Int)∧(⟨b1,0⟩:Pt)=q2∧o1=some ⟨b2,0⟩∧∃(i:Nat) (x:Sl) (ps:List Nat),n17=i∧i≤L∧kk=L-i∧ps.length=i ∧
     g b2=some (.cells #[vp ⟨mm.b,0⟩,.int .i64 f,.int .i64 (2 ^ m),.int .i64 s,.int .i64 t,.int .i64 L,vp tp,vs x,vs ⟨none,0,0,none⟩,vs ⟨none,0,0,none⟩] 133 (0,0))∧OwnS (fun b:Nat=>vp ⟨b,0⟩) g5 g x ps∧(∀y,y≠b2→g5 y≠none→g y=g5 y)∧Keep h g,
   ⟨L,rfl,rfl,rfl,rfl,0,_,[],rfl,by omega,rfl,rfl,e5,OwnS.nilS ..,fun _ _ _=>rfl,k05⟩,?_⟩
 rintro q1 n16 q2 o1 n17 g kk ⟨rfl,rfl,rfl,rfl,i,x,ps,rfl,hi,rfl,hps,eb,ow,of,kg⟩
 have e1g:g b1=_:=(of b1 n12 (by rw[e15];simp)).trans e15
 refine⟨_,rd1 e1g rfl,ifD (fun hlt=>?_) fun hge=>⟨b2,rfl,kg⟩⟩
 have hi':i<L:=by omega
 refine⟨_,rd1 e1g rfl,_,rd1 e1g rfl,_,rd1 e1g rfl,_,rd1 e1g rfl,?_⟩
 refine(ref_level o i (by omega)).to fun g7 k7=>⟨_,_,_,rfl,?_⟩
 rw[show w64 (w64 ((f:Int)+1)+w64 (3*(i:Int)))=((f+1+3*i:Nat):Int) by rw[w64_id (n:=(f:Int)+1) (by omega) (by omega),w64_id (n:=3*(i:Int)) (by omega) (by omega),w64_id (by omega) (by omega)];omega]
 obtain⟨r1,r2,r3⟩:=hr i hi'
 refine(ref_level_new (M.keep (kg.trans k7)) (hlev i hi') (f:=f+1+3*i) (by omega) r1 r2 r3).mono ?_
 rintro _ g8 ⟨bl,rfl,hbl,ebl,k8⟩
 have k78:=k7.trans k8
 have eb8:=k78.get eb
 refine⟨some ⟨bl,0⟩,_,rfl,ifB_neg rfl ⟨_,rfl,_,rd1 eb8 rfl,?_⟩⟩
 have hn5:∀y,g y=none→g5 y=none:=fun y hy=>by
   cases e:g5 y with
   | none=>rfl
   | some ob =>
     by_cases c:y=b2
     · subst c;rw[eb] at hy;cases hy
     · rw[of y c (by rw[e];simp),e] at hy;cases hy
 refine OwnS.push' rtRL (fun _=>rfl) (ow.keep k78) bl (fun y hy=>hn5 y (k78.free hy)) (by omega) (by decide) ?_
 intro s' g9 ow9 off9 w9 fr9
 have xne:∀q,x.q=some q→q.b≠b2:=fun q hq e=>by have:=(ow.blk hq).1;rw[e,e5] at this;cases this
 have eb9:g9 b2=_:=(off9 b2 (by rw[eb8];simp) fun q hq e=>xne q hq e.symm).trans eb8
 have keep9:∀y,g5 y≠none→y≠b2→g9 y=g5 y:=fun y hy hn=>by
   have h1:=of y hn hy
   have h2:g8 y=g y:=k78 y (by rw[h1];exact hy)
   rw[off9 y (by rw[h2,h1];exact hy) fun q hq e=>by have:=(ow.blk hq).1;rw[←e] at this;exact hy this,h2,h1]
 have kg9:Keep h g9:=fun y hy=>by
   have hy2:y≠b2:=fun e=>hy (e▸hb2)
   rw[keep9 y (by rw[k05 y hy];exact hy) hy2,k05 y hy]
 have s'ne:∀q,s'.q=some q→q.b≠b2:=fun q hq e=>by
   rcases w9 q hq with ⟨p,hp,e'⟩|hn
   · exact xne p hp (e'.symm.trans e)
   · rw[e,eb8] at hn;cases hn
 refine⟨_,rfl,stN kg9 hb2 eb9 (by simp) fun g10 k10 e10 o10=>⟨L-(i+1),by omega,rfl,rfl,rfl,rfl,i+1,s',ps++[bl],w64_id (by omega) (by omega),by omega,rfl,by rw[List.length_append,hps];rfl,by rw[e10];rfl,ow9.move fun q hq=>o10 _ (s'ne q hq),fun y hy hn=>by rw[o10 y hy,keep9 y hn hy],k10⟩⟩
end Go.Proofs.Tryz

/- Chapter 14's laws: what their raw numbers stand for; what is made for them. -/
import Derived.Test.YtofgadhgljjhgaaGreatCukF
import Derived.Test.YtofgadhgljjhgaaGreatRefN
import Derived.Test.YtofgadhgljjhgaaGreatStoN
import Derived.Test.YtofgadhgljjhgaaGreatShRec
namespace Go.Proofs.Tryz
open Go Go.Sh Go.RowKit
set_option maxRecDepth 8000
theorem law_pick {c:Int} (h1: -9223372036854775808≤c) (h2:c≤9223372036854775807) {n:Nat} (hn:0<n):PureC prog 14 [.int .i64 c,.int .i64 n] (.int .i64 (pickN c n)):=by
 intro h
 refine c14 _ _ ?_
 unfold G14
 refine ifD (fun hlt=>⟨by omega,?_,Keep.refl h⟩) fun hge=>⟨by omega,?_,Keep.refl h⟩
 · have e:w64 (0-w64 (c+1))=((-(c+1)).toNat:Nat):=by rw[w64_id (n:=c+1) (by omega) (by omega),w64_id (by omega) (by omega)];omega
   rw[e];unfold pickN;rw[if_pos hlt]
   congr 1
 · obtain⟨k,rfl⟩:=Int.eq_ofNat_of_zero_le (show 0≤c by omega)
   unfold pickN;rw[if_neg hge]
   congr 1
def cG (n:Int):SP:=mkG (1+pickN n 4) (1+pickN (n.tdiv 64) 3) (4+pickN (n.tdiv 192) 13) (1+pickN (n.tdiv 2496) 2)
noncomputable def xP (n:Int) (x:IxS):XP:=⟨2 ^ pickN n 4,plN x.a x.b x.c x.d (2 ^ pickN n 4),1+pickN (n.tdiv 4) 4,1+pickN (n.tdiv 16) 4⟩
theorem cG_ok (n:Int):(cG n).Ok:=by
 have h1:=pickN_lt n (n:=4) (by decide)
 have h2:=pickN_lt (n.tdiv 64) (n:=3) (by decide)
 have h3:=pickN_lt (n.tdiv 192) (n:=13) (by decide)
 have h4:=pickN_lt (n.tdiv 2496) (n:=2) (by decide)
 exact mkG_ok (by omega) (by omega) (by omega) (by omega)
theorem xP_cp (n:Int) (x:IxS):CP (cG n) (xP n x):=by
 have h1:=pickN_lt n (n:=4) (by decide)
 have h3:=pickN_lt (n.tdiv 16) (n:=4) (by decide)
 have hp1:1≤2 ^ pickN n 4:=Nat.one_le_two_pow
 have hp2:2 ^ pickN n 4≤2 ^ 3:=Nat.pow_le_pow_right (by decide) (by omega)
 refine⟨cG_ok n,⟨hp1,fun t k=>plN_lt hp1 (by omega),by show 1≤1+pickN (n.tdiv 16) 4;omega⟩,?_,by show 2 ^ pickN n 4≤1000;omega,by show 1+pickN (n.tdiv 16) 4≤1000;omega,rfl⟩
 show 2 ^ (1+pickN n 4)=2*2 ^ pickN n 4
 rw[Nat.pow_add]
theorem law_shape {n:Int} (h1: -9223372036854775808≤n) (h2:n≤9223372036854775807):PureC prog 26 [.int .i64 n] (.agg #[.int .i64 ((2 ^ pickN n 4:Nat):Int),.int .i64 ((1+pickN (n.tdiv 4) 4:Nat):Int),.int .i64 ((1+pickN (n.tdiv 16) 4:Nat):Int)]):=by
 intro h
 have p1:=pickN_lt n (n:=4) (by decide)
 have p2:=pickN_lt (n.tdiv 4) (n:=4) (by decide)
 have p3:=pickN_lt (n.tdiv 16) (n:=4) (by decide)
 have t1:=tdiv_in (k:=4) (by decide) h1 h2
 have t2:=tdiv_in (k:=16) (by decide) h1 h2
 refine c26 _ ?_
 unfold G26
 refine newC fun b1 h1' f1 e1 k1=>⟨by decide,by decide,?_⟩
 rw[w64_id t1.1 t1.2,w64_id t2.1 t2.2]
 refine(law_pick h1 h2 (n:=4) (by decide)).to fun g1 l1=>⟨_,rfl,by omega,?_⟩
 refine(law_pick t1.1 t1.2 (n:=4) (by decide)).to fun g2 l2=>⟨_,rfl,?_⟩
 refine(law_pick t2.1 t2.2 (n:=4) (by decide)).to fun g3 l3=>⟨_,rfl,?_⟩
 have l13:=(l1.trans l2).trans l3
 have hmin:min (Int.toNat ((pickN n 4:Nat):Int)) 64=pickN n 4:=by omega
 have hpw:2 ^ pickN n 4≤2 ^ 3:=Nat.pow_le_pow_right (by decide) (by omega)
 have hpI:(2:Int) ^ pickN n 4=((2 ^ pickN n 4:Nat):Int):=by simp
 rw[hmin]
 refine stW (k1.trans l13) f1 (l13.get e1) rfl fun g5 l5 e5 _=>⟨_,rd1 e5 rfl,_,rd1 e5 rfl,_,rd1 e5 rfl,?_,l5⟩
 rw[Int.one_mul,hpI]
 generalize 2 ^ pickN n 4=y at *
 rw[w64_id (n:=(y:Int)) (by omega) (by omega),w64_id (n:=1+((pickN (n.tdiv 4) 4:Nat):Int)) (by omega) (by omega),w64_id (n:=1+((pickN (n.tdiv 16) 4:Nat):Int)) (by omega) (by omega)]
 simp
theorem law_config {n b c:Int} (h1: -9223372036854775808≤n) (h2:n≤9223372036854775807):PureC prog 29 [.agg #[.int .i64 ((2 ^ pickN n 4:Nat):Int),.int .i64 b,.int .i64 c],.int .i64 n] (v4 (cG n).m (cG n).s (cG n).t (cG n).L):=by
 intro h
 have p1:=pickN_lt n (n:=4) (by decide)
 have p2:=pickN_lt (n.tdiv 64) (n:=3) (by decide)
 have p3:=pickN_lt (n.tdiv 192) (n:=13) (by decide)
 have p4:=pickN_lt (n.tdiv 2496) (n:=2) (by decide)
 have t1:=tdiv_in (k:=64) (by decide) h1 h2
 have t2:=tdiv_in (k:=192) (by decide) h1 h2
 have t3:=tdiv_in (k:=2496) (by decide) h1 h2
 refine c29 _ _ _ _ ?_
 unfold G29
 refine newC fun b1 h1' f1 e1 k1=>newC fun b2 h2' f2 e2 k2=>⟨_,rd1 (k2.get e1) rfl,by decide,by decide,by decide,?_⟩
 rw[w64_id t1.1 t1.2,w64_id t2.1 t2.2,w64_id t3.1 t3.2]
 have e12:=k2.get e1
 refine(law_pick t1.1 t1.2 (n:=3) (by decide)).to fun g2 l2=>⟨_,rfl,⟨rd1 (l2.get e12) rfl,trivial⟩,?_⟩
 refine(law_pick t2.1 t2.2 (n:=13) (by decide)).to fun g3 l3=>⟨_,rfl,⟨rd1 ((l2.trans l3).get e12) rfl,trivial⟩,?_⟩
 refine(law_pick t3.1 t3.2 (n:=2) (by decide)).to fun g4 l4=>⟨_,rfl,⟨rd1 (((l2.trans l3).trans l4).get e12) rfl,trivial⟩,?_⟩
 have l24:=(l2.trans l3).trans l4
 have hpw:2 ^ pickN n 4≤2 ^ 3:=Nat.pow_le_pow_right (by decide) (by omega)
 refine stW ((k1.trans k2).trans l24) (k1.free f2) (l24.get e2) rfl fun g5 l5 e5 _=>⟨_,rd1 e5 rfl,_,rd1 e5 rfl,_,rd1 e5 rfl,_,rd1 e5 rfl,?_,l5⟩
 have hm:(2:Int) ^ (1+pickN n 4)=2*((2 ^ pickN n 4:Nat):Int):=by rw[Int.pow_add];simp
 show _=v4 (1+pickN n 4) ((1+pickN (n.tdiv 64) 3:Nat):Int) ((4+pickN (n.tdiv 192) 13:Nat):Int) (1+pickN (n.tdiv 2496) 2)
 unfold v4
 rw[hm]
 generalize 2 ^ pickN n 4=y at *
 rw[w64_id (n:=2*(y:Int)) (by omega) (by omega),w64_id (n:=1+((pickN (n.tdiv 64) 3:Nat):Int)) (by omega) (by omega),w64_id (n:=4+((pickN (n.tdiv 192) 13:Nat):Int)) (by omega) (by omega),w64_id (n:=1+((pickN (n.tdiv 2496) 2:Nat):Int)) (by omega) (by omega)]
 simp
theorem hash_of {h:Hp} {sw:Sl} {ws:List UInt64} (r:RdS vu h sw ws):callK prog 40 [vs sw] h fun v h'=>(∃a b c d,v= .agg #[vu a,vu b,vu c,vu d])∧Keep h h':=by
 refine c40 _ ?_
 unfold G40
 refine newC fun b1 h1 f1 e1 k1=>newC fun b2 h2 f2 e2 k2=>?_
 have f20:=k1.free f2
 have d12:b1≠b2:=fun e=>by rw[←e,e1] at f2;cases f2
 have hl:=r.len
 refine⟨fun s1 q1 q2 n1 g kk=>sw=s1∧(⟨b1,0⟩:Pt)=q1∧(⟨b2,0⟩:Pt)=q2∧∃(i:Nat) (c:Vector UInt64 4),n1=i∧i≤4∧kk=4-i∧g b2=some (.cells (SV.cells (.ws 4 c)).toArray 170 (0,0))∧g b1=h2 b1∧Keep h g,
   ⟨4,rfl,rfl,rfl,0,#v[0,0,0,0],rfl,by omega,rfl,e2,rfl,k1.trans k2⟩,?_⟩
 rintro s1 q1 q2 n1 g kk ⟨rfl,rfl,rfl,i,c,rfl,hi,rfl,g2,g1,kg⟩
 refine ifD (fun hlt=>?_) fun hge=>?_
 · refine ifD (fun hl2=>?_) fun _=>⟨4-(i+1),by omega,rfl,rfl,rfl,i+1,c,w64_id (by omega) (by omega),by omega,rfl,g2,g1,kg⟩
   refine(r.keep kg).ix (i:=i) (by omega) fun q hq hc=>⟨_,hc,by omega,by omega,?_⟩
   rw[show 0+Int.toNat (i:Int)*1=i by simp]
   exact wbS kg f20 g2 (by omega) fun g' kg' g2' o'=>⟨4-(i+1),by omega,rfl,rfl,rfl,i+1,_,w64_id (by omega) (by omega),by omega,rfl,g2',(o' b1 d12).trans g1,kg'⟩
 · refine⟨Int.NonNeg.mk _,Int.NonNeg.mk _,_,wb_get g2 (i:=0) (by decide),Int.NonNeg.mk _,Int.NonNeg.mk _,_,wb_get g2 (i:=1) (by decide),Int.NonNeg.mk _,Int.NonNeg.mk _,_,wb_get g2 (i:=2) (by decide),Int.NonNeg.mk _,Int.NonNeg.mk _,_,wb_get g2 (i:=3) (by decide),?_⟩
   exact stW kg f1 (g1.trans (k2.get e1)) rfl fun g' k' e' _=>⟨_,rd1 e' rfl,_,rd1 e' rfl,_,rd1 e' rfl,_,rd1 e' rfl,⟨_,_,_,_,rfl⟩,k'⟩
theorem ref_word {h:Hp} {sw:Sl} {ws:List UInt64} (r:RdS vu h sw ws) (i:Nat):callK prog 80 [vs sw,.int .i64 i] h fun v h'=>(∃y,v=vu y)∧h'=h:=by
 refine c80 _ _ ?_
 unfold G80
 have hl:=r.len
 refine ifD (fun hlt=>?_) fun _=>⟨⟨_,rfl⟩,rfl⟩
 exact r.ix (i:=i) (by omega) fun q hq hc=>⟨_,hc,⟨_,rfl⟩,rfl⟩
theorem ref_of {h:Hp} {sw:Sl} {ws:List UInt64} (r:RdS vu h sw ws):callK prog 42 [vs sw] h fun v h'=>(∃a b c d,v= .agg #[vu a,vu b,vu c,vu d])∧Keep h h':=by
 refine c42 _ ?_
 unfold G42
 refine newC fun b1 h1 f1 e1 k1=>?_
 have r1:=r.keep k1
 refine(ref_word r1 0).mono ?_
 rintro _ h2 ⟨⟨y1,rfl⟩,rfl⟩
 refine⟨_,rfl,(ref_word r1 1).mono ?_⟩
 rintro _ h3 ⟨⟨y2,rfl⟩,rfl⟩
 refine⟨_,rfl,(ref_word r1 2).mono ?_⟩
 rintro _ h4 ⟨⟨y3,rfl⟩,rfl⟩
 refine⟨_,rfl,(ref_word r1 3).mono ?_⟩
 rintro _ h5 ⟨⟨y4,rfl⟩,rfl⟩
 refine⟨_,rfl,stW k1 f1 e1 rfl fun g' k' e' _=>⟨_,rd1 e' rfl,_,rd1 e' rfl,_,rd1 e' rfl,_,rd1 e' rfl,⟨_,_,_,_,rfl⟩,k'⟩⟩
theorem round_pow {k:Nat} (hk:k≤3):roundI ((2 ^ k:Nat):Int)=((2 ^ k:Nat):Int):=by
 have:=roundI_of (n:=((2 ^ k:Nat):Int)) (j:=k) (by omega) (by simp) (by
   have:k=0∨k=1∨k=2∨k=3:=by omega
   rcases this with rfl|rfl|rfl|rfl<;>decide)
 rw[this];simp
theorem cuk_new {T:TypeId} {m:MS} {R:Regs} {ev:List Ev} {es:Sl} {h:Hp} (M:MemR T m R ev es h) (h0:1≤m.rn 0) {k K:Nat} (hk:k≤3) (hK:1≤K∧K≤16) (sb:Pt) (a b c d:UInt64) :
   callK prog 39 [vp sb,vp ⟨m.b,0⟩,.int .i64 0,.int .i64 ((2 ^ k:Nat):Int),.int .i64 K,.agg #[vu a,vu b,vu c,vu d]] h fun v h'=>∃xb,v= .tuple #[vp ⟨xb,0⟩,.int .i64 0]∧h xb=none∧h' xb=some (.cells #[vp sb,vp ⟨m.b,0⟩,.int .i64 0,.int .i64 ((2 ^ k:Nat):Int),.int .i64 K,vu a,vu b,vu c,vu d] 103 (0,0))∧Keep h h':=by
 have hp1:1≤2 ^ k:=Nat.one_le_two_pow
 have hp2:2 ^ k≤2 ^ 3:=Nat.pow_le_pow_right (by decide) hk
 refine c39 _ _ _ _ _ _ _ _ _ ?_
 unfold G39
 refine newC fun b1 h1 f1 e1 k1=>ifB_neg (decide_eq_false (by omega)) (ifB_neg (show decide ((128:Int)<((2 ^ k:Nat):Int))=false from decide_eq_false (by omega)) ?_)
 have hw:=word_round ((2 ^ k:Nat):Int) (by omega)
 rw[round_pow hk] at hw
 refine hw.to fun h2 k2=>⟨_,rfl,ifB_neg (show(!decide (((2 ^ k:Nat):Int)=((2 ^ k:Nat):Int)))=false by simp) (ifB_neg (show decide ((K:Int)<1)=false from decide_eq_false (by omega)) (ifB_neg (show decide ((16:Int)<(K:Int))=false from decide_eq_false (by omega)) ?_))⟩
 refine(mem_size (M.keep (k1.trans k2)) (r:=0) M.nr.1).mono ?_
 rintro _ h3 ⟨rfl,rfl⟩
 have e2:=k2.get e1
 refine⟨_,rfl,ifB_neg (show decide ((m.rn 0:Int)=0)=false from decide_eq_false (by omega)) ⟨_,rd1 e2 rfl,_,rd1 e2 rfl,_,rd1 e2 rfl,_,rd1 e2 rfl,newC fun b2 h4 f4 e4 k4=>⟨b2,rfl,(k1.trans k2).free f4,e4,(k1.trans k2).trans k4⟩⟩⟩
theorem ref_index_new {T:TypeId} {m:MS} {R:Regs} {ev:List Ev} {es:Sl} {h:Hp} (M:MemR T m R ev es h) (h0:1≤m.rn 0) {k K:Nat} (hk:k≤3) (hK:1≤K∧K≤16) (sb:Pt) (a b c d:UInt64) :
   callK prog 41 [vp sb,vp ⟨m.b,0⟩,.int .i64 0,.int .i64 ((2 ^ k:Nat):Int),.int .i64 K,.agg #[vu a,vu b,vu c,vu d]] h fun v h'=>∃xb,v= .tuple #[vp ⟨xb,0⟩,.int .i64 0]∧Keep h h':=by
 have hp1:1≤2 ^ k:=Nat.one_le_two_pow
 have hp2:2 ^ k≤2 ^ 3:=Nat.pow_le_pow_right (by decide) hk
 refine c41 _ _ _ _ _ _ _ _ _ ?_
 unfold G41
 refine newC fun b1 h1 f1 e1 k1=>ifB_neg (decide_eq_false (by omega)) (ifB_neg (show decide ((128:Int)<((2 ^ k:Nat):Int))=false from decide_eq_false (by omega)) ?_)
 have hw:=ref_round (n:=((2 ^ k:Nat):Int)) (by omega)
 rw[round_pow hk] at hw
 refine hw.to fun h2 k2=>⟨_,rfl,ifB_neg (show(!decide (((2 ^ k:Nat):Int)=((2 ^ k:Nat):Int)))=false by simp) (ifB_neg (show decide ((K:Int)<1)=false from decide_eq_false (by omega)) (ifB_neg (show decide ((16:Int)<(K:Int))=false from decide_eq_false (by omega)) ?_))⟩
 refine(ref_size (M.keep (k1.trans k2)) (r:=0) M.nr.1).mono ?_
 rintro _ h3 ⟨rfl,rfl⟩
 have e2:=k2.get e1
 refine⟨_,rfl,ifB_neg (show decide ((m.rn 0:Int)=0)=false from decide_eq_false (by omega)) ⟨_,rd1 e2 rfl,_,rd1 e2 rfl,_,rd1 e2 rfl,_,rd1 e2 rfl,newC fun b2 h4 f4 e4 k4=>⟨b2,rfl,(k1.trans k2).trans k4⟩⟩⟩
end Go.Proofs.Tryz
/- Chapter 14's laws: what is made for them, and the example at the head. -/
namespace Go.Proofs.Tryz
open Go Go.Sh Go.RowKit
set_option maxRecDepth 8000
theorem law_made {n:Int} (n1: -9223372036854775808≤n) (n2:n≤9223372036854775807) {h:Hp} {sw:Sl} {ws:List UInt64} (rw_:RdS vu h sw ws) (hlw:ws.length*8≤140737488355328) :
   callK prog 11 [.int .i64 n,vs sw] h fun v h'=>∃(B:StB) (x:IxS) (pk pu py:Pt),v= .tuple #[.agg #[vp ⟨B.m.b,0⟩,vp ⟨B.sb,0⟩,vp ⟨x.xb,0⟩,vp pk,vp pu,vp py],.bool true]∧IFix (cG n) B (xP n x) x∧IRun (cG n) ws B (xP n x) x 0 0 S00 [] nilS nilS h'∧(∀y,SFo (cG n) B nilS nilS y∨y=x.xb→h y=none)∧Keep h h':=by
 have p1:=pickN_lt n (n:=4) (by decide)
 have p2:=pickN_lt (n.tdiv 4) (n:=4) (by decide)
 have p3:=pickN_lt (n.tdiv 16) (n:=4) (by decide)
 have p4:=pickN_lt (n.tdiv 64) (n:=3) (by decide)
 have p5:=pickN_lt (n.tdiv 192) (n:=13) (by decide)
 have p6:=pickN_lt (n.tdiv 2496) (n:=2) (by decide)
 have o:=cG_ok n
 have hm:(cG n).m=1+pickN n 4:=rfl
 have hs:(cG n).s=1+pickN (n.tdiv 64) 3:=rfl
 have ht:(cG n).t=4+pickN (n.tdiv 192) 13:=rfl
 have hLL:(cG n).L=1+pickN (n.tdiv 2496) 2:=rfl
 have hf:(cG n).f=1:=rfl
 have hE:∀i,(cG n).E i=roundE (plc ((cG n).m-2*i) (cG n).s (cG n).t):=fun _=>rfl
 have hcp:=fun x=>xP_cp n x
 have hsp:∀x,(xP n x).sp=1+pickN (n.tdiv 16) 4:=fun _=>rfl
 have hT:∀x,(xP n x).T=2 ^ pickN n 4:=fun _=>rfl
 have hK:∀x,(xP n x).K=1+pickN (n.tdiv 4) 4:=fun _=>rfl
 have hpl:∀x t key,(xP n x).pl t key=plN x.a x.b x.c x.d (xP n x).T t key:=fun _ _ _=>rfl
 have so:StOk (cG n).m (cG n).s (cG n).t (cG n).L:=o.st
 refine c11 _ _ ?_
 unfold G11
 refine newC fun b1 h1 f1 e1 k1=>?_
 refine(law_shape n1 n2).to fun h2 k2=>⟨_,_,_,rfl,newC fun b2 h3 f3 e3 k3=>?_⟩
 have f30:=k1.free (k2.free f3)
 refine stW ((k1.trans k2).trans k3) f30 e3 rfl fun h4 k4 e4 o4=>⟨_,rd1 e4 rfl,_,rd1 e4 rfl,_,rd1 e4 rfl,?_⟩
 have e14:h4 b1=_:=(o4 b1 fun e=>by rw[←e,k2.get e1] at f3;cases f3).trans (k3.get (k2.get e1))
 refine(law_config n1 n2).to fun h5 k5=>⟨_,_,_,_,rfl,newC fun b3 h6 f6 e6 k6=>?_⟩
 have k06:=(k4.trans k5).trans k6
 have f60:=k4.free (k5.free f6)
 refine stW k06 f60 e6 rfl fun h7 k7 e7 o7=>⟨_,rd1 e7 rfl,_,rd1 e7 rfl,_,rd1 e7 rfl,_,rd1 e7 rfl,newC fun b4 h8 f8 e8 k8=>?_⟩
 have x7:∀ {b:Nat} {ob:Obj},h4 b=some ob→h7 b=some ob:=fun hb=>(o7 _ fun e=>by rw[e] at hb;have:=k5.get hb;rw[f6] at this;cases this).trans (k6.get (k5.get hb))
 refine stW (k7.trans k8) (k7.free f8) e8 rfl fun h9 k9 e9 o9=>?_
 have x9:∀ {b:Nat} {ob:Obj},h7 b=some ob→h9 b=some ob:=fun hb=>(o9 _ fun e=>by rw[e,f8] at hb;cases hb).trans (k8.get hb)
 have e29:=x9 (x7 e4)
 have e19:=x9 (x7 e14)
 have e39:=x9 e7
 refine⟨_,rd1 e29 rfl,_,rd1 e9 rfl,_,rd1 e9 rfl,_,rd1 e9 rfl,_,rd1 e9 rfl,?_⟩
 refine(ref_sizes so h9).mono ?_
 rintro _ h10 ⟨s1,rfl,o1,k10⟩
 refine⟨s1,rfl,⟨rd1 (k10.get e29) rfl,trivial⟩,newC fun b5 h11 f11 e11 k11=>?_⟩
 have K11:=(k9.trans k10).trans k11
 have ob:OwnS iv h h11 ⟨some ⟨b5,0⟩,1,1,none⟩ [((1+pickN (n.tdiv 16) 4:Nat):Int)]:=OwnS.newE (k9.free (k10.free f11)) e11 rfl rfl
 have hsl:=sizesL_length (cG n).m (cG n).s (cG n).t (cG n).L (cG n).L
 refine OwnS.app rtI iv_one ob (o1.keep k11).rd (fun b hb=>K11.free hb) (by simp[hsl];omega) (by decide) ?_
 intro s2 h12 o12 off12 w12 fr12
 have K12:=keep_appS ob K11 off12
 have x12:∀ {b:Nat} {ob:Obj},h9 b=some ob→h12 b=some ob:=fun {b ob'} hb=>by
   have h11':=k11.get (k10.get hb)
   rw[off12 b (by rw[h11'];simp) fun q hq e=>(by cases hq;have:=k10.get hb;rw[show b=b5 from e,f11] at this;cases this),h11']
 rw[show [((1+pickN (n.tdiv 16) 4:Nat):Int)]++sizesL (cG n).m (cG n).s (cG n).t (cG n).L (cG n).L=((1+pickN (n.tdiv 16) 4:Nat):Int)::sizesL (cG n).m (cG n).s (cG n).t (cG n).L (cG n).L from rfl,sizesN_cast] at o12
 have hn:=sizesN_length (1+pickN (n.tdiv 16) 4) (cG n).m (cG n).s (cG n).t (cG n).L (cG n).L
 have hbd:∀z∈sizesN (1+pickN (n.tdiv 16) 4) (cG n).m (cG n).s (cG n).t (cG n).L (cG n).L,1≤z∧z≤4096:=by
   intro z hmem
   unfold sizesN at hmem
   simp only[List.mem_cons,List.mem_flatMap,List.mem_range] at hmem
   have hp:∀a,a≤8→1≤2 ^ a∧2 ^ a≤256:=fun a ha=>⟨Nat.one_le_two_pow,Nat.pow_le_pow_right (n:=2) (by decide) ha⟩
   rcases hmem with rfl|rfl|⟨i,_,hi⟩
   · omega
   · have:=hp ((cG n).m-2*((cG n).L-1)) (by omega);omega
   · unfold levN at hi
     simp only[List.mem_cons,List.not_mem_nil,or_false] at hi
     rcases hi with rfl|rfl|rfl
     · have h1:=hp ((cG n).m-2*i) (by omega)
       rw[Nat.pow_succ]
       generalize 2 ^ ((cG n).m-2*i)=y at *
       have e2:(cG n).s*(y*2-1)≤8*511:=Nat.mul_le_mul (by omega) (by omega)
       have e3:1*1≤(cG n).s*(y*2-1):=Nat.mul_le_mul (by omega) (by omega)
       omega
     · omega
     · have:=hp (roundE (plc ((cG n).m-2*i) (cG n).s (cG n).t)) (o.lev i).E;omega
 refine(mem_new o12.rd (by omega) (by omega) hbd).mono ?_
 rintro _ h13 ⟨TM,mm,rfl,M,hnr,hrn,fM,k13⟩
 refine⟨some ⟨mm.b,0⟩,_,rfl,?_⟩
 refine(ref_mem_new (o12.keep k13).rd (by omega) (by omega) hbd).mono ?_
 rintro _ h14 ⟨m2,rfl,M2,hnr2,hrn2,_,k14⟩
 have k124:=k13.trans k14
 have e314:=k124.get (x12 e39)
 refine⟨some ⟨m2.b,0⟩,_,rfl,ifB_neg rfl (ifB_neg rfl ⟨_,rd1 e314 rfl,_,rd1 e314 rfl,_,rd1 e314 rfl,_,rd1 e314 rfl,?_⟩)⟩
 have K14:=K12.trans k124
 refine(tape_new (rw_.keep K14) hlw).mono ?_
 rintro _ h15 ⟨TT,tb,tw,rfl,tp,ftb,ftw,k15⟩
 have e315:=k15.get e314
 refine⟨some ⟨tb,0⟩,rfl,⟨rd1 e315 rfl,rd1 e315 rfl,rd1 e315 rfl,rd1 e315 rfl,trivial⟩,?_⟩
 have k135:=k14.trans k15
 have M15:=M.keep k135
 have lvm:∀i,i<(cG n).L→LvM mm ((cG n).lp i) ((cG n).base i):=fun i hi=>by
   have eb:(cG n).base i=2+3*i+0:=by unfold SP.base;omega
   rw[eb]
   refine⟨by omega,by rw[hnr,hn];omega,?_,?_,?_,rfl⟩
   · rw[hrn,sizesN_get _ _ _ _ _ _ i 0 hi (by decide)];rfl
   · rw[hrn,show 2+3*i+0+1=2+3*i+1 by omega,sizesN_get _ _ _ _ _ _ i 1 hi (by decide)];rfl
   · rw[hrn,show 2+3*i+0+2=2+3*i+2 by omega,sizesN_get _ _ _ _ _ _ i 2 hi (by decide)];rfl
 have twd:tw≠tb→h15 tw≠none:=fun hne=>(ftw hne).2
 have ntb:¬MF mm ⟨none,0,0,none⟩ tb:=fun hmf=>(M.keep k14).dom hmf ftb
 have ntw:tw≠tb→¬MF mm ⟨none,0,0,none⟩ tw:=fun hne hmf=>(M.keep k14).dom hmf (ftw hne).1
 refine(store_new (G:=cG n) (u:=0) o lvm (by rw[hnr,hn];show 1<3*(cG n).L+2;omega) (by rw[hrn];rfl) M15 tp twd ntb ntw).mono ?_
 rintro _ h16 ⟨B,rfl,hBm,hBt,hBw,RB,stB,fB,k16⟩
 have K15:=K14.trans k15
 have K16:=K15.trans k16
 have e416:=k16.get (k15.get (k124.get (x12 e9)))
 refine⟨some ⟨B.sb,0⟩,_,rfl,_,rd1 e416 rfl,_,rd1 e416 rfl,_,rd1 e416 rfl,_,rd1 e416 rfl,newC fun b6 h17 f17 e17 k17=>?_⟩
 have M17:=M2.keep ((k15.trans k16).trans k17)
 have hrL:∀i,i<(cG n).L→((cG n).s:Int)*(2*2 ^ ((cG n).m-2*i)-1)≤(m2.rn (1+1+3*i):Int)∧((cG n).t:Int)≤(m2.rn (1+1+3*i+1):Int)∧tbl ((cG n).m-2*i) (cG n).s (cG n).t≤(m2.rn (1+1+3*i+2):Int):=fun i hi=>by
   have hp:1≤2 ^ ((cG n).m-2*i):=Nat.one_le_two_pow
   refine⟨?_,?_,?_⟩
   · rw[hrn2,show 1+1+3*i=2+3*i+0 by omega,sizesN_get _ _ _ _ _ _ i 0 hi (by decide)]
     show _≤(((cG n).s*(2 ^ ((cG n).m-2*i+1)-1):Nat):Int)
     rw[Nat.pow_succ,Int.natCast_mul,Int.natCast_sub (by omega)]
     simp[Int.mul_comm]
   · rw[hrn2,show 1+1+3*i+1=2+3*i+1 by omega,sizesN_get _ _ _ _ _ _ i 1 hi (by decide)]
     exact Int.le_refl _
   · rw[hrn2,show 1+1+3*i+2=2+3*i+2 by omega,sizesN_get _ _ _ _ _ _ i 2 hi (by decide)]
     show _≤((2 ^ roundE (plc ((cG n).m-2*i) (cG n).s (cG n).t):Nat):Int)
     have e:tbl ((cG n).m-2*i) (cG n).s (cG n).t=2 ^ roundE (plc ((cG n).m-2*i) (cG n).s (cG n).t):=roundI_E _
     rw[e];simp
 refine(ref_store_new M17 so (f:=1) (by rw[hnr2,hn];omega) (by rw[hrn2];show((2 ^ ((cG n).m-2*((cG n).L-1)):Nat):Int)=_;simp) hrL ⟨b6,0⟩).mono ?_
 rintro _ h18 ⟨us,rfl,k18⟩
 have K18:=(K16.trans k17).trans k18
 have e218:=k18.get (k17.get (k16.get (k15.get (k124.get (x12 e29)))))
 refine⟨some ⟨us,0⟩,_,rfl,ifB_neg rfl (ifB_neg rfl ⟨_,rd1 e218 rfl,_,rd1 e218 rfl,?_⟩)⟩
 refine(hash_of (rw_.keep K18)).mono ?_
 rintro _ h19 ⟨⟨ha,hb,hc,hd,rfl⟩,k19⟩
 have e219:=k19.get e218
 refine⟨_,_,_,_,rfl,⟨rd1 e219 rfl,trivial⟩,⟨rd1 e219 rfl,trivial⟩,?_⟩
 have k169:=(k17.trans k18).trans k19
 have RB19:=RB.keep o k169
 have hrn0:B.m.rn 0=1+pickN (n.tdiv 16) 4:=by rw[hBm,hrn];rfl
 have hcn:=cuk_new RB19.mem (by omega) (k:=pickN n 4) (K:=1+pickN (n.tdiv 4) 4) (by omega) (by omega) ⟨B.sb,0⟩ ha hb hc hd
 rw[hBm] at hcn
 refine hcn.mono ?_
 rintro _ h20 ⟨xb,rfl,fxb,exb,k20⟩
 have e220:=k20.get e219
 refine⟨some ⟨xb,0⟩,_,rfl,_,rd1 e220 rfl,_,rd1 e220 rfl,?_⟩
 have K20:=(K18.trans k19).trans k20
 refine(ref_of (rw_.keep K20)).mono ?_
 rintro _ h21 ⟨⟨ra,rb,rc,rd',rfl⟩,k21⟩
 have e221:=k21.get e220
 refine⟨_,_,_,_,rfl,⟨rd1 e221 rfl,trivial⟩,⟨rd1 e221 rfl,trivial⟩,?_⟩
 have k171:=((k18.trans k19).trans k20).trans k21
 refine(ref_index_new (M17.keep k171) (by rw[hrn2];show 1≤1+pickN (n.tdiv 16) 4;omega) (k:=pickN n 4) (K:=1+pickN (n.tdiv 4) 4) (by omega) (by omega) ⟨us,0⟩ ra rb rc rd').mono ?_
 rintro _ h22 ⟨yb,rfl,k22⟩
 have e122:=(k171.trans k22).get (k17.get (k16.get (k15.get (k124.get (x12 e19)))))
 have K22:=(K20.trans k21).trans k22
 refine⟨some ⟨yb,0⟩,_,rfl,ifB_pos rfl (ifB_pos rfl ?_)⟩
 refine stW K22 f1 e122 rfl fun h23 k23 e23 o23=>⟨_,rd1 e23 rfl,_,rd1 e23 rfl,_,rd1 e23 rfl,_,rd1 e23 rfl,_,rd1 e23 rfl,_,rd1 e23 rfl,?_⟩
 have fx:h xb=none:=((K18.trans k19)).free fxb
 have fb:∀y,SFo (cG n) B nilS nilS y→h y=none:=by
   rintro y (hx|⟨p,hx⟩)
   · rw[hBm] at hx;exact K12.free (fM y hx)
   · by_cases c1:p= .tb
     · subst c1
       have hx:y=B.tb:=hx
       rw[hx,hBt];exact K14.free ftb
     · by_cases c2:p= .tw
       · subst c2
         have h1:=hx.1;have h2:=hx.2
         rw[hBw] at h1 h2;rw[hBt] at h2
         rw[h1];exact K14.free (ftw h2).1
       · exact K15.free (fB p y c1 c2 hx)
 have hd1:∀ {y:Nat},h22 y≠none→y≠b1→h23 y=h22 y:=fun _ hn=>o23 _ hn
 have kA:=(k20.trans k21).trans k22
 have RB22:=RB19.keep o kA
 have exb22:=(k21.trans k22).get exb
 have nb1:∀y,SFo (cG n) B nilS nilS y→y≠b1:=fun y hy e=>by
   have:=RB.fdom o hy
   rcases hy with hx|⟨p,hx⟩
   · rw[hBm] at hx
     have h12:=fM y hx
     rw[e,x12 e19] at h12;cases h12
   · by_cases c1:p= .tb
     · subst c1
       have hx:y=B.tb:=hx
       have h12:=k124.get (x12 e19)
       rw[hx,hBt] at e
       rw[←e,ftb] at h12;cases h12
     · by_cases c2:p= .tw
       · subst c2
         have h1:=hx.1;have h2:=hx.2
         rw[hBw] at h1 h2;rw[hBt] at h2
         have h12:=k124.get (x12 e19)
         rw[←e,h1,(ftw h2).1] at h12;cases h12
       · have h15:=fB p y c1 c2 hx
         rw[e,k15.get (k124.get (x12 e19))] at h15;cases h15
 have hxb1:xb≠b1:=fun e=>by
   have:=k19.get (k18.get (k17.get (k16.get (k15.get (k124.get (x12 e19))))))
   rw[←e,fxb] at this;cases this
 refine⟨B,⟨xb,ha,hb,hc,hd⟩,⟨m2.b,0⟩,⟨us,0⟩,⟨yb,0⟩,by rw[hBm];rfl,⟨hcp _,stB,⟨pickN n 4,by omega,hT _⟩,hpl _,by rw[hBm,hnr,hn];omega,by rw[hrn0,hsp],by rw[hK];omega⟩,⟨RB22.same fun y hy=>o23 y (nb1 y hy),⟨AI.zero (fun _ _=>rfl) rfl,rfl,rfl⟩,by simp,?_,fun hf=>RB19.fdom o hf fxb⟩,?_,k23⟩
 · show h23 xb=_
   rw[o23 xb hxb1,exb22]
   unfold ixc
   rw[hT,hK,hBm]
 · rintro y (hy|rfl)
   · exact fb y hy
   · exact fx
end Go.Proofs.Tryz
/- Chapter 14's laws: the example at the head. -/
namespace Go.Sh
open Go.Proofs.Tryz
structure FI (G:SP) (c:Nat) (S:SSt):Prop where
 live:∃A,Live G S A
 fine:Fine G S
 ids:(S.ids 0).length≤c
section
variable {G:SP} {w:Nat→UInt64} {X:XP}
theorem FI.le {c c':Nat} {S:SSt} (f:FI G c S) (h:c≤c'):FI G c' S:=⟨f.live,f.fine,Nat.le_trans f.ids h⟩
theorem FI.acc (o:G.Ok) (hL:G.L=1) {a c:Nat} {S:SSt} (p:PI G w a S) (ha:a≤100000) (f:FI G c S) {op:LOp} {x c':Nat} (hx:x<2 ^ G.m) (hc:(meets op (bid x 0) (S.ids 0)).length≤c') (ht:c'≤G.t):FI G c' (stAcc G w op x S).1:=by
 obtain⟨A,Bs,K,n⟩:=f.live
 have hu:=p.us
 have h1:2*G.L*a≤2*4*100000:=Nat.mul_le_mul (by omega) ha
 have h0:(stAcc G w op x S).1.ids 0=meets op (bid x 0) (S.ids 0):=by
   unfold stAcc
   rw[show G.L-1=0 by omega]
   rfl
 obtain⟨Bs',n',_,_,fin⟩:=stAcc_ni o p.us (by omega) p.ai p.gl hx (top_lt o hx) n (.inr fun h hh=>⟨f.fine h hh,by
   have:h=0:=by omega
   subst this
   rw[h0];omega⟩)
 exact⟨⟨_,_,_,n'⟩,fin,by rw[h0];exact hc⟩
theorem FI.look (o:G.Ok) (hL:G.L=1) {a c:Nat} {S:SSt} (p:PI G w a S) (ha:a≤100000) (f:FI G c S) {x:Nat} (hx:x<2 ^ G.m) (ht:c≤G.t):FI G c (stAcc G w .look x S).1:=f.acc o hL p ha hx f.ids ht
theorem FI.drop (o:G.Ok) (hL:G.L=1) {a c:Nat} {S:SSt} (p:PI G w a S) (ha:a≤100000) (f:FI G c S) {x:Nat} (hx:x<2 ^ G.m) (ht:c≤G.t):FI G c (stAcc G w .drop x S).1:=f.acc o hL p ha hx f.ids ht
theorem FI.put (o:G.Ok) (hL:G.L=1) {a c:Nat} {S:SSt} (p:PI G w a S) (ha:a≤100000) (f:FI G c S) {x:Nat} (hx:x<2 ^ G.m) (d:Dat) (ht:c+1≤G.t):FI G (c+1) (stAcc G w (.put d) x S).1 :=
 f.acc o hL p ha hx (by have:=f.ids;simp only[meets];split<;>simp<;>omega) ht
theorem FI.setR (hf:G.f=1) {c i:Nat} {cc:Cel} {S:SSt} (f:FI G c S):FI G c (Go.Sh.setR S (0,i) cc):=⟨f.live.imp fun _ l=>l.setR hf,f.fine,f.ids⟩
theorem FI.blanks (c:CP G X) (hL:G.L=1) {b:Nat} (ht:b≤G.t):∀n a S,PI G w a S→a+n≤100000→FI G b S→FI G b (blanks G w n S)
 | 0,_,_,_,_,f=>f
 | n+1,a,S,p,h,f=>FI.blanks c hL ht n (a+1) _ (p.blank c.o (by omega)) (by omega) (f.look c.o hL p (by omega) (Nat.pow_pos (by decide)) ht)
theorem FI.kick (c:CP G X) (hL:G.L=1):∀n i a b S e on ch,PI G w a S→a+n≤100000→b+n≤G.t→FI G b S→FI G (b+n) (kick G w X n i S e on ch).1
 | 0,_,_,_,_,_,_,_,_,_,_,f=>f
 | n+1,i,a,b,S,e,on,ch,p,h,ht,f=>by
   rw[show b+(n+1)=b+1+n by omega]
   cases on with
   | true =>
     have hb:X.blk (i%2) e.1<2 ^ G.m:=by rw[c.m];exact XP.blk_lt c.xo (Nat.mod_lt _ (by decide)) _
     exact FI.kick c hL n (i+1) (a+1) (b+1) _ _ _ _ (p.acc c.o (by omega) hb) (by omega) (by omega) (f.put c.o hL p (by omega) hb (eDat e) (by omega))
   | false=>exact FI.kick c hL n (i+1) (a+1) (b+1) _ e false ch (p.blank c.o (by omega)) (by omega) (by omega) ((f.look c.o hL p (by omega) (Nat.pow_pos (by decide)) (by omega)).le (by omega))
theorem FI.undo (c:CP G X) (hL:G.L=1):∀(l:List (Nat×Dat)) a b S,PI G w a S→a+l.length≤100000→b+l.length≤G.t→(∀x∈l,x.1<2*X.T)→FI G b S→FI G (b+l.length) (undo G w l S)
 | [],_,_,_,_,_,_,_,f=>f
 | (y,d)::l,a,b,S,p,h,ht,hc,f=>by
   have hl:((y,d)::l).length=l.length+1:=rfl
   rw[hl] at h ht ⊢
   have hy:y<2 ^ G.m:=by rw[c.m];exact hc (y,d) (by simp)
   rw[show b+(l.length+1)=b+1+l.length by omega]
   exact FI.undo c hL l (a+1) (b+1) _ (p.acc c.o (by omega) hy) (by omega) (by omega) (fun x hx=>hc x (by simp[hx])) (f.put c.o hL p (by omega) hy d (by omega))
theorem FI.ins (c:CP G X) (hL:G.L=1) {a b:Nat} {S:SSt} (p:PI G w a S) (ha:a+2*X.K≤100000) (ht:b+2*X.K≤G.t) (f:FI G b S) (key cell:UInt64) (on:Bool):FI G (b+2*X.K) (insS G w X key cell on S).1:=by
 obtain⟨k1,_⟩:=kick_pi c.o c.xo c.m c.f X.K 0 a S (key,cell) on [] p (by omega)
 have fk:=FI.kick c hL X.K 0 a b S (key,cell) on [] p (by omega) (by omega) f
 have hlen:=kick_len (G:=G) (w:=w) (X:=X) X.K 0 S (key,cell) on []
 have hblk:=kick_blk (G:=G) (w:=w) c.xo X.K 0 S (key,cell) on [] (by simp)
 unfold insS
 simp only
 split
 · rename_i hon
   split
   · exact(FI.blanks c hL (by omega) X.K (a+X.K) _ (k1.setR c.f) (by omega) (fk.setR c.f)).le (by omega)
   · have hl:=hlen hon
     rw[List.length_nil,Nat.zero_add] at hl
     have:=FI.undo c hL _ (a+X.K) (b+X.K) _ k1 (by rw[List.length_reverse,hl];omega) (by rw[List.length_reverse,hl];omega) (fun x hx=>hblk x (List.mem_reverse.1 hx)) fk
     rw[List.length_reverse,hl] at this
     exact this.le (by omega)
 · exact(FI.blanks c hL (by omega) X.K (a+X.K) _ k1 (by omega) fk).le (by omega)
theorem FI.find (c:CP G X) (hL:G.L=1) {a b:Nat} {S:SSt} (p:PI G w a S) (ha:a+2≤100000) (ht:b≤G.t) (f:FI G b S) (key:UInt64):FI G b (findS G w X key S).1:=by
 have b0:X.blk 0 key<2 ^ G.m:=by rw[c.m];exact XP.blk_lt c.xo (by decide) _
 have b1:X.blk 1 key<2 ^ G.m:=by rw[c.m];exact XP.blk_lt c.xo (by decide) _
 exact(f.look c.o hL p (by omega) b0 ht).look c.o hL (p.acc c.o (by omega) b0) (by omega) b1 ht
theorem FI.rem (c:CP G X) (hL:G.L=1) {a b:Nat} {S:SSt} (p:PI G w a S) (ha:a+2≤100000) (ht:b≤G.t) (f:FI G b S) (key:UInt64) (t:Int) (at_:UInt64) (on:Bool):FI G b (remS G w X key t at_ on S):=by
 have h:FI G b (if on&&(t==0||t==1) then (stAcc G w .drop (X.blk t.toNat key) S).1 else blankS G w S):=by
   split
   · rename_i h
     have h2:(t==0||t==1)=true:=(Bool.and_eq_true _ _▸h).2
     rw[Bool.or_eq_true,beq_iff_eq,beq_iff_eq] at h2
     exact f.drop c.o hL p (by omega) (by rw[c.m];exact XP.blk_lt c.xo (by omega) _) ht
   · exact f.look c.o hL p (by omega) (Nat.pow_pos (by decide)) ht
 unfold remS
 simp only
 split
 · exact h.setR c.f
 · exact h
theorem IGood.zero (c:CP G X) {S:SSt} (hR:∀r i,S.R r i=cel0):IGood G X S (fun _=>none):=by
 intro _
 refine⟨fun _=>none,⟨_,_,NI.zero hR⟩,⟨fun n hn e he=>?_,fun n n' e e' h1=>?_,fun k v=>?_⟩,fun i _=> .inl (hR 0 i)⟩
 · rw[Hc_tab hn] at he;cases he
 · rcases Hc_at h1 with ⟨_,h⟩|⟨i,_,_,h⟩
   · cases h
   · rw[hR] at h;cases h
 · constructor
   · intro h;cases h
   · rintro⟨n,hn⟩
     rcases Hc_at hn with ⟨_,h⟩|⟨i,_,_,h⟩
     · cases h
     · rw[hR] at h;cases h
end
end Go.Sh
namespace Go.Proofs.Tryz
open Go Go.Sh Go.RowKit
set_option maxRecDepth 8000
theorem law_shown:PureC prog 10 [] (.bool true):=by
 intro h
 refine c10 ?_
 unfold G10
 refine newC fun b1 h1 f1 e1 k1=>?_
 have rw_:RdS vu h1 ⟨some ⟨b1,0⟩,8,8,none⟩ [3,1,4,1,5,9,2,6]:=(OwnS.newE (f:=vu) (h0:=h) (l:=[3,1,4,1,5,9,2,6]) (n:=8) f1 e1 rfl rfl).rd
 refine(law_made (n:=22) (by decide) (by decide) rw_ (by decide)).mono ?_
 rintro _ h2 ⟨B,x,pk,pu,py,rfl,F,R,fB,k2⟩
 have hL:(cG 22).L=1:=rfl
 have ht:(cG 22).t=4:=rfl
 have hK:(xP 22 x).K=2:=rfl
 have hsp:(xP 22 x).sp=2:=rfl
 have ig0:IGood (cG 22) (xP 22 x) S00 (fun _=>none):=IGood.zero F.c fun _ _=>rfl
 have fi0:FI (cG 22) 0 S00:=⟨⟨_,_,_,NI.zero (fun _ _=>rfl)⟩,fun _ _=>rfl,Nat.le_refl _⟩
 generalize hw:(fun p=>List.getD [3,1,4,1,5,9,2,6] p (0:UInt64))=w at *
 generalize hws:([3,1,4,1,5,9,2,6]:List UInt64)=ws at *
 subst hw
 generalize cG 22=G at *
 generalize xP 22 x=X at *
 have K12:=k1.trans k2
 have fB':∀y,SFo G B nilS nilS y→h y=none:=fun y hy=>k1.free (fB y (.inl hy))
 refine⟨some _,some _,some _,some _,some _,some _,_,rfl,newC fun b2 h3 f3 e3 k3=>?_⟩
 have K3:=K12.trans k3
 refine stW K3 (K12.free f3) e3 rfl fun h4 k4 e4 o4=>ifB_neg rfl ⟨some ⟨x.xb,0⟩,rd1 e4 rfl,?_⟩
 have R4:=R.loc F f3 k3 o4
 have nb2:¬SFo G B nilS nilS b2:=R.r.out F.c.o f3
 refine(cuk_insert F R4 (by omega) (by omega) 5 1 true).mono ?_
 rintro _ h5 ⟨ev5,es5,gs5,rfl,R5,v5⟩
 obtain⟨ig5,iq5⟩:=ig_ins (key:=5) (cell:=1) (on:=true) F.c R4.p (by omega) ig0 (fun _=>rfl)
 have fi5:=FI.ins F.c hL R4.p (by omega) (by omega) fi0 5 1 true
 rw[Nat.zero_add,hK] at fi5
 have e5:=v5.get e4 nb2
 have n5:=v5.out (by rw[e4];simp) nb2
 have hd:(insS G (fun p=>ws.getD p 0) X 5 1 true S00).2=true:=by
   cases hc:(insS G (fun p=>ws.getD p 0) X 5 1 true S00).2 with
   | true=>rfl
   | false =>
     have:=sfirst_none ((iq5 fi5.fine).2 hc) 0 (by omega)
     cases this
 rw[hd] at ig5 ⊢
 obtain⟨K5,F5⟩:=v5.keep k4 fB'
 generalize (insS G (fun p=>ws.getD p 0) X 5 1 true S00).1=S5 at *
 have ig5:IGood G X S5 (fun y=>if y=5 then some 1 else none):=ig5
 refine⟨_,rfl,some ⟨x.xb,0⟩,rd1 e5 rfl,(cuk_find F R5 (by omega) (by omega) 5).mono ?_⟩
 rintro _ h6 ⟨ev6,es6,gs6,rfl,R6,v6⟩
 have fi6:=FI.find F.c hL R5.p (by omega) (by omega) fi5 5
 obtain⟨_,iq6⟩:=ig_find F.c R5.p (by omega) ig5 (key:=5) (by decide)
 have ig7:=ig_rem F.c R5.p (by omega) ig5 (key:=5) (by decide) true
 obtain⟨K6,F6⟩:=v6.keep K5 F5
 have e6:=v6.get e5 n5
 have n6:=v6.out (by rw[e5];simp) n5
 have hs6:∃t at_,(findS G (fun p=>ws.getD p 0) X 5 S5).2=(t,at_,1)∧0≤t:=by
   rcases iq6 fi6.fine with ⟨v,t,at_,h1,h2,h3⟩|⟨h1,_⟩
   · rw[if_pos rfl] at h1;cases h1;exact⟨t,at_,h2,h3⟩
   · rw[if_pos rfl] at h1;cases h1
 obtain⟨t,at_,hs,ht0⟩:=hs6
 rw[hs] at ig7 ⊢
 have p6:=R6.p
 generalize (findS G (fun p=>ws.getD p 0) X 5 S5).1=S6 at *
 refine⟨_,_,_,rfl,newC fun b3 h7 f7 e7 k7=>?_⟩
 refine stW (K6.trans k7) (K6.free f7) e7 rfl fun h8 k8 e8 o8=>?_
 have R8:=R6.loc F f7 k7 o8
 have d23:b2≠b3:=fun e=>by rw[←e,e6] at f7;cases f7
 have e28:h8 b2=_:=(o8 b2 d23).trans (k7.get e6)
 have nb3:¬SFo G B es6 gs6 b3:=R6.r.out F.c.o f7
 refine⟨some ⟨x.xb,0⟩,rd1 e28 rfl,_,rd1 e8 rfl,_,rd1 e8 rfl,_,rd1 e8 rfl,(cuk_remove F R8 (by omega) (by omega) 5 t at_ 1 true).mono ?_⟩
 rintro _ h9 ⟨ev9,es9,gs9,rfl,R9,v9⟩
 have fi9:=FI.rem F.c hL R8.p (by omega) (by omega) fi6 5 t at_ true
 obtain⟨K9,F9⟩:=v9.keep k8 F6
 have e29:=v9.get e28 n6
 have n29:=v9.out (by rw[e28];simp) n6
 have e39:=v9.get e8 nb3
 have n39:=v9.out (by rw[e8];simp) nb3
 generalize remS G (fun p=>ws.getD p 0) X 5 t at_ true S6=S9 at *
 refine⟨rfl,some ⟨x.xb,0⟩,rd1 e29 rfl,(cuk_find F R9 (by omega) (by omega) 5).mono ?_⟩
 rintro _ h10 ⟨ev10,es10,gs10,rfl,R10,v10⟩
 have fi10:=FI.find F.c hL R9.p (by omega) (by omega) fi9 5
 obtain⟨_,iq10⟩:=ig_find F.c R9.p (by omega) ig7 (key:=5) (by decide)
 obtain⟨K10,_⟩:=v10.keep K9 F9
 have hs10:(findS G (fun p=>ws.getD p 0) X 5 S9).2=(-1,0,0):=by
   rcases iq10 fi10.fine with ⟨v,t,at_,h1,_⟩|⟨_,h2⟩
   · have h1:(if (5:UInt64)=5 then none else if (5:UInt64)=5 then some (1:UInt64) else none)=some v:=h1
     rw[if_pos rfl] at h1;cases h1
   · exact h2
 rw[hs10]
 have e310:=v10.get e39 n39
 refine⟨_,_,_,rfl,newC fun b4 h11 f11 e11 k11=>?_⟩
 refine stW (K10.trans k11) (K10.free f11) e11 rfl fun h12 k12 e12 o12=>?_
 have e312:h12 b3=_:=(o12 b3 fun e=>by rw[←e,e310] at f11;cases f11).trans (k11.get e310)
 exact ifB_pos rfl ⟨_,rd1 e312 rfl,ifB_pos rfl ⟨_,rd1 e312 rfl,ifB_pos (decide_eq_true ht0) ⟨_,rd1 e12 rfl,rfl,k12⟩⟩⟩
end Go.Proofs.Tryz
/- Chapter 14's laws: steps as arguments; how many keys there are. -/
namespace Go.Sh
open Go Go.RowKit Go.ChangeShapes Go.WideShapes Go.ChangeAt
structure StepC where
 op:Int
 key:UInt64
 cell:UInt64
 on:Bool
 lo: -9223372036854775808≤op
 hi:op≤9223372036854775807
def stepc (x:StepC):List Value:=[.int .i64 x.op,vu x.key,vu x.cell,.bool x.on]
section
variable {H:Type} {enc:TypeId×Value→H} {P:Program} {W:World} {base:Nat}
end
def keysL (M:UInt64→Option UInt64) (i:Nat):List Nat:=(List.range i).filter fun j=>(M (UInt64.ofNat j)).isSome
theorem ofNat_ne {i j:Nat} (hi:i<1000) (hj:j<1000) (h:i≠j):UInt64.ofNat i≠UInt64.ofNat j:=fun e=>h (ofNat_inj (by omega) (by omega) e)
end Go.Sh

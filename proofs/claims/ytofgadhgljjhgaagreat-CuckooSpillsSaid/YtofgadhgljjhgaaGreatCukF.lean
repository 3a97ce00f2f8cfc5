/- A cuckoo index in the heap: what its functions come to. -/
import Derived.Test.YtofgadhgljjhgaaGreatCuk
import Derived.Test.YtofgadhgljjhgaaGreatLevG
import Derived.Test.YtofgadhgljjhgaaGreatStoL
import Derived.Test.YtofgadhgljjhgaaGreatLawR
import Derived.Test.YtofgadhgljjhgaaGreatRd
namespace Go.Sh
def mixW (n:UInt64):UInt64:=(n ^^^ ushr n (UInt64.toNat 29))*11400714819323198485 ^^^ ushr ((n ^^^ ushr n (UInt64.toNat 29))*11400714819323198485) (UInt64.toNat 32)
noncomputable def plN (a b c d:UInt64) (T:Nat) (t:Nat) (key:UInt64):Nat:=(mixW (key*(ushl (if t=0 then a else c) (UInt64.toNat 1) ||| 1)+(if t=0 then b else d)) &&& toU (w64 ((T:Int)-1))).toNat
end Go.Sh
namespace Go.Proofs.Tryz
open Go Go.Sh Go.RowKit
set_option maxRecDepth 8000
theorem plN_lt {a b c d:UInt64} {T t:Nat} {key:UInt64} (h1:1≤T) (h2:T≤1000):plN a b c d T t key<T:=by
 unfold plN
 rw[UInt64.toNat_and,w64_id (by omega) (by omega),show(T:Int)-1=((T-1:Nat):Int) by omega,toU_eq (by omega),UInt64.toNat_ofNat']
 refine Nat.lt_of_le_of_lt Nat.and_le_right ?_
 omega
theorem and_pow {k:Nat} (hk:k≤3):w64 (ibit BinOp.and IntKind.i64 ((2 ^ k:Nat):Int) (w64 (((2 ^ k:Nat):Int)-1)))=0:=by
 have hp1:1≤2 ^ k:=Nat.one_le_two_pow
 have hp2:2 ^ k≤2 ^ 3:=Nat.pow_le_pow_right (by decide) hk
 rw[w64_id (n:=((2 ^ k:Nat):Int)-1) (by omega) (by omega)]
 have h0:ibit BinOp.and IntKind.i64 ((2 ^ k:Nat):Int) (((2 ^ k:Nat):Int)-1)=0:=by
   have:k=0∨k=1∨k=2∨k=3:=by omega
   rcases this with rfl|rfl|rfl|rfl<;>decide
 rw[h0]
 exact w64_id (by decide) (by decide)
theorem hash_at {k:Nat} (hk:k≤3) (a b c d:UInt64) {t:Nat} (ht:t<2) (key:UInt64):PureC prog 90 [.agg #[vu a,vu b,vu c,vu d],.int .i64 t,vu key,.int .i64 ((2 ^ k:Nat):Int)] (.int .i64 (plN a b c d (2 ^ k) t key:Nat)):=by
 intro h
 have hp1:1≤2 ^ k:=Nat.one_le_two_pow
 have hp2:2 ^ k≤2 ^ 3:=Nat.pow_le_pow_right (by decide) hk
 have hpl:=plN_lt (a:=a) (b:=b) (c:=c) (d:=d) (t:=t) (key:=key) hp1 (by omega)
 refine c90 _ _ _ _ _ _ _ ?_
 unfold G90
 refine newC fun b1 h1 f1 e1 k1=>newC fun b2 h2 f2 e2 k2=>newC fun b3 h3 f3 e3 k3=>?_
 have e13:=k3.get (k2.get e1)
 have e23:=k3.get e2
 refine⟨_,rd1 e3 rfl,ifB_neg (decide_eq_false (by omega)) ⟨_,rd1 e3 rfl,ifB_neg (show decide ((1024:Int)<((2 ^ k:Nat):Int))=false from decide_eq_false (by omega)) ⟨_,rd1 e3 rfl,_,rd1 e3 rfl,ifB_neg ?_ ?_⟩⟩⟩
 · show decide (0<w64 (ibit BinOp.and IntKind.i64 ((2 ^ k:Nat):Int) (w64 (((2 ^ k:Nat):Int)-1))))=false
   rw[and_pow hk];rfl
 have at1:∀x y:UInt64,callK prog 119 [vu x,vu y,vp ⟨b2,0⟩,vp ⟨b3,0⟩] h3 fun v g=>v= .int .i64 (w64 ((mixW (key*(ushl x (UInt64.toNat 1) ||| 1)+y) &&& toU (w64 (((2 ^ k:Nat):Int)-1))).toNat:Int))∧g=h3:=fun x y=>by
   refine c119 _ _ _ _ ?_
   unfold G119
   refine⟨_,rd1 e23 rfl,_,rd1 e3 rfl,?_⟩
   refine c120 _ ?_
   unfold G120
   exact⟨_,rfl,⟨rd1 e3 rfl,trivial⟩,rfl,rfl⟩
 have hk0:Keep h h3:=(k1.trans k2).trans k3
 have:t=0∨t=1:=by omega
 rcases this with rfl|rfl
 · refine ifB_pos rfl ⟨_,rd1 e13 rfl,_,rd1 e13 rfl,(at1 a b).mono ?_⟩
   rintro _ _ ⟨rfl,rfl⟩
   refine⟨_,rfl,?_,hk0⟩
   rw[w64_id (by omega) (by have:plN a b c d (2 ^ k) 0 key<2 ^ k:=hpl;unfold plN at this;rw[if_pos rfl,if_pos rfl] at this;omega)]
   rfl
 · refine ifB_neg rfl (ifB_pos rfl ⟨_,rd1 e13 rfl,_,rd1 e13 rfl,(at1 c d).mono ?_⟩)
   rintro _ _ ⟨rfl,rfl⟩
   refine⟨_,rfl,?_,hk0⟩
   rw[w64_id (by omega) (by have:plN a b c d (2 ^ k) 1 key<2 ^ k:=hpl;unfold plN at this;rw[if_neg (by decide),if_neg (by decide)] at this;omega)]
   rfl
theorem cuk_read (d:Dat):PureC prog 45 [wv d] (.tuple #[.agg #[vu (rEnt d).1,vu (rEnt d).2],.bool (decide (d[0]=1))]):=by
 intro h
 refine c45 _ ?_
 unfold G45
 refine newC fun b1 h1 f1 e1 k1=>newC fun b2 h2 f2 e2 k2=>?_
 have e12:=k2.get e1
 have n21:b1≠b2:=fun e=>by rw[←e,e1] at f2;cases f2
 refine⟨Int.NonNeg.mk _,Int.NonNeg.mk _,_,wb_get e12 (i:=1) (by decide),Int.NonNeg.mk _,Int.NonNeg.mk _,_,wb_get e12 (i:=2) (by decide),Int.NonNeg.mk _,Int.NonNeg.mk _,_,wb_get e12 (i:=0) (by decide),?_⟩
 refine stW (k1.trans k2) (k1.free f2) e2 rfl fun h3 k3 e3 o3=>⟨⟨?_,trivial⟩,_,rd1 e3 rfl,_,rd1 e3 rfl,rfl,k3⟩
 exact wb_get ((o3 b1 n21).trans e12) (i:=0) (by decide)
theorem cuk_data (e:KC):PureC prog 51 [.agg #[vu e.1,vu e.2]] (wv (eDat e)):=by
 intro h
 refine c51 _ _ ?_
 unfold G51
 refine newC fun b1 h1 f1 e1 k1=>newC fun b2 h2 f2 e2 k2=>?_
 have e12:=k2.get e1
 refine⟨_,rd1 e12 rfl,_,rd1 e12 rfl,stW (k1.trans k2) (k1.free f2) e2 rfl fun h3 k3 e3 _=>⟨eDat e,?_,rfl,k3⟩⟩
 have:h3 b2=some (.cells (SV.cells (.ws 8 (eDat e))).toArray 100 (0,0)):=by rw[e3];rfl
 exact wb_rd this
theorem scan_match (c:Cel) {k:Nat} (hk:k<12) (n:UInt64):PureC prog 61 [wv c,.int .i64 k,vu n] (vu (mask (c[k]==n))):=by
 intro h
 refine c61 _ _ _ ?_
 unfold G61
 refine newC fun b1 h1 f1 e1 k1=>ifB_neg (decide_eq_false (by omega)) (ifB_neg (show decide ((12:Int)≤(k:Int))=false from decide_eq_false (by omega)) ⟨by omega,by omega,c[k],?_,?_⟩)
 · rw[show 0+Int.toNat (k:Int)*1=k by simp];exact wb_get e1 hk
 · exact(word_equal _ _).to fun g k2=>⟨_,rfl,rfl,k1.trans k2⟩
theorem mask_andn (c d:Bool):mask c &&& ~~~(mask d)=mask (c&&!d):=by cases c<;>cases d<;>decide
theorem mask_or (c d:Bool):mask c ||| mask d=mask (c||d):=by cases c<;>cases d<;>decide
theorem sfirst_succ (p:Nat→Bool) (m:Nat):sfirst p (m+1)=match sfirst p m with|some i=>some i|none=>if p m then some m else none:=rfl
def fPl (o:Option Nat):UInt64:=match o with|some i=>UInt64.ofNat i|none=>0
def fCe (f:Nat→Cel) (o:Option Nat):Cel:=match o with|some i=>f i|none=>cel0
section
variable {T:TypeId} {m:MS} {R:Regs} {ev:List Ev} {es:Sl} {h:Hp}
theorem scan_find (M:MemR T m R ev es h) {r:Nat} (hr:r<m.nr) {key:Nat} (hk:key<12) (n:UInt64) (hl:ev.length<4000000000000) :
   callK prog 47 [vp ⟨m.b,0⟩,.int .i64 r,.int .i64 key,vu n] h fun v h'=>∃es',v= .tuple #[vu (fPl (sfirst (fun i=>(R r i)[key]==n) (m.rn r))),wv (fCe (R r) (sfirst (fun i=>(R r i)[key]==n) (m.rn r))),vu (mask (sfirst (fun i=>(R r i)[key]==n) (m.rn r)).isSome)]∧MemR T m R (ev++reads r (m.rn r)) es' h'∧Mv (MF m es) h (MF m es') h':=by
 have hrn:=M.rn r hr
 refine c47 _ _ _ _ ?_
 unfold G47
 refine newC fun b1 h1 f1 e1 k1=>?_
 have M2:=M.keep k1
 refine(mem_size M2 hr).mono ?_
 rintro _ h2 ⟨rfl,rfl⟩
 generalize hp:(fun i=>(R r i)[key]==n)=p at *
 refine⟨_,rfl,fun q1 n2 n3 x1 x2 q2 x3 n4 n5 g k=>q1=⟨m.b,0⟩∧n2=r∧n3=key∧n=x1∧q2=⟨b1,0⟩∧n4=(m.rn r:Nat)∧∃i es',n5=(i:Nat)∧i≤m.rn r∧k=m.rn r-i∧x2=fPl (sfirst p i)∧x3=mask (sfirst p i).isSome∧MemR T m R (ev++reads r i) es' g∧Mv (MF m es) h (MF m es') g∧¬MF m es' b1 ∧
     g b1=some (.cells (SV.cells (.ws 12 (fCe (R r) (sfirst p i)))).toArray 56 (0,0)),
   ⟨m.rn r,rfl,rfl,rfl,rfl,rfl,rfl,0,es,rfl,by omega,rfl,rfl,rfl,by simpa [reads] using M2,mvK k1 _,M.out f1,e1⟩,?_⟩
 rintro q1 n2 n3 x1 x2 q2 x3 n4 n5 g k ⟨rfl,rfl,rfl,rfl,rfl,rfl,i,es',rfl,hi,rfl,rfl,rfl,Mg,vg,nb1,g1⟩
 have hrl:=reads_length r i
 refine ifD (fun hlt=>?_) fun hge=>?_
 · have hi':i<m.rn r:=by omega
   refine(mem_read Mg hr hi' (by rw[List.length_append,hrl];omega)).mono ?_
   rintro _ g3 ⟨es3,rfl,M3,v3⟩
   have v03:=vg.trans v3
   have g13:=v3.get g1 nb1
   have nb13:=v3.out (by rw[g1];simp) nb1
   refine⟨_,rfl,newC fun b2 g4 f4 e4 k4=>?_⟩
   have hb2:h b2=none:=(v03.2.2 b2 f4)
   have n12:b1≠b2:=fun e=>by rw[←e,g13] at f4;cases f4
   refine wbMW (n:=12) (v03.more k4) hb2 e4 rfl fun g5 v5 e5 o5=>⟨_,wb_rd e5,?_⟩
   have M5:MemR T m R (ev++reads r i++[⟨r,i,false⟩]) es3 g5:=(M3.keep k4).move fun y hy=>o5 y fun e=>M3.out f4 (e▸hy)
   have g15:g5 b1=_:=(o5 b1 n12).trans (k4.get g13)
   refine(scan_match _ hk n).to fun g6 k6=>⟨_,rfl,?_⟩
   have hpi:((R r i)[key]==n)=p i:=by rw[←hp]
   rw[hpi,mask_andn]
   refine(word_pick _ _ _).to fun g7 k7=>⟨_,rfl,_,wb_rd (k7.get (k6.get e5)),_,wb_rd (k7.get (k6.get g15)),?_⟩
   refine(word_pickCell _ _ _).to fun g8 k8=>⟨_,rfl,?_⟩
   have k68:=(k6.trans k7).trans k8
   refine wbMW (n:=12) (v5.more k68) f1 (k68.get g15) (by simp[SV.cells]) fun g9 v9 e9 o9=>⟨m.rn r-(i+1),by omega,rfl,rfl,rfl,rfl,rfl,rfl,i+1,es3,w64_id (by omega) (by omega),by omega,rfl,?_,?_,?_,v9,nb13,?_⟩
   · rw[toU_eq (by omega),sfirst_succ]
     cases sfirst p i with
     | some j=>simp[fPl]
     | none=>cases p i<;>simp[fPl]
   · rw[mask_or,sfirst_succ]
     cases sfirst p i with
     | some j=>simp
     | none=>cases p i<;>simp
   · rw[reads_succ,←List.append_assoc]
     exact(M5.keep k68).move fun y hy=>o9 y fun e=>nb13 (e▸hy)
   · rw[e9,sfirst_succ]
     cases sfirst p i with
     | some j=>simp[fCe]
     | none=>cases p i<;>simp[fCe]
 · have:i=m.rn r:=by omega
   subst this
   refine⟨_,wb_rd g1,wbMW (n:=12) vg f1 g1 (by simp[SV.cells]) fun g5 v5 e5 o5=>⟨_,wb_rd e5,es',rfl,Mg.move fun y hy=>o5 y fun e=>nb1 (e▸hy),v5⟩⟩
def cntS (p:Nat→Bool):Nat→Nat
 | 0=>0
 | m+1=>cntS p m+if p m then 1 else 0
theorem cntS_le (p:Nat→Bool):∀m,cntS p m≤m
 | 0=>Nat.le_refl _
 | m+1=>by have:=cntS_le p m;unfold cntS;split<;>omega
theorem cntS_none {p:Nat→Bool}:∀ {m},sfirst p m=none→cntS p m=0
 | 0,_=>rfl
 | m+1,h=>by
   have h2:=sfirst_none h
   have h1:sfirst p m=none:=by
     cases e:sfirst p m with
     | none=>rfl
     | some i=>rw[sfirst_succ,e] at h;cases h
   unfold cntS;rw[cntS_none h1,h2 m (by omega)];rfl
theorem scan_count (M:MemR T m R ev es h) {r:Nat} (hr:r<m.nr) {key:Nat} (hk:key<12) (n:UInt64) (hl:ev.length<4000000000000) :
   callK prog 25 [vp ⟨m.b,0⟩,.int .i64 r,.int .i64 key,vu n] h fun v h'=>∃es',v= .int .i64 (cntS (fun i=>(R r i)[key]==n) (m.rn r):Nat)∧MemR T m R (ev++reads r (m.rn r)) es' h'∧Mv (MF m es) h (MF m es') h':=by
 have hrn:=M.rn r hr
 refine c25 _ _ _ _ ?_
 unfold G25
 refine(mem_size M hr).mono ?_
 rintro _ h2 ⟨rfl,rfl⟩
 generalize hp:(fun i=>(R r i)[key]==n)=p at *
 refine⟨_,rfl,fun q1 n2 n3 x1 x2 n4 n5 g k=>q1=⟨m.b,0⟩∧n2=r∧n3=key∧n=x1∧n4=(m.rn r:Nat)∧∃i es',n5=(i:Nat)∧i≤m.rn r∧k=m.rn r-i∧x2=UInt64.ofNat (cntS p i)∧MemR T m R (ev++reads r i) es' g∧Mv (MF m es) h2 (MF m es') g,
   ⟨m.rn r,rfl,rfl,rfl,rfl,rfl,0,es,rfl,by omega,rfl,rfl,by simpa [reads] using M,Mv.refl _ _⟩,?_⟩
 rintro q1 n2 n3 x1 x2 n4 n5 g k ⟨rfl,rfl,rfl,rfl,rfl,i,es',rfl,hi,rfl,rfl,Mg,vg⟩
 have hrl:=reads_length r i
 have hc:=cntS_le p i
 refine ifD (fun hlt=>?_) fun hge=>?_
 · have hi':i<m.rn r:=by omega
   refine(mem_read Mg hr hi' (by rw[List.length_append,hrl];omega)).mono ?_
   rintro _ g3 ⟨es3,rfl,M3,v3⟩
   refine⟨_,rfl,(scan_match _ hk n).to fun g6 k6=>⟨_,rfl,m.rn r-(i+1),by omega,rfl,rfl,rfl,rfl,rfl,i+1,es3,w64_id (by omega) (by omega),by omega,rfl,?_,?_,(vg.trans v3).more k6⟩⟩
   · have hpi:((R r i)[key]==n)=p i:=by rw[←hp]
     rw[hpi]
     apply UInt64.toNat_inj.1
     rw[UInt64.toNat_add,UInt64.toNat_ofNat',UInt64.toNat_ofNat']
     rw[show cntS p (i+1)=cntS p i+if p i then 1 else 0 from rfl]
     cases p i
     · show(cntS p i%2 ^ 64+0)%2 ^ 64=_
       simp
     · show(cntS p i%2 ^ 64+1)%2 ^ 64=_
       simp
   · rw[reads_succ,←List.append_assoc];exact M3.keep k6
 · have:i=m.rn r:=by omega
   subst this
   refine⟨es',?_,Mg,vg⟩
   rw[UInt64.toNat_ofNat',w64_id (by omega) (by omega)]
   congr 1;omega
end
end Go.Proofs.Tryz
/- A cuckoo index in the heap: a search, a removal. -/
namespace Go.Sh
open Go Go.RowKit
structure IxS where
 xb:Nat
 a:UInt64
 b:UInt64
 c:UInt64
 d:UInt64
end Go.Sh
namespace Go.Proofs.Tryz
open Go Go.Sh Go.RowKit
set_option maxRecDepth 8000
def ixc (B:StB) (X:XP) (x:IxS):Array Value:=#[vp ⟨B.sb,0⟩,vp ⟨B.m.b,0⟩,.int .i64 0,.int .i64 X.T,.int .i64 X.K,vu x.a,vu x.b,vu x.c,vu x.d]
structure IFix (G:SP) (B:StB) (X:XP) (x:IxS):Prop where
 c:CP G X
 st:StM G B
 k:∃k,k≤3∧X.T=2 ^ k
 pl:∀t key,X.pl t key=plN x.a x.b x.c x.d X.T t key
 nr:0<B.m.nr
 rn:B.m.rn 0=X.sp
 K:X.K≤16
structure IRun (G:SP) (ws:List UInt64) (B:StB) (X:XP) (x:IxS) (a e:Nat) (S:SSt) (ev:List Ev) (es gs:Sl) (h:Hp):Prop where
 r:StR G ws B S ev es gs h
 p:PI G (fun p=>ws.getD p 0) a S
 el:ev.length≤5000000*e
 ix:h x.xb=some (.cells (ixc B X x) 103 (0,0))
 nx:¬SFo G B es gs x.xb
section
variable {G:SP} {ws:List UInt64} {B:StB} {X:XP} {x:IxS} {a e:Nat} {S:SSt} {ev:List Ev} {es gs:Sl} {h:Hp}
theorem IRun.same (R:IRun G ws B X x a e S ev es gs h) {h':Hp} (hs:∀y,SFo G B es gs y∨y=x.xb→h' y=h y):IRun G ws B X x a e S ev es gs h' :=
 ⟨R.r.same fun y hy=>hs y (.inl hy),R.p,R.el,(hs _ (.inr rfl)).trans R.ix,R.nx⟩
theorem IRun.dom (R:IRun G ws B X x a e S ev es gs h) (F:IFix G B X x) {y:Nat} (hy:SFo G B es gs y∨y=x.xb):h y≠none:=by
 rcases hy with hy|rfl
 · exact R.r.fdom F.c.o hy
 · rw[R.ix];simp
theorem IRun.keep (R:IRun G ws B X x a e S ev es gs h) (F:IFix G B X x) {h':Hp} (k:Keep h h'):IRun G ws B X x a e S ev es gs h':=R.same fun y hy=>k y (R.dom F hy)
theorem IRun.loc (R:IRun G ws B X x a e S ev es gs h) (F:IFix G B X x) {b:Nat} {h1 h2:Hp} (f:h b=none) (k:Keep h h1) (o5:∀y,y≠b→h2 y=h1 y):IRun G ws B X x a e S ev es gs h2 :=
 R.same fun y hy=>by rw[o5 y fun e=>R.dom F hy (e▸f),k y (R.dom F hy)]
theorem IRun.le (R:IRun G ws B X x a e S ev es gs h) {e':Nat} (he:e≤e'):IRun G ws B X x a e' S ev es gs h:=⟨R.r,R.p,by have:=R.el;omega,R.ix,R.nx⟩
theorem irun_access (F:IFix G B X x) (R:IRun G ws B X x a e S ev es gs h) (ha:a≤10000) (he:e≤10000) {op:LOp} {k:Int} {d:Dat} (hop:opIs op k 0 d) (hk:k=0∨k=1∨k=3) {y:Nat} (hy:y<2*X.T) :
   callK prog 43 [vp ⟨B.sb,0⟩,.int .i64 k,vu (UInt64.ofNat y),wv d] h fun r h'=>∃ev' es' gs',r= .tuple #[wv (stAcc G (fun p=>ws.getD p 0) op y S).2.1,.bool (stAcc G (fun p=>ws.getD p 0) op y S).2.2]∧IRun G ws B X x (a+1) (e+1) (stAcc G (fun p=>ws.getD p 0) op y S).1 ev' es' gs' h'∧Mv (SFo G B es gs) h (SFo G B es' gs') h':=by
 have o:=F.c.o
 have hL:=o.L
 have h1:2*G.L*a≤2*4*10000:=Nat.mul_le_mul (by omega) ha
 have h2:G.L*a≤4*10000:=Nat.mul_le_mul (by omega) ha
 have hu:=R.p.us
 have hg:=R.p.gl
 have hel:=R.el
 have hx:y<2 ^ G.m:=by rw[F.c.m];exact hy
 refine(store_Access o F.st R.r hop hk hx R.p.ai R.p.us R.p.gl (by omega) (by omega) (by omega)).mono ?_
 rintro _ g ⟨ev',es',gs',rfl,R',V',he'⟩
 refine⟨ev',es',gs',rfl,⟨R',R.p.acc o (by omega) hx,?_,V'.get R.ix R.nx,V'.out (by rw[R.ix];simp) R.nx⟩,V'⟩
 have hl:=accEv_length o.st (G.f:Int) (((stAcc G (fun p=>ws.getD p 0) op y S).1.gone.drop S.gone.length).map fun y=>(y.1:Int))
 rw[he',List.length_append];omega
theorem irun_put (F:IFix G B X x) (R:IRun G ws B X x a e S ev es gs h) (he:e≤10000) (at_:UInt64) (c:Cel) (d:Bool) :
   callK prog 52 [vp ⟨B.m.b,0⟩,.int .i64 0,vu at_,wv c,vu (mask d)] h fun v h'=>∃ev' es',v= .tuple #[]∧IRun G ws B X x a (e+1) (if at_.toNat<X.sp∧d=true then setR S (0,at_.toNat) c else S) ev' es' gs h'∧Mv (SFo G B es gs) h (SFo G B es' gs) h':=by
 have hel:=R.el
 have hsp:=F.c.sp
 refine(scan_put R.r.mem F.nr at_ c d (by omega)).mono ?_
 rintro _ g ⟨es',rfl,M,v⟩
 obtain⟨R2,V2⟩:=R.r.memo F.c.o M v
 rw[F.rn] at R2
 have hwl:=writes_length 0 (B.m.rn 0)
 refine⟨ev++writes ((0:Nat):Int) X.sp,es',rfl,⟨?_,?_,?_,V2.get R.ix R.nx,V2.out (by rw[R.ix];simp) R.nx⟩,V2⟩
 · by_cases c1:at_.toNat<X.sp∧d=true
   · rw[if_pos c1] at R2 ⊢;exact R2
   · rw[if_neg c1] at R2 ⊢;exact R2
 · by_cases c1:at_.toNat<X.sp∧d=true
   · rw[if_pos c1];exact R.p.setR F.c.f
   · rw[if_neg c1];exact R.p
 · rw[List.length_append]
   rw[F.rn] at hwl
   have:(writes (0:Nat) X.sp).length=2*X.sp:=by simpa using hwl
   have h0:(writes ((0:Nat):Int) X.sp).length=2*X.sp:=this
   omega
theorem irun_find (F:IFix G B X x) (R:IRun G ws B X x a e S ev es gs h) (he:e≤10000) {key:Nat} (hk:key<12) (n:UInt64) :
   callK prog 47 [vp ⟨B.m.b,0⟩,.int .i64 0,.int .i64 key,vu n] h fun v h'=>∃ev' es',v= .tuple #[vu (fPl (sfirst (fun i=>(S.R 0 i)[key]==n) X.sp)),wv (fCe (S.R 0) (sfirst (fun i=>(S.R 0 i)[key]==n) X.sp)),vu (mask (sfirst (fun i=>(S.R 0 i)[key]==n) X.sp).isSome)]∧IRun G ws B X x a (e+1) S ev' es' gs h'∧Mv (SFo G B es gs) h (SFo G B es' gs) h':=by
 have hel:=R.el
 have hsp:=F.c.sp
 refine(scan_find R.r.mem F.nr hk n (by omega)).mono ?_
 rintro _ g ⟨es',rfl,M,v⟩
 obtain⟨R2,V2⟩:=R.r.memo F.c.o M v
 have hrl:=reads_length 0 (B.m.rn 0)
 rw[F.rn]
 refine⟨_,es',rfl,⟨R2,R.p,?_,V2.get R.ix R.nx,V2.out (by rw[R.ix];simp) R.nx⟩,V2⟩
 rw[List.length_append]
 rw[F.rn] at hrl ⊢
 have h0:(reads ((0:Nat):Int) X.sp).length=X.sp:=by simpa using hrl
 omega
theorem irun_count (F:IFix G B X x) (R:IRun G ws B X x a e S ev es gs h) (he:e≤10000) {key:Nat} (hk:key<12) (n:UInt64) :
   callK prog 25 [vp ⟨B.m.b,0⟩,.int .i64 0,.int .i64 key,vu n] h fun v h'=>∃ev' es',v= .int .i64 (cntS (fun i=>(S.R 0 i)[key]==n) X.sp:Nat)∧IRun G ws B X x a (e+1) S ev' es' gs h'∧Mv (SFo G B es gs) h (SFo G B es' gs) h':=by
 have hel:=R.el
 have hsp:=F.c.sp
 refine(scan_count R.r.mem F.nr hk n (by omega)).mono ?_
 rintro _ g ⟨es',rfl,M,v⟩
 obtain⟨R2,V2⟩:=R.r.memo F.c.o M v
 have hrl:=reads_length 0 (B.m.rn 0)
 rw[F.rn]
 refine⟨_,es',rfl,⟨R2,R.p,?_,V2.get R.ix R.nx,V2.out (by rw[R.ix];simp) R.nx⟩,V2⟩
 rw[List.length_append]
 rw[F.rn] at hrl ⊢
 have h0:(reads ((0:Nat):Int) X.sp).length=X.sp:=by simpa using hrl
 omega
theorem cuk_place (F:IFix G B X x) (ix:h x.xb=some (.cells (ixc B X x) 103 (0,0))) {t:Nat} (ht:t<2) (key:UInt64):callK prog 46 [vp ⟨x.xb,0⟩,.int .i64 t,vu key] h fun v h'=>v=vu (UInt64.ofNat (X.pl t key))∧Keep h h':=by
 obtain⟨k,hk,hT⟩:=F.k
 refine c46 _ _ _ ?_
 unfold G46
 refine⟨_,rd1 ix rfl,_,rd1 ix rfl,_,rd1 ix rfl,_,rd1 ix rfl,_,rd1 ix rfl,?_⟩
 have hc:=hash_at hk x.a x.b x.c x.d ht key
 rw[←hT] at hc
 refine hc.to fun g k1=>⟨_,rfl,?_,k1⟩
 have hlt:=F.c.xo.pl t key
 have hTm:=F.c.T
 rw[F.pl] at hlt ⊢
 rw[toU_eq (by omega)]
theorem cuk_block (F:IFix G B X x) (ix:h x.xb=some (.cells (ixc B X x) 103 (0,0))) {t:Nat} (ht:t<2) (key:UInt64):callK prog 44 [vp ⟨x.xb,0⟩,.int .i64 t,vu key] h fun v h'=>v=vu (UInt64.ofNat (X.blk t key))∧Keep h h':=by
 refine c44 _ _ _ ?_
 unfold G44
 refine⟨_,rd1 ix rfl,(cuk_place F ix ht key).mono ?_⟩
 rintro _ g ⟨rfl,k1⟩
 refine⟨_,rfl,⟨rd1 (k1.get ix) rfl,trivial⟩,?_,k1⟩
 have hT:=F.c.T
 have hlt:=F.c.xo.pl t key
 have hm:(t:Int)*(X.T:Int)=((t*X.T:Nat):Int):=by rw[Int.natCast_mul]
 have h1:t*X.T≤1*1000:=Nat.mul_le_mul (by omega) hT
 show vu (toU (w64 ((t:Int)*(X.T:Int)))+UInt64.ofNat (X.pl t key))=_
 rw[hm,w64_id (by omega) (by omega),toU_eq (by omega)]
 congr 1
 unfold XP.blk
 apply UInt64.toNat_inj.1
 rw[UInt64.toNat_add,UInt64.toNat_ofNat',UInt64.toNat_ofNat',UInt64.toNat_ofNat']
 omega
theorem cuk_blank (F:IFix G B X x) (R:IRun G ws B X x a e S ev es gs h) (ha:a≤10000) (he:e≤10000) :
   callK prog 50 [vp ⟨x.xb,0⟩] h fun v h'=>∃ev' es' gs',v= .tuple #[]∧IRun G ws B X x (a+1) (e+1) (blankS G (fun p=>ws.getD p 0) S) ev' es' gs' h'∧Mv (SFo G B es gs) h (SFo G B es' gs') h':=by
 refine c50 _ ?_
 unfold G50
 have hT:=F.c.xo.T
 refine⟨some ⟨B.sb,0⟩,rd1 R.ix rfl,?_⟩
 refine(irun_access F R ha he (op:= .look) (k:=0) (d:=dat0) rfl (.inl rfl) (y:=0) (by omega)).mono ?_
 rintro _ g ⟨ev',es',gs',rfl,R',v⟩
 exact⟨_,_,rfl,ev',es',gs',rfl,R',v⟩
/-! ## a search -/
def lkS (G:SP) (w:Nat→UInt64) (X:XP) (key:UInt64) (S:SSt) (t:Nat):SSt×Dat×Bool:=stAcc G w .look (X.blk t key) S
def fSt (G:SP) (w:Nat→UInt64) (X:XP) (key:UInt64) (S:SSt):Nat→SSt
 | 0=>S
 | t+1=>(lkS G w X key (fSt G w X key S t) t).1
def spN (X:XP) (key:UInt64) (t:Nat) (d:Dat) (s:Spt):Spt:=if s.1= -1 then (match hit key (dEnt d) with|some c=>((t:Int),UInt64.ofNat (X.pl t key),c)|none=>s) else s
def fSp (G:SP) (w:Nat→UInt64) (X:XP) (key:UInt64) (S:SSt):Nat→Spt
 | 0=>(-1,0,0)
 | t+1=>spN X key t (lkS G w X key (fSt G w X key S t) t).2.1 (fSp G w X key S t)
def fEnd (X:XP) (key:UInt64) (f:Nat→Cel) (s:Spt):Spt:=if s.1= -1 then (match sfirst (fun i=>(f i)[1]==key+1) X.sp with|some i=>(2,UInt64.ofNat i,(f i)[2])|none=>s) else s
theorem find_eq {w:Nat→UInt64} (key:UInt64) (S:SSt):findS G w X key S=(fSt G w X key S 2,fEnd X key (S.R 0) (fSp G w X key S 2)):=by
 show((stAcc G w .look (X.blk 1 key) (stAcc G w .look (X.blk 0 key) S).1).1,X.spot key (dEnt (stAcc G w .look (X.blk 0 key) S).2.1) (dEnt (stAcc G w .look (X.blk 1 key) (stAcc G w .look (X.blk 0 key) S).1).2.1) (S.R 0))=(_,fEnd X key (S.R 0) (spN X key 1 (stAcc G w .look (X.blk 1 key) (stAcc G w .look (X.blk 0 key) S).1).2.1 (spN X key 0 (stAcc G w .look (X.blk 0 key) S).2.1 (-1,0,0))))
 congr 1
 unfold XP.spot spN fEnd
 cases hit key (dEnt (stAcc G w .look (X.blk 0 key) S).2.1) with
 | some c=>rfl
 | none =>
   cases hit key (dEnt (stAcc G w .look (X.blk 1 key) (stAcc G w .look (X.blk 0 key) S).1).2.1) with
   | some c=>rfl
   | none=>rfl
theorem spN_no {key:UInt64} {t:Nat} {d:Dat} {s:Spt} (h:s.1= -1→hit key (dEnt d)=none):spN X key t d s=s:=by
 unfold spN
 by_cases c:s.1= -1
 · rw[if_pos c,h c]
 · rw[if_neg c]
theorem spN_yes {key:UInt64} {t:Nat} {d:Dat} {s:Spt} (h0:d[0]=1) (h1:(rEnt d).1=key) (h2:s.1= -1):spN X key t d s=((t:Int),UInt64.ofNat (X.pl t key),(rEnt d).2):=by
 unfold spN
 rw[if_pos h2]
 have:hit key (dEnt d)=some (rEnt d).2:=by unfold dEnt hit;rw[if_pos h0];simp only;rw[if_pos h1]
 rw[this]
theorem find_end {S':SSt} {ev':List Ev} {es' gs':Sl} {a' e':Nat} {g:Hp} (R:IRun G ws B X x a' e' S' ev' es' gs' g) (v:Mv (SFo G B es gs) h (SFo G B es' gs') g) {b1 b2:Nat} (hb1:h b1=none) (nb1:¬SFo G B es' gs' b1) (hne:b1≠x.xb) {T1 T2:TypeId} (e1:g b1=some (.cells #[.int .i64 0,.int .u64 0,.int .u64 0] T1 (0,0))) {s:Spt} (e2:g b2=some (.cells #[.int .i64 s.1,vu s.2.1,vu s.2.2] T2 (0,0)))
   {K:Value→Hp→Prop} (hk:∀g',IRun G ws B X x a' e' S' ev' es' gs' g'→Mv (SFo G B es gs) h (SFo G B es' gs') g'→K (.agg #[.int .i64 s.1,vu s.2.1,vu s.2.2]) g') :
   ∃n7:Int,hcell g b2 0=some (.int .i64 n7)∧∃x15:UInt64,hcell g b2 (0+1)=some (vu x15)∧∃x16:UInt64,hcell g b2 (0+1+1)=some (vu x16)∧storeK g ⟨b1,0⟩ [.int .i64 n7,vu x15,vu x16] fun h19=>∃n8:Int,hcell h19 b1 0=some (.int .i64 n8)∧∃x17:UInt64,hcell h19 b1 (0+1)=some (vu x17)∧∃x18:UInt64,hcell h19 b1 (0+1+1)=some (vu x18)∧K (.agg #[.int .i64 n8,vu x17,vu x18]) h19:=by
 refine⟨_,rd1 e2 rfl,_,rd1 e2 rfl,_,rd1 e2 rfl,stMW v hb1 e1 rfl fun g' v' e' o'=>⟨_,rd1 e' rfl,_,rd1 e' rfl,_,rd1 e' rfl,hk g' (R.same fun y hy=>o' y fun e=>?_) v'⟩⟩
 rcases hy with hy|hy
 · exact nb1 (e▸hy)
 · exact hne (e.symm.trans hy)
theorem cuk_find (F:IFix G B X x) (R:IRun G ws B X x a e S ev es gs h) (ha:a≤9000) (he:e≤9000) (key:UInt64) :
   callK prog 12 [vp ⟨x.xb,0⟩,vu key] h fun v h'=>∃ev' es' gs',v= .agg #[.int .i64 (findS G (fun p=>ws.getD p 0) X key S).2.1,vu (findS G (fun p=>ws.getD p 0) X key S).2.2.1,vu (findS G (fun p=>ws.getD p 0) X key S).2.2.2]∧IRun G ws B X x (a+2) (e+3) (findS G (fun p=>ws.getD p 0) X key S).1 ev' es' gs' h'∧Mv (SFo G B es gs) h (SFo G B es' gs') h':=by
 suffices H:∀Q:Value→Hp→Prop,(∀v h',(∃ev' es' gs',v= .agg #[.int .i64 (findS G (fun p=>ws.getD p 0) X key S).2.1,vu (findS G (fun p=>ws.getD p 0) X key S).2.2.1,vu (findS G (fun p=>ws.getD p 0) X key S).2.2.2]∧IRun G ws B X x (a+2) (e+3) (findS G (fun p=>ws.getD p 0) X key S).1 ev' es' gs' h'∧Mv (SFo G B es gs) h (SFo G B es' gs') h')→Q v h')→callK prog 12 [vp ⟨x.xb,0⟩,vu key] h Q from H _ fun _ _ h=>h
 intro Q hQ
 rw[find_eq] at hQ
 refine c12 _ _ ?_
 unfold G12
 refine newC fun b1 h1 f1 e1 k1=>newC fun b2 h2 f2 e2 k2=>?_
 have f20:=k1.free f2
 have n21:b1≠b2:=fun e=>by rw[←e,e1] at f2;cases f2
 refine stW (k1.trans k2) f20 e2 rfl fun h3 k3 e3 o3=>?_
 have R3:=R.keep F k3
 have e13:h3 b1=_:=(o3 b1 n21).trans (k2.get e1)
 have nb1:¬SFo G B es gs b1:=R.r.out F.c.o f1
 have nb2:¬SFo G B es gs b2:=R.r.out F.c.o f20
 refine⟨fun q1 x1 q2 q3 n1 g kk=>(⟨x.xb,0⟩:Pt)=q1∧key=x1∧(⟨b1,0⟩:Pt)=q2∧(⟨b2,0⟩:Pt)=q3∧∃(i:Nat) (ev':List Ev) (es' gs':Sl),n1=i∧i≤2∧kk=2-i∧IRun G ws B X x (a+i) (e+i) (fSt G (fun p=>ws.getD p 0) X key S i) ev' es' gs' g∧Mv (SFo G B es gs) h (SFo G B es' gs') g∧¬SFo G B es' gs' b1∧¬SFo G B es' gs' b2 ∧
     g b1=some (.cells #[.int .i64 0,.int .u64 0,.int .u64 0] 40 (0,0))∧g b2=some (.cells #[.int .i64 (fSp G (fun p=>ws.getD p 0) X key S i).1,vu (fSp G (fun p=>ws.getD p 0) X key S i).2.1,vu (fSp G (fun p=>ws.getD p 0) X key S i).2.2] 40 (0,0)),
   ⟨2,rfl,rfl,rfl,rfl,0,ev,es,gs,rfl,by omega,rfl,R3,mvK k3 _,nb1,nb2,e13,e3⟩,?_⟩
 rintro q1 x1 q2 q3 n1 g kk ⟨rfl,rfl,rfl,rfl,i,ev',es',gs',rfl,hi,rfl,Rg,vg,n1g,n2g,g1,g2⟩
 refine ifD (fun hlt=>?_) fun hge=>?_
 · have hi':i<2:=by omega
   refine⟨some ⟨B.sb,0⟩,rd1 Rg.ix rfl,(cuk_block F Rg.ix hi' key).mono ?_⟩
   rintro _ g3 ⟨rfl,k3'⟩
   have R3:=Rg.keep F k3'
   refine⟨_,rfl,⟨rd1 R3.ix rfl,trivial⟩,?_⟩
   refine(irun_access F R3 (by omega) (by omega) (op:= .look) (k:=0) (d:=dat0) rfl (.inl rfl) (y:=X.blk i key) (XP.blk_lt F.c.xo hi' key)).mono ?_
   rintro _ g4 ⟨ev4,es4,gs4,rfl,R4,v4⟩
   have v04:=(vg.more k3').trans v4
   have g14:=v4.get (k3'.get g1) n1g
   have g24:=v4.get (k3'.get g2) n2g
   have n14:=v4.out (by rw[k3'.get g1];simp) n1g
   have n24:=v4.out (by rw[k3'.get g2];simp) n2g
   have hsp1:fSp G (fun p=>ws.getD p 0) X key S (i+1)=spN X key i (stAcc G (fun p=>ws.getD p 0) .look (X.blk i key) (fSt G (fun p=>ws.getD p 0) X key S i)).2.1 (fSp G (fun p=>ws.getD p 0) X key S i):=rfl
   have R4:IRun G ws B X x (a+(i+1)) (e+(i+1)) (fSt G (fun p=>ws.getD p 0) X key S (i+1)) ev4 es4 gs4 g4:=R4
   generalize (stAcc G (fun p=>ws.getD p 0) .look (X.blk i key) (fSt G (fun p=>ws.getD p 0) X key S i)).2.1=d at *
   generalize (stAcc G (fun p=>ws.getD p 0) .look (X.blk i key) (fSt G (fun p=>ws.getD p 0) X key S i)).2.2=dt at *
   generalize fSp G (fun p=>ws.getD p 0) X key S i=sp at *
   refine⟨_,_,rfl,newC fun b3 g5 f5 e5 k5=>?_⟩
   have hb3:h b3=none:=v04.2.2 b3 f5
   have R5:=R4.keep F k5
   refine wbMW (n:=8) (v04.more k5) hb3 e5 rfl fun g6 v6 e6 o6=>⟨_,wb_rd e6,?_⟩
   have n13:b1≠b3:=fun e=>by rw[←e,g14] at f5;cases f5
   have n23:b2≠b3:=fun e=>by rw[←e,g24] at f5;cases f5
   have g16:g6 b1=_:=(o6 b1 n13).trans (k5.get g14)
   have g26:g6 b2=_:=(o6 b2 n23).trans (k5.get g24)
   have R6:=R4.loc F f5 k5 o6
   refine(cuk_read d).to fun g7 k7=>⟨_,_,_,rfl,newC fun b4 g8 f8 e8 k8=>?_⟩
   have k78:=k7.trans k8
   have v8:=v6.more k78
   have hb4:h b4=none:=v6.2.2 b4 (k7.free f8)
   refine stMW v8 hb4 e8 rfl fun g9 v9 e9 o9=>?_
   have n14':b1≠b4:=fun e=>by rw[←e,k7.get g16] at f8;cases f8
   have n24':b2≠b4:=fun e=>by rw[←e,k7.get g26] at f8;cases f8
   have g19:g9 b1=_:=(o9 b1 n14').trans (k78.get g16)
   have g29:g9 b2=_:=(o9 b2 n24').trans (k78.get g26)
   have R9:=(R6.keep F k7).loc F f8 k8 o9
   have g89:g9 b4=_:=e9
   have nxb:b2≠x.xb:=fun e=>by have:=R.ix;rw[←e,f20] at this;cases this
   by_cases c0:d[0]=1
   · refine ifB_pos (decide_eq_true c0) ⟨_,rd1 e9 rfl,?_⟩
     by_cases c1:(rEnt d).1=key
     · refine ifB_pos (show decide ((rEnt d).1=key)=true from decide_eq_true c1) ⟨_,rd1 g29 rfl,?_⟩
       by_cases c2:sp.1= -1
       · refine ifB_pos (show decide (sp.1= -1)=true from decide_eq_true c2) ⟨_,rd1 e9 rfl,(cuk_place F R9.ix hi' key).mono ?_⟩
         rintro _ g10 ⟨rfl,k10⟩
         refine⟨_,rfl,⟨rd1 (k10.get e9) rfl,trivial⟩,?_⟩
         refine stMW (v9.more k10) f20 (k10.get g29) rfl fun g11 v11 e11 o11=>⟨2-(i+1),by omega,rfl,rfl,rfl,rfl,i+1,ev4,es4,gs4,w64_id (by omega) (by omega),by omega,rfl,(R9.keep F k10).same fun y hy=>o11 y fun e=>?_,v11,n14,n24,(o11 b1 n21).trans (k10.get g19),?_⟩
         · rcases hy with hy|hy
           · exact n24 (e▸hy)
           · exact nxb (e.symm.trans hy)
         · rw[e11,hsp1,spN_yes c0 c1 c2]
       · exact ifB_neg (show decide (sp.1= -1)=false from decide_eq_false c2) ⟨2-(i+1),by omega,rfl,rfl,rfl,rfl,i+1,ev4,es4,gs4,w64_id (by omega) (by omega),by omega,rfl,R9,v9,n14,n24,g19,by rw[hsp1,spN_no (fun h=>absurd h c2)];exact g29⟩
     · have hn:hit key (dEnt d)=none:=by unfold dEnt hit;rw[if_pos c0];simp only;rw[if_neg c1]
       exact ifB_neg (show decide ((rEnt d).1=key)=false from decide_eq_false c1) ⟨2-(i+1),by omega,rfl,rfl,rfl,rfl,i+1,ev4,es4,gs4,w64_id (by omega) (by omega),by omega,rfl,R9,v9,n14,n24,g19,by rw[hsp1,spN_no (fun _=>hn)];exact g29⟩
   · have hn:hit key (dEnt d)=none:=by unfold dEnt;rw[if_neg c0];rfl
     exact ifB_neg (decide_eq_false c0) ⟨2-(i+1),by omega,rfl,rfl,rfl,rfl,i+1,ev4,es4,gs4,w64_id (by omega) (by omega),by omega,rfl,R9,v9,n14,n24,g19,by rw[hsp1,spN_no (fun _=>hn)];exact g29⟩
 · have:i=2:=by omega
   subst this
   have nxb1:b1≠x.xb:=fun e=>by have:=R.ix;rw[←e,f1] at this;cases this
   have nxb:b2≠x.xb:=fun e=>by have:=R.ix;rw[←e,f20] at this;cases this
   have hR0:(fSt G (fun p=>ws.getD p 0) X key S 2).R 0=S.R 0:=(stAcc_R0f F.c.f _ _ _).trans (stAcc_R0f F.c.f _ _ _)
   generalize fSp G (fun p=>ws.getD p 0) X key S 2=sp at *
   refine⟨some ⟨B.m.b,0⟩,rd1 Rg.ix rfl,_,rd1 Rg.ix rfl,(irun_find F Rg (by omega) (key:=1) (by decide) (key+1)).mono ?_⟩
   rintro _ g3 ⟨ev3,es3,rfl,R3',v3⟩
   rw[hR0]
   have v03:=vg.trans v3
   have g13:=v3.get g1 n1g
   have g23:=v3.get g2 n2g
   have n13:=v3.out (by rw[g1];simp) n1g
   have n23:=v3.out (by rw[g2];simp) n2g
   refine⟨_,_,_,rfl,newC fun b5 g5 f5 e5 k5=>?_⟩
   have hb5:h b5=none:=v03.2.2 b5 f5
   refine wbMW (n:=12) (v03.more k5) hb5 e5 rfl fun g6 v6 e6 o6=>?_
   have n15:b1≠b5:=fun e=>by rw[←e,g13] at f5;cases f5
   have n25:b2≠b5:=fun e=>by rw[←e,g23] at f5;cases f5
   have g16:g6 b1=_:=(o6 b1 n15).trans (k5.get g13)
   have g26:g6 b2=_:=(o6 b2 n25).trans (k5.get g23)
   have R6:=R3'.loc F f5 k5 o6
   refine⟨_,rd1 g26 rfl,?_⟩
   by_cases c2:sp.1= -1
   · refine ifB_pos (decide_eq_true c2) ?_
     cases hs:sfirst (fun i=>(S.R 0 i)[1]==key+1) X.sp with
     | some i =>
       have he:fEnd X key (S.R 0) sp=((2,UInt64.ofNat i,(S.R 0 i)[2]):Spt):=by unfold fEnd;rw[if_pos c2,hs]
       rw[he] at hQ
       rw[hs] at e6
       refine ifB_pos rfl ⟨Int.NonNeg.mk _,Int.NonNeg.mk _,_,wb_get e6 (i:=2) (by decide),?_⟩
       refine stMW v6 f20 g26 rfl fun g7 v7 e7 o7=>?_
       refine find_end (s:=((2:Int),UInt64.ofNat i,(S.R 0 i)[2])) (R6.same fun y hy=>o7 y fun e=>?_) v7 f1 n13 nxb1 ((o7 b1 n21).trans g16) e7 fun g' R' v'=>hQ _ _ ⟨_,_,_,rfl,R',v'⟩
       rcases hy with hy|hy
       · exact n23 (e▸hy)
       · exact nxb (e.symm.trans hy)
     | none =>
       have he:fEnd X key (S.R 0) sp=sp:=by unfold fEnd;rw[if_pos c2,hs]
       rw[he] at hQ
       refine ifB_neg rfl ?_
       refine find_end (s:=sp) R6 v6 f1 n13 nxb1 g16 g26 fun g' R' v'=>hQ _ _ ⟨_,_,_,rfl,R',v'⟩
   · have he:fEnd X key (S.R 0) sp=sp:=by unfold fEnd;rw[if_neg c2]
     rw[he] at hQ
     refine ifB_neg (decide_eq_false c2) ?_
     refine find_end (s:=sp) R6 v6 f1 n13 nxb1 g16 g26 fun g' R' v'=>hQ _ _ ⟨_,_,_,rfl,R',v'⟩
end
end Go.Proofs.Tryz
/- A cuckoo index in the heap: a removal. -/
namespace Go.Proofs.Tryz
open Go Go.Sh Go.RowKit
set_option maxRecDepth 8000
section
variable {G:SP} {ws:List UInt64} {B:StB} {X:XP} {x:IxS} {a e:Nat} {S:SSt} {ev:List Ev} {es gs:Sl} {h:Hp}
theorem rem_put (F:IFix G B X x) (R:IRun G ws B X x a e S ev es gs h) (he:e≤10000) {b1:Nat} {T1:TypeId} {t:Int} {at_ cell:UInt64} (e1:h b1=some (.cells #[.int .i64 t,vu at_,vu cell] T1 (0,0))) (d:Bool) {K:Hp→Prop}
   (hk:∀ev' es' g,IRun G ws B X x a (e+1) (if at_.toNat<X.sp∧d=true then setR S (0,at_.toNat) cel0 else S) ev' es' gs g→Mv (SFo G B es gs) h (SFo G B es' gs) g→K g) :
   ∃(o2:Option Pt),hcell h x.xb (0+1)=some (vpn o2)∧∃(n4:Int),hcell h x.xb (0+2)=some (.int .i64 n4)∧∃(x3:UInt64),hcell h b1 1=some (vu x3)∧callK prog 52 [vpn o2,.int .i64 n4,vu x3,wv cel0,vu (mask d)] h fun v4 h5=>v4= .tuple #[]∧K h5:=by
 refine⟨some ⟨B.m.b,0⟩,rd1 R.ix rfl,_,rd1 R.ix rfl,_,rd1 e1 rfl,(irun_put F R he at_ cel0 d).mono ?_⟩
 rintro _ g ⟨ev',es',rfl,R',v⟩
 exact⟨rfl,hk ev' es' g R' v⟩
theorem rem_tail (F:IFix G B X x) (R:IRun G ws B X x a e S ev es gs h) (he:e≤10000) {b1:Nat} {T1:TypeId} {t:Int} {at_ cell:UInt64} (e1:h b1=some (.cells #[.int .i64 t,vu at_,vu cell] T1 (0,0))) (on:Bool) {K:Hp→Prop}
   (hk:∀ev' es' g,IRun G ws B X x a (e+1) (if on&&t==2&&decide (at_.toNat<X.sp) then setR S (0,at_.toNat) cel0 else S) ev' es' gs g→Mv (SFo G B es gs) h (SFo G B es' gs) g→K g) :
   ifB on (∃(n3:Int),hcell h b1 0=some (.int .i64 n3)∧ifB (bif true then decide (n3=2) else false)
       (callK prog 54 [vu 0] h fun v3 h4=>∃(x2:UInt64),v3=vu x2∧∃(o2:Option Pt),hcell h4 x.xb (0+1)=some (vpn o2)∧∃(n4:Int),hcell h4 x.xb (0+2)=some (.int .i64 n4)∧∃(x3:UInt64),hcell h4 b1 1=some (vu x3)∧callK prog 52 [vpn o2,.int .i64 n4,vu x3,wv cel0,vu x2] h4 fun v4 h5=>v4= .tuple #[]∧K h5)
       (∃(o2:Option Pt),hcell h x.xb (0+1)=some (vpn o2)∧∃(n4:Int),hcell h x.xb (0+2)=some (.int .i64 n4)∧∃(x3:UInt64),hcell h b1 1=some (vu x3)∧callK prog 52 [vpn o2,.int .i64 n4,vu x3,wv cel0,vu 0] h fun v4 h5=>v4= .tuple #[]∧K h5))
     (∃(o2:Option Pt),hcell h x.xb (0+1)=some (vpn o2)∧∃(n4:Int),hcell h x.xb (0+2)=some (.int .i64 n4)∧∃(x3:UInt64),hcell h b1 1=some (vu x3)∧callK prog 52 [vpn o2,.int .i64 n4,vu x3,wv cel0,vu 0] h fun v4 h5=>v4= .tuple #[]∧K h5):=by
 have off:(on&&t==2&&decide (at_.toNat<X.sp))=false∨∃d:Bool,True:= .inr ⟨true,trivial⟩
 have no:(on&&t==2)=false→∃(o2:Option Pt),hcell h x.xb (0+1)=some (vpn o2)∧∃(n4:Int),hcell h x.xb (0+2)=some (.int .i64 n4)∧∃(x3:UInt64),hcell h b1 1=some (vu x3)∧callK prog 52 [vpn o2,.int .i64 n4,vu x3,wv cel0,vu 0] h fun v4 h5=>v4= .tuple #[]∧K h5:=fun hn=>by
   refine rem_put F R he e1 false fun ev' es' g R' v=>hk ev' es' g ?_ v
   rw[hn,if_neg (by simp)]
   rw[if_neg (by simp)] at R'
   exact R'
 cases on with
 | false=>exact ifB_neg rfl (no rfl)
 | true =>
   refine ifB_pos rfl ⟨_,rd1 e1 rfl,?_⟩
   by_cases c:t=2
   · refine ifB_pos (show decide (t=2)=true from decide_eq_true c) ?_
     refine(word_zero 0).to fun g k=>⟨_,rfl,?_⟩
     refine rem_put F (R.keep F k) he (k.get e1) ((0:UInt64)==0) fun ev' es' g' R' v=>hk ev' es' g' ?_ ((mvK k _).trans v)
     have h0:((0:UInt64)==0)=true:=rfl
     rw[h0] at R'
     by_cases c2:at_.toNat<X.sp
     · rw[if_pos (by simp[c,c2])]
       rw[if_pos ⟨c2,rfl⟩] at R'
       exact R'
     · rw[if_neg (by simp[c2])]
       rw[if_neg (fun h=>c2 h.1)] at R'
       exact R'
   · refine ifB_neg (show decide (t=2)=false from decide_eq_false c) (no (by simp[c]))
theorem cuk_remove (F:IFix G B X x) (R:IRun G ws B X x a e S ev es gs h) (ha:a≤9000) (he:e≤9000) (key:UInt64) (t:Int) (at_ cell:UInt64) (on:Bool) :
   callK prog 16 [vp ⟨x.xb,0⟩,vu key,.agg #[.int .i64 t,vu at_,vu cell],.bool on] h fun v h'=>∃ev' es' gs',v= .tuple #[]∧IRun G ws B X x (a+1) (e+2) (remS G (fun p=>ws.getD p 0) X key t at_ on S) ev' es' gs' h'∧Mv (SFo G B es gs) h (SFo G B es' gs') h':=by
 suffices H:∀Q:Value→Hp→Prop,(∀h',(∃ev' es' gs',IRun G ws B X x (a+1) (e+2) (remS G (fun p=>ws.getD p 0) X key t at_ on S) ev' es' gs' h'∧Mv (SFo G B es gs) h (SFo G B es' gs') h')→Q (.tuple #[]) h')→callK prog 16 [vp ⟨x.xb,0⟩,vu key,.agg #[.int .i64 t,vu at_,vu cell],.bool on] h Q from H _ fun h' ⟨ev',es',gs',hh⟩=>⟨ev',es',gs',rfl,hh⟩
 intro Q hQ
 refine c16 _ _ _ _ _ _ ?_
 unfold G16
 refine newC fun b1 h1 f1 e1 k1=>?_
 have R1:=R.keep F k1
 have nb1:¬SFo G B es gs b1:=R.r.out F.c.o f1
 have blankC:((on&&(t==0||t==1))=false)→∀K:Value→Hp→Prop,(∀ev2 es2 gs2 g2,IRun G ws B X x (a+1) (e+1) (if on&&(t==0||t==1) then (stAcc G (fun p=>ws.getD p 0) .drop (X.blk t.toNat key) S).1 else blankS G (fun p=>ws.getD p 0) S) ev2 es2 gs2 g2→Mv (SFo G B es gs) h1 (SFo G B es2 gs2) g2→K (.tuple #[]) g2)→callK prog 50 [vp ⟨x.xb,0⟩] h1 K:=fun hn K hK=>by
   refine(cuk_blank F R1 (by omega) (by omega)).mono ?_
   rintro _ g2 ⟨ev2,es2,gs2,rfl,R2,v2⟩
   refine hK ev2 es2 gs2 g2 ?_ v2
   rw[hn,if_neg (by simp)];exact R2
 have tail:∀ev2 es2 gs2 g2,IRun G ws B X x (a+1) (e+1) (if on&&(t==0||t==1) then (stAcc G (fun p=>ws.getD p 0) .drop (X.blk t.toNat key) S).1 else blankS G (fun p=>ws.getD p 0) S) ev2 es2 gs2 g2→Mv (SFo G B es gs) h1 (SFo G B es2 gs2) g2→_:=fun ev2 es2 gs2 g2 R2 v2=>rem_tail (K:=fun h5=>Q (.tuple #[]) h5) F R2 (by omega) (v2.get e1 nb1) on fun ev' es' g R' v=>hQ g ⟨ev',es',gs2,R',((mvK k1 _).trans v2).trans v⟩
 cases on with
 | false =>
   refine ifB_neg rfl (blankC rfl _ fun ev2 es2 gs2 g2 R2 v2=>⟨rfl,tail ev2 es2 gs2 g2 R2 v2⟩)
 | true =>
   refine ifB_pos rfl ⟨_,rd1 e1 rfl,?_⟩
   by_cases c0:t=0
   · subst c0
     refine ifB_pos rfl ⟨some ⟨B.sb,0⟩,rd1 R1.ix rfl,_,rd1 e1 rfl,(cuk_block F R1.ix (t:=0) (by decide) key).mono ?_⟩
     rintro _ g2 ⟨rfl,k2⟩
     refine⟨_,rfl,⟨rd1 (k2.get R1.ix) rfl,trivial⟩,(irun_access F (R1.keep F k2) (by omega) (by omega) (op:= .drop) (k:=3) (d:=dat0) rfl (.inr (.inr rfl)) (XP.blk_lt F.c.xo (by decide) key)).mono ?_⟩
     rintro _ g3 ⟨ev3,es3,gs3,rfl,R3,v3⟩
     exact⟨_,_,rfl,tail ev3 es3 gs3 g3 R3 ((mvK k2 _).trans v3)⟩
   · refine ifB_neg (decide_eq_false c0) ⟨_,rd1 e1 rfl,?_⟩
     by_cases c1:t=1
     · subst c1
       refine ifB_pos rfl ⟨some ⟨B.sb,0⟩,rd1 R1.ix rfl,_,rd1 e1 rfl,(cuk_block F R1.ix (t:=1) (by decide) key).mono ?_⟩
       rintro _ g2 ⟨rfl,k2⟩
       refine⟨_,rfl,⟨rd1 (k2.get R1.ix) rfl,trivial⟩,(irun_access F (R1.keep F k2) (by omega) (by omega) (op:= .drop) (k:=3) (d:=dat0) rfl (.inr (.inr rfl)) (XP.blk_lt F.c.xo (by decide) key)).mono ?_⟩
       rintro _ g3 ⟨ev3,es3,gs3,rfl,R3,v3⟩
       exact⟨_,_,rfl,tail ev3 es3 gs3 g3 R3 ((mvK k2 _).trans v3)⟩
     · refine ifB_neg (show decide (t=1)=false from decide_eq_false c1) (blankC (by simp[c0,c1]) _ fun ev2 es2 gs2 g2 R2 v2=>⟨rfl,tail ev2 es2 gs2 g2 R2 v2⟩)
end
end Go.Proofs.Tryz
/- A cuckoo index in the heap: an insertion. -/
namespace Go.Sh
open Go.Proofs.Tryz
section
variable {G:SP} {w:Nat→UInt64} {X:XP}
abbrev KSt:=SSt×KC×Bool×List (Nat×Dat)
def kstep (G:SP) (w:Nat→UInt64) (X:XP) (j:Nat) (r:KSt):KSt :=
 if r.2.2.1 then
   ((stAcc G w (.put (eDat r.2.1)) (X.blk (j%2) r.2.1.1) r.1).1,rEnt (stAcc G w (.put (eDat r.2.1)) (X.blk (j%2) r.2.1.1) r.1).2.1,(stAcc G w (.put (eDat r.2.1)) (X.blk (j%2) r.2.1.1) r.1).2.1[0]==1,
     r.2.2.2++[(X.blk (j%2) r.2.1.1,(stAcc G w (.put (eDat r.2.1)) (X.blk (j%2) r.2.1.1) r.1).2.1)])
 else (blankS G w r.1,r.2.1,r.2.2.1,r.2.2.2)
theorem kick_t (n i:Nat) (S:SSt) (e:KC) (ch:List (Nat×Dat)):kick G w X (n+1) i S e true ch=kick G w X n (i+1) (stAcc G w (.put (eDat e)) (X.blk (i%2) e.1) S).1 (rEnt (stAcc G w (.put (eDat e)) (X.blk (i%2) e.1) S).2.1) ((stAcc G w (.put (eDat e)) (X.blk (i%2) e.1) S).2.1[0]==1) (ch++[(X.blk (i%2) e.1,(stAcc G w (.put (eDat e)) (X.blk (i%2) e.1) S).2.1)]):=rfl
theorem kick_f (n i:Nat) (S:SSt) (e:KC) (ch:List (Nat×Dat)):kick G w X (n+1) i S e false ch=kick G w X n (i+1) (blankS G w S) e false ch:=rfl
theorem kick_0 (i:Nat) (S:SSt) (e:KC) (on:Bool) (ch:List (Nat×Dat)):kick G w X 0 i S e on ch=(S,e,on,ch):=rfl
theorem kick_snoc:∀n i S e on ch,kick G w X (n+1) i S e on ch=kstep G w X (i+n) (kick G w X n i S e on ch)
 | 0,i,S,e,on,ch=>by
   cases on
   · rw[kick_f,kick_0,kick_0];rfl
   · rw[kick_t,kick_0,kick_0];rfl
 | n+1,i,S,e,on,ch=>by
   rw[show i+(n+1)=i+1+n by omega]
   cases on with
   | true=>rw[kick_t (n+1),kick_snoc n,kick_t n]
   | false=>rw[kick_f (n+1),kick_snoc n,kick_f n]
theorem blanks_snoc:∀n S,blanks G w (n+1) S=blankS G w (blanks G w n S)
 | 0,_=>rfl
 | n+1,S=>blanks_snoc n (blankS G w S)
theorem undo_snoc:∀(l:List (Nat×Dat)) (x:Nat×Dat) S,undo G w (l++[x]) S=(stAcc G w (.put x.2) x.1 (undo G w l S)).1
 | [],_,_=>rfl
 | (b,d)::l,x,S=>undo_snoc l x _
end
end Go.Sh
namespace Go.Proofs.Tryz
open Go Go.Sh Go.RowKit
set_option maxRecDepth 8000
def chf (c:Nat×Dat):List Value:=vu (UInt64.ofNat c.1)::SV.cells (SV.ws 8 c.2)
theorem chf9 (c:Nat×Dat):(chf c).length=9:=by simp[chf,SV.cells]
theorem chf_one (c:Nat×Dat):∀v∈chf c,v.oneCell'=true:=by
 intro v hv
 simp only[chf,SV.cells,List.mem_cons,List.mem_map] at hv
 rcases hv with rfl|⟨_,_,rfl⟩<;>rfl
theorem rtCh:RowM prog 119 121 9 (.agg #[.int .u64 0,.int .u64 0,.int .u64 0,.int .u64 0,.int .u64 0,.int .u64 0,.int .u64 0,.int .u64 0,.int .u64 0]) 72:=⟨by kernel_rfl,by kernel_rfl,by kernel_rfl,by kernel_rfl,rfl⟩
theorem chf_get {h:Hp} {b:Nat} {T:TypeId} {c:Nat×Dat} (e:h b=some (.cells (chf c).toArray T (0,0))):hcell h b 0=some (vu (UInt64.ofNat c.1))∧rdW h b 1 c.2:=by
 refine⟨rd1 e rfl,fun i hi=>?_⟩
 rw[hcell_cells e]
 rw[show 1+i=i+1 by omega]
 simp[chf,SV.cells,hi]
theorem chf_set (y:UInt64) (d:Dat) (z:Array Value) (hz:z.size=9) (h0:z[0]? =some (vu y)):hwr z (0+1) (SV.cells (SV.ws 8 d))=(vu y::SV.cells (SV.ws 8 d)).toArray:=by
 have hl:(SV.cells (SV.ws 8 d)).length=8:=by simp[SV.cells]
 apply Array.ext_getElem?
 intro i
 rw[hwr_get,hl,hz]
 by_cases c0:i=0
 · subst c0;rw[if_neg (by omega),h0];rfl
 · obtain⟨j,rfl⟩:∃j,i=j+1:=⟨i-1,by omega⟩
   by_cases c1:j<8
   · rw[if_pos (by omega),show j+1-(0+1)=j by omega];simp
   · rw[if_neg (by omega),Array.getElem?_eq_none (by omega)]
     rw[List.getElem?_toArray,List.getElem?_cons_succ,List.getElem?_eq_none (by omega)]
theorem spC_cells (e:KC):hwr #[Value.int .u64 0,.int .u64 0,.int .u64 0,.int .u64 0,.int .u64 0,.int .u64 0,.int .u64 0,.int .u64 0,.int .u64 0,.int .u64 0,.int .u64 0,.int .u64 0] 0 ((eDat e).toList.map vu)=(SV.cells (.ws 12 (spC e))).toArray:=by
 have h1:(eDat e).toList.map vu=[vu 1,vu (e.1+1),vu e.2,vu 0,vu 0,vu 0,vu 0,vu 0]:=by simp[eDat]
 have h2:SV.cells (.ws 12 (spC e))=[vu 1,vu (e.1+1),vu e.2,vu 0,vu 0,vu 0,vu 0,vu 0,vu 0,vu 0,vu 0,vu 0]:=by simp[SV.cells,spC]
 rw[h1,h2];rfl
theorem Mv.app {F F':Nat→Prop} {h g g':Hp} {s:Sl} (v:Mv F h F' g) (off:∀b,g b≠none→(∀q,s.q=some q→b≠q.b)→g' b=g b) (fr:∀b,g' b=none→g b=none) (hs:∀q,s.q=some q→h q.b=none):Mv F h F' g' :=
 ⟨v.1,fun b hb hn=>by
   have h1:=v.2.1 b hb hn
   rw[off b (by rw[h1];exact hb) fun q hq e=>hb (e▸hs q hq),h1],fun b hb=>v.2.2 b (fr b hb)⟩
section
variable {G:SP} {ws:List UInt64} {B:StB} {X:XP} {x:IxS} {a e:Nat} {S:SSt} {ev:List Ev} {es gs:Sl} {h:Hp}
structure InsL (G:SP) (B:StB) (x:IxS) (es' gs':Sl) (b1 b2 b3:Nat) (s:Sl) (g:Hp) (on:Bool) (k:KC):Prop where
 c1:g b1=some (.cells #[vp ⟨x.xb,0⟩] 27 (0,0))
 c2:g b2=some (.cells #[.bool on] 4 (0,0))
 c3:g b3=some (.cells #[vu k.1,vu k.2] 107 (0,0))
 n1:¬SFo G B es' gs' b1
 n2:¬SFo G B es' gs' b2
 n3:¬SFo G B es' gs' b3
 ns:∀q,s.q=some q→¬SFo G B es' gs' q.b∧q.b≠b1∧q.b≠b2∧q.b≠b3∧q.b≠x.xb
theorem ins_loop (F:IFix G B X x) (R0:IRun G ws B X x a e S ev es gs h) (ha:a≤9000) (he:e≤9000) (key cell:UInt64) (on:Bool) {b1 b2 b3:Nat} (d12:b1≠b2) (d13:b1≠b3) (d23:b2≠b3) (x1:b1≠x.xb) (x2:b2≠x.xb) (x3:b3≠x.xb)
   (f1:h b1=none) (f2:h b2=none) (f3:h b3=none) {i:Nat} (hi:i<X.K) {ev':List Ev} {es' gs' s:Sl} {g:Hp} (R:IRun G ws B X x (a+i) (e+i) (kick G (fun p=>ws.getD p 0) X i 0 S (key,cell) on []).1 ev' es' gs' g) (v:Mv (SFo G B es gs) h (SFo G B es' gs') g)
   (L:InsL G B x es' gs' b1 b2 b3 s g (kick G (fun p=>ws.getD p 0) X i 0 S (key,cell) on []).2.2.1 (kick G (fun p=>ws.getD p 0) X i 0 S (key,cell) on []).2.1) (O:OwnM 9 chf h g s (kick G (fun p=>ws.getD p 0) X i 0 S (key,cell) on []).2.2.2) (hl:(kick G (fun p=>ws.getD p 0) X i 0 S (key,cell) on []).2.2.2.length≤i) {K:Sl→Hp→Prop}
   (hk:∀ev2 es2 gs2 s2 g2,IRun G ws B X x (a+(i+1)) (e+(i+1)) (kick G (fun p=>ws.getD p 0) X (i+1) 0 S (key,cell) on []).1 ev2 es2 gs2 g2→Mv (SFo G B es gs) h (SFo G B es2 gs2) g2 →
     InsL G B x es2 gs2 b1 b2 b3 s2 g2 (kick G (fun p=>ws.getD p 0) X (i+1) 0 S (key,cell) on []).2.2.1 (kick G (fun p=>ws.getD p 0) X (i+1) 0 S (key,cell) on []).2.1→OwnM 9 chf h g2 s2 (kick G (fun p=>ws.getD p 0) X (i+1) 0 S (key,cell) on []).2.2.2→(kick G (fun p=>ws.getD p 0) X (i+1) 0 S (key,cell) on []).2.2.2.length≤i+1→K s2 g2) :
   ∃(t2:Bool),hcell g b2 0=some (Value.bool t2)∧ifB (!t2)
    (∃(o2:Option Pt),hcell g b1 0=some (vpn o2)∧callK prog 50 [vpn o2] g fun v1 h6=>v1=Value.tuple #[]∧K s h6)
    (∃(o3:Option Pt),hcell g b1 0=some (vpn o3)∧(Int.ofNat 2=0→False)∧∃(y1:UInt64),hcell g b3 0=some (vu y1)∧callK prog 44 [vpn o3,Value.int IntKind.i64 (Int.tmod (i:Int) 2),vu y1] g fun v2 h7=>∃(y2:UInt64),v2=vu y2 ∧
      newK h7 (Obj.cells #[Value.int IntKind.u64 0,Value.int IntKind.u64 0,Value.int IntKind.u64 0,Value.int IntKind.u64 0,Value.int IntKind.u64 0,Value.int IntKind.u64 0,Value.int IntKind.u64 0,Value.int IntKind.u64 0,Value.int IntKind.u64 0] 121) fun b4 h8=>storeK h8 { b:=b4,o:=0 } [vu y2,vu 0,vu 0,vu 0,vu 0,vu 0,vu 0,vu 0,vu 0] fun h9 =>
      ∃(o4:Option Pt),hcell h9 b1 0=some (vpn o4)∧∃(q5:Pt),o4=some q5∧∃(o5:Option Pt),hcell h9 q5.b q5.o=some (vpn o5)∧∃(y3:UInt64),hcell h9 b4 0=some (vu y3)∧∃(y4:UInt64),hcell h9 b3 0=some (vu y4)∧∃(y5:UInt64),hcell h9 b3 (0+1)=some (vu y5) ∧
      callK prog 51 [Value.agg #[vu y4,vu y5]] h9 fun v3 h10=>∃(c1:Vector UInt64 8),v3=Value.agg (Array.map vu c1.toArray)∧(hcell h10 b4 0=some (vu y3)∧True)∧(hcell h10 q5.b q5.o=some (vpn o5)∧True)∧(hcell h10 b1 0=some (vpn o4)∧True) ∧
      callK prog 43 [vpn o5,Value.int IntKind.i64 1,vu y3,Value.agg (Array.map vu c1.toArray)] h10 fun v4 h11=>∃(c2:Vector UInt64 8),∃(t3:Bool),v4=Value.tuple #[Value.agg (Array.map vu c2.toArray),Value.bool t3]∧storeK h11 { b:=b4,o:=0+1 } (SV.cells (SV.ws 8 c2)) fun h12 =>
      ∃(y6:UInt64),hcell h12 b4 0=some (vu y6)∧∃(c3:Vector UInt64 8),rdW h12 b4 (0+1) c3∧newK h12 (Obj.cells (List.toArray (vu y6::(SV.cells (SV.ws 8 c3)++[]++[]))) 121) fun b5 h13=>appK prog 119 s (SV.s { p:=some { b:=b5,o:=0 },len:=1,cap:=1 }) h13 fun s2 h14 =>
      ∃(c4:Vector UInt64 8),rdW h14 b4 1 c4∧callK prog 45 [Value.agg (Array.map vu c4.toArray)] h14 fun v5 h15=>∃(y7:UInt64),∃(y8:UInt64),∃(t4:Bool),v5=Value.tuple #[Value.agg #[vu y7,vu y8],Value.bool t4]∧storeK h15 ⟨b3,0⟩ [vu y7,vu y8] fun h16=>storeK h16 ⟨b2,0⟩ [Value.bool t4] fun h17=>K s2 h17):=by
 have hKs:=kick_snoc (G:=G) (w:=fun p=>ws.getD p 0) (X:=X) i 0 S (key,cell) on []
 rw[Nat.zero_add] at hKs
 rw[hKs] at hk
 clear hKs
 generalize kick G (fun p=>ws.getD p 0) X i 0 S (key,cell) on []=r at *
 obtain⟨S1,k1,on1,ch⟩:=r
 have hKi:=F.K
 refine⟨on1,rd1 L.c2 rfl,?_⟩
 cases on1 with
 | false =>
   refine ifB_pos rfl ⟨some ⟨x.xb,0⟩,rd1 L.c1 rfl,(cuk_blank F R (by omega) (by omega)).mono ?_⟩
   rintro _ g2 ⟨ev2,es2,gs2,rfl,R2,v2⟩
   have p:∀ {b:Nat} {o:Obj},g b=some o→¬SFo G B es' gs' b→g2 b=some o∧¬SFo G B es2 gs2 b:=fun hb hn=>⟨v2.get hb hn,v2.out (by rw[hb];simp) hn⟩
   refine⟨rfl,hk ev2 es2 gs2 s g2 R2 (v.trans v2) ⟨(p L.c1 L.n1).1,(p L.c2 L.n2).1,(p L.c3 L.n3).1,(p L.c1 L.n1).2,(p L.c2 L.n2).2,(p L.c3 L.n3).2,fun q hq=>⟨v2.out (O.blk hq).2 (L.ns q hq).1,(L.ns q hq).2⟩⟩ (O.move fun q hq=>v2.2.1 _ (O.blk hq).2 (L.ns q hq).1) (by show ch.length≤i+1;have:ch.length≤i:=hl;omega)⟩
 | true =>
   refine ifB_neg rfl ⟨some ⟨x.xb,0⟩,rd1 L.c1 rfl,by decide,_,rd1 L.c3 rfl,?_⟩
   rw[show Int.tmod (i:Int) 2=((i%2:Nat):Int) from rfl]
   have hi2:i%2<2:=Nat.mod_lt _ (by decide)
   refine(cuk_block F R.ix hi2 k1.1).mono ?_
   rintro _ g2 ⟨rfl,kk2⟩
   refine⟨_,rfl,newC fun b4 g3 f4 e4 kk3=>?_⟩
   have kk23:=kk2.trans kk3
   have hb4:h b4=none:=v.2.2 b4 (kk2.free f4)
   have ne4:∀ {b:Nat} {o:Obj},g b=some o→b≠b4:=fun hb e=>by
     have:=kk2.get hb
     rw[e,f4] at this;cases this
   refine stMW (v.more kk23) hb4 e4 rfl fun g5 v5 e5 o5=>?_
   have g1b:∀ {b:Nat} {o:Obj},g b=some o→g5 b=some o:=fun hb=>(o5 _ (ne4 hb)).trans (kk23.get hb)
   have R5:=(R.keep F kk2).loc F f4 kk3 o5
   have nb4:¬SFo G B es' gs' b4:=(R.keep F kk2).r.out F.c.o f4
   refine⟨some ⟨x.xb,0⟩,rd1 (g1b L.c1) rfl,_,rfl,some ⟨B.sb,0⟩,rd1 R5.ix rfl,_,rd1 e5 rfl,_,rd1 (g1b L.c3) rfl,_,rd1 (g1b L.c3) rfl,?_⟩
   refine(cuk_data k1).to fun g6 kk6=>⟨_,rfl,⟨rd1 (kk6.get e5) rfl,trivial⟩,⟨rd1 (kk6.get R5.ix) rfl,trivial⟩,⟨rd1 (kk6.get (g1b L.c1)) rfl,trivial⟩,?_⟩
   have R6:=R5.keep F kk6
   refine(irun_access F R6 (by omega) (by omega) (op:= .put (eDat k1)) (k:=1) (d:=eDat k1) ⟨rfl,rfl⟩ (.inr (.inl rfl)) (XP.blk_lt F.c.xo hi2 k1.1)).mono ?_
   rintro _ g7 ⟨ev7,es7,gs7,rfl,R7,v7⟩
   have e6:=kk6.get e5
   have e7:=v7.get e6 nb4
   have nb47:=v7.out (by rw[e6];simp) nb4
   have v07:=(v5.more kk6).trans v7
   have p7:∀ {b:Nat} {o:Obj},g b=some o→¬SFo G B es' gs' b→g7 b=some o∧¬SFo G B es7 gs7 b:=fun hb hn=>⟨v7.get (kk6.get (g1b hb)) hn,v7.out (by rw[kk6.get (g1b hb)];simp) hn⟩
   have O7:OwnM 9 chf h g7 s ch:=O.move fun q hq=>by
     have hb:=(O.blk hq).2
     have hq4:q.b≠b4:=fun e=>hb (by rw[e];exact kk2.free f4)
     have h5:g5 q.b=g q.b:=by rw[o5 _ hq4,kk23 _ hb]
     rw[v7.2.1 _ (by rw[kk6 _ (by rw[h5];exact hb),h5];exact hb) (L.ns q hq).1,kk6 _ (by rw[h5];exact hb),h5]
   have ns7:∀q,s.q=some q→¬SFo G B es7 gs7 q.b:=fun q hq=>by
     have hb:=(O.blk hq).2
     have hq4:q.b≠b4:=fun e=>hb (by rw[e];exact kk2.free f4)
     have h5:g5 q.b=g q.b:=by rw[o5 _ hq4,kk23 _ hb]
     exact v7.out (by rw[kk6 _ (by rw[h5];exact hb),h5];exact hb) (L.ns q hq).1
   have hks:kstep G (fun p=>ws.getD p 0) X i (S1,k1,true,ch)=((stAcc G (fun p=>ws.getD p 0) (.put (eDat k1)) (X.blk (i%2) k1.1) S1).1,rEnt (stAcc G (fun p=>ws.getD p 0) (.put (eDat k1)) (X.blk (i%2) k1.1) S1).2.1,(stAcc G (fun p=>ws.getD p 0) (.put (eDat k1)) (X.blk (i%2) k1.1) S1).2.1[0]==1,ch++[(X.blk (i%2) k1.1,(stAcc G (fun p=>ws.getD p 0) (.put (eDat k1)) (X.blk (i%2) k1.1) S1).2.1)]):=rfl
   rw[hks] at hk
   clear hks
   generalize (stAcc G (fun p=>ws.getD p 0) (.put (eDat k1)) (X.blk (i%2) k1.1) S1).1=S2 at *
   generalize (stAcc G (fun p=>ws.getD p 0) (.put (eDat k1)) (X.blk (i%2) k1.1) S1).2.2=td at *
   generalize (stAcc G (fun p=>ws.getD p 0) (.put (eDat k1)) (X.blk (i%2) k1.1) S1).2.1=d2 at *
   refine⟨_,_,rfl,?_⟩
   refine stM v07 hb4 e7 (by simp[SV.cells]) fun g8 v8 e8 o8=>?_
   rw[chf_set (UInt64.ofNat (X.blk (i%2) k1.1)) d2 _ rfl rfl] at e8
   have e8:g8 b4=some (.cells (chf (X.blk (i%2) k1.1,d2)).toArray 121 (0,0)):=e8
   obtain⟨cg0,cg1⟩:=chf_get e8
   have ne47:∀ {b:Nat} {o:Obj},g b=some o→b≠b4:=ne4
   have R8:=R7.same (h':=g8) fun y hy=>o8 y fun e=>by
     rcases hy with hy|hy
     · exact nb47 (e▸hy)
     · have:=R.ix;exact ne4 this (hy.symm.trans e)
   have s4:∀q,s.q=some q→q.b≠b4:=fun q hq e=>(O.blk hq).2 (by rw[e];exact kk2.free f4)
   have O8:OwnM 9 chf h g8 s ch:=O7.move fun q hq=>o8 _ (s4 q hq)
   refine⟨_,cg0,_,cg1,?_⟩
   rw[List.append_nil,List.append_nil]
   have hchl:ch.length≤i:=hl
   refine OwnM.push rtCh chf9 chf_one O8 [(X.blk (i%2) k1.1,d2)] (by simp[chf]) rfl (fun b hb=>v8.2.2 b hb) (by simp;omega) (by decide) fun s2 g9 O9 off9 w9 fr9=>?_
   have v9:Mv (SFo G B es gs) h (SFo G B es7 gs7) g9:=v8.app off9 fr9 fun q hq=>(O8.blk hq).1
   have e9:g9 b4=_:=(off9 b4 (by rw[e8];simp) fun q hq e=>s4 q hq e.symm).trans e8
   have q9:∀ {b:Nat} {o:Obj},g b=some o→¬SFo G B es' gs' b→(∀q,s.q=some q→q.b≠b)→g9 b=some o:=fun {b o} hb hn hs=>by
     have h8:g8 b=some o:=(o8 b (ne4 hb)).trans (p7 hb hn).1
     rw[off9 b (by rw[h8];simp) fun q hq e=>hs q hq e.symm,h8]
   have R9:IRun G ws B X x (a+i+1) (e+i+1) S2 ev7 es7 gs7 g9:=R8.same fun y hy=>off9 y (R8.dom F hy) fun q hq e=>by
     rcases hy with hy|hy
     · exact ns7 q hq (e▸hy)
     · exact(L.ns q hq).2.2.2.2 (e.symm.trans hy)
   have s2n:∀q,s2.q=some q→¬SFo G B es7 gs7 q.b∧q.b≠b1∧q.b≠b2∧q.b≠b3∧q.b≠x.xb:=fun q hq=>by
     rcases w9 q hq with ⟨p,hp,e⟩|hn
     · rw[e];exact⟨ns7 p hp,(L.ns p hp).2⟩
     · have hh:∀ {b:Nat} {o:Obj},g b=some o→¬SFo G B es' gs' b→q.b≠b:=fun {b o} hb hnn e=>by
         have h8:g8 b=some o:=(o8 b (ne4 hb)).trans (p7 hb hnn).1
         rw[e,h8] at hn;cases hn
       exact⟨R8.r.out F.c.o hn,hh L.c1 L.n1,hh L.c2 L.n2,hh L.c3 L.n3,hh R.ix R.nx⟩
   obtain⟨_,cg19⟩:=chf_get e9
   refine⟨_,cg19,?_⟩
   refine(cuk_read d2).to fun g10 kk10=>⟨_,_,_,rfl,?_⟩
   have c3':=kk10.get (q9 L.c3 L.n3 fun q hq=>(L.ns q hq).2.2.2.1)
   have c2':=kk10.get (q9 L.c2 L.n2 fun q hq=>(L.ns q hq).2.2.1)
   have c1':=kk10.get (q9 L.c1 L.n1 fun q hq=>(L.ns q hq).2.1)
   have n17:=(p7 L.c1 L.n1).2
   have n27:=(p7 L.c2 L.n2).2
   have n37:=(p7 L.c3 L.n3).2
   refine stMW (v9.more kk10) f3 c3' rfl fun g11 v11 e11 o11=>?_
   refine stMW v11 f2 ((o11 b2 d23).trans c2') rfl fun g12 v12 e12 o12=>?_
   have R12:=((R9.keep F kk10).same (h':=g11) fun y hy=>o11 y fun e=>by
     rcases hy with hy|hy
     · exact n37 (e▸hy)
     · exact x3 (e.symm.trans hy)).same (h':=g12) fun y hy=>o12 y fun e=>by
     rcases hy with hy|hy
     · exact n27 (e▸hy)
     · exact x2 (e.symm.trans hy)
   refine hk ev7 es7 gs7 s2 g12 R12 v12 ⟨(o12 b1 d12).trans ((o11 b1 d13).trans c1'),e12,(o12 b3 (Ne.symm d23)).trans e11,n17,n27,n37,s2n⟩ ?_ (by rw[List.length_append,List.length_singleton];omega)
   exact(O9.keep kk10).move fun q hq=>by rw[o12 _ (s2n q hq).2.2.1,o11 _ (s2n q hq).2.2.2.1]
end
end Go.Proofs.Tryz
/- A cuckoo index in the heap: an insertion, as a whole. -/
namespace Go.Proofs.Tryz
open Go Go.Sh Go.RowKit
set_option maxRecDepth 8000
theorem mv_round {F F':Nat→Prop} {g h34 h36:Hp} {k:Nat} {r1 r2:Obj} (hk:g k=some r1) (kk:Keep g h34) (v:Mv F (upd h34 k r2) F' h36):Mv F g F' (upd h36 k r1):=by
 refine⟨fun b hb=>?_,fun b hb hn=>?_,fun b hb=>?_⟩
 · rcases v.1 b hb with h|h
   · exact .inl h
   · by_cases c:b=k
     · rw[c,upd_same] at h;cases h
     · rw[upd_ne _ _ c] at h;exact .inr (kk.free h)
 · by_cases c:b=k
   · rw[c,upd_same,hk]
   · have h1:upd h34 k r2 b=g b:=by rw[upd_ne _ _ c,kk b hb]
     rw[upd_ne _ _ c,v.2.1 b (by rw[h1];exact hb) hn,h1]
 · by_cases c:b=k
   · rw[c,upd_same] at hb;cases hb
   · rw[upd_ne _ _ c] at hb
     have:=v.2.2 b hb
     rw[upd_ne _ _ c] at this
     exact kk.free this
section
variable {G:SP} {ws:List UInt64} {B:StB} {X:XP} {x:IxS} {a e:Nat} {S:SSt} {ev:List Ev} {es gs:Sl} {h:Hp}
def rsS (G:SP) (w:Nat→UInt64) (bb:Bool) (L:List (Nat×Dat)) (S:SSt) (j:Nat):SSt:=if bb then undo G w (L.reverse.take j) S else blanks G w j S
theorem rsS_t {w:Nat→UInt64} {L:List (Nat×Dat)} {S:SSt} {j:Nat} (hj:j<L.length):rsS G w true L S (j+1)=(stAcc G w (.put (L[L.length-1-j]'(by omega)).2) (L[L.length-1-j]'(by omega)).1 (rsS G w true L S j)).1:=by
 have hr:j<L.reverse.length:=by rw[List.length_reverse];exact hj
 show undo G w (L.reverse.take (j+1)) S=_
 rw[←List.take_append_getElem hr,undo_snoc]
 have:L.reverse[j]=L[L.length-1-j]'(by omega):=by rw[List.getElem_reverse]
 rw[this];rfl
theorem rsS_f {w:Nat→UInt64} {L:List (Nat×Dat)} {S:SSt} {j:Nat}:rsS G w false L S (j+1)=blankS G w (rsS G w false L S j):=blanks_snoc j S
theorem ins_range (F:IFix G B X x) (R:IRun G ws B X x a e S ev es gs h) (ha:a+X.K≤9500) (he:e+X.K≤9500) {b1 b2:Nat} {T1 T2:TypeId} {bb:Bool} (c1:h b1=some (.cells #[vp ⟨x.xb,0⟩] T1 (0,0))) (c2:h b2=some (.cells #[.bool bb] T2 (0,0))) (n1:¬SFo G B es gs b1) (n2:¬SFo G B es gs b2)
   {s:Sl} {L:List (Nat×Dat)} (rs:RdM chf h s L) (hL:L.length=X.K) (ns:∀q,s.q=some q→0<L.length→¬SFo G B es gs q.b) (hb:bb=true→∀y∈L,y.1<2*X.T) {Q:Value→Hp→Prop}
   (hQ:∀ev' es' gs' h',IRun G ws B X x (a+X.K) (e+X.K) (rsS G (fun p=>ws.getD p 0) bb L S X.K) ev' es' gs' h'→Mv (SFo G B es gs) h (SFo G B es' gs') h'→Q (.bool (!bb)) h') :
   callK prog 53 [vs s] h fun v9 h31=>∃(v10:Value),v9=v10∧True∧∀(z1:Loop) (k5:Nat),h31 k5=none →
     (∀(v11:Value) (x15:UInt64) (c8:Vector UInt64 8) (h32:Hp) (J4:Value→Hp→Prop),h32 k5=some (rdyL z1) →
       (newK h32 (Obj.cells #[Value.int IntKind.u64 0,Value.int IntKind.u64 0,Value.int IntKind.u64 0,Value.int IntKind.u64 0,Value.int IntKind.u64 0,Value.int IntKind.u64 0,Value.int IntKind.u64 0,Value.int IntKind.u64 0,Value.int IntKind.u64 0] 121) fun b11 h33=>storeK h33 { b:=b11,o:=0 } (vu x15::(SV.cells (SV.ws 8 c8)++[])) fun h34=>h34 k5=some (rdyL z1)∧∃(t9:Bool),hcell (upd h34 k5 (busyL z1)) b2 0=some (Value.bool t9)∧ifB (!t9)
         (∃(o13:Option Pt),hcell (upd h34 k5 (busyL z1)) b1 0=some (vpn o13)∧callK prog 50 [vpn o13] (upd h34 k5 (busyL z1)) fun v12 h35=>v12=Value.tuple #[]∧h35 k5=some (busyL z1)∧J4 (Value.bool true) (upd h35 k5 (rdyL z1)))
         (∃(o14:Option Pt),hcell (upd h34 k5 (busyL z1)) b1 0=some (vpn o14)∧∃(q16:Pt),o14=some q16∧∃(o15:Option Pt),hcell (upd h34 k5 (busyL z1)) q16.b q16.o=some (vpn o15)∧∃(x16:UInt64),hcell (upd h34 k5 (busyL z1)) b11 0=some (vu x16)∧∃(c9:Vector UInt64 8),rdW (upd h34 k5 (busyL z1)) b11 1 c9∧callK prog 43 [vpn o15,Value.int IntKind.i64 1,vu x16,Value.agg (Array.map vu c9.toArray)] (upd h34 k5 (busyL z1)) fun v13 h36=>∃(c10:Vector UInt64 8),∃(t10:Bool),v13=Value.tuple #[Value.agg (Array.map vu c10.toArray),Value.bool t10]∧h36 k5=some (busyL z1)∧J4 (Value.bool true) (upd h36 k5 (rdyL z1)))) →
       yldK prog k5 [v11,Value.agg (List.toArray (vu x15::(SV.cells (SV.ws 8 c8)++[])))] h32 fun v14 h37=>J4 v14 h37) →
     callF prog v10 [yv k5] (upd h31 k5 (rdyL z1)) fun _ h38=>h38 k5=some (rdyL z1)∧∃(t11:Bool),hcell (upd h38 k5 (goneL z1 none)) b2 0=some (Value.bool t11)∧Q (Value.bool (!t11)) (upd h38 k5 (goneL z1 none)):=by
 refine c53 _ ?_
 unfold G53
 refine newC fun bk h31 fk ek kk1=>⟨_,rfl,trivial,fun z k5 hk5 hr=>⟨rfl,?_⟩⟩
 have R31:=R.keep F kk1
 have kz:Keep h31 (upd h31 k5 (rdyL z)):=(Keep.refl h31).upd hk5 _
 have nk5:¬SFo G B es gs k5:=R31.r.out F.c.o hk5
 have nbk:¬SFo G B es gs bk:=R.r.out F.c.o fk
 have k5x:k5≠x.xb:=fun e=>by have:=R31.ix;rw[←e,hk5] at this;cases this
 have Rg0:=R31.keep F kz
 have K0:=kk1.trans kz
 have c10:=K0.get c1
 have c20:=K0.get c2
 have ek0:=kz.get ek
 have rs0:=rs.keep chf9 K0
 have z0:upd h31 k5 (rdyL z) k5=some (rdyL z):=upd_same _ _ _
 generalize hg0:upd h31 k5 (rdyL z)=g0 at *
 have hKk:=F.K
 have hsl:=rs.len
 refine c96 _ _ ?_
 unfold G96
 refine⟨s,rd1 ek0 rfl,?_⟩
 refine⟨fun v1 q1 n1 g kk=>yv k5=v1∧(⟨bk,0⟩:Pt)=q1∧∃(j:Nat) (ev':List Ev) (es' gs':Sl),n1=(X.K:Int)-1-j∧j≤X.K∧kk=X.K-j∧IRun G ws B X x (a+j) (e+j) (rsS G (fun p=>ws.getD p 0) bb L S j) ev' es' gs' g∧Mv (SFo G B es gs) g0 (SFo G B es' gs') g,
   ⟨X.K,rfl,rfl,0,ev,es,gs,by rw[w64_id (by omega) (by omega)];omega,by omega,rfl,?_,Mv.refl _ _⟩,?_⟩
 · have:rsS G (fun p=>ws.getD p 0) bb L S 0=S:=by unfold rsS;cases bb<;>simp[undo,blanks]
   rw[this];exact Rg0
 rintro v1 q1 n1' g kk ⟨rfl,rfl,j,ev',es',gs',rfl,hj,rfl,Rg,vg⟩
 have zg:=vg.get z0 nk5
 have nk5g:=vg.out (by rw[z0];simp) nk5
 have c1g:=vg.get c10 n1
 have c2g:=vg.get c20 n2
 have n1g:=vg.out (by rw[c10];simp) n1
 have n2g:=vg.out (by rw[c20];simp) n2
 have ekg:=vg.get ek0 nbk
 have d1:b1≠k5:=fun e=>by rw[e,z0] at c10;cases c10
 have d2:b2≠k5:=fun e=>by rw[e,z0] at c20;cases c20
 refine ifD (fun h0=>?_) fun hn=>?_
 · have hj':j<X.K:=by omega
   have hjl:X.K-1-j<L.length:=by omega
   have hn1:Int.toNat ((X.K:Int)-1-j)=X.K-1-j:=by omega
   have rsg:RdM chf g s L:=rs0.move fun q hq hl=>vg.2.1 _ (rs0.there chf9 hq hl) (ns q hq hl)
   obtain⟨q,hq⟩:=rsg.ptr (by omega)
   have hc:=flat_at chf9 (rsg.rd q hq) hjl
   have hc0:hcell g q.b (q.o+(X.K-1-j)*9)=some (vu (UInt64.ofNat L[X.K-1-j].1)):=hc.1
   have hc1:rdW g q.b (q.o+(X.K-1-j)*9+1) L[X.K-1-j].2:=fun i hi=>by
     have h2:rdL g q.b (q.o+(X.K-1-j)*9+1) (SV.cells (SV.ws 8 L[X.K-1-j].2)):=hc.2
     rw[rdL_iff] at h2
     have:=h2 i (by simp[SV.cells,hi])
     simpa [SV.cells] using this
   refine⟨s,rd1 ekg rfl,q,hq,by omega,by omega,_,by rw[hn1];exact hc0,_,by rw[hn1];exact hc1,rfl,rfl,?_⟩
   refine hr _ _ _ g _ zg ?_
   refine newC fun b11 h33 f11 e11 k11=>?_
   rw[List.append_nil]
   refine stW k11 f11 e11 (by simp[SV.cells]) fun h34 k34 e34 o34=>⟨k34.get zg,?_⟩
   have e34:h34 b11=some (.cells (chf L[X.K-1-j]).toArray 121 (0,0)):=e34
   have d11:b11≠k5:=fun e=>by rw[e,zg] at f11;cases f11
   have hB:∀ {b:Nat} {o:Obj},h34 b=some o→b≠k5→upd h34 k5 (busyL z) b=some o:=fun hb hn=>by rw[upd_ne _ _ hn];exact hb
   have RB:IRun G ws B X x (a+j) (e+j) (rsS G (fun p=>ws.getD p 0) bb L S j) ev' es' gs' (upd h34 k5 (busyL z)):=(Rg.keep F k34).same fun y hy=>upd_ne _ _ fun e=>by
     rcases hy with hy|hy
     · exact nk5g (e▸hy)
     · exact k5x (e.symm.trans hy)
   have zB:upd h34 k5 (busyL z) k5=some (busyL z):=upd_same _ _ _
   refine⟨bb,rd1 (hB (k34.get c2g) d2) rfl,?_⟩
   have done:∀ {ev2:List Ev} {es2 gs2:Sl} {h36:Hp},IRun G ws B X x (a+j+1) (e+j+1) (rsS G (fun p=>ws.getD p 0) bb L S (j+1)) ev2 es2 gs2 h36→Mv (SFo G B es' gs') (upd h34 k5 (busyL z)) (SFo G B es2 gs2) h36→h36 k5=some (busyL z)∧IRun G ws B X x (a+(j+1)) (e+(j+1)) (rsS G (fun p=>ws.getD p 0) bb L S (j+1)) ev2 es2 gs2 (upd h36 k5 (rdyL z))∧Mv (SFo G B es gs) g0 (SFo G B es2 gs2) (upd h36 k5 (rdyL z)):=fun {ev2 es2 gs2 h36} R2 v2=>by
     have nk2:=v2.out (by rw[zB];simp) nk5g
     refine⟨v2.get zB nk5g,R2.same fun y hy=>upd_ne _ _ fun e=>?_,vg.trans (mv_round zg k34 v2)⟩
     rcases hy with hy|hy
     · exact nk2 (e▸hy)
     · exact k5x (e.symm.trans hy)
   cases bb with
   | false =>
     refine ifB_pos rfl ⟨some ⟨x.xb,0⟩,rd1 (hB (k34.get c1g) d1) rfl,(cuk_blank F RB (by omega) (by omega)).mono ?_⟩
     rintro _ h36 ⟨ev2,es2,gs2,rfl,R2,v2⟩
     rw[←rsS_f (L:=L)] at R2
     obtain⟨z2,R3,v3⟩:=done R2 v2
     exact⟨rfl,z2,true,rfl,X.K-(j+1),by omega,rfl,rfl,j+1,ev2,es2,gs2,by rw[w64_id (by omega) (by omega)];omega,by omega,rfl,R3,v3⟩
   | true =>
     obtain⟨g0',g1'⟩:=chf_get (hB e34 d11)
     refine ifB_neg rfl ⟨some ⟨x.xb,0⟩,rd1 (hB (k34.get c1g) d1) rfl,_,rfl,some ⟨B.sb,0⟩,rd1 RB.ix rfl,_,g0',_,g1',?_⟩
     refine(irun_access F RB (by omega) (by omega) (op:= .put L[X.K-1-j].2) (k:=1) (d:=L[X.K-1-j].2) ⟨rfl,rfl⟩ (.inr (.inl rfl)) (hb rfl _ (List.getElem_mem hjl))).mono ?_
     rintro _ h36 ⟨ev2,es2,gs2,rfl,R2,v2⟩
     have hst:=rsS_t (G:=G) (w:=fun p=>ws.getD p 0) (L:=L) (S:=S) (j:=j) (by omega)
     simp only[hL] at hst
     rw[←hst] at R2
     obtain⟨z2,R3,v3⟩:=done R2 v2
     exact⟨_,_,rfl,z2,true,rfl,X.K-(j+1),by omega,rfl,rfl,j+1,ev2,es2,gs2,by rw[w64_id (by omega) (by omega)];omega,by omega,rfl,R3,v3⟩
 · have hj':j=X.K:=by omega
   subst hj'
   refine⟨zg,bb,rd1 (by rw[upd_ne _ _ d2];exact c2g) rfl,hQ ev' es' gs' _ (Rg.same fun y hy=>upd_ne _ _ fun e=>?_) ?_⟩
   · rcases hy with hy|hy
     · exact nk5g (e▸hy)
     · exact k5x (e.symm.trans hy)
   · have v:=(mvK K0 (SFo G B es gs)).trans vg
     have hk:h k5=none:=kk1.free hk5
     refine⟨v.1,fun b hb' hn'=>?_,fun b hb'=>?_⟩
     · have:b≠k5:=fun e=>hb' (by rw[e];exact hk)
       rw[upd_ne _ _ this];exact v.2.1 b hb' hn'
     · by_cases c:b=k5
       · rw[c];exact hk
       · rw[upd_ne _ _ c] at hb';exact v.2.2 b hb'
end
end Go.Proofs.Tryz
/- A cuckoo index in the heap: an insertion, told. -/
namespace Go.Proofs.Tryz
open Go Go.Sh Go.RowKit
set_option maxRecDepth 8000
section
variable {G:SP} {ws:List UInt64} {B:StB} {X:XP} {x:IxS} {a e:Nat} {S:SSt} {ev:List Ev} {es gs:Sl} {h:Hp}
theorem mask_gt (c:Bool):decide (mask c=0)= !c:=by cases c<;>decide
theorem zRow9 {n:Nat}:(zRow (if n*9=0 then #[] else Value.cells (.agg #[.int .u64 0,.int .u64 0,.int .u64 0,.int .u64 0,.int .u64 0,.int .u64 0,.int .u64 0,.int .u64 0,.int .u64 0])) (n*9))=((List.replicate n (0,dat0)).flatMap chf).toArray:=by
 have hz:Value.cells (.agg #[.int .u64 0,.int .u64 0,.int .u64 0,.int .u64 0,.int .u64 0,.int .u64 0,.int .u64 0,.int .u64 0,.int .u64 0])=Array.replicate 9 (vu 0):=rfl
 have hc:chf (0,dat0)=List.replicate 9 (vu 0):=rfl
 apply Array.ext_getElem?
 intro i
 have hl:((List.replicate n (0,dat0)).flatMap chf).length=n*9:=by rw[flat_length chf9];simp
 by_cases c:i<n*9
 · rw[if_neg (by omega),hz]
   have h1:=flat_get chf9 (l:=List.replicate n (0,dat0)) (i:=i/9) (j:=i%9) (by simp;omega) (by omega)
   rw[show i/9*9+i%9=i by omega] at h1
   simp only[List.getElem_replicate,hc] at h1
   have h2:((List.replicate n (0,dat0)).flatMap chf).toArray[i]? =(List.replicate 9 (vu 0))[i%9]?:=by rw[List.getElem?_toArray,h1]
   rw[h2]
   unfold zRow
   rw[Array.getElem?_map,Array.getElem?_range,if_pos c,Option.map_some]
   have hi9:i%9<9:=Nat.mod_lt _ (by decide)
   have h9:(Array.replicate 9 (vu 0))[i%(Array.replicate 9 (vu 0)).size]! =vu 0:=by
     rw[show(Array.replicate 9 (vu 0)).size=9 by simp,getElem!_pos (Array.replicate 9 (vu 0)) (i%9) (by simp;omega)];simp
   rw[h9,List.getElem?_replicate,if_pos hi9]
 · rw[Array.getElem?_eq_none (by rw[zRow_size];omega),List.getElem?_toArray,List.getElem?_eq_none (by rw[hl];omega)]
def insF (r:KSt) (o:Option Nat):SSt:=if r.2.2.1&&o.isSome then setR r.1 (0,(fPl o).toNat) (spC r.2.1) else r.1
theorem ins_eq {w:Nat→UInt64} (hsp:X.sp≤1000) (key cell:UInt64) (on:Bool) (S:SSt) {r:KSt} (hr:kick G w X X.K 0 S (key,cell) on []=r) {o:Option Nat} (ho:sfirst (fun i=>(S.R 0 i)[0]==0) X.sp=o) {L:List (Nat×Dat)} (hL:(r.2.2.1&&o.isNone)=true→L=r.2.2.2∧L.length=X.K) :
   insS G w X key cell on S=(rsS G w (r.2.2.1&&o.isNone) L (insF r o) X.K,!(r.2.2.1&&o.isNone)):=by
 unfold insS
 simp only
 rw[hr,ho]
 obtain⟨S1,k,on1,ch⟩:=r
 cases on1 with
 | false=>rfl
 | true =>
   cases o with
   | some i =>
     have hi:=(sfirst_some ho).1
     show(blanks G w X.K (setR S1 (0,i) (spC k)),true)=(blanks G w X.K (setR S1 (0,(fPl (some i)).toNat) (spC k)),true)
     have:(fPl (some i)).toNat=i:=by show(UInt64.ofNat i).toNat=i;rw[UInt64.toNat_ofNat'];omega
     rw[this]
   | none =>
     obtain⟨h1,h2⟩:=hL rfl
     show(undo G w ch.reverse S1,false)=(undo G w (L.reverse.take X.K) S1,false)
     rw[List.take_of_length_le (by rw[List.length_reverse];omega),h1]
theorem cuk_insert (F:IFix G B X x) (R:IRun G ws B X x a e S ev es gs h) (ha:a≤9000) (he:e≤9000) (key cell:UInt64) (on:Bool) :
   callK prog 15 [vp ⟨x.xb,0⟩,vu key,vu cell,.bool on] h fun v h'=>∃ev' es' gs',v= .bool (insS G (fun p=>ws.getD p 0) X key cell on S).2∧IRun G ws B X x (a+2*X.K) (e+2*X.K+2) (insS G (fun p=>ws.getD p 0) X key cell on S).1 ev' es' gs' h'∧Mv (SFo G B es gs) h (SFo G B es' gs') h':=by
 suffices H:∀Q:Value→Hp→Prop,(∀v h',(∃ev' es' gs',v= .bool (insS G (fun p=>ws.getD p 0) X key cell on S).2∧IRun G ws B X x (a+2*X.K) (e+2*X.K+2) (insS G (fun p=>ws.getD p 0) X key cell on S).1 ev' es' gs' h'∧Mv (SFo G B es gs) h (SFo G B es' gs') h')→Q v h')→callK prog 15 [vp ⟨x.xb,0⟩,vu key,vu cell,.bool on] h Q from H _ fun _ _ h=>h
 intro Q hQ
 have hKk:=F.K
 refine c15 _ _ _ _ ?_
 unfold G15
 refine newC fun b1 h1 f1 e1 k1=>newC fun b2 h2 f2 e2 k2=>newC fun b3 h3 f3 e3 k3=>?_
 have f20:=k1.free f2
 have f30:=k1.free (k2.free f3)
 have d12:b1≠b2:=fun e=>by rw[←e,e1] at f2;cases f2
 have d13:b1≠b3:=fun e=>by rw[←e,k2.get e1] at f3;cases f3
 have d23:b2≠b3:=fun e=>by rw[←e,e2] at f3;cases f3
 have x1:b1≠x.xb:=fun e=>by have:=R.ix;rw[←e,f1] at this;cases this
 have x2:b2≠x.xb:=fun e=>by have:=R.ix;rw[←e,f20] at this;cases this
 have x3:b3≠x.xb:=fun e=>by have:=R.ix;rw[←e,f30] at this;cases this
 refine stW ((k1.trans k2).trans k3) f30 e3 rfl fun h4 k4 e4 o4=>?_
 have c14:h4 b1=_:=(o4 b1 d13).trans (k3.get (k2.get e1))
 have c24:h4 b2=_:=(o4 b2 d23).trans (k3.get e2)
 have R4:=R.keep F k4
 refine⟨some ⟨x.xb,0⟩,rd1 c14 rfl,_,rfl,_,rd1 R4.ix rfl,?_⟩
 refine⟨fun q2 q3 t1 q4 s1 n2 n3 g kk=>(⟨b1,0⟩:Pt)=q2∧(⟨b2,0⟩:Pt)=q3∧(⟨b3,0⟩:Pt)=q4∧n2=(X.K:Int)∧∃(i:Nat) (ev':List Ev) (es' gs':Sl),n3=i∧i≤X.K∧kk=X.K-i∧IRun G ws B X x (a+i) (e+i) (kick G (fun p=>ws.getD p 0) X i 0 S (key,cell) on []).1 ev' es' gs' g∧Mv (SFo G B es gs) h (SFo G B es' gs') g ∧
     InsL G B x es' gs' b1 b2 b3 s1 g (kick G (fun p=>ws.getD p 0) X i 0 S (key,cell) on []).2.2.1 (kick G (fun p=>ws.getD p 0) X i 0 S (key,cell) on []).2.1∧OwnM 9 chf h g s1 (kick G (fun p=>ws.getD p 0) X i 0 S (key,cell) on []).2.2.2∧(kick G (fun p=>ws.getD p 0) X i 0 S (key,cell) on []).2.2.2.length≤i,
   ⟨X.K,rfl,rfl,rfl,rfl,0,ev,es,gs,rfl,by omega,rfl,R4,mvK k4 _,⟨c14,c24,e4,R.r.out F.c.o f1,R.r.out F.c.o f20,R.r.out F.c.o f30,fun q hq=>by cases hq⟩,OwnM.nilS ..,Nat.le_refl _⟩,?_⟩
 rintro q2 q3 t1 q4 s1 n2 n3 g kk ⟨rfl,rfl,rfl,rfl,i,ev',es',gs',rfl,hi,rfl,Rg,vg,Lg,Og,hlg⟩
 refine ifD (fun hlt=>?_) fun hge=>?_
 · have hi':i<X.K:=by omega
   refine ins_loop F R ha he key cell on d12 d13 d23 x1 x2 x3 f1 f20 f30 hi' Rg vg Lg Og hlg fun ev2 es2 gs2 s2 g2 R2 v2 L2 O2 hl2=>⟨X.K-(i+1),by omega,rfl,rfl,rfl,rfl,i+1,ev2,es2,gs2,w64_id (by omega) (by omega),by omega,rfl,R2,v2,L2,O2,hl2⟩
 · have hi':i=X.K:=by omega
   subst hi'
   have hR0:=(kick_pi F.c.o F.c.xo F.c.m F.c.f X.K 0 a S (key,cell) on [] R.p (by omega)).2
   have hlen:=kick_len (G:=G) (w:=fun p=>ws.getD p 0) (X:=X) X.K 0 S (key,cell) on []
   have hblk:=kick_blk (G:=G) (w:=fun p=>ws.getD p 0) F.c.xo X.K 0 S (key,cell) on [] (by simp)
   generalize hr:kick G (fun p=>ws.getD p 0) X X.K 0 S (key,cell) on []=r at *
   refine⟨some ⟨x.xb,0⟩,rd1 Lg.c1 rfl,_,rfl,some ⟨B.m.b,0⟩,rd1 Rg.ix rfl,some ⟨x.xb,0⟩,rd1 Lg.c1 rfl,_,rfl,_,rd1 Rg.ix rfl,?_⟩
   refine(irun_find F Rg (by omega) (key:=0) (by decide) 0).mono ?_
   rintro _ g2 ⟨ev2,es2,rfl,R2,v2⟩
   rw[hR0]
   generalize ho:sfirst (fun i=>(S.R 0 i)[0]==0) X.sp=o at *
   have p2:∀ {b:Nat} {ob:Obj},g b=some ob→¬SFo G B es' gs' b→g2 b=some ob∧¬SFo G B es2 gs' b:=fun hb hn=>⟨v2.get hb hn,v2.out (by rw[hb];simp) hn⟩
   have v02:=vg.trans v2
   have O2:OwnM 9 chf h g2 s1 r.2.2.2:=Og.move fun q hq=>v2.2.1 _ (Og.blk hq).2 (Lg.ns q hq).1
   have ns2:∀q,s1.q=some q→¬SFo G B es2 gs' q.b:=fun q hq=>v2.out (Og.blk hq).2 (Lg.ns q hq).1
   obtain⟨c12,n12⟩:=p2 Lg.c1 Lg.n1
   obtain⟨c22,n22⟩:=p2 Lg.c2 Lg.n2
   obtain⟨c32,n32⟩:=p2 Lg.c3 Lg.n3
   refine⟨_,_,_,rfl,newC fun b6 g3 f6 e6 kk3=>?_⟩
   have hb6:h b6=none:=v02.2.2 b6 f6
   refine wbMW (n:=12) (v02.more kk3) hb6 e6 rfl fun g4 v4 e4' o4'=>?_
   have ne6:∀ {b:Nat} {ob:Obj},g2 b=some ob→g4 b=some ob:=fun hb=>(o4' _ fun e=>by rw[e,f6] at hb;cases hb).trans (kk3.get hb)
   have R4':=R2.loc F f6 kk3 o4'
   have O4:OwnM 9 chf h g4 s1 r.2.2.2:=O2.move fun q hq=>by
     have hb:=(O2.blk hq).2
     rw[o4' _ fun e=>hb (by rw[e];exact f6),kk3 _ hb]
   refine newC fun b7 g5 f7 e7 kk5=>?_
   have hb7:h b7=none:=v4.2.2 b7 f7
   have c35:=kk5.get (ne6 c32)
   refine⟨_,rd1 c35 rfl,_,rd1 c35 rfl,?_⟩
   refine(cuk_data r.2.1).to fun g6 kk6=>⟨_,rfl,newC fun b8 g7 f8 e8 kk7=>?_⟩
   have kk57:=(kk5.trans kk6).trans kk7
   have hb8:h b8=none:=v4.2.2 b8 (kk5.free (kk6.free f8))
   have v7:=v4.more kk57
   have e77:=kk7.get (kk6.get e7)
   have d78:b7≠b8:=fun e=>by have:=kk6.get e7;rw[e,f8] at this;cases this
   refine wbMW (n:=8) v7 hb8 e8 rfl fun g8 v8 e8' o8=>?_
   have e78:g8 b7=_:=(o8 b7 d78).trans e77
   have ry:RdS vu g8 ⟨slPt (some ⟨b8,0⟩) 0 8 1,8,8,none⟩ (eDat r.2.1).toList:=by
     refine⟨by simp,Nat.le_refl _,(by intro h;cases h),fun q hq i hi=>?_⟩
     cases hq
     have hi':i<8:=by simpa using hi
     have:=wb_get e8' hi'
     simpa using this
   refine cpyU ry (q:=⟨b7,0⟩) rfl (c:=8) (by simp) ?_
   rw[List.take_of_length_le (by simp)]
   refine stM v8 hb7 e78 (by simp) fun g9 v9 e9 o9=>?_
   rw[spC_cells] at e9
   have f74:g4 b7=none:=f7
   have f84:g4 b8=none:=kk5.free (kk6.free f8)
   have p9:∀ {b:Nat} {ob:Obj},g4 b=some ob→g9 b=some ob:=fun {b ob} hb=>by
     have h7:b≠b7:=fun e=>by rw[e,f74] at hb;cases hb
     have h8:b≠b8:=fun e=>by rw[e,f84] at hb;cases hb
     rw[o9 b h7,o8 b h8];exact kk57.get hb
   have k49:Keep g4 g9:=fun b hb=>by
     cases hh:g4 b with
     | none=>exact absurd hh hb
     | some ob=>exact p9 hh
   have R9:=R4'.keep F k49
   have O9:=O4.keep k49
   have c19:=p9 (ne6 c12)
   have c29:=p9 (ne6 c22)
   have nb7:¬SFo G B es2 gs' b7:=R4'.r.out F.c.o f74
   have d72:b2≠b7:=fun e=>by have:=ne6 c22;rw[e,f74] at this;cases this
   have d71:b1≠b7:=fun e=>by have:=ne6 c12;rw[e,f74] at this;cases this
   have xb7:b7≠x.xb:=fun e=>by have:=R4'.ix;rw[←e,f74] at this;cases this
   have s7:∀q,s1.q=some q→q.b≠b2:=fun q hq=>(Lg.ns q hq).2.2.1
   refine⟨fun q8 q9 t6 s3 x13 q10 x14 g'=>(⟨b1,0⟩:Pt)=q8∧(⟨b2,0⟩:Pt)=q9∧s1=s3∧fPl o=x13∧(⟨b7,0⟩:Pt)=q10∧mask (r.2.2.1&&o.isSome)=x14∧IRun G ws B X x (a+X.K) (e+X.K+1) r.1 ev2 es2 gs' g'∧Mv (SFo G B es gs) h (SFo G B es2 gs') g'∧g' b1=some (.cells #[vp ⟨x.xb,0⟩] 27 (0,0))∧g' b2=some (.cells #[.bool (r.2.2.1&&o.isNone)] 4 (0,0))∧g' b7=some (.cells (SV.cells (.ws 12 (spC r.2.1))).toArray 56 (0,0))∧OwnM 9 chf h g' s1 r.2.2.2,?_,?_⟩
   · refine⟨_,rd1 c29 rfl,?_⟩
     cases hon:r.2.2.1 with
     | false =>
       refine ifB_neg rfl ⟨rfl,rfl,rfl,rfl,rfl,rfl,R9,v9,c19,?_,e9,O9⟩
       rw[hon] at c29;exact c29
     | true =>
       refine ifB_pos rfl (stMW v9 f20 c29 rfl fun g10 v10 e10 o10=>⟨rfl,rfl,rfl,rfl,rfl,?_,R9.same fun y hy=>o10 y fun e=>?_,v10,(o10 b1 d12).trans c19,?_,(o10 b7 (Ne.symm d72)).trans e9,O9.move fun q hq=>o10 _ (s7 q hq)⟩)
       · rw[Bool.true_and]
       · rcases hy with hy|hy
         · exact n22 (e▸hy)
         · exact x2 (e.symm.trans hy)
       · rw[e10,mask_gt,Bool.true_and];cases o<;>rfl
   rintro q8 q9 t6 s3 x13 q10 x14 g' ⟨rfl,rfl,rfl,rfl,rfl,rfl,Rh,vh,ch1,ch2,ch7,Oh⟩
   refine⟨some ⟨x.xb,0⟩,rd1 ch1 rfl,_,rfl,some ⟨B.m.b,0⟩,rd1 Rh.ix rfl,some ⟨x.xb,0⟩,rd1 ch1 rfl,_,rfl,_,rd1 Rh.ix rfl,_,wb_rd ch7,?_⟩
   refine(irun_put F Rh (by omega) (fPl o) (spC r.2.1) (r.2.2.1&&o.isSome)).mono ?_
   rintro _ g11 ⟨ev11,es11,rfl,R11,v11⟩
   have hF:(if (fPl o).toNat<X.sp∧(r.2.2.1&&o.isSome)=true then setR r.1 (0,(fPl o).toNat) (spC r.2.1) else r.1)=insF r o:=by
     unfold insF
     by_cases c:(r.2.2.1&&o.isSome)=true
     · rw[if_pos c]
       cases o with
       | none=>simp at c
       | some i =>
         have hi:=(sfirst_some ho).1
         have hsp:=F.c.sp
         have:(fPl (some i)).toNat=i:=by show(UInt64.ofNat i).toNat=i;rw[UInt64.toNat_ofNat'];omega
         rw[if_pos ⟨by rw[this];exact hi,c⟩]
     · rw[if_neg c,if_neg (fun h=>c h.2)]
   rw[hF] at R11
   have p11:∀ {b:Nat} {ob:Obj},g' b=some ob→¬SFo G B es2 gs' b→g11 b=some ob∧¬SFo G B es11 gs' b:=fun hb hn=>⟨v11.get hb hn,v11.out (by rw[hb];simp) hn⟩
   obtain⟨c111,n111⟩:=p11 ch1 n12
   obtain⟨c211,n211⟩:=p11 ch2 n22
   have v011:=vh.trans v11
   have O11:OwnM 9 chf h g11 s1 r.2.2.2:=Oh.move fun q hq=>v11.2.1 _ (Oh.blk hq).2 (ns2 q hq)
   have ns11:∀q,s1.q=some q→¬SFo G B es11 gs' q.b:=fun q hq=>v11.out (Oh.blk hq).2 (ns2 q hq)
   refine⟨rfl,fun q14 q15 t8 s4 g12=>(⟨b1,0⟩:Pt)=q14∧(⟨b2,0⟩:Pt)=q15∧∃L:List (Nat×Dat),RdM chf g12 s4 L∧L.length=X.K∧(∀q,s4.q=some q→0<L.length→¬SFo G B es11 gs' q.b)∧((r.2.2.1&&o.isNone)=true→L=r.2.2.2)∧Keep g11 g12,?_,?_⟩
   · refine⟨_,rd1 c211 rfl,?_⟩
     cases hbb:(r.2.2.1&&o.isNone) with
     | true =>
       have hon:r.2.2.1=true:=(Bool.and_eq_true _ _▸hbb:_∧_).1
       have hl2:=hlen hon
       exact ifB_neg rfl ⟨rfl,rfl,r.2.2.2,O11.rd,by rw[hl2];simp,fun q hq _=>ns11 q hq,fun _=>rfl,Keep.refl _⟩
     | false =>
       refine ifB_pos rfl ⟨some ⟨x.xb,0⟩,rd1 c111 rfl,_,rfl,_,rd1 R11.ix rfl,by omega,by omega,by omega,by omega,newC fun b10 g12 f12 e12 k12=>?_⟩
       rw[Int.toNat_natCast] at e12 ⊢
       rw[zRow9] at e12
       refine⟨rfl,rfl,List.replicate X.K (0,dat0),(OwnM.newE (k:=9) chf9 (h0:=g11) f12 e12 rfl (by simp)).rd,by simp,fun q hq _=>?_,(fun h=>by cases h),k12⟩
       cases hq
       exact R11.r.out F.c.o f12
   rintro q14 q15 t8 s4 g12 ⟨rfl,rfl,L,rs,hL,ns4,hbb,k12⟩
   have hLr:(r.2.2.1&&o.isNone)=true→L=r.2.2.2∧L.length=X.K:=fun h=>⟨hbb h,hL⟩
   have heq:=ins_eq (G:=G) (w:=fun p=>ws.getD p 0) F.c.sp key cell on S hr ho hLr
   rw[heq] at hQ
   refine ins_range F (R11.keep F k12) (by omega) (by omega) (k12.get c111) (k12.get c211) n111 n211 rs hL ns4 (fun h y hy=>hblk y (by rw[←hbb h];exact hy)) fun ev' es' gs' h' R' v'=>hQ _ _ ⟨ev',es',gs',rfl,?_,v011.trans ((mvK k12 _).trans v')⟩
   have:=R'
   rw[show a+2*X.K=a+X.K+X.K by omega]
   exact R'.le (by omega)
end
end Go.Proofs.Tryz

/- Chapter 10's smaller parts: how deep, items, blocks, the table gone over. -/
import Derived.Test.YtofgadhgljjhgaaGreatDealC
import Derived.Test.YtofgadhgljjhgaaGreatPla
import Derived.Test.YtofgadhgljjhgaaGreatSrtRow
namespace Go.Proofs.Tryz
open Go Go.Sh Go.RowKit
set_option maxRecDepth 8000
theorem half_fdiv (x:Nat):Int.fdiv (x:Int) (2 ^ min (UInt64.toNat 1) 64)=((x/2:Nat):Int):=by
 show Int.fdiv (x:Int) ((2:Nat):Int)=_
 cases x<;>rfl
theorem path_deep {k a b:Nat} (hk:k≤10) (ha:a<2 ^ k) (hb:b<2 ^ k):PureC prog 171 [.int .i64 (2 ^ k),.int .i64 a,.int .i64 b] (.int .i64 (deepN k a b)):=by
 intro h
 have hp:2 ^ k≤2 ^ 10:=Nat.pow_le_pow_right (by decide) hk
 refine c171 _ _ _ ?_
 unfold G171
 refine(path_has hk ha).to fun h1 k1=>⟨_,rfl,ifB_neg rfl ?_⟩
 refine(path_has hk hb).to fun h2 k2=>⟨_,rfl,ifB_neg rfl ?_⟩
 refine⟨fun n1 n2 n3 n4 g kk=>n1=2 ^ k∧∃j x y:Nat,n2=x∧n3=y∧n4=j∧j≤k∧kk=k-j∧x<2 ^ (k-j)∧y<2 ^ (k-j)∧apartN k a b=j+apartN (k-j) x y∧Keep h g,
   ⟨k,rfl,0,a,b,rfl,rfl,rfl,by omega,rfl,ha,hb,by simp,k1.trans k2⟩,?_⟩
 rintro n1 n2 n3 n4 g kk ⟨rfl,j,x,y,rfl,rfl,rfl,hj,rfl,hx,hy,he,kg⟩
 refine ifN (fun hne=>?_) fun heq=>?_
 · have hxy:x≠y:=fun e=>hne (by rw[e])
   have hjk:j<k:=by
     rcases Nat.lt_or_ge j k with c|c
     · exact c
     · rw[show k-j=0 by omega] at hx hy;simp at hx hy;omega
   have e1:k-j=(k-(j+1))+1:=by omega
   rw[e1] at he hx hy
   rw[Nat.pow_succ] at hx hy
   have e2:apartN (k-(j+1)+1) x y=apartN (k-(j+1)) (x/2) (y/2)+1:=by rw[apartN,if_neg hxy]
   rw[e2] at he
   refine⟨k-(j+1),by omega,rfl,j+1,x/2,y/2,half_fdiv x,half_fdiv y,w64_id (by omega) (by omega),hjk,rfl,by omega,by omega,by rw[he];omega,kg⟩
 · have hxy:x=y:=by omega
   subst hxy
   refine(path_depth hk).to fun g2 k2=>⟨_,rfl,?_,kg.trans k2⟩
   have h0:apartN (k-j) x x=0:=by
     cases k-j with
     | zero=>rfl
     | succ n=>unfold apartN;rw[if_pos rfl]
   rw[h0,Nat.add_zero] at he
   unfold deepN
   rw[he,w64_id (by omega) (by omega)]
   congr 1;omega
theorem isB_one (c:Cel):isB c=decide (c[0]=1):=by unfold isB;rfl
theorem wleaf {c:Cel} {k:Nat} (hk:k≤10) (h:c[2].toNat<2 ^ k):w64 ((c[2].toNat:Nat):Int)=((c[2].toNat:Nat):Int):=by
 have hp:2 ^ k≤2 ^ 10:=Nat.pow_le_pow_right (by decide) hk
 exact w64_id (by omega) (by omega)
theorem level_item {P:LP} (o:P.Ok) {fr:Nat} (hf:fr<2 ^ P.k) {c:Cel} (hc:isB c=true→c[2].toNat<2 ^ P.k) {h:Hp} {lb:Nat} (hl:hcell h lb 0=some (.int .i64 (2 ^ P.k))) :
   callK prog 153 [vp ⟨lb,0⟩,wv c,.int .i64 fr] h fun v h'=>v= .agg #[vu (itC P fr c).1,.int .i64 (itC P fr c).2]∧Keep h h':=by
 refine c153 _ _ _ ?_
 unfold G153
 refine newC fun b1 h1 f1 e1 k1=>newC fun b2 h2 f2 e2 k2=>?_
 have n21:b2≠b1:=fun e=>by rw[e,e1] at f2;cases f2
 have e1':=k2.get e1
 have k02:=k1.trans k2
 refine⟨Int.NonNeg.mk 0,Int.NonNeg.mk 11,_,wb_get e1' (i:=0) (by decide),ifN (fun hn=>?_) fun hy=>?_⟩
 · have hb:¬isB c=true:=by rw[isB_one];simpa using hn
   refine stW k02 (k1.free f2) e2 rfl fun h3 k3 e3 _=>⟨_,rd1 e3 rfl,_,rd1 e3 rfl,?_,k3⟩
   unfold itC;rw[if_neg hb]
 · have hb:isB c=true:=by rw[isB_one];simpa using hy
   refine⟨Int.NonNeg.mk 1,Int.NonNeg.mk 10,_,wb_get e1' (i:=1) (by decide),_,k02.cell hl,Int.NonNeg.mk 2,Int.NonNeg.mk 9,_,wb_get e1' (i:=2) (by decide),?_⟩
   rw[wleaf o.k (hc hb)]
   refine(path_deep o.k hf (hc hb)).to fun h3 k3=>⟨_,rfl,⟨wb_get (k3.get e1') (i:=1) (by decide),trivial⟩,?_⟩
   refine stW (k02.trans k3) (k1.free f2) (k3.get e2) rfl fun h4 k4 e4 _=>⟨_,rd1 e4 rfl,_,rd1 e4 rfl,?_,k4⟩
   unfold itC;rw[if_pos hb]
theorem dat_list (d:Dat):d.toList=[d[0],d[1],d[2],d[3],d[4],d[5],d[6],d[7]]:=by
 apply List.ext_getElem
 · simp
 · intro i h1 h2
   simp at h1
   have h:i=0∨i=1∨i=2∨i=3∨i=4∨i=5∨i=6∨i=7:=by omega
   rcases h with rfl|rfl|rfl|rfl|rfl|rfl|rfl|rfl<;>simp
theorem rtW:RowT prog 22 36 (.int .u64 0) 8:=⟨by kernel_rfl,by kernel_rfl,by kernel_rfl,by kernel_rfl,rfl⟩
theorem cpyU {x y:Sl} {h:Hp} {l:List UInt64} (ry:RdS vu h y l) {q:Pt} (hx:x.q=some q) {c:Nat} (hc:c=Nat.min l.length x.len) {K:Nat→Hp→Prop} (hk:storeK h q ((l.take c).map vu) fun h'=>K c h'):cpyK prog 22 x (.s y) h K:=by
 subst hc
 unfold cpyK
 rw[rtW.und]
 simp only[rtW.sz,lenOfK,srcK,ry.len,hx]
 have hm:Nat.min l.length x.len≤l.length:=Nat.min_le_left _ _
 refine⟨(l.take (Nat.min l.length x.len)).map vu,by simp,by simp only[List.mem_map];rintro v ⟨a,_,rfl⟩;rfl,?_,hk⟩
 cases e:y.q with
 | none=>have h1:=ry.nil e;have h2:=ry.cap;have h3:=ry.len;have:l=[]:=List.length_eq_zero_iff.1 (by omega);simp[this]
 | some p =>
   simp only
   rw[rdL_map]
   intro i hi
   have hi':i<l.length:=by simp at hi;omega
   rw[ry.rd p e i hi'];simp
theorem hwr_12 (a0 a1 a2 a3 a4 a5 a6 a7 a8 a9 a10 a11 b0 b1 b2 b3 b4 b5 b6 b7:Value):hwr #[a0,a1,a2,a3,a4,a5,a6,a7,a8,a9,a10,a11] 3 [b0,b1,b2,b3,b4,b5,b6,b7]=#[a0,a1,a2,b0,b1,b2,b3,b4,b5,b6,b7,a11]:=by
 apply Array.ext
 · rw[hwr_size];rfl
 · intro i h1 h2
   have h:i<12:=h2
   apply Option.some.inj
   rw[←Array.getElem?_eq_getElem,←Array.getElem?_eq_getElem,hwr_get]
   have h:i=0∨i=1∨i=2∨i=3∨i=4∨i=5∨i=6∨i=7∨i=8∨i=9∨i=10∨i=11:=by omega
   rcases h with rfl|rfl|rfl|rfl|rfl|rfl|rfl|rfl|rfl|rfl|rfl|rfl<;>rfl
theorem cells_mkB (id l:UInt64) (d:Dat):SV.cells (.ws 12 (mkB id l d))=[vu 1,vu id,vu l,vu d[0],vu d[1],vu d[2],vu d[3],vu d[4],vu d[5],vu d[6],vu d[7],vu 0]:=by simp[SV.cells,mkB]
theorem level_block (id:UInt64) {to:Nat} (ht:to<2 ^ 63) (d:Dat):PureC prog 138 [vu id,.int .i64 to,wv d] (wv (mkB id (UInt64.ofNat to) d)):=by
 intro h
 refine c138 _ _ _ ?_
 unfold G138
 refine newC fun b1 h1 f1 e1 k1=>newC fun b2 h2 f2 e2 k2=>newC fun b3 h3 f3 e3 k3=>?_
 have n21:b2≠b1:=fun e=>by rw[e,e1] at f2;cases f2
 have n31:b3≠b1:=fun e=>by rw[e,k2.get e1] at f3;cases f3
 have n32:b3≠b2:=fun e=>by rw[e,e2] at f3;cases f3
 have f30:=k1.free (k2.free f3)
 rw[toU_eq ht]
 refine stW (k1.trans (k2.trans k3)) f30 e3 rfl fun h4 k4 e4 o4=>⟨Int.NonNeg.mk 11,Int.NonNeg.mk 1,Int.NonNeg.mk 3,Int.NonNeg.mk 8,?_⟩
 have e14:=(o4 _ (Ne.symm n31)).trans ((k2.trans k3).get e1)
 have ry:RdS vu h4 ⟨slPt (some ⟨b1,0⟩) 0 8 1,8,8,none⟩ d.toList:=by
   refine⟨by simp,Nat.le_refl _,(by intro h;cases h),fun q hq i hi=>?_⟩
   cases hq
   have hi':i<8:=by simpa using hi
   have:=wb_get e14 hi'
   simpa using this
 refine cpyU ry (q:=⟨b3,3⟩) rfl (c:=8) (by simp) ?_
 refine stN k4 f30 e4 (by simp) fun h5 k5 e5 o5=>?_
 have e5':h5 b3=some (.cells (SV.cells (.ws 12 (mkB id (UInt64.ofNat to) d))).toArray 56 (0,0)):=by
   rw[e5,dat_list]
   have e1:List.map vu (List.take 8 [d[0],d[1],d[2],d[3],d[4],d[5],d[6],d[7]])=[vu d[0],vu d[1],vu d[2],vu d[3],vu d[4],vu d[5],vu d[6],vu d[7]]:=by simp
   rw[e1,hwr_12,cells_mkB]
 refine⟨_,wb_rd e5',?_⟩
 refine wbW (n:=12) k5 (k1.free f2) ((o5 _ (Ne.symm n32)).trans ((o4 _ (Ne.symm n32)).trans (k3.get e2))) rfl fun h6 k6 e6 _=>⟨_,wb_rd e6,rfl,k6⟩
theorem contains_I {h:Hp} {s:Sl} {l:List Int} (r:RdS iv h s l) (hl:l.length≤1000000) (x:Int):callK prog 160 [vs s,.int .i64 x] h fun v h'=>v= .bool (decide (x∈l))∧h'=h:=by
 refine c160 _ _ ?_
 unfold G160
 refine c181 _ _ ?_
 unfold G181
 refine⟨fun s1 n1 n2 n3 g k=>s1=s∧n1=x∧n2=s.len∧g=h∧∃j:Nat,n3=j∧j≤s.len∧k=s.len-j∧x∉l.take j,⟨_,rfl,rfl,rfl,rfl,0,rfl,by omega,rfl,by simp⟩,?_⟩
 rintro s1 n1 n2 n3 g k ⟨rfl,rfl,rfl,rfl,j,rfl,hj0,rfl,hno⟩
 have hlen:=r.len
 refine ifD (fun hlt=>?_) fun hge=>⟨_,rfl,?_,rfl⟩
 · have hj:j<l.length:=by omega
   refine r.ix hj fun q _ hc=>⟨_,hc,ifD (fun e=>⟨_,rfl,?_,rfl⟩) fun e=>⟨s1.len-(j+1),by omega,rfl,rfl,rfl,rfl,j+1,w64_id (by omega) (by omega),by omega,rfl,fun hm=>?_⟩⟩
   · rw[decide_eq_true (show(0:Int)≤(j:Int) by omega),decide_eq_true (by rw[e];exact List.getElem_mem hj)]
   · rw[List.take_add_one,List.getElem?_eq_getElem hj] at hm
     rcases List.mem_append.1 hm with h|h
     · exact hno h
     · simp at h;exact e h
 · rw[List.take_of_length_le (by omega)] at hno
   rw[decide_eq_false hno];rfl
theorem mv_both1 {A A' B:Nat→Prop} {h h':Hp} (v:Mv A h A' h'):Mv (fun x=>A x∨B x) h (fun x=>A' x∨B x) h' :=
 ⟨fun b hb=>hb.elim (fun x=>(v.1 b x).imp .inl id) fun x=> .inl (.inr x),fun b hb hn=>v.2.1 b hb fun x=>hn (.inl x),v.2.2⟩
theorem mv_both2 {A B B':Nat→Prop} {h h':Hp} (v:Mv B h B' h'):Mv (fun x=>A x∨B x) h (fun x=>A x∨B' x) h' :=
 ⟨fun b hb=>hb.elim (fun x=> .inl (.inl x)) fun x=>(v.1 b x).imp .inr id,fun b hb hn=>v.2.1 b hb fun x=>hn (.inr x),v.2.2⟩
section
variable {T:TypeId} {m:MS} {R:Regs} {ev:List Ev} {es:Sl} {h:Hp}
theorem level_update (M:MemR T m R ev es h) {lb f n:Nat} (hf:f≤1000) (hr:f+2<m.nr) (hn:n≤m.rn (f+2)) (hl:ev.length<3000000000000) {v:Value} {fn:Nat→Cel→Cel} {S:Nat→(Nat→Prop)→Hp→Prop} {F:Nat→Prop}
   (hS:S 0 F h) (hd:∀b,F b→¬MF m es b) (dom:∀i F g,S i F g→∀b,F b→g b≠none) (keep:∀i F g g',S i F g→(∀b,F b→g' b=g b)→S i F g')
   (lev:∀i F g,S i F g→hcell g lb 3=some (vp ⟨m.b,0⟩)∧hcell g lb 4=some (.int .i64 f))
   (step:∀i F g,i<n→S i F g→callV prog v [.int .i64 i,wv (R (f+2) i)] g fun r g'=>r=wv (fn i (R (f+2) i))∧∃F',S (i+1) F' g'∧Mv F g F' g') :
   callK prog 151 [vp ⟨lb,0⟩,.int .i64 n,v] h fun r h'=>∃es' F',r= .tuple #[]∧MemR T m (putRow R (f+2) fun i=>if i<n then fn i (R (f+2) i) else R (f+2) i) (ev++writes ((f:Int)+2) n) es' h'∧S n F' h'∧(∀b,F' b→¬MF m es' b)∧Mv (fun x=>MF m es x∨F x) h (fun x=>MF m es' x∨F' x) h':=by
 have hrn:=M.rn _ hr
 refine c151 _ _ _ ?_
 unfold G151
 have hfr:((f:Int)+2)=((f+2:Nat):Int):=by omega
 refine⟨fun q1 v1 n1 n2 g kk=>q1=⟨lb,0⟩∧v1=v∧n1=(n:Nat)∧∃(i:Nat) (es':Sl) (F':Nat→Prop),n2=i∧i≤n∧kk=n-i∧MemR T m (putRow R (f+2) fun j=>if j<i then fn j (R (f+2) j) else R (f+2) j) (ev++writes ((f:Int)+2) i) es' g∧S i F' g∧(∀b,F' b→¬MF m es' b)∧Mv (fun x=>MF m es x∨F x) h (fun x=>MF m es' x∨F' x) g,
   ⟨n,rfl,rfl,rfl,0,es,F,rfl,by omega,rfl,?_,hS,hd,Mv.refl _ _⟩,?_⟩
 · have e:(putRow R (f+2) fun j=>if j<0 then fn j (R (f+2) j) else R (f+2) j)=R:=by
     have:(fun j=>if j<0 then fn j (R (f+2) j) else R (f+2) j)=R (f+2):=by funext j;simp
     rw[this];exact putRow_self R _
   rw[e];simpa [writes] using M
 rintro q1 v1 n1 n2 g kk ⟨rfl,rfl,rfl,i,es',F',rfl,hi,rfl,Mg,Sg,dg,vg⟩
 refine ifD (fun hlt=>?_) fun hge=>?_
 · have hi':i<n:=by omega
   obtain⟨l3,l4⟩:=lev i F' g Sg
   have hwl:=writes_length ((f:Int)+2) i
   have ew:w64 ((f:Int)+2)=((f+2:Nat):Int):=by rw[w64_id (by omega) (by omega)];omega
   refine⟨some ⟨m.b,0⟩,l3,_,l4,some ⟨m.b,0⟩,l3,_,l4,?_⟩
   rw[ew]
   refine(mem_read Mg hr (show i<m.rn (f+2) by omega) (by rw[List.length_append,hwl];omega)).mono ?_
   rintro _ g1 ⟨es1,rfl,M1,v1'⟩
   obtain⟨s1,d1⟩:=mv_apart v1' (dom i F' g Sg) dg
   have S1:=keep i F' g g1 Sg s1
   obtain⟨l3',l4'⟩:=lev i F' g1 S1
   have hR:putRow R (f+2) (fun j=>if j<i then fn j (R (f+2) j) else R (f+2) j) (f+2) i=R (f+2) i:=by unfold putRow;rw[if_pos rfl];exact if_neg (Nat.lt_irrefl i)
   refine⟨_,rfl,⟨l4',trivial⟩,⟨l3',trivial⟩,?_⟩
   rw[hR]
   refine(step i F' g1 hi' S1).mono ?_
   rintro _ g2 ⟨rfl,F2,S2,v2⟩
   obtain⟨l3'',l4''⟩:=lev (i+1) F2 g2 S2
   obtain⟨s2,d2⟩:=mv_apart v2 (fun x hx=>M1.dom hx) (fun x hx hF=>d1 x hF hx)
   have M2:=M1.move s2
   refine⟨_,rfl,⟨l4'',trivial⟩,⟨l3'',trivial⟩,?_⟩
   refine(mem_write M2 hr (show i<m.rn (f+2) by omega) _ (by simp only[List.length_append,hwl,List.length_singleton];omega)).mono ?_
   rintro _ g3 ⟨es3,rfl,M3,v3⟩
   obtain⟨s3,d3⟩:=mv_apart v3 (dom (i+1) F2 g2 S2) (fun x hx hM=>d2 x hM hx)
   have S3:=keep (i+1) F2 g2 g3 S2 s3
   refine⟨rfl,n-(i+1),by omega,rfl,rfl,rfl,i+1,es3,F2,w64_id (by omega) (by omega),by omega,rfl,?_,S3,d3,((vg.trans (mv_both1 v1')).trans (mv_both2 v2)).trans (mv_both1 v3)⟩
   have e1:set2 (putRow R (f+2) fun j=>if j<i then fn j (R (f+2) j) else R (f+2) j) (f+2,i) (fn i (R (f+2) i))=putRow R (f+2) fun j=>if j<i+1 then fn j (R (f+2) j) else R (f+2) j:=by
     funext r' j
     unfold set2 putRow
     show(if r'=f+2∧j=i then _ else if r'=f+2 then (if j<i then fn j (R (f+2) j) else R (f+2) j) else _)=if r'=f+2 then (if j<i+1 then fn j (R (f+2) j) else R (f+2) j) else _
     by_cases c1:r'=f+2
     · rw[if_pos c1,if_pos c1]
       by_cases c2:j=i
       · rw[if_pos ⟨c1,c2⟩,if_pos (by omega),c2]
       · rw[if_neg (fun h=>c2 h.2)]
         by_cases c3:j<i
         · rw[if_pos c3,if_pos (by omega)]
         · rw[if_neg c3,if_neg (by omega)]
     · rw[if_neg (fun h=>c1 h.1),if_neg c1,if_neg c1]
   rw[e1] at M3
   rw[writes_succ,show ∀a b:Ev,ev++(writes ((f:Int)+2) i++[a,b])=ev++writes ((f:Int)+2) i++[a]++[b] by simp,hfr]
   rw[hfr] at M3
   exact M3
 · have:i=n:=by omega
   subst this
   exact⟨es',F',rfl,Mg,Sg,dg,vg⟩
end
end Go.Proofs.Tryz
/- Chapter 10: the function values of a level's deal. -/
namespace Go.Proofs.Tryz
open Go Go.Sh Go.RowKit
set_option maxRecDepth 8000
theorem _root_.Go.Sh.LP.Ok.lev {P:LP} (o:P.Ok):LevOk P.k P.s P.t:=⟨o.k,by have:=o.s;omega,by have:=o.t;omega⟩
theorem plc_n (P:LP):plc P.k P.s P.t=(P.n:Nat):=by unfold plc LP.n;simp
abbrev lvc (P:LP) (mb f:Nat) (ov:Bool) (mp:Nat):Array Value:=#[.int .i64 (2 ^ P.k),.int .i64 P.s,.int .i64 P.t,vp ⟨mb,0⟩,.int .i64 f,.bool ov,.map (some mp)]
def rowOf (P:LP) (fr i:Nat) (c:Cel):Row:=⟨key1 P fr i c,(itC P fr c).1,(itC P fr c).2⟩
theorem rtRow:RowM prog 249 255 3 (.agg #[.int .u64 0,.int .u64 0,.int .i64 0]) 24:=⟨by kernel_rfl,by kernel_rfl,by kernel_rfl,by kernel_rfl,rfl⟩
theorem rtItem:RowM prog 260 252 2 (.agg #[.int .u64 0,.int .i64 0]) 16:=⟨by kernel_rfl,by kernel_rfl,by kernel_rfl,by kernel_rfl,rfl⟩
theorem itC_blk {P:LP} {fr:Nat} {c:Cel} (h:isB c=true):itC P fr c=(c[1],((deepN P.k fr c[2].toNat:Nat):Int)):=by unfold itC;rw[if_pos h]
theorem set_set11 (c:Cel) (x y:UInt64):(c.set 11 x).set 11 y=c.set 11 y:=by
 apply Vector.ext;intro i hi;simp[Vector.getElem_set]
theorem deal1 {P:LP} (o:P.Ok) {fr:Nat} (hf:fr<2 ^ P.k) {lb b1 b2 b3 b4 b5:Nat} {g:Hp} {T:TypeId} {s:Sl} {l:List Row}
   (e1:hcell g b1 0=some (vp ⟨lb,0⟩)) (e0:hcell g lb 0=some (.int .i64 (2 ^ P.k))) (e2:hcell g b2 0=some (.int .i64 fr)) (e4:hcell g b4 0=some (.int .i64 P.n)) (e3:hcell g b3 0=some (.int .i64 P.k))
   (B:BoxS 3 rowf T g b5 s l) (hl:l.length≤100000) {i:Nat} (hi:i<100000) (c:Cel) (hc:isB c=true→c[2].toNat<2 ^ P.k) :
   callV prog (.func (.func 152) #[] #[vp ⟨b1,0⟩,vp ⟨b2,0⟩,vp ⟨b4,0⟩,vp ⟨b3,0⟩,vp ⟨b5,0⟩]) [.int .i64 i,wv c] g fun r g'=>r=wv (c.set 11 (key1 P fr i c))∧∃s',BoxS 3 rowf T g' b5 s' (l++[rowOf P fr i c])∧Mv (Fp b5 s) g (Fp b5 s') g':=by
 refine⟨rfl,?_⟩
 refine c152 _ _ _ _ _ _ _ ?_
 unfold G152
 refine newC fun x1 g1 f1 y1 k1=>newC fun x2 g2 f2 y2 k2=>?_
 have n21:x2≠x1:=fun e=>by rw[e,y1] at f2;cases f2
 have y1':=k2.get y1
 have k02:=k1.trans k2
 refine⟨some ⟨lb,0⟩,k02.cell e1,_,wb_rd y1',_,k02.cell e2,?_⟩
 refine(level_item o hf hc (k02.cell e0)).mono ?_
 rintro _ g3 ⟨rfl,k3⟩
 refine⟨_,_,rfl,newC fun x3 g4 f4 y4 k4=>?_⟩
 have k03:=k02.trans k3
 have k04:=k03.trans k4
 have f40:g x3=none:=k03.free f4
 have f20:g x2=none:=k1.free f2
 have n31:x3≠x1:=fun e=>by rw[e,k3.get y1'] at f4;cases f4
 have n32:x3≠x2:=fun e=>by rw[e,k3.get y2] at f4;cases f4
 refine stW k04 f40 y4 rfl fun g5 k5 y5 o5=>⟨Int.NonNeg.mk 11,Int.NonNeg.mk 0,?_⟩
 have y15:g5 x1=_:=(o5 _ (Ne.symm n31)).trans ((k3.trans k4).get y1')
 have y25:g5 x2=_:=(o5 _ (Ne.symm n32)).trans ((k3.trans k4).get y2)
 refine wbS k5 f1 y15 (i:=11) (by decide) fun g6 k6 y6 o6=>?_
 have y36:=(o6 _ n31).trans y5
 have y26:=(o6 _ n21).trans y25
 rw[toU_eq (show i<2 ^ 63 by omega)] at y6
 have fin:∀(g7:Hp) (key:UInt64),Keep g g7→g7 x1=some (.cells (SV.cells (.ws 12 (c.set 11 key))).toArray 56 (0,0))→g7 x3=some (.cells #[vu (itC P fr c).1,.int .i64 (itC P fr c).2] 252 (0,0))→(∃a t,g7 x2=some (.cells a t (0,0))∧a.size=12)→key=key1 P fr i c →
     ∃s1,hcell g7 b5 0=some (vs s1)∧Int.NonNeg 11∧Int.NonNeg 0∧∃x4,hcell g7 x1 11=some (vu x4)∧∃x5,hcell g7 x3 0=some (vu x5)∧∃n6,hcell g7 x3 (0+1)=some (.int .i64 n6)∧newK g7 (.cells #[vu x4,vu x5,.int .i64 n6] 255) fun b4 h8=>appK prog 249 s1 (.s ⟨some ⟨b4,0⟩,1,1,none⟩) h8 fun s2 h9=>storeK h9 ⟨b5,0⟩ [vs s2] fun h10=>∃c2:Cel,rdW h10 x1 0 c2∧storeK h10 ⟨x2,0⟩ (SV.cells (.ws 12 c2)) fun h11=>∃c3:Cel,rdW h11 x2 0 c3 ∧
      (wv c3=wv (c.set 11 (key1 P fr i c))∧∃s',BoxS 3 rowf T h11 b5 s' (l++[rowOf P fr i c])∧Mv (Fp b5 s) g (Fp b5 s') h11):=by
   rintro g7 key k7 a1 a3 ⟨a,t,a2,a2s⟩ rfl
   have B7:=B.keep k7
   refine⟨_,rd1 B7.cell rfl,Int.NonNeg.mk 11,Int.NonNeg.mk 0,_,wb_get a1 (i:=11) (by decide),_,rd1 a3 rfl,_,rd1 a3 rfl,?_⟩
   rw[set_get11]
   refine BoxS.push rtRow rowf_len rowf_one B7 [rowOf P fr i c] (by rfl) rfl (by simp;omega) (by decide) fun s' g8 B8 v8=>?_
   have nb:∀x,g x=none→g7 x≠none→¬Fp b5 s x:=fun x h1 _ h=>B.dom h h1
   have z1:=v8.get a1 (nb x1 f1 (by rw[a1];simp))
   have z2:=v8.get a2 (nb x2 f20 (by rw[a2];simp))
   have n2:¬Fp b5 s' x2:=v8.out (by rw[a2];simp) (nb x2 f20 (by rw[a2];simp))
   refine⟨_,wb_rd z1,?_⟩
   refine wbMW (n:=12) ((mvK k7 _).trans v8) f20 z2 a2s fun g9 v9 e9 o9=>⟨_,wb_rd e9,rfl,s',B8.move fun x hx=>o9 x fun e=>n2 (e▸hx),v9⟩
 refine⟨_,k6.cell e4,ifD (fun hin=>?_) fun hin=>?_⟩
 · refine⟨Int.NonNeg.mk 0,Int.NonNeg.mk 11,_,wb_get y6 (i:=0) (by decide),?_⟩
   rw[set_get0]
   refine ifB_intro (fun hb=>?_) fun hb=>?_
   · have hb':isB c=true:=by rw[isB_one];simpa using hb
     refine⟨_,k6.cell e3,_,rd1 y36 rfl,_,rd1 y36 rfl,Int.NonNeg.mk 11,Int.NonNeg.mk 0,?_⟩
     refine wbS k6 f1 y6 (i:=11) (by decide) fun g7 k7 y7 o7=>?_
     rw[set_set11] at y7
     refine fin g7 _ k7 y7 ((o7 _ n31).trans y36) ⟨_,_,(o7 _ n21).trans y26,rfl⟩ ?_
     have hd:=deepN_le P.k fr c[2].toNat
     have hk:=o.k
     rw[itC_blk hb']
     unfold key1
     rw[if_pos ⟨by omega,hb'⟩]
     have e5:w64 ((P.k:Int)-((deepN P.k fr c[2].toNat:Nat):Int))=((P.k-deepN P.k fr c[2].toNat:Nat):Int):=by rw[w64_id (by omega) (by omega)];omega
     show toU (w64 ((P.k:Int)-((deepN P.k fr c[2].toNat:Nat):Int)))*(4294967296:UInt64)+c[1]=_
     rw[e5,toU_eq (by omega)]
   · have hb':¬isB c=true:=by rw[isB_one];simpa using hb
     refine fin g6 _ k6 y6 y36 ⟨_,_,y26,rfl⟩ ?_
     unfold key1;rw[if_neg fun h=>hb' h.2]
 · refine fin g6 _ k6 y6 y36 ⟨_,_,y26,rfl⟩ ?_
   unfold key1;rw[if_neg fun h=>hin (by have:=h.1;omega)]
theorem cells_cel0:SV.cells (.ws 12 cel0)=[vu 0,vu 0,vu 0,vu 0,vu 0,vu 0,vu 0,vu 0,vu 0,vu 0,vu 0,vu 0]:=by rfl
theorem mem_cast {l:List Nat} {i:Nat}:((i:Int)∈l.map fun p:Nat=>(p:Int))↔i∈l:=by
 rw[List.mem_map]
 constructor
 · rintro⟨a,h1,h2⟩;have:a=i:=by omega
   exact this▸h1
 · exact fun h=>⟨i,h,rfl⟩
def turn3 (n:Nat) (pl lo:List Nat) (i:Nat) (c:Cel):Cel:=(if i∈lo then cel0 else c).set 11 (if i<n then UInt64.ofNat (pl.getD i 0) else UInt64.ofNat i)
theorem deal3 {n:Nat} {pl lo:List Nat} {b4 b8 b9:Nat} {g:Hp} {s8 s9:Sl}
   (e9:hcell g b9 0=some (vs s9)) (e4:hcell g b4 0=some (.int .i64 n)) (e8:hcell g b8 0=some (vs s8)) (r9:RdS iv g s9 (lo.map fun p:Nat=>(p:Int))) (r8:RdS iv g s8 (pl.map fun p:Nat=>(p:Int)))
   (hn:pl.length=n) (hb:∀x∈pl,x<2 ^ 63) (hl:lo.length≤1000000) {i:Nat} (hi:i<100000) (c:Cel) :
   callV prog (.func (.func 159) #[] #[vp ⟨b9,0⟩,vp ⟨b4,0⟩,vp ⟨b8,0⟩]) [.int .i64 i,wv c] g fun r g'=>r=wv (turn3 n pl lo i c)∧Keep g g':=by
 refine⟨rfl,?_⟩
 refine c159 _ _ _ _ _ ?_
 unfold G159
 refine newC fun x1 g1 f1 y1 k1=>newC fun x2 g2 f2 y2 k2=>?_
 have n21:x2≠x1:=fun e=>by rw[e,y1] at f2;cases f2
 have y1':=k2.get y1
 have k02:=k1.trans k2
 have f20:g x2=none:=k1.free f2
 refine⟨_,k02.cell e9,?_⟩
 refine(contains_I (r9.keep k02) (by simpa using hl) (i:Int)).mono ?_
 rintro _ g3 ⟨rfl,rfl⟩
 refine⟨_,rfl,?_⟩
 have fin:∀(g5:Hp) (d:Cel),Keep g g5→g5 x1=some (.cells (SV.cells (.ws 12 (d.set 11 (UInt64.ofNat i)))).toArray 56 (0,0))→(∃a t,g5 x2=some (.cells a t (0,0))∧a.size=12)→d=(if i∈lo then cel0 else c) →
     ∃n1,hcell g5 b4 0=some (.int .i64 n1)∧ifB (decide ((i:Int)<n1)) (∃s2,hcell g5 b8 0=some (vs s2)∧∃q1,Sl.q s2=some q1∧0≤(i:Int)∧(i:Int)+1≤(s2.len:Int)∧∃n2,hcell g5 q1.b (q1.o+Int.toNat (i:Int)*1)=some (.int .i64 n2)∧Int.NonNeg 11∧Int.NonNeg 0∧storeK g5 ⟨x1,0+11⟩ [vu (toU n2)] fun h6=>∃c1:Cel,rdW h6 x1 0 c1∧storeK h6 ⟨x2,0⟩ (SV.cells (.ws 12 c1)) fun h7=>∃c2:Cel,rdW h7 x2 0 c2∧(wv c2=wv (turn3 n pl lo i c)∧Keep g h7))
      (∃c3:Cel,rdW g5 x1 0 c3∧storeK g5 ⟨x2,0⟩ (SV.cells (.ws 12 c3)) fun h8=>∃c4:Cel,rdW h8 x2 0 c4∧(wv c4=wv (turn3 n pl lo i c)∧Keep g h8)):=by
   rintro g5 d k5 a1 ⟨a,t,a2,a2s⟩ rfl
   refine⟨_,k5.cell e4,ifD (fun hin=>?_) fun hin=>?_⟩
   · have hi':i<pl.length:=by omega
     refine⟨_,k5.cell e8,?_⟩
     refine(r8.keep k5).ix (i:=i) (by simpa using hi') fun q _ hc=>?_
     have hg:(pl.map fun p:Nat=>(p:Int))[i]'(by simpa using hi')=((pl.getD i 0:Nat):Int):=by simp[List.getD,hi']
     rw[hg] at hc
     have hlt:pl.getD i 0<2 ^ 63:=by
       have:pl.getD i 0=pl[i]:=by simp[List.getD,hi']
       rw[this];exact hb _ (List.getElem_mem hi')
     refine⟨_,hc,Int.NonNeg.mk 11,Int.NonNeg.mk 0,?_⟩
     refine wbS k5 f1 a1 (i:=11) (by decide) fun g6 k6 y6 o6=>?_
     rw[set_set11,toU_eq hlt] at y6
     refine⟨_,wb_rd y6,wbW (n:=12) k6 f20 ((o6 _ n21).trans a2) a2s fun g7 k7 y7 _=>⟨_,wb_rd y7,?_,k7⟩⟩
     unfold turn3;rw[if_pos (show i<n by omega)]
   · refine⟨_,wb_rd a1,wbW (n:=12) k5 f20 a2 a2s fun g7 k7 y7 _=>⟨_,wb_rd y7,?_,k7⟩⟩
     unfold turn3;rw[if_neg (show ¬i<n by omega)]
 refine ifB_intro (fun ht=>?_) fun ht=>?_
 · have hm:i∈lo:=mem_cast.1 (of_decide_eq_true ht)
   rw[←cells_cel0]
   refine wbW (n:=12) k02 f1 y1' (by simp[SV.cells]) fun g4 k4 y4 o4=>⟨Int.NonNeg.mk 11,Int.NonNeg.mk 0,?_⟩
   refine wbS k4 f1 y4 (i:=11) (by decide) fun g5 k5 y5 o5=>?_
   rw[toU_eq (show i<2 ^ 63 by omega)] at y5
   exact fin g5 cel0 k5 y5 ⟨_,_,(o5 _ n21).trans ((o4 _ n21).trans y2),rfl⟩ (by rw[if_pos hm])
 · have hm:i∉lo:=fun h=>of_decide_eq_false ht (mem_cast.2 h)
   refine⟨Int.NonNeg.mk 11,Int.NonNeg.mk 0,?_⟩
   refine wbS k02 f1 y1' (i:=11) (by decide) fun g5 k5 y5 o5=>?_
   rw[toU_eq (show i<2 ^ 63 by omega)] at y5
   exact fin g5 c k5 y5 ⟨_,_,(o5 _ n21).trans y2,rfl⟩ (by rw[if_neg hm])
theorem deal2 (D:Nat→Prop) (h0:Hp):CmpOk prog D h0 (.func (.func 156) #[] #[]) encRow (fun r=>r.key.toNat) (fun _=>True):=by
 intro h O x y _ _
 refine⟨rfl,?_⟩
 refine c156 _ _ _ _ _ _ ?_
 unfold G156
 refine newC fun x1 g1 f1 y1 k1=>newC fun x2 g2 f2 y2 k2=>⟨_,rd1 (k2.get y1) rfl,_,rd1 y2 rfl,?_⟩
 refine(cmp_u64 x.key y.key).to fun g3 k3=>⟨_,rfl,_,rfl,?_,(k1.trans k2).trans k3⟩
 rw[←UInt64.lt_iff_toNat_lt]
 constructor
 · intro h;by_cases c:x.key<y.key
   · exact c
   · rw[if_neg c] at h;split at h<;>omega
 · intro h;rw[if_pos h];decide
end Go.Proofs.Tryz
/- Chapter 10: a level's deal. -/
namespace Go.Proofs.Tryz
open Go Go.Sh Go.RowKit
set_option maxRecDepth 8000
theorem ikey_mono {k a b:Nat} (hk:k≤1000) (h:a≤b):ikey (itK k a)≤ikey (itK k b):=by
 have neg:∀x:UInt64×Int,x.2<0→ikey x=1001*18446744073709551616:=fun x hx=>by unfold ikey;rw[if_pos hx]
 have le:∀c,ikey (itK k c)≤1001*18446744073709551616:=fun c=>by
   unfold ikey
   split
   · exact Nat.le_refl _
   · have:=(itK k c).1.toNat_lt;omega
 by_cases hb:b<4611686018427387904
 · have ha:a<4611686018427387904:=by omega
   by_cases nb:(k:Int)-(b/4294967296:Nat)<0
   · rw[neg (itK k b) (by unfold itK;rw[if_pos hb];exact nb)];exact le a
   · have na:¬(k:Int)-(a/4294967296:Nat)<0:=by omega
     unfold itK
     rw[if_pos hb,if_pos ha]
     unfold ikey
     rw[if_neg na,if_neg nb]
     have e1:(UInt64.ofNat (a%4294967296)).toNat=a%4294967296:=by rw[UInt64.toNat_ofNat'];omega
     have e2:(UInt64.ofNat (b%4294967296)).toNat=b%4294967296:=by rw[UInt64.toNat_ofNat'];omega
     show _*18446744073709551616+(UInt64.ofNat (a%4294967296)).toNat≤_*18446744073709551616+(UInt64.ofNat (b%4294967296)).toNat
     rw[e1,e2]
     omega
 · rw[neg (itK k b) (by unfold itK;rw[if_neg hb];decide)];exact le a
theorem Mv.to {A B C:Nat→Prop} {h0 h:Hp} (v:Mv A h0 B h) (hC:∀x,C x→B x∨h0 x=none):Mv A h0 C h :=
 ⟨fun b hb=>(hC b hb).elim (v.1 b) .inr,v.2.1,v.2.2⟩
theorem stF {A B:Nat→Prop} {h0 h:Hp} {b o:Nat} {c:Array Value} {t:TypeId} {l:List Value} {K:Hp→Prop} (v:Mv A h0 B h) (hb:B b) (e:h b=some (.cells c t (0,0))) (hs:o+l.length≤c.size)
   (hk:∀h',Mv A h0 B h'→h' b=some (.cells (hwr c o l) t (0,0))→(∀x,x≠b→h' x=h x)→K h'):storeK h ⟨b,o⟩ l K:=by
 refine⟨c,t,e,hs,hk _ ⟨v.1,fun x hx hn=>?_,fun x hx=>?_⟩ (upd_same _ _ _) fun x hx=>upd_ne _ _ hx⟩
 · have:x≠b:=fun e=>by subst e;exact(v.1 x hb).elim hn hx
   rw[upd_ne _ _ this,v.2.1 x hx hn]
 · by_cases e:x=b
   · rw[e,upd_same] at hx;cases hx
   · rw[upd_ne _ _ e] at hx;exact v.2.2 x hx
theorem off_mv {D F:Nat→Prop} {h h':Hp} (O:Off D h h') (hD:∀x,D x→F x) (hn:∀x,D x→h' x≠none):Mv F h F h' :=
 ⟨fun _ h=> .inl h,fun x hx hf=>O x hx fun d=>hf (hD x d),fun x hx=>Classical.byContradiction fun hc=>by
   by_cases d:D x
   · exact hn x d hx
   · rw[O x hc d] at hx;exact hc hx⟩
theorem RdM.takeM {α:Type} {k:Nat} {f:α→List Value} (hf:∀x,(f x).length=k) {h:Hp} {s:Sl} {l:List α} (r:RdM f h s l) {n:Nat} (hn:n≤l.length):RdM f h ⟨slPt s.p 0 s.cap k,n-0,s.cap-0,slZ s.z 0 s.cap k⟩ (l.take n):=by
 have hlen:=r.len;have hcap:=r.cap
 have hq:Sl.q ⟨slPt s.p 0 s.cap k,n-0,s.cap-0,slZ s.z 0 s.cap k⟩=s.q:=by
   obtain⟨p,k,c,z⟩:=s
   simp only[Sl.q,slZ,slPt,Nat.zero_mul,or_true,if_true]
   cases z with
   | some z=>rfl
   | none =>
     simp only
     split
     · rfl
     · cases p<;>rfl
 refine⟨by simp;omega,by simp;omega,fun e=>?_,fun q hqq=>?_⟩
 · rw[hq] at e;have:=r.nil e;simp;exact this
 · rw[hq] at hqq
   have e:l.flatMap f=(l.take n).flatMap f++(l.drop n).flatMap f:=by rw[←List.flatMap_append,List.take_append_drop]
   have:=r.rd q hqq
   rw[rdL_iff] at this ⊢
   intro i hi
   have:=this i (by rw[e,List.length_append];omega)
   rw[this]
   congr 1
   simp only[e]
   rw[List.getElem_append_left hi]
theorem putRow_put (R:Regs) (r:Nat) (f g:Nat→Cel):putRow (putRow R r f) r g=putRow R r g:=by
 funext r' i;unfold putRow;by_cases c:r'=r
 · rw[if_pos c,if_pos c]
 · rw[if_neg c,if_neg c,if_neg c]
theorem putRow_get (R:Regs) (r:Nat) (f:Nat→Cel):putRow R r f r=f:=by funext i;unfold putRow;rw[if_pos rfl]
section
variable {T:TypeId} {m:MS} {R:Regs} {ev:List Ev} {es:Sl} {h:Hp}
theorem MemR.congr (M:MemR T m R ev es h) {R':Regs} (hR:∀r,r<m.nr→∀j,j<m.rn r→R' r j=R r j):MemR T m R' ev es h :=
 ⟨M.top,M.evs,M.nr,M.len,M.row,fun i hi=>by
   obtain⟨c,t,e,hs,r⟩:=M.reg i hi
   refine⟨c,t,e,hs,fun j hj k hk=>?_⟩
   rw[hR i hi j hj];exact r j hj k hk,M.rn,M.d1,M.d2,M.d3,M.d4⟩
theorem MemR.row_all {r n:Nat} {f g:Nat→Cel} (M:MemR T m (putRow R r fun i=>if i<n then f i else g i) ev es h) (hn:m.rn r≤n):MemR T m (putRow R r f) ev es h :=
 M.congr fun r' _ j hj=>by
   unfold putRow
   by_cases c:r'=r
   · subst c;rw[if_pos rfl,if_pos rfl];exact(if_pos (show j<n by omega)).symm
   · rw[if_neg c,if_neg c]
end
end Go.Proofs.Tryz
/- Chapter 10: a level's deal, walked. -/
namespace Go.Proofs.Tryz
open Go Go.Sh Go.RowKit
set_option maxRecDepth 8000
section
variable {T:TypeId} {m:MS} {R:Regs} {ev:List Ev} {es:Sl} {h:Hp}
theorem sort_runN (M:MemR T m R ev es h) {r K k N:Nat} (hr:r<m.nr) (hK:K≤10) (hN:N=2 ^ K) (hn:N≤m.rn r) (hk:k<12) (hl:ev.length<3000000000000) :
   callK prog 154 [vp ⟨m.b,0⟩,.int .i64 r,.int .i64 N,.int .i64 k] h fun v h'=>∃es',v= .int .i64 0∧MemR T m (putRow R r (netRun (kf k hk) (netN K) (R r))) (ev++sortEv r K) es' h'∧Mv (MF m es) h (MF m es') h':=by
 subst hN
 have:=sort_run M hr hK hn hk hl
 rw[show(2:Int) ^ K=((2 ^ K:Nat):Int) by simp] at this
 exact this
theorem turnEv_cast (f E:Nat):writes ((f:Int)+2) (2 ^ E)++sortEv ((f+2:Nat):Int) E=turnEv f E:=by
 unfold turnEv;rw[show((f+2:Nat):Int)=(f:Int)+2 by omega]
theorem turnEv_len (f:Int) {E:Nat} (hE:E≤8):(turnEv f E).length≤512+4*102400:=by
 have h1:=pairsL_length (K:=E) (by omega)
 have h2:2 ^ E≤256:=Nat.pow_le_pow_right (n:=2) (by decide) hE
 unfold turnEv sortEv
 rw[List.length_append,writes_length,sort4_length];omega
def RowOk (P:LP) (r:Row):Prop:=(r.id,r.deep)=itK P.k r.key.toNat
theorem level_deal {P:LP} (o:P.Ok) (M:MemR T m R ev es h) {Tl:TypeId} {lb f mp:Nat} {ov:Bool} (hE:tbl P.k P.s P.t=2 ^ P.E) (hlb:h lb=some (.cells (lvc P m.b f ov mp) Tl (0,0))) (nlb:¬MF m es lb)
   (hf:f≤1000) (hr:f+2<m.nr) (hrn:m.rn (f+2)=2 ^ P.E) {fr:Nat} (hfr:fr<2 ^ P.k) (tw:TWf P (R (f+2))) (hl:ev.length<2000000000000) :
   callK prog 139 [vp ⟨lb,0⟩,.int .i64 fr] h fun v h'=>∃es',v= .tuple #[]∧MemR T m (putRow R (f+2) (tab4 P fr (R (f+2)))) (ev++(turnEv f P.E++turnEv f P.E)) es' h' ∧
     h' lb=some (.cells (lvc P m.b f (ov||tlost P fr (R (f+2))) mp) Tl (0,0))∧¬MF m es' lb∧Mv (fun x=>MF m es x∨x=lb) h (fun x=>MF m es' x∨x=lb) h':=by
 have ol:=o.lev
 have hEb:=pow_E o
 have hE8:=o.E
 have tl:=turnEv_len (f:Int) hE8
 have hn:=o.n
 have hN:(2:Int) ^ P.E=((2 ^ P.E:Nat):Int):=by simp
 rw[hN] at hE
 generalize hNN:2 ^ P.E=N at *
 have ew:w64 ((f:Int)+2)=((f+2:Nat):Int):=by rw[w64_id (by omega) (by omega)];omega
 refine c139 _ _ ?_
 unfold G139
 refine newC fun b1 h1 f1 e1 k1=>newC fun b2 h2 f2 e2 k2=>?_
 have n21:b2≠b1:=fun e=>by rw[e,e1] at f2;cases f2
 have e12:=k2.get e1
 have k02:=k1.trans k2
 have l2:=k02.get hlb
 refine⟨some ⟨lb,0⟩,rd1 e12 rfl,_,rfl,_,rd1 l2 rfl,_,rd1 l2 rfl,_,rd1 l2 rfl,?_⟩
 refine(level_shape ol).to fun h3 k3=>⟨_,_,_,rfl,newC fun b3 h4 f4 e4 k4=>?_⟩
 have k24:=k3.trans k4
 have k04:=k02.trans k24
 have f30:h b3=none:=(k02.trans k3).free f4
 have n31:b3≠b1:=fun e=>by rw[e,k3.get e12] at f4;cases f4
 have n32:b3≠b2:=fun e=>by rw[e,k3.get e2] at f4;cases f4
 have n3l:lb≠b3:=fun e=>by rw[←e,hlb] at f30;cases f30
 refine stW k04 f30 e4 rfl fun h5 k5 e5 o5=>⟨_,rd1 e5 rfl,_,rd1 e5 rfl,_,rd1 e5 rfl,?_⟩
 have e15:=(o5 _ (Ne.symm n31)).trans (k24.get e12)
 have e25:=(o5 _ (Ne.symm n32)).trans (k24.get e2)
 have l5:=k5.get hlb
 refine⟨some ⟨lb,0⟩,rd1 e15 rfl,_,rfl,_,rd1 l5 rfl,_,rd1 l5 rfl,_,rd1 l5 rfl,?_⟩
 refine(deal_places ol.deal).to fun h6 k6=>⟨_,rfl,⟨rd1 (k6.get l5) rfl,rd1 (k6.get l5) rfl,rd1 (k6.get l5) rfl,trivial⟩,⟨rd1 (k6.get e15) rfl,trivial⟩,?_⟩
 refine(level_table ol).to fun h7 k7=>⟨_,rfl,newC fun b4 h8 f8 e8 k8=>?_⟩
 have hpl:(P.s:Int)*((P.k:Int)+1)+(P.t:Int)+1=(P.n:Nat):=plc_n P
 rw[hE,hpl]
 have k58:=(k6.trans k7).trans k8
 have k08:=k5.trans k58
 have f40:h b4=none:=(k5.trans (k6.trans k7)).free f8
 have n41:b4≠b1:=fun e=>by rw[e,(k6.trans k7).get e15] at f8;cases f8
 have n42:b4≠b2:=fun e=>by rw[e,(k6.trans k7).get e25] at f8;cases f8
 have n43:b4≠b3:=fun e=>by rw[e,(k6.trans k7).get e5] at f8;cases f8
 refine stW k08 f40 e8 rfl fun h9 k9 e9 o9=>newC fun b5 h10 f10 e10 k10=>?_
 have E1:=k10.get ((o9 _ (Ne.symm n41)).trans (k58.get e15))
 have E2:=k10.get ((o9 _ (Ne.symm n42)).trans (k58.get e25))
 have E3:=k10.get ((o9 _ (Ne.symm n43)).trans (k58.get e5))
 have E4:=k10.get e9
 have k010:=k9.trans k10
 have L10:=k010.get hlb
 have f50:h b5=none:=k9.free f10
 have f20:h b2=none:=k1.free f2
 let Z:Nat→Prop:=fun x=>x=lb∨x=b1∨x=b2∨x=b3∨x=b4
 have Zd:∀x,Z x→h10 x≠none:=by
   rintro x (rfl|rfl|rfl|rfl|rfl)
   · rw[L10];simp
   · rw[E1];simp
   · rw[E2];simp
   · rw[E3];simp
   · rw[E4];simp
 have Z0:∀x,Z x→x=lb∨h x=none:=by
   rintro x (rfl|rfl|rfl|rfl|rfl)
   · exact .inl rfl
   · exact .inr f1
   · exact .inr f20
   · exact .inr f30
   · exact .inr f40
 have Z5:¬Z b5:=fun z=>by
   have:=Zd b5 z
   rcases z with e|e|e|e|e
   all_goals rw[e] at f10
   · rw[k9.get hlb] at f10;cases f10
   · rw[(o9 _ (Ne.symm n41)).trans (k58.get e15)] at f10;cases f10
   · rw[(o9 _ (Ne.symm n42)).trans (k58.get e25)] at f10;cases f10
   · rw[(o9 _ (Ne.symm n43)).trans (k58.get e5)] at f10;cases f10
   · rw[e9] at f10;cases f10
 have Zn:∀x,Z x→¬MF m es x:=fun x z hm=>by
   rcases Z0 x z with rfl|hx
   · exact nlb hm
   · exact M.dom hm hx
 have M10:=M.keep k010
 let fn1:Nat→Cel→Cel:=fun i c=>c.set 11 (key1 P fr i c)
 let rows:Nat→List Row:=fun i=>(List.range i).map fun j=>rowOf P fr j (R (f+2) j)
 let S:Nat→(Nat→Prop)→Hp→Prop:=fun i F g=>∃s,F=(fun x=>Z x∨Fp b5 s x)∧BoxS 3 rowf 249 g b5 s (rows i)∧(∀x,Z x→g x=h10 x)∧(∀x,Z x→¬Fp b5 s x)
 have S0:S 0 (fun x=>Z x∨Fp b5 ⟨none,0,0,none⟩ x) h10:=by
   refine⟨_,rfl,⟨e10,OwnM.nilS ..,fun p hp=>(by cases hp)⟩,fun _ _=>rfl,?_⟩
   rintro x z (rfl|⟨p,hp,_⟩)
   · exact Z5 z
   · cases hp
 have domS:∀i F g,S i F g→∀b,F b→g b≠none:=by
   rintro i _ g ⟨s,rfl,B,hz,_⟩ b (z|hb)
   · rw[hz b z];exact Zd b z
   · exact B.dom hb
 have keepS:∀i F g g',S i F g→(∀b,F b→g' b=g b)→S i F g':=by
   rintro i _ g g' ⟨s,rfl,B,hz,hn⟩ hs
   exact⟨s,rfl,B.move fun x hx=>hs x (.inr hx),fun x z=>(hs x (.inl z)).trans (hz x z),hn⟩
 have levS:∀i F g,S i F g→hcell g lb 3=some (vp ⟨m.b,0⟩)∧hcell g lb 4=some (.int .i64 f):=by
   rintro i _ g ⟨s,rfl,B,hz,hn⟩
   have:=(hz lb (.inl rfl)).trans L10
   exact⟨rd1 this rfl,rd1 this rfl⟩
 refine⟨some ⟨lb,0⟩,rd1 E1 rfl,?_⟩
 refine(level_update M10 hf hr (n:=N) (by omega) (by omega) (fn:=fn1) (S:=S) S0 ?_ domS keepS levS ?_).mono ?_
 · rintro b (z|rfl|⟨p,hp,_⟩)
   · exact Zn b z
   · exact fun hm=>M.dom hm f50
   · cases hp
 · rintro i _ g hi ⟨s,rfl,B,hz,hnz⟩
   have Lg:=(hz lb (.inl rfl)).trans L10
   have g1:=(hz b1 (.inr (.inl rfl))).trans E1
   have g2:=(hz b2 (.inr (.inr (.inl rfl)))).trans E2
   have g3:=(hz b3 (.inr (.inr (.inr (.inl rfl))))).trans E3
   have g4:=(hz b4 (.inr (.inr (.inr (.inr rfl))))).trans E4
   refine(deal1 o hfr (rd1 g1 rfl) (rd1 Lg rfl) (rd1 g2 rfl) (rd1 g4 rfl) (rd1 g3 rfl) B (by simp[rows];omega) (i:=i) (by omega) (R (f+2) i) (fun hb=>tw.leaf i hb)).mono ?_
   rintro _ g' ⟨rfl,s',B',v'⟩
   have ap:=mv_apart v' (fun x z=>by rw[hz x z];exact Zd x z) hnz
   refine⟨rfl,_,⟨s',rfl,?_,fun x z=>(ap.1 x z).trans (hz x z),ap.2⟩,mv_both2 v'⟩
   have e:rows (i+1)=rows i++[rowOf P fr i (R (f+2) i)]:=by simp[rows,List.range_succ]
   rw[e];exact B'
 rintro _ h11 ⟨es1,F1,rfl,M11,S11,d11,v11⟩
 have wl:=writes_length ((f:Int)+2) N
 have V10:Mv (fun x=>MF m es x∨x=lb) h (fun x=>MF m es x∨(Z x∨Fp b5 ⟨none,0,0,none⟩ x)) h10:=(mvK k010 _).to fun x hx=>by
   rcases hx with hx|z|rfl|⟨p,hp,_⟩
   · exact .inl (.inl hx)
   · exact(Z0 x z).imp .inr id
   · exact .inr f50
   · cases hp
 have V11:=V10.trans v11
 have dom11:=domS N F1 h11 S11
 have M11:MemR T m (putRow R (f+2) (tab1 P fr (R (f+2)))) _ _ _:=MemR.row_all (f:=tab1 P fr (R (f+2))) (g:=R (f+2)) M11 (by omega)
 obtain⟨s,rfl,B11,hz11,hn11⟩:=S11
 have L11:=(hz11 lb (.inl rfl)).trans L10
 have G1:=(hz11 b1 (.inr (.inl rfl))).trans E1
 have gq3:=(hz11 b3 (.inr (.inr (.inr (.inl rfl))))).trans E3
 have gq4:=(hz11 b4 (.inr (.inr (.inr (.inr rfl))))).trans E4
 refine⟨rfl,some ⟨lb,0⟩,rd1 G1 rfl,_,rfl,some ⟨m.b,0⟩,rd1 L11 rfl,some ⟨lb,0⟩,rd1 G1 rfl,_,rfl,_,rd1 L11 rfl,?_⟩
 rw[ew]
 refine(sort_runN M11 hr (by omega) hNN.symm (by omega) (k:=11) (by decide) (by simp only[List.length_append,wl];omega)).mono ?_
 rintro _ h12 ⟨es2,rfl,M12,v12⟩
 have M12:MemR T m (putRow R (f+2) (tab2 P fr (R (f+2)))) (ev++turnEv f P.E) es2 h12:=by
   rw[putRow_put,putRow_get,List.append_assoc,←hNN,turnEv_cast] at M12;exact M12
 obtain⟨s12,d12⟩:=mv_apart v12 dom11 d11
 have B12:=B11.move fun x hx=>s12 x (.inr hx)
 have V12:=V11.trans (mv_both1 v12)
 refine⟨_,rfl,s,rd1 B12.cell rfl,?_⟩
 let D:Nat→Prop:=fun x=>∃q,s.q=some q∧x=q.b
 refine(sortedRow (deal2 D h12) (fun q hq=>⟨q,hq,rfl⟩) (n:=N) (by omega) (d:=fun j=>rowOf P fr j (R (f+2) j)) B12.own (Off.refl _ _) (fun _ _=>trivial)).mono ?_
 rintro _ h13 ⟨rfl,d',A13,O13,p13,o13,_⟩
 have D13:∀x,D x→h13 x≠none:=by rintro _ ⟨q,hq,rfl⟩;exact(A13.blk hq).2
 have V13:=V12.trans (off_mv O13 (fun x hd=> .inr (.inr (.inr hd))) D13)
 have z13:∀x,Z x→h13 x=h11 x:=fun x z=>by
   rw[O13 x (by rw[s12 x (.inl z),hz11 x z];exact Zd x z) fun d=>hn11 x z (.inr d),s12 x (.inl z)]
 have M13:=M12.move fun x hx=>O13 x (M12.dom hx) fun d=>d12 x (.inr (.inr d)) hx
 have c13:h13 b5=some (.cells #[vs s] 249 (0,0)):=by
   rw[O13 b5 (by rw[B12.cell];simp) fun⟨q,hq,e⟩=>B12.ne q hq e.symm,B12.cell]
 have H1:=(z13 b1 (.inr (.inl rfl))).trans G1
 have H3:=(z13 b3 (.inr (.inr (.inr (.inl rfl))))).trans gq3
 have H4:=(z13 b4 (.inr (.inr (.inr (.inr rfl))))).trans gq4
 have HL:=(z13 lb (.inl rfl)).trans L11
 have al:=A13.len
 have ac:=A13.cap
 simp only[List.length_map,List.length_range] at al
 refine⟨rfl,s,rd1 c13 rfl,_,rd1 H4 rfl,by omega,by omega,?_⟩
 let it:Nat→UInt64×Int:=fun j=>((d' j).id,(d' j).deep)
 have RC:=RdM.takeM rowf_len A13.rd (n:=P.n) (by simp;omega)
 refine⟨fun q5 q6 q7 n18 s3 s4 n19 n20 g kk=>q5=⟨b1,0⟩∧q6=⟨b3,0⟩∧q7=⟨b4,0⟩∧n18=(N:Nat)∧s4=⟨slPt s.p 0 s.cap 3,P.n-0,s.cap-0,slZ s.z 0 s.cap 3⟩∧n19=(P.n:Nat)∧∃i:Nat,n20=i∧i≤P.n∧kk=P.n-i∧OwnM 2 itf h13 g s3 ((List.range i).map it)∧Keep h13 g,
   ⟨P.n,rfl,rfl,rfl,rfl,rfl,rfl,0,rfl,by omega,rfl,OwnM.nilS ..,Keep.refl _⟩,?_⟩
 rintro q5 q6 q7 n18 s3 s4 n19 n20 h14 kk ⟨rfl,rfl,rfl,rfl,rfl,rfl,i,rfl,hi,rfl,Og,kg⟩
 refine ifD (fun hlt=>?_) fun hge=>?_
 · have hi':i<P.n:=by omega
   refine(RC.keep rowf_len kg).ix rowf_len (i:=i) (by simp;omega) fun q hq hrd=>?_
   have e:(((List.range N).map d').take P.n)[i]'(by simp;omega)=d' i:=by simp
   rw[e] at hrd
   obtain⟨c1,c2,c3,_⟩:=hrd
   rw[show(i:Int).toNat=i by omega]
   refine⟨_,c1,_,c2,_,c3,newC fun b6 g1 f6 e6 k6=>?_⟩
   refine stW (kg.trans k6) (kg.free f6) e6 rfl fun g2 kg2 e6' o6=>⟨_,rd1 e6' rfl,_,rd1 e6' rfl,?_⟩
   have Og2:=(Og.keep k6).move (h':=g2) fun q hq=>o6 _ fun e=>(Og.blk hq).2 (e▸f6)
   refine OwnM.push rtItem itf_len itf_one Og2 [it i] (by rfl) rfl (fun b hb=>kg2.free hb) (by simp;omega) (by decide) fun s' g3 O3 off3 _ fr3=>⟨P.n-(i+1),by omega,rfl,rfl,rfl,rfl,rfl,rfl,i+1,w64_id (by omega) (by omega),by omega,rfl,?_,keep_app Og2 kg2 off3⟩
   have e:(List.range (i+1)).map it=(List.range i).map it++[it i]:=by simp[List.range_succ]
   rw[e];exact O3
 have hi:i=P.n:=by omega
 subst hi
 generalize hTT:R (f+2)=TT at *
 have hrow:∀j,j<N→RowOk P (d' j):=fun j hj=>p13.all (P:=RowOk P) (fun x _ hx=>by
   have h1:=itC_key o (fr:=fr) tw (i:=x) (by omega)
   have h2:ckey (tab1 P fr TT x)=(key1 P fr x (TT x)).toNat:=by unfold ckey tab1;rw[set_get11]
   rw[h2] at h1
   exact h1) (Nat.zero_le _) hj
 have hperm:((List.range (2 ^ P.E)).map fun j=>(d' j).key.toNat).Perm ((List.range (2 ^ P.E)).map fun i=>ckey (tab1 P fr TT i)):=by
   have h1:=p13.2.map fun r:Row=>r.key.toNat
   rw[List.map_map,List.map_map,Nat.sub_zero,←List.range_eq_range'] at h1
   rw[hNN]
   refine h1.trans (List.Perm.of_eq (List.map_congr_left fun x _=>?_))
   show(key1 P fr x (TT x)).toNat=_
   unfold ckey tab1;rw[set_get11]
 have hit:∀j,j<N→it j=itC P fr (tab2 P fr TT j):=fun j hj=>by
   rw[←rows_items o (d':=fun j=>(d' j).key.toNat) tw hperm (fun a b h1 h2=>o13 a b (Nat.zero_le _) h1 (by omega)) (i:=j) (by omega)]
   exact hrow j hj
 have hL:(List.range P.n).map it=(List.range P.n).map fun j=>itC P fr (tab2 P fr TT j):=List.map_congr_left fun j hj=>hit j (by have:=List.mem_range.1 hj;omega)
 rw[hL] at Og
 have hds:((List.range P.n).map fun j=>itC P fr (tab2 P fr TT j)).map (·.2)=deeps P fr TT:=by
   unfold deeps
   rw[List.map_map]
   exact List.map_congr_left fun j _=>itC_deep P fr _
 have hdn:(deeps P fr TT).length=P.n:=by simp[deeps]
 have dl:=dealt P.k P.s P.t (by have:=o.s;omega) (deeps P fr TT) (by rw[hdn];unfold LP.n;omega)
 refine⟨_,rd1 (kg.get H3) rfl,_,rd1 (kg.get H3) rfl,_,rd1 (kg.get H3) rfl,?_⟩
 refine(deal_deal (k:=P.k) (s:=P.s) (t:=P.t) ol.deal Og.rd (by simp[LP.n]) (fun x hx=>?_) ?_).mono ?_
 · obtain⟨j,_,rfl⟩:=List.mem_map.1 hx
   rw[itC_deep];unfold itD
   have:=deepN_le P.k fr (tab2 P fr TT j)[2].toNat
   split<;>omega
 · intro a b h1 h2
   have h2':b<P.n:=by simpa using h2
   have ga:∀j,j<P.n→((List.range P.n).map fun j=>itC P fr (tab2 P fr TT j)).getD j L0=itK P.k (ckey (tab2 P fr TT j)):=fun j hj=>by
     rw[←itC_tab2 o tw (by omega)];simp[List.getD,hj]
   rw[ga a (by omega),ga b h2']
   exact ikey_mono (by have:=o.k;omega) (tab2_key_mono P fr TT h1 (by omega))
 rintro _ h19 ⟨s6,s7,rfl,O6,O7,k19⟩
 rw[hds] at O6 O7
 have hpn:(places P.k P.s P.t (deeps P fr TT)).length=P.n:=dl.len.trans hdn
 have hplt:∀x∈places P.k P.s P.t (deeps P fr TT),x<2 ^ 63:=fun x hx=>by have:=dl.lt x hx;omega
 have lol:(dlost P.k P.s P.t (deeps P fr TT)).length≤1000000:=by
   have h1:=List.length_filter_le (fun i=>(dgo P.k P.s P.t (deeps P fr TT) (dst0 P.k)).getD i none==none) (List.range (dmany (deeps P fr TT)))
   have h2:=dmany_le (deeps P fr TT)
   rw[List.length_range] at h1
   unfold dlost;omega
 have k139:=kg.trans k19
 refine⟨s6,s7,rfl,newC fun b8 h20 f8' e8' k20=>newC fun b9 h21 f9' e9' k21=>?_⟩
 have n98:b9≠b8:=fun e=>by rw[e,e8'] at f9';cases f9'
 have k1321:=(k139.trans k20).trans k21
 have f813:h13 b8=none:=k139.free f8'
 have f913:h13 b9=none:=(k139.trans k20).free f9'
 refine stW k1321 f813 (k21.get e8') rfl fun h22 k22 e22 o22=>stW k22 f913 ((o22 _ n98).trans e9') rfl fun h23 k23 e23 o23=>?_
 have e823:=(o23 _ (Ne.symm n98)).trans e22
 have k1923:Keep h19 h23:=fun x hx=>by
   have x8:x≠b8:=fun e=>hx (e▸f8')
   have x9:x≠b9:=fun e=>by have:=k20 x hx;rw[e,f9'] at this;rw[e] at hx;exact hx this.symm
   rw[o23 x x9,o22 x x8,k21 x (by rw[k20 x hx];exact hx),k20 x hx]
 have X1:=k23.get H1
 have X4:=k23.get H4
 have XL:=k23.get HL
 have P6:=O6.keep k1923
 have P7:=O7.keep k1923
 let Z2:Nat→Prop:=fun x=>Z x∨x=b8∨x=b9∨(∃q,s6.q=some q∧x=q.b)∨(∃q,s7.q=some q∧x=q.b)
 have Y0:∀x,Z2 x→Z x∨h13 x=none:=by
   rintro x (z|rfl|rfl|⟨q,hq,rfl⟩|⟨q,hq,rfl⟩)
   · exact .inl z
   · exact .inr f813
   · exact .inr f913
   · exact .inr (kg.free (O6.blk hq).1)
   · exact .inr (kg.free (O7.blk hq).1)
 have Z2d:∀x,Z2 x→h23 x≠none:=by
   rintro x (z|rfl|rfl|⟨q,hq,rfl⟩|⟨q,hq,rfl⟩)
   · have h0:h13 x≠none:=by rw[z13 x z,hz11 x z];exact Zd x z
     rw[k23 x h0];exact h0
   · rw[e823];simp
   · rw[e23];simp
   · exact(P6.blk hq).2
   · exact(P7.blk hq).2
 have Zmf:∀x,Z2 x→¬MF m es2 x:=fun x z hm=>(Y0 x z).elim (fun z=>d12 x (.inl z) hm) fun hx=>M13.dom hm hx
 have V23:Mv (fun x=>MF m es x∨x=lb) h (fun x=>MF m es2 x∨Z2 x) h23:=(V13.more k23).to fun x hx=>hx.elim (fun hm=> .inl (.inl hm)) fun z=>(Y0 x z).elim (fun z=> .inl (.inr (.inl z))) fun hx=> .inr (V13.2.2 x hx)
 have M23:=M13.keep k23
 have nl:∀x,h x=none→x≠lb:=fun x hx e=>by rw[e,hlb] at hx;cases hx
 have fin:∀(g:Hp) (ov':Bool),Mv (fun x=>MF m es x∨x=lb) h (fun x=>MF m es2 x∨Z2 x) g→MemR T m (putRow R (f+2) (tab2 P fr TT)) (ev++turnEv f P.E) es2 g→g lb=some (.cells (lvc P m.b f ov' mp) Tl (0,0))→(∀x,Z2 x→x≠lb→g x=h23 x)→ov'=(ov||tlost P fr TT) →
     ∃o9:Option Pt,hcell g b1 0=some (vpn o9)∧callK prog 151 [vpn o9,.int .i64 N,.func (.func 159) #[] #[vp ⟨b9,0⟩,vp ⟨b4,0⟩,vp ⟨b8,0⟩]] g fun v8 h25=>v8= .tuple #[]∧∃o10:Option Pt,hcell h25 b1 0=some (vpn o10)∧∃q11:Pt,o10=some q11∧∃o11:Option Pt,hcell h25 q11.b (q11.o+3)=some (vpn o11)∧∃o12:Option Pt,hcell h25 b1 0=some (vpn o12)∧∃q12:Pt,o12=some q12∧∃n26,hcell h25 q12.b (q12.o+4)=some (.int .i64 n26) ∧
      callK prog 154 [vpn o11,.int .i64 (w64 (n26+2)),.int .i64 N,.int .i64 11] h25 fun v9 h26=>∃n27,v9= .int .i64 n27∧∃es',Value.tuple #[]= .tuple #[]∧MemR T m (putRow R (f+2) (tab4 P fr TT)) (ev++(turnEv f P.E++turnEv f P.E)) es' h26 ∧
     h26 lb=some (.cells (lvc P m.b f (ov||tlost P fr TT) mp) Tl (0,0))∧¬MF m es' lb∧Mv (fun x=>MF m es x∨x=lb) h (fun x=>MF m es' x∨x=lb) h26:=by
   rintro g ov' V Mg Lg hz rfl
   have z1:Z2 b1:= .inl (.inr (.inl rfl))
   have z4:Z2 b4:= .inl (.inr (.inr (.inr (.inr rfl))))
   have z8:Z2 b8:= .inr (.inl rfl)
   have z9:Z2 b9:= .inr (.inr (.inl rfl))
   have zl:Z2 lb:= .inl (.inl rfl)
   have n8l:=nl b8 (V13.2.2 _ f813)
   have n9l:=nl b9 (V13.2.2 _ f913)
   have g1:=(hz b1 z1 (nl _ f1)).trans X1
   have g4:=(hz b4 z4 (nl _ f40)).trans X4
   have g8:=(hz b8 z8 n8l).trans e823
   have g9:=(hz b9 z9 n9l).trans e23
   have r6:=(P6.move (h':=g) fun q hq=>hz _ (.inr (.inr (.inr (.inl ⟨q,hq,rfl⟩)))) (nl _ (V13.2.2 _ (kg.free (O6.blk hq).1)))).rd
   have r7:=(P7.move (h':=g) fun q hq=>hz _ (.inr (.inr (.inr (.inr ⟨q,hq,rfl⟩)))) (nl _ (V13.2.2 _ (kg.free (O7.blk hq).1)))).rd
   have Z2g:∀x,Z2 x→g x≠none:=fun x z=>by
     by_cases c:x=lb
     · rw[c,Lg];simp
     · rw[hz x z c];exact Z2d x z
   refine⟨some ⟨lb,0⟩,rd1 g1 rfl,?_⟩
   refine(level_update Mg hf hr (n:=N) (by omega) (by simp only[List.length_append];omega) (fn:=turn3 P.n (places P.k P.s P.t (deeps P fr TT)) (dlost P.k P.s P.t (deeps P fr TT))) (S:=fun _ F g'=>F=Z2∧∀x,Z2 x→g' x=g x) ⟨rfl,fun _ _=>rfl⟩ Zmf ?_ ?_ ?_ ?_).mono ?_
   · rintro i _ g' ⟨rfl,hs⟩ b z;rw[hs b z];exact Z2g b z
   · rintro i _ g' g'' ⟨rfl,hs⟩ h2;exact⟨rfl,fun x z=>(h2 x z).trans (hs x z)⟩
   · rintro i _ g' ⟨rfl,hs⟩
     have:=(hs lb zl).trans Lg
     exact⟨rd1 this rfl,rd1 this rfl⟩
   · rintro i _ g' hi ⟨rfl,hs⟩
     refine(deal3 (n:=P.n) (rd1 ((hs b9 z9).trans g9) rfl) (rd1 ((hs b4 z4).trans g4) rfl) (rd1 ((hs b8 z8).trans g8) rfl) (r7.move fun q hq _=>hs _ (.inr (.inr (.inr (.inr ⟨q,hq,rfl⟩))))) (r6.move fun q hq _=>hs _ (.inr (.inr (.inr (.inl ⟨q,hq,rfl⟩))))) hpn hplt lol (i:=i) (by omega) _).mono ?_
     rintro _ g'' ⟨rfl,kk⟩
     exact⟨rfl,Z2,⟨rfl,fun x z=>(kk x (by rw[hs x z];exact Z2g x z)).trans (hs x z)⟩,mvK kk _⟩
   rintro _ h25 ⟨es3,F3,rfl,M25,⟨rfl,z25⟩,d25,v25⟩
   rw[putRow_put,putRow_get] at M25
   have M25:MemR T m (putRow R (f+2) (tab3 P fr TT)) _ _ _:=MemR.row_all (f:=tab3 P fr TT) (g:=tab2 P fr TT) M25 (by omega)
   have q1:=(z25 b1 z1).trans g1
   have qL:=(z25 lb zl).trans Lg
   refine⟨rfl,some ⟨lb,0⟩,rd1 q1 rfl,_,rfl,some ⟨m.b,0⟩,rd1 qL rfl,some ⟨lb,0⟩,rd1 q1 rfl,_,rfl,_,rd1 qL rfl,?_⟩
   rw[ew]
   refine(sort_runN M25 hr (by omega) hNN.symm (by omega) (k:=11) (by decide) (by simp only[List.length_append,wl];omega)).mono ?_
   rintro _ h26 ⟨es4,rfl,M26,v26⟩
   rw[putRow_put,putRow_get,List.append_assoc (ev++turnEv f P.E),←hNN,turnEv_cast,List.append_assoc] at M26
   obtain⟨s26,d26⟩:=mv_apart v26 (fun x z=>by rw[z25 x z];exact Z2g x z) d25
   refine⟨_,rfl,es4,rfl,M26,(s26 lb zl).trans qL,d26 lb zl,((V.trans v25).trans (mv_both1 v26)).to fun x hx=>?_⟩
   rcases hx with hx|rfl
   · exact .inl (.inl hx)
   · exact .inl (.inr zl)
 have nlm:∀x,MF m es2 x→x≠lb:=fun x hx e=>Zmf lb (.inl (.inl rfl)) (e▸hx)
 refine⟨some ⟨lb,0⟩,rd1 X1 rfl,some ⟨lb,0⟩,rd1 X1 rfl,_,rfl,_,rd1 XL rfl,?_⟩
 refine ifB_intro (fun ht=>?_) fun ht=>?_
 · refine⟨_,rfl,stF V23 (.inr (.inl (.inl rfl))) XL (by simp) fun h24 V24 L24 o24=>?_⟩
   exact fin h24 true V24 (M23.move fun x hx=>o24 x (nlm x hx)) (by rw[L24];rfl) (fun x z hx=>o24 x hx) (by rw[ht];rfl)
 · refine⟨_,rd1 e23 rfl,_,rfl,stF V23 (.inr (.inl (.inl rfl))) XL (by simp) fun h24 V24 L24 o24=>?_⟩
   refine fin h24 _ V24 (M23.move fun x hx=>o24 x (nlm x hx)) (by rw[L24];rfl) (fun x z hx=>o24 x hx) ?_
   rw[ht]
   show decide ((0:Int)<(s7.len:Int))=tlost P fr TT
   rw[O7.len,List.length_map]
   unfold tlost
   cases dlost P.k P.s P.t (deeps P fr TT)<;>simp
end
end Go.Proofs.Tryz

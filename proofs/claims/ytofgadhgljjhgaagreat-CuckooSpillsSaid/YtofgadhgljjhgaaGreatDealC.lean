/- Chapter 9's smaller parts: comparisons, rows repeated, rows with some taken out, places one by one. -/
import Derived.Test.YtofgadhgljjhgaaGreatSrtInt
namespace Go.Sh
open Go Go.RowKit
theorem ownSM {f:Int→Value} {h0 h:Hp} {s:Sl} {l:List Int}:OwnS f h0 h s l↔OwnM 1 (fun x=>[f x]) h0 h s l:=by
 have e:∀l:List Int,l.flatMap (fun x=>[f x])=l.map f:=fun l=>by induction l<;>simp_all
 constructor
 · intro o
   refine⟨o.len,o.cap,?_⟩
   rcases o.own with h|⟨q,c,t,h1,h2,h3,h4,h5⟩
   · exact .inl h
   · refine .inr ⟨q,c,t,h1,h2,h3,by omega,fun i hi=>?_⟩
     have hi':i<l.length:=by rw[e] at hi;simpa using hi
     rw[h5 i hi'];simp[e]
 · intro o
   refine⟨o.len,o.cap,?_⟩
   rcases o.own with h|⟨q,c,t,h1,h2,h3,h4,h5⟩
   · exact .inl h
   · refine .inr ⟨q,c,t,h1,h2,h3,by omega,fun i hi=>?_⟩
     have:=h5 i (by rw[e];simpa using hi)
     simpa [e] using this
end Go.Sh
namespace Go.Proofs.Tryz
open Go Go.Sh Go.RowKit
set_option maxRecDepth 8000
abbrev ArrB (b0 g:Hp) (s:Sl) (n:Nat) (d:Nat→Int):Prop:=OwnM 1 intf b0 g s ((List.range n).map d)
theorem ArrB.toS {b0 g:Hp} {s:Sl} {n:Nat} {d:Nat→Int} (A:ArrB b0 g s n d):OwnS iv b0 g s ((List.range n).map d):=ownSM.2 A
theorem ArrB.zero {h0 h:Hp} {b n:Nat} {t:TypeId} {m:Nat} (hb:h0 b=none) (e:h b=some (.cells (zRow (if m=0 then #[] else Value.cells (.int .i64 0)) m) t (0,0))) (hm:m=n):ArrB h0 h ⟨some ⟨b,0⟩,n,n,none⟩ n fun _=>0:=by
 subst hm
 refine⟨by simp,Nat.le_refl _,.inr ⟨_,_,_,rfl,hb,e,?_,fun i hi=>?_⟩⟩
 · rw[show Value.cells (.int .i64 0)=#[.int .i64 0] from rfl,zRow_one _ _ rfl];simp
 · have fl:(((List.range m).map fun _=>(0:Int)).flatMap intf).length=m:=by rw[flat_length intf_len];simp
   have hi':i<m:=by rw[fl] at hi;exact hi
   rw[show Value.cells (.int .i64 0)=#[.int .i64 0] from rfl,zRow_one _ _ rfl,Nat.zero_add]
   have e2:((List.range m).map fun _=>(0:Int)).flatMap intf=List.replicate m (.int .i64 0):=by
     have:∀l:List Nat,(l.map fun _=>(0:Int)).flatMap intf=List.replicate l.length (.int .i64 0):=fun l=>by
       induction l with
       | nil=>rfl
       | cons a l ih=>rw[List.map_cons,List.flatMap_cons,ih];rfl
     rw[this,List.length_range]
   simp[e2,hi']
theorem ArrB.get {b0 g:Hp} {s:Sl} {n:Nat} {d:Nat→Int} (A:ArrB b0 g s n d) {i:Nat} (hi:i<n) {I:Int} (hI:I=i) {K:Pt→Int→Prop} (hk:∀q,s.q=some q→K q (d i)) :
   ∃q,s.q=some q∧0≤I∧I+1≤(s.len:Int)∧∃n1:Int,hcell g q.b (q.o+Int.toNat I*1)=some (.int .i64 n1)∧K q n1:=by
 subst hI
 refine A.rd.ix intf_len (i:=i) (by simpa using hi) fun q hq r=>?_
 rw[arr_get hi] at r
 exact⟨_,r.1,hk q hq⟩
theorem ArrB.set {b0 g:Hp} {s:Sl} {n:Nat} {d:Nat→Int} (A:ArrB b0 g s n d) {i:Nat} (hi:i<n) {I:Int} (hI:I=i) (e:Int) {K:Hp→Prop}
   (hk:∀g',ArrB b0 g' s n (fun x=>if x=i then e else d x)→(∀b,(∀q,s.q=some q→b≠q.b)→g' b=g b)→K g') :
   ∃q,s.q=some q∧0≤I∧I+1≤(s.len:Int)∧storeK g ⟨q.b,q.o+Int.toNat I*1⟩ [.int .i64 e] K:=by
 subst hI
 have hl:=A.len
 simp only[List.length_map,List.length_range] at hl
 obtain⟨q,hq⟩:=A.rd.ptr (by simp;omega)
 exact⟨q,hq,by omega,by omega,arr_put intf_len A hq hi e fun g' A' o'=>hk g' A' fun b hb=>o' b (hb q hq)⟩
theorem cmp_nan (a:Int):PureC prog 202 [.int .i64 a] (.bool false):=fun h=>by
 refine c202 _ ?_
 exact⟨by simp,Keep.refl h⟩
theorem cmp_nanU (a:UInt64):PureC prog 175 [vu a] (.bool false):=fun h=>by
 refine c175 _ ?_
 exact⟨by simp,Keep.refl h⟩
theorem cmp_int (a b:Int):PureC prog 199 [.int .i64 a,.int .i64 b] (.int .i64 (if a<b then -1 else if b<a then 1 else 0)):=fun h=>by
 refine c199 _ _ ?_
 unfold G199
 refine(cmp_nan a).to fun h1 k1=>⟨_,rfl,(cmp_nan b).to fun h2 k2=>⟨_,rfl,ifB_neg rfl (ifB_neg rfl ?_)⟩⟩
 refine ifD (fun c=>⟨by rw[if_pos c],k1.trans k2⟩) fun c=>ifD (fun c2=>⟨by rw[if_neg c,if_pos c2],k1.trans k2⟩) fun c2=>⟨by rw[if_neg c,if_neg c2],k1.trans k2⟩
theorem cmp_u64 (a b:UInt64):PureC prog 157 [vu a,vu b] (.int .i64 (if a<b then -1 else if b<a then 1 else 0)):=fun h=>by
 refine c157 _ _ ?_
 unfold G157
 refine(cmp_nanU a).to fun h1 k1=>⟨_,rfl,(cmp_nanU b).to fun h2 k2=>⟨_,rfl,ifB_neg rfl (ifB_neg rfl ?_)⟩⟩
 refine ifD (fun c=>⟨by rw[if_pos c],k1.trans k2⟩) fun c=>ifD (fun c2=>⟨by rw[if_neg c,if_pos c2],k1.trans k2⟩) fun c2=>⟨by rw[if_neg c,if_neg c2],k1.trans k2⟩
def itf (e:UInt64×Int):List Value:=[vu e.1,.int .i64 e.2]
theorem itf_len (e:UInt64×Int):(itf e).length=2:=rfl
theorem itf_one (e:UInt64×Int):∀v∈itf e,v.oneCell'=true:=by simp[itf,vu,Value.oneCell']
def ikey (e:UInt64×Int):Nat:=if e.2<0 then 1001*18446744073709551616 else (1000-e.2.toNat)*18446744073709551616+e.1.toNat
theorem ikey_deep {a b:UInt64×Int} (ha:a.2≤1000) (hb:b.2≤1000) (hn:¬(a.2<0∧b.2<0)) (hne:a.2≠b.2):b.2<a.2↔ikey a<ikey b:=by
 have la:=a.1.toNat_lt;have lb:=b.1.toNat_lt
 obtain⟨x,dx⟩:=a
 obtain⟨y,dy⟩:=b
 simp only at *
 unfold ikey
 simp only
 generalize x.toNat=x' at *
 generalize y.toNat=y' at *
 by_cases c1:dx<0
 · rw[if_pos c1,if_neg (show ¬dy<0 by omega)];omega
 · rw[if_neg c1]
   by_cases c2:dy<0
   · rw[if_pos c2];omega
   · rw[if_neg c2];omega
theorem item_against (a b:UInt64×Int) (ha:a.2≤1000) (hb:b.2≤1000) (h:Hp):callK prog 192 [.agg #[vu a.1,.int .i64 a.2],.agg #[vu b.1,.int .i64 b.2]] h fun r h'=>∃m,r= .int .i64 m∧(m<0↔ikey a<ikey b)∧Keep h h':=by
 refine c192 _ _ _ _ ?_
 unfold G192
 refine newC fun b1 h1 f1 e1 k1=>newC fun b2 h2 f2 e2 k2=>?_
 have e1:=k2.get e1
 have rest:¬(a.2<0∧b.2<0)→∃n3,hcell h2 b1 1=some (.int .i64 n3)∧∃n4,hcell h2 b2 1=some (.int .i64 n4)∧ifB (!decide (n3=n4)) (∃n5,hcell h2 b2 1=some (.int .i64 n5)∧∃n6,hcell h2 b1 1=some (.int .i64 n6)∧callK prog 199 [.int .i64 n5,.int .i64 n6] h2 fun v1 h3=>∃n7,v1= .int .i64 n7∧∃m,(.int .i64 n7:Value)= .int .i64 m∧(m<0↔ikey a<ikey b)∧Keep h h3)
     (∃x1,hcell h2 b1 0=some (vu x1)∧∃x2,hcell h2 b2 0=some (vu x2)∧callK prog 157 [vu x1,vu x2] h2 fun v2 h4=>∃n8,v2= .int .i64 n8∧∃m,(.int .i64 n8:Value)= .int .i64 m∧(m<0↔ikey a<ikey b)∧Keep h h4):=by
   intro hn
   refine⟨_,rd1 e1 rfl,_,rd1 e2 rfl,ifN (fun hne=>?_) fun heq=>?_⟩
   · refine⟨_,rd1 e2 rfl,_,rd1 e1 rfl,?_⟩
     refine(cmp_int _ _).to fun h3 k3=>⟨_,rfl,_,rfl,?_,(k1.trans k2).trans k3⟩
     have key:=ikey_deep ha hb hn hne
     rw[←key]
     by_cases c:b.2<a.2
     · rw[if_pos c];simp[c]
     · rw[if_neg c]
       by_cases c2:a.2<b.2
       · rw[if_pos c2];simp[c]
       · rw[if_neg c2];simp[c]
   · refine⟨_,rd1 e1 rfl,_,rd1 e2 rfl,?_⟩
     refine(cmp_u64 _ _).to fun h3 k3=>⟨_,rfl,_,rfl,?_,(k1.trans k2).trans k3⟩
     have c1:¬a.2<0:=fun c=>hn ⟨c,by omega⟩
     have key:(a.1<b.1)↔ikey a<ikey b:=by
       unfold ikey
       rw[if_neg c1,if_neg (by omega),heq,UInt64.lt_iff_toNat_lt];omega
     rw[←key]
     by_cases c:a.1<b.1
     · rw[if_pos c];simp[c]
     · rw[if_neg c]
       by_cases c2:b.1<a.1
       · rw[if_pos c2];simp[c]
       · rw[if_neg c2];simp[c]
 refine⟨_,rd1 e1 rfl,ifD (fun ca=>⟨_,rd1 e2 rfl,ifB_intro (fun cb=>?_) fun cb=>?_⟩) fun ca=>rest fun h=>ca h.1⟩
 · have cb':b.2<0:=by simpa using cb
   refine⟨0,rfl,?_,k1.trans k2⟩
   unfold ikey
   rw[if_pos ca,if_pos cb'];simp
 · have cb':¬b.2<0:=by simpa using cb
   exact rest fun h=>cb' h.2
/-! ## rows repeated -/
theorem mul_small {n:Nat} (hn:n<4294967296) (h:Hp):callK prog 191 [vu 1,vu (UInt64.ofNat n)] h fun v h'=>v= .tuple #[vu 0,vu (UInt64.ofNat n)]∧h'=h:=by
 refine c191 _ _ ?_
 unfold G191
 refine c198 _ _ ?_
 have hx:UInt64.ofNat n &&& 4294967295=UInt64.ofNat n:=by
   apply UInt64.toNat_inj.1
   rw[UInt64.toNat_and,UInt64.toNat_ofNat',show(4294967295:UInt64).toNat=2 ^ 32-1 from rfl,Nat.and_two_pow_sub_one_eq_mod];omega
 have hs:ushr (UInt64.ofNat n) (UInt64.toNat 32)=0:=by
   apply UInt64.toNat_inj.1
   unfold ushr
   rw[show UInt64.toNat 32=32 from rfl]
   have e5:min 32 64=32:=rfl
   simp only[UInt64.toNat_shiftRight,UInt64.toNat_ofNat',e5]
   have:(0:UInt64).toNat=0:=rfl
   omega
 have h1:ushr 1 (UInt64.toNat 32)=0:=by decide
 have h2:(1:UInt64) &&& 4294967295=1:=by decide
 have h0:ushr 0 (UInt64.toNat 32)=0:=by decide
 refine⟨_,_,rfl,?_,rfl⟩
 simp only[hx,hs,h1,h2,h0,UInt64.zero_mul,UInt64.one_mul,UInt64.add_zero,UInt64.zero_add,UInt64.zero_and]
theorem put_many {b0 g:Hp} {s:Sl} {n:Nat} {d:Nat→Int} (A:ArrB b0 g s n d) {q:Pt} (hq:s.q=some q) {i c:Nat} (hi:i+c≤n) (e:Int) {l:List Value} (hl:l=List.replicate c (.int .i64 e)) {K:Hp→Prop}
   (hk:∀g',ArrB b0 g' s n (fun x=>if i≤x∧x<i+c then e else d x)→(∀b,b≠q.b→g' b=g b)→K g'):storeK g ⟨q.b,q.o+i⟩ l K:=by
 subst hl
 have hlen:=A.len
 simp only[List.length_map,List.length_range] at hlen
 have hcap:=A.cap
 rcases A.own with ⟨hn,_⟩|⟨q',ca,t,h1,h2,h3,h4,h5⟩
 · rw[hq] at hn;cases hn
 · rw[hq] at h1;cases h1
   refine⟨ca,t,h3,by simp;omega,hk _ ⟨by simp[hlen],hcap,.inr ⟨q,_,t,hq,h2,upd_same _ _ _,by rw[hwr_size];exact h4,fun j hj=>?_⟩⟩ fun b hb=>upd_ne _ _ hb⟩
   have fl:∀d:Nat→Int,((List.range n).map d).flatMap intf=(List.range n).map fun x=> .int .i64 (d x):=fun d=>by
     rw[List.flatMap_map]
     exact flatMap_single _ _
   have hj':j<n:=by rw[fl] at hj;simpa using hj
   rw[hwr_get,List.length_replicate]
   have e1:=h5 j (by rw[fl];simpa using hj')
   have hsz:q.o+j<ca.size:=by omega
   by_cases c1:i≤j∧j<i+c
   · have hc:q.o+i≤q.o+j∧q.o+j<q.o+i+c∧q.o+j<ca.size:=⟨by omega,by omega,hsz⟩
     rw[if_pos hc]
     simp[fl,c1,List.getElem?_replicate];omega
   · have hc:¬(q.o+i≤q.o+j∧q.o+j<q.o+i+c∧q.o+j<ca.size):=fun h=>c1 ⟨by omega,by omega⟩
     rw[if_neg hc,e1]
     simp[fl,c1]
where
 flatMap_single (l:List Nat) (f:Nat→Value):l.flatMap (fun x=>[f x])=l.map f:=by induction l<;>simp_all
end Go.Proofs.Tryz
namespace Go.Proofs.Tryz
open Go Go.Sh Go.RowKit
set_option maxRecDepth 8000
theorem cpyI {x y:Sl} {h:Hp} {l:List Int} (ry:RdS iv h y l) {q:Pt} (hx:x.q=some q) {K:Nat→Hp→Prop} (hk:storeK h q ((l.take (Nat.min l.length x.len)).map iv) fun h'=>K (Nat.min l.length x.len) h'):cpyK prog 64 x (.s y) h K:=by
 unfold cpyK
 rw[rtI.und]
 simp only[rtI.sz,lenOfK,srcK,ry.len,hx]
 have hm:Nat.min l.length x.len≤l.length:=Nat.min_le_left _ _
 refine⟨(l.take (Nat.min l.length x.len)).map iv,by simp,by simp only[List.mem_map];rintro v ⟨a,_,rfl⟩;rfl,?_,hk⟩
 cases e:y.q with
 | none=>have h1:=ry.nil e;have h2:=ry.cap;have h3:=ry.len;have:l=[]:=List.length_eq_zero_iff.1 (by omega);simp[this]
 | some p =>
   simp only
   rw[rdL_map]
   intro i hi
   have hi':i<l.length:=by simp at hi;omega
   rw[ry.rd p e i hi'];simp
theorem cut_q1 {s:Sl} {q:Pt} (hq:s.q=some q) {i a c:Nat} (hi:i<s.cap):Sl.q ⟨slPt s.p i s.cap 1,a,c,slZ s.z i s.cap 1⟩=some ⟨q.b,q.o+i⟩:=by
 have hp:=Sl.q_p hq
 have hz:s.z=none:=by
   obtain⟨p,k,c,z⟩:=s
   cases z with
   | some z=>cases hq
   | none=>rfl
 simp only[Sl.q,slZ,hz,ite_self,slPt,hp,Option.map_some,Nat.mul_one]
 rw[if_neg (by omega)]
theorem deal_repeat {n:Nat} (h1:1≤n) (hn:n≤1000000) {h:Hp} {x:Sl} (rx:RdS iv h x [-1]):callK prog 176 [vs x,.int .i64 n] h fun v h'=>∃s,v=vs s∧ArrB h h' s n (fun _=>-1)∧Keep h h':=by
 refine c176 _ _ ?_
 unfold G176
 refine⟨fun s1 n1 g=>s1=x∧n1=(n:Nat)∧g=h,ifB_neg (by simp) ⟨rfl,rfl,rfl⟩,?_⟩
 rintro s1 n1 g ⟨rfl,rfl,rfl⟩
 have e1:toU (s1.len:Int)=1:=by rw[rx.len];exact toU_eq (i:=1) (by decide)
 rw[e1,toU_eq (by omega)]
 refine(mul_small (by omega) g).mono ?_
 rintro _ h ⟨rfl,rfl⟩
 have en:w64 (((UInt64.ofNat n).toNat:Nat):Int)=(n:Int):=by rw[UInt64.toNat_ofNat',Nat.mod_eq_of_lt (by omega)];exact w64_id (by omega) (by omega)
 have hlt:¬(9223372036854775807:UInt64)<UInt64.ofNat n:=by
   rw[UInt64.lt_iff_toNat_lt,UInt64.toNat_ofNat']
   have:(9223372036854775807:UInt64).toNat=9223372036854775807:=rfl
   omega
 refine⟨_,_,rfl,ifB_neg (by decide) (ifB_neg (by simpa using hlt) ?_)⟩
 rw[en]
 refine⟨by omega,by omega,by omega,by omega,newC fun b1 h2 f1 e1 k1=>?_⟩
 have hnn:Int.toNat (n:Int)=n:=by omega
 rw[hnn] at e1 ⊢
 have A0:ArrB h h2 ⟨some ⟨b1,0⟩,n,n,none⟩ n fun _=>0:=ArrB.zero f1 e1 (by omega)
 have hm:Nat.min ([(-1:Int)]).length n=1:=Nat.min_eq_left h1
 refine cpyI (rx.keep k1) (x:=⟨some ⟨b1,0⟩,n,n,none⟩) (q:=⟨b1,0⟩) rfl ?_
 show storeK h2 ⟨b1,0⟩ (([(-1:Int)].take (Nat.min ([(-1:Int)]).length n)).map iv) fun h'=>_
 rw[hm]
 refine put_many A0 (q:=⟨b1,0⟩) rfl (i:=0) (c:=1) (by omega) (-1) rfl fun g' A' o'=>?_
 refine⟨fun s2 n2 g2 k2=>s2=⟨some ⟨b1,0⟩,n,n,none⟩∧∃i:Nat,n2=i∧1≤i∧i≤n∧k2=n-i∧ArrB h g2 ⟨some ⟨b1,0⟩,n,n,none⟩ n (fun x=>if x<i then -1 else 0)∧(∀b,b≠b1→g2 b=h2 b),
   ⟨n-1,rfl,1,rfl,Nat.le_refl _,h1,rfl,by
     have e:(fun x:Nat=>if 0≤x∧x<0+1 then (-1:Int) else 0)=fun x=>if x<1 then -1 else 0:=by funext x;simp
     rw[e] at A';exact A',o'⟩,?_⟩
 rintro s2 n2 g2 k2 ⟨rfl,i,rfl,hi1,hi2,rfl,A2,o2⟩
 refine ifD (fun hlt=>?_) fun hge=>?_
 · have hi:i<n:=by simp only at hlt;omega
   refine⟨by omega,by simp only;omega,by omega,by simp only;omega,?_⟩
   have r2:=(RdS.takeS A2.toS.rd (n:=i) (by simp;omega))
   have ei:Int.toNat (i:Int)=i:=by omega
   rw[ei]
   refine cpyI r2 (cut_q1 (s:=⟨some ⟨b1,0⟩,n,n,none⟩) rfl (i:=i) hi) ?_
   have hm2:Nat.min (((List.range n).map fun x=>if x<i then (-1:Int) else 0).take i).length (n-i)=min i (n-i):=by
     simp only[List.length_take,List.length_map,List.length_range,Nat.min_eq_left (Nat.le_of_lt hi)]
   show storeK g2 ⟨b1,0+i⟩ (((((List.range n).map fun x=>if x<i then (-1:Int) else 0).take i).take (Nat.min (((List.range n).map fun x=>if x<i then (-1:Int) else 0).take i).length (n-i))).map iv) fun h'=>_
   rw[hm2]
   refine put_many A2 (q:=⟨b1,0⟩) rfl (i:=i) (c:=min i (n-i)) (by omega) (-1) ?_ fun g3 A3 o3=>?_
   · apply List.ext_getElem
     · simp;omega
     · intro j a1 a2
       simp at a2
       simp[iv];omega
   · refine⟨n-(i+min i (n-i)),by omega,rfl,i+min i (n-i),?_,by omega,by omega,rfl,?_,fun b hb=>by rw[o3 b hb,o2 b hb]⟩
     · rw[w64_id (by omega) (by omega)];omega
     · have e:(fun x:Nat=>if i≤x∧x<i+min i (n-i) then (-1:Int) else if x<i then -1 else 0)=fun x=>if x<i+min i (n-i) then -1 else 0:=by
         funext x;repeat' split
         all_goals first|rfl|omega
       rw[e] at A3;exact A3
 · have hi:i=n:=by simp only at hge;omega
   subst hi
   refine⟨_,rfl,?_,fun b hb=>?_⟩
   · have e:(List.range i).map (fun x=>if x<i then (-1:Int) else 0)=(List.range i).map fun _=>-1:=List.map_congr_left fun x hx=>if_pos (List.mem_range.1 hx)
     have A2':OwnM 1 intf h g2 ⟨some ⟨b1,0⟩,i,i,none⟩ ((List.range i).map fun _=>(-1:Int)):=by rw[←e];exact A2
     exact A2'
   · have hb1:b≠b1:=fun e=>hb (e▸f1)
     rw[o2 b hb1,k1 b hb]
theorem index_neg {h:Hp} {s:Sl} {l:List Int} (r:RdS iv h s l) (hl:l.length≤1000000) :
   callK prog 109 [vs s,.func (.func 180) #[] #[]] h fun v h'=>h'=h∧((v= .int .i64 (-1)∧∀x∈l,¬x<0)∨∃i:Nat,i<l.length∧v= .int .i64 i∧(∀x∈l.take i,¬x<0)∧l.getD i 0<0):=by
 refine c109 s _ ?_
 unfold G109
 refine⟨fun s1 v n i h1 k=>s1=s∧v= .func (.func 180) #[] #[]∧n=s.len∧h1=h∧∃j:Nat,i=j∧j≤s.len∧k=s.len-j∧∀x∈l.take j,¬x<0,⟨_,rfl,rfl,rfl,rfl,0,rfl,by omega,rfl,fun x hx=>by simp at hx⟩,?_⟩
 rintro s1 v n i h1 k ⟨rfl,rfl,rfl,rfl,j,rfl,hj0,rfl,hno⟩
 have:=r.len
 refine ifD (fun hlt=>?_) fun hge=>⟨rfl,.inl ⟨rfl,fun x hx=>hno x (by rw[List.take_of_length_le (by omega)];exact hx)⟩⟩
 have hj:j<l.length:=by omega
 have hgd:l.getD j 0=l[j]:=by simp[List.getD,hj]
 refine r.ix hj fun q _ hc=>⟨_,hc,?_⟩
 refine⟨rfl,?_⟩
 refine c180 _ ?_
 refine⟨_,rfl,ifB_intro (fun hneg=>⟨rfl,.inr ⟨j,hj,rfl,hno,by rw[hgd];simpa using hneg⟩⟩) fun hneg=>⟨s1.len-(j+1),by omega,rfl,rfl,rfl,rfl,j+1,w64_id (by omega) (by omega),by omega,rfl,fun x hx=>?_⟩⟩
 rw[List.take_add_one,List.getElem?_eq_getElem hj] at hx
 rcases List.mem_append.1 hx with h|h
 · exact hno x h
 · simp at h;rw[h];simpa using hneg
theorem filter_all {l:List Int} (h:∀x∈l,¬x<0):l.filter (fun x=>decide (0≤x))=l:=List.filter_eq_self.2 fun x hx=>by have:=h x hx;simp;omega
theorem delete_neg {b0 h:Hp} {s:Sl} {n:Nat} {d:Nat→Int} (A:ArrB b0 h s n d) (hn:n≤1000000) :
   callK prog 179 [vs s,.func (.func 180) #[] #[]] h fun v h'=>∃s',v=vs s'∧RdS iv h' s' (((List.range n).map d).filter fun x=>decide (0≤x))∧(∀q,s'.q=some q→∃p,s.q=some p∧q.b=p.b)∧(∀b,(∀q,s.q=some q→b≠q.b)→h' b=h b)∧(∀q,s.q=some q→h' q.b≠none):=by
 have hlen:=A.len
 simp only[List.length_map,List.length_range] at hlen
 have hcap:=A.cap
 refine c179 _ _ ?_
 unfold G179
 refine(index_neg A.toS.rd (by simpa using hn)).mono ?_
 rintro v h ⟨rfl,hv⟩
 rcases hv with ⟨rfl,hall⟩|⟨i0,hi0,rfl,hno,hneg⟩
 · refine⟨_,rfl,ifB_pos rfl ⟨s,rfl,by rw[filter_all hall];exact A.toS.rd,fun q hq=>⟨q,hq,rfl⟩,fun _ _=>rfl,fun q hq=>(A.blk hq).2⟩⟩
 simp only[List.length_map,List.length_range] at hi0
 have hneg:d i0<0:=by simpa [List.getD,hi0] using hneg
 refine⟨_,rfl,ifB_neg (by simp) ?_⟩
 have hge0:∀j,j<i0→¬d j<0:=fun j hj=>hno (d j) (by
   rw[←List.map_take]
   exact List.mem_map_of_mem (by rw[List.take_range];exact List.mem_range.2 (by omega)))
 let cnt:Nat→List Int:=fun j=>((List.range j).map d).filter fun x=>decide (0≤x)
 have cs:∀j,cnt (j+1)=cnt j++if 0≤d j then [d j] else []:=fun j=>by
   show((List.range (j+1)).map d).filter _=_
   rw[List.range_succ,List.map_append,List.filter_append]
   by_cases c:0≤d j
   · rw[if_pos c];simp[c];rfl
   · rw[if_neg c];simp[c];rfl
 have c0:cnt i0=(List.range i0).map d:=filter_all fun x hx=>by
   obtain⟨j,hj,rfl⟩:=List.mem_map.1 hx
   exact hge0 j (List.mem_range.1 hj)
 have cl:∀j,(cnt j).length≤j:=fun j=>by
   have:=List.length_filter_le (fun x:Int=>decide (0≤x)) ((List.range j).map d)
   simpa using this
 refine⟨fun s1 v2 n2 n3 g kk=>s1=s∧v2= .func (.func 180) #[] #[]∧∃(j:Nat) (e:Nat→Int),n3=j∧n2=((cnt j).length:Nat)∧i0<j∧j≤n∧kk=n-j∧(cnt j).length<j∧ArrB b0 g s n e∧(∀b,(∀q,s.q=some q→b≠q.b)→g b=h b)∧(∀x,x<(cnt j).length→e x=(cnt j).getD x 0)∧∀x,j≤x→e x=d x,
   ⟨n-(i0+1),rfl,rfl,i0+1,d,w64_id (by omega) (by omega),?_,by omega,by omega,rfl,?_,A,fun _ _=>rfl,fun x hx=>?_,fun _ _=>rfl⟩,?_⟩
 · rw[cs,if_neg (by omega),List.append_nil,c0];simp
 · rw[cs,if_neg (by omega),List.append_nil,c0];simp
 · rw[cs,if_neg (by omega),List.append_nil,c0] at hx ⊢
   simp at hx;simp[List.getD,hx]
 rintro s1 v2 n2 n3 g kk ⟨rfl,rfl,j,e,rfl,rfl,hj1,hj2,rfl,hcl,Ag,og,lo,hi⟩
 refine ifD (fun hlt=>?_) fun hge=>?_
 · have hj:j<n:=by omega
   refine Ag.get hj rfl fun q hq=>?_
   rw[hi j (Nat.le_refl _)]
   refine⟨rfl,?_⟩
   refine c180 _ ?_
   refine⟨_,rfl,ifB_intro (fun hnn=>?_) fun hnn=>?_⟩
   · have h0:0≤d j:=by simpa using hnn
     have e1:=cs j
     rw[if_pos h0] at e1
     have e2:(cnt (j+1)).length=(cnt j).length+1:=by rw[e1];simp
     refine Ag.set (i:=(cnt j).length) (by omega) rfl (d j) fun g2 A2 o2=>?_
     refine⟨n-(j+1),by omega,rfl,rfl,j+1,_,w64_id (by omega) (by omega),?_,by omega,by omega,rfl,by omega,A2,fun b hb=>(o2 b hb).trans (og b hb),fun x hx=>?_,fun x hx=>?_⟩
     · rw[e2,w64_id (by omega) (by omega)];omega
     · rw[e1]
       by_cases c:x=(cnt j).length
       · rw[if_pos c,c];simp[List.getD]
       · rw[if_neg c,lo x (by omega)]
         simp only[List.getD];rw[List.getElem?_append_left (by omega)]
     · rw[if_neg (by omega)];exact hi x (by omega)
   · have h0:¬0≤d j:=by simp at hnn;omega
     have e1:=cs j
     rw[if_neg h0,List.append_nil] at e1
     refine⟨n-(j+1),by omega,rfl,rfl,j+1,e,w64_id (by omega) (by omega),by rw[e1],by omega,by omega,rfl,by rw[e1];omega,Ag,og,fun x hx=>by rw[e1] at hx ⊢;exact lo x hx,fun x hx=>hi x (by omega)⟩
 · have hj:j=n:=by omega
   subst hj
   have hcj:=cl j
   refine⟨by omega,by omega,?_⟩
   rw[show Int.toNat ((cnt j).length:Int)=(cnt j).length by omega]
   refine ifB_neg (by simp;omega) ?_
   obtain⟨q,hq⟩:=Ag.rd.ptr (by simp;omega)
   refine⟨_,cut_q1 hq (by omega),?_⟩
   refine put_many Ag hq (i:=(cnt j).length) (c:=s1.len-(cnt j).length) (by omega) 0 rfl fun g2 A2 o2=>?_
   refine⟨by omega,by omega,?_⟩
   refine⟨_,rfl,?_,fun q' hq'=>?_,fun b hb=>(o2 b (hb q hq)).trans (og b hb),fun q' hq'=>(A2.blk hq').2⟩
   · have:=RdS.takeS A2.toS.rd (n:=(cnt j).length) (by simp;omega)
     have e2:((List.range j).map fun x=>if (cnt j).length≤x∧x<(cnt j).length+(s1.len-(cnt j).length) then (0:Int) else e x).take (cnt j).length=cnt j:=by
       apply List.ext_getElem
       · simp;omega
       · intro x a1 a2
         have hl:=lo x a2
         simp only[List.getElem_take,List.getElem_map,List.getElem_range]
         rw[if_neg (by omega),hl];simp[List.getD,a2]
     rw[e2] at this;exact this
   · rcases cut_q hq' with ⟨p,hp,e2⟩|⟨_,h0⟩
     · exact⟨p,hp,e2⟩
     · simp at h0
/-! ## the next place -/
abbrev dcell (k s t:Nat) (x:DSt):Array Value:=#[.int .i64 k,.int .i64 s,.int .i64 t,.int .i64 x.lv,.int .i64 x.on,.int .i64 x.st]
def optI:Option Nat→Int
 | some p=>p
 | none=>-1
theorem deal_next {k s t:Nat} (o:DealOk k s t) {x:DSt} (w:DWf k s t x) (hl: -1≤x.lv) {d:Int} (hd:0≤d) {T:TypeId} {h:Hp} {b:Nat} (e:h b=some (.cells (dcell k s t x) T (0,0))) :
   callK prog 178 [vp ⟨b,0⟩,.int .i64 d] h fun v h'=>v= .int .i64 (optI (dnext k s t x d).2)∧h' b=some (.cells (dcell k s t (dnext k s t x d).1) T (0,0))∧(∀y,y≠b→h y≠none→h' y=h y)∧(∀y,h' y=none→h y=none):=by
 have w1:=w.lv;have w2:=w.on;have w3:=w.st
 have os:=o.s;have ot:=o.t;have od:=o.d
 refine c178 _ _ ?_
 unfold G178
 generalize hlv:(if d<x.lv then d else x.lv)=lv
 generalize hon:(if d<x.lv then 0 else x.on)=on
 have en:dnext k s t x d=if lv<0 then (if x.st=t then (⟨lv,on,x.st⟩,none) else (⟨lv,on,x.st+1⟩,some (s*(k+1)+x.st))) else (if on+1=s then ⟨lv-1,0,x.st⟩ else ⟨lv,on+1,x.st⟩,some (lv.toNat*s+on)):=by
   unfold dnext;rw[hlv,hon]
 have hlb:lv≤k∧-1≤lv∧on<s:=by
   by_cases c:d<x.lv
   · rw[if_pos c] at hlv hon;omega
   · rw[if_neg c] at hlv hon;omega
 rw[en]
 have upn:∀(g:Hp) (ob:Obj) y,g b≠none→upd g b ob y=none→g y=none:=fun g ob y hb hy=>by
   by_cases c:y=b
   · rw[c,upd_same] at hy;cases hy
   · rwa [upd_ne _ _ c] at hy
 refine⟨fun q1 g=>q1=⟨b,0⟩∧g b=some (.cells (dcell k s t ⟨lv,on,x.st⟩) T (0,0))∧(∀y,y≠b→h y≠none→g y=h y)∧(∀y,g y=none→h y=none),⟨_,rd1 e rfl,?_⟩,?_⟩
 · refine ifD (fun c=>?_) fun c=>?_
   · rw[if_pos c] at hlv hon
     refine⟨_,T,e,by simp,?_⟩
     refine⟨_,T,upd_same _ _ _,by simp[hwr],rfl,?_,fun y hy hh=>?_,fun y hy=>?_⟩
     · rw[upd_same,←hlv,←hon];rfl
     · rw[upd_ne _ _ hy,upd_ne _ _ hy]
     · exact upn _ _ _ (by rw[e];simp) (upn _ _ _ (by rw[upd_same];simp) hy)
   · rw[if_neg c] at hlv hon
     refine⟨rfl,?_,fun _ _ _=>rfl,fun _ hy=>hy⟩
     rw[e,←hlv,←hon]
 rintro q1 g ⟨rfl,eg,og,ng⟩
 have hgb:g b≠none:=by rw[eg];simp
 have hs:((s*(k+1):Nat):Int)=(s:Int)*((k:Int)+1):=by simp
 have hmb:=mul_bds os.1 os.2 od.1 od.2
 have stash:lv<0→x.st≠t→∃n6,hcell g b (0+5)=some (.int .i64 n6)∧storeK g ⟨b,0+5⟩ [.int .i64 (w64 (n6+1))] fun h4=>∃n7,hcell h4 b 0=some (.int .i64 n7)∧∃n8,hcell h4 b (0+1)=some (.int .i64 n8)∧∃n9,hcell h4 b (0+1+1)=some (.int .i64 n9)∧∃n10,hcell h4 b (0+5)=some (.int .i64 n10) ∧
     callK prog 167 [.agg #[.int .i64 n7,.int .i64 n8,.int .i64 n9]] h4 fun v1 h5=>∃n11,v1= .int .i64 n11∧(hcell h5 b (0+5)=some (.int .i64 n10)∧True)∧(.int .i64 (w64 (w64 (n11+n10)-1)):Value)= .int .i64 (optI (some (s*(k+1)+x.st)))∧h5 b=some (.cells (dcell k s t ⟨lv,on,x.st+1⟩) T (0,0))∧(∀y,y≠b→h y≠none→h5 y=h y)∧(∀y,h5 y=none→h y=none):=by
   intro c1 c2
   refine⟨_,rd1 eg rfl,_,T,eg,by simp,?_⟩
   have e4:upd g b (.cells (hwr (dcell k s t ⟨lv,on,x.st⟩) (0+5) [.int .i64 (w64 ((x.st:Int)+1))]) T (0,0)) b=some (.cells (dcell k s t ⟨lv,on,x.st+1⟩) T (0,0)):=by
     rw[upd_same,w64_id (by omega) (by omega)];rfl
   refine⟨_,rd1 e4 rfl,_,rd1 e4 rfl,_,rd1 e4 rfl,_,rd1 e4 rfl,?_⟩
   refine(deal_levels o).to fun h5 k5=>⟨_,rfl,⟨rd1 (k5.get e4) rfl,trivial⟩,?_,k5.get e4,fun y hy hh=>?_,fun y hy=>?_⟩
   · congr 1
     simp only[optI]
     generalize (s:Int)*((k:Int)+1)=z at *
     rw[w64_id (n:=z+((x.st+1:Nat):Int)) (by omega) (by omega),w64_id (by omega) (by omega)];omega
   · have e1:upd g b (.cells (hwr (dcell k s t ⟨lv,on,x.st⟩) (0+5) [.int .i64 (w64 ((x.st:Int)+1))]) T (0,0)) y=h y:=by rw[upd_ne _ _ hy,og y hy hh]
     rw[k5 y (by rw[e1];exact hh),e1]
   · exact ng y (upn _ _ _ hgb (k5.free hy))
 have onlev:¬lv<0→∃n12,hcell g b (0+3)=some (.int .i64 n12)∧∃n13,hcell g b (0+1)=some (.int .i64 n13)∧∃n14,hcell g b (0+4)=some (.int .i64 n14)∧∃n15,hcell g b (0+4)=some (.int .i64 n15)∧storeK g ⟨b,0+4⟩ [.int .i64 (w64 (n15+1))] fun h6=>∃n16,hcell h6 b (0+4)=some (.int .i64 n16)∧∃n17,hcell h6 b (0+1)=some (.int .i64 n17) ∧
     ifB (decide (n16=n17)) (∃n18,hcell h6 b (0+3)=some (.int .i64 n18)∧storeK h6 ⟨b,0+3⟩ [.int .i64 (w64 (n18-1))] fun h7=>storeK h7 ⟨b,0+4⟩ [.int .i64 0] fun h8=>(.int .i64 (w64 (w64 (n12*n13)+n14)):Value)= .int .i64 (optI (some (lv.toNat*s+on)))∧h8 b=some (.cells (dcell k s t (if on+1=s then ⟨lv-1,0,x.st⟩ else ⟨lv,on+1,x.st⟩)) T (0,0))∧(∀y,y≠b→h y≠none→h8 y=h y)∧(∀y,h8 y=none→h y=none))
       ((.int .i64 (w64 (w64 (n12*n13)+n14)):Value)= .int .i64 (optI (some (lv.toNat*s+on)))∧h6 b=some (.cells (dcell k s t (if on+1=s then ⟨lv-1,0,x.st⟩ else ⟨lv,on+1,x.st⟩)) T (0,0))∧(∀y,y≠b→h y≠none→h6 y=h y)∧(∀y,h6 y=none→h y=none)):=by
   intro c1
   have hv:(.int .i64 (w64 (w64 (lv*s)+on)):Value)= .int .i64 (optI (some (lv.toNat*s+on))):=by
     have hm:lv*(s:Int)=((lv.toNat*s:Nat):Int):=by rw[Int.natCast_mul,Int.toNat_of_nonneg (by omega)]
     have hb2:lv.toNat*s≤10*8:=Nat.mul_le_mul (by omega) (by omega)
     rw[hm,w64_id (n:=((lv.toNat*s:Nat):Int)) (by omega) (by omega),w64_id (by omega) (by omega)]
     congr 1
   refine⟨_,rd1 eg rfl,_,rd1 eg rfl,_,rd1 eg rfl,_,rd1 eg rfl,_,T,eg,by simp,?_⟩
   have e6:upd g b (.cells (hwr (dcell k s t ⟨lv,on,x.st⟩) (0+4) [.int .i64 (w64 ((on:Int)+1))]) T (0,0)) b=some (.cells (dcell k s t ⟨lv,on+1,x.st⟩) T (0,0)):=by
     rw[upd_same,w64_id (by omega) (by omega)];rfl
   have o6:∀y,y≠b→h y≠none→upd g b (.cells (hwr (dcell k s t ⟨lv,on,x.st⟩) (0+4) [.int .i64 (w64 ((on:Int)+1))]) T (0,0)) y=h y:=fun y hy hh=>by rw[upd_ne _ _ hy,og y hy hh]
   have n6:∀y,upd g b (.cells (hwr (dcell k s t ⟨lv,on,x.st⟩) (0+4) [.int .i64 (w64 ((on:Int)+1))]) T (0,0)) y=none→h y=none:=fun y hy=>ng y (upn _ _ _ hgb hy)
   refine⟨((on+1:Nat):Int),rd1 e6 rfl,(s:Int),rd1 e6 rfl,ifD (fun c=>?_) fun c=>?_⟩
   · have c':on+1=s:=by omega
     rw[if_pos c']
     refine⟨lv,rd1 e6 rfl,_,T,e6,by simp,_,T,upd_same _ _ _,by simp[hwr],hv,?_,fun y hy hh=>?_,fun y hy=>?_⟩
     · rw[upd_same,w64_id (by omega) (by omega)];rfl
     · rw[upd_ne _ _ hy,upd_ne _ _ hy];exact o6 y hy hh
     · exact n6 y (upn _ _ _ (by rw[e6];simp) (upn _ _ _ (by rw[upd_same];simp) hy))
   · have c':¬on+1=s:=by omega
     rw[if_neg c']
     exact⟨hv,e6,o6,n6⟩
 refine⟨_,rd1 eg rfl,ifD (fun c1=>?_) fun c1=>?_⟩
 · rw[if_pos c1]
   refine⟨_,rd1 eg rfl,_,rd1 eg rfl,ifB_intro (fun c2=>?_) fun c2=>?_⟩
   · have c2':x.st=t:=by simp at c2;omega
     rw[if_pos c2']
     exact⟨rfl,eg,og,ng⟩
   · have c2':x.st≠t:=by simp at c2;omega
     rw[if_neg c2']
     exact⟨_,rd1 eg rfl,ifD (fun _=>stash c1 c2') fun h=>absurd c1 h⟩
 · rw[if_neg c1]
   exact⟨_,rd1 eg rfl,ifD (fun h=>absurd h c1) fun _=>onlev c1⟩
end Go.Proofs.Tryz
namespace Go.Sh
open Go Go.RowKit
def iterS (k s t:Nat) (l:List Int) (x:DSt):Nat→DSt
 | 0=>x
 | i+1=>(dnext k s t (iterS k s t l x i) (l.getD i 0)).1
theorem iterS_cons (k s t:Nat) (d:Int) (l:List Int) (x:DSt):∀i,iterS k s t (d::l) x (i+1)=iterS k s t l (dnext k s t x d).1 i
 | 0=>rfl
 | i+1=>by
   show(dnext k s t (iterS k s t (d::l) x (i+1)) ((d::l).getD (i+1) 0)).1=(dnext k s t (iterS k s t l (dnext k s t x d).1 i) (l.getD i 0)).1
   rw[iterS_cons k s t d l x i,List.getD_cons_succ]
theorem dgo_iter (k s t:Nat):∀(l:List Int) (x:DSt) (i:Nat),i<dmany l→(dgo k s t l x).getD i none=(dnext k s t (iterS k s t l x i) (l.getD i 0)).2
 | [],x,i,h=>by simp[dmany] at h
 | d::l,x,i,h=>by
   unfold dmany at h
   split at h
   · omega
   · rename_i hd
     rw[dgo,if_neg hd]
     cases i with
     | zero=>rfl
     | succ i=>rw[List.getD_cons_succ,List.getD_cons_succ,iterS_cons];exact dgo_iter k s t l _ i (by omega)
theorem dgo_none (k s t:Nat) (l:List Int) (x:DSt) (hs:DWf k s t x) {i:Nat} (h:dmany l≤i):(dgo k s t l x).getD i none=none:=by
 obtain⟨_,_,_,_,i5⟩:=dgo_ok l x hs
 cases e:(dgo k s t l x)[i]? with
 | none=>simp[List.getD,e]
 | some o =>
   cases o with
   | none=>simp[List.getD,e]
   | some p=>have:=i5 i p e;omega
theorem dmany_sign:∀(l:List Int) (i:Nat),i<l.length→i=dmany l→l.getD i 0<0
 | [],i,h,_=>by simp at h
 | d::l,i,h,e=>by
   unfold dmany at e
   split at e
   · subst e;simpa using (by assumption:d<0)
   · cases i with
     | zero=>omega
     | succ i=>rw[List.getD_cons_succ];exact dmany_sign l i (by simpa using h) (by omega)
theorem dmany_pos (l:List Int) (i:Nat) (h:i<dmany l):0≤l.getD i 0:=by
 obtain⟨d,h1,h2⟩:=dmany_nn l i h
 simp[List.getD,h1];exact h2
theorem iterS_wf {k s t:Nat} (l:List Int) (x:DSt) (w:DWf k s t x) (hl: -1≤x.lv):∀i,i≤dmany l→DWf k s t (iterS k s t l x i)∧-1≤(iterS k s t l x i).lv
 | 0,_=>⟨w,hl⟩
 | i+1,h=>by
   obtain⟨w1,w2⟩:=iterS_wf l x w hl i (by omega)
   have hp:=dmany_pos l i (by omega)
   refine⟨(dnext_ok w1 hp).1,?_⟩
   show -1≤(dnext k s t (iterS k s t l x i) (l.getD i 0)).1.lv
   generalize iterS k s t l x i=y at *
   generalize l.getD i 0=d at *
   unfold dnext
   by_cases c:d<y.lv
   · simp only[if_pos c];split
     · omega
     · split<;>simp only<;>omega
   · simp only[if_neg c];split
     · split<;>simp only<;>omega
     · split<;>simp only<;>omega
theorem dfill_at:∀(l:List (Option Nat)) (r:List Nat) (i:Nat),i<l.length→(dfill l r).getD i 0=match l.getD i none with|some p=>p|none=>r.getD (nones (l.take i)) 0
 | [],r,i,h=>by simp at h
 | some p::l,r,i,h=>by
   cases i with
   | zero=>simp[dfill]
   | succ i =>
     have:=dfill_at l r i (by simpa using h)
     simp only[dfill,List.getD_cons_succ,this,List.take_succ_cons]
     have e:nones (some p::l.take i)=nones (l.take i):=by simp[nones]
     rw[e]
 | none::l,r,i,h=>by
   cases i with
   | zero=>simp[dfill,nones];cases r<;>rfl
   | succ i =>
     have:=dfill_at l r.tail i (by simpa using h)
     simp only[dfill,List.getD_cons_succ,this,List.take_succ_cons]
     have e:nones (none::l.take i)=nones (l.take i)+1:=by simp[nones]
     rw[e]
     cases l.getD i none with
     | some p=>rfl
     | none=>cases r<;>simp
theorem nones_take_succ (l:List (Option Nat)) {i:Nat} (h:i<l.length):nones (l.take (i+1))=nones (l.take i)+if l.getD i none=none then 1 else 0:=by
 rw[List.take_add_one,List.getElem?_eq_getElem h]
 have e:l.getD i none=l[i]:=by simp[List.getD,h]
 rw[e]
 cases h2:l[i]<;>simp[nones,h2]
theorem nones_take_le (l:List (Option Nat)) (i:Nat):nones (l.take i)≤nones l:=by
 unfold nones
 exact List.Sublist.length_le ((List.take_sublist i l).filter _)
end Go.Sh
namespace Go.Proofs.Tryz
open Go Go.Sh Go.RowKit
set_option maxRecDepth 8000
def L0:UInt64×Int:=(0,0)
def InOrd (L:List (UInt64×Int)):Prop:=∀i j,i≤j→j<L.length→ikey (L.getD i L0)≤ikey (L.getD j L0)
theorem deal_order {h:Hp} {s:Sl} {L:List (UInt64×Int)} (r:RdM itf h s L) (hn:L.length≤1000000) (hL:∀x∈L,x.2≤1000) (so:InOrd L) :
   callK prog 177 [vs s] h fun v h'=>∃s',v=vs s'∧ArrB h h' s' L.length (fun i:Nat=>(i:Int))∧Keep h h':=by
 have hlen:=r.len
 refine c177 _ ?_
 unfold G177
 refine newC fun b1 h1 f1 e1 k1=>newC fun b2 h2 f2 e2 k2=>?_
 have n21:b2≠b1:=fun e=>by rw[e,e1] at f2;cases f2
 refine stN (k1.trans k2) (k1.free f2) e2 (by simp) fun h3 k3 e3 o3=>?_
 have e13:h3 b1=_:=(o3 _ (Ne.symm n21)).trans (k2.get e1)
 refine⟨_,rd1 e13 rfl,by omega,by omega,by omega,by omega,newC fun b3 h4 f4 e4 k4=>?_⟩
 have hk0:=k3.trans k4
 have f40:h b3=none:=k3.free f4
 have n31:b3≠b1:=fun e=>by rw[e,e13] at f4;cases f4
 have n32:b3≠b2:=fun e=>by rw[e,e3] at f4;cases f4
 have ei:∀n:Nat,Int.toNat (n:Int)=n:=fun n=>by omega
 have A0:ArrB h h4 ⟨some ⟨b3,0⟩,s.len,s.len,none⟩ s.len fun _=>0:=ArrB.zero f40 e4 (by omega)
 refine⟨fun q1 q2 s2 n1 n2 g k=>q1=⟨b1,0⟩∧q2=⟨b2,0⟩∧s2=⟨some ⟨b3,0⟩,s.len,s.len,none⟩∧n1=(s.len:Nat)∧∃i:Nat,n2=i∧i≤s.len∧k=s.len-i∧ArrB h g ⟨some ⟨b3,0⟩,s.len,s.len,none⟩ s.len (fun x=>if x<i then (x:Int) else 0)∧∀y,y≠b3→g y=h4 y,
   ⟨s.len,rfl,rfl,rfl,rfl,0,rfl,by omega,rfl,by simpa using A0,fun _ _=>rfl⟩,?_⟩
 rintro q1 q2 s2 n1 n2 g k ⟨rfl,rfl,rfl,rfl,i,rfl,hi,rfl,Ag,og⟩
 refine ifD (fun hlt=>?_) fun hge=>?_
 · refine Ag.set (i:=i) (by omega) rfl (i:Int) fun g2 A2 o2=>⟨s.len-(i+1),by omega,rfl,rfl,rfl,rfl,i+1,w64_id (by omega) (by omega),by omega,rfl,?_,fun y hy=>(o2 y fun q hq e=>hy (by cases hq;exact e)).trans (og y hy)⟩
   have e:(fun x:Nat=>if x=i then (i:Int) else if x<i then (x:Int) else 0)=fun x=>if x<i+1 then (x:Int) else 0:=by
     funext x;repeat' split
     all_goals first|rfl|omega
   rw[e] at A2;exact A2
 · have hi':i=s.len:=by omega
   subst hi'
   have keep:Keep h g:=fun y hy=>by
     have:y≠b3:=fun e=>hy (e▸f40)
     rw[og y this];exact hk0 y hy
   have A1:ArrB h g ⟨some ⟨b3,0⟩,s.len,s.len,none⟩ s.len fun x:Nat=>(x:Int):=by
     have e:(List.range s.len).map (fun x:Nat=>if x<s.len then (x:Int) else 0)=(List.range s.len).map fun x:Nat=>(x:Int):=List.map_congr_left fun x hx=>if_pos (List.mem_range.1 hx)
     have Ag':=Ag
     unfold ArrB at Ag'
     rw[e] at Ag';exact Ag'
   have eg1:g b1=some (.cells #[vs s] 260 (0,0)):=(og b1 (Ne.symm n31)).trans (k4.get e13)
   have eg2:=(og b2 (Ne.symm n32)).trans (k4.get e3)
   have rg:RdM itf g s L:=r.keep itf_len keep
   have itn:∀q,s.q=some q→0<L.length→q.b≠b3:=fun q hq hl e=>r.there itf_len hq hl (e▸f40)
   have A1':OwnM 1 intf E0 g ⟨some ⟨b3,0⟩,s.len,s.len,none⟩ ((List.range s.len).map fun x:Nat=>(x:Int)):=A1.base fun _ _=>rfl
   have C:CmpOk prog (fun b=>b=b3) g (.func (.func 194) #[] #[vp ⟨b2,0⟩,vp ⟨b1,0⟩]) encInt (fun x=>ikey (L.getD x.toNat L0)) (fun x=>0≤x∧x<(L.length:Nat)):=by
     intro h' O x y hx hy
     have p1:h' b1=_:=(O b1 (by rw[eg1];simp) (Ne.symm n31)).trans eg1
     have p2:h' b2=_:=(O b2 (by rw[eg2];simp) (Ne.symm n32)).trans eg2
     have rh:RdM itf h' s L:=rg.move fun q hq hl=>O q.b (rg.there itf_len hq hl) (itn q hq hl)
     obtain⟨i,rfl⟩:=Int.eq_ofNat_of_zero_le hx.1
     obtain⟨j,rfl⟩:=Int.eq_ofNat_of_zero_le hy.1
     have hi:i<L.length:=by have:=hx.2;omega
     have hj:j<L.length:=by have:=hy.2;omega
     refine⟨rfl,?_⟩
     refine c194 _ _ _ _ ?_
     unfold G194
     refine⟨_,rd1 p2 rfl,rfl,_,rd1 p1 rfl,?_⟩
     refine rh.ix itf_len hi fun q _ rr=>?_
     obtain⟨c1,c2,_⟩:=rr
     refine⟨_,c1,_,c2,_,rd1 p1 rfl,?_⟩
     refine rh.ix itf_len hj fun q2 _ rr2=>?_
     obtain⟨c3,c4,_⟩:=rr2
     refine⟨_,c3,_,c4,⟨rfl,?_⟩⟩
     refine(item_against L[i] L[j] (hL _ (List.getElem_mem hi)) (hL _ (List.getElem_mem hj)) h').mono ?_
     rintro _ h2 ⟨m,rfl,hm,kk⟩
     refine⟨m,rfl,m,rfl,?_,kk⟩
     have e1:L.getD (Int.toNat (i:Int)) L0=L[i]:=by rw[ei];simp[List.getD,hi]
     have e2:L.getD (Int.toNat (j:Int)) L0=L[j]:=by rw[ei];simp[List.getD,hj]
     rw[hm];show _↔ikey (L.getD (Int.toNat (i:Int)) L0)<ikey (L.getD (Int.toNat (j:Int)) L0);rw[e1,e2]
   refine(sortedInt C (fun q hq=>by cases hq;rfl) (n:=s.len) (by omega) A1' (Off.refl _ _) (fun x hx=>⟨by omega,by omega⟩)).mono ?_
   rintro _ g2 ⟨rfl,d',A2,O2,_,_,E2⟩
   have hd:d'=fun x:Nat=>(x:Int):=E2 fun i j _ hij hj=>by
     show ikey (L.getD (Int.toNat (i:Int)) L0)≤ikey (L.getD (Int.toNat (j:Int)) L0)
     rw[ei,ei];exact so i j hij (by omega)
   subst hd
   refine⟨rfl,_,rfl,?_,fun y hy=>?_⟩
   · rw[←hlen]
     exact⟨A2.len,A2.cap,by
       rcases A2.own with h|⟨q,c,t,a1,a2,a3⟩
       · exact .inl h
       · exact .inr ⟨q,c,t,a1,by cases a1;exact f40,a3⟩⟩
   · have:y≠b3:=fun e=>hy (e▸f40)
     rw[O2 y (by rw[keep y hy];exact hy) this,keep y hy]
theorem push_I {b0 g:Hp} {s:Sl} {l:List Int} (A:OwnS iv b0 g s l) (h00:∀b,g b=none→b0 b=none) (x:Int) (hl:(l.length+1)*8≤140737488355328) {t:TypeId} {K:Sl→Hp→Prop}
   (hk:∀s' g',OwnS iv b0 g' s' (l++[x])→(∀b,g b≠none→(∀q,s.q=some q→b≠q.b)→g' b=g b)→(∀q',s'.q=some q'→(∃q,s.q=some q∧q'.b=q.b)∨g q'.b=none)→(∀b,g' b=none→g b=none)→K s' g') :
   newK g (.cells #[.int .i64 x] t) fun b h'=>appK prog 64 s (.s ⟨some ⟨b,0⟩,1,1,none⟩) h' K :=
 OwnS.push' rtI iv_one A x h00 hl (by decide) hk
theorem deal_deal {k s t:Nat} (o:DealOk k s t) {h:Hp} {x:Sl} {L:List (UInt64×Int)} (r:RdM itf h x L) (hlen:L.length=s*(k+1)+t+1) (hL:∀x∈L,x.2≤k) (so:InOrd L) :
   callK prog 158 [.agg #[.int .i64 k,.int .i64 s,.int .i64 t],vs x] h fun v h'=>∃s1 s2,v= .tuple #[vs s1,vs s2]∧OwnS iv h h' s1 ((places k s t (L.map (·.2))).map fun p:Nat=>(p:Int))∧OwnS iv h h' s2 ((dlost k s t (L.map (·.2))).map fun p:Nat=>(p:Int))∧Keep h h':=by
 have xl:=r.len
 have os:=o.s;have ot:=o.t;have od:=o.d
 have hmb:=mul_bds os.1 os.2 od.1 od.2
 have hsi:((s*(k+1):Nat):Int)=(s:Int)*((k:Int)+1):=by simp
 have hn1:L.length≤153:=by rw[hlen];omega
 generalize hds:L.map (·.2)=ds at *
 have hdl:ds.length=L.length:=by rw[←hds];simp
 have hM:=dmany_le ds
 have w0:DWf k s t (dst0 k):=⟨by simp[dst0],(show 0<s by omega),by simp[dst0]⟩
 have ops_len:=dgo_length k s t ds (dst0 k)
 generalize hops:dgo k s t ds (dst0 k)=ops at *
 have wf:=iterS_wf ds (dst0 k) w0 (show -1≤(k:Int) by omega)
 have gi:∀i,i<dmany ds→ops.getD i none=(dnext k s t (iterS k s t ds (dst0 k) i) (ds.getD i 0)).2:=fun i hi=>by rw[←hops];exact dgo_iter k s t ds _ i hi
 have gn:∀i,dmany ds≤i→ops.getD i none=none:=fun i hi=>by rw[←hops];exact dgo_none k s t ds _ w0 hi
 obtain⟨i1,i2,_,_,_⟩:=dgo_ok ds (dst0 k) w0
 rw[hops] at i1 i2
 have hno:=nones_le (n:=L.length) ops (by rw[ops_len,hdl]) i2 fun p hp=>by have:=(i1 p hp).2;omega
 have hpl:places k s t ds=dfill ops (dleft L.length ops):=by unfold places;rw[hops,hdl]
 have hlo:dlost k s t ds=(List.range (dmany ds)).filter fun i=>ops.getD i none==none:=by unfold dlost;rw[hops]
 have dsget:∀i (hi:i<L.length),ds.getD i 0=L[i].2:=fun i hi=>by rw[←hds];simp[List.getD,hi]
 rw[hpl,hlo]
 refine c158 _ _ _ _ ?_
 unfold G158
 refine newC fun b1 h1 f1 e1 k1=>rd3 e1 ?_
 refine(deal_right o).to fun h2 k2=>⟨_,rfl,ifB_neg rfl (rd3 (k2.get e1) ?_)⟩
 refine(deal_places o).to fun h3 k3=>⟨_,rfl,ifB_neg (by rw[xl,hlen];simp) ?_⟩
 have e3:=(k2.trans k3).get e1
 refine rd3 e3 (rdI e3 rfl (newC fun b2 h4 f4 e4 k4=>newC fun b3 h5 f5 e5 k5=>?_))
 have k05:=(k1.trans (k2.trans k3)).trans (k4.trans k5)
 have rx:RdS iv h5 ⟨some ⟨b3,0⟩,1,1,none⟩ [-1]:=(OwnS.newE (h0:=h4) (l:=[(-1:Int)]) (t:=3) f5 e5 rfl rfl).rd
 rw[xl]
 refine(deal_repeat (by omega) (by omega) rx).mono ?_
 rintro _ h6 ⟨sp,rfl,Ap,k6⟩
 refine⟨_,rfl,by omega,by omega,by omega,by omega,newC fun b4 h7 f7 e7 k7=>?_⟩
 have lp:=Ap.len
 simp only[List.length_map,List.length_range] at lp
 obtain⟨qp,hqp⟩:=Ap.rd.ptr (by simp;omega)
 have fp5:h5 qp.b=none:=(Ap.blk hqp).1
 have fp6:=(Ap.blk hqp).2
 have k07:=k05.trans (k6.trans k7)
 have eb2:h7 b2=some (.cells (dcell k s t (dst0 k)) 279 (0,0)):=(k5.trans (k6.trans k7)).get e4
 have n2p:qp.b≠b2:=fun e=>by rw[e,k5.get e4] at fp5;cases fp5
 have n42:b4≠b2:=fun e=>by rw[e,(k5.trans k6).get e4] at f7;cases f7
 have n4p:b4≠qp.b:=fun e=>fp6 (e▸f7)
 have f20:h b2=none:=(k1.trans (k2.trans k3)).free f4
 have fp0:h qp.b=none:=k05.free fp5
 have f40:h b4=none:=(k05.trans k6).free f7
 have ei:∀n:Nat,Int.toNat (n:Int)=n:=fun n=>by omega
 let sl:Sl:=⟨some ⟨b4,0⟩,L.length,L.length,none⟩
 have Al0:ArrB h h7 sl L.length fun _=>0:=ArrB.zero f40 e7 (by omega)
 have Ap7:ArrB h h7 sp L.length fun _=>-1:=(Ap.keep k7).base fun b hb=>k05.free hb
 refine⟨fun s2 o1 s3 s4 n12 n13 g kk=>s2=x∧o1=some ⟨b2,0⟩∧s3=sp∧s4=sl∧n12=(L.length:Nat)∧∃i:Nat,n13=i∧i≤L.length∧kk=L.length-i∧ArrB h g sl L.length (fun y=>if y<i then (y:Int) else 0)∧∀y,y≠b4→g y=h7 y,
   ⟨L.length,rfl,rfl,rfl,rfl,rfl,0,rfl,by omega,rfl,by simpa using Al0,fun _ _=>rfl⟩,?_⟩
 rintro s2 o1 s3 s4 n12 n13 g kk ⟨rfl,rfl,rfl,rfl,rfl,i,rfl,hi,rfl,Al,og⟩
 refine ifD (fun hlt=>?_) fun hge=>?_
 · refine Al.set (i:=i) (by omega) rfl (i:Int) fun g2 A2 o2=>⟨L.length-(i+1),by omega,rfl,rfl,rfl,rfl,rfl,i+1,w64_id (by omega) (by omega),by omega,rfl,?_,fun y hy=>(o2 y fun q hq e=>hy (by cases hq;exact e)).trans (og y hy)⟩
   have e:(fun x:Nat=>if x=i then (i:Int) else if x<i then (x:Int) else 0)=fun x=>if x<i+1 then (x:Int) else 0:=by
     funext x;repeat' split
     all_goals first|rfl|omega
   rw[e] at A2;exact A2
 have hi':i=L.length:=by omega
 subst hi'
 have Al1:ArrB h g sl L.length fun y:Nat=>(y:Int):=by
   have e:(List.range L.length).map (fun x:Nat=>if x<L.length then (x:Int) else 0)=(List.range L.length).map fun x:Nat=>(x:Int):=List.map_congr_left fun x hx=>if_pos (List.mem_range.1 hx)
   have Al':=Al
   unfold ArrB at Al'
   rw[e] at Al';exact Al'
 have kg:Keep h g:=fun y hy=>by
   have:y≠b4:=fun e=>hy (e▸f40)
   rw[og y this];exact k07 y hy
 have Apg:ArrB h g s3 L.length fun _=>-1:=Ap7.move fun q hq=>og _ (by rw[hqp] at hq;cases hq;exact n4p.symm)
 have e2g:g b2=some (.cells (dcell k s t (dst0 k)) 279 (0,0)):=(og b2 n42.symm).trans eb2
 have nb7:∀y,g y=none→h7 y=none:=fun y hy=>by
   by_cases c:y=b4
   · exfalso;rw[c] at hy;exact(Al1.blk (q:=⟨b4,0⟩) rfl).2 hy
   · rw[←og y c];exact hy
 let left:Nat→Int:=fun y=>if ops.contains (some y)=true then -1 else (y:Int)
 let lostL:List Int:=((List.range (dmany ds)).filter fun i=>ops.getD i none==none).map fun p:Nat=>(p:Int)
 refine⟨fun s7 s8 s9 g=>s7=s3∧s8=sl∧Keep h g∧ArrB h g s3 L.length (fun y=>optI (ops.getD y none))∧ArrB h g sl L.length left∧OwnS iv h g s9 lostL∧(∀q,s9.q=some q→q.b≠qp.b∧q.b≠b4),?_,?_⟩
 · have hL':∀y∈L,y.2≤1000:=fun y hy=>by have:=hL y hy;omega
   refine(deal_order (r.keep itf_len kg) (by omega) hL' so).mono ?_
   rintro _ g1 ⟨so',rfl,Ao,ko⟩
   have lo':=Ao.len
   simp only[List.length_map,List.length_range] at lo'
   obtain⟨qo,hqo⟩:=Ao.rd.ptr (by simp;omega)
   have fo:=(Ao.blk hqo).1
   have no2:qo.b≠b2:=fun e=>by rw[e,e2g] at fo;cases fo
   have nop:qo.b≠qp.b:=fun e=>(Apg.blk hqp).2 (e▸fo)
   have no4:qo.b≠b4:=fun e=>(Al1.blk (q:=⟨b4,0⟩) rfl).2 (e▸fo)
   refine⟨_,rfl,fun s6 o2 s7 s8 s9 s10 n14 n15 g2 kk=>s6=s2∧o2=some ⟨b2,0⟩∧s7=s3∧s8=sl∧s10=so'∧n14=(L.length:Nat)∧∃i:Nat,n15=i∧i≤dmany ds∧kk=L.length-i∧Keep h g2∧g2 b2=some (.cells (dcell k s t (iterS k s t ds (dst0 k) i)) 279 (0,0)) ∧
       ArrB h g2 s3 L.length (fun y=>if y<i then optI (ops.getD y none) else -1)∧ArrB h g2 sl L.length (fun y=>if (ops.take i).contains (some y)=true then -1 else (y:Int))∧OwnS iv h g2 s9 (((List.range i).filter fun i=>ops.getD i none==none).map fun p:Nat=>(p:Int)) ∧
       (∀q,s9.q=some q→q.b≠qp.b∧q.b≠b4∧q.b≠b2∧q.b≠qo.b)∧ArrB g g2 so' L.length (fun y:Nat=>(y:Int))∧RdM itf g2 s2 L,
     ⟨L.length,rfl,rfl,rfl,rfl,rfl,by rw[lo'],0,rfl,by omega,rfl,kg.trans ko,ko.get e2g,by simpa using Apg.keep ko,by simpa using Al1.keep ko,OwnS.nilS _ _ _,fun q hq=>(by cases hq),Ao,(r.keep itf_len (kg.trans ko))⟩,?_⟩
   rintro s6 o2 s7 s8 s9 s10 n14 n15 g2 kk ⟨rfl,rfl,rfl,rfl,rfl,rfl,i,rfl,hi,rfl,kg2,e2,Ap2,Al2,Ol2,nl2,Ao2,r2⟩
   have done:∀g3,Keep g2 g3→i=dmany ds→s7=s7∧sl=sl∧Keep h g3∧ArrB h g3 s7 L.length (fun y=>optI (ops.getD y none))∧ArrB h g3 sl L.length left∧OwnS iv h g3 s9 lostL∧(∀q,s9.q=some q→q.b≠qp.b∧q.b≠b4):=by
     rintro g3 k3 hid
     have e1:(fun y=>if y<i then optI (ops.getD y none) else -1)=fun y=>optI (ops.getD y none):=by
       funext y
       by_cases c:y<i
       · rw[if_pos c]
       · rw[if_neg c,gn y (by omega)];rfl
     have e2':∀y:Nat,(ops.take i).contains (some y)=ops.contains (some y):=fun y=>by
       rw[Bool.eq_iff_iff]
       simp only[List.contains_eq_mem,decide_eq_true_eq]
       constructor
       · exact fun h=>List.mem_of_mem_take h
       · intro hm
         obtain⟨j,hj,e⟩:=List.getElem_of_mem hm
         have hji:j<i:=by
           rcases Nat.lt_or_ge j i with c|c
           · exact c
           · have:=gn j (by omega)
             simp[List.getD,hj,e] at this
         rw[←e]
         exact List.mem_take_iff_getElem.2 ⟨j,by omega,rfl⟩
     refine⟨rfl,rfl,kg2.trans k3,by rw[e1] at Ap2;exact Ap2.keep k3,?_,by rw[hid] at Ol2;exact Ol2.keep k3,fun q hq=>⟨(nl2 q hq).1,(nl2 q hq).2.1⟩⟩
     have e3:(fun y:Nat=>if (ops.take i).contains (some y)=true then (-1:Int) else (y:Int))=left:=by funext y;rw[e2' y]
     rw[e3] at Al2;exact Al2.keep k3
   refine ifD (fun hlt=>?_) fun hge=>done g2 (Keep.refl _) (by omega)
   have hiL:i<L.length:=by omega
   refine Ao2.get hiL rfl fun q _=>?_
   refine r2.ix itf_len hiL fun q2 _ rr=>?_
   obtain⟨_,c2,_⟩:=rr
   rw[ei]
   refine⟨_,c2,ifD (fun hneg=>done g2 (Keep.refl _) ?_) fun hpos=>?_⟩
   · rcases Nat.lt_or_ge i (dmany ds) with c|c
     · have:=dmany_pos ds i c;rw[dsget i hiL] at this;omega
     · omega
   have hid:i<dmany ds:=by
     rcases Nat.lt_or_ge i (dmany ds) with c|c
     · exact c
     · have:=dmany_sign ds i (by omega) (by omega);rw[dsget i hiL] at this;omega
   refine r2.ix itf_len hiL fun q3 _ rr3=>?_
   obtain⟨_,c3,_⟩:=rr3
   refine⟨_,c3,?_⟩
   have hdn:=gi i hid
   rw[dsget i hiL] at hdn
   have hst:iterS k s t ds (dst0 k) (i+1)=(dnext k s t (iterS k s t ds (dst0 k) i) L[i].2).1:=by
     show(dnext k s t (iterS k s t ds (dst0 k) i) (ds.getD i 0)).1=_;rw[dsget i hiL]
   refine(deal_next o (wf i hi).1 (wf i hi).2 (d:=L[i].2) (by omega) e2).mono ?_
   rintro _ g3 ⟨rfl,e3',o3,n3⟩
   rw[←hst] at e3'
   rw[←hdn]
   have k3:∀y,h y≠none→g3 y=h y:=fun y hy=>by
     have:y≠b2:=fun e=>hy (e▸f20)
     rw[o3 y this (by rw[kg2 y hy];exact hy),kg2 y hy]
   have np2:∀q,s7.q=some q→q.b≠b2:=fun q hq=>by rw[hqp] at hq;cases hq;exact n2p
   have Ap3:=Ap2.move (h':=g3) fun q hq=>o3 _ (np2 q hq) (Ap2.blk hq).2
   have Al3:=Al2.move (h':=g3) fun q hq=>by cases hq;exact o3 _ n42 (Al2.blk (q:=⟨b4,0⟩) rfl).2
   have Ol3:=Ol2.move (h':=g3) fun q hq=>o3 _ (nl2 q hq).2.2.1 (Ol2.blk hq).2
   have Ao3:=Ao2.move (h':=g3) fun q hq=>o3 _ (by rw[hqo] at hq;cases hq;exact no2) (Ao2.blk hq).2
   have r3:RdM itf g3 s6 L:=r.keep itf_len k3
   have ht:ops.take (i+1)=ops.take i++[ops.getD i none]:=by
     have hio:i<ops.length:=by rw[ops_len,hdl];exact hiL
     rw[List.take_add_one,List.getElem?_eq_getElem hio];simp[List.getD,hio]
   have hf:(List.range (i+1)).filter (fun i=>ops.getD i none==none)=(List.range i).filter (fun i=>ops.getD i none==none)++if ops.getD i none=none then [i] else []:=by
     rw[List.range_succ,List.filter_append]
     congr 1
     rw[List.filter_cons,List.filter_nil]
     cases hc:ops.getD i none<;>rfl
   refine⟨_,rfl,?_⟩
   cases hc:ops.getD i none with
   | none =>
     rw[hc] at ht hf
     refine ifB_pos rfl ?_
     refine push_I Ol3 (fun b hb=>by
       cases e:h b with
       | none=>rfl
       | some ob=>rw[k3 b (by rw[e];simp),e] at hb;cases hb) (i:Int) (by
         have:=List.length_filter_le (fun i=>ops.getD i none==none) (List.range i)
         simp at this ⊢;omega) fun s' g4 O4 f4' w4 n4'=>?_
     have keep4:∀y,g3 y≠none→(∀q,s9.q=some q→y≠q.b)→g4 y=g3 y:=f4'
     have p4:=keep4 qp.b (by have:=(Ap3.blk hqp).2;exact this) fun q hq e=>(nl2 q hq).1 e.symm
     have l4:=keep4 b4 (Al3.blk (q:=⟨b4,0⟩) rfl).2 fun q hq e=>(nl2 q hq).2.1 e.symm
     have d4:=keep4 b2 (by rw[e3'];simp) fun q hq e=>(nl2 q hq).2.2.1 e.symm
     have o4:=keep4 qo.b (Ao3.blk hqo).2 fun q hq e=>(nl2 q hq).2.2.2 e.symm
     have h4':∀y,h y≠none→g4 y=h y:=fun y hy=>by
       rw[keep4 y (by rw[k3 y hy];exact hy) fun q hq e=>hy (e▸(Ol3.blk hq).1),k3 y hy]
     refine⟨L.length-(i+1),by omega,rfl,rfl,rfl,rfl,rfl,rfl,i+1,w64_id (by omega) (by omega),by omega,rfl,h4',d4.trans e3',?_,?_,?_,fun q' hq'=>?_,Ao3.move fun q hq=>by rw[hqo] at hq;cases hq;exact o4,r.keep itf_len h4'⟩
     · have e:(fun y=>if y<i+1 then optI (ops.getD y none) else -1)=fun y=>if y<i then optI (ops.getD y none) else -1:=by
         funext y
         by_cases c:y<i
         · rw[if_pos c,if_pos (by omega)]
         · rw[if_neg c]
           by_cases c':y=i
           · rw[if_pos (by omega),c',hc];rfl
           · rw[if_neg (by omega)]
       rw[e];exact Ap3.move fun q hq=>by rw[hqp] at hq;cases hq;exact p4
     · have e:(fun y:Nat=>if (ops.take (i+1)).contains (some y)=true then (-1:Int) else (y:Int))=fun y=>if (ops.take i).contains (some y)=true then -1 else (y:Int):=by
         funext y;rw[ht];simp
       rw[e];exact Al3.move fun q hq=>by cases hq;exact l4
     · rw[hf,if_pos rfl,List.map_append];exact O4
     · rcases w4 q' hq' with ⟨q,hq,e⟩|hn
       · rw[e];exact nl2 q hq
       · refine⟨fun e=>?_,fun e=>?_,fun e=>?_,fun e=>?_⟩
         · exact(Ap3.blk hqp).2 (e▸hn)
         · exact(Al3.blk (q:=⟨b4,0⟩) rfl).2 (e▸hn)
         · rw[e,e3'] at hn;cases hn
         · exact(Ao3.blk hqo).2 (e▸hn)
   | some p =>
     rw[hc] at ht hf
     have hio:i<ops.length:=by rw[ops_len,hdl];exact hiL
     have hp:p<L.length:=by
       have:=(i1 p (by have:ops[i]=some p:=by simpa [List.getD,hio] using hc
                       rw[←this];exact List.getElem_mem hio)).2;omega
     refine ifB_neg (decide_eq_false (by simp only[optI];omega)) ?_
     refine ArrB.set Ap3 (i:=i) hiL rfl (p:Int) fun g4 A4 o4=>?_
     have l4:g4 b4=g3 b4:=o4 b4 fun q hq=>by rw[hqp] at hq;cases hq;exact n4p
     refine ArrB.set (Al3.move (h':=g4) fun q hq=>by cases hq;exact l4) (i:=p) hp rfl (-1) fun g5 A5 o5=>?_
     have og4:∀y,y≠qp.b→y≠b4→g5 y=g3 y:=fun y h1 h2=>(o5 y fun q hq=>by cases hq;exact h2).trans (o4 y fun q hq=>by rw[hqp] at hq;cases hq;exact h1)
     have h4':∀y,h y≠none→g5 y=h y:=fun y hy=>by
       rw[og4 y (fun e=>hy (e▸fp0)) (fun e=>hy (e▸f40)),k3 y hy]
     refine⟨L.length-(i+1),by omega,rfl,rfl,rfl,rfl,rfl,rfl,i+1,w64_id (by omega) (by omega),by omega,rfl,h4',(og4 b2 n2p.symm n42.symm).trans e3',?_,?_,?_,nl2,Ao3.move fun q hq=>by rw[hqo] at hq;cases hq;exact og4 _ nop no4,r.keep itf_len h4'⟩
     · have e:(fun y=>if y<i+1 then optI (ops.getD y none) else -1)=fun y=>if y=i then (p:Int) else if y<i then optI (ops.getD y none) else -1:=by
         funext y
         by_cases c':y=i
         · rw[if_pos (by omega),if_pos c',c',hc];rfl
         · rw[if_neg c']
           by_cases c:y<i
           · rw[if_pos c,if_pos (by omega)]
           · rw[if_neg c,if_neg (by omega)]
       rw[e];exact A4.move fun q hq=>o5 _ fun q' hq'=>by cases hq';rw[hqp] at hq;cases hq;exact n4p.symm
     · have e:(fun y:Nat=>if (ops.take (i+1)).contains (some y)=true then (-1:Int) else (y:Int))=fun y=>if y=p then -1 else if (ops.take i).contains (some y)=true then -1 else (y:Int):=by
         funext y;rw[ht]
         by_cases c:y=p
         · simp[c]
         · simp[c]
       rw[e];exact A5
     · rw[hf,if_neg (by simp),List.append_nil]
       exact Ol3.move fun q hq=>og4 _ (nl2 q hq).1 (nl2 q hq).2.1
 rintro s12 s13 s14 g3 ⟨rfl,rfl,kg3,Ap3,Al3,Ol3,nl3⟩
 refine(delete_neg Al3 (by omega)).mono ?_
 rintro _ g4 ⟨s15,rfl,r15,w15,o4,_⟩
 have hleft:((List.range L.length).map left).filter (fun x=>decide (0≤x))=(dleft L.length ops).map fun p:Nat=>(p:Int):=by
   rw[List.filter_map]
   have e1:(List.range L.length).filter ((fun x:Int=>decide (0≤x)) ∘ left)=dleft L.length ops:=by
     unfold dleft
     apply List.filter_congr
     intro y _
     show decide (0≤left y)= !ops.contains (some y)
     by_cases c:ops.contains (some y)=true
     · have hl:left y= -1:=if_pos c
       rw[hl,c];rfl
     · have hl:left y=(y:Int):=if_neg c
       rw[hl,Bool.eq_false_iff.2 c];exact decide_eq_true (by omega)
   rw[e1]
   apply List.map_congr_left
   intro y hy
   have:ops.contains (some y)=false:=by
     have:=(List.mem_filter.1 hy).2
     simpa using this
   simp only[left,this];rfl
 rw[hleft] at r15
 have Ap4:=Ap3.move (h':=g4) fun q hq=>o4 _ fun q' hq'=>by cases hq';rw[hqp] at hq;cases hq;exact n4p.symm
 have Ol4:=Ol3.move (h':=g4) fun q hq=>o4 _ fun q' hq'=>by cases hq';exact(nl3 q hq).2
 have kg4:Keep h g4:=fun y hy=>by
   rw[o4 y fun q hq e=>hy (by cases hq;rw[e];exact f40)];exact kg3 y hy
 generalize hR:dleft L.length ops=R0 at *
 have hlen2:ops.length=L.length:=by rw[ops_len,hdl]
 refine⟨_,rfl,fun s16 s17 s18 s19 n20 n21 g5 kk=>s16=s12∧s18=s14∧s19=s12∧n20=(L.length:Nat)∧∃i:Nat,n21=i∧i≤L.length∧kk=L.length-i∧Keep h g5∧ArrB h g5 s12 L.length (fun y=>if y<i then ((dfill ops R0).getD y 0:Nat) else optI (ops.getD y none))∧OwnS iv h g5 s14 lostL ∧
     RdS iv g5 s17 ((R0.map fun p:Nat=>(p:Int)).drop (nones (ops.take i)))∧∀q,s17.q=some q→q.b=b4,
   ⟨L.length,rfl,rfl,rfl,by rw[Ap4.len];simp,0,rfl,by omega,rfl,kg4,by simpa using Ap4,Ol4,by simpa [nones] using r15,fun q hq=>by obtain⟨p,hp,e⟩:=w15 q hq;cases hp;exact e⟩,?_⟩
 rintro s16 s17 s18 s19 n20 n21 g5 kk ⟨rfl,rfl,rfl,rfl,i,rfl,hi,rfl,kg5,Ap5,Ol5,r5,w5⟩
 refine ifD (fun hlt=>?_) fun hge=>?_
 · have hiL:i<L.length:=by omega
   have hat:=dfill_at ops R0 i (by rw[hlen2];exact hiL)
   have hsu:=nones_take_succ ops (i:=i) (by rw[hlen2];exact hiL)
   refine Ap5.get hiL rfl fun q _=>?_
   rw[if_neg (Nat.lt_irrefl i)]
   cases hc:ops.getD i none with
   | none =>
     rw[hc] at hat hsu
     rw[if_pos rfl] at hsu
     have hle:=nones_take_le ops (i+1)
     have hlt2:nones (ops.take i)<R0.length:=by omega
     refine ifB_pos rfl ?_
     have hget:((R0.map fun p:Nat=>(p:Int)).drop (nones (ops.take i)))[0]'(by simp;omega)=((R0.getD (nones (ops.take i)) 0:Nat):Int):=by
       simp[List.getD,hlt2]
     obtain⟨q1,hq1,hc1⟩:=r5.at (i:=0) (by simp;omega)
     rw[hget] at hc1
     have r5l:=r5.len
     have r5c:=r5.cap
     simp only[List.length_drop,List.length_map] at r5l
     refine⟨q1,hq1,Int.NonNeg.mk 0,by omega,_,hc1,Int.NonNeg.mk 1,by omega,?_⟩
     refine Ap5.set (i:=i) hiL rfl _ fun g6 A6 o6=>?_
     have l6:∀q,s17.q=some q→g6 q.b=g5 q.b:=fun q hq=>o6 _ fun q' hq'=>by rw[hqp] at hq';cases hq';rw[w5 q hq];exact n4p
     refine⟨L.length-(i+1),by omega,rfl,rfl,rfl,rfl,i+1,w64_id (by omega) (by omega),by omega,rfl,fun y hy=>?_,?_,Ol5.move fun q hq=>o6 _ fun q' hq'=>by rw[hqp] at hq';cases hq';exact(nl3 q hq).1,?_,fun q hq=>?_⟩
     · rw[o6 y fun q hq e=>hy (by rw[hqp] at hq;cases hq;rw[e];exact fp0)];exact kg5 y hy
     · have e:(fun y=>if y<i+1 then (((dfill ops R0).getD y 0:Nat):Int) else optI (ops.getD y none))=fun y=>if y=i then ((R0.getD (nones (ops.take i)) 0:Nat):Int) else if y<i then (((dfill ops R0).getD y 0:Nat):Int) else optI (ops.getD y none):=by
         funext y
         by_cases c':y=i
         · rw[if_pos (by omega),if_pos c',c',hat]
         · rw[if_neg c']
           by_cases c:y<i
           · rw[if_pos c,if_pos (by omega)]
           · rw[if_neg c,if_neg (by omega)]
       rw[e];exact A6
     · have:=(r5.move (h':=g6) fun q hq _=>l6 q hq).drop (n:=1) (by simp;omega)
       rw[List.drop_drop] at this
       rw[hsu];exact this
     · obtain⟨q',hq',e⟩:=cut_q0 r5.nil (n:=1) (by omega) hq
       rw[e];exact w5 q' hq'
   | some p =>
     rw[hc] at hat hsu
     rw[if_neg (by simp),Nat.add_zero] at hsu
     refine ifB_neg (decide_eq_false (by simp only[optI];omega)) ?_
     refine⟨L.length-(i+1),by omega,rfl,rfl,rfl,rfl,i+1,w64_id (by omega) (by omega),by omega,rfl,kg5,?_,Ol5,by rw[hsu];exact r5,w5⟩
     have e:(fun y=>if y<i+1 then (((dfill ops R0).getD y 0:Nat):Int) else optI (ops.getD y none))=fun y=>if y<i then (((dfill ops R0).getD y 0:Nat):Int) else optI (ops.getD y none):=by
       funext y
       by_cases c:y<i
       · rw[if_pos c,if_pos (by omega)]
       · rw[if_neg c]
         by_cases c':y=i
         · rw[if_pos (by omega),c',hat,hc];rfl
         · rw[if_neg (by omega)]
     rw[e];exact Ap5
 · have hiL:i=L.length:=by omega
   subst hiL
   refine⟨_,_,rfl,?_,Ol5,kg5⟩
   have e:(List.range L.length).map (fun y=>if y<L.length then (((dfill ops R0).getD y 0:Nat):Int) else optI (ops.getD y none))=(dfill ops R0).map fun p:Nat=>(p:Int):=by
     apply List.ext_getElem
     · simp[dfill_length,hlen2]
     · intro j a1 a2
       have hj:j<L.length:=by simpa using a1
       have hj2:j<(dfill ops R0).length:=by simpa using a2
       simp[hj,List.getD,hj2]
   have:=Ap5.toS
   rw[e] at this;exact this
end Go.Proofs.Tryz

/- slices.SortStableFunc over a row of one's own: in order, the same ones; a row that is in order stays. -/
import Derived.Test.YtofgadhgljjhgaaGreatArr
namespace Go.Proofs.Tryz
open Go Go.Sh Go.RowKit
set_option maxRecDepth 8000
structure Row where
 key:UInt64
 id:UInt64
 deep:Int
def rowf (e:Row):List Value:=[vu e.key,vu e.id,.int .i64 e.deep]
theorem rowf_len (e:Row):(rowf e).length=3:=rfl
theorem rowf_one (e:Row):∀v∈rowf e,v.oneCell'=true:=by simp[rowf,vu,Value.oneCell']
def encRow (e:Row):Value:= .agg #[vu (e.key),vu (e.id),.int .i64 (e.deep)]
section
variable {s:Sl} {n:Nat} {h0:Hp} {D:Nat→Prop} {v:Value} {key:Row→Nat} {P:Row→Prop}
abbrev ArrRow (g:Hp) (s:Sl) (n:Nat) (d:Nat→Row):Prop:=OwnM 3 rowf E0 g s ((List.range n).map d)
theorem cmpRow (C:CmpOk prog D h0 v encRow key P) {g:Hp} {d:Nat→Row} (A:ArrRow g s n d) (O:Off D h0 g) (hP:∀x,x<n→P (d x)) {i j:Nat} (hi:i<n) (hj:j<n) {I J:Int} (hI:I=i) (hJ:J=j) {K:Int→Hp→Prop}
   (hk:∀m g',(m<0↔key (d i)<key (d j))→Keep g g'→K m g') :
   ∃q1,s.q=some q1∧0≤I∧I+1≤(s.len:Int)∧∃x1:UInt64,hcell g q1.b (q1.o+Int.toNat I*3)=some (vu (x1))∧∃y1:UInt64,hcell g q1.b (q1.o+Int.toNat I*3+1)=some (vu (y1))∧∃n1:Int,hcell g q1.b (q1.o+Int.toNat I*3+1+1)=some (.int .i64 (n1))∧∃q2,s.q=some q2∧0≤J∧J+1≤(s.len:Int)∧∃x2:UInt64,hcell g q2.b (q2.o+Int.toNat J*3)=some (vu (x2))∧∃y2:UInt64,hcell g q2.b (q2.o+Int.toNat J*3+1)=some (vu (y2))∧∃n2:Int,hcell g q2.b (q2.o+Int.toNat J*3+1+1)=some (.int .i64 (n2))∧callV prog v [.agg #[vu (x1),vu (y1),.int .i64 (n1)],.agg #[vu (x2),vu (y2),.int .i64 (n2)]] g fun r g'=>∃m,r= .int .i64 m∧K m g':=by
 subst hI;subst hJ
 refine A.rd.ix rowf_len (i:=i) (by simpa using hi) fun q1 _ r1=>?_
 rw[arr_get hi] at r1
 obtain⟨a0,a1,a2,_⟩:=r1
 refine⟨_,a0,_,a1,_,a2,?_⟩
 refine A.rd.ix rowf_len (i:=j) (by simpa using hj) fun q2 _ r2=>?_
 rw[arr_get hj] at r2
 obtain⟨b0,b1,b2,_⟩:=r2
 refine⟨_,b0,_,b1,_,b2,?_⟩
 refine(C g O (d i) (d j) (hP i hi) (hP j hj)).mono ?_
 rintro _ g' ⟨m,rfl,hm,kg⟩
 exact⟨m,rfl,hk m g' hm kg⟩
theorem turnRow {g:Hp} {d:Nat→Row} (A:ArrRow g s n d) (hD:∀q,s.q=some q→D q.b) {i j:Nat} (hi:i<n) (hj:j<n) {I J:Int} (hI:I=i) (hJ:J=j) {K:Hp→Prop}
   (hk:∀g',ArrRow g' s n (sw d i j)→Off D g g'→K g') :
   ∃q1,s.q=some q1∧0≤I∧I+1≤(s.len:Int)∧∃x1:UInt64,hcell g q1.b (q1.o+Int.toNat I*3)=some (vu (x1))∧∃y1:UInt64,hcell g q1.b (q1.o+Int.toNat I*3+1)=some (vu (y1))∧∃n1:Int,hcell g q1.b (q1.o+Int.toNat I*3+1+1)=some (.int .i64 (n1))∧∃q2,s.q=some q2∧0≤J∧J+1≤(s.len:Int)∧∃x2:UInt64,hcell g q2.b (q2.o+Int.toNat J*3)=some (vu (x2))∧∃y2:UInt64,hcell g q2.b (q2.o+Int.toNat J*3+1)=some (vu (y2))∧∃n2:Int,hcell g q2.b (q2.o+Int.toNat J*3+1+1)=some (.int .i64 (n2))∧∃q3,s.q=some q3∧0≤J∧J+1≤(s.len:Int)∧storeK g ⟨q3.b,q3.o+Int.toNat J*3⟩ [vu (x1),vu (y1),.int .i64 (n1)] fun g2=>∃q4,s.q=some q4∧0≤I∧I+1≤(s.len:Int)∧storeK g2 ⟨q4.b,q4.o+Int.toNat I*3⟩ [vu (x2),vu (y2),.int .i64 (n2)] K:=by
 subst hI;subst hJ
 refine A.rd.ix rowf_len (i:=i) (by simpa using hi) fun q1 hq1 r1=>?_
 rw[arr_get hi] at r1
 obtain⟨a0,a1,a2,_⟩:=r1
 refine⟨_,a0,_,a1,_,a2,?_⟩
 refine A.rd.ix rowf_len (i:=j) (by simpa using hj) fun q2 hq2 r2=>?_
 rw[arr_get hj] at r2
 obtain⟨b0,b1,b2,_⟩:=r2
 refine⟨_,b0,_,b1,_,b2,?_⟩
 have hl:=A.len
 simp only[List.length_map,List.length_range] at hl
 refine⟨q2,hq2,by omega,by omega,?_⟩
 refine arr_put rowf_len A hq2 hj (d i) fun g2 A2 o2=>?_
 refine⟨q1,hq1,by omega,by omega,?_⟩
 refine arr_put rowf_len A2 hq1 hi (d j) fun g3 A3 o3=>?_
 refine hk g3 ?_ fun b hb hn=>?_
 · have e:(fun x=>if x=i then d j else if x=j then d i else d x)=sw d i j:=rfl
   rw[←e];exact A3
 · have nb:∀q,s.q=some q→b≠q.b:=fun q hq e=>hn (e▸hD q hq)
   rw[o3 b (nb q1 hq1),o2 b (nb q2 hq2)]
theorem swapRow (hD:∀q,s.q=some q→D q.b) (hn:n≤1000000000000) {g:Hp} {d:Nat→Row} (A:ArrRow g s n d) {a b c:Nat} (h1:a+c≤b) (h2:b+c≤n) :
   callK prog 201 [vs s,.int .i64 a,.int .i64 b,.int .i64 c,v] g fun r g'=>r= .tuple #[]∧ArrRow g' s n (swp d a b c)∧Off D g g'∧∀lo hi,lo≤a→b+c≤hi→PIn lo hi d (swp d a b c):=by
 refine c201 _ _ _ _ _ ?_
 unfold G201
 refine⟨fun s1 n1 n2 n3 n4 g1 kk=>s1=s∧n1=(a:Nat)∧n2=(b:Nat)∧n3=(c:Nat)∧∃i:Nat,n4=i∧i≤c∧kk=c-i∧ArrRow g1 s n (swp d a b i)∧Off D g g1∧∀lo hi,lo≤a→b+c≤hi→PIn lo hi d (swp d a b i),
   ⟨c,rfl,rfl,rfl,rfl,0,rfl,by omega,rfl,by rw[swp_zero];exact A,Off.refl _ _,fun lo hi _ _=>by rw[swp_zero];exact PIn.refl _ _ _⟩,?_⟩
 rintro s1 n1 n2 n3 n4 g1 kk ⟨rfl,rfl,rfl,rfl,i,rfl,hi,rfl,Ag,Og,Pg⟩
 refine ifD (fun hlt=>?_) fun hge=>?_
 · refine turnRow Ag hD (i:=b+i) (j:=a+i) (by omega) (by omega) (by rw[w64_id (by omega) (by omega)];omega) (by rw[w64_id (by omega) (by omega)];omega) fun g2 A2 o2=>?_
   have e:sw (swp d a b i) (b+i) (a+i)=swp d a b (i+1):=by rw[sw_comm];exact swp_succ (by omega)
   refine⟨c-(i+1),by omega,rfl,rfl,rfl,rfl,i+1,w64_id (by omega) (by omega),by omega,rfl,e▸A2,Og.trans o2,fun lo hi x y=>?_⟩
   exact(Pg lo hi x y).trans (e▸PIn.sw _ (by omega) (by omega))
 · have:i=c:=by omega
   subst this;exact⟨rfl,Ag,Og,Pg⟩
theorem rotRow (hD:∀q,s.q=some q→D q.b) (hn:n≤1000000000000) {g:Hp} {d:Nat→Row} (A:ArrRow g s n d) {a m b:Nat} (h1:a<m) (h2:m<b) (h3:b≤n) :
   callK prog 196 [vs s,.int .i64 a,.int .i64 m,.int .i64 b,v] g fun r g'=>r= .tuple #[]∧ArrRow g' s n (rot d a m b)∧Off D g g'∧PIn a b d (rot d a m b):=by
 refine c196 _ _ _ _ _ ?_
 unfold G196
 refine⟨fun s1 n1 v1 n2 n3 g1 kk=>s1=s∧n1=(m:Nat)∧v1=v∧∃i j e,n2=(i:Nat)∧n3=(j:Nat)∧0<i∧0<j∧i≤m-a∧j≤b-m∧kk=i+j∧ArrRow g1 s n e∧Off D g g1∧PIn a b d e∧rot e (m-i) m (m+j)=rot d a m b,
   ⟨(m-a)+(b-m),rfl,rfl,rfl,m-a,b-m,d,by rw[w64_id (by omega) (by omega)];omega,by rw[w64_id (by omega) (by omega)];omega,by omega,by omega,Nat.le_refl _,Nat.le_refl _,rfl,A,Off.refl _ _,PIn.refl _ _ _,by rw[show m-(m-a)=a by omega,show m+(b-m)=b by omega]⟩,?_⟩
 rintro s1 n1 v1 n2 n3 g1 kk ⟨rfl,rfl,rfl,i,j,e,rfl,rfl,hi0,hj0,hi,hj,rfl,Ag,Og,Pg,Rg⟩
 refine ifN (fun hne=>?_) fun heq=>?_
 · refine ifD (fun hlt=>?_) fun hge=>?_
   · rw[show w64 ((m:Int)-i)=((m-i:Nat):Int) by rw[w64_id (by omega) (by omega)];omega]
     refine(swapRow hD hn Ag (a:=m-i) (b:=m) (c:=j) (by omega) (by omega)).mono ?_
     rintro _ g2 ⟨rfl,A2,O2,P2⟩
     refine⟨rfl,(i-j)+j,by omega,rfl,rfl,rfl,i-j,j,_,by rw[w64_id (by omega) (by omega)];omega,rfl,by omega,hj0,by omega,hj,rfl,A2,Og.trans O2,Pg.trans (P2 a b (by omega) (by omega)),?_⟩
     rw[rot_more (by omega) (by omega),Rg]
   · rw[show w64 ((m:Int)-i)=((m-i:Nat):Int) by rw[w64_id (by omega) (by omega)];omega,show w64 (w64 ((m:Int)+j)-i)=((m+j-i:Nat):Int) by rw[w64_id (n:=(m:Int)+j) (by omega) (by omega),w64_id (by omega) (by omega)];omega]
     refine(swapRow hD hn Ag (a:=m-i) (b:=m+j-i) (c:=i) (by omega) (by omega)).mono ?_
     rintro _ g2 ⟨rfl,A2,O2,P2⟩
     refine⟨rfl,i+(j-i),by omega,rfl,rfl,rfl,i,j-i,_,rfl,by rw[w64_id (by omega) (by omega)];omega,hi0,by omega,hi,by omega,rfl,A2,Og.trans O2,Pg.trans (P2 a b (by omega) (by omega)),?_⟩
     rw[rot_less (by omega) (by omega),Rg]
 · have:i=j:=by omega
   subst this
   rw[show w64 ((m:Int)-i)=((m-i:Nat):Int) by rw[w64_id (by omega) (by omega)];omega]
   refine(swapRow hD hn Ag (a:=m-i) (b:=m) (c:=i) (by omega) (by omega)).mono ?_
   rintro _ g2 ⟨rfl,A2,O2,P2⟩
   have e2:swp e (m-i) m i=rot d a m b:=by rw[←Rg];exact rot_end (by omega)
   exact⟨rfl,rfl,e2▸A2,Og.trans O2,e2▸Pg.trans (P2 a b (by omega) (by omega))⟩
theorem insRow (C:CmpOk prog D h0 v encRow key P) (hD:∀q,s.q=some q→D q.b) (hn:n≤1000000000000) {g:Hp} {d:Nat→Row} (A:ArrRow g s n d) (O:Off D h0 g) (hP:∀x,x<n→P (d x)) {a b:Nat} (h1:a≤b) (h2:b≤n) :
   callK prog 189 [vs s,.int .i64 a,.int .i64 b,v] g fun r g'=>r= .tuple #[]∧∃d',ArrRow g' s n d'∧Off D h0 g'∧PIn a b d d'∧SIn key a b d'∧(SIn key a b d→d'=d):=by
 refine c189 _ _ _ _ ?_
 unfold G189
 refine⟨fun s1 n1 n2 v1 n3 g1 kk=>s1=s∧n1=(a:Nat)∧n2=(b:Nat)∧v1=v∧∃(i:Nat) (e:Nat→Row),n3=i∧a<i∧i≤b+1∧kk=b+1-i∧ArrRow g1 s n e∧Off D h0 g1∧PIn a b d e∧SIn key a (min i b) e∧(SIn key a b d→e=d),
   ⟨b+1-(a+1),rfl,rfl,rfl,rfl,a+1,d,w64_id (by omega) (by omega),by omega,by omega,rfl,A,O,PIn.refl _ _ _,SIn.one (by omega) _,fun _=>rfl⟩,?_⟩
 rintro s1 n1 n2 v1 n3 g1 kk ⟨rfl,rfl,rfl,rfl,i,e,rfl,hi1,hi2,rfl,Ag,Og,Pg,Sg,Eg⟩
 refine ifD (fun hlt=>?_) fun hge=>?_
 · have hib:i<b:=by omega
   rw[Nat.min_eq_left (by omega)] at Sg
   refine⟨fun s2 n4 n5 v2 n6 n7 g2 kk2=>s2=s1∧n4=(a:Nat)∧n5=(b:Nat)∧v2=v1∧n6=(i:Nat)∧∃(j:Nat) (e2:Nat→Row),n7=j∧kk2=j∧Ins key a i j e2∧ArrRow g2 s1 n e2∧Off D h0 g2∧PIn a b d e2∧(SIn key a b d→e2=d),
     ⟨i,rfl,rfl,rfl,rfl,rfl,i,e,rfl,rfl,Ins.start (by omega) Sg,Ag,Og,Pg,Eg⟩,?_⟩
   rintro s2 n4 n5 v2 n6 n7 g2 kk2 ⟨rfl,rfl,rfl,rfl,rfl,j,e2,rfl,rfl,Is,A2,O2,P2,E2⟩
   have hjl:=Is.low
   have hP2:∀x,x<n→P (e2 x):=fun x hx=>(P2.mono (a':=0) (b':=n) (by omega) h1 h2).all (fun y _ hy=>hP y hy) (by omega) hx
   have next:∀g',Keep g2 g'→(kk2≤a∨¬key (e2 kk2)<key (e2 (kk2-1)))→∃k6,k6<b+1-i∧s2=s2∧(a:Int)=(a:Nat)∧(b:Int)=(b:Nat)∧v2=v2∧∃(i':Nat) (e:Nat→Row),w64 ((i:Int)+1)=i'∧a<i'∧i'≤b+1∧k6=b+1-i'∧ArrRow g' s2 n e∧Off D h0 g'∧PIn a b d e∧SIn key a (min i' b) e∧(SIn key a b d→e=d):=fun g' kg hd =>
     ⟨b+1-(i+1),by omega,rfl,rfl,rfl,rfl,i+1,e2,w64_id (by omega) (by omega),by omega,by omega,rfl,A2.keep kg,O2.trans (kg.off D),P2,by rw[Nat.min_eq_left (by omega)];exact Is.done hd,E2⟩
   refine ifD (fun hja=>?_) fun hja=>next g2 (Keep.refl _) (.inl (by omega))
   refine cmpRow C A2 O2 hP2 (i:=kk2) (j:=kk2-1) (by omega) (by omega) rfl (by rw[w64_id (by omega) (by omega)];omega) fun m g3 hm k3=>?_
   refine ifB_intro (fun hneg=>?_) fun hneg=>?_
   · have hm0:m<0:=by simpa using hneg
     have hlt2:=hm.1 hm0
     refine turnRow (A2.keep k3) hD (i:=kk2-1) (j:=kk2) (by omega) (by omega) (by rw[w64_id (by omega) (by omega)];omega) rfl fun g4 A4 o4=>?_
     refine⟨kk2-1,by omega,rfl,rfl,rfl,rfl,rfl,kk2-1,sw e2 (kk2-1) kk2,by rw[w64_id (by omega) (by omega)];omega,rfl,?_,A4,(O2.trans (k3.off D)).trans o4,P2.trans (PIn.sw _ (by omega) (by omega)),fun hs=>?_⟩
     · rw[sw_comm];exact Is.step (by omega) hlt2
     · have:=E2 hs
       rw[this] at hlt2
       have:=hs (kk2-1) kk2 (by omega) (by omega) (by omega)
       omega
   · have hm0:¬m<0:=by simpa using hneg
     exact next g3 k3 (.inr fun h=>hm0 (hm.2 h))
 · have:min i b=b:=by omega
   rw[this] at Sg
   exact⟨rfl,e,Ag,Og,Pg,Sg,Eg⟩
theorem symRow (C:CmpOk prog D h0 v encRow key P) (hD:∀q,s.q=some q→D q.b) (hn:n≤1000000000000):∀(N:Nat) {g:Hp} {d:Nat→Row} {a m b:Nat},b-a≤N→a<m→m<b→b≤n→ArrRow g s n d→Off D h0 g→(∀x,x<n→P (d x))→SIn key a m d→SIn key m b d →
   callK prog 190 [vs s,.int .i64 a,.int .i64 m,.int .i64 b,v] g fun r g'=>r= .tuple #[]∧∃d',ArrRow g' s n d'∧Off D h0 g'∧PIn a b d d'∧SIn key a b d'∧(SIn key a b d→d'=d):=by
 intro N
 induction N with
 | zero=>intro g d a m b hN h1 h2;exact absurd hN (by omega)
 | succ N ih =>
   intro g d a m b hN h1 h2 h3 A O hP S1 S2
   refine c190 _ _ _ _ _ ?_
   unfold G190
   refine ifD (fun hm=>?_) fun hm=>?_
   · rw[w64_id (by omega) (by omega)] at hm
     have hma:m=a+1:=by omega
     refine⟨fun s1 n1 v1 n2 n3 g1 kk=>s1=s∧n1=(a:Nat)∧v1=v∧∃i j:Nat,n2=i∧n3=j∧m≤i∧i≤j∧j≤b∧kk=j-i∧ArrRow g1 s n d∧Off D h0 g1∧(∀x,m≤x→x<i→key (d x)<key (d a))∧(∀x,j≤x→x<b→key (d a)≤key (d x))∧(SIn key a b d→i=m),
       ⟨b-m,rfl,rfl,rfl,m,b,rfl,rfl,Nat.le_refl _,by omega,Nat.le_refl _,rfl,A,O,fun x _ _=>by omega,fun x _ _=>by omega,fun _=>rfl⟩,?_⟩
     rintro s1 n1 v1 n2 n3 g1 kk ⟨rfl,rfl,rfl,i,j,rfl,rfl,hi,hij,hj,rfl,Ag,Og,lo,hi2,eq⟩
     refine ifD (fun hlt=>?_) fun hge=>?_
     · have hh:=half_I (i:=i) (j:=j) (by omega) (by omega)
       refine cmpRow C Ag Og hP (i:=(i+j)/2) (j:=a) (by omega) (by omega) hh rfl fun t g2 ht k2=>?_
       refine ifB_intro (fun hneg=>?_) fun hneg=>?_
       · have ht0:t<0:=by simpa using hneg
         have hl:=ht.1 ht0
         refine⟨j-((i+j)/2+1),by omega,rfl,rfl,rfl,(i+j)/2+1,j,by rw[hh,w64_id (by omega) (by omega)];omega,rfl,by omega,by omega,hj,rfl,Ag.keep k2,Og.trans (k2.off D),fun x hx1 hx2=>?_,hi2,fun hs=>?_⟩
         · exact Nat.lt_of_le_of_lt (S2 x ((i+j)/2) hx1 (by omega) (by omega)) hl
         · have:=hs a ((i+j)/2) (by omega) (by omega) (by omega);omega
       · have ht0:¬t<0:=by simpa using hneg
         have hl:¬key (d ((i+j)/2))<key (d a):=fun h=>ht0 (ht.2 h)
         refine⟨(i+j)/2-i,by omega,rfl,rfl,rfl,i,(i+j)/2,rfl,hh,hi,by omega,by omega,rfl,Ag.keep k2,Og.trans (k2.off D),lo,fun x hx1 hx2=>?_,eq⟩
         have:=S2 ((i+j)/2) x (by omega) hx1 (by omega);omega
     · have hije:i=j:=by omega
       subst hije
       refine⟨fun s2 n7 n8 g2 kk2=>s2=s1∧n7=(i:Nat)∧∃k:Nat,n8=k∧a≤k∧k≤i-1∧kk2=i-1-k∧ArrRow g2 s1 n (shUp d a k)∧Off D h0 g2∧PIn a b d (shUp d a k),
         ⟨i-1-a,rfl,rfl,a,rfl,Nat.le_refl _,by omega,rfl,by rw[shUp_start];exact Ag,Og,by rw[shUp_start];exact PIn.refl _ _ _⟩,?_⟩
       rintro s2 n7 n8 g2 kk2 ⟨rfl,rfl,k,rfl,hk1,hk2,rfl,A2,O2,P2⟩
       have ew:w64 ((i:Int)-1)=((i-1:Nat):Int):=by rw[w64_id (by omega) (by omega)];omega
       rw[ew]
       refine ifD (fun hlt=>?_) fun hge=>?_
       · refine turnRow A2 hD (i:=k+1) (j:=k) (by omega) (by omega) (by rw[w64_id (by omega) (by omega)];omega) rfl fun g3 A3 o3=>?_
         have e:sw (shUp d a k) (k+1) k=shUp d a (k+1):=by rw[sw_comm];exact shUp_step hk1
         exact⟨i-1-(k+1),by omega,rfl,rfl,k+1,w64_id (by omega) (by omega),by omega,by omega,rfl,e▸A3,O2.trans o3,P2.trans (e▸PIn.sw _ (by omega) (by omega))⟩
       · have:k=i-1:=by omega
         subst this
         refine⟨rfl,_,A2,O2,P2,shUp_sorts (by omega) hj (S2.sub (by omega) (Nat.le_refl _)) (fun x hx1 hx2=>lo x (by omega) hx2) hi2,fun hs=>?_⟩
         rw[eq hs,hma,Nat.add_sub_cancel,shUp_start]
   refine ifD (fun hm2=>?_) fun hm2=>?_
   · rw[w64_id (by omega) (by omega)] at hm2
     have hmb:b=m+1:=by omega
     refine⟨fun s3 n11 v3 n12 n13 g1 kk=>s3=s∧n11=(m:Nat)∧v3=v∧∃i j:Nat,n12=i∧n13=j∧a≤i∧i≤j∧j≤m∧kk=j-i∧ArrRow g1 s n d∧Off D h0 g1∧(∀x,a≤x→x<i→key (d x)≤key (d m))∧(∀x,j≤x→x<m→key (d m)<key (d x))∧(SIn key a b d→j=m),
       ⟨m-a,rfl,rfl,rfl,a,m,rfl,rfl,Nat.le_refl _,by omega,Nat.le_refl _,rfl,A,O,fun x _ _=>by omega,fun x _ _=>by omega,fun _=>rfl⟩,?_⟩
     rintro s3 n11 v3 n12 n13 g1 kk ⟨rfl,rfl,rfl,i,j,rfl,rfl,hi,hij,hj,rfl,Ag,Og,lo,hi2,eq⟩
     refine ifD (fun hlt=>?_) fun hge=>?_
     · have hh:=half_I (i:=i) (j:=j) (by omega) (by omega)
       refine cmpRow C Ag Og hP (i:=m) (j:=(i+j)/2) (by omega) (by omega) rfl hh fun t g2 ht k2=>?_
       refine ifN (fun ht0=>?_) fun ht0=>?_
       · have hl:¬key (d m)<key (d ((i+j)/2)):=fun h=>ht0 (ht.2 h)
         refine⟨j-((i+j)/2+1),by omega,rfl,rfl,rfl,(i+j)/2+1,j,by rw[hh,w64_id (by omega) (by omega)];omega,rfl,by omega,by omega,hj,rfl,Ag.keep k2,Og.trans (k2.off D),fun x hx1 hx2=>?_,hi2,eq⟩
         have:=S1 x ((i+j)/2) hx1 (by omega) (by omega);omega
       · have hl:=ht.1 ht0
         refine⟨(i+j)/2-i,by omega,rfl,rfl,rfl,i,(i+j)/2,rfl,hh,hi,by omega,by omega,rfl,Ag.keep k2,Og.trans (k2.off D),lo,fun x hx1 hx2=>?_,fun hs=>?_⟩
         · exact Nat.lt_of_lt_of_le hl (S1 ((i+j)/2) x (by omega) hx1 (by omega))
         · have:=hs ((i+j)/2) m (by omega) (by omega) (by omega);omega
     · have hije:i=j:=by omega
       subst hije
       refine⟨fun s4 n17 n18 g2 kk2=>s4=s3∧n17=(i:Nat)∧∃k:Nat,n18=k∧i≤k∧k≤m∧kk2=k∧ArrRow g2 s3 n (shDn d m k)∧Off D h0 g2∧PIn a b d (shDn d m k),
         ⟨m,rfl,rfl,m,rfl,hj,Nat.le_refl _,rfl,by rw[shDn_start];exact Ag,Og,by rw[shDn_start];exact PIn.refl _ _ _⟩,?_⟩
       rintro s4 n17 n18 g2 kk2 ⟨rfl,rfl,k,rfl,hk1,hk2,rfl,A2,O2,P2⟩
       refine ifD (fun hlt=>?_) fun hge=>?_
       · refine turnRow A2 hD (i:=kk2-1) (j:=kk2) (by omega) (by omega) (by rw[w64_id (by omega) (by omega)];omega) rfl fun g3 A3 o3=>?_
         have e:sw (shDn d m kk2) (kk2-1) kk2=shDn d m (kk2-1):=by rw[sw_comm];exact shDn_step hk2 (by omega)
         exact⟨kk2-1,by omega,rfl,rfl,kk2-1,by rw[w64_id (by omega) (by omega)];omega,by omega,by omega,rfl,e▸A3,O2.trans o3,P2.trans (e▸PIn.sw _ (by omega) (by omega))⟩
       · have:kk2=i:=by omega
         subst this
         refine⟨rfl,_,A2,O2,P2,?_,fun hs=>?_⟩
         · rw[hmb];exact shDn_sorts hi hj S1 lo hi2
         · rw[eq hs,shDn_start]
   rw[w64_id (by omega) (by omega)] at hm hm2
   have hmid:=half_I (i:=a) (j:=b) (by omega) (by omega)
   generalize hmd:(a+b)/2=mid at *
   have hmid2:a<mid∧mid<b:=by omega
   refine⟨fun s5 n21 n22 n23 v5 n24 n25 n26 n27 g1=>s5=s∧n21=(a:Nat)∧n22=(m:Nat)∧n23=(b:Nat)∧v5=v∧n24=(mid:Nat)∧n25=((mid+m:Nat):Int)∧g1=g∧∃s0 r0:Nat,n26=s0∧n27=r0∧s0≤r0∧a≤s0∧r0≤m∧r0≤mid∧mid+m-s0≤b∧(r0=m∨r0=mid)∧(s0=a∨mid+m-s0=b),?_,?_⟩
   · refine ifD (fun hc=>?_) fun hc=>?_
     · rw[hmid] at hc
       exact⟨rfl,rfl,rfl,rfl,rfl,hmid,by rw[hmid,w64_id (by omega) (by omega)];omega,rfl,mid+m-b,mid,by rw[hmid,w64_id (n:=(mid:Int)+m) (by omega) (by omega),w64_id (by omega) (by omega)];omega,hmid,by omega,by omega,by omega,by omega,by omega,.inr rfl,.inr (by omega)⟩
     · rw[hmid] at hc
       exact⟨rfl,rfl,rfl,rfl,rfl,hmid,by rw[hmid,w64_id (by omega) (by omega)];omega,rfl,a,m,rfl,rfl,by omega,by omega,by omega,by omega,by omega,.inl rfl,.inl rfl⟩
   rintro s5 n21 n22 n23 v5 n24 n25 n26 n27 g1 ⟨rfl,rfl,rfl,rfl,rfl,rfl,rfl,rfl,s0,r0,rfl,rfl,q1,q2,q3,q4,q5,q6,q7⟩
   refine⟨fun s6 n28 n29 n30 v6 n31 n32 n33 n34 n35 g2 kk=>s6=s5∧n28=(a:Nat)∧n29=(m:Nat)∧n30=(b:Nat)∧v6=v5∧n31=(mid:Nat)∧n32=((mid+m:Nat):Int)∧n35=((mid+m-1:Nat):Int)∧∃st r:Nat,n33=st∧n34=r∧s0≤st∧st≤r∧r≤r0∧kk=r-st∧ArrRow g2 s5 n d∧Off D h0 g2 ∧
       (st=s0∨key (d (st-1))≤key (d (mid+m-1-(st-1))))∧(r=r0∨key (d (mid+m-1-r))<key (d r))∧(SIn key a b d→r=r0),
     ⟨r0-s0,rfl,rfl,rfl,rfl,rfl,rfl,rfl,by rw[w64_id (by omega) (by omega)];omega,s0,r0,rfl,rfl,Nat.le_refl _,q1,Nat.le_refl _,rfl,A,O,.inl rfl,.inl rfl,fun _=>rfl⟩,?_⟩
   rintro s6 n28 n29 n30 v6 n31 n32 n33 n34 n35 g2 kk ⟨rfl,rfl,rfl,rfl,rfl,rfl,rfl,rfl,st,r,rfl,rfl,hs1,hs2,hs3,rfl,Ag,Og,x2,x1,eq⟩
   refine ifD (fun hlt=>?_) fun hge=>?_
   · have hh:=half_I (i:=st) (j:=r) (by omega) (by omega)
     have hI:w64 (((mid+m-1:Nat):Int)-w64 (((ushr (toU (w64 ((st:Int)+r))) (UInt64.toNat 1)).toNat:Nat):Int))=((mid+m-1-(st+r)/2:Nat):Int):=by rw[hh,w64_id (by omega) (by omega)];omega
     refine cmpRow C Ag Og hP (i:=mid+m-1-(st+r)/2) (j:=(st+r)/2) (by omega) (by omega) hI hh fun t g3 ht k3=>?_
     refine ifN (fun ht0=>?_) fun ht0=>?_
     · have hl:¬key (d (mid+m-1-(st+r)/2))<key (d ((st+r)/2)):=fun h=>ht0 (ht.2 h)
       exact⟨r-((st+r)/2+1),by omega,rfl,rfl,rfl,rfl,rfl,rfl,rfl,rfl,(st+r)/2+1,r,by rw[hh,w64_id (by omega) (by omega)];omega,rfl,by omega,by omega,hs3,rfl,Ag.keep k3,Og.trans (k3.off D),.inr (by rw[Nat.add_sub_cancel];omega),x1,eq⟩
     · have hl:=ht.1 ht0
       refine⟨(st+r)/2-st,by omega,rfl,rfl,rfl,rfl,rfl,rfl,rfl,rfl,st,(st+r)/2,rfl,hh,hs1,by omega,by omega,rfl,Ag.keep k3,Og.trans (k3.off D),x2,.inr hl,fun hs=>?_⟩
       have:=hs ((st+r)/2) (mid+m-1-(st+r)/2) (by omega) (by omega) (by omega);omega
   · have hsr:st=r:=by omega
     subst hsr
     have hen:w64 (((mid+m:Nat):Int)-st)=((mid+m-st:Nat):Int):=by rw[w64_id (by omega) (by omega)];omega
     rw[hen]
     generalize hE:mid+m-st=en at *
     have cut:Cut key a m b st d:=by
       refine⟨by rw[hmd];omega,by rw[hmd,hE];omega,?_,?_⟩
       · rw[hmd,hE];intro c1 c2
         rcases x1 with h|h
         · omega
         · have e:mid+m-1-st=en-1:=by omega
           rw[e] at h;omega
       · rw[hmd,hE];intro c1 c2
         rcases x2 with h|h
         · omega
         · have e:mid+m-1-(st-1)=en:=by omega
           rw[e] at h;exact h
     have use:=cut.use (d1:=rot d st m en) ⟨h1,h2⟩ S1 S2 (by rw[hmd,hE])
     rw[hmd,hE] at use
     obtain⟨u1,u2,u3,u4,u5⟩:=use
     have hst:st≤m∧st≤mid∧m≤en∧mid≤en∧en≤b:=by omega
     have eqr:SIn key a b d→rot d st m en=d:=fun hs=>by
       have:=eq hs
       rcases q6 with h|h
       · have:st=m:=by omega
         rw[this];exact rot_none1 d m en (by omega)
       · have:en=m:=by omega
         rw[this];exact rot_none2 d st m (by omega)
     have fin2:∀(g4:Hp) (d2:Nat→Row),ArrRow g4 s6 n d2→Off D h0 g4→PIn a b d d2→PIn a mid (rot d st m en) d2→SIn key a mid d2→(SIn key a b d→d2=d) →
         ifB (decide ((mid:Int)<(en:Int))) (ifB (bif true then decide ((en:Int)<(b:Int)) else false) (callK prog 190 [vs s6,.int .i64 mid,.int .i64 en,.int .i64 b,v6] g4 fun v10 h16=>v10= .tuple #[]∧((.tuple #[]:Value)= .tuple #[]∧∃d',ArrRow h16 s6 n d'∧Off D h0 h16∧PIn a b d d'∧SIn key a b d'∧(SIn key a b d→d'=d)))
           ((.tuple #[]:Value)= .tuple #[]∧∃d',ArrRow g4 s6 n d'∧Off D h0 g4∧PIn a b d d'∧SIn key a b d'∧(SIn key a b d→d'=d)))
           ((.tuple #[]:Value)= .tuple #[]∧∃d',ArrRow g4 s6 n d'∧Off D h0 g4∧PIn a b d d'∧SIn key a b d'∧(SIn key a b d→d'=d)):=by
       intro g4 d2 A4 O4 P4 P4' S4 E4
       have hsame:∀x,mid≤x→d2 x=rot d st m en x:=fun x hx=>P4'.1 x (.inr hx)
       have done:SIn key mid b d2→∃d',ArrRow g4 s6 n d'∧Off D h0 g4∧PIn a b d d'∧SIn key a b d'∧(SIn key a b d→d'=d):=fun hs =>
         ⟨d2,A4,O4,P4,merge_join ⟨by omega,by omega⟩ P4' S4 (PIn.refl _ _ _) hs u5,E4⟩
       refine ifD (fun c1=>?_) fun c1=>⟨rfl,done ?_⟩
       · refine ifD (fun c2=>?_) fun c2=>⟨rfl,done ?_⟩
         · refine(ih (g:=g4) (d:=d2) (a:=mid) (m:=en) (b:=b) (by omega) (by omega) (by omega) h3 A4 O4 (fun x hx=>(P4.mono (a':=0) (b':=n) (by omega) (by omega) h3).all (fun y _ hy=>hP y hy) (by omega) hx) (u3.congr fun x y _=>hsame x y) (u4.congr fun x y _=>hsame x (by omega))).mono ?_
           rintro _ g5 ⟨rfl,d3,A5,O5,P5,S5,E5⟩
           refine⟨rfl,rfl,d3,A5,O5,P4.trans (P5.mono (by omega) (by omega) (Nat.le_refl _)),merge_join ⟨by omega,by omega⟩ P4' S4 P5 S5 u5,fun hs=>?_⟩
           have e:=E4 hs
           rw[E5 (by rw[e];exact hs.sub (by omega) (Nat.le_refl _)),e]
         · exact(u3.sub (Nat.le_refl _) (by omega)).congr fun x y _=>hsame x y
       · exact(u4.sub (by omega) (Nat.le_refl _)).congr fun x y _=>hsame x y
     have fin1:∀(g4:Hp),ArrRow g4 s6 n (rot d st m en)→Off D h0 g4→PIn a b d (rot d st m en) →
         ifB (decide ((a:Int)<(st:Int))) (ifB (bif true then decide ((st:Int)<(mid:Int)) else false) (callK prog 190 [vs s6,.int .i64 a,.int .i64 st,.int .i64 mid,v6] g4 fun v9 h15=>v9= .tuple #[]∧ifB (decide ((mid:Int)<(en:Int))) (ifB (bif true then decide ((en:Int)<(b:Int)) else false) (callK prog 190 [vs s6,.int .i64 mid,.int .i64 en,.int .i64 b,v6] h15 fun v10 h16=>v10= .tuple #[]∧((.tuple #[]:Value)= .tuple #[]∧∃d',ArrRow h16 s6 n d'∧Off D h0 h16∧PIn a b d d'∧SIn key a b d'∧(SIn key a b d→d'=d)))
           ((.tuple #[]:Value)= .tuple #[]∧∃d',ArrRow h15 s6 n d'∧Off D h0 h15∧PIn a b d d'∧SIn key a b d'∧(SIn key a b d→d'=d)))
           ((.tuple #[]:Value)= .tuple #[]∧∃d',ArrRow h15 s6 n d'∧Off D h0 h15∧PIn a b d d'∧SIn key a b d'∧(SIn key a b d→d'=d)))
           (ifB (decide ((mid:Int)<(en:Int))) (ifB (bif true then decide ((en:Int)<(b:Int)) else false) (callK prog 190 [vs s6,.int .i64 mid,.int .i64 en,.int .i64 b,v6] g4 fun v10 h16=>v10= .tuple #[]∧((.tuple #[]:Value)= .tuple #[]∧∃d',ArrRow h16 s6 n d'∧Off D h0 h16∧PIn a b d d'∧SIn key a b d'∧(SIn key a b d→d'=d)))
           ((.tuple #[]:Value)= .tuple #[]∧∃d',ArrRow g4 s6 n d'∧Off D h0 g4∧PIn a b d d'∧SIn key a b d'∧(SIn key a b d→d'=d)))
           ((.tuple #[]:Value)= .tuple #[]∧∃d',ArrRow g4 s6 n d'∧Off D h0 g4∧PIn a b d d'∧SIn key a b d'∧(SIn key a b d→d'=d))))
           (ifB (decide ((mid:Int)<(en:Int))) (ifB (bif true then decide ((en:Int)<(b:Int)) else false) (callK prog 190 [vs s6,.int .i64 mid,.int .i64 en,.int .i64 b,v6] g4 fun v10 h16=>v10= .tuple #[]∧((.tuple #[]:Value)= .tuple #[]∧∃d',ArrRow h16 s6 n d'∧Off D h0 h16∧PIn a b d d'∧SIn key a b d'∧(SIn key a b d→d'=d)))
           ((.tuple #[]:Value)= .tuple #[]∧∃d',ArrRow g4 s6 n d'∧Off D h0 g4∧PIn a b d d'∧SIn key a b d'∧(SIn key a b d→d'=d)))
           ((.tuple #[]:Value)= .tuple #[]∧∃d',ArrRow g4 s6 n d'∧Off D h0 g4∧PIn a b d d'∧SIn key a b d'∧(SIn key a b d→d'=d))):=by
       intro g4 A4 O4 P4
       refine ifD (fun c1=>?_) fun c1=>fin2 g4 _ A4 O4 P4 (PIn.refl _ _ _) ?_ eqr
       · refine ifD (fun c2=>?_) fun c2=>fin2 g4 _ A4 O4 P4 (PIn.refl _ _ _) ?_ eqr
         · refine(ih (g:=g4) (d:=rot d st m en) (a:=a) (m:=st) (b:=mid) (by omega) (by omega) (by omega) (by omega) A4 O4 (fun x hx=>(P4.mono (a':=0) (b':=n) (by omega) (by omega) h3).all (fun y _ hy=>hP y hy) (by omega) hx) u1 u2).mono ?_
           rintro _ g5 ⟨rfl,d3,A5,O5,P5,S5,E5⟩
           refine⟨rfl,fin2 g5 d3 A5 O5 (P4.trans (P5.mono (Nat.le_refl _) (by omega) (by omega))) P5 S5 fun hs=>?_⟩
           have e:=eqr hs
           rw[E5 (by rw[e];exact hs.sub (Nat.le_refl _) (by omega)),e]
         · exact u1.sub (Nat.le_refl _) (by omega)
       · exact u2.sub (by omega) (Nat.le_refl _)
     refine ifD (fun c1=>?_) fun c1=>fin1 g2 ?_ Og ?_
     · refine ifD (fun c2=>?_) fun c2=>fin1 g2 ?_ Og ?_
       · refine(rotRow hD hn Ag (a:=st) (m:=m) (b:=en) (by omega) (by omega) (by omega)).mono ?_
         rintro _ g4 ⟨rfl,A4,O4,P4⟩
         exact⟨rfl,fin1 g4 A4 (Og.trans O4) (P4.mono (by omega) (by omega) (by omega))⟩
       · have:en=m:=by omega
         rw[this,rot_none2 d st m (by omega)];exact Ag
       · have:en=m:=by omega
         rw[this,rot_none2 d st m (by omega)];exact PIn.refl _ _ _
     · have:st=m:=by omega
       rw[this,rot_none1 d m en (by omega)];exact Ag
     · have:st=m:=by omega
       rw[this,rot_none1 d m en (by omega)];exact PIn.refl _ _ _
theorem stableRow (C:CmpOk prog D h0 v encRow key P) (hD:∀q,s.q=some q→D q.b) (hn:n≤1000000000000) {g:Hp} {d:Nat→Row} (A:ArrRow g s n d) (O:Off D h0 g) (hP:∀x,x<n→P (d x)) :
   callK prog 174 [vs s,.int .i64 n,v] g fun r g'=>r= .tuple #[]∧∃d',ArrRow g' s n d'∧Off D h0 g'∧PIn 0 n d d'∧SIn key 0 n d'∧(SIn key 0 n d→d'=d):=by
 refine c174 _ _ _ ?_
 unfold G174
 have allP:∀ {e:Nat→Row},PIn 0 n d e→∀x,x<n→P (e x):=fun p x hx=>p.all (fun y _ hy=>hP y hy) (by omega) hx
 refine⟨fun s1 n1 v1 n2 n3 n4 g1 kk=>s1=s∧n1=(n:Nat)∧v1=v∧n2=20∧∃(a:Nat) (e:Nat→Row),n3=a∧n4=((a+20:Nat):Int)∧20 ∣ a∧a≤n∧kk=n-a∧ArrRow g1 s n e∧Off D h0 g1∧PIn 0 n d e∧(∀x,20 ∣ x→x+20≤a→SIn key x (x+20) e)∧(SIn key 0 n d→e=d),
   ⟨n,rfl,rfl,rfl,rfl,0,d,rfl,rfl,⟨0,rfl⟩,by omega,rfl,A,O,PIn.refl _ _ _,fun x _ h=>by omega,fun _=>rfl⟩,?_⟩
 rintro s1 n1 v1 n2 n3 n4 g1 kk ⟨rfl,rfl,rfl,rfl,a,e,rfl,rfl,ha,han,rfl,Ag,Og,Pg,Sg,Eg⟩
 refine ifD (fun hle=>?_) fun hgt=>?_
 · refine(insRow C hD hn Ag Og (allP Pg) (a:=a) (b:=a+20) (by omega) (by omega)).mono ?_
   rintro _ g2 ⟨rfl,e2,A2,O2,P2,S2,E2⟩
   refine⟨rfl,n-(a+20),by omega,rfl,rfl,rfl,rfl,a+20,e2,rfl,by rw[w64_id (by omega) (by omega)];omega,(Nat.dvd_add_right ha).2 ⟨1,rfl⟩,by omega,rfl,A2,O2,Pg.trans (P2.mono (by omega) (by omega) (by omega)),fun x hx hx2=>?_,fun hs=>?_⟩
   · by_cases c:x+20≤a
     · exact(Sg x hx c).congr fun y _ hy=>P2.1 y (.inl (by omega))
     · obtain⟨p,rfl⟩:=ha;obtain⟨q,rfl⟩:=hx
       have:p=q:=by omega
       subst this;exact S2
   · have e0:=Eg hs
     rw[E2 (by rw[e0];exact hs.sub (by omega) (by omega)),e0]
 refine(insRow C hD hn Ag Og (allP Pg) (a:=a) (b:=n) han (Nat.le_refl _)).mono ?_
 rintro _ g2 ⟨rfl,e2,A2,O2,P2,S2,E2⟩
 refine⟨rfl,fun s2 n5 v4 n6 g3 kk=>s2=s1∧n5=(n:Nat)∧v4=v1∧∃(bs:Nat) (e:Nat→Row),n6=bs∧0<bs∧bs≤2*n+20∧kk=n-bs∧ArrRow g3 s1 n e∧Off D h0 g3∧PIn 0 n d e∧(∀x,bs ∣ x→SIn key x (min (x+bs) n) e)∧(SIn key 0 n d→e=d),
   ⟨n-20,rfl,rfl,rfl,20,e2,rfl,by omega,by omega,rfl,A2,O2,Pg.trans (P2.mono (by omega) han (Nat.le_refl _)),fun x hx=>?_,fun hs=>?_⟩,?_⟩
 · by_cases c:x+20≤a
   · exact((Sg x hx c).congr fun y _ hy=>P2.1 y (.inl (by omega))).sub (Nat.le_refl _) (Nat.min_le_left _ _)
   · obtain⟨p,rfl⟩:=ha;obtain⟨q,rfl⟩:=hx
     exact S2.sub (by omega) (Nat.min_le_right _ _)
 · have e0:=Eg hs
   rw[E2 (by rw[e0];exact hs.sub (by omega) (Nat.le_refl _)),e0]
 rintro s2 n5 v4 n6 g3 kk ⟨rfl,rfl,rfl,bs,f3,rfl,hb0,hb2,rfl,A3,O3,P3,S3,E3⟩
 refine ifD (fun hlt=>?_) fun hge=>?_
 · refine⟨fun s3 n7 v5 n8 n9 n10 g4 kk2=>s3=s2∧n7=(n:Nat)∧v5=v4∧n8=(bs:Nat)∧∃(a:Nat) (e:Nat→Row),n9=a∧n10=((a+2*bs:Nat):Int)∧2*bs ∣ a∧a≤n∧kk2=n-a∧ArrRow g4 s2 n e∧Off D h0 g4∧PIn 0 n d e∧(∀x,2*bs ∣ x→x+2*bs≤a→SIn key x (x+2*bs) e)∧(∀x,bs ∣ x→a≤x→SIn key x (min (x+bs) n) e)∧(SIn key 0 n d→e=d),
     ⟨n,rfl,rfl,rfl,rfl,0,f3,rfl,by rw[w64_id (by omega) (by omega)];omega,⟨0,rfl⟩,by omega,rfl,A3,O3,P3,fun x _ h=>by omega,fun x hx _=>S3 x hx,E3⟩,?_⟩
   rintro s3 n7 v5 n8 n9 n10 g4 kk2 ⟨rfl,rfl,rfl,rfl,a4,e4,rfl,rfl,ha4,han4,rfl,A4,O4,P4,L4,R4,E4⟩
   have hba:bs ∣ a4:=Nat.dvd_trans ⟨2,by omega⟩ ha4
   have hba2:bs ∣ a4+bs:=(Nat.dvd_add_right hba).2 ⟨1,by omega⟩
   have ew:w64 ((a4:Int)+bs)=((a4+bs:Nat):Int):=by rw[w64_id (by omega) (by omega)];omega
   rw[ew]
   refine ifD (fun hle=>?_) fun hgt=>?_
   · have r1:=R4 a4 hba (Nat.le_refl _)
     have r2:=R4 (a4+bs) hba2 (by omega)
     rw[Nat.min_eq_left (by omega)] at r1 r2
     refine(symRow C hD hn (2*bs) (g:=g4) (d:=e4) (a:=a4) (m:=a4+bs) (b:=a4+2*bs) (by omega) (by omega) (by omega) (by omega) A4 O4 (allP P4) r1 (r2.sub (Nat.le_refl _) (by omega))).mono ?_
     rintro _ g5 ⟨rfl,e5,A5,O5,P5,S5,E5⟩
     refine⟨rfl,n-(a4+2*bs),by omega,rfl,rfl,rfl,rfl,a4+2*bs,e5,rfl,by rw[w64_id (n:=2*(bs:Int)) (by omega) (by omega),w64_id (by omega) (by omega)];omega,(Nat.dvd_add_right ha4).2 ⟨1,by omega⟩,by omega,rfl,A5,O5,P4.trans (P5.mono (by omega) (by omega) (by omega)),fun x hx hx2=>?_,fun x hx hx2=>?_,fun hs=>?_⟩
     · by_cases c:x+2*bs≤a4
       · exact(L4 x hx c).congr fun y _ hy=>P5.1 y (.inl (by omega))
       · have:=dvd_gap hx ha4
         have h2:=dvd_gap ha4 hx
         have:x=a4:=by omega
         subst this;exact S5
     · exact(R4 x hx (by omega)).congr fun y hy _=>P5.1 y (.inr (by omega))
     · have e0:=E4 hs
       rw[E5 (by rw[e0];exact hs.sub (by omega) (by omega)),e0]
   have ed:w64 ((bs:Int)*2)=((2*bs:Nat):Int):=by rw[w64_id (by omega) (by omega)];omega
   rw[ed]
   refine ifD (fun hlt2=>?_) fun hge2=>?_
   · have r1:=R4 a4 hba (Nat.le_refl _)
     have r2:=R4 (a4+bs) hba2 (by omega)
     rw[Nat.min_eq_left (by omega)] at r1
     rw[Nat.min_eq_right (by omega)] at r2
     refine(symRow C hD hn n (g:=g4) (d:=e4) (a:=a4) (m:=a4+bs) (b:=n) (by omega) (by omega) (by omega) (Nat.le_refl _) A4 O4 (allP P4) r1 r2).mono ?_
     rintro _ g5 ⟨rfl,e5,A5,O5,P5,S5,E5⟩
     refine⟨rfl,n-2*bs,by omega,rfl,rfl,rfl,2*bs,e5,rfl,by omega,by omega,rfl,A5,O5,P4.trans (P5.mono (by omega) (by omega) (Nat.le_refl _)),fun x hx=>?_,fun hs=>?_⟩
     · by_cases c:x+2*bs≤a4
       · exact((L4 x hx c).congr fun y _ hy=>P5.1 y (.inl (by omega))).sub (Nat.le_refl _) (Nat.min_le_left _ _)
       · have:=dvd_gap hx ha4
         exact S5.sub (by omega) (Nat.min_le_right _ _)
     · have e0:=E4 hs
       rw[E5 (by rw[e0];exact hs.sub (by omega) (Nat.le_refl _)),e0]
   · refine⟨n-2*bs,by omega,rfl,rfl,rfl,2*bs,e4,rfl,by omega,by omega,rfl,A4,O4,P4,fun x hx=>?_,E4⟩
     by_cases c:x+2*bs≤a4
     · exact(L4 x hx c).sub (Nat.le_refl _) (Nat.min_le_left _ _)
     · have:=dvd_gap hx ha4
       have r1:=R4 a4 hba (Nat.le_refl _)
       exact r1.sub (by omega) (by omega)
 · have:=S3 0 ⟨0,rfl⟩
   rw[Nat.min_eq_right (by omega)] at this
   exact⟨rfl,f3,A3,O3,P3,this,E3⟩
theorem sortedRow (C:CmpOk prog D h0 v encRow key P) (hD:∀q,s.q=some q→D q.b) (hn:n≤1000000000000) {g:Hp} {d:Nat→Row} (A:ArrRow g s n d) (O:Off D h0 g) (hP:∀x,x<n→P (d x)) :
   callK prog 155 [vs s,v] g fun r g'=>r= .tuple #[]∧∃d',ArrRow g' s n d'∧Off D h0 g'∧PIn 0 n d d'∧SIn key 0 n d'∧(SIn key 0 n d→d'=d):=by
 refine c155 _ _ ?_
 unfold G155
 have hl:=A.len
 simp only[List.length_map,List.length_range] at hl
 rw[hl]
 refine(stableRow C hD hn A O hP).mono ?_
 rintro _ g1 ⟨rfl,r⟩
 exact⟨rfl,rfl,r⟩
end
end Go.Proofs.Tryz

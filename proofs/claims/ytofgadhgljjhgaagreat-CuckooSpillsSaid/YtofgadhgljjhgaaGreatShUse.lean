/- What the readings of slices, of pointers and of blocks are used by: laws on rows that are read, rows that are owned, and on what stays. -/
import Derived.Test.YtofgadhgljjhgaaGreatShCode
import Derived.Laws.Append
namespace Go.Sh
open Go Go.RowKit
theorem ifB_iff {b:Bool} {x y:Prop}:ifB b x y↔(b=true→x)∧(b=false→y):=by
 cases b<;>simp[ifB]
theorem ifB_pos {b:Bool} {x y:Prop} (h:b=true) (hx:x):ifB b x y:=by subst h;exact hx
theorem ifB_neg {b:Bool} {x y:Prop} (h:b=false) (hy:y):ifB b x y:=by subst h;exact hy
theorem ifB_intro {b:Bool} {x y:Prop} (hx:b=true→x) (hy:b=false→y):ifB b x y:=ifB_iff.2 ⟨hx,hy⟩
theorem ifD {p:Prop} [Decidable p] {x y:Prop} (hx:p→x) (hy:¬p→y):ifB (decide p) x y :=
 ifB_intro (fun h=>hx (of_decide_eq_true h)) (fun h=>hy (of_decide_eq_false h))
theorem ifN {p:Prop} [Decidable p] {x y:Prop} (hx:¬p→x) (hy:p→y):ifB (!decide p) x y :=
 ifB_intro (fun h=>hx (by simpa using h)) (fun h=>hy (by simpa using h))
theorem w64_id {n:Int} (h0: -9223372036854775808≤n) (h1:n≤9223372036854775807):w64 n=n:=by
 rw[w64_eq];unfold wrap64
 omega
def Keep (h h':Hp):Prop:=∀b,h b≠none→h' b=h b
theorem Keep.refl (h:Hp):Keep h h:=fun _ _=>rfl
theorem Keep.trans {h1 h2 h3:Hp} (a:Keep h1 h2) (b:Keep h2 h3):Keep h1 h3:=fun x hx=>by
 rw[b x (by rw[a x hx];exact hx),a x hx]
theorem Keep.upd {h h':Hp} (a:Keep h h') {b:Nat} (hb:h b=none) (o:Obj):Keep h (upd h' b o):=fun x hx=>by
 have:x≠b:=fun e=>hx (by rw[e];exact hb)
 rw[upd_ne _ _ this,a x hx]
theorem Keep.free {h h':Hp} (a:Keep h h') {b:Nat} (hb:h' b=none):h b=none:=by
 cases e:h b with
 | none=>rfl
 | some o=>rw[a b (by rw[e];simp),e] at hb;cases hb
def Off (D:Nat→Prop) (h h':Hp):Prop:=∀b,h b≠none→¬D b→h' b=h b
theorem Off.refl (D:Nat→Prop) (h:Hp):Off D h h:=fun _ _ _=>rfl
theorem Off.trans {D:Nat→Prop} {h1 h2 h3:Hp} (a:Off D h1 h2) (b:Off D h2 h3):Off D h1 h3:=fun x hx hd=>by
 rw[b x (by rw[a x hx hd];exact hx) hd,a x hx hd]
theorem Keep.off {h h':Hp} (a:Keep h h') (D:Nat→Prop):Off D h h':=fun x hx _=>a x hx
theorem hcell_some {h:Hp} {b o:Nat} {v:Value} (e:hcell h b o=some v):h b≠none:=by
 intro hn;unfold hcell at e;rw[hn] at e;cases e
theorem hcell_cells {h:Hp} {b o:Nat} {c:Array Value} {t:TypeId} {f:Nat×Nat} (e:h b=some (.cells c t f)):hcell h b o=c[o]?:=by
 unfold hcell;rw[e]
theorem hcell_same {h h':Hp} {b:Nat} (e:h' b=h b) (o:Nat):hcell h' b o=hcell h b o:=by
 unfold hcell;rw[e]
variable {α:Type}
/-! ## Rows that are read -/
structure RdS (f:α→Value) (h:Hp) (s:Sl) (l:List α):Prop where
 len:s.len=l.length
 cap:s.len≤s.cap
 nil:s.q=none→s.cap=0
 rd:∀q,s.q=some q→∀i (hi:i<l.length),hcell h q.b (q.o+i)=some (f l[i])
theorem RdS.ptr {f:α→Value} {h:Hp} {s:Sl} {l:List α} (r:RdS f h s l) (hl:0<l.length):∃q,s.q=some q:=by
 cases e:s.q with
 | some q=>exact⟨q,rfl⟩
 | none=>have:=r.nil e;have:=r.cap;have:=r.len;omega
theorem RdS.at {f:α→Value} {h:Hp} {s:Sl} {l:List α} (r:RdS f h s l) {i:Nat} (hi:i<l.length):∃q,s.q=some q∧hcell h q.b (q.o+i)=some (f l[i]):=by
 obtain⟨q,hq⟩:=r.ptr (by omega)
 exact⟨q,hq,r.rd q hq i hi⟩
theorem RdS.move {f:α→Value} {h h':Hp} {s:Sl} {l:List α} (r:RdS f h s l) (hs:∀q,s.q=some q→0<l.length→h' q.b=h q.b):RdS f h' s l :=
 ⟨r.len,r.cap,r.nil,fun q hq i hi=>by rw[hcell_same (hs q hq (by omega))];exact r.rd q hq i hi⟩
theorem RdS.keep {f:α→Value} {h h':Hp} {s:Sl} {l:List α} (r:RdS f h s l) (k:Keep h h'):RdS f h' s l :=
 r.move fun q hq hl=>k _ (hcell_some (r.rd q hq 0 hl))
theorem RdS.there {f:α→Value} {h:Hp} {s:Sl} {l:List α} (r:RdS f h s l) {q:Pt} (hq:s.q=some q) (hl:0<l.length):h q.b≠none:=hcell_some (r.rd q hq 0 hl)
theorem RdS.nilS (f:α→Value) (h:Hp):RdS f h ⟨none,0,0,none⟩ []:=⟨rfl,Nat.le_refl _,fun _=>rfl,fun _ h=>by cases h⟩
theorem RdS.ix {f:α→Value} {h:Hp} {s:Sl} {l:List α} (r:RdS f h s l) {i:Nat} (hi:i<l.length) {K:Pt→Prop} (hk:∀q,s.q=some q→hcell h q.b (q.o+i*1)=some (f l[i])→K q) :
   ∃q,s.q=some q∧(0:Int)≤(i:Int)∧(i:Int)+1≤(s.len:Int)∧K q:=by
 obtain⟨q,hq,hc⟩:=r.at hi
 exact⟨q,hq,by omega,by rw[r.len];omega,hk q hq (by rw[Nat.mul_one];exact hc)⟩
theorem rdL_map {f:α→Value} {h:Hp} {b:Nat} {l:List α} {o:Nat}:rdL h b o (l.map f)↔∀i (hi:i<l.length),hcell h b (o+i)=some (f l[i]):=by
 rw[rdL_iff]
 constructor
 · intro H i hi
   have:=H i (by simpa using hi)
   simpa using this
 · intro H i hi
   have:=H i (by simpa using hi)
   simpa using this
theorem cut_q {s:Sl} {n m sz a b:Nat} {q':Pt} (h:Sl.q ⟨slPt s.p n m sz,a,b,slZ s.z n m sz⟩=some q'):(∃q,s.q=some q∧q'.b=q.b)∨(m≠n∧n*sz≠0):=by
 obtain⟨p,k,c,z⟩:=s
 by_cases h1:m=n∨n*sz=0
 · left
   cases z with
   | some z=>simp[Sl.q,slZ,h1] at h
   | none =>
     simp only[Sl.q,slZ,h1,if_true] at h
     unfold slPt at h
     split at h
     · exact⟨q',h,rfl⟩
     · cases p with
       | none=>cases h
       | some q=>cases h;exact⟨q,rfl,rfl⟩
 · right;omega
theorem cut_q0 {s:Sl} {a b:Nat} (hc:s.q=none→s.cap=0) {n:Nat} (hn:n≤s.cap) {q':Pt} (h:Sl.q ⟨slPt s.p n s.cap 1,a,b,slZ s.z n s.cap 1⟩=some q'):∃q,s.q=some q∧q'.b=q.b:=by
 rcases cut_q h with h1|⟨h1,h2⟩
 · exact h1
 · cases e:s.q with
   | none=>have:=hc e;omega
   | some q =>
     refine⟨q,rfl,?_⟩
     have hp:=Sl.q_p e
     have hz:s.z=none:=by
       obtain⟨p,k,c,z⟩:=s
       cases z with
       | some z=>cases e
       | none=>rfl
     simp only[Sl.q,slZ,hz,ite_self,slPt,hp] at h
     rw[if_neg h1] at h
     cases h;rfl
theorem RdS.drop {f:α→Value} {h:Hp} {s:Sl} {l:List α} (r:RdS f h s l) {n:Nat} (hn:n≤l.length):RdS f h ⟨slPt s.p n s.cap 1,s.len-n,s.cap-n,slZ s.z n s.cap 1⟩ (l.drop n):=by
 have hlen:=r.len;have hcap:=r.cap
 by_cases e0:s.cap=0
 · have h1:s.len=0:=by omega
   have h2:l=[]:=List.length_eq_zero_iff.1 (by omega)
   subst h2
   exact⟨by simp[h1],by simp;omega,fun _=>by simp[e0],fun q hq i hi=>by simp at hi⟩
 obtain⟨q0,hq0⟩:∃q,s.q=some q:=by
   cases e:s.q with
   | none=>have:=r.nil e;omega
   | some q=>exact⟨q,rfl⟩
 have hp:=Sl.q_p hq0
 have hz:s.z=none:=by
   obtain⟨p,k,c,z⟩:=s
   cases z with
   | some z=>cases hq0
   | none=>rfl
 have hq:Sl.q ⟨slPt s.p n s.cap 1,s.len-n,s.cap-n,slZ s.z n s.cap 1⟩=if s.cap=n then some q0 else some ⟨q0.b,q0.o+n*1⟩:=by
   simp only[Sl.q,slZ,hz,ite_self,slPt,hp,Option.map_some]
 refine⟨by simp[hlen],by simp;omega,fun e=>?_,fun q hqq i hi=>?_⟩
 · rw[hq] at e;split at e<;>cases e
 · have hi':i+n<l.length:=by simp at hi;omega
   rw[hq,if_neg (by omega)] at hqq
   cases hqq
   have hc:=r.rd q0 hq0 (i+n) hi'
   simp only[List.getElem_drop]
   rw[show q0.o+n*1+i=q0.o+(i+n) by omega,hc]
   congr 2
   simp[Nat.add_comm]
theorem RdS.takeS {f:α→Value} {h:Hp} {s:Sl} {l:List α} (r:RdS f h s l) {n:Nat} (hn:n≤l.length):RdS f h ⟨slPt s.p 0 s.cap 1,n-0,s.cap-0,slZ s.z 0 s.cap 1⟩ (l.take n):=by
 have hlen:=r.len;have hcap:=r.cap
 have hq:Sl.q ⟨slPt s.p 0 s.cap 1,n-0,s.cap-0,slZ s.z 0 s.cap 1⟩=s.q:=by
   obtain⟨p,k,c,z⟩:=s
   simp only[Sl.q,slZ,slPt,Nat.zero_mul,or_true,if_true]
   cases z with
   | some z=>rfl
   | none =>
     simp only
     split
     · rfl
     · cases p<;>rfl
 refine⟨by simp;omega,by simp;omega,fun e=>?_,fun q hqq i hi=>?_⟩
 · rw[hq] at e;have:=r.nil e;simp;exact this
 · rw[hq] at hqq
   have hi':i<n∧i<l.length:=by simp at hi;omega
   rw[r.rd q hqq i hi'.2];simp
/-! ## Rows that are owned: their block is none of those that were there at the start -/
structure OwnS (f:α→Value) (h0 h:Hp) (s:Sl) (l:List α):Prop where
 len:s.len=l.length
 cap:s.len≤s.cap
 own:(s.q=none∧s.cap=0)∨∃q c t,s.q=some q∧h0 q.b=none∧h q.b=some (.cells c t (0,0))∧q.o+s.cap≤c.size∧∀i (hi:i<l.length),c[q.o+i]? =some (f l[i])
theorem OwnS.rd {f:α→Value} {h0 h:Hp} {s:Sl} {l:List α} (r:OwnS f h0 h s l):RdS f h s l:=by
 refine⟨r.len,r.cap,fun hn=>?_,fun q hq i hi=>?_⟩
 · rcases r.own with ⟨_,h1⟩|⟨q,c,t,h1,_⟩
   · exact h1
   · rw[hn] at h1;cases h1
 · rcases r.own with ⟨h1,_⟩|⟨q',c,t,h1,_,h3,_,h5⟩
   · rw[hq] at h1;cases h1
   · rw[hq] at h1;cases h1
     rw[hcell_cells h3];exact h5 i hi
theorem OwnS.blk {f:α→Value} {h0 h:Hp} {s:Sl} {l:List α} (r:OwnS f h0 h s l) {q:Pt} (hq:s.q=some q):h0 q.b=none∧h q.b≠none:=by
 rcases r.own with ⟨h1,_⟩|⟨q',c,t,h1,h2,h3,_⟩
 · rw[hq] at h1;cases h1
 · rw[hq] at h1;cases h1;exact⟨h2,by rw[h3];simp⟩
theorem OwnS.move {f:α→Value} {h0 h h':Hp} {s:Sl} {l:List α} (r:OwnS f h0 h s l) (hs:∀q,s.q=some q→h' q.b=h q.b):OwnS f h0 h' s l:=by
 refine⟨r.len,r.cap,?_⟩
 rcases r.own with h1|⟨q,c,t,h1,h2,h3,h4,h5⟩
 · exact .inl h1
 · exact .inr ⟨q,c,t,h1,h2,by rw[hs q h1];exact h3,h4,h5⟩
theorem OwnS.nilS (f:α→Value) (h0 h:Hp):OwnS f h0 h ⟨none,0,0,none⟩ []:=⟨rfl,Nat.le_refl _,.inl ⟨rfl,rfl⟩⟩
theorem OwnS.keep {f:α→Value} {h0 h h':Hp} {s:Sl} {l:List α} (r:OwnS f h0 h s l) (k:Keep h h'):OwnS f h0 h' s l :=
 r.move fun _ hq=>k _ (r.blk hq).2
theorem OwnS.new {f:α→Value} {h0 h:Hp} {l:List α} {t:TypeId} {b:Nat} (hb:h0 b=none) (n:Nat) (hn:n=l.length):OwnS f h0 (upd h b (.cells (l.map f).toArray t (0,0))) ⟨some ⟨b,0⟩,n,n,none⟩ l:=by
 subst hn
 exact⟨rfl,Nat.le_refl _,.inr ⟨_,_,_,rfl,hb,upd_same _ _ _,by simp,fun i hi=>by simp[hi]⟩⟩
theorem zRow_one {v:Value} (n m:Nat) (hm:m=n):zRow (if n=0 then #[] else #[v]) m=(List.replicate n v).toArray:=by
 subst hm
 unfold zRow
 apply Array.toList_inj.1
 apply List.ext_getElem
 · simp
 · intro i h1 h2
   have:i<m:=by simpa using h1
   have h0:m≠0:=by omega
   simp[h0,Nat.mod_one]
theorem hwr_one (c:Array Value) (o:Nat) (v:Value):hwr c o [v]=c.setIfInBounds o v:=rfl
theorem hwr_get (c:Array Value) (o:Nat) (l:List Value) (i:Nat):(hwr c o l)[i]? =if o≤i∧i<o+l.length∧i<c.size then l[i-o]? else c[i]?:=by
 induction l generalizing c o with
 | nil=>simp only[hwr,List.length_nil,Nat.add_zero];rw[if_neg (by omega)]
 | cons v l ih =>
   simp only[hwr,ih,List.length_cons,Array.size_setIfInBounds,Array.getElem?_setIfInBounds]
   by_cases h1:o+1≤i∧i<o+1+l.length∧i<c.size
   · rw[if_pos h1,if_pos (by omega)]
     rw[show i-o=(i-(o+1))+1 by omega];simp
   · rw[if_neg h1]
     by_cases h2:o=i
     · subst h2
       by_cases h3:o<c.size
       · simp[h3]
       · simp[h3]
     · simp only[h2,if_false]
       rw[if_neg (by omega)]
/-! ## append -/
structure RowT (P:Program) (T el:TypeId) (z:Value) (by_:Nat):Prop where
 und:P.underlying T=some (.slice el)
 sz:szT P el=some 1
 zr:zrT P el=some z
 bytes:(P.info? el).map (·.bytes)=some by_
 one:z.cells.size=1
theorem zeroCells_size (z:Array Value) (n:Nat):(Builtin.zeroCells z n).size=n*z.size:=by simp[Builtin.zeroCells]
theorem OwnS.app {P:Program} {T el:TypeId} {z:Value} {by_:Nat} (rt:RowT P T el z by_) {f:α→Value} (one:∀x,(f x).oneCell'=true) {h0 h:Hp} {s y:Sl} {l m:List α} (r:OwnS f h0 h s l) (ry:RdS f h y m)
   (h00:∀b,h b=none→h0 b=none) (room:(l.length+m.length)*by_≤140737488355328) (hby:0<by_) {K:Sl→Hp→Prop}
   (hk:∀s' h',OwnS f h0 h' s' (l++m)→(∀b,h b≠none→(∀q,s.q=some q→b≠q.b)→h' b=h b)→(∀q',s'.q=some q'→(∃q,s.q=some q∧q'.b=q.b)∨h q'.b=none)→(∀b,h' b=none→h b=none)→K s' h') :
   appK P T s (.s y) h K:=by
 unfold appK
 rw[rt.und]
 simp only[rt.sz,rt.zr,rt.bytes,lenOfK]
 have hr:=r.rd
 have hyl:=ry.len
 have hsl:=r.len
 refine⟨m.map f,by simp[hyl],by simp only[List.mem_map];rintro v ⟨x,_,rfl⟩;exact one x,?_,?_⟩
 · cases e:y.q with
   | none=>have:=ry.nil e;have:=ry.cap;simp;exact List.length_eq_zero_iff.1 (by omega)
   | some q=>exact rdL_map.2 (ry.rd q e)
 cases hc:decide (s.len+y.len≤s.cap) with
 | true =>
   rw[cond_true]
   have hc':s.len+y.len≤s.cap:=of_decide_eq_true hc
   rcases r.own with ⟨h1,h2⟩|⟨q,c,t,h1,h2,h3,h4,h5⟩
   · rw[h1]
     have hm:m=[]:=List.length_eq_zero_iff.1 (by omega)
     subst hm
     refine⟨rfl,hk _ _ ⟨by simp[hsl,hyl],by simp;omega,.inl ⟨h1,h2⟩⟩ (fun b _ _=>rfl) (fun q' hq'=>by have:=h1.symm.trans hq';cases this) (fun b hb=>hb)⟩
   · rw[h1]
     refine⟨c,t,h3,by simp;omega,hk _ _ ⟨by simp[hsl,hyl],hc',.inr ⟨q,_,_,rfl,h2,upd_same _ _ _,by rw[hwr_size];exact h4,fun i hi=>?_⟩⟩ (fun b _ hb=>upd_ne _ _ (hb q h1)) (fun q' hq'=> .inl ⟨q,h1,by cases hq';rfl⟩) (fun b hb=>?_)⟩
     · have hi':i<l.length+m.length:=by simpa using hi
       simp only[hwr_get,Nat.mul_one,List.length_map]
       by_cases e:i<l.length
       · rw[if_neg (by omega),h5 i e,List.getElem_append_left e]
       · rw[if_pos (by omega),List.getElem?_map,show q.o+i-(q.o+s.len)=i-l.length by omega,List.getElem?_eq_getElem (by omega),List.getElem_append_right (by omega)]
         rfl
     · by_cases e:b=q.b
       · subst e;rw[upd_same] at hb;cases hb
       · rwa [upd_ne _ _ e] at hb
 | false =>
   rw[cond_false]
   have hc':¬(s.len+y.len≤s.cap):=of_decide_eq_false hc
   have hg:=growslice_fits (need:=s.len+y.len) (old:=s.cap) (bytes:=by_) (by omega) (by rw[hsl,hyl];exact room)
   refine⟨hg,?_,?_⟩
   · have:s.len+y.len≤140737488355328:=by
       rw[hsl,hyl]
       exact Nat.le_trans (Nat.le_mul_of_pos_right _ hby) room
     omega
   refine⟨l.map f,by simp[hsl],by simp only[List.mem_map];rintro v ⟨x,_,rfl⟩;exact one x,?_,?_⟩
   · cases e:s.q with
     | none=>have:=hr.nil e;have:=hr.cap;simp;exact List.length_eq_zero_iff.1 (by omega)
     | some q=>exact rdL_map.2 (hr.rd q e)
   intro cp hcp b hb
   refine hk _ _ ⟨by simp[hsl,hyl],hcp,.inr ⟨⟨b,0⟩,_,_,rfl,h00 b hb,upd_same _ _ _,?_,fun i hi=>?_⟩⟩ (fun x hx _=>upd_ne _ _ (fun e=>hx (by rw[e];exact hb))) (fun q' hq'=> .inr (by cases hq';exact hb)) (fun x hx=>?_)
   · have h1:(l.map f).length+(m.map f).length≤cp:=by simp;omega
     simp only[Array.size_append,List.size_toArray,List.length_map,zeroCells_size]
     rw[rt.one]
     omega
   · have hi':i<l.length+m.length:=by simpa using hi
     rw[Array.getElem?_append_left (by simp;omega)]
     by_cases e:i<l.length
     · rw[Array.getElem?_append_left (by simp;omega),List.getElem_append_left e]
       simp[e]
     · rw[Array.getElem?_append_right (by simp;omega),List.getElem_append_right (by omega)]
       simp
       rw[List.getElem?_eq_getElem (by omega)];exact⟨_,rfl,rfl⟩
   · by_cases e:x=b
     · subst e;exact hb
     · rwa [upd_ne _ _ e] at hx
theorem OwnS.push {P:Program} {T el:TypeId} {z:Value} {by_:Nat} (rt:RowT P T el z by_) {f:α→Value} (one:∀x,(f x).oneCell'=true) {h0 h:Hp} {s:Sl} {l:List α} (r:OwnS f h0 h s l) (x:α) {t:TypeId}
   (h00:∀b,h b=none→h0 b=none) (room:(l.length+1)*by_≤140737488355328) (hby:0<by_) {K:Sl→Hp→Prop}
   (hk:∀s' h',OwnS f h0 h' s' (l++[x])→(∀b,h b≠none→(∀q,s.q=some q→b≠q.b)→h' b=h b)→(∀b,h' b=none→h b=none)→K s' h') :
   newK h (.cells #[f x] t) fun b h'=>appK P T s (.s ⟨some ⟨b,0⟩,1,1,none⟩) h' K:=by
 intro b hb
 have k3:Keep h (upd h b (.cells #[f x] t)):=(Keep.refl h).upd hb _
 have y:RdS f (upd h b (.cells #[f x] t)) ⟨some ⟨b,0⟩,1,1,none⟩ [x]:=(OwnS.new (f:=f) (h0:=h0) (l:=[x]) (h00 b hb) 1 rfl).rd
 refine OwnS.app rt one (r.keep k3) y (fun c hc=>h00 c (k3.free hc)) (by simpa using room) hby ?_
 intro s' h' o hoff _ hfr
 refine hk s' h' o (fun c hc hs=>?_) (fun c hc=>k3.free (hfr c hc))
 rw[hoff c (by rw[k3 c hc];exact hc) hs,k3 c hc]
theorem OwnS.push' {P:Program} {T el:TypeId} {z:Value} {by_:Nat} (rt:RowT P T el z by_) {f:α→Value} (one:∀x,(f x).oneCell'=true) {h0 h:Hp} {s:Sl} {l:List α} (r:OwnS f h0 h s l) (x:α) {t:TypeId}
   (h00:∀b,h b=none→h0 b=none) (room:(l.length+1)*by_≤140737488355328) (hby:0<by_) {K:Sl→Hp→Prop}
   (hk:∀s' h',OwnS f h0 h' s' (l++[x])→(∀b,h b≠none→(∀q,s.q=some q→b≠q.b)→h' b=h b)→(∀q',s'.q=some q'→(∃q,s.q=some q∧q'.b=q.b)∨h q'.b=none)→(∀b,h' b=none→h b=none)→K s' h') :
   newK h (.cells #[f x] t) fun b h'=>appK P T s (.s ⟨some ⟨b,0⟩,1,1,none⟩) h' K:=by
 intro b hb
 have k3:Keep h (upd h b (.cells #[f x] t)):=(Keep.refl h).upd hb _
 have y:RdS f (upd h b (.cells #[f x] t)) ⟨some ⟨b,0⟩,1,1,none⟩ [x]:=(OwnS.new (f:=f) (h0:=h0) (l:=[x]) (h00 b hb) 1 rfl).rd
 refine OwnS.app rt one (r.keep k3) y (fun c hc=>h00 c (k3.free hc)) (by simpa using room) hby ?_
 intro s' h' o hoff hw hfr
 refine hk s' h' o (fun c hc hs=>?_) (fun q' hq'=>(hw q' hq').imp id fun e=>k3.free e) (fun c hc=>k3.free (hfr c hc))
 rw[hoff c (by rw[k3 c hc];exact hc) hs,k3 c hc]
theorem OwnS.copy {P:Program} {T el:TypeId} {z:Value} {by_:Nat} (rt:RowT P T el z by_) {f:α→Value} (one:∀x,(f x).oneCell'=true) {h:Hp} {s:Sl} {l:List α} (r:RdS f h s l) {t:TypeId}
   (room:l.length*by_≤140737488355328) (hby:0<by_) {K:Sl→Hp→Prop}
   (hk:∀s' h',OwnS f h h' s' l→Keep h h'→K s' h') :
   newK h (.cells #[] t) fun b h'=>appK P T ⟨some ⟨b,0⟩,0,0,none⟩ (.s s) h' K:=by
 intro b hb
 have k1:Keep h (upd h b (.cells #[] t)):=(Keep.refl h).upd hb _
 have o0:OwnS f h (upd h b (.cells #[] t)) ⟨some ⟨b,0⟩,0,0,none⟩ []:=OwnS.new (l:=[]) hb 0 rfl
 refine OwnS.app rt one (l:=[]) o0 (r.keep k1) (fun x hx=>k1.free hx) (by simpa using room) hby ?_
 intro s' h' o hoff _ _
 refine hk s' h' (by simpa using o) fun x hx=>?_
 rw[hoff x (by rw[k1 x hx];exact hx) (fun q hq e=>by cases hq;exact hx (e▸hb)),k1 x hx]
end Go.Sh

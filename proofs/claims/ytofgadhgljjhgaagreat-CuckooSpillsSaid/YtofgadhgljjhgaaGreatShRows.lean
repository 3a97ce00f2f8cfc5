/- Rows whose elements are of several cells: rows that are read, rows that are owned. -/
import Derived.Test.YtofgadhgljjhgaaGreatShUse
namespace Go.Sh
open Go Go.RowKit
variable {α:Type}
theorem flat_length {f:α→List Value} {k:Nat} (hf:∀x,(f x).length=k) (l:List α):(l.flatMap f).length=l.length*k:=by
 induction l with
 | nil=>simp
 | cons x l ih=>simp[hf,ih,Nat.add_mul,Nat.add_comm]
theorem flat_get {f:α→List Value} {k:Nat} (hf:∀x,(f x).length=k) {l:List α} {i:Nat} (hi:i<l.length) {j:Nat} (hj:j<k):(l.flatMap f)[i*k+j]? =(f l[i])[j]?:=by
 have e:l.flatMap f=(l.take i).flatMap f++(f l[i]++(l.drop (i+1)).flatMap f):=by
   have e0:l=l.take i++l[i]::l.drop (i+1):=by rw[List.getElem_cons_drop,List.take_append_drop]
   conv=>lhs;rw[e0,List.flatMap_append,List.flatMap_cons]
 have e1:((l.take i).flatMap f).length=i*k:=by rw[flat_length hf,List.length_take,Nat.min_eq_left (by omega)]
 rw[e,List.getElem?_append_right (by omega),e1,Nat.add_sub_cancel_left,List.getElem?_append_left (by rw[hf];exact hj)]
theorem flat_at {f:α→List Value} {k:Nat} (hf:∀x,(f x).length=k) {h:Hp} {b o:Nat} {l:List α} (r:rdL h b o (l.flatMap f)) {i:Nat} (hi:i<l.length):rdL h b (o+i*k) (f l[i]):=by
 rw[rdL_iff] at r ⊢
 intro j hj
 have hj':j<k:=by rw[←hf];exact hj
 have hik:i*k+k≤l.length*k:=by
   have:=Nat.mul_le_mul_right k (show i+1≤l.length by omega)
   rw[Nat.add_mul] at this;omega
 have h1:i*k+j<(l.flatMap f).length:=by rw[flat_length hf];omega
 have h2:=r (i*k+j) h1
 have h3:=flat_get hf hi hj'
 rw[List.getElem?_eq_getElem h1,List.getElem?_eq_getElem hj] at h3
 rw[show o+i*k+j=o+(i*k+j) by omega,h2,h3]
/-! ## Rows that are read -/
structure RdM (f:α→List Value) (h:Hp) (s:Sl) (l:List α):Prop where
 len:s.len=l.length
 cap:s.len≤s.cap
 nil:s.q=none→s.cap=0
 rd:∀q,s.q=some q→rdL h q.b q.o (l.flatMap f)
theorem rdL_move {h h':Hp} {b:Nat} (e:h' b=h b) {o:Nat} {l:List Value} (r:rdL h b o l):rdL h' b o l:=by
 rw[rdL_iff] at r ⊢
 intro i hi;rw[hcell_same e];exact r i hi
theorem rdL_there {h:Hp} {b o:Nat} {l:List Value} (r:rdL h b o l) (hl:0<l.length):h b≠none:=by
 rw[rdL_iff] at r;exact hcell_some (r 0 hl)
theorem RdM.ptr {f:α→List Value} {h:Hp} {s:Sl} {l:List α} (r:RdM f h s l) (hl:0<l.length):∃q,s.q=some q:=by
 cases e:s.q with
 | some q=>exact⟨q,rfl⟩
 | none=>have:=r.nil e;have:=r.cap;have:=r.len;omega
theorem RdM.move {f:α→List Value} {h h':Hp} {s:Sl} {l:List α} (r:RdM f h s l) (hs:∀q,s.q=some q→0<l.length→h' q.b=h q.b):RdM f h' s l :=
 ⟨r.len,r.cap,r.nil,fun q hq=>by
   cases l with
   | nil=>trivial
   | cons x l=>exact rdL_move (hs q hq (by simp)) (r.rd q hq)⟩
theorem RdM.there {f:α→List Value} {k:Nat} (hf:∀x,(f x).length=k+1) {h:Hp} {s:Sl} {l:List α} (r:RdM f h s l) {q:Pt} (hq:s.q=some q) (hl:0<l.length):h q.b≠none :=
 rdL_there (r.rd q hq) (by rw[flat_length hf];exact Nat.mul_pos hl (by omega))
theorem RdM.keep {f:α→List Value} {k:Nat} (hf:∀x,(f x).length=k+1) {h h':Hp} {s:Sl} {l:List α} (r:RdM f h s l) (c:Keep h h'):RdM f h' s l :=
 r.move fun _ hq hl=>c _ (r.there hf hq hl)
theorem RdM.ix {f:α→List Value} {k:Nat} (hf:∀x,(f x).length=k) {h:Hp} {s:Sl} {l:List α} (r:RdM f h s l) {i:Nat} (hi:i<l.length) {K:Pt→Prop} (hk:∀q,s.q=some q→rdL h q.b (q.o+i*k) (f l[i])→K q) :
   ∃q,s.q=some q∧(0:Int)≤(i:Int)∧(i:Int)+1≤(s.len:Int)∧K q:=by
 obtain⟨q,hq⟩:=r.ptr (by omega)
 exact⟨q,hq,by omega,by rw[r.len];omega,hk q hq (flat_at hf (r.rd q hq) hi)⟩
/-! ## Rows that are owned -/
structure OwnM (k:Nat) (f:α→List Value) (h0 h:Hp) (s:Sl) (l:List α):Prop where
 len:s.len=l.length
 cap:s.len≤s.cap
 own:(s.q=none∧s.cap=0)∨∃q c t,s.q=some q∧h0 q.b=none∧h q.b=some (.cells c t (0,0))∧q.o+s.cap*k≤c.size∧∀i (hi:i<(l.flatMap f).length),c[q.o+i]? =some (l.flatMap f)[i]
theorem OwnM.rd {k:Nat} {f:α→List Value} {h0 h:Hp} {s:Sl} {l:List α} (r:OwnM k f h0 h s l):RdM f h s l:=by
 refine⟨r.len,r.cap,fun hn=>?_,fun q hq=>?_⟩
 · rcases r.own with ⟨_,h1⟩|⟨q,c,t,h1,_⟩
   · exact h1
   · rw[hn] at h1;cases h1
 · rcases r.own with ⟨h1,_⟩|⟨q',c,t,h1,_,h3,_,h5⟩
   · rw[hq] at h1;cases h1
   · rw[hq] at h1;cases h1
     rw[rdL_iff];intro i hi
     rw[hcell_cells h3];exact h5 i hi
theorem OwnM.blk {k:Nat} {f:α→List Value} {h0 h:Hp} {s:Sl} {l:List α} (r:OwnM k f h0 h s l) {q:Pt} (hq:s.q=some q):h0 q.b=none∧h q.b≠none:=by
 rcases r.own with ⟨h1,_⟩|⟨q',c,t,h1,h2,h3,_⟩
 · rw[hq] at h1;cases h1
 · rw[hq] at h1;cases h1;exact⟨h2,by rw[h3];simp⟩
theorem OwnM.move {k:Nat} {f:α→List Value} {h0 h h':Hp} {s:Sl} {l:List α} (r:OwnM k f h0 h s l) (hs:∀q,s.q=some q→h' q.b=h q.b):OwnM k f h0 h' s l:=by
 refine⟨r.len,r.cap,?_⟩
 rcases r.own with h1|⟨q,c,t,h1,h2,h3,h4,h5⟩
 · exact .inl h1
 · exact .inr ⟨q,c,t,h1,h2,by rw[hs q h1];exact h3,h4,h5⟩
theorem OwnM.base {k:Nat} {f:α→List Value} {h0 h1 h:Hp} {s:Sl} {l:List α} (r:OwnM k f h1 h s l) (hs:∀b,h1 b=none→h0 b=none):OwnM k f h0 h s l:=by
 refine⟨r.len,r.cap,?_⟩
 rcases r.own with h1|⟨q,c,t,h1,h2,h3,h4,h5⟩
 · exact .inl h1
 · exact .inr ⟨q,c,t,h1,hs _ h2,h3,h4,h5⟩
theorem OwnM.baseK {k:Nat} {f:α→List Value} {h0 h1 h:Hp} {s:Sl} {l:List α} (r:OwnM k f h1 h s l) (c:Keep h0 h1):OwnM k f h0 h s l:=r.base fun _ hb=>c.free hb
theorem OwnM.nilS (k:Nat) (f:α→List Value) (h0 h:Hp):OwnM k f h0 h ⟨none,0,0,none⟩ []:=⟨rfl,Nat.le_refl _,.inl ⟨rfl,rfl⟩⟩
theorem OwnM.keep {k:Nat} {f:α→List Value} {h0 h h':Hp} {s:Sl} {l:List α} (r:OwnM k f h0 h s l) (c:Keep h h'):OwnM k f h0 h' s l :=
 r.move fun _ hq=>c _ (r.blk hq).2
theorem OwnM.new {k:Nat} {f:α→List Value} (hf:∀x,(f x).length=k) {h0 h:Hp} {l:List α} {t:TypeId} {b:Nat} (hb:h0 b=none) (n:Nat) (hn:n=l.length) {c:Array Value} (hc:c=(l.flatMap f).toArray) :
   OwnM k f h0 (upd h b (.cells c t (0,0))) ⟨some ⟨b,0⟩,n,n,none⟩ l:=by
 subst hn;subst hc
 refine⟨rfl,Nat.le_refl _,.inr ⟨_,_,_,rfl,hb,upd_same _ _ _,?_,fun i hi=>?_⟩⟩
 · simp[flat_length hf]
 · simp
structure RowM (P:Program) (T el:TypeId) (k:Nat) (z:Value) (by_:Nat):Prop where
 und:P.underlying T=some (.slice el)
 sz:szT P el=some k
 zr:zrT P el=some z
 bytes:(P.info? el).map (·.bytes)=some by_
 size:z.cells.size=k
theorem OwnM.app {P:Program} {T el:TypeId} {k:Nat} {z:Value} {by_:Nat} (rt:RowM P T el k z by_) {f:α→List Value} (hf:∀x,(f x).length=k) (one:∀x,∀v∈f x,v.oneCell'=true) {h0 h:Hp} {s y:Sl} {l m:List α} (r:OwnM k f h0 h s l) (ry:RdM f h y m)
   (h00:∀b,h b=none→h0 b=none) (room:(l.length+m.length)*by_≤140737488355328) (hby:0<by_) {K:Sl→Hp→Prop}
   (hk:∀s' h',OwnM k f h0 h' s' (l++m)→(∀b,h b≠none→(∀q,s.q=some q→b≠q.b)→h' b=h b)→(∀q',s'.q=some q'→(∃q,s.q=some q∧q'.b=q.b)∨h q'.b=none)→(∀b,h' b=none→h b=none)→K s' h') :
   appK P T s (.s y) h K:=by
 unfold appK
 rw[rt.und]
 simp only[rt.sz,rt.zr,rt.bytes,lenOfK]
 have hr:=r.rd
 have hyl:=ry.len
 have hsl:=r.len
 have one':∀(l:List α),∀v∈l.flatMap f,v.oneCell'=true:=fun l v hv=>by
   obtain⟨x,_,hx⟩:=List.mem_flatMap.1 hv
   exact one x v hx
 refine⟨m.flatMap f,by rw[flat_length hf,hyl],one' m,?_,?_⟩
 · cases e:y.q with
   | none=>have:=ry.nil e;have:=ry.cap;obtain rfl:m=[]:=List.length_eq_zero_iff.1 (by omega);rfl
   | some q=>exact ry.rd q e
 cases hc:decide (s.len+y.len≤s.cap) with
 | true =>
   rw[cond_true]
   have hc':s.len+y.len≤s.cap:=of_decide_eq_true hc
   rcases r.own with ⟨h1,h2⟩|⟨q,c,t,h1,h2,h3,h4,h5⟩
   · rw[h1]
     obtain rfl:m=[]:=List.length_eq_zero_iff.1 (by omega)
     refine⟨rfl,hk _ _ ⟨by simp[hsl,hyl],by simp;omega,.inl ⟨h1,h2⟩⟩ (fun b _ _=>rfl) (fun q' hq'=>by have:=h1.symm.trans hq';cases this) (fun b hb=>hb)⟩
   · rw[h1]
     have hmul:s.len*k+y.len*k≤s.cap*k:=by rw[←Nat.add_mul];exact Nat.mul_le_mul_right k hc'
     refine⟨c,t,h3,by rw[flat_length hf];show q.o+s.len*k+m.length*k≤c.size;rw[←hyl];omega,hk _ _ ⟨by simp[hsl,hyl],hc',.inr ⟨q,_,_,rfl,h2,upd_same _ _ _,by rw[hwr_size];exact h4,fun i hi=>?_⟩⟩ (fun b _ hb=>upd_ne _ _ (hb q h1)) (fun q' hq'=> .inl ⟨q,h1,by cases hq';rfl⟩) (fun b hb=>?_)⟩
     · have hi':i<l.length*k+m.length*k:=by rw[flat_length hf,List.length_append,Nat.add_mul] at hi;exact hi
       have fl:=flat_length hf l
       simp only[List.flatMap_append,hwr_get,flat_length hf]
       by_cases e:i<l.length*k
       · rw[if_neg (by rw[hsl];omega),h5 i (by omega),List.getElem_append_left (by omega)]
       · rw[if_pos (by rw[hsl,←hyl] at *;omega),List.getElem_append_right (by omega),hsl,show q.o+i-(q.o+l.length*k)=i-l.length*k by omega,List.getElem?_eq_getElem (by rw[flat_length hf];omega)]
         congr 2
         omega
     · by_cases e:b=q.b
       · subst e;rw[upd_same] at hb;cases hb
       · rwa [upd_ne _ _ e] at hb
 | false =>
   rw[cond_false]
   have hc':¬(s.len+y.len≤s.cap):=of_decide_eq_false hc
   have hg:=growslice_fits (need:=s.len+y.len) (old:=s.cap) (bytes:=by_) (by omega) (by rw[hsl,hyl];exact room)
   refine⟨hg,?_,?_⟩
   · have:s.len+y.len≤140737488355328:=by
       rw[hsl,hyl]
       exact Nat.le_trans (Nat.le_mul_of_pos_right _ hby) room
     omega
   refine⟨l.flatMap f,by rw[flat_length hf,hsl],one' l,?_,?_⟩
   · cases e:s.q with
     | none=>have:=hr.nil e;have:=hr.cap;obtain rfl:l=[]:=List.length_eq_zero_iff.1 (by omega);rfl
     | some q=>exact hr.rd q e
   intro cp hcp b hb
   have hmul:s.len*k+y.len*k≤cp*k:=by rw[←Nat.add_mul];exact Nat.mul_le_mul_right k hcp
   refine hk _ _ ⟨by simp[hsl,hyl],hcp,.inr ⟨⟨b,0⟩,_,_,rfl,h00 b hb,upd_same _ _ _,?_,fun i hi=>?_⟩⟩ (fun x hx _=>upd_ne _ _ (fun e=>hx (by rw[e];exact hb))) (fun q' hq'=> .inr (by cases hq';exact hb)) (fun x hx=>?_)
   · simp only[Array.size_append,List.size_toArray,flat_length hf,zeroCells_size]
     rw[rt.size,Nat.sub_mul,Nat.add_mul,←hsl,←hyl]
     omega
   · have hi':i<(l.flatMap f).length+(m.flatMap f).length:=by rw[List.flatMap_append,List.length_append] at hi;exact hi
     rw[Array.getElem?_append_left (by simp only[Array.size_append,List.size_toArray];omega)]
     simp only[Nat.zero_add,List.flatMap_append]
     rw[List.append_toArray,List.getElem?_toArray,List.getElem?_eq_getElem (by rw[List.length_append];exact hi')]
   · by_cases e:x=b
     · subst e;exact hb
     · rwa [upd_ne _ _ e] at hx
theorem OwnM.push {P:Program} {T el:TypeId} {k:Nat} {z:Value} {by_:Nat} (rt:RowM P T el k z by_) {f:α→List Value} (hf:∀x,(f x).length=k) (one:∀x,∀v∈f x,v.oneCell'=true) {h0 h:Hp} {s:Sl} {l:List α} (r:OwnM k f h0 h s l) (m:List α) {t:TypeId} {c:Array Value} (hc:c=(m.flatMap f).toArray) {n:Nat} (hn:n=m.length)
   (h00:∀b,h b=none→h0 b=none) (room:(l.length+m.length)*by_≤140737488355328) (hby:0<by_) {K:Sl→Hp→Prop}
   (hk:∀s' h',OwnM k f h0 h' s' (l++m)→(∀b,h b≠none→(∀q,s.q=some q→b≠q.b)→h' b=h b)→(∀q',s'.q=some q'→(∃q,s.q=some q∧q'.b=q.b)∨h q'.b=none)→(∀b,h' b=none→h b=none)→K s' h') :
   newK h (.cells c t) fun b h'=>appK P T s (.s ⟨some ⟨b,0⟩,n,n,none⟩) h' K:=by
 intro b hb
 have k3:Keep h (upd h b (.cells c t)):=(Keep.refl h).upd hb _
 have y:RdM f (upd h b (.cells c t)) ⟨some ⟨b,0⟩,n,n,none⟩ m:=(OwnM.new hf (h0:=h0) (h00 b hb) n hn hc).rd
 refine OwnM.app rt hf one (r.keep k3) y (fun c hc=>h00 c (k3.free hc)) room hby ?_
 intro s' h' o hoff hw hfr
 refine hk s' h' o (fun c hc hs=>?_) (fun q' hq'=>(hw q' hq').imp id fun e=>k3.free e) (fun c hc=>k3.free (hfr c hc))
 rw[hoff c (by rw[k3 c hc];exact hc) hs,k3 c hc]
end Go.Sh

/- Chapters 2, 3: a memory that is made, and told of; a tape. -/
import Derived.Test.YtofgadhgljjhgaaGreatMem
import Derived.Test.YtofgadhgljjhgaaGreatArr
import Derived.Test.YtofgadhgljjhgaaGreatEvC
namespace Go.Proofs.Tryz
open Go Go.Sh Go.RowKit
set_option maxRecDepth 8000
theorem index_no {h:Hp} {s:Sl} {l:List Int} (r:RdS iv h s l) (hl:l.length≤1000000) {g:FuncId} (hp:∀x∈l,PureC prog g [iv x] (.bool false)) :
   callK prog 109 [vs s,.func (.func g) #[] #[]] h fun v h'=>v= .int .i64 (-1)∧Keep h h':=by
 refine c109 s _ ?_
 unfold G109
 refine⟨fun s1 v n i h1 k=>s1=s∧v= .func (.func g) #[] #[]∧n=s.len∧∃j:Nat,i=j∧Keep h h1∧k=s.len-j,⟨_,rfl,rfl,rfl,0,rfl,Keep.refl h,rfl⟩,?_⟩
 rintro s1 v n i h1 k ⟨rfl,rfl,rfl,j,rfl,k1,rfl⟩
 have:=r.len
 refine ifD (fun hlt=>?_) fun _=>⟨rfl,k1⟩
 have hj:j<l.length:=by omega
 refine(r.keep k1).ix hj fun q _ hc=>⟨_,hc,?_⟩
 refine PureC.toV (cs:=[]) (hp _ (List.getElem_mem hj)) fun h2 k2=>⟨_,rfl,ifB_neg rfl ⟨_,?_,rfl,rfl,rfl,j+1,w64_id (by omega) (by omega),k1.trans k2,rfl⟩⟩
 omega
theorem contains_no {h:Hp} {s:Sl} {l:List Int} (r:RdS iv h s l) (hl:l.length≤1000000) {g:FuncId} (hp:∀x∈l,PureC prog g [iv x] (.bool false)) :
   callK prog 71 [vs s,.func (.func g) #[] #[]] h fun v h'=>v= .bool false∧Keep h h':=by
 refine c71 s _ ?_
 refine(index_no r hl hp).mono ?_
 rintro _ h1 ⟨rfl,k1⟩
 exact⟨_,rfl,rfl,k1⟩
theorem mem_wrong {n:Nat} (h1:1≤n) (h2:n≤4096):PureC prog 70 [iv n] (.bool false):=by
 intro h
 refine c70 (n:Int) ?_
 unfold G70
 refine ifB_neg (decide_eq_false (by omega)) ⟨?_,Keep.refl h⟩
 have:(bif false then true else decide ((4096:Int)<(n:Int)))=false:=decide_eq_false (by omega)
 rw[this]
theorem zRow_12 {n j k:Nat} (hj:j<n) (hk:k<12):(zRow (if n*12=0 then #[] else Value.cells (.agg #[.int .u64 0,.int .u64 0,.int .u64 0,.int .u64 0,.int .u64 0,.int .u64 0,.int .u64 0,.int .u64 0,.int .u64 0,.int .u64 0,.int .u64 0,.int .u64 0])) (n*12))[j*12+k]? =some (vu cel0[k]):=by
 rw[if_neg (by omega)]
 have hc:Value.cells (.agg #[.int .u64 0,.int .u64 0,.int .u64 0,.int .u64 0,.int .u64 0,.int .u64 0,.int .u64 0,.int .u64 0,.int .u64 0,.int .u64 0,.int .u64 0,.int .u64 0])=#[vu 0,vu 0,vu 0,vu 0,vu 0,vu 0,vu 0,vu 0,vu 0,vu 0,vu 0,vu 0]:=by rfl
 rw[hc]
 unfold zRow
 have e:(j*12+k)%12=k:=by omega
 have hlt:j*12+k<n*12:=by omega
 simp[hlt,e]
 have:k=0∨k=1∨k=2∨k=3∨k=4∨k=5∨k=6∨k=7∨k=8∨k=9∨k=10∨k=11:=by omega
 rcases this with rfl|rfl|rfl|rfl|rfl|rfl|rfl|rfl|rfl|rfl|rfl|rfl<;>rfl
theorem zRow_size (z:Array Value) (n:Nat):(zRow z n).size=n:=by simp[zRow]
def regL (l bs:List Nat):List Sl:=(List.range bs.length).map fun j=>⟨some ⟨bs.getD j 0,0⟩,l.getD j 0,l.getD j 0,none⟩
theorem regL_snoc (l bs:List Nat) (b:Nat):regL l (bs++[b])=regL l bs++[⟨some ⟨b,0⟩,l.getD bs.length 0,l.getD bs.length 0,none⟩]:=by
 unfold regL
 rw[List.length_append,List.length_singleton,List.range_succ,List.map_append,List.map_singleton]
 congr 1
 · refine List.map_congr_left fun j hj=>?_
   have hj:=List.mem_range.1 hj
   have e:(bs++[b]).getD j 0=bs.getD j 0:=by simp[List.getD,List.getElem?_append_left hj]
   rw[e]
 · have e:(bs++[b]).getD bs.length 0=b:=by simp[List.getD]
   rw[e]
theorem rtReg:RowT prog 51 143 (.slice none 0 0) 24:=⟨by kernel_rfl,by kernel_rfl,by kernel_rfl,by kernel_rfl,rfl⟩
theorem vs_one (x:Sl):(vs x).oneCell'=true:=rfl
theorem mem_new {h:Hp} {s:Sl} {l:List Nat} (r:RdS iv h s (l.map fun n:Nat=>(n:Int))) (h1:1≤l.length) (h2:l.length≤16) (hb:∀n∈l,1≤n∧n≤4096) :
   callK prog 34 [vs s] h fun v h'=>∃(T:TypeId) (m:MS),v= .tuple #[vp ⟨m.b,0⟩,.int .i64 0]∧MemR T m (fun _ _=>cel0) [] ⟨none,0,0,none⟩ h'∧m.nr=l.length∧(∀i,m.rn i=l.getD i 0)∧(∀x,MF m ⟨none,0,0,none⟩ x→h x=none)∧Keep h h':=by
 have hlen:=r.len
 rw[List.length_map] at hlen
 refine c34 _ ?_
 unfold G34
 refine ifB_neg (decide_eq_false (by omega)) (ifB_neg (decide_eq_false (by omega)) ?_)
 refine(contains_no r (by simp;omega) (fun x hx=>?_)).mono ?_
 · obtain⟨n,hn,rfl⟩:=List.mem_map.1 hx
   exact mem_wrong (hb n hn).1 (hb n hn).2
 rintro _ g1 ⟨rfl,k1⟩
 refine⟨_,rfl,ifB_neg rfl (newC fun b1 g2 f1 e1 k2=>?_)⟩
 have hb1:h b1=none:=k1.free f1
 let good:List Nat→Hp→Prop:=fun bs g=>∀j,j<bs.length→h (bs.getD j 0)=none∧∃c t,g (bs.getD j 0)=some (.cells c t (0,0))∧c.size=l.getD j 0*12∧∀a,a<l.getD j 0→∀k (hk:k<12),c[a*12+k]? =some (vu cel0[k])
 refine⟨fun o1 s1 n1 n2 g kk=>o1=some ⟨b1,0⟩∧s=s1∧n1=(l.length:Nat)∧∃(i:Nat) (rs:Sl) (bs:List Nat),n2=i∧i≤l.length∧kk=l.length-i∧bs.length=i∧g b1=some (.cells #[vs rs,vs ⟨none,0,0,none⟩,.bool false] 142 (0,0))∧OwnS vs h g rs (regL l bs)∧good bs g∧bs.Nodup∧b1∉bs∧(∀q,rs.q=some q→q.b≠b1∧q.b∉bs)∧Keep h g,
   ⟨l.length,rfl,rfl,by rw[hlen],0,_,[],rfl,by omega,rfl,rfl,e1,OwnS.nilS ..,fun j hj=>absurd hj (by simp),List.nodup_nil,by simp,(by intro q hq;cases hq),k1.trans k2⟩,?_⟩
 rintro o1 s1 n1 n2 g kk ⟨rfl,rfl,rfl,i,rs,bs,rfl,hi,rfl,rfl,eb,ow,gd,nd,nb1,nrs,kg⟩
 refine ifD (fun hlt=>?_) fun hge=>?_
 · have hi':bs.length<l.length:=by omega
   have hn:=hb _ (List.getElem_mem hi')
   have hg:l.getD bs.length 0=l[bs.length]:=by simp[List.getD,hi']
   rw[←hg] at hn
   refine(r.keep kg).ix (i:=bs.length) (by simpa using hi') fun q _ hc=>?_
   have e:(l.map fun n:Nat=>(n:Int))[bs.length]'(by simpa using hi')=((l.getD bs.length 0:Nat):Int):=by rw[hg];simp
   rw[e] at hc
   generalize hnn:l.getD bs.length 0=n at *
   refine⟨_,hc,_,rfl,_,rd1 eb rfl,by omega,by omega,by omega,by omega,newC fun b2 g3 f2 e2 k3=>?_⟩
   have ei:Int.toNat (n:Int)=n:=by omega
   rw[ei]
   rw[ei] at e2
   have hb2:h b2=none:=kg.free f2
   have ow3:=ow.keep k3
   refine OwnS.push' rtReg vs_one ow3 ⟨some ⟨b2,0⟩,n,n,none⟩ (fun b hb=>kg.free (k3.free hb)) (by simp[regL];omega) (by decide) ?_
   intro rs' g4 ow4 off4 w4 fr4
   have eb3:=k3.get eb
   have n21:b2≠b1:=fun e=>by rw[e,eb] at f2;cases f2
   have eb4:g4 b1=_:=(off4 b1 (by rw[eb3];simp) fun q hq e=>(nrs q hq).1 e.symm).trans eb3
   have kg4:Keep h g4:=fun x hx=>by
     have h3:g3 x≠none:=by rw[k3 x (by rw[kg x hx];exact hx),kg x hx];exact hx
     rw[off4 x h3 fun q hq e=>hx (e▸(ow.blk hq).1),k3 x (by rw[kg x hx];exact hx),kg x hx]
   have nrs':∀q,rs'.q=some q→q.b≠b1∧q.b≠b2∧q.b∉bs:=fun q hq=>by
     rcases w4 q hq with ⟨p,hp,e⟩|hn
     · rw[e];exact⟨(nrs p hp).1,fun e=>(ow.blk hp).2 (e▸f2),(nrs p hp).2⟩
     · refine⟨fun e=>(by rw[e,eb3] at hn;cases hn),fun e=>(by rw[e,e2] at hn;cases hn),fun hm=>?_⟩
       obtain⟨j,hj,e⟩:=List.getElem_of_mem hm
       obtain⟨_,c,t,hc,_⟩:=gd j hj
       have:bs.getD j 0=q.b:=by simp[List.getD,hj,e]
       rw[this] at hc
       rw[k3.get hc] at hn;cases hn
   refine⟨_,rfl,stN kg4 hb1 eb4 (by simp) fun g5 kg5 e5 o5=>⟨l.length-(bs.length+1),by omega,rfl,rfl,rfl,bs.length+1,rs',bs++[b2],w64_id (by omega) (by omega),by omega,rfl,by simp,by rw[e5];rfl,?_,?_,?_,?_,?_,kg5⟩⟩
   · rw[regL_snoc,hnn]
     exact ow4.move fun q hq=>o5 _ (nrs' q hq).1
   · intro j hj
     by_cases c:j<bs.length
     · have e:(bs++[b2]).getD j 0=bs.getD j 0:=by simp[List.getD,List.getElem?_append_left c]
       rw[e]
       obtain⟨h0,cc,t,hc,a1,a2⟩:=gd j c
       have hm:bs.getD j 0∈bs:=by simp[List.getD,c]
       refine⟨h0,cc,t,?_,a1,a2⟩
       rw[o5 _ fun e=>nb1 (e▸hm),off4 _ (by rw[k3.get hc];simp) fun q hq e=>(nrs q hq).2 (e▸hm),k3.get hc]
     · have ej:j=bs.length:=by simp at hj;omega
       subst ej
       have e:(bs++[b2]).getD bs.length 0=b2:=by simp[List.getD]
       rw[e,hnn]
       refine⟨hb2,_,_,by rw[o5 _ n21,off4 _ (by rw[e2];simp) fun q hq e=>(ow.blk hq).2 (e▸f2),e2],?_,fun a ha k hk=>zRow_12 ha hk⟩
       exact zRow_size _ _
   · rw[List.nodup_append]
     refine⟨nd,by simp,fun a ha b hb e=>?_⟩
     simp at hb;subst hb;subst e
     obtain⟨j,hj,e⟩:=List.getElem_of_mem ha
     obtain⟨_,c,t,hc,_⟩:=gd j hj
     have:bs.getD j 0=a:=by simp[List.getD,hj,e]
     rw[this,f2] at hc;cases hc
   · intro hm
     rcases List.mem_append.1 hm with h|h
     · exact nb1 h
     · simp at h;exact n21 h.symm
   · intro q hq
     refine⟨(nrs' q hq).1,fun hm=>?_⟩
     rcases List.mem_append.1 hm with h|h
     · exact(nrs' q hq).2.2 h
     · simp at h;exact(nrs' q hq).2.1 h
 · have hn:bs.length=l.length:=by omega
   have rl:=ow.len
   simp only[regL,List.length_map,List.length_range] at rl
   refine⟨_,⟨b1,rs,fun j=>bs.getD j 0,fun j=>l.getD j 0,l.length⟩,rfl,⟨eb,OwnM.nilS ..,⟨(show 0<l.length by omega),h2⟩,(show rs.len=l.length by omega),?_,?_,?_,?_,?_,(by intro q hq;cases hq),?_⟩,rfl,fun _=>rfl,?_,kg⟩
   · intro j hj
     have hj:j<l.length:=hj
     obtain⟨q,hq,e⟩:=ow.rd.at (i:=j) (by simp[regL];omega)
     refine⟨q,hq,?_⟩
     rw[e]
     simp[regL]
   · intro j hj
     have hj:j<l.length:=hj
     obtain⟨_,c,t,a1,a2,a3⟩:=gd j (by omega)
     exact⟨c,t,a1,a2,a3⟩
   · intro j hj
     have hj:j<l.length:=hj
     have:l.getD j 0=l[j]:=by simp[List.getD,hj]
     show l.getD j 0≤4096
     rw[this];exact(hb _ (List.getElem_mem hj)).2
   · intro j hj e
     have hj:j<l.length:=hj
     have hm:bs.getD j 0∈bs:=by simp[List.getD,show j<bs.length by omega]
     exact nb1 ((show bs.getD j 0=b1 from e)▸hm)
   · intro j k hj hk e
     have hj:j<l.length:=hj
     have hk:k<l.length:=hk
     exact nodup_getD nd (by omega) (by omega) e
   · intro q hq
     refine⟨(nrs q hq).1,fun j hj e=>?_,(by intro p hp;cases hp)⟩
     have hj:j<l.length:=hj
     have hm:bs.getD j 0∈bs:=by simp[List.getD,show j<bs.length by omega]
     exact(nrs q hq).2 ((show q.b=bs.getD j 0 from e)▸hm)
   · rintro x (rfl|⟨q,hq,_⟩|⟨j,hj,rfl⟩|⟨q,hq,rfl⟩)
     · exact hb1
     · cases hq
     · have hj:j<l.length:=hj
       exact(gd j (by omega)).1
     · exact(ow.blk hq).1
end Go.Proofs.Tryz

/- Looks at memory: rows of events; whole tables, ways down trees. -/
import Derived.Test.YtofgadhgljjhgaaGreatStoC
namespace Go.Proofs.Tryz
open Go Go.Sh Go.RowKit
set_option maxRecDepth 8000
structure Ev where
 r:Int
 a:Int
 w:Bool
 deriving DecidableEq
def evc (e:Ev):List Value:=[.int .i64 e.r,.int .i64 e.a,.bool e.w]
theorem evc3 (e:Ev):(evc e).length=3:=rfl
theorem evc_one (e:Ev):∀v∈evc e,v.oneCell'=true:=by simp[evc,Value.oneCell']
theorem rtE:RowM prog 49 140 3 (.agg #[.int .i64 0,.int .i64 0,.bool false]) 24:=⟨by kernel_rfl,by kernel_rfl,by kernel_rfl,by kernel_rfl,rfl⟩
def reads (reg:Int) (n:Nat):List Ev:=(List.range n).map fun (i:Nat)=>⟨reg,(i:Int),false⟩
theorem reads_length (reg:Int) (n:Nat):(reads reg n).length=n:=by simp[reads]
theorem reads_succ (reg:Int) (n:Nat):reads reg (n+1)=reads reg n++[⟨reg,n,false⟩]:=by simp[reads,List.range_succ]
def writes (reg:Int) (n:Nat):List Ev:=(List.range n).flatMap fun (i:Nat)=>[⟨reg,(i:Int),false⟩,⟨reg,(i:Int),true⟩]
theorem writes_succ (reg:Int) (n:Nat):writes reg (n+1)=writes reg n++[⟨reg,n,false⟩,⟨reg,n,true⟩]:=by simp[writes,List.range_succ]
theorem writes_length (reg:Int) (n:Nat):(writes reg n).length=2*n:=by
 induction n with
 | zero=>rfl
 | succ n ih=>rw[writes_succ,List.length_append,ih];simp;omega
theorem keep_app {α:Type} {k:Nat} {f:α→List Value} {h0 h h':Hp} {s:Sl} {l:List α} (o:OwnM k f h0 h s l) (k0:Keep h0 h) (hf:∀b,h b≠none→(∀q,s.q=some q→b≠q.b)→h' b=h b):Keep h0 h':=fun b hb=>by
 rw[hf b (by rw[k0 b hb];exact hb) (fun p hp e=>hb (e▸(o.blk hp).1)),k0 b hb]
/-! ## ways down a tree -/
def nodeN (k leaf d:Nat):Nat:=2 ^ d-1+leaf/2 ^ (k-d)
theorem path_has {k leaf:Nat} (hk:k≤10) (hl:leaf<2 ^ k):PureC prog 165 [.int .i64 (2 ^ k),.int .i64 leaf] (.bool true):=by
 intro h
 refine c165 _ _ ?_
 unfold G165
 refine(path_right hk).to fun h1 k1=>⟨_,rfl,ifB_pos rfl (ifB_pos (by simp) ⟨?_,k1⟩)⟩
 have e:((2 ^ k:Nat):Int)=2 ^ k:=by simp
 rw[cond_true,decide_eq_true (by omega)]
theorem path_node {k leaf d:Nat} (hk:k≤10) (hl:leaf<2 ^ k) (hd:d≤k):PureC prog 166 [.int .i64 (2 ^ k),.int .i64 leaf,.int .i64 d] (.int .i64 (nodeN k leaf d)):=by
 intro h
 refine c166 _ _ _ ?_
 unfold G166
 refine(path_depth hk).to fun h1 k1=>⟨_,rfl,?_⟩
 refine(path_has hk hl).to fun h2 k2=>⟨_,rfl,ifB_neg rfl (ifB_neg (by simp) (ifB_neg (by rw[w64_id (by omega) (by omega)];simp;omega) ?_))⟩
 rw[w64_id (n:=(k:Int)-d) (by omega) (by omega)]
 refine⟨by omega,by omega,?_,k1.trans k2⟩
 have e1:min (d:Int).toNat 64=d:=by omega
 have e2:min ((k:Int)-d).toNat 64=k-d:=by omega
 have e3:(leaf:Int).fdiv (2 ^ (k-d))=((leaf/2 ^ (k-d):Nat):Int):=by
   have e:((2 ^ (k-d):Nat):Int)=2 ^ (k-d):=by simp
   rw[←e,Int.fdiv_eq_ediv_of_nonneg _ (Int.natCast_nonneg _)];rfl
 have hb:=pow_bds (k:=d) (by omega)
 have hb2:=pow_bds hk
 have e4:((2 ^ d:Nat):Int)=2 ^ d:=by simp
 have e5:((2 ^ k:Nat):Int)=2 ^ k:=by simp
 have hle:leaf/2 ^ (k-d)≤leaf:=Nat.div_le_self _ _
 rw[e1,e2,e3,Int.one_mul,w64_id (n:=2 ^ d) (by omega) (by omega),w64_id (n:=2 ^ d-1) (by omega) (by omega)]
 unfold nodeN
 generalize leaf/2 ^ (k-d)=z at *
 have:1≤2 ^ d:=Nat.pow_pos (by decide)
 rw[w64_id (by omega) (by omega),show(2:Int) ^ d-1+(z:Int)=((2 ^ d-1+z:Nat):Int) by omega]
def pathL (k leaf n:Nat):List Int:=(List.range n).map fun d=>(nodeN k leaf d:Int)
theorem pathL_succ (k leaf n:Nat):pathL k leaf (n+1)=pathL k leaf n++[(nodeN k leaf n:Int)]:=by simp[pathL,List.range_succ]
theorem pathL_length (k leaf n:Nat):(pathL k leaf n).length=n:=by simp[pathL]
theorem keep_appS {α:Type} {f:α→Value} {h0 h h':Hp} {s:Sl} {l:List α} (o:OwnS f h0 h s l) (k0:Keep h0 h) (hf:∀b,h b≠none→(∀q,s.q=some q→b≠q.b)→h' b=h b):Keep h0 h':=fun b hb=>by
 rw[hf b (by rw[k0 b hb];exact hb) (fun p hp e=>hb (e▸(o.blk hp).1)),k0 b hb]
theorem path_path {k leaf:Nat} (hk:k≤10) (hl:leaf<2 ^ k) (h:Hp):callK prog 146 [.int .i64 (2 ^ k),.int .i64 leaf] h fun v h'=>∃s,v=vs s∧OwnS iv h h' s (pathL k leaf (k+1))∧Keep h h':=by
 refine c146 _ _ ?_
 unfold G146
 refine(path_has hk hl).to fun h1 k1=>⟨_,rfl,ifB_neg rfl ?_⟩
 refine(path_depth hk).to fun h2 k2=>⟨_,rfl,?_⟩
 rw[w64_id (n:=(k:Int)+1) (by omega) (by omega)]
 refine⟨fun a b s l i h3 m=>a=2 ^ k∧b=leaf∧l=(k:Int)+1∧∃j:Nat,i=j∧j≤k+1∧OwnS iv h h3 s (pathL k leaf j)∧Keep h h3∧m=k+1-j,⟨_,rfl,rfl,rfl,0,rfl,Nat.zero_le _,OwnS.nilS _ _ _,k1.trans k2,rfl⟩,?_⟩
 rintro a b s l i h3 m ⟨rfl,rfl,rfl,j,rfl,hj,oj,k3,rfl⟩
 refine ifD (fun hlt=>?_) fun hge=>?_
 · refine(path_node hk hl (show j≤k by omega)).to fun h4 k4=>⟨_,rfl,?_⟩
   refine OwnS.push rtI iv_one (oj.keep k4) (nodeN k leaf j:Int) (fun b hb=>k3.free (k4.free hb)) (by rw[pathL_length];omega) (by decide) ?_
   intro s' h5 o5 f5 _
   exact⟨_,by omega,rfl,rfl,rfl,j+1,w64_id (by omega) (by omega),by omega,by rw[pathL_succ];exact o5,keep_appS (oj.keep k4) (k3.trans k4) f5,rfl⟩
 · have:j=k+1:=by omega
   subst this;exact⟨_,rfl,oj,k3⟩
/-! ## the cells of a way and of the stash -/
structure Sp where
 r:Int
 a:Int
def spc (x:Sp):List Value:=[.int .i64 x.r,.int .i64 x.a]
theorem spc2 (x:Sp):(spc x).length=2:=rfl
theorem spc_one (x:Sp):∀v∈spc x,v.oneCell'=true:=by simp[spc,Value.oneCell']
theorem rtSp:RowM prog 225 228 2 (.agg #[.int .i64 0,.int .i64 0]) 16:=⟨by kernel_rfl,by kernel_rfl,by kernel_rfl,by kernel_rfl,rfl⟩
def bktL (first:Int) (node:Nat) (s:Int) (n:Nat):List Sp:=(List.range n).map fun (i:Nat)=>⟨first,(node:Int)*s+i⟩
theorem bktL_succ (first:Int) (node:Nat) (s:Int) (n:Nat):bktL first node s (n+1)=bktL first node s n++[⟨first,(node:Int)*s+n⟩]:=by simp[bktL,List.range_succ]
def treeL (k:Nat) (s:Int) (first:Int) (leaf n:Nat):List Sp:=(List.range n).flatMap fun d=>bktL first (nodeN k leaf d) s s.toNat
theorem treeL_succ (k:Nat) (s:Int) (first:Int) (leaf n:Nat):treeL k s first leaf (n+1)=treeL k s first leaf n++bktL first (nodeN k leaf n) s s.toNat:=by simp[treeL,List.range_succ]
theorem treeL_length (k:Nat) (s:Int) (first:Int) (leaf n:Nat):(treeL k s first leaf n).length=n*s.toNat:=by
 induction n with
 | zero=>simp[treeL]
 | succ n ih=>rw[treeL_succ,List.length_append,ih];simp[bktL,Nat.succ_mul]
def stashL (first:Int) (n:Nat):List Sp:=(List.range n).map fun (i:Nat)=>⟨first+1,(i:Int)⟩
theorem stashL_succ (first:Int) (n:Nat):stashL first (n+1)=stashL first n++[⟨first+1,n⟩]:=by simp[stashL,List.range_succ]
def spotsL (k:Nat) (s t:Int) (first:Int) (leaf:Nat):List Sp:=treeL k s first leaf (k+1)++stashL first t.toNat
theorem spotsL_length {k:Nat} {s t:Int} (o:LevOk k s t) (first:Int) (leaf:Nat):((spotsL k s t first leaf).length:Int)=plc k s t-1:=by
 have:=o.s;have:=o.t
 rw[spotsL,List.length_append,treeL_length]
 simp[stashL,plc]
 obtain⟨s',rfl⟩:=Int.eq_ofNat_of_zero_le (show 0≤s by omega)
 simp
 rw[Int.mul_comm]
 omega
theorem nodeN_le {k leaf d:Nat} (hk:k≤10) (hl:leaf<2 ^ k) (hd:d≤k):nodeN k leaf d≤2047:=by
 unfold nodeN
 have h1:2 ^ d≤2 ^ 10:=Nat.pow_le_pow_right (by decide) (by omega)
 have h2:2 ^ k≤2 ^ 10:=Nat.pow_le_pow_right (by decide) hk
 have h3:leaf/2 ^ (k-d)≤leaf:=Nat.div_le_self _ _
 generalize leaf/2 ^ (k-d)=z at *
 simp at h1 h2;omega
theorem level_spots {k:Nat} {s t:Int} (o:LevOk k s t) (first:Int) (hf:0≤first∧first≤1000) {leaf:Nat} (hl:leaf<2 ^ k) (h:Hp) :
   callK prog 128 [.agg #[.int .i64 (2 ^ k),.int .i64 s,.int .i64 t],.int .i64 first,.int .i64 leaf] h fun v h'=>∃x,v=vs x∧OwnM 2 spc h h' x (spotsL k s t first leaf)∧Keep h h':=by
 have hs:=o.s;have ht:=o.t;have hk:=o.k
 refine c128 _ _ _ _ _ ?_
 unfold G128
 refine newC fun b1 h1 f1 e1 k1=>rdI e1 rfl ?_
 refine(path_path o.k hl h1).mono ?_
 rintro _ h2 ⟨s1,rfl,o1,k2⟩
 have r1:=o1.rd
 have l1:=r1.len
 rw[pathL_length] at l1
 refine⟨_,rfl,fun a q x y l i h3 m=>first=a∧q=⟨b1,0⟩∧s1=y∧l=s1.len∧∃j:Nat,i=j∧j≤k+1∧OwnM 2 spc h2 h3 x (treeL k s first leaf j)∧Keep h2 h3∧m=k+1-j,⟨_,rfl,rfl,rfl,rfl,0,rfl,Nat.zero_le _,OwnM.nilS _ _ _ _,Keep.refl _,rfl⟩,?_⟩
 rintro a q x y l i h3 m ⟨rfl,rfl,rfl,rfl,j,rfl,hj,oj,k3,rfl⟩
 have e3:=(k2.trans k3).get e1
 refine ifD (fun hlt=>?_) fun hge=>?_
 · have hj':j<(pathL k leaf (k+1)).length:=by rw[pathL_length];omega
   have hg:(pathL k leaf (k+1))[j]=(nodeN k leaf j:Int):=by simp[pathL]
   have hnd:=nodeN_le hk hl (show j≤k by omega)
   refine(r1.keep k3).ix hj' fun p _ hc=>⟨nodeN k leaf j,by rw[←hg];exact hc,rdI e3 rfl ?_⟩
   refine⟨fun a q x nd y l i n v h4 m=>first=a∧q=⟨b1,0⟩∧nd=nodeN k leaf j∧s1=y∧l=s1.len∧i=j∧s=n∧∃u:Nat,v=u∧u≤s.toNat∧OwnM 2 spc h2 h4 x (treeL k s first leaf j++bktL first (nodeN k leaf j) s u)∧Keep h2 h4∧m=s.toNat-u,
     ⟨_,rfl,rfl,rfl,rfl,rfl,rfl,rfl,0,rfl,Nat.zero_le _,by simpa [bktL] using oj,k3,rfl⟩,?_⟩
   rintro a q x nd y l i n v h4 m ⟨rfl,rfl,rfl,rfl,rfl,rfl,rfl,u,rfl,hu,ou,k4,rfl⟩
   refine ifD (fun hlt2=>?_) fun hge2=>?_
   · refine rdI ((k2.trans k4).get e1) rfl ?_
     have hm:(0:Int)≤(nodeN k leaf j:Int)*s∧(nodeN k leaf j:Int)*s≤2047*8:=mul_nn (by omega) (by omega) (by omega) (by omega)
     rw[w64_id (n:=(nodeN k leaf j:Int)*s) (by omega) (by omega),w64_id (n:=(nodeN k leaf j:Int)*s+(u:Int)) (by omega) (by omega)]
     refine OwnM.push rtSp spc2 spc_one ou [⟨first,(nodeN k leaf j:Int)*s+u⟩] rfl rfl (fun b hb=>k4.free hb) (by
       have:j*s.toNat≤11*8:=Nat.mul_le_mul (by omega) (by omega)
       rw[List.length_append,treeL_length];simp[bktL];omega) (by decide) ?_
     intro s' h5 o5 f5 _ _
     exact⟨_,by omega,rfl,rfl,rfl,rfl,rfl,rfl,rfl,u+1,w64_id (by omega) (by omega),by omega,by rw[bktL_succ,←List.append_assoc];exact o5,keep_app ou k4 f5,rfl⟩
   · have:u=s.toNat:=by omega
     subst this
     exact⟨_,by omega,rfl,rfl,rfl,rfl,j+1,w64_id (by omega) (by omega),by omega,by rw[treeL_succ];exact ou,k4,rfl⟩
 · have:j=k+1:=by omega
   subst this
   refine rdI e3 rfl ?_
   refine⟨fun a x n i h4 m=>first=a∧t=n∧∃u:Nat,i=u∧u≤t.toNat∧OwnM 2 spc h2 h4 x (treeL k s first leaf (k+1)++stashL first u)∧Keep h2 h4∧m=t.toNat-u,⟨_,rfl,rfl,0,rfl,Nat.zero_le _,by simpa [stashL] using oj,k3,rfl⟩,?_⟩
   rintro a x n i h4 m ⟨rfl,rfl,u,rfl,hu,ou,k4,rfl⟩
   refine ifD (fun hlt2=>?_) fun hge2=>?_
   · rw[w64_id (n:=first+1) (by omega) (by omega)]
     refine OwnM.push rtSp spc2 spc_one ou [⟨first+1,u⟩] rfl rfl (fun b hb=>k4.free hb) (by
       have:(k+1)*s.toNat≤11*8:=Nat.mul_le_mul (by omega) (by omega)
       rw[List.length_append,treeL_length];simp[stashL];omega) (by decide) ?_
     intro s' h5 o5 f5 _ _
     exact⟨_,by omega,rfl,rfl,u+1,w64_id (by omega) (by omega),by omega,by rw[stashL_succ,←List.append_assoc];exact o5,keep_app ou k4 f5,rfl⟩
   · have:u=t.toNat:=by omega
     subst this
     exact⟨_,rfl,ou.baseK (k1.trans k2),(k1.trans k2).trans k4⟩
end Go.Proofs.Tryz
namespace Go.Proofs.Tryz
open Go Go.Sh Go.RowKit
set_option maxRecDepth 8000
abbrev E0:Hp:=fun _=>none
def Mv (F:Nat→Prop) (h:Hp) (F':Nat→Prop) (h':Hp):Prop:=(∀b,F' b→F b∨h b=none)∧(∀b,h b≠none→¬F b→h' b=h b)∧(∀b,h' b=none→h b=none)
theorem Mv.refl (F:Nat→Prop) (h:Hp):Mv F h F h:=⟨fun _ h=> .inl h,fun _ _ _=>rfl,fun _ h=>h⟩
theorem Mv.out {F F':Nat→Prop} {h h':Hp} (m:Mv F h F' h') {b:Nat} (hb:h b≠none) (hn:¬F b):¬F' b:=fun hf=>by
 rcases m.1 b hf with h|h
 · exact hn h
 · exact hb h
theorem Mv.trans {F F' F'':Nat→Prop} {h h' h'':Hp} (m:Mv F h F' h') (m':Mv F' h' F'' h''):Mv F h F'' h'':=by
 refine⟨fun b hb=>?_,fun b hb hn=>?_,fun b hb=>m.2.2 b (m'.2.2 b hb)⟩
 · rcases m'.1 b hb with h|h
   · exact m.1 b h
   · exact .inr (m.2.2 b h)
 · rw[m'.2.1 b (by rw[m.2.1 b hb hn];exact hb) (m.out hb hn),m.2.1 b hb hn]
theorem mvK {h h':Hp} (k:Keep h h') (F:Nat→Prop):Mv F h F h':=⟨fun _ h=> .inl h,fun b hb _=>k b hb,fun _ hb=>k.free hb⟩
theorem Mv.get {F F':Nat→Prop} {h h':Hp} (m:Mv F h F' h') {b:Nat} {o:Obj} (e:h b=some o) (hn:¬F b):h' b=some o:=by rw[m.2.1 b (by rw[e];simp) hn,e]
theorem Mv.keep {F F':Nat→Prop} {h0 h h':Hp} (m:Mv F h F' h') (k:Keep h0 h) (hF:∀b,F b→h0 b=none):Keep h0 h'∧∀b,F' b→h0 b=none:=by
 refine⟨fun b hb=>?_,fun b hb=>?_⟩
 · rw[m.2.1 b (by rw[k b hb];exact hb) (fun h=>hb (hF b h)),k b hb]
 · rcases m.1 b hb with h|h
   · exact hF b h
   · exact k.free h
theorem own_rebase {α:Type} {k:Nat} {f:α→List Value} {h0 h:Hp} {s:Sl} {l:List α} (o:OwnM k f E0 h s l) (hs:∀p,s.q=some p→h0 p.b=none):OwnM k f h0 h s l:=by
 refine⟨o.len,o.cap,?_⟩
 rcases o.own with h1|⟨q,c,t,h1,h2,h3,h4,h5⟩
 · exact .inl h1
 · exact .inr ⟨q,c,t,h1,hs q h1,h3,h4,h5⟩
def Fp (b:Nat) (s:Sl):Nat→Prop:=fun x=>x=b∨∃p,s.q=some p∧x=p.b
structure BoxS {α:Type} (k:Nat) (f:α→List Value) (T:TypeId) (h:Hp) (b:Nat) (s:Sl) (l:List α):Prop where
 cell:h b=some (.cells #[vs s] T (0,0))
 own:OwnM k f E0 h s l
 ne:∀p,s.q=some p→p.b≠b
theorem BoxS.dom {α:Type} {k:Nat} {f:α→List Value} {T:TypeId} {h:Hp} {b:Nat} {s:Sl} {l:List α} (B:BoxS k f T h b s l) {x:Nat} (hx:Fp b s x):h x≠none:=by
 rcases hx with rfl|⟨p,hp,rfl⟩
 · rw[B.cell];simp
 · exact(B.own.blk hp).2
theorem BoxS.move {α:Type} {k:Nat} {f:α→List Value} {T:TypeId} {h h':Hp} {b:Nat} {s:Sl} {l:List α} (B:BoxS k f T h b s l) (hs:∀x,Fp b s x→h' x=h x):BoxS k f T h' b s l :=
 ⟨by rw[hs b (.inl rfl)];exact B.cell,B.own.move fun p hp=>hs _ (.inr ⟨p,hp,rfl⟩),B.ne⟩
theorem BoxS.keep {α:Type} {k:Nat} {f:α→List Value} {T:TypeId} {h h':Hp} {b:Nat} {s:Sl} {l:List α} (B:BoxS k f T h b s l) (c:Keep h h'):BoxS k f T h' b s l:=B.move fun _ hx=>c _ (B.dom hx)
theorem BoxS.cells {α:Type} {k:Nat} {f:α→List Value} {T:TypeId} {h:Hp} {b:Nat} {s:Sl} {l:List α} (B:BoxS k f T h b s l) {x:Nat} (hx:Fp b s x):∃c t fz,h x=some (.cells c t fz):=by
 rcases hx with rfl|⟨p,hp,rfl⟩
 · exact⟨_,_,_,B.cell⟩
 · rcases B.own.own with ⟨hn,_⟩|⟨q,c,t,hq,_,hc,_,_⟩
   · rw[hn] at hp;cases hp
   · rw[hq] at hp;cases hp;exact⟨_,_,_,hc⟩
theorem BoxS.app {α:Type} {P:Program} {Ts el:TypeId} {k:Nat} {z:Value} {by_:Nat} (rt:RowM P Ts el k z by_) {f:α→List Value} (hf:∀x,(f x).length=k) (one:∀x,∀v∈f x,v.oneCell'=true) {T:TypeId} {h:Hp} {b:Nat} {s y:Sl} {l m:List α}
   (B:BoxS k f T h b s l) (ry:RdM f h y m) (room:(l.length+m.length)*by_≤140737488355328) (hby:0<by_) {K:Hp→Prop}
   (hk:∀s' h',BoxS k f T h' b s' (l++m)→Mv (Fp b s) h (Fp b s') h'→K h'):appK P Ts s (.s y) h fun s2 h2=>storeK h2 ⟨b,0⟩ [vs s2] K:=by
 refine OwnM.app rt hf one B.own ry (fun _ _=>rfl) room hby ?_
 intro s' h2 o2 f2 w2 fr2
 have hb0:h b≠none:=by rw[B.cell];simp
 have hb2:h2 b=h b:=f2 b hb0 fun q hq e=>B.ne q hq e.symm
 have ne':∀p,s'.q=some p→p.b≠b:=fun p hp e=>by
   rcases w2 p hp with ⟨q,hq,h⟩|h
   · exact B.ne q hq (h▸e)
   · rw[e] at h;exact hb0 h
 refine⟨_,_,by rw[hb2];exact B.cell,by simp,hk s' _ ⟨by rw[upd_same];rfl,o2.move fun p hp=>upd_ne _ _ (ne' p hp),ne'⟩ ⟨?_,?_,?_⟩⟩
 · rintro x (rfl|⟨p,hp,rfl⟩)
   · exact .inl (.inl rfl)
   · rcases w2 p hp with ⟨q,hq,h⟩|h
     · exact .inl (.inr ⟨q,hq,h⟩)
     · exact .inr h
 · intro x hx hn
   have hxb:x≠b:=fun e=>hn (.inl e)
   rw[upd_ne _ _ hxb,f2 x hx fun q hq e=>hn (.inr ⟨q,hq,e⟩)]
 · intro x hx
   by_cases e:x=b
   · rw[e,upd_same] at hx;cases hx
   · rw[upd_ne _ _ e] at hx;exact fr2 x hx
theorem BoxS.push {α:Type} {P:Program} {Ts el:TypeId} {k:Nat} {z:Value} {by_:Nat} (rt:RowM P Ts el (k+1) z by_) {f:α→List Value} (hf:∀x,(f x).length=k+1) (one:∀x,∀v∈f x,v.oneCell'=true) {T:TypeId} {h:Hp} {b:Nat} {s:Sl} {l:List α}
   (B:BoxS (k+1) f T h b s l) (m:List α) {t:TypeId} {c:Array Value} (hc:c=(m.flatMap f).toArray) {n:Nat} (hn:n=m.length) (room:(l.length+m.length)*by_≤140737488355328) (hby:0<by_) {K:Hp→Prop}
   (hk:∀s' h',BoxS (k+1) f T h' b s' (l++m)→Mv (Fp b s) h (Fp b s') h'→K h'):newK h (.cells c t) fun b1 h1=>appK P Ts s (.s ⟨some ⟨b1,0⟩,n,n,none⟩) h1 fun s2 h2=>storeK h2 ⟨b,0⟩ [vs s2] K :=
 newC fun b1 h1 f1 e1 k1=>BoxS.app rt hf one (B.keep k1) (OwnM.newE (k:=k+1) hf (h0:=h) f1 e1 hc hn).rd room hby fun s' h' B' m'=>hk s' h' B' ((mvK k1 _).trans m')
structure Sink {α:Type} (y:Value) (vv:α→Value) (S:List α→(Nat→Prop)→Hp→Prop) (N:Nat):Prop where
 put:∀l F h x,S l F h→l.length<N→callV prog y [vv x] h fun v h'=>v= .bool true∧∃F',S (l++[x]) F' h'∧Mv F h F' h'
 keep:∀l F h h',S l F h→(∀b,F b→h' b=h b)→S l F h'
 dom:∀l F h b,S l F h→F b→h b≠none
 one:y.oneCell'=true
structure Pr where
 i:Int
 j:Int
 up:Bool
def prc (e:Pr):List Value:=[.int .i64 e.i,.int .i64 e.j,.bool e.up]
theorem prc3 (e:Pr):(prc e).length=3:=rfl
theorem prc_one (e:Pr):∀v∈prc e,v.oneCell'=true:=by simp[prc,Value.oneCell']
theorem rtPr:RowM prog 245 248 3 (.agg #[.int .i64 0,.int .i64 0,.bool false]) 24:=⟨by kernel_rfl,by kernel_rfl,by kernel_rfl,by kernel_rfl,rfl⟩
theorem collect_pr {g:FuncId} {caps:List Value} {L:List Pr} {h:Hp} (hL:L.length≤1000000000000)
   (hseq:∀(y:Value) (S:List Pr→(Nat→Prop)→Hp→Prop),Sink y (fun x=> .agg (prc x).toArray) S 1000000000000→∀F h1,Keep h h1→S [] F h1→(∀b,F b→h b=none)→callK prog g (y::caps) h1 fun _ h2=>∃F',S L F' h2∧Mv F h1 F' h2) :
   callK prog 169 [.func (.func g) #[] caps.toArray] h fun v h'=>∃s,v=vs s∧OwnM 3 prc h h' s L∧Keep h h':=by
 refine c169 _ ?_
 unfold G169
 have key:callK prog 185 [vs ⟨none,0,0,none⟩,.func (.func g) #[] caps.toArray] h fun v h'=>∃s,v=vs s∧OwnM 3 prc h h' s L∧Keep h h':=by
   refine c185 ⟨none,0,0,none⟩ _ ?_
   unfold G185
   refine newC fun b1 h1 f1 e1 k1=>⟨trivial,fun z k hk hr=>?_⟩
   have hkb:k≠b1:=fun e=>by rw[e,e1] at hk;cases hk
   have kb:b1≠k:=fun e=>hkb e.symm
   have kz:Keep h1 (upd h1 k (rdyL z)):=(Keep.refl h1).upd hk _
   have hk0:h k=none:=k1.free hk
   let S:List Pr→(Nat→Prop)→Hp→Prop:=fun l F h'=>h' k=some (rdyL z)∧∃s,BoxS 3 prc 245 h' b1 s l∧F=(fun x=>x=k∨Fp b1 s x)
   have nofp:∀ {h':Hp} {s:Sl} {l:List Pr} {o:Loop},BoxS 3 prc 245 h' b1 s l→h' k=some (.loop o)→¬Fp b1 s k:=fun B e hx=>by
     obtain⟨c,t,fz,h⟩:=B.cells hx
     rw[e] at h;cases h
   have sink:Sink (yv k) (fun x=> .agg (prc x).toArray) S 1000000000000:=by
     refine⟨?_,?_,?_,rfl⟩
     · rintro l F h2 x ⟨hz,s,bx,rfl⟩ hl
       obtain⟨n1,n2,t1⟩:=x
       refine⟨rfl,rfl,hr n1 n2 t1 h2 _ hz ?_⟩
       refine newC fun b2 h3 f3 e3 k3=>stW k3 f3 e3 rfl fun h4 k4 e4 _=>⟨k4.get hz,?_⟩
       have nk0:¬Fp b1 s k:=nofp bx hz
       have e5:upd h4 k (busyL z) b1=some (.cells #[vs s] 245 (0,0)):=by rw[upd_ne _ _ kb];exact k4.get bx.cell
       have b2k:b2≠k:=fun e=>by rw[e,hz] at f3;cases f3
       have e6:upd h4 k (busyL z) b2=some (.cells #[.int .i64 n1,.int .i64 n2,.bool t1] 248 (0,0)):=by rw[upd_ne _ _ b2k];exact e4
       have bx5:BoxS 3 prc 245 (upd h4 k (busyL z)) b1 s l:=(bx.keep k4).move fun x hx=>upd_ne _ _ fun e=>nk0 (e▸hx)
       refine⟨s,rd1 e5 rfl,n1,rd1 e6 rfl,n2,rd1 e6 rfl,t1,rd1 e6 rfl,BoxS.push rtPr prc3 prc_one bx5 [⟨n1,n2,t1⟩] rfl rfl (by simp;omega) (by decide) fun s' h6 bx6 m6=>?_⟩
       have hk6:h6 k=some (busyL z):=m6.get (upd_same _ _ _) nk0
       have nk':¬Fp b1 s' k:=m6.out (by rw[upd_same];simp) nk0
       refine⟨hk6,rfl,_,⟨upd_same _ _ _,s',bx6.move fun x hx=>upd_ne _ _ (fun e=>nk' (e▸hx)),rfl⟩,?_,?_,?_⟩
       · rintro x (rfl|hx)
         · exact .inl (.inl rfl)
         · rcases m6.1 x hx with h|h
           · exact .inl (.inr h)
           · by_cases hxk:x=k
             · exact .inl (.inl hxk)
             · rw[upd_ne _ _ hxk] at h;exact .inr (k4.free h)
       · intro x hx hn
         have hxk:x≠k:=fun e=>hn (.inl e)
         have h4x:upd h4 k (busyL z) x=h2 x:=by rw[upd_ne _ _ hxk,k4 x hx]
         rw[upd_ne _ _ hxk,m6.2.1 x (by rw[h4x];exact hx) (fun hF=>hn (.inr hF)),h4x]
       · intro x hx
         have hxk:x≠k:=fun e=>by rw[e,upd_same] at hx;cases hx
         rw[upd_ne _ _ hxk] at hx
         have h5x:=m6.2.2 x hx
         rw[upd_ne _ _ hxk] at h5x
         exact k4.free h5x
     · rintro l F h2 h3 ⟨hz,s,bx,rfl⟩ hF
       exact⟨by rw[hF k (.inl rfl)];exact hz,s,bx.move fun x hx=>hF x (.inr hx),rfl⟩
     · rintro l F h2 b ⟨hz,s,bx,rfl⟩ (rfl|hb)
       · rw[hz];simp
       · exact bx.dom hb
   have s0:S [] (fun x=>x=k∨Fp b1 ⟨none,0,0,none⟩ x) (upd h1 k (rdyL z)) :=
     ⟨upd_same _ _ _,_,⟨by rw[upd_ne _ _ kb];exact e1,OwnM.nilS _ _ _ _,fun p hp=>by cases hp⟩,rfl⟩
   have f0:∀b,(b=k∨Fp b1 ⟨none,0,0,none⟩ b)→h b=none:=by
     rintro b (rfl|rfl|⟨p,hp,_⟩)
     · exact hk0
     · exact f1
     · cases hp
   refine⟨rfl,?_⟩
   refine(hseq (yv k) S sink _ _ (k1.trans kz) s0 f0).mono ?_
   rintro _ h2 ⟨F',⟨hz,s,bx,rfl⟩,m⟩
   obtain⟨kk,ff⟩:=m.keep (k1.trans kz) f0
   have nk:=nofp bx hz
   refine⟨hz,s,rd1 (by rw[upd_ne _ _ kb];exact bx.cell) rfl,s,rfl,?_,kk.upd hk0 _⟩
   exact own_rebase (bx.own.move fun p hp=>upd_ne _ _ fun e=>nk (.inr ⟨p,hp,e.symm⟩)) fun p hp=>ff _ (.inr (.inr ⟨p,hp,rfl⟩))
 refine key.mono ?_
 rintro _ h1 ⟨s,rfl,o,k⟩
 exact⟨_,rfl,_,rfl,o,k⟩
end Go.Proofs.Tryz
namespace Go.Proofs.Tryz
open Go Go.Sh Go.RowKit
set_option maxRecDepth 8000
def roundE (n:Int):Nat:=if n<1 then 0 else min (Lib.bitLen (n-1).toNat) 62
theorem roundI_E (n:Int):roundI n=2 ^ roundE n:=by unfold roundI roundE;split<;>rfl
theorem roundE_le {n:Int} {k:Nat} (hk:k≤62) (h:n≤2 ^ k):roundE n≤k:=by
 unfold roundE
 split
 · omega
 · have e':((2 ^ k:Nat):Int)=2 ^ k:=by simp
   have:=Lib.bitLen_le (n-1).toNat k (by omega) (by omega)
   omega
theorem pow_succ_int2 (j:Nat):(2:Int)*2 ^ j=2 ^ (j+1):=by rw[Int.pow_succ];omega
/-! ## networks -/
theorem ibit_and {i b:Nat} (hi:i<2 ^ 63) (hb:b<63):ibit .and .i64 (i:Int) ((2:Int) ^ b)=((i &&& 2 ^ b:Nat):Int):=by
 have e:((2:Int) ^ b)=((2 ^ b:Nat):Int):=by simp
 have h1:2 ^ b<2 ^ 64:=Nat.pow_lt_pow_right (by decide) (by omega)
 rw[e]
 show(((BitVec.ofInt 64 (i:Int) &&& BitVec.ofInt 64 ((2 ^ b:Nat):Int)).toNat:Nat):Int)=_
 rw[BitVec.toNat_and,BitVec.ofInt_natCast,BitVec.ofInt_natCast,BitVec.toNat_ofNat,BitVec.toNat_ofNat,Nat.mod_eq_of_lt (by omega),Nat.mod_eq_of_lt h1]
theorem ibit_or {i b:Nat} (hi:i<2 ^ 63) (hb:b<63):ibit .or .i64 (i:Int) ((2:Int) ^ b)=((i ||| 2 ^ b:Nat):Int):=by
 have e:((2:Int) ^ b)=((2 ^ b:Nat):Int):=by simp
 have h1:2 ^ b<2 ^ 64:=Nat.pow_lt_pow_right (by decide) (by omega)
 rw[e]
 show(((BitVec.ofInt 64 (i:Int) ||| BitVec.ofInt 64 ((2 ^ b:Nat):Int)).toNat:Nat):Int)=_
 rw[BitVec.toNat_or,BitVec.ofInt_natCast,BitVec.ofInt_natCast,BitVec.toNat_ofNat,BitVec.toNat_ofNat,Nat.mod_eq_of_lt (by omega),Nat.mod_eq_of_lt h1]
theorem and_pow0:∀i:Fin 1024,∀b:Fin 11,decide (i.val &&& 2 ^ b.val=0)=decide (i.val/2 ^ b.val%2=0):=by decide +kernel
theorem or_pow:∀i:Fin 1024,∀b:Fin 10,i.val/2 ^ b.val%2=0→i.val ||| 2 ^ b.val=i.val+2 ^ b.val:=by decide +kernel
theorem and_bd (i b:Nat):i &&& 2 ^ b≤i:=Nat.and_le_left
def ipairs (k j n:Nat):List Pr:=((List.range n).filter fun i=>decide (i/j%2=0)).map fun (i:Nat)=>(⟨(i:Int),((i+j:Nat):Int),decide (i/k%2=0)⟩:Pr)
theorem ipairs_succ (k j n:Nat):ipairs k j (n+1)=ipairs k j n++(if n/j%2=0 then [(⟨(n:Int),((n+j:Nat):Int),decide (n/k%2=0)⟩:Pr)] else []):=by
 unfold ipairs
 rw[List.range_succ,List.filter_append,List.map_append]
 congr 1
 by_cases h:n/j%2=0<;>simp[h]
theorem ipairs_length (k j n:Nat):(ipairs k j n).length≤n:=by
 unfold ipairs
 rw[List.length_map]
 exact Nat.le_trans (List.length_filter_le _ _) (by simp)
def jl (n a:Nat):Nat→List Pr
 | 0=>[]
 | b+1=>ipairs (2 ^ (a+1)) (2 ^ b) n++jl n a b
theorem jl_length (n a b:Nat):(jl n a b).length≤b*n:=by
 induction b with
 | zero=>simp[jl]
 | succ b ih=>simp only[jl,List.length_append];have:=ipairs_length (2 ^ (a+1)) (2 ^ b) n;rw[Nat.succ_mul];omega
def kl (n a:Nat):List Pr:=(List.range a).flatMap fun a=>jl n a (a+1)
theorem kl_succ (n a:Nat):kl n (a+1)=kl n a++jl n a (a+1):=by simp[kl,List.range_succ]
theorem kl_length (n a:Nat):(kl n a).length≤a*a*n:=by
 induction a with
 | zero=>simp[kl]
 | succ a ih =>
   rw[kl_succ,List.length_append]
   have h1:=jl_length n a (a+1)
   have h2:(a+1)*(a+1)*n=a*a*n+a*n+(a+1)*n:=by
     have e:(a+1)*(a+1)=a*a+a+(a+1):=by rw[Nat.mul_add,Nat.add_mul];omega
     rw[e,Nat.add_mul,Nat.add_mul]
   omega
def pairsL (K:Nat):List Pr:=kl (2 ^ K) K
theorem pairsL_length {K:Nat} (hK:K≤10):(pairsL K).length≤102400:=by
 have h1:=kl_length (2 ^ K) K
 have h2:2 ^ K≤2 ^ 10:=Nat.pow_le_pow_right (by decide) hK
 have h3:K*K≤10*10:=Nat.mul_le_mul hK hK
 have h4:K*K*2 ^ K≤100*1024:=Nat.mul_le_mul h3 h2
 unfold pairsL;omega
def hv (c:Nat):Int:=if c=0 then 0 else 2 ^ (c-1)
theorem hv_succ (c:Nat):hv (c+1)=2 ^ c:=by simp[hv]
theorem hv_half {c:Nat} (hc:c≤10):w64 (((2:Int) ^ c).tdiv 2)=hv c:=by
 cases c with
 | zero=>rw[show((2:Int) ^ 0).tdiv 2=0 from rfl,w64_id (by omega) (by omega)];rfl
 | succ c =>
   have hb:=pow_bds (k:=c) (by omega)
   rw[hv_succ,←pow_succ_int2]
   have:(2*(2:Int) ^ c).tdiv 2=2 ^ c:=by rw[Int.tdiv_eq_ediv_of_nonneg (by omega)];omega
   rw[this,w64_id (by omega) (by omega)]
theorem net_pairs1 {K:Nat} (hK:K≤10) {y:Value} {S:List Pr→(Nat→Prop)→Hp→Prop} (sk:Sink y (fun x=> .agg (prc x).toArray) S 1000000000000) {F:Nat→Prop} {h:Hp} {b:Nat}
   (s0:S [] F h) (hc:hcell h b 0=some (.int .i64 (2 ^ K))) (hb:¬F b) :
   callK prog 186 [y,vp ⟨b,0⟩] h fun _ h2=>∃F',S (pairsL K) F' h2∧Mv F h F' h2:=by
 have hn:h b≠none:=hcell_some hc
 have cell:∀ {F' h'},Mv F h F' h'→hcell h' b 0=some (.int .i64 (2 ^ K))∧¬F' b:=fun m=>⟨by rw[hcell_same (m.2.1 b hn hb),hc],m.out hn hb⟩
 have hKb:=pow_bds hK
 have hKn:2 ^ K≤1024:=Nat.pow_le_pow_right (n:=2) (by decide) hK
 have eK:((2 ^ K:Nat):Int)=2 ^ K:=by simp
 refine c186 y ⟨b,0⟩ ?_
 unfold G186
 refine⟨fun v q n h1 m=>v=y∧q=⟨b,0⟩∧∃a:Nat,n=2 ^ (a+1)∧a≤K∧(∃F',S (kl (2 ^ K) a) F' h1∧Mv F h F' h1)∧m=K-a,⟨_,rfl,rfl,0,rfl,Nat.zero_le _,⟨F,s0,Mv.refl _ _⟩,rfl⟩,?_⟩
 rintro v q n h1 m ⟨rfl,rfl,a,hna,ha,⟨F1,s1,m1⟩,rfl⟩
 refine⟨_,(cell m1).1,ifD (fun hle=>?_) fun hgt=>?_⟩
 · have haK:a<K:=by
     rcases Nat.lt_or_ge a K with h|h
     · exact h
     · have:a=K:=by omega
       subst this;rw[←pow_succ_int2] at hna;omega
   have hap:=pow_bds (k:=a+1) (by omega)
   have hap0:=pow_bds (k:=a) (by omega)
   rw[hna,hv_half (c:=a+1) (by omega)]
   refine⟨by decide,fun v2 q2 n2 j h2 m=>v2=v∧q2=⟨b,0⟩∧n2=2 ^ (a+1)∧∃c:Nat,j=hv c∧c≤a+1∧(∃F' l,S l F' h2∧Mv F h F' h2∧l++jl (2 ^ K) a c=kl (2 ^ K) (a+1))∧c=m,
     ⟨_,rfl,rfl,rfl,a+1,rfl,Nat.le_refl _,⟨F1,_,s1,m1,(kl_succ _ _).symm⟩,rfl⟩,?_⟩
   rintro v2 q2 n2 j h2 m ⟨rfl,rfl,hn2,c,hj,hca,⟨F2,l,s2,m2,hl⟩,rfl⟩
   refine ifD (fun hpos=>?_) fun hnpos=>?_
   · cases c with
     | zero=>rw[hj] at hpos;simp[hv] at hpos
     | succ c =>
       rw[hv_succ] at hj
       have hcb:=pow_bds (k:=c) (by omega)
       refine⟨_,(cell m2).1,?_⟩
       refine⟨fun v3 q3 n6 n7 n8 i h3 m=>v3=v2∧q3=⟨b,0⟩∧n6=2 ^ (a+1)∧n7=2 ^ c∧n8=2 ^ K∧∃u:Nat,i=u∧u≤2 ^ K∧(∃F',S (l++ipairs (2 ^ (a+1)) (2 ^ c) u) F' h3∧Mv F h F' h3)∧m=2 ^ K-u,
         ⟨_,rfl,rfl,hn2,hj,rfl,0,rfl,Nat.zero_le _,⟨F2,by simpa [ipairs] using s2,m2⟩,rfl⟩,?_⟩
       rintro v3 q3 n6 n7 n8 i h3 m ⟨rfl,rfl,hn6,hn7,hn8,u,rfl,hu,⟨F3,s3,m3⟩,rfl⟩
       refine ifD (fun hlt=>?_) fun hge=>?_
       · have hu2:u<2 ^ K:=by omega
         have hu3:u<2 ^ 63:=by omega
         have ea:=ibit_and (i:=u) (b:=c) hu3 (by omega)
         have eb:=ibit_and (i:=u) (b:=a+1) hu3 (by omega)
         have eo:=ibit_or (i:=u) (b:=c) hu3 (by omega)
         have la:=and_bd u c;have lb:=and_bd u (a+1)
         have d1:=and_pow0 ⟨u,by omega⟩ ⟨c,by omega⟩
         have d2:=and_pow0 ⟨u,by omega⟩ ⟨a+1,by omega⟩
         simp only at d1 d2
         rw[hn6,hn7,ea,eb,eo,w64_id (n:=((u &&& 2 ^ c:Nat):Int)) (by omega) (by omega),w64_id (n:=((u &&& 2 ^ (a+1):Nat):Int)) (by omega) (by omega)]
         have nx:∀ {h4 F4},S (l++ipairs (2 ^ (a+1)) (2 ^ c) (u+1)) F4 h4→Mv F h F4 h4→∃k3,k3<2 ^ K-u∧v3=v3∧(⟨b,0⟩:Pt)=⟨b,0⟩∧(2:Int) ^ (a+1)=2 ^ (a+1)∧(2:Int) ^ c=2 ^ c∧n8=2 ^ K∧∃u':Nat,w64 ((u:Int)+1)=u'∧u'≤2 ^ K∧(∃F',S (l++ipairs (2 ^ (a+1)) (2 ^ c) u') F' h4∧Mv F h F' h4)∧k3=2 ^ K-u' :=
           fun g1 g2=>⟨_,by omega,rfl,rfl,rfl,rfl,hn8,u+1,w64_id (by omega) (by omega),by omega,⟨_,g1,g2⟩,rfl⟩
         refine ifD (fun hz=>?_) fun hz=>?_
         · have hz0:u/2 ^ c%2=0:=by
             have:decide (u &&& 2 ^ c=0)=true:=decide_eq_true (by omega)
             rw[d1] at this;exact of_decide_eq_true this
           have ho:=or_pow ⟨u,by omega⟩ ⟨c,by omega⟩ hz0
           simp only at ho
           have hcN:2 ^ c≤1024:=Nat.pow_le_pow_right (n:=2) (by decide) (show c≤10 by omega)
           rw[ho,w64_id (n:=((u+2 ^ c:Nat):Int)) (by omega) (by omega)]
           have e3:decide (((u &&& 2 ^ (a+1):Nat):Int)=0)=decide (u/2 ^ (a+1)%2=0):=by rw[←d2];congr 1;simp
           rw[e3]
           have hlen:(l++ipairs (2 ^ (a+1)) (2 ^ c) u).length<1000000000000:=by
             have h1:=congrArg List.length hl
             rw[List.length_append] at h1
             have h2:=kl_length (2 ^ K) (a+1)
             have h3:=ipairs_length (2 ^ (a+1)) (2 ^ c) u
             have h4:(a+1)*(a+1)*2 ^ K≤10*10*1024:=Nat.mul_le_mul (Nat.mul_le_mul (by omega) (by omega)) hKn
             rw[List.length_append];omega
           refine(sk.put _ _ _ ⟨(u:Int),((u+2 ^ c:Nat):Int),decide (u/2 ^ (a+1)%2=0)⟩ s3 hlen).mono ?_
           rintro _ h4 ⟨rfl,F4,s4,m4⟩
           exact⟨_,rfl,ifB_neg rfl (nx (by rw[ipairs_succ,if_pos hz0,←List.append_assoc];exact s4) (m3.trans m4))⟩
         · have hz0:¬u/2 ^ c%2=0:=fun e=>by
             have:decide (u/2 ^ c%2=0)=true:=decide_eq_true e
             rw[←d1] at this
             have:=of_decide_eq_true this
             omega
           exact nx (by rw[ipairs_succ,if_neg hz0,List.append_nil];exact s3) m3
       · have:u=2 ^ K:=by omega
         rw[hn7,hv_half (by omega)]
         refine⟨by decide,_,by omega,rfl,rfl,hn6,c,rfl,by omega,⟨F3,_,s3,m3,?_⟩,rfl⟩
         rw[this,List.append_assoc];exact hl
   · have:c=0:=by
       cases c with
       | zero=>rfl
       | succ c=>rw[hj,hv_succ] at hnpos;have:=pow_bds (k:=c) (by omega);omega
     subst this
     simp only[jl,List.append_nil] at hl
     rw[hn2,Int.mul_comm,pow_succ_int2]
     have hp2:=pow_le_pow (show a+1+1≤11 by omega)
     rw[w64_id (by have:=pow_le_pow (Nat.zero_le (a+1+1));simp at this;omega) (by simp at hp2;omega)]
     exact⟨_,by omega,rfl,rfl,a+1,rfl,by omega,⟨F2,by rw[←hl];exact s2,m2⟩,rfl⟩
 · have haK:a=K:=by
     rcases Nat.lt_or_ge a K with h|h
     · have:=pow_le_pow (show a+1≤K by omega);omega
     · omega
   subst haK
   exact⟨F1,s1,m1⟩
theorem net_right {k:Nat} (hk:k≤10):PureC prog 168 [.int .i64 (2 ^ k)] (.bool true):=by
 intro h
 have hb:=pow_bds hk
 refine c168 _ ?_
 unfold G168
 refine ifD (fun _=>ifB_pos (by simp;omega) ⟨?_,Keep.refl _⟩) fun e=>absurd hb.1 e
 rw[w64_id (n:=2 ^ k-1) (by omega) (by omega),pow_and k hk,w64_id (by decide) (by decide)]
 rfl
theorem net_pairs {K:Nat} (hK:K≤10) (h:Hp):callK prog 148 [.int .i64 (2 ^ K)] h fun v h'=>∃s,v=vs s∧OwnM 3 prc h h' s (pairsL K)∧Keep h h':=by
 refine c148 _ ?_
 unfold G148
 refine(net_right hK).to fun h1 k1=>⟨_,rfl,ifB_neg rfl ?_⟩
 refine c170 _ ?_
 unfold G170
 refine newC fun b h2 f2 e2 k2=>⟨_,rfl,?_⟩
 have hL:=pairsL_length hK
 refine(collect_pr (g:=186) (caps:=[vp ⟨b,0⟩]) (L:=pairsL K) (h:=h2) (by omega) fun y S sk F h3 k3 s0 f0=>?_).mono ?_
 · exact net_pairs1 hK sk s0 (rd1 (k3.get e2) rfl) fun hF=>by rw[f0 b hF] at e2;cases e2
 · rintro _ h3 ⟨s,rfl,o,k⟩
   exact⟨_,rfl,_,rfl,o.baseK (k1.trans k2),(k1.trans k2).trans k⟩
/-! ## sorts -/
def sort4 (reg:Int) (p:Pr):List Ev:=[⟨reg,p.i,false⟩,⟨reg,p.j,false⟩,⟨reg,p.i,true⟩,⟨reg,p.j,true⟩]
def sortEv (reg:Int) (K:Nat):List Ev:=(pairsL K).flatMap (sort4 reg)
theorem sort4_length (reg:Int) (l:List Pr):(l.flatMap (sort4 reg)).length=4*l.length:=by
 induction l with
 | nil=>rfl
 | cons p l ih=>simp[sort4,ih];omega
/-! ## levels -/
def fillEv (first:Int) (sp:List Sp) (n:Nat):List Ev:=(List.range n).flatMap fun (i:Nat)=>(if i<sp.length then [(⟨(sp.getD i ⟨0,0⟩).r,(sp.getD i ⟨0,0⟩).a,false⟩:Ev)] else [])++[⟨first+2,i,true⟩]
theorem fillEv_succ (first:Int) (sp:List Sp) (n:Nat):fillEv first sp (n+1)=fillEv first sp n++((if n<sp.length then [(⟨(sp.getD n ⟨0,0⟩).r,(sp.getD n ⟨0,0⟩).a,false⟩:Ev)] else [])++[⟨first+2,n,true⟩]):=by simp[fillEv,List.range_succ]
theorem fillEv_length (first:Int) (sp:List Sp) (n:Nat):(fillEv first sp n).length≤2*n:=by
 induction n with
 | zero=>simp[fillEv]
 | succ n ih=>rw[fillEv_succ,List.length_append];split<;>simp<;>omega
def backEv (first:Int) (sp:List Sp) (n:Nat):List Ev:=(List.range n).flatMap fun (i:Nat)=>[(⟨first+2,i,false⟩:Ev),⟨(sp.getD i ⟨0,0⟩).r,(sp.getD i ⟨0,0⟩).a,true⟩]
theorem backEv_succ (first:Int) (sp:List Sp) (n:Nat):backEv first sp (n+1)=backEv first sp n++[(⟨first+2,n,false⟩:Ev),⟨(sp.getD n ⟨0,0⟩).r,(sp.getD n ⟨0,0⟩).a,true⟩]:=by simp[backEv,List.range_succ]
theorem backEv_length (first:Int) (sp:List Sp) (n:Nat):(backEv first sp n).length=2*n:=by
 induction n with
 | zero=>rfl
 | succ n ih=>rw[backEv_succ,List.length_append,ih];simp;omega
def turnEv (first:Int) (E:Nat):List Ev:=writes (first+2) (2 ^ E)++sortEv (first+2) E
def levEv (k:Nat) (s t:Int) (first:Int) (leaf:Nat):List Ev :=
 fillEv first (spotsL k s t first leaf) (2 ^ roundE (plc k s t))++turnEv first (roundE (plc k s t))++turnEv first (roundE (plc k s t))++backEv first (spotsL k s t first leaf) (spotsL k s t first leaf).length
end Go.Proofs.Tryz

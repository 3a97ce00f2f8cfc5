/- A statement whose operations' order is open: one order that is fit for it stands for all. -/
import Derived.Test.YtofgadhgljjhgaaGreatShOrd
import Derived.Orders
namespace Go.Sh
open Go Go.RowKit
/-! ## What an operation looks at -/
def Agr (e e':Env) (x:Operand):Prop:=∀t,x= .tmp t→e t=e' t
section
variable {P:Program} {n:Nat} {e e':Env}
theorem evK_congr {x:Operand} (h:Agr e e' x):evK n e x=evK n e' x:=by
 cases x with
 | tmp t=>funext K;simp only[evK,h t rfl]
 | _=>rfl
theorem evT_congr {ty:Ty} {x:Operand} (h:Agr e e' x):evT n ty e x=evT n ty e' x:=by
 cases x with
 | const v=>rfl
 | tmp t=>exact evK_congr (x:= .tmp t) h
 | global g=>rfl
 | func f=>rfl
theorem evKs_congr:∀(l:List Operand),(∀x∈l,Agr e e' x)→evKs n e l=evKs n e' l
 | [],_=>rfl
 | x::l,h=>by
   funext K
   simp only[evKs,evK_congr (h x List.mem_cons_self),evKs_congr l fun y hy=>h y (List.mem_cons_of_mem _ hy)]
theorem evAs_congr:∀(l:List Operand) (ts:List TypeId),(∀x∈l,Agr e e' x)→evAs P n e l ts=evAs P n e' l ts
 | [],_,_=>rfl
 | x::l,[],h=>by
   funext K
   simp only[evAs,evK_congr (h x List.mem_cons_self),evAs_congr l [] fun y hy=>h y (List.mem_cons_of_mem _ hy)]
 | x::l,t::ts,h=>by
   funext K
   simp only[evAs,evT_congr (h x List.mem_cons_self),evAs_congr l ts fun y hy=>h y (List.mem_cons_of_mem _ hy)]
theorem ptK_congr {tys:Nat→Ty}:∀(l:List (Nat×Operand)),(∀x∈l,Agr e e' x.2)→ptK P n e tys l=ptK P n e' tys l
 | [],_=>rfl
 | (i,x)::l,h=>by
   funext K
   simp only[ptK,evT_congr (h (i,x) List.mem_cons_self),ptK_congr l fun y hy=>h y (List.mem_cons_of_mem _ hy)]
theorem oOp_congr {x:Option Operand} (h:∀y,x=some y→Agr e e' y):oOp n e x=oOp n e' x:=by
 cases x with
 | none=>rfl
 | some y=>funext K;simp only[oOp,evK_congr (h y rfl)]
theorem pureK_congr {o:Op} {ty:TypeId} (h:∀x∈o.operands.toList,Agr e e' x):pureK P n o ty e=pureK P n o ty e':=by
 funext K
 unfold pureK
 split
 · rw[evT_congr (h _ (by simp[Op.operands]))]
 · rw[evT_congr (h _ (by simp[Op.operands]))]
 · rename_i c a b
   rw[evK_congr (h c (by simp[Op.operands])),evK_congr (h a (by simp[Op.operands])),evK_congr (h b (by simp[Op.operands]))]
 · rw[evK_congr (h _ (by simp[Op.operands]))]
 · rename_i op T x y yT
   rw[evK_congr (h x (by simp[Op.operands]))]
   have:∀a,boK P n op T y e a K=boK P n op T y e' a K:=by
     intro a
     unfold boK
     split
     · rfl
     · rw[evK_congr (h y (by simp[Op.operands]))]
   simp only[this]
 · rw[evK_congr (h _ (by simp[Op.operands]))]
 · rw[evK_congr (h _ (by simp[Op.operands]))]
 · split
   · rw[evK_congr (h _ (by simp[Op.operands]))]
   · rfl
 · rw[evK_congr (h _ (by simp[Op.operands]))]
 · rename_i T x ix
   rw[evK_congr (h x (by simp[Op.operands])),evK_congr (h ix (by simp[Op.operands]))]
 · rename_i T x ix
   rw[evK_congr (h x (by simp[Op.operands])),evK_congr (h ix (by simp[Op.operands]))]
 · rw[evK_congr (h _ (by simp[Op.operands]))]
 · rename_i T x lo hi mx
   rw[evK_congr (h x (by simp[Op.operands]))]
   rw[oOp_congr (x:=lo) (fun y hy=>h y (by simp[Op.operands,hy])),oOp_congr (x:=hi) (fun y hy=>h y (by simp[Op.operands,hy])),
     oOp_congr (x:=mx) (fun y hy=>h y (by simp[Op.operands,hy]))]
 · rename_i g first captured
   rw[evKs_congr captured.toList (fun x hx=>h x (by simp[Op.operands] at hx ⊢;exact .inr hx))]
 · split
   · rfl
   · rw[evT_congr (h _ (by simp[Op.operands]))]
   · rfl
 · rename_i T ps
   rw[ptK_congr ps.toList (fun x hx=>h x.2 (by simp only[Op.operands];simp only[List.mem_map];exact⟨x,hx,rfl⟩))]
 · rename_i b args ats
   rw[evKs_congr args.toList (fun x hx=>h x (by simp[Op.operands,Call.operands] at hx ⊢;exact hx))]
 · rfl
theorem opK_congr {o:Op} {ty:TypeId} (h:∀x∈o.operands.toList,Agr e e' x):opK P n o ty e=opK P n o ty e':=by
 funext hp K
 unfold opK
 split
 · rw[evK_congr (h _ (by simp[Op.operands]))]
 · rename_i T a x
   rw[evK_congr (h a (by simp[Op.operands])),evT_congr (x:=x) (h x (by simp[Op.operands]))]
 · rw[evT_congr (h _ (by simp[Op.operands]))]
 · rfl
 · rename_i T len ps
   rw[ptK_congr ps.toList (fun x hx=>h x.2 (by simp only[Op.operands];simp only[List.mem_map];exact⟨x,hx,rfl⟩))]
 · rename_i T l c
   rw[evK_congr (h l (by simp[Op.operands])),evK_congr (x:=c) (h c (by simp[Op.operands]))]
 · rfl
 · rename_i args ats
   rw[evAs_congr args.toList ats.toList (fun x hx=>h x (by simp[Op.operands,Call.operands] at hx ⊢;exact hx))]
 · rename_i args ats
   rw[evAs_congr args.toList ats.toList (fun x hx=>h x (by simp[Op.operands,Call.operands] at hx ⊢;exact hx))]
 · rename_i args ats
   rw[evAs_congr args.toList ats.toList (fun x hx=>h x (by simp[Op.operands,Call.operands] at hx ⊢;exact hx))]
 · rename_i T m k x
   rw[evK_congr (h m (by simp[Op.operands])),evK_congr (x:=k) (h k (by simp[Op.operands]))]
   have e1:∀(ty:Ty) (K:SV→Prop),evT n ty e x K=evT n ty e' x K:=fun ty K=>by rw[evT_congr (x:=x) (h x (by simp[Op.operands]))]
   simp only[e1]
 · rename_i f args ats
   rw[evK_congr (h f (by simp[Op.operands,Call.operands]))]
   rw[evAs_congr args.toList ats.toList (fun x hx=>h x (by simp[Op.operands,Call.operands] at hx ⊢;exact .inr hx))]
 · rw[pureK_congr h]
end
/-! ## Guards -/
def gdK (n:Nat) (all:Array Oper) (o:Oper) (e:Env):Option Bool :=
 match o.guard with
 | none=>some true
 | some (j,want)=>match (all[j]?).bind (·.dst) with
   | none=>none
   | some d=>match (if d<n then e d else none) with
     | some (.b t)=>some (t==want)
     | some .no=>some false
     | _=>none
def runK (P:Program) (n:Nat) (all:Array Oper) (o:Oper) (e:Env) (h:Hp) (K:SV→Hp→Prop):Prop :=
 match gdK n all o e with
 | some true=>opK P n o.op o.type e h K
 | some false=>K .no h
 | none=>False
def stepE (P:Program) (n:Nat) (all:Array Oper) (o:Oper) (e:Env) (h:Hp) (K:Env→SV→Hp→Prop):Prop :=
 match o.guard with
 | none=>opK P n o.op o.type e h (K e)
 | some (j,want)=>match (all[j]?).bind (·.dst) with
   | none=>False
   | some d=>match (if d<n then e d else none) with
     | some (.b t)=>ifB t
         (cond want (opK P n o.op o.type (put e d (.b true)) h (K (put e d (.b true)))) (K (put e d (.b true)) .no h))
         (cond want (K (put e d (.b false)) .no h) (opK P n o.op o.type (put e d (.b false)) h (K (put e d (.b false)))))
     | some .no=>K e .no h
     | _=>False
theorem put_self {e:Env} {d:Nat} {s:SV} (h:e d=some s):put e d s=e:=by
 funext x;unfold put;split
 · rename_i hx;subst hx;exact h.symm
 · rfl
theorem stepE_eq (P:Program) (n:Nat) (all:Array Oper) (o:Oper) (e:Env) (h:Hp) (K:Env→SV→Hp→Prop):stepE P n all o e h K=runK P n all o e h (K e):=by
 unfold stepE runK gdK
 split
 · rfl
 · rename_i j want hg
   split
   · rfl
   · rename_i d _
     by_cases hd:d<n
     · simp only[hd,if_true]
       cases he:e d with
       | none=>rfl
       | some s =>
         cases s<;>try rfl
         rename_i t
         have:=put_self he
         cases t
         · simp only[ifB,cond_false,this]
           cases want<;>rfl
         · simp only[ifB,cond_true,this]
           cases want<;>rfl
     · simp only[hd,if_false]
theorem runK_step {P:Program} {n:Nat} {all:Array Oper} {o:Oper} {e:Env} {h:Hp} {K:SV→Hp→Prop} (hk:runK P n all o e h K) {a:Act} (g:Good n e a) {w:World} (c:Cov h w)
   {ro:Option Nat} {mm:Nat} {next:Act→World→Prop} {Q:Exit→Act→World→Prop} (hn:∀r h' w',K r h'→Cov h' w'→Grow h h' w w'→next (a.put o.dst r.val) w') :
   if Region.wanted o (yielded all a.tmps) then o.wpIn (fen ro) mm P a w next Q else (∀f,o.about P w a.eval=some f→(fen ro).fn f)∧next (a.put o.dst undef) w:=by
 have hw:∀b,gdK n all o e=some b→Region.wanted o (yielded all a.tmps)=b:=by
   intro b hb
   unfold gdK at hb
   unfold Region.wanted
   cases hg:o.guard with
   | none=>simp[hg] at hb;simp[hb]
   | some jw =>
     obtain⟨j,want⟩:=jw
     simp only[hg] at hb
     simp only
     split at hb
     · cases hb
     · rename_i d hd
       have hy:∀s,(if d<n then e d else none)=some s→yielded all a.tmps j=match s.val with| .bool b=>some b|_=>none:=by
         intro s hs
         split at hs
         · rename_i hlt
           have h1:=g.has d s hlt hs
           have h2:a.tmps[d]? =some s.val:=by
             have h3:d<a.tmps.size:=by rw[g.size];exact hlt
             rw[Array.getElem?_eq_getElem h3]
             simp[Array.getD,h3] at h1
             rw[h1]
           unfold yielded
           simp only[hd,Option.bind_some,h2]
           generalize s.val=v
           cases v<;>rfl
         · cases hs
       split at hb
       · rename_i t ht
         rw[hy _ ht]
         cases hb
         cases t<;>cases want<;>rfl
       · rename_i ht
         rw[hy _ ht]
         cases hb
         rfl
       · cases hb
 unfold runK at hk
 split at hk
 · rename_i hb
   rw[hw _ hb,if_pos rfl]
   exact(opK_ran hk g c).wp (opK_nodefer hk) hn
 · rename_i hb
   rw[hw _ hb]
   exact⟨fun _ _=>trivial,hn .no h w hk c (Grow.refl _ _)⟩
 · exact hk.elim
/-! ## Which pairs may change places -/
def uses (all:Array Oper) (o:Oper):List Nat :=
 (o.op.operands.toList.filterMap fun| .tmp t=>some t|_=>none) ++
 (match o.guard with
  | some (g,_)=>((all[g]?).bind (·.dst)).toList
  | none=>[])
theorem agr_put {all:Array Oper} {o:Oper} {e:Env} {d:Option Nat} {s:SV} (h:∀t,d=some t→t∉uses all o):∀x∈o.op.operands.toList,Agr (putO e d s) e x:=by
 intro x hx t ht
 subst ht
 cases d with
 | none=>rfl
 | some d =>
   simp only[putO,put]
   rw[if_neg]
   intro e'
   subst e'
   exact h _ rfl (List.mem_append_left _ (List.mem_filterMap.2 ⟨_,hx,rfl⟩))
theorem gdK_put {n:Nat} {all:Array Oper} {o:Oper} {e:Env} {d:Option Nat} {s:SV} (h:∀t,d=some t→t∉uses all o):gdK n all o (putO e d s)=gdK n all o e:=by
 cases d with
 | none=>rfl
 | some d =>
   unfold gdK
   split
   · rfl
   · rename_i j want hg
     split
     · rfl
     · rename_i d' hd'
       have hne:d'≠d:=by
         intro e'
         subst e'
         exact h _ rfl (List.mem_append_right _ (by simp[hg,hd']))
       simp only[putO,put,if_neg hne]
theorem runK_put {P:Program} {n:Nat} {all:Array Oper} {o:Oper} {e:Env} {d:Option Nat} {s:SV} (h:∀t,d=some t→t∉uses all o) :
   runK P n all o (putO e d s)=runK P n all o e:=by
 funext hp K
 unfold runK
 rw[gdK_put h,opK_congr (agr_put h)]
theorem adr_put {n:Nat} {all:Array Oper} {o:Oper} {e:Env} {d:Option Nat} {s:SV} (h:∀t,d=some t→t∉uses all o):adr n o.op (putO e d s)=adr n o.op e:=by
 have:=agr_put (e:=e) (s:=s) h
 unfold adr
 split
 · rename_i T t ho
   have h1:=this (.tmp t) (by simp[ho,Op.operands]) t rfl
   rw[h1]
 · rfl
 · rfl
theorem putO_comm {e:Env} {d d':Option Nat} (h:∀t,d=some t→d'≠some t) (x y:SV):putO (putO e d x) d' y=putO (putO e d' y) d x:=by
 cases d with
 | none=>rfl
 | some t =>
   cases d' with
   | none=>rfl
   | some u=>exact put_comm e (fun e'=>h t rfl (by rw[e'])) x y
def clsComm:Cls→Cls→Bool
 | _,.pur=>true
 | .pur,_=>true
 | .read,.read=>true
 | .read,.act=>true
 | .read,.new=>true
 | .act,.new=>true
 | .new,.new=>true
 | _,_=>false
def comm (all:Array Oper) (y x:Oper):Bool :=
 (match x.dst with
  | some d=>!(uses all y).contains d&&y.dst != some d
  | none=>true) &&
 (match y.dst with
  | some d=>!(uses all x).contains d
  | none=>true)&&clsComm (cls y.op) (cls x.op)
theorem comm_spec {all:Array Oper} {y x:Oper} (h:comm all y x=true) :
   (∀d,x.dst=some d→d∉uses all y)∧(∀d,x.dst=some d→y.dst≠some d)∧(∀d,y.dst=some d→d∉uses all x)∧clsComm (cls y.op) (cls x.op)=true:=by
 simp only[comm,Bool.and_eq_true] at h
 obtain⟨⟨h1,h2⟩,h3⟩:=h
 refine⟨fun d hd=>?_,fun d hd=>?_,fun d hd=>?_,h3⟩
 · simp[hd] at h1;exact h1.1
 · simp[hd] at h1;exact h1.2
 · simp[hd] at h2;exact h2
inductive Kind (P:Program) (n:Nat) (all:Array Oper) (o:Oper) (e:Env) (h:Hp) (K:SV→Hp→Prop):Prop where
 | pur (r:SV) (hr:∀h' K',runK P n all o e h' K'↔K' r h') (hno:adr n o.op e=none∨r= .no)
 | read (q:Pt) (r:SV) (hc:cls o.op= .read) (ha:adr n o.op e=some q) (hk:K r h) (hs:Stands h q r) (hn:r≠.no) (hg:∀h' K',Stands h' q r→K' r h'→runK P n all o e h' K')
 | new (hc:cls o.op= .new) (ha:adr n o.op e=none) (hn:IsNew (runK P n all o e))
 | act (hc:cls o.op= .act) (ha:adr n o.op e=none) (hm:∀K',(∀r h',K r h'→K' r h')→runK P n all o e h K') (hb:∀b ob,h b=none→runK P n all o e (upd h b ob) (Beside b ob K))
     (hB:Bdd h→runK P n all o e h fun r h'=>K r h'∧Bdd h')
theorem adr_none {n:Nat} {o:Op} {e:Env} (h:cls o≠.read):adr n o e=none:=by
 unfold adr
 split
 · simp[cls] at h
 · simp[cls] at h
 · rfl
theorem runK_kind {P:Program} {n:Nat} {all:Array Oper} {o:Oper} {e:Env} {h:Hp} {K:SV→Hp→Prop} (hk:runK P n all o e h K):Kind P n all o e h K:=by
 cases hg:gdK n all o e with
 | none=>simp[runK,hg] at hk
 | some b =>
   cases b with
   | false=>exact .pur .no (fun h' K'=>by simp[runK,hg]) (.inr rfl)
   | true =>
     have e1:∀h' K',runK P n all o e h' K'=opK P n o.op o.type e h' K':=fun h' K'=>by simp[runK,hg]
     rw[e1] at hk
     cases hc:cls o.op with
     | pur =>
       rw[opK_pur hc] at hk
       obtain⟨r,hr⟩:=pureK_det _ hk
       exact .pur r (fun h' K'=>by rw[e1,opK_pur hc];exact hr _) (.inl (adr_none (by rw[hc];decide)))
     | read =>
       obtain⟨q,r,ha,hk,hs,hn,hgen⟩:=opK_read hc hk
       exact .read q r hc ha hk hs hn fun h' K' h1 h2=>by rw[e1];exact hgen h' K' h1 h2
     | new =>
       obtain⟨ob,mk,h1⟩:=opK_new hc hk
       exact .new hc (adr_none (by rw[hc];decide)) ⟨ob,mk,fun h' K'=>by rw[e1];exact h1 h' K'⟩
     | act =>
       obtain⟨h1,h2,h3⟩:=opK_act hc hk
       exact .act hc (adr_none (by rw[hc];decide)) (fun K' hm=>by rw[e1];exact h1 K' hm) (fun b ob hb=>by rw[e1];exact h2 b ob hb) (fun hB=>by rw[e1];exact h3 hB)
theorem runK_mono {P:Program} {n:Nat} {all:Array Oper} {o:Oper} {e:Env} {h:Hp} {K K':SV→Hp→Prop} (hk:runK P n all o e h K) (hm:∀r h',K r h'→K' r h'):runK P n all o e h K':=by
 cases runK_kind hk with
 | pur r hr _=>exact(hr h K').2 (hm _ _ ((hr h K).1 hk))
 | read q r _ _ hk' hs _ hg=>exact hg h K' hs (hm _ _ hk')
 | new _ _ hn=>obtain⟨ob,mk,h1⟩:=hn;exact(h1 h K').2 fun b hb=>hm _ _ ((h1 h K).1 hk b hb)
 | act _ _ h1 _ _=>exact h1 K' hm
theorem runK_bdd {P:Program} {n:Nat} {all:Array Oper} {o:Oper} {e:Env} {h:Hp} {K:SV→Hp→Prop} (hk:runK P n all o e h K) (hB:Bdd h):runK P n all o e h fun r h'=>K r h'∧Bdd h':=by
 cases runK_kind hk with
 | pur r hr _=>exact(hr h _).2 ⟨(hr h K).1 hk,hB⟩
 | read q r _ _ hk' hs _ hg=>exact hg h _ hs ⟨hk',hB⟩
 | new _ _ hn=>obtain⟨ob,mk,h1⟩:=hn;exact(h1 h _).2 fun b hb=>⟨(h1 h K).1 hk b hb,hB.upd _ _⟩
 | act _ _ _ _ h3=>exact h3 hB
theorem Good.some (n:Nat) (e:Env):∃a,Good n e a:=by
 refine⟨{ tmps:=Array.ofFn (n:=n) fun i=>((e i.1).map SV.val).getD undef,defers:=[] },by simp,fun t s ht hs=>?_⟩
 simp[Array.getD,ht,hs]
theorem runK_some {P:Program} {n:Nat} {all:Array Oper} {o:Oper} {e:Env} {h:Hp} {K:SV→Hp→Prop} (hk:runK P n all o e h K) (hB:Bdd h):∃r h',K r h'∧Bdd h':=by
 unfold runK at hk
 split at hk
 · obtain⟨a,g⟩:=Good.some n e
   obtain⟨w,c⟩:=hB.world
   cases opK_ran hk g c with
   | value r h' w' hk hr c' g'=>exact⟨r,h',hk,c'.bdd⟩
   | skip h' w' hk hr c' g'=>exact⟨.no,h',hk,c'.bdd⟩
   | enter f args hr hc =>
     obtain⟨e',w',fr,⟨r,h',_,hk,c',_⟩,_⟩:=hc []
     exact⟨r,h',hk,c'.bdd⟩
   | round l f tmps assign body hr hc =>
     obtain⟨e',w',⟨r,h',_,hk,c',_⟩,_⟩:=hc.2 default [] (fun _ h=>by cases h)
     exact⟨r,h',hk,c'.bdd⟩
 · exact⟨.no,h,hk,hB⟩
 · exact hk.elim
theorem runK_keep {P:Program} {n:Nat} {all:Array Oper} {o:Oper} {e:Env} {h:Hp} {F:SV→Hp→Prop} (hk:runK P n all o e h F) {R:Hp→Prop} (h0:R h)
   (hup:∀h b ob,h b=none→R h→R (upd h b ob)) (hact:cls o.op= .act→∀s h2,F s h2→R h2):runK P n all o e h fun s h2=>F s h2∧R h2:=by
 cases runK_kind hk with
 | pur r hr _=>exact(hr h _).2 ⟨(hr h F).1 hk,h0⟩
 | read q r _ _ hk' hs _ hg=>exact hg h _ hs ⟨hk',h0⟩
 | new _ _ hn=>obtain⟨ob,mk,h1⟩:=hn;exact(h1 h _).2 fun b hb=>⟨(h1 h F).1 hk b hb,hup _ _ _ hb h0⟩
 | act hc _ h1 _ _=>exact h1 _ fun r h' hF=>⟨hF,hact hc _ _ hF⟩
/-! ## One order, with what is owed: what was read still stands where it may be read later -/
def stdK (h:Hp) (q:Pt):SV→Prop
 | .ws _ c=>rdW h q.b q.o c
 | s=>rdL h q.b q.o (SV.cells s)
theorem stdK_iff (h:Hp) (q:Pt) (s:SV):stdK h q s↔Stands h q s:=by
 unfold stdK Stands
 split
 · rename_i n c
   rw[rdL_iff]
   constructor
   · intro hc i hi
     have hi':i<n:=by simpa [SV.cells] using hi
     rw[hc i hi'];simp[SV.cells]
   · intro hc i hi
     rw[hc i (by simpa [SV.cells] using hi)];simp[SV.cells]
 · exact Iff.rfl
def oblK (h:Hp) (m:Nat):List (Nat×Pt×SV)→Prop→Prop
 | [],A=>A
 | (j,q,s)::l,A=>if m.testBit j=true then oblK h m l A else stdK h q s∧oblK h m l A
theorem oblK_iff (h:Hp) (m:Nat) (A:Prop):∀l,oblK h m l A↔(∀x∈l,m.testBit x.1=false→Stands h x.2.1 x.2.2)∧A
 | []=>by simp[oblK]
 | (j,q,s)::l=>by
   simp only[oblK]
   cases hj:m.testBit j with
   | true =>
     simp only[if_true,oblK_iff h m A l,List.mem_cons,forall_eq_or_imp,hj]
     simp
   | false =>
     simp only[Bool.false_eq_true,if_false,oblK_iff h m A l,List.mem_cons,forall_eq_or_imp,hj,stdK_iff]
     constructor
     · rintro⟨h1,h2,h3⟩;exact⟨⟨fun _=>h1,h2⟩,h3⟩
     · rintro⟨⟨h1,h2⟩,h3⟩;exact⟨h1 trivial,h2,h3⟩
def oblC (c:Cls) (h:Hp) (m:Nat) (prev:List (Nat×Pt×SV)) (A:Prop):Prop :=
 match c with
 | .act=>oblK h m prev A
 | _=>A
theorem oblC_iff (c:Cls) (h:Hp) (m:Nat) (prev:List (Nat×Pt×SV)) (A:Prop) :
   oblC c h m prev A↔(c= .act→∀x∈prev,m.testBit x.1=false→Stands h x.2.1 x.2.2)∧A:=by
 cases c<;>simp[oblC,oblK_iff]
def addP (n:Nat) (i:Nat) (o:Op) (e:Env) (r:SV) (prev:List (Nat×Pt×SV)):List (Nat×Pt×SV) :=
 match adr n o e,r with
 | some _,.no=>prev
 | some q,r=>(i,q,r)::prev
 | none,_=>prev
def drawK (P:Program) (n:Nat) (all:Array Oper) (M:List Nat):List (Nat×Pt×SV)→List Nat→Env→Hp→(Env→Hp→Prop)→Prop
 | _,[],e,h,K=>K e h
 | prev,i::rem,e,h,K =>
   match all[i]? with
   | none=>False
   | some o=>stepE P n all o e h fun e' r h' =>
       oblC (cls o.op) h' (M.getD i 0) prev (drawK P n all M (addP n i o.op e' r prev) rem (putO e' o.dst r) h' K)
section
variable {P:Program} {n:Nat} {all:Array Oper} {M:List Nat}
theorem drawK_cons {prev:List (Nat×Pt×SV)} {i:Nat} {rem:List Nat} {e:Env} {h:Hp} {K:Env→Hp→Prop} {o:Oper} (ho:all[i]? =some o) :
   drawK P n all M prev (i::rem) e h K=runK P n all o e h fun r h' =>
     ((cls o.op= .act→∀x∈prev,(M.getD i 0).testBit x.1=false→Stands h' x.2.1 x.2.2)∧drawK P n all M (addP n i o.op e r prev) rem (putO e o.dst r) h' K):=by
 simp only[drawK,ho,stepE_eq,oblC_iff]
theorem addP_sub {i:Nat} {o:Op} {e:Env} {r:SV} {prev prev':List (Nat×Pt×SV)} (h:∀x∈prev',x∈prev):∀x∈addP n i o e r prev',x∈addP n i o e r prev:=by
 unfold addP
 split
 · exact h
 · intro x hx
   rcases List.mem_cons.1 hx with h1|h1
   · rw[h1];exact List.mem_cons_self
   · exact List.mem_cons_of_mem _ (h x h1)
 · exact h
theorem drawK_anti:∀(rem:List Nat) (prev prev':List (Nat×Pt×SV)) (e:Env) (h:Hp) (K:Env→Hp→Prop),(∀x∈prev',x∈prev) →
   drawK P n all M prev rem e h K→drawK P n all M prev' rem e h K
 | [],_,_,_,_,_,_,hk=>hk
 | i::rem,prev,prev',e,h,K,hs,hk=>by
   cases ho:all[i]? with
   | none=>simp[drawK,ho] at hk
   | some o =>
     rw[drawK_cons ho] at hk ⊢
     exact runK_mono hk fun r h' ⟨h1,h2⟩=>⟨fun hc x hx hm=>h1 hc x (hs x hx) hm,drawK_anti rem _ _ _ _ K (addP_sub hs) h2⟩
theorem addP_none {i:Nat} {o:Op} {e:Env} {r:SV} {prev:List (Nat×Pt×SV)} (h:adr n o e=none∨r= .no):addP n i o e r prev=prev:=by
 unfold addP
 rcases h with h|h
 · rw[h]
 · subst h;cases adr n o e<;>rfl
theorem addP_some {i:Nat} {o:Op} {e:Env} {r:SV} {q:Pt} {prev:List (Nat×Pt×SV)} (h:adr n o e=some q) (hr:r≠.no):addP n i o e r prev=(i,q,r)::prev:=by
 unfold addP
 rw[h]
 split
 · rename_i hn;exact absurd rfl hr
 · rename_i hq _;cases hq;rfl
 · rename_i hq;cases hq
theorem drawK_move {i:Nat} {x:Oper} (hx:all[i]? =some x):∀(pre post:List Nat) (prev:List (Nat×Pt×SV)) (e:Env) (h:Hp) (K:Env→Hp→Prop),Bdd h →
   (∀j∈pre,∃y,all[j]? =some y∧comm all y x=true∧(M.getD i 0).testBit j=false) →
   drawK P n all M prev (pre++i::post) e h K →
   runK P n all x e h fun s h1=>(cls x.op= .act→∀z∈prev,(M.getD i 0).testBit z.1=false→Stands h1 z.2.1 z.2.2)∧drawK P n all M prev (pre++post) (putO e x.dst s) h1 K
 | [],post,prev,e,h,K,hB,_,hk=>by
   rw[List.nil_append,drawK_cons hx] at hk
   exact runK_mono hk fun r h' ⟨h1,h2⟩=>⟨h1,drawK_anti _ _ _ _ _ K (fun z hz=>by
     unfold addP
     split
     · exact hz
     · exact List.mem_cons_of_mem _ hz
     · exact hz) h2⟩
 | j::pre,post,prev,e,h,K,hB,hpre,hk=>by
   obtain⟨y,hy,hcomm,hbit⟩:=hpre j List.mem_cons_self
   have hpre':∀j∈pre,∃y,all[j]? =some y∧comm all y x=true∧(M.getD i 0).testBit j=false:=fun j' hj'=>hpre j' (List.mem_cons_of_mem _ hj')
   obtain⟨c1,c2,c3,c4⟩:=comm_spec hcomm
   rw[List.cons_append,drawK_cons hy] at hk
   have hk1:=runK_mono (runK_bdd hk hB) fun r h' ⟨⟨h1,h2⟩,hB'⟩=>And.intro h1 (drawK_move hx pre post _ _ _ K hB' hpre' h2)
   have hswap:∀r s,putO (putO e y.dst r) x.dst s=putO (putO e x.dst s) y.dst r:=fun r s=>putO_comm (fun t ht e'=>c2 t e' ht) r s
   have hxput:∀r,runK P n all x (putO e y.dst r)=runK P n all x e:=fun r=>runK_put c3
   have hyput:∀s,runK P n all y (putO e x.dst s)=runK P n all y e:=fun s=>runK_put c1
   have hadr:∀s,adr n y.op (putO e x.dst s)=adr n y.op e:=fun s=>adr_put c1
   have haddP:∀s r prev,addP n j y.op (putO e x.dst s) r prev=addP n j y.op e r prev:=fun s r prev=>by unfold addP;rw[hadr]
   have goal_eq:∀s h1,drawK P n all M prev (j::pre++post) (putO e x.dst s) h1 K=runK P n all y e h1 fun r h2 =>
       ((cls y.op= .act→∀z∈prev,(M.getD j 0).testBit z.1=false→Stands h2 z.2.1 z.2.2)∧drawK P n all M (addP n j y.op e r prev) (pre++post) (putO (putO e y.dst r) x.dst s) h2 K):=by
     intro s h1
     rw[List.cons_append,drawK_cons hy,hyput s]
     congr 1
     funext r h2
     rw[haddP,hswap]
   simp only[hxput] at hk1
   simp only[goal_eq]
   have howe:∀h b ob,h b=none→(cls y.op= .act→∀z∈prev,(M.getD j 0).testBit z.1=false→Stands h z.2.1 z.2.2) →
       (cls y.op= .act→∀z∈prev,(M.getD j 0).testBit z.1=false→Stands (upd h b ob) z.2.1 z.2.2):=fun h b ob hb hh hc z hz hm=>(hh hc z hz hm).beside ob hb
   cases runK_kind hk1 with
   | pur r hr hno =>
     obtain⟨ho,hk2⟩:=(hr h _).1 hk1
     have hk3:=runK_keep hk2 ho howe (fun hc=>by
       intro s h2 _ hcy
       rw[hc,hcy] at c4;simp[clsComm] at c4)
     refine runK_mono hk3 fun s h2 ⟨⟨h3,h4⟩,h5⟩=>?_
     rw[addP_none hno] at h3
     exact⟨h3,(hr h2 _).2 ⟨h5,h4⟩⟩
   | read q r hc ha hk2 hs hn hg =>
     obtain⟨ho,hk2⟩:=hk2
     rw[addP_some ha hn] at hk2
     have hk3:=runK_keep hk2 (R:=fun h=>Stands h q r) hs (fun h b ob hb hh=>hh.beside ob hb) (fun hcx s h2 hF=>hF.1 hcx (j,q,r) List.mem_cons_self hbit)
     refine runK_mono hk3 fun s h2 ⟨⟨h3,h4⟩,h5⟩=>⟨fun hcx z hz hm=>h3 hcx z (List.mem_cons_of_mem _ hz) hm,hg h2 _ h5 ⟨(fun hcy=>by rw[hc] at hcy;cases hcy),?_⟩⟩
     rw[addP_some ha hn];exact h4
   | new hc ha hn =>
     obtain⟨ob,mk,hiff⟩:=hn
     have hk2:=(hiff h _).1 hk1
     have hnx:cls x.op≠.act:=fun hcx=>by rw[hc,hcx] at c4;simp[clsComm] at c4
     have hnr:cls x.op≠.read:=fun hcx=>by rw[hc,hcx] at c4;simp[clsComm] at c4
     obtain⟨b0,hb0⟩:=hB.fresh
     cases runK_kind (hk2 b0 hb0).2 with
     | pur s hs _ =>
       refine(hs h _).2 ⟨fun hcx=>absurd hcx hnx,(hiff h _).2 fun b hb=>?_⟩
       obtain⟨h3,h4⟩:=hk2 b hb
       exact⟨h3,((hs _ _).1 h4).2⟩
     | read _ _ hcx _ _ _ _ _=>exact absurd hcx hnr
     | act hcx _ _ _ _=>exact absurd hcx hnx
     | new hcx _ hnn =>
       obtain⟨ob',mk',hiff'⟩:=hnn
       refine(hiff' h _).2 fun b' hb'=>⟨fun hcx'=>absurd hcx' hnx,(hiff _ _).2 fun b hb=>?_⟩
       have hne:b≠b':=by intro e';subst e';rw[upd_same] at hb;cases hb
       rw[upd_ne _ _ hne] at hb
       obtain⟨h3,h4⟩:=hk2 b hb
       have h5:=((hiff' _ _).1 h4) b' (by rw[upd_ne _ _ (Ne.symm hne)];exact hb')
       rw[upd_comm h _ _ (Ne.symm hne)]
       exact⟨(fun hcy=>by rw[hc] at hcy;cases hcy),h5.2⟩
   | act hc ha hm hb' hB' =>
     have hnx:cls x.op≠.act:=fun hcx=>by rw[hc,hcx] at c4;simp[clsComm] at c4
     have hnr:cls x.op≠.read:=fun hcx=>by rw[hc,hcx] at c4;simp[clsComm] at c4
     obtain⟨r0,h0,⟨_,hk0⟩,_⟩:=runK_some hk1 hB
     cases runK_kind hk0 with
     | pur s hs _ =>
       exact(hs h _).2 ⟨fun hcx=>absurd hcx hnx,hm _ fun r h' ⟨h3,h4⟩=>⟨h3,((hs _ _).1 h4).2⟩⟩
     | read _ _ hcx _ _ _ _ _=>exact absurd hcx hnr
     | act hcx _ _ _ _=>exact absurd hcx hnx
     | new hcx _ hnn =>
       obtain⟨ob',mk',hiff'⟩:=hnn
       refine(hiff' h _).2 fun b hb=>⟨fun hcx'=>absurd hcx' hnx,?_⟩
       refine runK_mono (hb' b ob' hb) ?_
       rintro r h2 ⟨h',rfl,hbn,h3,h4⟩
       exact⟨howe _ _ _ hbn h3,((hiff' _ _).1 h4 b hbn).2⟩
end
/-! ## What must come first -/
inductive Bef (all:Array Oper):Nat→Nat→Prop where
 | edge {j:Nat} {o:Oper} {ed:Edge} (h:all[j]? =some o) (he:ed∈o.after.toList) (hb:Region.binds .any ed=true):Bef all ed.on j
 | trans {i k j:Nat} (h:Bef all i k) {o:Oper} {ed:Edge} (ho:all[j]? =some o) (he:ed∈o.after.toList) (hb:Region.binds .any ed=true) (hk:ed.on=k):Bef all i j
def mskE (acc:List Nat):List Edge→Nat→Nat
 | [],s=>s
 | ed::l,s=>mskE acc l (if Region.binds .any ed=true then s ||| 2 ^ ed.on ||| acc.getD ed.on 0 else s)
def ancs:List Oper→List Nat→List Nat
 | [],acc=>acc
 | o::l,acc=>ancs l (acc++[mskE acc o.after.toList 0])
theorem mskE_bit (acc:List Nat) (i:Nat):∀(l:List Edge) (s:Nat),(mskE acc l s).testBit i=true →
   s.testBit i=true∨∃ed∈l,Region.binds .any ed=true∧(ed.on=i∨(acc.getD ed.on 0).testBit i=true)
 | [],s,h=> .inl h
 | ed::l,s,h=>by
   simp only[mskE] at h
   rcases mskE_bit acc i l _ h with h1|⟨ed',he,hb,h2⟩
   · split at h1
     · rename_i hb
       simp only[Nat.testBit_or,Nat.testBit_two_pow,Bool.or_eq_true,decide_eq_true_eq] at h1
       rcases h1 with (h1|h1)|h1
       · exact .inl h1
       · exact .inr ⟨ed,List.mem_cons_self,hb,.inl h1⟩
       · exact .inr ⟨ed,List.mem_cons_self,hb,.inr h1⟩
     · exact .inl h1
   · exact .inr ⟨ed',List.mem_cons_of_mem _ he,hb,h2⟩
theorem ancs_bef (all:Array Oper):∀(l:List Oper) (acc:List Nat),(∀k,l[k]? =all[acc.length+k]?) →
   (∀j i,(acc.getD j 0).testBit i=true→Bef all i j)→∀j i,((ancs l acc).getD j 0).testBit i=true→Bef all i j
 | [],acc,_,h=>h
 | o::l,acc,hl,h=>by
   simp only[ancs]
   refine ancs_bef all l _ (fun k=>?_) ?_
   · have:=hl (k+1)
     simpa [Nat.add_assoc,Nat.add_comm 1] using this
   · intro j i hb
     have ho:all[acc.length]? =some o:=by simpa using (hl 0).symm
     rcases Nat.lt_trichotomy j acc.length with hj|hj|hj
     · have e:(acc++[mskE acc o.after.toList 0]).getD j 0=acc.getD j 0:=by
         have:(acc++[mskE acc o.after.toList 0])[j]? =acc[j]?:=List.getElem?_append_left hj
         simp only[List.getD,this]
       rw[e] at hb
       exact h j i hb
     · subst hj
       have e:(acc++[mskE acc o.after.toList 0]).getD acc.length 0=mskE acc o.after.toList 0:=by simp[List.getD]
       rw[e] at hb
       rcases mskE_bit acc i _ _ hb with h1|⟨ed,he,hbd,h2|h2⟩
       · simp at h1
       · subst h2;exact .edge ho he hbd
       · exact .trans (h _ _ h2) ho he hbd rfl
     · have e:(acc++[mskE acc o.after.toList 0]).getD j 0=0:=by
         have:(acc++[mskE acc o.after.toList 0])[j]? =none:=by rw[List.getElem?_eq_none_iff];simp;omega
         simp[List.getD,this]
       rw[e] at hb;simp at hb
def pairsOk (all:Array Oper) (M:List Nat):List Nat→Bool
 | []=>true
 | p::l=>(l.all fun q=>(M.getD q 0).testBit p||(match all[p]?,all[q]? with|some y,some x=>comm all y x|_,_=>false))&&pairsOk all M l
def PairOk (all:Array Oper) (M:List Nat) (p q:Nat):Prop:=(M.getD q 0).testBit p=true∨∃y x,all[p]? =some y∧all[q]? =some x∧comm all y x=true
theorem pairsOk_pairwise {all:Array Oper} {M:List Nat}:∀ {l:List Nat},pairsOk all M l=true→l.Pairwise (PairOk all M)
 | [],_=> .nil
 | p::l,h=>by
   simp only[pairsOk,Bool.and_eq_true,List.all_eq_true,Bool.or_eq_true] at h
   refine .cons (fun q hq=>?_) (pairsOk_pairwise h.2)
   rcases h.1 q hq with h1|h1
   · exact .inl h1
   · split at h1
     · rename_i y x hy hx;exact .inr ⟨y,x,hy,hx,h1⟩
     · cases h1
def fitC (all:Array Oper) (C:List Nat):Bool :=
 (C.length==all.size)&&C.all (fun i=>decide (i<all.size))&&decide C.Nodup&&pairsOk all (ancs all.toList []) C &&
 (all.toList.zipIdx.all fun (o,i)=>o.after.toList.all fun ed=>!Region.binds .any ed||decide (ed.on<i))
structure Left (all:Array Oper) (M:List Nat) (rem:List Nat) (listed:Array Bool):Prop where
 size:listed.size=all.size
 mem:∀i,i<all.size→(listed.getD i true=false↔i∈rem)
 lt:∀i∈rem,i<all.size
 nodup:rem.Nodup
 pairs:rem.Pairwise (PairOk all M)
 closed:∀i j,Bef all i j→j<all.size→listed.getD j true=true→i<all.size→listed.getD i true=true
theorem Bef.lt {all:Array Oper} (hlex:∀(j:Nat) (o:Oper),all[j]? =some o→∀ed∈o.after.toList,Region.binds .any ed=true→ed.on<j) {i j:Nat} (h:Bef all i j):i<j:=by
 induction h with
 | edge h he hb=>exact hlex _ _ h _ he hb
 | trans h ho he hb hk ih=>have:=hlex _ _ ho _ he hb;omega
theorem exists_min:∀(l:List Nat),l≠[]→∃i∈l,∀j∈l,i≤j
 | [],h=>absurd rfl h
 | [x],_=>⟨x,List.mem_cons_self,by simp⟩
 | x::y::l,_=>by
   obtain⟨i,hi,hm⟩:=exists_min (y::l) (by simp)
   rcases Nat.le_total x i with h|h
   · exact⟨x,List.mem_cons_self,fun j hj=>by
       rcases List.mem_cons.1 hj with h1|h1
       · omega
       · have:=hm j h1;omega⟩
   · exact⟨i,List.mem_cons_of_mem _ hi,fun j hj=>by
       rcases List.mem_cons.1 hj with h1|h1
       · omega
       · exact hm j h1⟩
theorem nodup_le:∀(N:Nat) (l:List Nat),l.Nodup→(∀x∈l,x<N)→l.length≤N
 | 0,l,_,h=>by
   cases l with
   | nil=>simp
   | cons x l=>exact absurd (h x List.mem_cons_self) (by omega)
 | N+1,l,hn,h=>by
   by_cases hm:N∈l
   · have h1:=nodup_le N (l.erase N) (hn.erase N) (fun x hx=>by
       have hx2:=(List.Nodup.mem_erase_iff hn).1 hx
       have:=h x hx2.2
       omega)
     rw[List.length_erase_of_mem hm] at h1
     omega
   · have:=nodup_le N l hn (fun x hx=>by
       have h1:=h x hx
       have:x≠N:=fun e=>hm (e▸hx)
       omega)
     omega
section
variable {P:Program} {n:Nat} {all:Array Oper} {Q:Exit→Act→World→Prop}
theorem mem_ready {listed:Array Bool} {i:Nat}:i∈Region.ready .any all listed↔i<all.size∧listed.getD i true=false ∧
   ∃o,all[i]? =some o∧∀ed∈o.after.toList,Region.binds .any ed=true→listed.getD ed.on false=true:=by
 unfold Region.ready
 simp only[List.mem_filter,List.mem_range,Bool.and_eq_true,Bool.not_eq_true']
 constructor
 · rintro⟨h1,h2,h3⟩
   refine⟨h1,h2,all[i],by simp[h1],fun ed he hb=>?_⟩
   simp[h1] at h3
   obtain⟨k,hk,rfl⟩:=List.mem_iff_getElem.1 he
   have:=h3 k (by simpa using hk)
   have hb':Region.binds .any all[i].after[k]=true:=by simpa using hb
   simpa [hb'] using this
 · rintro⟨h1,h2,o,ho,h3⟩
   refine⟨h1,h2,?_⟩
   simp only[ho,Option.map_some,Option.getD_some]
   rw[←Array.all_toList,List.all_eq_true]
   intro ed he
   cases hb:Region.binds .any ed with
   | false=>rfl
   | true=>simp[h3 ed he hb]
theorem wpAny_of_draw {ro:Option Nat} {mm:Nat} {M:List Nat} (hM:∀j i,(M.getD j 0).testBit i=true→Bef all i j)
   (hlex:∀(j:Nat) (o:Oper),all[j]? =some o→∀ed∈o.after.toList,Region.binds .any ed=true→ed.on<j) (K:Env→Hp→Prop) :
   ∀(fuel:Nat) (rem:List Nat) (listed:Array Bool) (e:Env) (h:Hp) (a:Act) (w:World),rem.length≤fuel→Left all M rem listed→drawK P n all M [] rem e h K→Good n e a→Cov h w →
    (∀e' h' a' w',K e' h'→Good n e' a'→a'.defers=a.defers→Cov h' w'→Grow h h' w w'→Q .normal a' w')→wpAnyIn (fen ro) mm P .any all Q fuel listed a w:=by
 intro fuel
 induction fuel with
 | zero =>
   intro rem listed e h a w hl L hk g c hQ
   obtain rfl:rem=[]:=List.length_eq_zero_iff.1 (by omega)
   refine⟨?_,hQ e h a w hk g rfl c (Grow.refl _ _)⟩
   apply List.eq_nil_iff_forall_not_mem.2
   intro i hi
   obtain⟨h1,h2,_⟩:=mem_ready.1 hi
   have:=(L.mem i h1).1 h2
   simp at this
 | succ fuel ih =>
   intro rem listed e h a w hl L hk g c hQ
   refine⟨fun hnil=>?_,fun i hi=>?_⟩
   · by_cases hr:rem=[]
     · subst hr;exact hQ e h a w hk g rfl c (Grow.refl _ _)
     · exfalso
       obtain⟨i,hi,hmin⟩:=exists_min rem hr
       have hlt:=L.lt i hi
       have:i∈Region.ready .any all listed:=by
         refine mem_ready.2 ⟨hlt,(L.mem i hlt).2 hi,all[i],by simp[hlt],fun ed he hb=>?_⟩
         have h1:ed.on<i:=hlex i all[i] (by simp[hlt]) ed he hb
         have h2:ed.on<all.size:=by omega
         have h3:ed.on∉rem:=fun hh=>by have:=hmin _ hh;omega
         have h4:listed.getD ed.on true≠false:=fun hh=>h3 ((L.mem _ h2).1 hh)
         have h5:ed.on<listed.size:=by rw[L.size];exact h2
         simp[Array.getD,h5] at h4 ⊢
         exact h4
       rw[hnil] at this;simp at this
   · obtain⟨hlt,hnl,o,ho,hrd⟩:=mem_ready.1 hi
     have hir:=(L.mem i hlt).1 hnl
     obtain⟨pre,post,rfl⟩:=List.append_of_mem hir
     have hbl:∀j,Bef all j i→listed.getD j true=true:=by
       intro j hj
       have hji:=hj.lt hlex
       have key:∀k,k<all.size→listed.getD k false=true→listed.getD k true=true:=by
         intro k hk1 hk2
         have h5:k<listed.size:=by rw[L.size];exact hk1
         simpa [Array.getD,h5] using hk2
       cases hj with
       | edge h he hb =>
         rw[ho] at h;cases h
         have h1:=hlex i o ho _ he hb
         exact key _ (by omega) (hrd _ he hb)
       | trans h ho' he hb hk =>
         rw[ho] at ho';cases ho'
         have h1:=hlex i o ho _ he hb
         subst hk
         exact L.closed _ _ h (by omega) (key _ (by omega) (hrd _ he hb)) (by omega)
     have hpre:∀j∈pre,∃y,all[j]? =some y∧comm all y o=true∧(M.getD i 0).testBit j=false:=by
       intro j hj
       have hjlt:=L.lt j (by simp[hj])
       have hnb:(M.getD i 0).testBit j=false:=by
         cases hb:(M.getD i 0).testBit j with
         | false=>rfl
         | true =>
           have h1:=hbl j (hM _ _ hb)
           have h2:=(L.mem j hjlt).2 (by simp[hj])
           rw[h1] at h2;cases h2
       have hp:=L.pairs
       rw[List.pairwise_append] at hp
       rcases hp.2.2 j hj i List.mem_cons_self with h1|⟨y,x,hy,hx,hc⟩
       · rw[hnb] at h1;cases h1
       · rw[ho] at hx;cases hx
         exact⟨y,hy,hc,hnb⟩
     have hrun:=drawK_move ho pre post [] e h K c.bdd hpre hk
     unfold wpOpIn
     simp only[ho]
     have hstep:=runK_step (ro:=ro) (mm:=mm) (next:=wpAnyIn (fen ro) mm P .any all Q fuel (listed.setIfInBounds i true)) (Q:=Q) hrun g c fun r h' w' ⟨_,hk'⟩ c' g'=>by
       refine ih (pre++post) _ _ _ _ _ ?_ ?_ hk' (g.put o.dst r) c' fun e'' h'' a'' w'' q1 q2 qd q3 q4=>hQ e'' h'' a'' w'' q1 q2 (qd.trans (by cases o.dst<;>rfl)) q3 (g'.trans q4)
       · simp at hl ⊢;omega
       · have hset:∀k d,k<all.size→(listed.setIfInBounds i true).getD k d=if k=i then true else listed.getD k d:=by
           intro k d hk1
           have h5:k<listed.size:=by rw[L.size];exact hk1
           simp only[Array.getD_eq_getD_getElem?,Array.getElem?_setIfInBounds]
           by_cases e1:k=i
           · subst e1;simp[h5]
           · simp[e1,Ne.symm e1]
         have hnd:=L.nodup
         have hnotin:i∉pre++post:=by
           rw[List.nodup_append] at hnd
           intro hh
           rcases List.mem_append.1 hh with h1|h1
           · exact hnd.2.2 i h1 i List.mem_cons_self rfl
           · exact(List.nodup_cons.1 hnd.2.1).1 h1
         refine⟨by simp[L.size],fun k hk1=>?_,fun k hk1=>L.lt k ((List.Sublist.append (List.Sublist.refl _) (List.sublist_cons_self _ _)).subset hk1),?_,?_,?_⟩
         · rw[hset k true hk1]
           by_cases e1:k=i
           · subst e1;simp;simpa using hnotin
           · rw[if_neg e1,L.mem k hk1];simp[e1]
         · exact hnd.sublist (List.Sublist.append (List.Sublist.refl _) (List.sublist_cons_self _ _))
         · exact L.pairs.sublist (List.Sublist.append (List.Sublist.refl _) (List.sublist_cons_self _ _))
         · intro i' j' hb hj1 hj2 hi1
           rw[hset _ _ hi1]
           rw[hset _ _ hj1] at hj2
           split
           · rfl
           · by_cases e1:j'=i
             · subst e1;exact hbl i' hb
             · rw[if_neg e1] at hj2
               exact L.closed i' j' hb hj1 hj2 hi1
     split
     · rename_i hw;rw[if_pos hw] at hstep;exact hstep
     · rename_i hw;rw[if_neg hw] at hstep;exact hstep
theorem region_draw {ro:Option Nat} {mm:Nat} {id:Nat} {C:List Nat} (hm:P.follows .mixedOrders=true) (hC:fitC all C=true) {e:Env} {h:Hp} {K:Env→Hp→Prop} (hk:drawK P n all (ancs all.toList []) [] C e h K)
   {a:Act} {w:World} (g:Good n e a) (c:Cov h w) (hQ:∀e' h' a' w',K e' h'→Good n e' a'→a'.defers=a.defers→Cov h' w'→Grow h h' w w'→Q .normal a' w'):(Code.region id all true).wpIn (fen ro) mm P Q a w:=by
 simp only[fitC,Bool.and_eq_true,beq_iff_eq,List.all_eq_true,decide_eq_true_eq] at hC
 obtain⟨⟨⟨⟨h1,h2⟩,h3⟩,h4⟩,h5⟩:=hC
 have hlex:∀(j:Nat) (o:Oper),all[j]? =some o→∀ed∈o.after.toList,Region.binds .any ed=true→ed.on<j:=by
   intro j o ho ed he hb
   have:=h5 (o,j) (by
     rw[List.mem_zipIdx_iff_getElem?]
     simpa using ho) ed he
   simpa [hb] using this
 refine wpIn_region_any hm (wpAny_of_draw (ancs_bef all all.toList [] (fun k=>by simp) (fun j i hb=>by simp at hb)) hlex K all.size C _ e h a _ (by omega) ?_ hk g (c:Cov h { w with drawn:=w.drawn+1 }) ?_)
 · refine⟨by simp,fun i hi=>?_,h2,h3,pairsOk_pairwise h4,?_⟩
   · have:i∈C:=by
       rcases Classical.em (i∈C) with hh|hh
       · exact hh
       · have:=nodup_le all.size (i::C) (List.nodup_cons.2 ⟨hh,h3⟩) (fun x hx=>by
           rcases List.mem_cons.1 hx with h6|h6
           · omega
           · exact h2 x h6)
         simp at this;omega
     simp[Array.getD,hi,this]
   · intro i j _ hj hh _
     simp[Array.getD,hj] at hh
 · intro e' h' a' w' q1 q2 qd q3 q4
   exact hQ e' h' a' w' q1 q2 qd q3 ((Grow.drew h w).trans q4)
end
end Go.Sh

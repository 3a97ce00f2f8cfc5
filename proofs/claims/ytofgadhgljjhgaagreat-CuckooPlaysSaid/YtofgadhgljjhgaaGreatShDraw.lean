import Derived.Test.YtofgadhgljjhgaaGreatShOrd
import Derived.Orders
namespace Go.cD
open Go Go.RowKit
def we (e b4:Env)(x:Operand):Prop:=∀t,x= .tmp t->e t=b4 t
section
variable {P:Program} {n:Nat} {e b4:Env}
theorem kA {x:Operand}(h:we e b4 x):hN n e x=hN n b4 x:=by
 cases x with
 | tmp t=>funext K;simp only[hN,h t rfl]
 | _=>rfl
theorem yb {ty:ff}{x:Operand}(h:we e b4 x):pB n ty e x=pB n ty b4 x:=by
 cases x with
 | const v=>rfl
 | tmp t=>exact kA (x:= .tmp t) h
 | global g=>rfl
 | func f=>rfl
theorem Ro:∀(l:List Operand),(∀x∈l,we e b4 x)->wg n e l=wg n b4 l
 | [],_=>rfl
 | x::l,h=>by
  funext K
  simp only[wg,kA (h x List.mem_cons_self),Ro l λy aB=>h y (List.mem_cons_of_mem _ aB)]
theorem Dk:∀(l:List Operand) (iY:List TypeId),(∀x∈l,we e b4 x)->q_ P n e l iY=q_ P n b4 l iY
 | [],_,_=>rfl
 | x::l,[],h=>by
  funext K
  simp only[q_,kA (h x List.mem_cons_self),Dk l [] λy aB=>h y (List.mem_cons_of_mem _ aB)]
 | x::l,t::iY,h=>by
  funext K
  simp only[q_,yb (h x List.mem_cons_self),Dk l iY λy aB=>h y (List.mem_cons_of_mem _ aB)]
theorem Rp {qf:Nat->ff}:∀(l:List (Nat×Operand)),(∀x∈l,we e b4 x.2)->wh P n e qf l=wh P n b4 qf l
 | [],_=>rfl
 | (i,x)::l,h=>by
  funext K
  simp only[wh,yb (h (i,x) List.mem_cons_self),Rp l λy aB=>h y (List.mem_cons_of_mem _ aB)]
theorem Rq {x:Option Operand}(h:∀y,x=some y->we e b4 y):wi n e x=wi n b4 x:=by
 cases x with
 | none=>rfl
 | some y=>funext K;simp only[wi,kA (h y rfl)]
theorem au1 {o:Op}{ty:TypeId}(h:∀x∈o.operands.toList,we e b4 x):wj P n o ty e=wj P n o ty b4:=by
 funext K
 unfold wj
 split
 .rw[yb (h _ (by simp[Op.operands]))]
 .rw[yb (h _ (by simp[Op.operands]))]
 .rename_i c a b
  rw[kA (h c (by simp[Op.operands])),kA (h a (by simp[Op.operands])),kA (h b (by simp[Op.operands]))]
 .rw[kA (h _ (by simp[Op.operands]))]
 .rename_i op T x y au2
  rw[kA (h x (by simp[Op.operands]))]
  have:∀a,yc P n op T y e a K=yc P n op T y b4 a K:=by
   intro a
   unfold yc
   split
   .rfl
   .rw[kA (h y (by simp[Op.operands]))]
  simp only[this]
 .rw[kA (h _ (by simp[Op.operands]))]
 .rw[kA (h _ (by simp[Op.operands]))]
 .split
  .rw[kA (h _ (by simp[Op.operands]))]
  .rfl
 .rw[kA (h _ (by simp[Op.operands]))]
 .rename_i T x cp
  rw[kA (h x (by simp[Op.operands])),kA (h cp (by simp[Op.operands]))]
 .rename_i T x cp
  rw[kA (h x (by simp[Op.operands])),kA (h cp (by simp[Op.operands]))]
 .rw[kA (h _ (by simp[Op.operands]))]
 .rename_i T x lo hi k3
  rw[kA (h x (by simp[Op.operands]))]
  rw[Rq (x:=lo) (λy aB=>h y (by simp[Op.operands,aB])),Rq (x:=hi) (λy aB=>h y (by simp[Op.operands,aB])),
   Rq (x:=k3) (λy aB=>h y (by simp[Op.operands,aB]))]
 .rename_i g first captured
  rw[Ro captured.toList (λx ai=>h x (by simp[Op.operands] at ai ⊢;exact .inr ai))]
 .split
  .rfl
  .rw[yb (h _ (by simp[Op.operands]))]
  .rfl
 .rename_i T cx
  rw[Rp cx.toList (λx ai=>h x.2 (by simp only[Op.operands];simp only[List.mem_map];exact⟨x,ai,rfl⟩))]
 .rename_i b args ats
  rw[Ro args.toList (λx ai=>h x (by simp[Op.operands,Call.operands] at ai ⊢;exact ai))]
 .rfl
theorem au3 {o:Op}{ty:TypeId}(h:∀x∈o.operands.toList,we e b4 x):h8 P n o ty e=h8 P n o ty b4:=by
 funext aS K
 unfold h8
 split
 .rw[kA (h _ (by simp[Op.operands]))]
 .rename_i T a x
  rw[kA (h a (by simp[Op.operands])),yb (x:=x) (h x (by simp[Op.operands]))]
 .rw[yb (h _ (by simp[Op.operands]))]
 .rfl
 .rename_i T len cx
  rw[Rp cx.toList (λx ai=>h x.2 (by simp only[Op.operands];simp only[List.mem_map];exact⟨x,ai,rfl⟩))]
 .rename_i T l c
  rw[kA (h l (by simp[Op.operands])),kA (x:=c) (h c (by simp[Op.operands]))]
 .rfl
 .rename_i args ats
  rw[Dk args.toList ats.toList (λx ai=>h x (by simp[Op.operands,Call.operands] at ai ⊢;exact ai))]
 .rename_i args ats
  rw[Dk args.toList ats.toList (λx ai=>h x (by simp[Op.operands,Call.operands] at ai ⊢;exact ai))]
 .rename_i args ats
  rw[Dk args.toList ats.toList (λx ai=>h x (by simp[Op.operands,Call.operands] at ai ⊢;exact ai))]
 .rename_i T m k x
  rw[kA (h m (by simp[Op.operands])),kA (x:=k) (h k (by simp[Op.operands]))]
  have aF:∀(ty:ff) (K:af->Prop),pB n ty e x K=pB n ty b4 x K:=λty K=>by rw[yb (x:=x) (h x (by simp[Op.operands]))]
  simp only[aF]
 .rename_i f args ats
  rw[kA (h f (by simp[Op.operands,Call.operands]))]
  rw[Dk args.toList ats.toList (λx ai=>h x (by simp[Op.operands,Call.operands] at ai ⊢;exact .inr ai))]
 .rw[au1 h]
end
def yd (n:Nat)(all:Array Oper)(o:Oper)(e:Env):Option Bool :=
 match o.guard with
 | none=>some true
 | some (j,uq)=>match (all[j]?).bind (·.dst) with
  | none=>none
  | some d=>match (if d<n then e d else none) with
   | some (.b t)=>some (t==uq)
   | some .no=>some false
   | _=>none
def runK (P:Program)(n:Nat)(all:Array Oper)(o:Oper)(e:Env)(h:ak)(K:af->ak->Prop):Prop :=
 match yd n all o e with
 | some true=>h8 P n o.op o.type e h K
 | some false=>K .no h
 | none=>False
def KU (P:Program)(n:Nat)(all:Array Oper)(o:Oper)(e:Env)(h:ak)(K:Env->af->ak->Prop):Prop :=
 match o.guard with
 | none=>h8 P n o.op o.type e h (K e)
 | some (j,uq)=>match (all[j]?).bind (·.dst) with
  | none=>False
  | some d=>match (if d<n then e d else none) with
   | some (.b t)=>aG t
    (cond uq (h8 P n o.op o.type (put e d (.b true)) h (K (put e d (.b true)))) (K (put e d (.b true)) .no h))
    (cond uq (K (put e d (.b false)) .no h) (h8 P n o.op o.type (put e d (.b false)) h (K (put e d (.b false)))))
   | some .no=>K e .no h
   | _=>False
theorem acR {e:Env}{d:Nat}{s:af}(h:e d=some s):put e d s=e:=by
 funext x;unfold put;split
 .rename_i ai;subst ai;exact h.symm
 .rfl
theorem acO (P:Program)(n:Nat)(all:Array Oper)(o:Oper)(e:Env)(h:ak)(K:Env->af->ak->Prop):KU P n all o e h K=runK P n all o e h (K e):=by
 unfold KU runK yd
 split
 .rfl
 .rename_i j uq c_
  split
  .rfl
  .rename_i d _
   by_cases bV:d<n
   .simp only[bV,if_true]
    cases he:e d with
    | none=>rfl
    | some s =>
     cases s<;>try rfl
     rename_i t
     have:=acR he
     cases t
     .simp only[aG,cond_false,this]
      cases uq<;>rfl
     .simp only[aG,cond_true,this]
      cases uq<;>rfl
   .simp only[bV,if_false]
theorem acP {P:Program}{n:Nat}{all:Array Oper}{o:Oper}{e:Env}{h:ak}{K:af->ak->Prop}(ag:runK P n all o e h K){a:Act}(g:Good n e a){w:World}(c:eQ h w)
 {ro:Option Nat} {mm:Nat} {next:Act->World->Prop} {Q:Exit->Act->World->Prop} (aH:∀r ah cg,K r ah->eQ ah cg->eI h ah w cg->next (a.put o.dst r.val) cg) :
 if Region.wanted o (yielded all a.tmps) then o.wpIn (nq ro) mm P a w next Q else (∀f,o.about P w a.eval=some f->(nq ro).fn f)/\next (a.put o.dst undef) w:=by
 have hw:∀b,yd n all o e=some b->Region.wanted o (yielded all a.tmps)=b:=by
  intro b au
  unfold yd at au
  unfold Region.wanted
  cases c_:o.guard with
  | none=>simp[c_] at au;simp[au]
  | some au4 =>
   obtain⟨j,uq⟩:=au4
   simp only[c_] at au
   simp only
   split at au
   .cases au
   .rename_i d bV
    have aB:∀s,(if d<n then e d else none)=some s->yielded all a.tmps j=match s.val with| .bool b=>some b|_=>none:=by
     intro s aU
     split at aU
     .rename_i ca
      have aa:=g.has d s ca aU
      have ad:a.tmps[d]? =some s.val:=by
       have an:d<a.tmps.size:=by rw[g.size];exact ca
       rw[Array.getElem?_eq_getElem an]
       simp[Array.getD,an] at aa
       rw[aa]
      unfold yielded
      simp only[bV,Option.bind_some,ad]
      generalize s.val=v
      cases v<;>rfl
     .cases aU
    split at au
    .rename_i t bw
     rw[aB _ bw]
     cases au
     cases t<;>cases uq<;>rfl
    .rename_i bw
     rw[aB _ bw]
     cases au
     rfl
    .cases au
 unfold runK at ag
 split at ag
 .rename_i au
  rw[hw _ au,if_pos rfl]
  exact(ac3 ag g c).wp (au5 ag) aH
 .rename_i au
  rw[hw _ au]
  exact⟨λ_ _=>trivial,aH .no h w ag c (eI.refl _ _)⟩
 .exact ag.elim
def ye (all:Array Oper)(o:Oper):List Nat :=
 (o.op.operands.toList.filterMap fun| .tmp t=>some t|_=>none) ++
 (match o.guard with
  | some (g,_)=>((all[g]?).bind (·.dst)).toList
  | none=>[])
theorem ac4 {all:Array Oper}{o:Oper}{e:Env}{d:Option Nat}{s:af}(h:∀t,d=some t->t∉ye all o):∀x∈o.op.operands.toList,we (gW e d s) e x:=by
 intro x ai t bw
 subst bw
 cases d with
 | none=>rfl
 | some d =>
  simp only[gW,put]
  rw[if_neg]
  intro b4
  subst b4
  exact h _ rfl (List.mem_append_left _ (List.mem_filterMap.2 ⟨_,ai,rfl⟩))
theorem au6 {n:Nat}{all:Array Oper}{o:Oper}{e:Env}{d:Option Nat}{s:af}(h:∀t,d=some t->t∉ye all o):yd n all o (gW e d s)=yd n all o e:=by
 cases d with
 | none=>rfl
 | some d =>
  unfold yd
  split
  .rfl
  .rename_i j uq c_
   split
   .rfl
   .rename_i bC pf
    have df:bC≠d:=by
     intro b4
     subst b4
     exact h _ rfl (List.mem_append_right _ (by simp[c_,pf]))
    simp only[gW,put,if_neg df]
theorem ac5 {P:Program}{n:Nat}{all:Array Oper}{o:Oper}{e:Env}{d:Option Nat}{s:af}(h:∀t,d=some t->t∉ye all o) :
 runK P n all o (gW e d s)=runK P n all o e:=by
 funext aS K
 unfold runK
 rw[au6 h,au3 (ac4 h)]
theorem au7 {n:Nat}{all:Array Oper}{o:Oper}{e:Env}{d:Option Nat}{s:af}(h:∀t,d=some t->t∉ye all o):ox n o.op (gW e d s)=ox n o.op e:=by
 have:=ac4 (e:=e) (s:=s) h
 unfold ox
 split
 .rename_i T t dS
  have aa:=this (.tmp t) (by simp[dS,Op.operands]) t rfl
  rw[aa]
 .rfl
 .rfl
theorem au8 {e:Env}{d bC:Option Nat}(h:∀t,d=some t->bC≠some t)(x y:af):gW (gW e d x) bC y=gW (gW e bC y) d x:=by
 cases d with
 | none=>rfl
 | some t =>
  cases bC with
  | none=>rfl
  | some u=>exact put_comm e (λb4=>h t rfl (by rw[b4])) x y
def Ai:GN->GN->Bool
 | _,.qi=>true
 | .qi,_=>true
 | .read,.read=>true
 | .read,.act=>true
 | .read,.new=>true
 | .act,.new=>true
 | .new,.new=>true
 | _,_=>false
def comm (all:Array Oper)(y x:Oper):Bool :=
 (match x.dst with
  | some d=>!(ye all y).contains d&&y.dst != some d
  | none=>true) &&
 (match y.dst with
  | some d=>!(ye all x).contains d
  | none=>true)&&Ai (cls y.op) (cls x.op)
theorem au9 {all:Array Oper}{y x:Oper}(h:comm all y x=true) :
 (∀d,x.dst=some d->d∉ye all y)/\(∀d,x.dst=some d->y.dst≠some d)/\(∀d,y.dst=some d->d∉ye all x)/\Ai (cls y.op) (cls x.op)=true:=by
 simp only[comm,Bool.and_eq_true] at h
 obtain⟨⟨aa,ad⟩,an⟩:=h
 refine⟨λd bV=>?_,λd bV=>?_,λd bV=>?_,an⟩
 .simp[bV] at aa;exact aa.1
 .simp[bV] at aa;exact aa.2
 .simp[bV] at ad;exact ad
inductive Kind (P:Program) (n:Nat) (all:Array Oper) (o:Oper) (e:Env) (h:ak) (K:af->ak->Prop):Prop where
 | qi (r:af) (aP:∀ah bN,runK P n all o e ah bN↔bN r ah) (n4:ox n o.op e=none∨r= .no)
 | read (q:aD) (r:af) (aZ:cls o.op= .read) (bO:ox n o.op e=some q) (ag:K r h) (aU:mb h q r) (aH:r≠.no) (c_:∀ah bN,mb ah q r->bN r ah->runK P n all o e ah bN)
 | new (aZ:cls o.op= .new) (bO:ox n o.op e=none) (aH:K1 (runK P n all o e))
 | act (aZ:cls o.op= .act) (bO:ox n o.op e=none) (hm:∀bN,(∀r ah,K r ah->bN r ah)->runK P n all o e h bN) (au:∀b e3,h b=none->runK P n all o e (bA h b e3) (K2 b e3 K))
  (dh:kN h->runK P n all o e h λr ah=>K r ah/\kN ah)
theorem Rr {n:Nat}{o:Op}{e:Env}(h:cls o≠.read):ox n o e=none:=by
 unfold ox
 split
 .simp[cls] at h
 .simp[cls] at h
 .rfl
theorem Dl {P:Program}{n:Nat}{all:Array Oper}{o:Oper}{e:Env}{h:ak}{K:af->ak->Prop}(ag:runK P n all o e h K):Kind P n all o e h K:=by
 cases c_:yd n all o e with
 | none=>simp[runK,c_] at ag
 | some b =>
  cases b with
  | false=>exact .qi .no (λah bN=>by simp[runK,c_]) (.inr rfl)
  | true =>
   have aF:∀ah bN,runK P n all o e ah bN=h8 P n o.op o.type e ah bN:=λah bN=>by simp[runK,c_]
   rw[aF] at ag
   cases aZ:cls o.op with
   | qi =>
    rw[ac6 aZ] at ag
    obtain⟨r,aP⟩:=au_ _ ag
    exact .qi r (λah bN=>by rw[aF,ac6 aZ];exact aP _) (.inl (Rr (by rw[aZ];decide)))
   | read =>
    obtain⟨q,r,bO,ag,aU,aH,ava⟩:=avb aZ ag
    exact .read q r aZ bO ag aU aH λah bN aa ad=>by rw[aF];exact ava ah bN aa ad
   | new =>
    obtain⟨e3,mk,aa⟩:=avc aZ ag
    exact .new aZ (Rr (by rw[aZ];decide)) ⟨e3,mk,λah bN=>by rw[aF];exact aa ah bN⟩
   | act =>
    obtain⟨aa,ad,an⟩:=avd aZ ag
    exact .act aZ (Rr (by rw[aZ];decide)) (λbN hm=>by rw[aF];exact aa bN hm) (λb e3 au=>by rw[aF];exact ad b e3 au) (λdh=>by rw[aF];exact an dh)
theorem Dm {P:Program}{n:Nat}{all:Array Oper}{o:Oper}{e:Env}{h:ak}{K bN:af->ak->Prop}(ag:runK P n all o e h K)(hm:∀r ah,K r ah->bN r ah):runK P n all o e h bN:=by
 cases Dl ag with
 | qi r aP _=>exact(aP h bN).2 (hm _ _ ((aP h K).1 ag))
 | read q r _ _ gp aU _ c_=>exact c_ h bN aU (hm _ _ gp)
 | new _ _ aH=>obtain⟨e3,mk,aa⟩:=aH;exact(aa h bN).2 λb au=>hm _ _ ((aa h K).1 ag b au)
 | act _ _ aa _ _=>exact aa bN hm
theorem ave {P:Program}{n:Nat}{all:Array Oper}{o:Oper}{e:Env}{h:ak}{K:af->ak->Prop}(ag:runK P n all o e h K)(dh:kN h):runK P n all o e h λr ah=>K r ah/\kN ah:=by
 cases Dl ag with
 | qi r aP _=>exact(aP h _).2 ⟨(aP h K).1 ag,dh⟩
 | read q r _ _ gp aU _ c_=>exact c_ h _ aU ⟨gp,dh⟩
 | new _ _ aH=>obtain⟨e3,mk,aa⟩:=aH;exact(aa h _).2 λb au=>⟨(aa h K).1 ag b au,dh.bA _ _⟩
 | act _ _ _ _ an=>exact an dh
theorem Good.some (n:Nat)(e:Env):∃a,Good n e a:=by
 refine⟨{ tmps:=Array.ofFn (n:=n) λi=>((e i.1).map af.val).getD undef,defers:=[] },by simp,λt s bw aU=>?_⟩
 simp[Array.getD,bw,aU]
theorem avf {P:Program}{n:Nat}{all:Array Oper}{o:Oper}{e:Env}{h:ak}{K:af->ak->Prop}(ag:runK P n all o e h K)(dh:kN h):∃r ah,K r ah/\kN ah:=by
 unfold runK at ag
 split at ag
 .obtain⟨a,g⟩:=Good.some n e
  obtain⟨w,c⟩:=dh.world
  cases ac3 ag g c with
  | value r ah cg ag aP cc bo=>exact⟨r,ah,ag,cc.Aj⟩
  | skip ah cg ag aP cc bo=>exact⟨.no,ah,ag,cc.Aj⟩
  | enter f args aP aZ =>
   obtain⟨b4,cg,av,⟨r,ah,_,ag,cc,_⟩,_⟩:=aZ []
   exact⟨r,ah,ag,cc.Aj⟩
  | round l f tmps assign body aP aZ =>
   obtain⟨b4,cg,⟨r,ah,_,ag,cc,_⟩,_⟩:=aZ.2 default [] (λ_ h=>by cases h)
   exact⟨r,ah,ag,cc.Aj⟩
 .exact⟨.no,h,ag,dh⟩
 .exact ag.elim
theorem ac7 {P:Program}{n:Nat}{all:Array Oper}{o:Oper}{e:Env}{h:ak}{F:af->ak->Prop}(ag:runK P n all o e h F){R:ak->Prop}(h0:R h)
 (avg:∀h b e3,h b=none->R h->R (bA h b e3)) (avh:cls o.op= .act->∀s ad,F s ad->R ad):runK P n all o e h λs ad=>F s ad/\R ad:=by
 cases Dl ag with
 | qi r aP _=>exact(aP h _).2 ⟨(aP h F).1 ag,h0⟩
 | read q r _ _ gp aU _ c_=>exact c_ h _ aU ⟨gp,h0⟩
 | new _ _ aH=>obtain⟨e3,mk,aa⟩:=aH;exact(aa h _).2 λb au=>⟨(aa h F).1 ag b au,avg _ _ _ au h0⟩
 | act aZ _ aa _ _=>exact aa _ λr ah hY=>⟨hY,avh aZ _ _ hY⟩
def Rs (h:ak)(q:aD):af->Prop
 | .ws _ c=>bU h q.b q.o c
 | s=>fQ h q.b q.o (af.cells s)
theorem avi (h:ak)(q:aD)(s:af):Rs h q s↔mb h q s:=by
 unfold Rs mb
 split
 .rename_i n c
  rw[pN]
  constructor
  .intro aZ i hi
   have b5:i<n:=by simpa [af.cells] using hi
   rw[aZ i b5];simp[af.cells]
  .intro aZ i hi
   rw[aZ i (by simpa [af.cells] using hi)];simp[af.cells]
 .exact Iff.rfl
def Dn (h:ak)(m:Nat):List (Nat×aD×af)->Prop->Prop
 | [],A=>A
 | (j,q,s)::l,A=>if m.testBit j=true then Dn h m l A else Rs h q s/\Dn h m l A
theorem Rt (h:ak)(m:Nat)(A:Prop):∀l,Dn h m l A↔(∀x∈l,m.testBit x.1=false->mb h x.2.1 x.2.2)/\A
 | []=>by simp[Dn]
 | (j,q,s)::l=>by
  simp only[Dn]
  cases aV:m.testBit j with
  | true =>
   simp only[if_true,Rt h m A l,List.mem_cons,forall_eq_or_imp,aV]
   simp
  | false =>
   simp only[Bool.false_eq_true,if_false,Rt h m A l,List.mem_cons,forall_eq_or_imp,aV,avi]
   constructor
   .rintro⟨aa,ad,an⟩;exact⟨⟨λ_=>aa,ad⟩,an⟩
   .rintro⟨⟨aa,ad⟩,an⟩;exact⟨aa trivial,ad,an⟩
def Ru (c:GN)(h:ak)(m:Nat)(prev:List (Nat×aD×af))(A:Prop):Prop :=
 match c with
 | .act=>Dn h m prev A
 | _=>A
theorem avj (c:GN)(h:ak)(m:Nat)(prev:List (Nat×aD×af))(A:Prop) :
 Ru c h m prev A↔(c= .act->∀x∈prev,m.testBit x.1=false->mb h x.2.1 x.2.2)/\A:=by
 cases c<;>simp[Ru,Rt]
def qj (n:Nat)(i:Nat)(o:Op)(e:Env)(r:af)(prev:List (Nat×aD×af)):List (Nat×aD×af) :=
 match ox n o e,r with
 | some _,.no=>prev
 | some q,r=>(i,q,r)::prev
 | none,_=>prev
def qe (P:Program)(n:Nat)(all:Array Oper)(M:List Nat):List (Nat×aD×af)->List Nat->Env->ak->(Env->ak->Prop)->Prop
 | _,[],e,h,K=>K e h
 | prev,i::rem,e,h,K =>
  match all[i]? with
  | none=>False
  | some o=>KU P n all o e h λb4 r ah =>
   Ru (cls o.op) ah (M.getD i 0) prev (qe P n all M (qj n i o.op b4 r prev) rem (gW b4 o.dst r) ah K)
section
variable {P:Program} {n:Nat} {all:Array Oper} {M:List Nat}
theorem K3 {prev:List (Nat×aD×af)}{i:Nat}{rem:List Nat}{e:Env}{h:ak}{K:Env->ak->Prop}{o:Oper}(dS:all[i]? =some o) :
 qe P n all M prev (i::rem) e h K=runK P n all o e h λr ah =>
  ((cls o.op= .act->∀x∈prev,(M.getD i 0).testBit x.1=false->mb ah x.2.1 x.2.2)/\qe P n all M (qj n i o.op e r prev) rem (gW e o.dst r) ah K):=by
 simp only[qe,dS,acO,avj]
theorem avk {i:Nat}{o:Op}{e:Env}{r:af}{prev Dp:List (Nat×aD×af)}(h:∀x∈Dp,x∈prev):∀x∈qj n i o e r Dp,x∈qj n i o e r prev:=by
 unfold qj
 split
 .exact h
 .intro x ai
  rcases List.mem_cons.1 ai with aa|aa
  .rw[aa];exact List.mem_cons_self
  .exact List.mem_cons_of_mem _ (h x aa)
 .exact h
theorem ac8:∀(rem:List Nat) (prev Dp:List (Nat×aD×af)) (e:Env) (h:ak) (K:Env->ak->Prop),(∀x∈Dp,x∈prev) ->
 qe P n all M prev rem e h K->qe P n all M Dp rem e h K
 | [],_,_,_,_,_,_,ag=>ag
 | i::rem,prev,Dp,e,h,K,aU,ag=>by
  cases dS:all[i]? with
  | none=>simp[qe,dS] at ag
  | some o =>
   rw[K3 dS] at ag ⊢
   exact Dm ag λr ah ⟨aa,ad⟩=>⟨λaZ x ai hm=>aa aZ x (aU x ai) hm,ac8 rem _ _ _ _ K (avk aU) ad⟩
theorem avl {i:Nat}{o:Op}{e:Env}{r:af}{prev:List (Nat×aD×af)}(h:ox n o e=none∨r= .no):qj n i o e r prev=prev:=by
 unfold qj
 rcases h with h|h
 .rw[h]
 .subst h;cases ox n o e<;>rfl
theorem ac9 {i:Nat}{o:Op}{e:Env}{r:af}{q:aD}{prev:List (Nat×aD×af)}(h:ox n o e=some q)(aP:r≠.no):qj n i o e r prev=(i,q,r)::prev:=by
 unfold qj
 rw[h]
 split
 .rename_i aH;exact absurd rfl aP
 .rename_i aj _;cases aj;rfl
 .rename_i aj;cases aj
theorem ac_ {i:Nat}{x:Oper}(ai:all[i]? =some x):∀(pre post:List Nat) (prev:List (Nat×aD×af)) (e:Env) (h:ak) (K:Env->ak->Prop),kN h ->
 (∀j∈pre,∃y,all[j]? =some y/\comm all y x=true/\(M.getD i 0).testBit j=false) ->
 qe P n all M prev (pre++i::post) e h K ->
 runK P n all x e h λs aa=>(cls x.op= .act->∀z∈prev,(M.getD i 0).testBit z.1=false->mb aa z.2.1 z.2.2)/\qe P n all M prev (pre++post) (gW e x.dst s) aa K
 | [],post,prev,e,h,K,dh,_,ag=>by
  rw[List.nil_append,K3 ai] at ag
  exact Dm ag λr ah ⟨aa,ad⟩=>⟨aa,ac8 _ _ _ _ _ K (λz bc=>by
   unfold qj
   split
   .exact bc
   .exact List.mem_cons_of_mem _ bc
   .exact bc) ad⟩
 | j::pre,post,prev,e,h,K,dh,um,ag=>by
  obtain⟨y,aB,avm,Fh⟩:=um j List.mem_cons_self
  have avn:∀j∈pre,∃y,all[j]? =some y/\comm all y x=true/\(M.getD i 0).testBit j=false:=λcT j6=>um cT (List.mem_cons_of_mem _ j6)
  obtain⟨aQ,aY,ck,dz⟩:=au9 avm
  rw[List.cons_append,K3 aB] at ag
  have kl:=Dm (ave ag dh) λr ah ⟨⟨aa,ad⟩,ada⟩=>And.intro aa (ac_ ai pre post _ _ _ K ada avn ad)
  have avo:∀r s,gW (gW e y.dst r) x.dst s=gW (gW e x.dst s) y.dst r:=λr s=>au8 (λt bw b4=>aY t b4 bw) r s
  have avp:∀r,runK P n all x (gW e y.dst r)=runK P n all x e:=λr=>ac5 ck
  have avq:∀s,runK P n all y (gW e x.dst s)=runK P n all y e:=λs=>ac5 aQ
  have avr:∀s,ox n y.op (gW e x.dst s)=ox n y.op e:=λs=>au7 aQ
  have avs:∀s r prev,qj n j y.op (gW e x.dst s) r prev=qj n j y.op e r prev:=λs r prev=>by unfold qj;rw[avr]
  have avt:∀s aa,qe P n all M prev (j::pre++post) (gW e x.dst s) aa K=runK P n all y e aa λr ad =>
   ((cls y.op= .act->∀z∈prev,(M.getD j 0).testBit z.1=false->mb ad z.2.1 z.2.2)/\qe P n all M (qj n j y.op e r prev) (pre++post) (gW (gW e y.dst r) x.dst s) ad K):=by
   intro s aa
   rw[List.cons_append,K3 aB,avq s]
   congr 1
   funext r ad
   rw[avs,avo]
  simp only[avp] at kl
  simp only[avt]
  have adb:∀h b e3,h b=none->(cls y.op= .act->∀z∈prev,(M.getD j 0).testBit z.1=false->mb h z.2.1 z.2.2) ->
   (cls y.op= .act->∀z∈prev,(M.getD j 0).testBit z.1=false->mb (bA h b e3) z.2.1 z.2.2):=λh b e3 au bR aZ z bc hm=>(bR aZ z bc hm).beside e3 au
  cases Dl kl with
  | qi r aP n4 =>
   obtain⟨dS,jO⟩:=(aP h _).1 kl
   have xL:=ac7 jO dS adb (λaZ=>by
    intro s ad _ Ak
    rw[aZ,Ak] at dz;simp[Ai] at dz)
   refine Dm xL λs ad ⟨⟨an,aK⟩,aR⟩=>?_
   rw[avl n4] at an
   exact⟨an,(aP ad _).2 ⟨aR,aK⟩⟩
  | read q r aZ bO jO aU aH c_ =>
   obtain⟨dS,jO⟩:=jO
   rw[ac9 bO aH] at jO
   have xL:=ac7 jO (R:=λh=>mb h q r) aU (λh b e3 au bR=>bR.beside e3 au) (λk4 s ad hY=>hY.1 k4 (j,q,r) List.mem_cons_self Fh)
   refine Dm xL λs ad ⟨⟨an,aK⟩,aR⟩=>⟨λk4 z bc hm=>an k4 z (List.mem_cons_of_mem _ bc) hm,c_ ad _ aR ⟨(λAk=>by rw[aZ] at Ak;cases Ak),?_⟩⟩
   rw[ac9 bO aH];exact aK
  | new aZ bO aH =>
   obtain⟨e3,mk,Rv⟩:=aH
   have jO:=(Rv h _).1 kl
   have Al:cls x.op≠.act:=λk4=>by rw[aZ,k4] at dz;simp[Ai] at dz
   have md:cls x.op≠.read:=λk4=>by rw[aZ,k4] at dz;simp[Ai] at dz
   obtain⟨ga,lf⟩:=dh.fresh
   cases Dl (jO ga lf).2 with
   | qi s aU _ =>
    refine(aU h _).2 ⟨λk4=>absurd k4 Al,(Rv h _).2 λb au=>?_⟩
    obtain⟨an,aK⟩:=jO b au
    exact⟨an,((aU _ _).1 aK).2⟩
   | read _ _ k4 _ _ _ _ _=>exact absurd k4 md
   | act k4 _ _ _ _=>exact absurd k4 Al
   | new k4 _ nC =>
    obtain⟨MD,mk',GO⟩:=nC
    refine(GO h _).2 λjN hA=>⟨λRw=>absurd Rw Al,(Rv _ _).2 λb au=>?_⟩
    have df:b≠jN:=by intro b4;subst b4;rw[eH] at au;cases au
    rw[cQ _ _ df] at au
    obtain⟨an,aK⟩:=jO b au
    have aR:=((GO _ _).1 aK) jN (by rw[cQ _ _ (Ne.symm df)];exact hA)
    rw[K4 h _ _ (Ne.symm df)]
    exact⟨(λAk=>by rw[aZ] at Ak;cases Ak),aR.2⟩
  | act aZ bO hm hA ada =>
   have Al:cls x.op≠.act:=λk4=>by rw[aZ,k4] at dz;simp[Ai] at dz
   have md:cls x.op≠.read:=λk4=>by rw[aZ,k4] at dz;simp[Ai] at dz
   obtain⟨h2,h0,⟨_,mi⟩,_⟩:=avf kl dh
   cases Dl mi with
   | qi s aU _ =>
    exact(aU h _).2 ⟨λk4=>absurd k4 Al,hm _ λr ah ⟨an,aK⟩=>⟨an,((aU _ _).1 aK).2⟩⟩
   | read _ _ k4 _ _ _ _ _=>exact absurd k4 md
   | act k4 _ _ _ _=>exact absurd k4 Al
   | new k4 _ nC =>
    obtain⟨MD,mk',GO⟩:=nC
    refine(GO h _).2 λb au=>⟨λRw=>absurd Rw Al,?_⟩
    refine Dm (hA b MD au) ?_
    rintro r ad ⟨ah,rfl,ade,an,aK⟩
    exact⟨adb _ _ _ ade an,((GO _ _).1 aK b ade).2⟩
end
inductive ur (all:Array Oper):Nat->Nat->Prop where
 | Rx {j:Nat} {o:Oper} {gh:Edge} (h:all[j]? =some o) (he:gh∈o.after.toList) (au:Region.binds .any gh=true):ur all gh.on j
 | trans {i k j:Nat} (h:ur all i k) {o:Oper} {gh:Edge} (dS:all[j]? =some o) (he:gh∈o.after.toList) (au:Region.binds .any gh=true) (ag:gh.on=k):ur all i j
def uu (acc:List Nat):List Edge->Nat->Nat
 | [],s=>s
 | gh::l,s=>uu acc l (if Region.binds .any gh=true then s ||| 2 ^ gh.on ||| acc.getD gh.on 0 else s)
def Dd:List Oper->List Nat->List Nat
 | [],acc=>acc
 | o::l,acc=>Dd l (acc++[uu acc o.after.toList 0])
theorem adf (acc:List Nat)(i:Nat):∀(l:List Edge) (s:Nat),(uu acc l s).testBit i=true ->
 s.testBit i=true∨∃gh∈l,Region.binds .any gh=true/\(gh.on=i∨(acc.getD gh.on 0).testBit i=true)
 | [],s,h=> .inl h
 | gh::l,s,h=>by
  simp only[uu] at h
  rcases adf acc i l _ h with aa|⟨avu,he,au,ad⟩
  .split at aa
   .rename_i au
    simp only[Nat.testBit_or,Nat.testBit_two_pow,Bool.or_eq_true,decide_eq_true_eq] at aa
    rcases aa with (aa|aa)|aa
    .exact .inl aa
    .exact .inr ⟨gh,List.mem_cons_self,au,.inl aa⟩
    .exact .inr ⟨gh,List.mem_cons_self,au,.inr aa⟩
   .exact .inl aa
  .exact .inr ⟨avu,List.mem_cons_of_mem _ he,au,ad⟩
theorem adg (all:Array Oper):∀(l:List Oper) (acc:List Nat),(∀k,l[k]? =all[acc.length+k]?) ->
 (∀j i,(acc.getD j 0).testBit i=true->ur all i j)->∀j i,((Dd l acc).getD j 0).testBit i=true->ur all i j
 | [],acc,_,h=>h
 | o::l,acc,aT,h=>by
  simp only[Dd]
  refine adg all l _ (λk=>?_) ?_
  .have:=aT (k+1)
   simpa [Nat.add_assoc,Nat.add_comm 1] using this
  .intro j i au
   have dS:all[acc.length]? =some o:=by simpa using (aT 0).symm
   rcases Nat.lt_trichotomy j acc.length with aV|aV|aV
   .have e:(acc++[uu acc o.after.toList 0]).getD j 0=acc.getD j 0:=by
     have:(acc++[uu acc o.after.toList 0])[j]? =acc[j]?:=List.getElem?_append_left aV
     simp only[List.getD,this]
    rw[e] at au
    exact h j i au
   .subst aV
    have e:(acc++[uu acc o.after.toList 0]).getD acc.length 0=uu acc o.after.toList 0:=by simp[List.getD]
    rw[e] at au
    rcases adf acc i _ _ au with aa|⟨gh,he,wR,ad|ad⟩
    .simp at aa
    .subst ad;exact .Rx dS he wR
    .exact .trans (h _ _ ad) dS he wR rfl
   .have e:(acc++[uu acc o.after.toList 0]).getD j 0=0:=by
     have:(acc++[uu acc o.after.toList 0])[j]? =none:=by rw[List.getElem?_eq_none_iff];simp;omega
     simp[List.getD,this]
    rw[e] at au;simp at au
def K5 (all:Array Oper)(M:List Nat):List Nat->Bool
 | []=>true
 | p::l=>(l.all λq=>(M.getD q 0).testBit p||(match all[p]?,all[q]? with|some y,some x=>comm all y x|_,_=>false))&&K5 all M l
def adh (all:Array Oper)(M:List Nat)(p q:Nat):Prop:=(M.getD q 0).testBit p=true∨∃y x,all[p]? =some y/\all[q]? =some x/\comm all y x=true
theorem adi {all:Array Oper}{M:List Nat}:∀ {l:List Nat},K5 all M l=true->l.Pairwise (adh all M)
 | [],_=> .nil
 | p::l,h=>by
  simp only[K5,Bool.and_eq_true,List.all_eq_true,Bool.or_eq_true] at h
  refine .cons (λq aj=>?_) (adi h.2)
  rcases h.1 q aj with aa|aa
  .exact .inl aa
  .split at aa
   .rename_i y x aB ai;exact .inr ⟨y,x,aB,ai,aa⟩
   .cases aa
def Ra (all:Array Oper)(C:List Nat):Bool :=
 (C.length==all.size)&&C.all (λi=>decide (i<all.size))&&decide C.Nodup&&K5 all (Dd all.toList []) C &&
 (all.toList.zipIdx.all λ(o,i)=>o.after.toList.all λgh=>!Region.binds .any gh||decide (gh.on<i))
structure Left (all:Array Oper)(M:List Nat)(rem:List Nat)(ll:Array Bool):Prop where
 size:ll.size=all.size
 mem:∀i,i<all.size->(ll.getD i true=false↔i∈rem)
 lt:∀i∈rem,i<all.size
 nodup:rem.Nodup
 adj:rem.Pairwise (adh all M)
 closed:∀i j,ur all i j->j<all.size->ll.getD j true=true->i<all.size->ll.getD i true=true
theorem ur.lt {all:Array Oper}(wk:∀(j:Nat) (o:Oper),all[j]? =some o->∀gh∈o.after.toList,Region.binds .any gh=true->gh.on<j){i j:Nat}(h:ur all i j):i<j:=by
 induction h with
 | Rx h he au=>exact wk _ _ h _ he au
 | trans h dS he au ag dK=>have:=wk _ _ dS _ he au;omega
theorem adk:∀(l:List Nat),l≠[]->∃i∈l,∀j∈l,i<=j
 | [],h=>absurd rfl h
 | [x],_=>⟨x,List.mem_cons_self,by simp⟩
 | x::y::l,_=>by
  obtain⟨i,hi,hm⟩:=adk (y::l) (by simp)
  rcases Nat.le_total x i with h|h
  .exact⟨x,List.mem_cons_self,λj aV=>by
    rcases List.mem_cons.1 aV with aa|aa
    .omega
    .have:=hm j aa;omega⟩
  .exact⟨i,List.mem_cons_of_mem _ hi,λj aV=>by
    rcases List.mem_cons.1 aV with aa|aa
    .omega
    .exact hm j aa⟩
theorem Ry:∀(N:Nat) (l:List Nat),l.Nodup->(∀x∈l,x<N)->l.length<=N
 | 0,l,_,h=>by
  cases l with
  | nil=>simp
  | cons x l=>exact absurd (h x List.mem_cons_self) (by omega)
 | N+1,l,aH,h=>by
  by_cases hm:N∈l
  .have aa:=Ry N (l.erase N) (aH.erase N) (λx ai=>by
    have nr:=(List.Nodup.mem_erase_iff aH).1 ai
    have:=h x nr.2
    omega)
   rw[List.length_erase_of_mem hm] at aa
   omega
  .have:=Ry N l aH (λx ai=>by
    have aa:=h x ai
    have:x≠N:=λe=>hm (e▸ai)
    omega)
   omega
section
variable {P:Program} {n:Nat} {all:Array Oper} {Q:Exit->Act->World->Prop}
theorem mem_ready {ll:Array Bool}{i:Nat}:i∈Region.ready .any all ll↔i<all.size/\ll.getD i true=false /\
 ∃o,all[i]? =some o/\∀gh∈o.after.toList,Region.binds .any gh=true->ll.getD gh.on false=true:=by
 unfold Region.ready
 simp only[List.mem_filter,List.mem_range,Bool.and_eq_true,Bool.not_eq_true']
 constructor
 .rintro⟨aa,ad,an⟩
  refine⟨aa,ad,all[i],by simp[aa],λgh he au=>?_⟩
  simp[aa] at an
  obtain⟨k,ag,rfl⟩:=List.mem_iff_getElem.1 he
  have:=an k (by simpa using ag)
  have hA:Region.binds .any all[i].after[k]=true:=by simpa using au
  simpa [hA] using this
 .rintro⟨aa,ad,o,dS,an⟩
  refine⟨aa,ad,?_⟩
  simp only[dS,Option.map_some,Option.getD_some]
  rw[<-Array.all_toList,List.all_eq_true]
  intro gh he
  cases au:Region.binds .any gh with
  | false=>rfl
  | true=>simp[an gh he au]
theorem avv {ro:Option Nat}{mm:Nat}{M:List Nat}(te:∀j i,(M.getD j 0).testBit i=true->ur all i j)
 (wk:∀(j:Nat) (o:Oper),all[j]? =some o->∀gh∈o.after.toList,Region.binds .any gh=true->gh.on<j) (K:Env->ak->Prop) :
 ∀(fuel:Nat) (rem:List Nat) (ll:Array Bool) (e:Env) (h:ak) (a:Act) (w:World),rem.length<=fuel->Left all M rem ll->qe P n all M [] rem e h K->Good n e a->eQ h w ->
  (∀b4 ah dT cg,K b4 ah->Good n b4 dT->dT.defers=a.defers->eQ ah cg->eI h ah w cg->Q .normal dT cg)->wpAnyIn (nq ro) mm P .any all Q fuel ll a w:=by
 intro fuel
 induction fuel with
 | zero =>
  intro rem ll e h a w aT L ag g c fI
  obtain rfl:rem=[]:=List.length_eq_zero_iff.1 (by omega)
  refine⟨?_,fI e h a w ag g rfl c (eI.refl _ _)⟩
  apply List.eq_nil_iff_forall_not_mem.2
  intro i hi
  obtain⟨aa,ad,_⟩:=mem_ready.1 hi
  have:=(L.mem i aa).1 ad
  simp at this
 | succ fuel dK =>
  intro rem ll e h a w aT L ag g c fI
  refine⟨λavw=>?_,λi hi=>?_⟩
  .by_cases aP:rem=[]
   .subst aP;exact fI e h a w ag g rfl c (eI.refl _ _)
   .exfalso
    obtain⟨i,hi,My⟩:=adk rem aP
    have ca:=L.lt i hi
    have:i∈Region.ready .any all ll:=by
     refine mem_ready.2 ⟨ca,(L.mem i ca).2 hi,all[i],by simp[ca],λgh he au=>?_⟩
     have aa:gh.on<i:=wk i all[i] (by simp[ca]) gh he au
     have ad:gh.on<all.size:=by omega
     have an:gh.on∉rem:=λbR=>by have:=My _ bR;omega
     have aK:ll.getD gh.on true≠false:=λbR=>an ((L.mem _ ad).1 bR)
     have aR:gh.on<ll.size:=by rw[L.size];exact ad
     simp[Array.getD,aR] at aK ⊢
     exact aK
    rw[avw] at this;simp at this
  .obtain⟨ca,B9,o,dS,k0⟩:=mem_ready.1 hi
   have Rz:=(L.mem i ca).1 B9
   obtain⟨pre,post,rfl⟩:=List.append_of_mem Rz
   have vY:∀j,ur all j i->ll.getD j true=true:=by
    intro j aV
    have Nd:=aV.lt wk
    have key:∀k,k<all.size->ll.getD k false=true->ll.getD k true=true:=by
     intro k kl jO
     have aR:k<ll.size:=by rw[L.size];exact kl
     simpa [Array.getD,aR] using jO
    cases aV with
    | Rx h he au =>
     rw[dS] at h;cases h
     have aa:=wk i o dS _ he au
     exact key _ (by omega) (k0 _ he au)
    | trans h adl he au ag =>
     rw[dS] at adl;cases adl
     have aa:=wk i o dS _ he au
     subst ag
     exact L.closed _ _ h (by omega) (key _ (by omega) (k0 _ he au)) (by omega)
   have um:∀j∈pre,∃y,all[j]? =some y/\comm all y o=true/\(M.getD i 0).testBit j=false:=by
    intro j aV
    have avx:=L.lt j (by simp[aV])
    have adm:(M.getD i 0).testBit j=false:=by
     cases au:(M.getD i 0).testBit j with
     | false=>rfl
     | true =>
      have aa:=vY j (te _ _ au)
      have ad:=(L.mem j avx).2 (by simp[aV])
      rw[aa] at ad;cases ad
    have aS:=L.adj
    rw[List.pairwise_append] at aS
    rcases aS.2.2 j aV i List.mem_cons_self with aa|⟨y,x,aB,ai,aZ⟩
    .rw[adm] at aa;cases aa
    .rw[dS] at ai;cases ai
     exact⟨y,aB,aZ,adm⟩
   have lO:=ac_ dS pre post [] e h K c.Aj um ag
   unfold wpOpIn
   simp only[dS]
   have wa:=acP (ro:=ro) (mm:=mm) (next:=wpAnyIn (nq ro) mm P .any all Q fuel (ll.setIfInBounds i true)) (Q:=Q) lO g c λr ah cg ⟨_,gp⟩ cc bo=>by
    refine dK (pre++post) _ _ _ _ _ ?_ ?_ gp (g.put o.dst r) cc λwb hq Rb Rc q1 aJ wc bd bI=>fI wb hq Rb Rc q1 aJ (wc.trans (by cases o.dst<;>rfl)) bd (bo.trans bI)
    .simp at aT ⊢;omega
    .have Dq:∀k d,k<all.size->(ll.setIfInBounds i true).getD k d=if k=i then true else ll.getD k d:=by
      intro k d kl
      have aR:k<ll.size:=by rw[L.size];exact kl
      simp only[Array.getD_eq_getD_getElem?,Array.getElem?_setIfInBounds]
      by_cases aF:k=i
      .subst aF;simp[aR]
      .simp[aF,Ne.symm aF]
     have BA:=L.nodup
     have avy:i∉pre++post:=by
      rw[List.nodup_append] at BA
      intro bR
      rcases List.mem_append.1 bR with aa|aa
      .exact BA.2.2 i aa i List.mem_cons_self rfl
      .exact(List.nodup_cons.1 BA.2.1).1 aa
     refine⟨by simp[L.size],λk kl=>?_,λk kl=>L.lt k ((List.Sublist.append (List.Sublist.refl _) (List.sublist_cons_self _ _)).subset kl),?_,?_,?_⟩
     .rw[Dq k true kl]
      by_cases aF:k=i
      .subst aF;simp;simpa using avy
      .rw[if_neg aF,L.mem k kl];simp[aF]
     .exact BA.sublist (List.Sublist.append (List.Sublist.refl _) (List.sublist_cons_self _ _))
     .exact L.adj.sublist (List.Sublist.append (List.Sublist.refl _) (List.sublist_cons_self _ _))
     .intro dw cT au Ev tv wZ
      rw[Dq _ _ wZ]
      rw[Dq _ _ Ev] at tv
      split
      .rfl
      .by_cases aF:cT=i
       .subst aF;exact vY dw au
       .rw[if_neg aF] at tv
        exact L.closed dw cT au Ev tv wZ
   split
   .rename_i hw;rw[if_pos hw] at wa;exact wa
   .rename_i hw;rw[if_neg hw] at wa;exact wa
theorem auG {ro:Option Nat}{mm:Nat}{id:Nat}{C:List Nat}(hm:P.follows .mixedOrders=true)(rR:Ra all C=true){e:Env}{h:ak}{K:Env->ak->Prop}(ag:qe P n all (Dd all.toList []) [] C e h K)
 {a:Act} {w:World} (g:Good n e a) (c:eQ h w) (fI:∀b4 ah dT cg,K b4 ah->Good n b4 dT->dT.defers=a.defers->eQ ah cg->eI h ah w cg->Q .normal dT cg):(Code.region id all true).wpIn (nq ro) mm P Q a w:=by
 simp only[Ra,Bool.and_eq_true,beq_iff_eq,List.all_eq_true,decide_eq_true_eq] at rR
 obtain⟨⟨⟨⟨aa,ad⟩,an⟩,aK⟩,aR⟩:=rR
 have wk:∀(j:Nat) (o:Oper),all[j]? =some o->∀gh∈o.after.toList,Region.binds .any gh=true->gh.on<j:=by
  intro j o dS gh he au
  have:=aR (o,j) (by
   rw[List.mem_zipIdx_iff_getElem?]
   simpa using dS) gh he
  simpa [au] using this
 refine wpIn_region_any hm (avv (adg all all.toList [] (λk=>by simp) (λj i au=>by simp at au)) wk K all.size C _ e h a _ (by omega) ?_ ag g (c:eQ h { w with drawn:=w.drawn+1 }) ?_)
 .refine⟨by simp,λi hi=>?_,ad,an,adi aK,?_⟩
  .have:i∈C:=by
    rcases Classical.em (i∈C) with bR|bR
    .exact bR
    .have:=Ry all.size (i::C) (List.nodup_cons.2 ⟨bR,an⟩) (λx ai=>by
      rcases List.mem_cons.1 ai with bp|bp
      .omega
      .exact ad x bp)
     simp at this;omega
   simp[Array.getD,hi,this]
  .intro i j _ aV bR _
   simp[Array.getD,aV] at bR
 .intro b4 ah dT cg q1 aJ wc bd bI
  exact fI b4 ah dT cg q1 aJ wc bd ((eI.drew h w).trans bI)
end

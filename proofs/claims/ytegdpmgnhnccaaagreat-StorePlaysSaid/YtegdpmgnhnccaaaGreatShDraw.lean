import Derived.Test.YtegdpmgnhnccaaaGreatShOrd
import Derived.Orders
namespace Go.cQ
open Go Go.RowKit
def ub (e ch:Env)(x:Operand):Prop:=∀t,x= .tmp t->e t=ch t
section
variable {P:Program} {n:Nat} {e ch:Env}
theorem jm {x:Operand}(h:ub e ch x):gM n e x=gM n ch x:=by
 cases x with
 | tmp t=>funext K;simp only[gM,h t rfl]
 | _=>rfl
theorem vT {ty:eo}{x:Operand}(h:ub e ch x):nW n ty e x=nW n ty ch x:=by
 cases x with
 | const v=>rfl
 | tmp t=>exact jm (x:= .tmp t) h
 | global g=>rfl
 | func f=>rfl
theorem Na:∀(l:List Operand),(∀x∈l,ub e ch x)->uc n e l=uc n ch l
 | [],_=>rfl
 | x::l,h=>by
  funext K;simp only[uc,jm (h x atm),Na l λy aA=>h y (atn _ aA)]
theorem AO:∀(l:List Operand) (h1:List TypeId),(∀x∈l,ub e ch x)->pJ P n e l h1=pJ P n ch l h1
 | [],_,_=>rfl
 | x::l,[],h=>by
  funext K;simp only[pJ,jm (h x atm),AO l [] λy aA=>h y (atn _ aA)]
 | x::l,t::h1,h=>by
  funext K;simp only[pJ,vT (h x atm),AO l h1 λy aA=>h y (atn _ aA)]
theorem Nb {oH:Nat->eo}:∀(l:List (Nat×Operand)),(∀x∈l,ub e ch x.2)->ud P n e oH l=ud P n ch oH l
 | [],_=>rfl
 | (i,x)::l,h=>by
  funext K;simp only[ud,vT (h (i,x) atm),Nb l λy aA=>h y (atn _ aA)]
theorem Nc {x:Option Operand}(h:∀y,x=some y->ub e ch y):ue n e x=ue n ch x:=by
 cases x with
 | none=>rfl
 | some y=>funext K;simp only[ue,jm (h y rfl)]
theorem anH {o:Op}{ty:TypeId}(h:∀x∈o.operands.toList,ub e ch x):uf P n o ty e=uf P n o ty ch:=by
 funext K;unfold uf;split
 .rw[vT (h _ (by simp[Op.operands]))]
 .rw[vT (h _ (by simp[Op.operands]))]
 .rename_i c a b
  rw[jm (h c (by simp[Op.operands])),jm (h a (by simp[Op.operands])),jm (h b (by simp[Op.operands]))]
 .rw[jm (h _ (by simp[Op.operands]))]
 .rename_i op T x y anI
  rw[jm (h x (by simp[Op.operands]))];have:∀a,vU P n op T y e a K=vU P n op T y ch a K:=by
   intro a;unfold vU;split
   .rfl
   .rw[jm (h y (by simp[Op.operands]))]
  simp only[this]
 .rw[jm (h _ (by simp[Op.operands]))]
 .rw[jm (h _ (by simp[Op.operands]))]
 .split
  .rw[jm (h _ (by simp[Op.operands]))]
  .rfl
 .rw[jm (h _ (by simp[Op.operands]))]
 .rename_i T x e0
  rw[jm (h x (by simp[Op.operands])),jm (h e0 (by simp[Op.operands]))]
 .rename_i T x e0
  rw[jm (h x (by simp[Op.operands])),jm (h e0 (by simp[Op.operands]))]
 .rw[jm (h _ (by simp[Op.operands]))]
 .rename_i T x lo hi jR
  rw[jm (h x (by simp[Op.operands]))];rw[Nc (x:=lo) (λy aA=>h y (by simp[Op.operands,aA])),Nc (x:=hi) (λy aA=>h y (by simp[Op.operands,aA])),
   Nc (x:=jR) (λy aA=>h y (by simp[Op.operands,aA]))]
 .rename_i g first captured
  rw[Na captured.toList (λx af=>h x (by simp[Op.operands] at af ⊢;exact .inr af))]
 .split
  .rfl
  .rw[vT (h _ (by simp[Op.operands]))]
  .rfl
 .rename_i T cc
  rw[Nb cc.toList (λx af=>h x.2 (by simp only[Op.operands];simp only[atE];exact⟨x,af,rfl⟩))]
 .rename_i b args ats
  rw[Na args.toList (λx af=>h x (by simp[Op.operands,Call.operands] at af ⊢;exact af))]
 .rfl
theorem anJ {o:Op}{ty:TypeId}(h:∀x∈o.operands.toList,ub e ch x):gY P n o ty e=gY P n o ty ch:=by
 funext aM K;unfold gY;split
 .rw[jm (h _ (by simp[Op.operands]))]
 .rename_i T a x
  rw[jm (h a (by simp[Op.operands])),vT (x:=x) (h x (by simp[Op.operands]))]
 .rw[vT (h _ (by simp[Op.operands]))]
 .rfl
 .rename_i T len cc
  rw[Nb cc.toList (λx af=>h x.2 (by simp only[Op.operands];simp only[atE];exact⟨x,af,rfl⟩))]
 .rename_i T l c
  rw[jm (h l (by simp[Op.operands])),jm (x:=c) (h c (by simp[Op.operands]))]
 .rfl
 .rename_i args ats
  rw[AO args.toList ats.toList (λx af=>h x (by simp[Op.operands,Call.operands] at af ⊢;exact af))]
 .rename_i args ats
  rw[AO args.toList ats.toList (λx af=>h x (by simp[Op.operands,Call.operands] at af ⊢;exact af))]
 .rename_i args ats
  rw[AO args.toList ats.toList (λx af=>h x (by simp[Op.operands,Call.operands] at af ⊢;exact af))]
 .rename_i T m k x
  rw[jm (h m (by simp[Op.operands])),jm (x:=k) (h k (by simp[Op.operands]))];have aC:∀(ty:eo) (K:ae->Prop),nW n ty e x K=nW n ty ch x K:=λty K=>by rw[vT (x:=x) (h x (by simp[Op.operands]))]
  simp only[aC]
 .rename_i f args ats
  rw[jm (h f (by simp[Op.operands,Call.operands])),AO args.toList ats.toList (λx af=>h x (by simp[Op.operands,Call.operands] at af ⊢;exact .inr af))]
 .rw[anH h]
end
def vV (n:Nat)(all:Array Oper)(o:Oper)(e:Env):Option Bool :=
 match o.guard with
 | none=>some true
 | some (j,sA)=>match (all[j]?).bind (·.dst) with
  | none=>none
  | some d=>match (if d<n then e d else none) with
   | some (.b t)=>some (t==sA)
   | some .no=>some false
   | _=>none
def runK (P:Program)(n:Nat)(all:Array Oper)(o:Oper)(e:Env)(h:ai)(K:ae->ai->Prop):Prop :=
 match vV n all o e with
 | some true=>gY P n o.op o.type e h K
 | some false=>K .no h
 | none=>False
def Hc (P:Program)(n:Nat)(all:Array Oper)(o:Oper)(e:Env)(h:ai)(K:Env->ae->ai->Prop):Prop :=
 match o.guard with
 | none=>gY P n o.op o.type e h (K e)
 | some (j,sA)=>match (all[j]?).bind (·.dst) with
  | none=>False
  | some d=>match (if d<n then e d else none) with
   | some (.b t)=>bp t
    (cond sA (gY P n o.op o.type (put e d (.b true)) h (K (put e d (.b true)))) (K (put e d (.b true)) .no h))
    (cond sA (K (put e d (.b false)) .no h) (gY P n o.op o.type (put e d (.b false)) h (K (put e d (.b false)))))
   | some .no=>K e .no h
   | _=>False
theorem XV {e:Env}{d:Nat}{s:ae}(h:e d=some s):put e d s=e:=by
 funext x;unfold put;split
 .rename_i af;subst af;exact h.symm
 .rfl
theorem XS (P:Program)(n:Nat)(all:Array Oper)(o:Oper)(e:Env)(h:ai)(K:Env->ae->ai->Prop):Hc P n all o e h K=runK P n all o e h (K e):=by
 unfold Hc runK vV;split
 .rfl
 .rename_i j sA cR
  split
  .rfl
  .rename_i d _
   by_cases bK:d<n
   .simp only[bK,at2];cases he:e d with
    | none=>rfl
    | some s =>
     cases s<;>try rfl
     rename_i t
     have:=XV he;cases t
     .simp only[bp,auA,this];cases sA<;>rfl
     .simp only[bp,aud,this];cases sA<;>rfl
   .simp only[bK,atS]
theorem XT {P:Program}{n:Nat}{all:Array Oper}{o:Oper}{e:Env}{h:ai}{K:ae->ai->Prop}(ab:runK P n all o e h K){a:Act}(g:Good n e a){w:World}(c:dU h w)
 {ro:Option Nat} {mm:Nat} {next:Act->World->Prop} {Q:Exit->Act->World->Prop} (aH:∀r ag bX,K r ag->dU ag bX->dN h ag w bX->next (a.put o.dst r.val) bX) :
 if Region.wanted o (yielded all a.tmps) then o.wpIn (lY ro) mm P a w next Q else (∀f,o.about P w a.eval=some f->(lY ro).fn f)/\next (a.put o.dst undef) w:=by
 have hw:∀b,vV n all o e=some b->Region.wanted o (yielded all a.tmps)=b:=by
  intro b au;unfold vV at au;unfold Region.wanted;cases cR:o.guard with
  | none=>simp[cR] at au;simp[au]
  | some anK =>
   obtain⟨j,sA⟩:=anK;simp only[cR] at au;simp only;split at au
   .cases au
   .rename_i d bK
    have aA:∀s,(if d<n then e d else none)=some s->yielded all a.tmps j=match s.val with| .bool b=>some b|_=>none:=by
     intro s aR;split at aR
     .rename_i b1
      have aa:=g.has d s b1 aR;have ad:a.tmps[d]? =some s.val:=by
       have aq:d<a.tmps.size:=by rw[g.size];exact b1
       rw[avd aq];simp[Array.getD,aq] at aa;rw[aa]
      unfold yielded;simp only[bK,Option.bind_some,ad];generalize s.val=v;cases v<;>rfl
     .cases aR
    split at au
    .rename_i t bz
     rw[aA _ bz];cases au;cases t<;>cases sA<;>rfl
    .rename_i bz
     rw[aA _ bz];cases au;rfl
    .cases au
 unfold runK at ab;split at ab
 .rename_i au
  rw[hw _ au,as8 rfl];exact(X7 ab g c).wp (anL ab) aH
 .rename_i au
  rw[hw _ au];exact⟨λ_ _=>trivial,aH .no h w ab c (dN.refl _ _)⟩
 .exact ab.elim
def vW (all:Array Oper)(o:Oper):List Nat :=
 (o.op.operands.toList.filterMap fun| .tmp t=>some t|_=>none) ++
 (match o.guard with
  | some (g,_)=>((all[g]?).bind (·.dst)).toList
  | none=>[])
theorem X8 {all:Array Oper}{o:Oper}{e:Env}{d:Option Nat}{s:ae}(h:∀t,d=some t->t∉vW all o):∀x∈o.op.operands.toList,ub (gd e d s) e x:=by
 intro x af t bz;subst bz;cases d with
 | none=>rfl
 | some d =>
  simp only[gd,put];rw[as7];intro ch;subst ch;exact h _ rfl (List.mem_append_left _ (List.mem_filterMap.2 ⟨_,af,rfl⟩))
theorem anM {n:Nat}{all:Array Oper}{o:Oper}{e:Env}{d:Option Nat}{s:ae}(h:∀t,d=some t->t∉vW all o):vV n all o (gd e d s)=vV n all o e:=by
 cases d with
 | none=>rfl
 | some d =>
  unfold vV;split
  .rfl
  .rename_i j sA cR
   split
   .rfl
   .rename_i bq nE
    have cX:bq≠d:=by
     intro ch;subst ch;exact h _ rfl (List.mem_append_right _ (by simp[cR,nE]))
    simp only[gd,put,as7 cX]
theorem X9 {P:Program}{n:Nat}{all:Array Oper}{o:Oper}{e:Env}{d:Option Nat}{s:ae}(h:∀t,d=some t->t∉vW all o) :
 runK P n all o (gd e d s)=runK P n all o e:=by
 funext aM K;unfold runK;rw[anM h,anJ (X8 h)]
theorem anN {n:Nat}{all:Array Oper}{o:Oper}{e:Env}{d:Option Nat}{s:ae}(h:∀t,d=some t->t∉vW all o):m1 n o.op (gd e d s)=m1 n o.op e:=by
 have:=X8 (e:=e) (s:=s) h;unfold m1;split
 .rename_i T t dQ
  have aa:=this (.tmp t) (by simp[dQ,Op.operands]) t rfl;rw[aa]
 .rfl
 .rfl
theorem anO {e:Env}{d bq:Option Nat}(h:∀t,d=some t->bq≠some t)(x y:ae):gd (gd e d x) bq y=gd (gd e bq y) d x:=by
 cases d with
 | none=>rfl
 | some t =>
  cases bq with
  | none=>rfl
  | some u=>exact put_comm e (λch=>h t rfl (by rw[ch])) x y
def xX:Dt->Dt->Bool
 | _,.oK=>true
 | .oK,_=>true
 | .read,.read=>true
 | .read,.act=>true
 | .read,.new=>true
 | .act,.new=>true
 | .new,.new=>true
 | _,_=>false
def comm (all:Array Oper)(y x:Oper):Bool :=
 (match x.dst with
  | some d=>!(vW all y).contains d&&y.dst != some d
  | none=>true) &&
 (match y.dst with
  | some d=>!(vW all x).contains d
  | none=>true)&&xX (cls y.op) (cls x.op)
theorem anP {all:Array Oper}{y x:Oper}(h:comm all y x=true) :
 (∀d,x.dst=some d->d∉vW all y)/\(∀d,x.dst=some d->y.dst≠some d)/\(∀d,y.dst=some d->d∉vW all x)/\xX (cls y.op) (cls x.op)=true:=by
 simp only[comm,at6] at h;obtain⟨⟨aa,ad⟩,aq⟩:=h;refine⟨λd bK=>?_,λd bK=>?_,λd bK=>?_,aq⟩
 .simp[bK] at aa;exact aa.1
 .simp[bK] at aa;exact aa.2
 .simp[bK] at ad;exact ad
inductive Kind (P:Program) (n:Nat) (all:Array Oper) (o:Oper) (e:Env) (h:ai) (K:ae->ai->Prop):Prop where
 | oK (r:ae) (aK:∀ag bC,runK P n all o e ag bC↔bC r ag) (mz:m1 n o.op e=none∨r= .no)
 | read (q:aG) (r:ae) (aT:cls o.op= .read) (bV:m1 n o.op e=some q) (ab:K r h) (aR:kN h q r) (aH:r≠.no) (cR:∀ag bC,kN ag q r->bC r ag->runK P n all o e ag bC)
 | new (aT:cls o.op= .new) (bV:m1 n o.op e=none) (aH:Hj (runK P n all o e))
 | act (aT:cls o.op= .act) (bV:m1 n o.op e=none) (hm:∀bC,(∀r ag,K r ag->bC r ag)->runK P n all o e h bC) (au:∀b fJ,h b=none->runK P n all o e (bD h b fJ) (Hk b fJ K))
  (c7:jG h->runK P n all o e h λr ag=>K r ag/\jG ag)
theorem Nd {n:Nat}{o:Op}{e:Env}(h:cls o≠.read):m1 n o e=none:=by
 unfold m1;split
 .simp[cls] at h
 .simp[cls] at h
 .rfl
theorem AP {P:Program}{n:Nat}{all:Array Oper}{o:Oper}{e:Env}{h:ai}{K:ae->ai->Prop}(ab:runK P n all o e h K):Kind P n all o e h K:=by
 cases cR:vV n all o e with
 | none=>simp[runK,cR] at ab
 | some b =>
  cases b with
  | false=>exact .oK .no (λag bC=>by simp[runK,cR]) (.inr rfl)
  | true =>
   have aC:∀ag bC,runK P n all o e ag bC=gY P n o.op o.type e ag bC:=λag bC=>by simp[runK,cR]
   rw[aC] at ab;cases aT:cls o.op with
   | oK =>
    rw[X_ aT] at ab;obtain⟨r,aK⟩:=anQ _ ab;exact .oK r (λag bC=>by rw[aC,X_ aT];exact aK _) (.inl (Nd (by rw[aT];decide)))
   | read =>
    obtain⟨q,r,bV,ab,aR,aH,anR⟩:=anS aT ab;exact .read q r aT bV ab aR aH λag bC aa ad=>by rw[aC];exact anR ag bC aa ad
   | new =>
    obtain⟨fJ,mk,aa⟩:=anT aT ab;exact .new aT (Nd (by rw[aT];decide)) ⟨fJ,mk,λag bC=>by rw[aC];exact aa ag bC⟩
   | act =>
    obtain⟨aa,ad,aq⟩:=anU aT ab;exact .act aT (Nd (by rw[aT];decide)) (λbC hm=>by rw[aC];exact aa bC hm) (λb fJ au=>by rw[aC];exact ad b fJ au) (λc7=>by rw[aC];exact aq c7)
theorem AQ {P:Program}{n:Nat}{all:Array Oper}{o:Oper}{e:Env}{h:ai}{K bC:ae->ai->Prop}(ab:runK P n all o e h K)(hm:∀r ag,K r ag->bC r ag):runK P n all o e h bC:=by
 cases AP ab with
 | oK r aK _=>exact(aK h bC).2 (hm _ _ ((aK h K).1 ab))
 | read q r _ _ fx aR _ cR=>exact cR h bC aR (hm _ _ fx)
 | new _ _ aH=>obtain⟨fJ,mk,aa⟩:=aH;exact(aa h bC).2 λb au=>hm _ _ ((aa h K).1 ab b au)
 | act _ _ aa _ _=>exact aa bC hm
theorem anV {P:Program}{n:Nat}{all:Array Oper}{o:Oper}{e:Env}{h:ai}{K:ae->ai->Prop}(ab:runK P n all o e h K)(c7:jG h):runK P n all o e h λr ag=>K r ag/\jG ag:=by
 cases AP ab with
 | oK r aK _=>exact(aK h _).2 ⟨(aK h K).1 ab,c7⟩
 | read q r _ _ fx aR _ cR=>exact cR h _ aR ⟨fx,c7⟩
 | new _ _ aH=>obtain⟨fJ,mk,aa⟩:=aH;exact(aa h _).2 λb au=>⟨(aa h K).1 ab b au,c7.bD _ _⟩
 | act _ _ _ _ aq=>exact aq c7
theorem Good.some (n:Nat)(e:Env):∃a,Good n e a:=by
 refine⟨{ tmps:=Array.ofFn (n:=n) λi=>((e i.1).map ae.val).getD undef,defers:=[] },by simp,λt s bz aR=>?_⟩;simp[Array.getD,bz,aR]
theorem anW {P:Program}{n:Nat}{all:Array Oper}{o:Oper}{e:Env}{h:ai}{K:ae->ai->Prop}(ab:runK P n all o e h K)(c7:jG h):∃r ag,K r ag/\jG ag:=by
 unfold runK at ab;split at ab
 .obtain⟨a,g⟩:=Good.some n e;obtain⟨w,c⟩:=c7.world;cases X7 ab g c with
  | value r ag bX ab aK b8 bg=>exact⟨r,ag,ab,b8.xY⟩
  | skip ag bX ab aK b8 bg=>exact⟨.no,ag,ab,b8.xY⟩
  | enter f args aK aT =>
   obtain⟨ch,bX,ao,⟨r,ag,_,ab,b8,_⟩,_⟩:=aT [];exact⟨r,ag,ab,b8.xY⟩
  | round l f tmps assign body aK aT =>
   obtain⟨ch,bX,⟨r,ag,_,ab,b8,_⟩,_⟩:=aT.2 default [] (λ_ h=>by cases h);exact⟨r,ag,ab,b8.xY⟩
 .exact⟨.no,h,ab,c7⟩
 .exact ab.elim
theorem Ya {P:Program}{n:Nat}{all:Array Oper}{o:Oper}{e:Env}{h:ai}{F:ae->ai->Prop}(ab:runK P n all o e h F){R:ai->Prop}(h0:R h)
 (anX:∀h b fJ,h b=none->R h->R (bD h b fJ)) (anY:cls o.op= .act->∀s ad,F s ad->R ad):runK P n all o e h λs ad=>F s ad/\R ad:=by
 cases AP ab with
 | oK r aK _=>exact(aK h _).2 ⟨(aK h F).1 ab,h0⟩
 | read q r _ _ fx aR _ cR=>exact cR h _ aR ⟨fx,h0⟩
 | new _ _ aH=>obtain⟨fJ,mk,aa⟩:=aH;exact(aa h _).2 λb au=>⟨(aa h F).1 ab b au,anX _ _ _ au h0⟩
 | act aT _ aa _ _=>exact aa _ λr ag jZ=>⟨jZ,anY aT _ _ jZ⟩
def Nf (h:ai)(q:aG):ae->Prop
 | .ws _ c=>bP h q.b q.o c
 | s=>fb h q.b q.o (ae.cells s)
theorem anZ (h:ai)(q:aG)(s:ae):Nf h q s↔kN h q s:=by
 unfold Nf kN;split
 .rename_i n c
  rw[qh];constructor
  .intro aT i hi
   have bN:i<n:=by simpa [ae.cells] using hi
   rw[aT i bN];simp[ae.cells]
  .intro aT i hi
   rw[aT i (by simpa [ae.cells] using hi)];simp[ae.cells]
 .exact atJ
def AR (h:ai)(m:Nat):List (Nat×aG×ae)->Prop->Prop
 | [],A=>A
 | (j,q,s)::l,A=>if m.testBit j=true then AR h m l A else Nf h q s/\AR h m l A
theorem Ng (h:ai)(m:Nat)(A:Prop):∀l,AR h m l A↔(∀x∈l,m.testBit x.1=false->kN h x.2.1 x.2.2)/\A
 | []=>by simp[AR]
 | (j,q,s)::l=>by
  simp only[AR];cases aL:m.testBit j with
  | true =>
   simp only[at2,Ng h m A l,at3,forall_eq_or_imp,aL];simp
  | false =>
   simp only[atN,atS,Ng h m A l,at3,forall_eq_or_imp,aL,anZ];constructor
   .rintro⟨aa,ad,aq⟩;exact⟨⟨λ_=>aa,ad⟩,aq⟩
   .rintro⟨⟨aa,ad⟩,aq⟩;exact⟨aa trivial,ad,aq⟩
def Nh (c:Dt)(h:ai)(m:Nat)(prev:List (Nat×aG×ae))(A:Prop):Prop :=
 match c with
 | .act=>AR h m prev A
 | _=>A
theorem an0 (c:Dt)(h:ai)(m:Nat)(prev:List (Nat×aG×ae))(A:Prop) :
 Nh c h m prev A↔(c= .act->∀x∈prev,m.testBit x.1=false->kN h x.2.1 x.2.2)/\A:=by
 cases c<;>simp[Nh,Ng]
def oL (n:Nat)(i:Nat)(o:Op)(e:Env)(r:ae)(prev:List (Nat×aG×ae)):List (Nat×aG×ae) :=
 match m1 n o e,r with
 | some _,.no=>prev
 | some q,r=>(i,q,r)::prev
 | none,_=>prev
def oG (P:Program)(n:Nat)(all:Array Oper)(M:List Nat):List (Nat×aG×ae)->List Nat->Env->ai->(Env->ai->Prop)->Prop
 | _,[],e,h,K=>K e h
 | prev,i::rem,e,h,K =>
  match all[i]? with
  | none=>False
  | some o=>Hc P n all o e h λch r ag =>
   Nh (cls o.op) ag (M.getD i 0) prev (oG P n all M (oL n i o.op ch r prev) rem (gd ch o.dst r) ag K)
section
variable {P:Program} {n:Nat} {all:Array Oper} {M:List Nat}
theorem Hl {prev:List (Nat×aG×ae)}{i:Nat}{rem:List Nat}{e:Env}{h:ai}{K:Env->ai->Prop}{o:Oper}(dQ:all[i]? =some o) :
 oG P n all M prev (i::rem) e h K=runK P n all o e h λr ag =>
  ((cls o.op= .act->∀x∈prev,(M.getD i 0).testBit x.1=false->kN ag x.2.1 x.2.2)/\oG P n all M (oL n i o.op e r prev) rem (gd e o.dst r) ag K):=by
 simp only[oG,dQ,XS,an0]
theorem an1 {i:Nat}{o:Op}{e:Env}{r:ae}{prev AS:List (Nat×aG×ae)}(h:∀x∈AS,x∈prev):∀x∈oL n i o e r AS,x∈oL n i o e r prev:=by
 unfold oL;split
 .exact h
 .intro x af
  rcases at3.1 af with aa|aa
  .rw[aa];exact atm
  .exact atn _ (h x aa)
 .exact h
theorem Yb:∀(rem:List Nat) (prev AS:List (Nat×aG×ae)) (e:Env) (h:ai) (K:Env->ai->Prop),(∀x∈AS,x∈prev) ->
 oG P n all M prev rem e h K->oG P n all M AS rem e h K
 | [],_,_,_,_,_,_,ab=>ab
 | i::rem,prev,AS,e,h,K,aR,ab=>by
  cases dQ:all[i]? with
  | none=>simp[oG,dQ] at ab
  | some o =>
   rw[Hl dQ] at ab ⊢;exact AQ ab λr ag ⟨aa,ad⟩=>⟨λaT x af hm=>aa aT x (aR x af) hm,Yb rem _ _ _ _ K (an1 aR) ad⟩
theorem an2 {i:Nat}{o:Op}{e:Env}{r:ae}{prev:List (Nat×aG×ae)}(h:m1 n o e=none∨r= .no):oL n i o e r prev=prev:=by
 unfold oL;rcases h with h|h
 .rw[h]
 .subst h;cases m1 n o e<;>rfl
theorem Yc {i:Nat}{o:Op}{e:Env}{r:ae}{q:aG}{prev:List (Nat×aG×ae)}(h:m1 n o e=some q)(aK:r≠.no):oL n i o e r prev=(i,q,r)::prev:=by
 unfold oL;rw[h];split
 .rename_i aH;exact absurd rfl aK
 .rename_i ah _;cases ah;rfl
 .rename_i ah;cases ah
theorem Yd {i:Nat}{x:Oper}(af:all[i]? =some x):∀(pre post:List Nat) (prev:List (Nat×aG×ae)) (e:Env) (h:ai) (K:Env->ai->Prop),jG h ->
 (∀j∈pre,∃y,all[j]? =some y/\comm all y x=true/\(M.getD i 0).testBit j=false) ->
 oG P n all M prev (pre++i::post) e h K ->
 runK P n all x e h λs aa=>(cls x.op= .act->∀z∈prev,(M.getD i 0).testBit z.1=false->kN aa z.2.1 z.2.2)/\oG P n all M prev (pre++post) (gd e x.dst s) aa K
 | [],post,prev,e,h,K,c7,_,ab=>by
  rw[List.nil_append,Hl af] at ab;exact AQ ab λr ag ⟨aa,ad⟩=>⟨aa,Yb _ _ _ _ _ K (λz bt=>by
   unfold oL;split
   .exact bt
   .exact atn _ bt
   .exact bt) ad⟩
 | j::pre,post,prev,e,h,K,c7,sy,ab=>by
  obtain⟨y,aA,an3,Cd⟩:=sy j atm;have an4:∀j∈pre,∃y,all[j]? =some y/\comm all y x=true/\(M.getD i 0).testBit j=false:=λcy lg=>sy cy (atn _ lg);obtain⟨aX,aZ,cp,dc⟩:=anP an3;rw[List.cons_append,Hl aA] at ab;have jF:=AQ (anV ab c7) λr ag ⟨⟨aa,ad⟩,Ye⟩=>And.intro aa (Yd af pre post _ _ _ K Ye an4 ad);have an5:∀r s,gd (gd e y.dst r) x.dst s=gd (gd e x.dst s) y.dst r:=λr s=>anO (λt bz ch=>aZ t ch bz) r s;have an6:∀r,runK P n all x (gd e y.dst r)=runK P n all x e:=λr=>X9 cp;have an7:∀s,runK P n all y (gd e x.dst s)=runK P n all y e:=λs=>X9 aX;have an8:∀s,m1 n y.op (gd e x.dst s)=m1 n y.op e:=λs=>anN aX;have an9:∀s r prev,oL n j y.op (gd e x.dst s) r prev=oL n j y.op e r prev:=λs r prev=>by unfold oL;rw[an8]
  have an_:∀s aa,oG P n all M prev (j::pre++post) (gd e x.dst s) aa K=runK P n all y e aa λr ad =>
   ((cls y.op= .act->∀z∈prev,(M.getD j 0).testBit z.1=false->kN ad z.2.1 z.2.2)/\oG P n all M (oL n j y.op e r prev) (pre++post) (gd (gd e y.dst r) x.dst s) ad K):=by
   intro s aa;rw[List.cons_append,Hl aA,an7 s];congr 1;funext r ad;rw[an9,an5]
  simp only[an6] at jF;simp only[an_];have Yf:∀h b fJ,h b=none->(cls y.op= .act->∀z∈prev,(M.getD j 0).testBit z.1=false->kN h z.2.1 z.2.2) ->
   (cls y.op= .act->∀z∈prev,(M.getD j 0).testBit z.1=false->kN (bD h b fJ) z.2.1 z.2.2):=λh b fJ au bT aT z bt hm=>(bT aT z bt hm).beside fJ au
  cases AP jF with
  | oK r aK mz =>
   obtain⟨dQ,iw⟩:=(aK h _).1 jF;have CN:=Ya iw dQ Yf (λaT=>by
    intro s ad _ xZ;rw[aT,xZ] at dc;simp[xX] at dc)
   refine AQ CN λs ad ⟨⟨aq,aJ⟩,aW⟩=>?_;rw[an2 mz] at aq;exact⟨aq,(aK ad _).2 ⟨aW,aJ⟩⟩
  | read q r aT bV iw aR aH cR =>
   obtain⟨dQ,iw⟩:=iw;rw[Yc bV aH] at iw;have CN:=Ya iw (R:=λh=>kN h q r) aR (λh b fJ au bT=>bT.beside fJ au) (λjS s ad jZ=>jZ.1 jS (j,q,r) atm Cd);refine AQ CN λs ad ⟨⟨aq,aJ⟩,aW⟩=>⟨λjS z bt hm=>aq jS z (atn _ bt) hm,cR ad _ aW ⟨(λxZ=>by rw[aT] at xZ;cases xZ),?_⟩⟩;rw[Yc bV aH];exact aJ
  | new aT bV aH =>
   obtain⟨fJ,mk,Ni⟩:=aH;have iw:=(Ni h _).1 jF;have x0:cls x.op≠.act:=λjS=>by rw[aT,jS] at dc;simp[xX] at dc
   have jq:cls x.op≠.read:=λjS=>by rw[aT,jS] at dc;simp[xX] at dc
   obtain⟨fW,j0⟩:=c7.fresh;cases AP (iw fW j0).2 with
   | oK s aR _ =>
    refine(aR h _).2 ⟨λjS=>absurd jS x0,(Ni h _).2 λb au=>?_⟩;obtain⟨aq,aJ⟩:=iw b au;exact⟨aq,((aR _ _).1 aJ).2⟩
   | read _ _ jS _ _ _ _ _=>exact absurd jS jq
   | act jS _ _ _ _=>exact absurd jS x0
   | new jS _ m3 =>
    obtain⟨Yg,mk',Du⟩:=m3;refine(Du h _).2 λiv hn=>⟨λNj=>absurd Nj x0,(Ni _ _).2 λb au=>?_⟩;have cX:b≠iv:=by intro ch;subst ch;rw[ea] at au;cases au
    rw[cJ _ _ cX] at au;obtain⟨aq,aJ⟩:=iw b au;have aW:=((Du _ _).1 aJ) iv (by rw[cJ _ _ (atf cX)];exact hn);rw[Hm h _ _ (atf cX)];exact⟨(λxZ=>by rw[aT] at xZ;cases xZ),aW.2⟩
  | act aT bV hm hn Ye =>
   have x0:cls x.op≠.act:=λjS=>by rw[aT,jS] at dc;simp[xX] at dc
   have jq:cls x.op≠.read:=λjS=>by rw[aT,jS] at dc;simp[xX] at dc
   obtain⟨gT,h0,⟨_,l6⟩,_⟩:=anW jF c7;cases AP l6 with
   | oK s aR _ =>
    exact(aR h _).2 ⟨λjS=>absurd jS x0,hm _ λr ag ⟨aq,aJ⟩=>⟨aq,((aR _ _).1 aJ).2⟩⟩
   | read _ _ jS _ _ _ _ _=>exact absurd jS jq
   | act jS _ _ _ _=>exact absurd jS x0
   | new jS _ m3 =>
    obtain⟨Yg,mk',Du⟩:=m3;refine(Du h _).2 λb au=>⟨λNj=>absurd Nj x0,?_⟩;refine AQ (hn b Yg au) ?_;rintro r ad ⟨ag,rfl,Yh,aq,aJ⟩;exact⟨Yf _ _ _ Yh aq,((Du _ _).1 aJ b Yh).2⟩
end
inductive sB (all:Array Oper):Nat->Nat->Prop where
 | Nk {j:Nat} {o:Oper} {fg:Edge} (h:all[j]? =some o) (he:fg∈o.after.toList) (au:Region.binds .any fg=true):sB all fg.on j
 | trans {i k j:Nat} (h:sB all i k) {o:Oper} {fg:Edge} (dQ:all[j]? =some o) (he:fg∈o.after.toList) (au:Region.binds .any fg=true) (ab:fg.on=k):sB all i j
def sC (acc:List Nat):List Edge->Nat->Nat
 | [],s=>s
 | fg::l,s=>sC acc l (if Region.binds .any fg=true then s ||| 2 ^ fg.on ||| acc.getD fg.on 0 else s)
def AH:List Oper->List Nat->List Nat
 | [],acc=>acc
 | o::l,acc=>AH l (acc++[sC acc o.after.toList 0])
theorem Yi (acc:List Nat)(i:Nat):∀(l:List Edge) (s:Nat),(sC acc l s).testBit i=true ->
 s.testBit i=true∨∃fg∈l,Region.binds .any fg=true/\(fg.on=i∨(acc.getD fg.on 0).testBit i=true)
 | [],s,h=> .inl h
 | fg::l,s,h=>by
  simp only[sC] at h;rcases Yi acc i l _ h with aa|⟨aoa,he,au,ad⟩
  .split at aa
   .rename_i au
    simp only[Nat.testBit_or,Nat.testBit_two_pow,Bool.or_eq_true,aui] at aa;rcases aa with (aa|aa)|aa
    .exact .inl aa
    .exact .inr ⟨fg,atm,au,.inl aa⟩
    .exact .inr ⟨fg,atm,au,.inr aa⟩
   .exact .inl aa
  .exact .inr ⟨aoa,atn _ he,au,ad⟩
theorem Yj (all:Array Oper):∀(l:List Oper) (acc:List Nat),(∀k,l[k]? =all[acc.length+k]?) ->
 (∀j i,(acc.getD j 0).testBit i=true->sB all i j)->∀j i,((AH l acc).getD j 0).testBit i=true->sB all i j
 | [],acc,_,h=>h
 | o::l,acc,aO,h=>by
  simp only[AH];refine Yj all l _ (λk=>?_) ?_
  .have:=aO (k+1);simpa [Nat.add_assoc,Nat.add_comm 1] using this
  .intro j i au
   have dQ:all[acc.length]? =some o:=by simpa using (aO 0).symm
   rcases Nat.lt_trichotomy j acc.length with aL|aL|aL
   .have e:(acc++[sC acc o.after.toList 0]).getD j 0=acc.getD j 0:=by
     have:(acc++[sC acc o.after.toList 0])[j]? =acc[j]?:=atB aL;simp only[List.getD,this]
    rw[e] at au;exact h j i au
   .subst aL;have e:(acc++[sC acc o.after.toList 0]).getD acc.length 0=sC acc o.after.toList 0:=by simp[List.getD]
    rw[e] at au;rcases Yi acc i _ _ au with aa|⟨fg,he,CS,ad|ad⟩
    .simp at aa
    .subst ad;exact .Nk dQ he CS
    .exact .trans (h _ _ ad) dQ he CS rfl
   .have e:(acc++[sC acc o.after.toList 0]).getD j 0=0:=by
     have:(acc++[sC acc o.after.toList 0])[j]? =none:=by rw[List.getElem?_eq_none_iff];simp;omega
     simp[List.getD,this]
    rw[e] at au;simp at au
def Hn (all:Array Oper)(M:List Nat):List Nat->Bool
 | []=>true
 | p::l=>(l.all λq=>(M.getD q 0).testBit p||(match all[p]?,all[q]? with|some y,some x=>comm all y x|_,_=>false))&&Hn all M l
def Yk (all:Array Oper)(M:List Nat)(p q:Nat):Prop:=(M.getD q 0).testBit p=true∨∃y x,all[p]? =some y/\all[q]? =some x/\comm all y x=true
theorem Yl {all:Array Oper}{M:List Nat}:∀ {l:List Nat},Hn all M l=true->l.Pairwise (Yk all M)
 | [],_=> .nil
 | p::l,h=>by
  simp only[Hn,at6,auH,Bool.or_eq_true] at h;refine .cons (λq ah=>?_) (Yl h.2);rcases h.1 q ah with aa|aa
  .exact .inl aa
  .split at aa
   .rename_i y x aA af;exact .inr ⟨y,x,aA,af,aa⟩
   .cases aa
def MW (all:Array Oper)(C:List Nat):Bool :=
 (C.length==all.size)&&C.all (λi=>decide (i<all.size))&&decide C.Nodup&&Hn all (AH all.toList []) C &&
 (all.toList.zipIdx.all λ(o,i)=>o.after.toList.all λfg=>!Region.binds .any fg||decide (fg.on<i))
structure Left (all:Array Oper)(M:List Nat)(rem:List Nat)(ka:Array Bool):Prop where
 size:ka.size=all.size
 mem:∀i,i<all.size->(ka.getD i true=false↔i∈rem)
 lt:∀i∈rem,i<all.size
 nodup:rem.Nodup
 Ym:rem.Pairwise (Yk all M)
 closed:∀i j,sB all i j->j<all.size->ka.getD j true=true->i<all.size->ka.getD i true=true
theorem sB.lt {all:Array Oper}(ug:∀(j:Nat) (o:Oper),all[j]? =some o->∀fg∈o.after.toList,Region.binds .any fg=true->fg.on<j){i j:Nat}(h:sB all i j):i<j:=by
 induction h with
 | Nk h he au=>exact ug _ _ h _ he au
 | trans h dQ he au ab c6=>have:=ug _ _ dQ _ he au;omega
theorem Yn:∀(l:List Nat),l≠[]->∃i∈l,∀j∈l,i<=j
 | [],h=>absurd rfl h
 | [x],_=>⟨x,atm,by simp⟩
 | x::y::l,_=>by
  obtain⟨i,hi,hm⟩:=Yn (y::l) (by simp);rcases Nat.le_total x i with h|h
  .exact⟨x,atm,λj aL=>by
    rcases at3.1 aL with aa|aa
    .omega
    .have:=hm j aa;omega⟩
  .exact⟨i,atn _ hi,λj aL=>by
    rcases at3.1 aL with aa|aa
    .omega
    .exact hm j aa⟩
theorem Nl:∀(N:Nat) (l:List Nat),l.Nodup->(∀x∈l,x<N)->l.length<=N
 | 0,l,_,h=>by
  cases l with
  | nil=>simp
  | cons x l=>exact absurd (h x atm) (by omega)
 | N+1,l,aH,h=>by
  by_cases hm:N∈l
  .have aa:=Nl N (l.erase N) (aH.erase N) (λx af=>by
    have lZ:=(auB aH).1 af;have:=h x lZ.2;omega)
   rw[List.length_erase_of_mem hm] at aa;omega
  .have:=Nl N l aH (λx af=>by
    have aa:=h x af;have:x≠N:=λe=>hm (e▸af);omega)
   omega
section
variable {P:Program} {n:Nat} {all:Array Oper} {Q:Exit->Act->World->Prop}
theorem mem_ready {ka:Array Bool}{i:Nat}:i∈Region.ready .any all ka↔i<all.size/\ka.getD i true=false /\
 ∃o,all[i]? =some o/\∀fg∈o.after.toList,Region.binds .any fg=true->ka.getD fg.on false=true:=by
 unfold Region.ready;simp only[auL,atq,at6,Bool.not_eq_true'];constructor
 .rintro⟨aa,ad,aq⟩;refine⟨aa,ad,all[i],by simp[aa],λfg he au=>?_⟩;simp[aa] at aq;obtain⟨k,ab,rfl⟩:=List.mem_iff_getElem.1 he;have:=aq k (by simpa using ab);have hn:Region.binds .any all[i].after[k]=true:=by simpa using au
  simpa [hn] using this
 .rintro⟨aa,ad,o,dQ,aq⟩;refine⟨aa,ad,?_⟩;simp only[dQ,aua,au7];rw[<-Array.all_toList,auH];intro fg he;cases au:Region.binds .any fg with
  | false=>rfl
  | true=>simp[aq fg he au]
theorem aob {ro:Option Nat}{mm:Nat}{M:List Nat}(Bf:∀j i,(M.getD j 0).testBit i=true->sB all i j)
 (ug:∀(j:Nat) (o:Oper),all[j]? =some o->∀fg∈o.after.toList,Region.binds .any fg=true->fg.on<j) (K:Env->ai->Prop) :
 ∀(fuel:Nat) (rem:List Nat) (ka:Array Bool) (e:Env) (h:ai) (a:Act) (w:World),rem.length<=fuel->Left all M rem ka->oG P n all M [] rem e h K->Good n e a->dU h w ->
  (∀ch ag dq bX,K ch ag->Good n ch dq->dq.defers=a.defers->dU ag bX->dN h ag w bX->Q .normal dq bX)->wpAnyIn (lY ro) mm P .any all Q fuel ka a w:=by
 intro fuel
 induction fuel with
 | zero =>
  intro rem ka e h a w aO L ab g c ja;obtain rfl:rem=[]:=atM.1 (by omega);refine⟨?_,ja e h a w ab g rfl c (dN.refl _ _)⟩;apply List.eq_nil_iff_forall_not_mem.2;intro i hi;obtain⟨aa,ad,_⟩:=mem_ready.1 hi;have:=(L.mem i aa).1 ad;simp at this
 | succ fuel c6 =>
  intro rem ka e h a w aO L ab g c ja;refine⟨λaoc=>?_,λi hi=>?_⟩
  .by_cases aK:rem=[]
   .subst aK;exact ja e h a w ab g rfl c (dN.refl _ _)
   .exfalso;obtain⟨i,hi,IP⟩:=Yn rem aK;have b1:=L.lt i hi;have:i∈Region.ready .any all ka:=by
     refine mem_ready.2 ⟨b1,(L.mem i b1).2 hi,all[i],by simp[b1],λfg he au=>?_⟩;have aa:fg.on<i:=ug i all[i] (by simp[b1]) fg he au;have ad:fg.on<all.size:=by omega
     have aq:fg.on∉rem:=λbT=>by have:=IP _ bT;omega
     have aJ:ka.getD fg.on true≠false:=λbT=>aq ((L.mem _ ad).1 bT);have aW:fg.on<ka.size:=by rw[L.size];exact ad
     simp[Array.getD,aW] at aJ ⊢;exact aJ
    rw[aoc] at this;simp at this
  .obtain⟨b1,zu,o,dQ,iI⟩:=mem_ready.1 hi;have Nm:=(L.mem i b1).1 zu;obtain⟨pre,post,rfl⟩:=List.append_of_mem Nm;have tU:∀j,sB all j i->ka.getD j true=true:=by
    intro j aL;have Iq:=aL.lt ug;have key:∀k,k<all.size->ka.getD k false=true->ka.getD k true=true:=by
     intro k jF iw;have aW:k<ka.size:=by rw[L.size];exact jF
     simpa [Array.getD,aW] using iw
    cases aL with
    | Nk h he au =>
     rw[dQ] at h;cases h;have aa:=ug i o dQ _ he au;exact key _ (by omega) (iI _ he au)
    | trans h Yo he au ab =>
     rw[dQ] at Yo;cases Yo;have aa:=ug i o dQ _ he au;subst ab;exact L.closed _ _ h (by omega) (key _ (by omega) (iI _ he au)) (by omega)
   have sy:∀j∈pre,∃y,all[j]? =some y/\comm all y o=true/\(M.getD i 0).testBit j=false:=by
    intro j aL;have aod:=L.lt j (by simp[aL]);have Yp:(M.getD i 0).testBit j=false:=by
     cases au:(M.getD i 0).testBit j with
     | false=>rfl
     | true =>
      have aa:=tU j (Bf _ _ au);have ad:=(L.mem j aod).2 (by simp[aL]);rw[aa] at ad;cases ad
    have aM:=L.Ym;rw[List.pairwise_append] at aM;rcases aM.2.2 j aL i atm with aa|⟨y,x,aA,af,aT⟩
    .rw[Yp] at aa;cases aa
    .rw[dQ] at af;cases af;exact⟨y,aA,aT,Yp⟩
   have jW:=Yd dQ pre post [] e h K c.xY sy ab;unfold wpOpIn;simp only[dQ];have tZ:=XT (ro:=ro) (mm:=mm) (next:=wpAnyIn (lY ro) mm P .any all Q fuel (ka.setIfInBounds i true)) (Q:=Q) jW g c λr ag bX ⟨_,fx⟩ b8 bg=>by
    refine c6 (pre++post) _ _ _ _ _ ?_ ?_ fx (g.put o.dst r) b8 λt_ gp MX MY q1 aP ua bs bJ=>ja t_ gp MX MY q1 aP (ua.trans (by cases o.dst<;>rfl)) bs (bg.trans bJ)
    .simp at aO ⊢;omega
    .have AT:∀k d,k<all.size->(ka.setIfInBounds i true).getD k d=if k=i then true else ka.getD k d:=by
      intro k d jF;have aW:k<ka.size:=by rw[L.size];exact jF
      simp only[Array.getD_eq_getD_getElem?,auh];by_cases aC:k=i
      .subst aC;simp[aW]
      .simp[aC,atf aC]
     have yE:=L.nodup;have aoe:i∉pre++post:=by
      rw[auP] at yE;intro bT;rcases atw.1 bT with aa|aa
      .exact yE.2.2 i aa i atm rfl
      .exact(auk.1 yE.2.1).1 aa
     refine⟨by simp[L.size],λk jF=>?_,λk jF=>L.lt k ((List.Sublist.append (List.Sublist.refl _) (List.sublist_cons_self _ _)).subset jF),?_,?_,?_⟩
     .rw[AT k true jF];by_cases aC:k=i
      .subst aC;simp;simpa using aoe
      .rw[as7 aC,L.mem k jF];simp[aC]
     .exact yE.sublist (List.Sublist.append (List.Sublist.refl _) (List.sublist_cons_self _ _))
     .exact L.Ym.sublist (List.Sublist.append (List.Sublist.refl _) (List.sublist_cons_self _ _))
     .intro di cy au Bb rA ux
      rw[AT _ _ ux];rw[AT _ _ Bb] at rA;split
      .rfl
      .by_cases aC:cy=i
       .subst aC;exact tU di au
       .rw[as7 aC] at rA;exact L.closed di cy au Bb rA ux
   split
   .rename_i hw;rw[as8 hw] at tZ;exact tZ
   .rename_i hw;rw[as7 hw] at tZ;exact tZ
theorem ank {ro:Option Nat}{mm:Nat}{id:Nat}{C:List Nat}(hm:P.follows .mixedOrders=true)(qg:MW all C=true){e:Env}{h:ai}{K:Env->ai->Prop}(ab:oG P n all (AH all.toList []) [] C e h K)
 {a:Act} {w:World} (g:Good n e a) (c:dU h w) (ja:∀ch ag dq bX,K ch ag->Good n ch dq->dq.defers=a.defers->dU ag bX->dN h ag w bX->Q .normal dq bX):(Code.region id all true).wpIn (lY ro) mm P Q a w:=by
 simp only[MW,at6,beq_iff_eq,auH,aui] at qg;obtain⟨⟨⟨⟨aa,ad⟩,aq⟩,aJ⟩,aW⟩:=qg;have ug:∀(j:Nat) (o:Oper),all[j]? =some o->∀fg∈o.after.toList,Region.binds .any fg=true->fg.on<j:=by
  intro j o dQ fg he au;have:=aW (o,j) (by
   rw[List.mem_zipIdx_iff_getElem?];simpa using dQ) fg he
  simpa [au] using this
 refine wpIn_region_any hm (aob (Yj all all.toList [] (λk=>by simp) (λj i au=>by simp at au)) ug K all.size C _ e h a _ (by omega) ?_ ab g (c:dU h { w with drawn:=w.drawn+1 }) ?_)
 .refine⟨by simp,λi hi=>?_,ad,aq,Yl aJ,?_⟩
  .have:i∈C:=by
    rcases Classical.em (i∈C) with bT|bT
    .exact bT
    .have:=Nl all.size (i::C) (auk.2 ⟨bT,aq⟩) (λx af=>by
      rcases at3.1 af with bd|bd
      .omega
      .exact ad x bd)
     simp at this;omega
   simp[Array.getD,hi,this]
  .intro i j _ aL bT _
   simp[Array.getD,aL] at bT
 .intro ch ag dq bX q1 aP ua bs bJ
  exact ja ch ag dq bX q1 aP ua bs ((dN.drew h w).trans bJ)
end

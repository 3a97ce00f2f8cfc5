import Derived.Test.YtegdpmgnhnccaaaGreatShOrd
import Derived.Orders
namespace Go.cR
open Go Go.RowKit
def xj (e cc:Env)(x:Operand):Prop:=∀t,x= .tmp t->e t=cc t
section
variable {P:Program} {n:Nat} {e cc:Env}
theorem k3 {x:Operand}(h:xj e cc x):ie n e x=ie n cc x:=by
 cases x with
 | tmp t=>funext K;simp only[ie,h t rfl]
 | _=>rfl
theorem y_ {ty:fp}{x:Operand}(h:xj e cc x):qf n ty e x=qf n ty cc x:=by
 cases x with
 | const v=>rfl
 | tmp t=>exact k3 (x:= .tmp t) h
 | global g=>rfl
 | func f=>rfl
theorem S_:∀(l:List Operand),(∀x∈l,xj e cc x)->xk n e l=xk n cc l
 | [],_=>rfl
 | x::l,h=>by
  funext K;simp only[xk,k3 (h x aDH),S_ l λy aC=>h y (aDI _ aC)]
theorem Ep:∀(l:List Operand) (jz:List TypeId),(∀x∈l,xj e cc x)->r0 P n e l jz=r0 P n cc l jz
 | [],_,_=>rfl
 | x::l,[],h=>by
  funext K;simp only[r0,k3 (h x aDH),Ep l [] λy aC=>h y (aDI _ aC)]
 | x::l,t::jz,h=>by
  funext K;simp only[r0,y_ (h x aDH),Ep l jz λy aC=>h y (aDI _ aC)]
theorem Ta {qY:Nat->fp}:∀(l:List (Nat×Operand)),(∀x∈l,xj e cc x.2)->xl P n e qY l=xl P n cc qY l
 | [],_=>rfl
 | (i,x)::l,h=>by
  funext K;simp only[xl,y_ (h (i,x) aDH),Ta l λy aC=>h y (aDI _ aC)]
theorem Tb {x:Option Operand}(h:∀y,x=some y->xj e cc y):xm n e x=xm n cc x:=by
 cases x with
 | none=>rfl
 | some y=>funext K;simp only[xm,k3 (h y rfl)]
theorem axW {o:Op}{ty:TypeId}(h:∀x∈o.operands.toList,xj e cc x):xn P n o ty e=xn P n o ty cc:=by
 funext K;unfold xn;split
 .rw[y_ (h _ (by simp[Op.operands]))]
 .rw[y_ (h _ (by simp[Op.operands]))]
 .rename_i c a b
  rw[k3 (h c (by simp[Op.operands])),k3 (h a (by simp[Op.operands])),k3 (h b (by simp[Op.operands]))]
 .rw[k3 (h _ (by simp[Op.operands]))]
 .rename_i op T x y axX
  rw[k3 (h x (by simp[Op.operands]))];have:∀a,za P n op T y e a K=za P n op T y cc a K:=by
   intro a;unfold za;split
   .rfl
   .rw[k3 (h y (by simp[Op.operands]))]
  simp only[this]
 .rw[k3 (h _ (by simp[Op.operands]))]
 .rw[k3 (h _ (by simp[Op.operands]))]
 .split
  .rw[k3 (h _ (by simp[Op.operands]))]
  .rfl
 .rw[k3 (h _ (by simp[Op.operands]))]
 .rename_i T x cA
  rw[k3 (h x (by simp[Op.operands])),k3 (h cA (by simp[Op.operands]))]
 .rename_i T x cA
  rw[k3 (h x (by simp[Op.operands])),k3 (h cA (by simp[Op.operands]))]
 .rw[k3 (h _ (by simp[Op.operands]))]
 .rename_i T x lo hi lC
  rw[k3 (h x (by simp[Op.operands]))];rw[Tb (x:=lo) (λy aC=>h y (by simp[Op.operands,aC])),Tb (x:=hi) (λy aC=>h y (by simp[Op.operands,aC])),
   Tb (x:=lC) (λy aC=>h y (by simp[Op.operands,aC]))]
 .rename_i g first captured
  rw[S_ captured.toList (λx ai=>h x (by simp[Op.operands] at ai ⊢;exact .inr ai))]
 .split
  .rfl
  .rw[y_ (h _ (by simp[Op.operands]))]
  .rfl
 .rename_i T cN
  rw[Ta cN.toList (λx ai=>h x.2 (by simp only[Op.operands];simp only[aD2];exact⟨x,ai,rfl⟩))]
 .rename_i b args ats
  rw[S_ args.toList (λx ai=>h x (by simp[Op.operands,Call.operands] at ai ⊢;exact ai))]
 .rfl
theorem axY {o:Op}{ty:TypeId}(h:∀x∈o.operands.toList,xj e cc x):iJ P n o ty e=iJ P n o ty cc:=by
 funext aP K;unfold iJ;split
 .rw[k3 (h _ (by simp[Op.operands]))]
 .rename_i T a x
  rw[k3 (h a (by simp[Op.operands])),y_ (x:=x) (h x (by simp[Op.operands]))]
 .rw[y_ (h _ (by simp[Op.operands]))]
 .rfl
 .rename_i T len cN
  rw[Ta cN.toList (λx ai=>h x.2 (by simp only[Op.operands];simp only[aD2];exact⟨x,ai,rfl⟩))]
 .rename_i T l c
  rw[k3 (h l (by simp[Op.operands])),k3 (x:=c) (h c (by simp[Op.operands]))]
 .rfl
 .rename_i args ats
  rw[Ep args.toList ats.toList (λx ai=>h x (by simp[Op.operands,Call.operands] at ai ⊢;exact ai))]
 .rename_i args ats
  rw[Ep args.toList ats.toList (λx ai=>h x (by simp[Op.operands,Call.operands] at ai ⊢;exact ai))]
 .rename_i args ats
  rw[Ep args.toList ats.toList (λx ai=>h x (by simp[Op.operands,Call.operands] at ai ⊢;exact ai))]
 .rename_i T m k x
  rw[k3 (h m (by simp[Op.operands])),k3 (x:=k) (h k (by simp[Op.operands]))];have aH:∀(ty:fp) (K:ag->Prop),qf n ty e x K=qf n ty cc x K:=λty K=>by rw[y_ (x:=x) (h x (by simp[Op.operands]))]
  simp only[aH]
 .rename_i f args ats
  rw[k3 (h f (by simp[Op.operands,Call.operands])),Ep args.toList ats.toList (λx ai=>h x (by simp[Op.operands,Call.operands] at ai ⊢;exact .inr ai))]
 .rw[axW h]
end
def zb (n:Nat)(all:Array Oper)(o:Oper)(e:Env):Option Bool :=
 match o.guard with
 | none=>some true
 | some (j,vo)=>match (all[j]?).bind (·.dst) with
  | none=>none
  | some d=>match (if d<n then e d else none) with
   | some (.b t)=>some (t==vo)
   | some .no=>some false
   | _=>none
def runK (P:Program)(n:Nat)(all:Array Oper)(o:Oper)(e:Env)(h:ak)(K:ag->ak->Prop):Prop :=
 match zb n all o e with
 | some true=>iJ P n o.op o.type e h K
 | some false=>K .no h
 | none=>False
def Mr (P:Program)(n:Nat)(all:Array Oper)(o:Oper)(e:Env)(h:ak)(K:Env->ag->ak->Prop):Prop :=
 match o.guard with
 | none=>iJ P n o.op o.type e h (K e)
 | some (j,vo)=>match (all[j]?).bind (·.dst) with
  | none=>False
  | some d=>match (if d<n then e d else none) with
   | some (.b t)=>bl t
    (cond vo (iJ P n o.op o.type (put e d (.b true)) h (K (put e d (.b true)))) (K (put e d (.b true)) .no h))
    (cond vo (K (put e d (.b false)) .no h) (iJ P n o.op o.type (put e d (.b false)) h (K (put e d (.b false)))))
   | some .no=>K e .no h
   | _=>False
theorem ae8 {e:Env}{d:Nat}{s:ag}(h:e d=some s):put e d s=e:=by
 funext x;unfold put;split
 .rename_i ai;subst ai;exact h.symm
 .rfl
theorem ae5 (P:Program)(n:Nat)(all:Array Oper)(o:Oper)(e:Env)(h:ak)(K:Env->ag->ak->Prop):Mr P n all o e h K=runK P n all o e h (K e):=by
 unfold Mr runK zb;split
 .rfl
 .rename_i j vo dd
  split
  .rfl
  .rename_i d _
   by_cases b4:d<n
   .simp only[b4,aEv];cases he:e d with
    | none=>rfl
    | some s =>
     cases s<;>try rfl
     rename_i t
     have:=ae8 he;cases t
     .simp only[bl,aEZ,this];cases vo<;>rfl
     .simp only[bl,aED,this];cases vo<;>rfl
   .simp only[b4,aEc]
theorem ae6 {P:Program}{n:Nat}{all:Array Oper}{o:Oper}{e:Env}{h:ak}{K:ag->ak->Prop}(ah:runK P n all o e h K){a:Act}(g:Good n e a){w:World}(c:e8 h w)
 {ro:Option Nat} {mm:Nat} {next:Act->World->Prop} {Q:Exit->Act->World->Prop} (aK:∀r af cv,K r af->e8 af cv->e5 h af w cv->next (a.put o.dst r.val) cv) :
 if Region.wanted o (yielded all a.tmps) then o.wpIn (nZ ro) mm P a w next Q else (∀f,o.about P w a.eval=some f->(nZ ro).fn f)/\next (a.put o.dst undef) w:=by
 have hw:∀b,zb n all o e=some b->Region.wanted o (yielded all a.tmps)=b:=by
  intro b ar;unfold zb at ar;unfold Region.wanted;cases dd:o.guard with
  | none=>simp[dd] at ar;simp[ar]
  | some axZ =>
   obtain⟨j,vo⟩:=axZ;simp only[dd] at ar;simp only;split at ar
   .cases ar
   .rename_i d b4
    have aC:∀s,(if d<n then e d else none)=some s->yielded all a.tmps j=match s.val with| .bool b=>some b|_=>none:=by
     intro s aV;split at aV
     .rename_i cl
      have aa:=g.has d s cl aV;have ad:a.tmps[d]? =some s.val:=by
       have an:d<a.tmps.size:=by rw[g.size];exact cl
       rw[aFM an];simp[Array.getD,an] at aa;rw[aa]
      unfold yielded;simp only[b4,Option.bind_some,ad];generalize s.val=v;cases v<;>rfl
     .cases aV
    split at ar
    .rename_i t bG
     rw[aC _ bG];cases ar;cases t<;>cases vo<;>rfl
    .rename_i bG
     rw[aC _ bG];cases ar;rfl
    .cases ar
 unfold runK at ah;split at ah
 .rename_i ar
  rw[hw _ ar,aDr rfl];exact(afj ah g c).wp (ax0 ah) aK
 .rename_i ar
  rw[hw _ ar];exact⟨λ_ _=>trivial,aK .no h w ah c (e5.refl _ _)⟩
 .exact ah.elim
def zc (all:Array Oper)(o:Oper):List Nat :=
 (o.op.operands.toList.filterMap fun| .tmp t=>some t|_=>none) ++
 (match o.guard with
  | some (g,_)=>((all[g]?).bind (·.dst)).toList
  | none=>[])
theorem afk {all:Array Oper}{o:Oper}{e:Env}{d:Option Nat}{s:ag}(h:∀t,d=some t->t∉zc all o):∀x∈o.op.operands.toList,xj (hy e d s) e x:=by
 intro x ai t bG;subst bG;cases d with
 | none=>rfl
 | some d =>
  simp only[hy,put];rw[aDq];intro cc;subst cc;exact h _ rfl (List.mem_append_left _ (List.mem_filterMap.2 ⟨_,ai,rfl⟩))
theorem ax1 {n:Nat}{all:Array Oper}{o:Oper}{e:Env}{d:Option Nat}{s:ag}(h:∀t,d=some t->t∉zc all o):zb n all o (hy e d s)=zb n all o e:=by
 cases d with
 | none=>rfl
 | some d =>
  unfold zb;split
  .rfl
  .rename_i j vo dd
   split
   .rfl
   .rename_i bO pY
    have dA:bO≠d:=by
     intro cc;subst cc;exact h _ rfl (List.mem_append_right _ (by simp[dd,pY]))
    simp only[hy,put,aDq dA]
theorem afl {P:Program}{n:Nat}{all:Array Oper}{o:Oper}{e:Env}{d:Option Nat}{s:ag}(h:∀t,d=some t->t∉zc all o) :
 runK P n all o (hy e d s)=runK P n all o e:=by
 funext aP K;unfold runK;rw[ax1 h,axY (afk h)]
theorem ax2 {n:Nat}{all:Array Oper}{o:Oper}{e:Env}{d:Option Nat}{s:ag}(h:∀t,d=some t->t∉zc all o):o9 n o.op (hy e d s)=o9 n o.op e:=by
 have:=afk (e:=e) (s:=s) h;unfold o9;split
 .rename_i T t ep
  have aa:=this (.tmp t) (by simp[ep,Op.operands]) t rfl;rw[aa]
 .rfl
 .rfl
theorem ax3 {e:Env}{d bO:Option Nat}(h:∀t,d=some t->bO≠some t)(x y:ag):hy (hy e d x) bO y=hy (hy e bO y) d x:=by
 cases d with
 | none=>rfl
 | some t =>
  cases bO with
  | none=>rfl
  | some u=>exact put_comm e (λcc=>h t rfl (by rw[cc])) x y
def Bm:H2->H2->Bool
 | _,.q2=>true
 | .q2,_=>true
 | .read,.read=>true
 | .read,.act=>true
 | .read,.new=>true
 | .act,.new=>true
 | .new,.new=>true
 | _,_=>false
def comm (all:Array Oper)(y x:Oper):Bool :=
 (match x.dst with
  | some d=>!(zc all y).contains d&&y.dst != some d
  | none=>true) &&
 (match y.dst with
  | some d=>!(zc all x).contains d
  | none=>true)&&Bm (cls y.op) (cls x.op)
theorem ax4 {all:Array Oper}{y x:Oper}(h:comm all y x=true) :
 (∀d,x.dst=some d->d∉zc all y)/\(∀d,x.dst=some d->y.dst≠some d)/\(∀d,y.dst=some d->d∉zc all x)/\Bm (cls y.op) (cls x.op)=true:=by
 simp only[comm,aEi] at h;obtain⟨⟨aa,ad⟩,an⟩:=h;refine⟨λd b4=>?_,λd b4=>?_,λd b4=>?_,an⟩
 .simp[b4] at aa;exact aa.1
 .simp[b4] at aa;exact aa.2
 .simp[b4] at ad;exact ad
inductive Kind (P:Program) (n:Nat) (all:Array Oper) (o:Oper) (e:Env) (h:ak) (K:ag->ak->Prop):Prop where
 | q2 (r:ag) (aQ:∀af bX,runK P n all o e af bX↔bX r af) (qw:o9 n o.op e=none∨r= .no)
 | read (q:aF) (r:ag) (a1:cls o.op= .read) (bY:o9 n o.op e=some q) (ah:K r h) (aV:mN h q r) (aK:r≠.no) (dd:∀af bX,mN af q r->bX r af->runK P n all o e af bX)
 | new (a1:cls o.op= .new) (bY:o9 n o.op e=none) (aK:My (runK P n all o e))
 | act (a1:cls o.op= .act) (bY:o9 n o.op e=none) (hm:∀bX,(∀r af,K r af->bX r af)->runK P n all o e h bX) (ar:∀b e7,h b=none->runK P n all o e (bD h b e7) (Mz b e7 K))
  (dC:lg h->runK P n all o e h λr af=>K r af/\lg af)
theorem Tc {n:Nat}{o:Op}{e:Env}(h:cls o≠.read):o9 n o e=none:=by
 unfold o9;split
 .simp[cls] at h
 .simp[cls] at h
 .rfl
theorem Er {P:Program}{n:Nat}{all:Array Oper}{o:Oper}{e:Env}{h:ak}{K:ag->ak->Prop}(ah:runK P n all o e h K):Kind P n all o e h K:=by
 cases dd:zb n all o e with
 | none=>simp[runK,dd] at ah
 | some b =>
  cases b with
  | false=>exact .q2 .no (λaf bX=>by simp[runK,dd]) (.inr rfl)
  | true =>
   have aH:∀af bX,runK P n all o e af bX=iJ P n o.op o.type e af bX:=λaf bX=>by simp[runK,dd]
   rw[aH] at ah;cases a1:cls o.op with
   | q2 =>
    rw[afm a1] at ah;obtain⟨r,aQ⟩:=ax5 _ ah;exact .q2 r (λaf bX=>by rw[aH,afm a1];exact aQ _) (.inl (Tc (by rw[a1];decide)))
   | read =>
    obtain⟨q,r,bY,ah,aV,aK,ax6⟩:=ax7 a1 ah;exact .read q r a1 bY ah aV aK λaf bX aa ad=>by rw[aH];exact ax6 af bX aa ad
   | new =>
    obtain⟨e7,mk,aa⟩:=ax8 a1 ah;exact .new a1 (Tc (by rw[a1];decide)) ⟨e7,mk,λaf bX=>by rw[aH];exact aa af bX⟩
   | act =>
    obtain⟨aa,ad,an⟩:=ax9 a1 ah;exact .act a1 (Tc (by rw[a1];decide)) (λbX hm=>by rw[aH];exact aa bX hm) (λb e7 ar=>by rw[aH];exact ad b e7 ar) (λdC=>by rw[aH];exact an dC)
theorem Es {P:Program}{n:Nat}{all:Array Oper}{o:Oper}{e:Env}{h:ak}{K bX:ag->ak->Prop}(ah:runK P n all o e h K)(hm:∀r af,K r af->bX r af):runK P n all o e h bX:=by
 cases Er ah with
 | q2 r aQ _=>exact(aQ h bX).2 (hm _ _ ((aQ h K).1 ah))
 | read q r _ _ gM aV _ dd=>exact dd h bX aV (hm _ _ gM)
 | new _ _ aK=>obtain⟨e7,mk,aa⟩:=aK;exact(aa h bX).2 λb ar=>hm _ _ ((aa h K).1 ah b ar)
 | act _ _ aa _ _=>exact aa bX hm
theorem ax_ {P:Program}{n:Nat}{all:Array Oper}{o:Oper}{e:Env}{h:ak}{K:ag->ak->Prop}(ah:runK P n all o e h K)(dC:lg h):runK P n all o e h λr af=>K r af/\lg af:=by
 cases Er ah with
 | q2 r aQ _=>exact(aQ h _).2 ⟨(aQ h K).1 ah,dC⟩
 | read q r _ _ gM aV _ dd=>exact dd h _ aV ⟨gM,dC⟩
 | new _ _ aK=>obtain⟨e7,mk,aa⟩:=aK;exact(aa h _).2 λb ar=>⟨(aa h K).1 ah b ar,dC.bD _ _⟩
 | act _ _ _ _ an=>exact an dC
theorem Good.some (n:Nat)(e:Env):∃a,Good n e a:=by
 refine⟨{ tmps:=Array.ofFn (n:=n) λi=>((e i.1).map ag.val).getD undef,defers:=[] },by simp,λt s bG aV=>?_⟩;simp[Array.getD,bG,aV]
theorem aya {P:Program}{n:Nat}{all:Array Oper}{o:Oper}{e:Env}{h:ak}{K:ag->ak->Prop}(ah:runK P n all o e h K)(dC:lg h):∃r af,K r af/\lg af:=by
 unfold runK at ah;split at ah
 .obtain⟨a,g⟩:=Good.some n e;obtain⟨w,c⟩:=dC.world;cases afj ah g c with
  | value r af cv ah aQ cr bw=>exact⟨r,af,ah,cr.Bn⟩
  | skip af cv ah aQ cr bw=>exact⟨.no,af,ah,cr.Bn⟩
  | enter f args aQ a1 =>
   obtain⟨cc,cv,aw,⟨r,af,_,ah,cr,_⟩,_⟩:=a1 [];exact⟨r,af,ah,cr.Bn⟩
  | round l f tmps assign body aQ a1 =>
   obtain⟨cc,cv,⟨r,af,_,ah,cr,_⟩,_⟩:=a1.2 default [] (λ_ h=>by cases h);exact⟨r,af,ah,cr.Bn⟩
 .exact⟨.no,h,ah,dC⟩
 .exact ah.elim
theorem afn {P:Program}{n:Nat}{all:Array Oper}{o:Oper}{e:Env}{h:ak}{F:ag->ak->Prop}(ah:runK P n all o e h F){R:ak->Prop}(h0:R h)
 (ayb:∀h b e7,h b=none->R h->R (bD h b e7)) (ayc:cls o.op= .act->∀s ad,F s ad->R ad):runK P n all o e h λs ad=>F s ad/\R ad:=by
 cases Er ah with
 | q2 r aQ _=>exact(aQ h _).2 ⟨(aQ h F).1 ah,h0⟩
 | read q r _ _ gM aV _ dd=>exact dd h _ aV ⟨gM,h0⟩
 | new _ _ aK=>obtain⟨e7,mk,aa⟩:=aK;exact(aa h _).2 λb ar=>⟨(aa h F).1 ah b ar,ayb _ _ _ ar h0⟩
 | act a1 _ aa _ _=>exact aa _ λr af hh=>⟨hh,ayc a1 _ _ hh⟩
def Td (h:ak)(q:aF):ag->Prop
 | .ws _ c=>b5 h q.b q.o c
 | s=>fW h q.b q.o (ag.cells s)
theorem ayd (h:ak)(q:aF)(s:ag):Td h q s↔mN h q s:=by
 unfold Td mN;split
 .rename_i n c
  rw[pJ];constructor
  .intro a1 i hi
   have cb:i<n:=by simpa [ag.cells] using hi
   rw[a1 i cb];simp[ag.cells]
  .intro a1 i hi
   rw[a1 i (by simpa [ag.cells] using hi)];simp[ag.cells]
 .exact aD7
def Et (h:ak)(m:Nat):List (Nat×aF×ag)->Prop->Prop
 | [],A=>A
 | (j,q,s)::l,A=>if m.testBit j=true then Et h m l A else Td h q s/\Et h m l A
theorem Te (h:ak)(m:Nat)(A:Prop):∀l,Et h m l A↔(∀x∈l,m.testBit x.1=false->mN h x.2.1 x.2.2)/\A
 | []=>by simp[Et]
 | (j,q,s)::l=>by
  simp only[Et];cases aU:m.testBit j with
  | true =>
   simp only[aEv,Te h m A l,aEr,forall_eq_or_imp,aU];simp
  | false =>
   simp only[aEb,aEc,Te h m A l,aEr,forall_eq_or_imp,aU,ayd];constructor
   .rintro⟨aa,ad,an⟩;exact⟨⟨λ_=>aa,ad⟩,an⟩
   .rintro⟨⟨aa,ad⟩,an⟩;exact⟨aa trivial,ad,an⟩
def Tf (c:H2)(h:ak)(m:Nat)(prev:List (Nat×aF×ag))(A:Prop):Prop :=
 match c with
 | .act=>Et h m prev A
 | _=>A
theorem aye (c:H2)(h:ak)(m:Nat)(prev:List (Nat×aF×ag))(A:Prop) :
 Tf c h m prev A↔(c= .act->∀x∈prev,m.testBit x.1=false->mN h x.2.1 x.2.2)/\A:=by
 cases c<;>simp[Tf,Te]
def q3 (n:Nat)(i:Nat)(o:Op)(e:Env)(r:ag)(prev:List (Nat×aF×ag)):List (Nat×aF×ag) :=
 match o9 n o e,r with
 | some _,.no=>prev
 | some q,r=>(i,q,r)::prev
 | none,_=>prev
def qX (P:Program)(n:Nat)(all:Array Oper)(M:List Nat):List (Nat×aF×ag)->List Nat->Env->ak->(Env->ak->Prop)->Prop
 | _,[],e,h,K=>K e h
 | prev,i::rem,e,h,K =>
  match all[i]? with
  | none=>False
  | some o=>Mr P n all o e h λcc r af =>
   Tf (cls o.op) af (M.getD i 0) prev (qX P n all M (q3 n i o.op cc r prev) rem (hy cc o.dst r) af K)
section
variable {P:Program} {n:Nat} {all:Array Oper} {M:List Nat}
theorem MA {prev:List (Nat×aF×ag)}{i:Nat}{rem:List Nat}{e:Env}{h:ak}{K:Env->ak->Prop}{o:Oper}(ep:all[i]? =some o) :
 qX P n all M prev (i::rem) e h K=runK P n all o e h λr af =>
  ((cls o.op= .act->∀x∈prev,(M.getD i 0).testBit x.1=false->mN af x.2.1 x.2.2)/\qX P n all M (q3 n i o.op e r prev) rem (hy e o.dst r) af K):=by
 simp only[qX,ep,ae5,aye]
theorem ayf {i:Nat}{o:Op}{e:Env}{r:ag}{prev Eu:List (Nat×aF×ag)}(h:∀x∈Eu,x∈prev):∀x∈q3 n i o e r Eu,x∈q3 n i o e r prev:=by
 unfold q3;split
 .exact h
 .intro x ai
  rcases aEr.1 ai with aa|aa
  .rw[aa];exact aDH
  .exact aDI _ (h x aa)
 .exact h
theorem afo:∀(rem:List Nat) (prev Eu:List (Nat×aF×ag)) (e:Env) (h:ak) (K:Env->ak->Prop),(∀x∈Eu,x∈prev) ->
 qX P n all M prev rem e h K->qX P n all M Eu rem e h K
 | [],_,_,_,_,_,_,ah=>ah
 | i::rem,prev,Eu,e,h,K,aV,ah=>by
  cases ep:all[i]? with
  | none=>simp[qX,ep] at ah
  | some o =>
   rw[MA ep] at ah ⊢;exact Es ah λr af ⟨aa,ad⟩=>⟨λa1 x ai hm=>aa a1 x (aV x ai) hm,afo rem _ _ _ _ K (ayf aV) ad⟩
theorem ayg {i:Nat}{o:Op}{e:Env}{r:ag}{prev:List (Nat×aF×ag)}(h:o9 n o e=none∨r= .no):q3 n i o e r prev=prev:=by
 unfold q3;rcases h with h|h
 .rw[h]
 .subst h;cases o9 n o e<;>rfl
theorem afp {i:Nat}{o:Op}{e:Env}{r:ag}{q:aF}{prev:List (Nat×aF×ag)}(h:o9 n o e=some q)(aQ:r≠.no):q3 n i o e r prev=(i,q,r)::prev:=by
 unfold q3;rw[h];split
 .rename_i aK;exact absurd rfl aQ
 .rename_i aj _;cases aj;rfl
 .rename_i aj;cases aj
theorem afq {i:Nat}{x:Oper}(ai:all[i]? =some x):∀(pre post:List Nat) (prev:List (Nat×aF×ag)) (e:Env) (h:ak) (K:Env->ak->Prop),lg h ->
 (∀j∈pre,∃y,all[j]? =some y/\comm all y x=true/\(M.getD i 0).testBit j=false) ->
 qX P n all M prev (pre++i::post) e h K ->
 runK P n all x e h λs aa=>(cls x.op= .act->∀z∈prev,(M.getD i 0).testBit z.1=false->mN aa z.2.1 z.2.2)/\qX P n all M prev (pre++post) (hy e x.dst s) aa K
 | [],post,prev,e,h,K,dC,_,ah=>by
  rw[List.nil_append,MA ai] at ah;exact Es ah λr af ⟨aa,ad⟩=>⟨aa,afo _ _ _ _ _ K (λz bn=>by
   unfold q3;split
   .exact bn
   .exact aDI _ bn
   .exact bn) ad⟩
 | j::pre,post,prev,e,h,K,dC,vm,ah=>by
  obtain⟨y,aC,ayh,Gw⟩:=vm j aDH;have ayi:∀j∈pre,∃y,all[j]? =some y/\comm all y x=true/\(M.getD i 0).testBit j=false:=λc6 kb=>vm c6 (aDI _ kb);obtain⟨aS,aY,cB,dQ⟩:=ax4 ayh;rw[List.cons_append,MA aC] at ah;have kO:=Es (ax_ ah dC) λr af ⟨⟨aa,ad⟩,afr⟩=>And.intro aa (afq ai pre post _ _ _ K afr ayi ad);have ayj:∀r s,hy (hy e y.dst r) x.dst s=hy (hy e x.dst s) y.dst r:=λr s=>ax3 (λt bG cc=>aY t cc bG) r s;have ayk:∀r,runK P n all x (hy e y.dst r)=runK P n all x e:=λr=>afl cB;have ayl:∀s,runK P n all y (hy e x.dst s)=runK P n all y e:=λs=>afl aS;have aym:∀s,o9 n y.op (hy e x.dst s)=o9 n y.op e:=λs=>ax2 aS;have ayn:∀s r prev,q3 n j y.op (hy e x.dst s) r prev=q3 n j y.op e r prev:=λs r prev=>by unfold q3;rw[aym]
  have ayo:∀s aa,qX P n all M prev (j::pre++post) (hy e x.dst s) aa K=runK P n all y e aa λr ad =>
   ((cls y.op= .act->∀z∈prev,(M.getD j 0).testBit z.1=false->mN ad z.2.1 z.2.2)/\qX P n all M (q3 n j y.op e r prev) (pre++post) (hy (hy e y.dst r) x.dst s) ad K):=by
   intro s aa;rw[List.cons_append,MA aC,ayl s];congr 1;funext r ad;rw[ayn,ayj]
  simp only[ayk] at kO;simp only[ayo];have afs:∀h b e7,h b=none->(cls y.op= .act->∀z∈prev,(M.getD j 0).testBit z.1=false->mN h z.2.1 z.2.2) ->
   (cls y.op= .act->∀z∈prev,(M.getD j 0).testBit z.1=false->mN (bD h b e7) z.2.1 z.2.2):=λh b e7 ar b2 a1 z bn hm=>(b2 a1 z bn hm).beside e7 ar
  cases Er kO with
  | q2 r aQ qw =>
   obtain⟨ep,ki⟩:=(aQ h _).1 kO;have yJ:=afn ki ep afs (λa1=>by
    intro s ad _ Bo;rw[a1,Bo] at dQ;simp[Bm] at dQ)
   refine Es yJ λs ad ⟨⟨an,aJ⟩,aR⟩=>?_;rw[ayg qw] at an;exact⟨an,(aQ ad _).2 ⟨aR,aJ⟩⟩
  | read q r a1 bY ki aV aK dd =>
   obtain⟨ep,ki⟩:=ki;rw[afp bY aK] at ki;have yJ:=afn ki (R:=λh=>mN h q r) aV (λh b e7 ar b2=>b2.beside e7 ar) (λlD s ad hh=>hh.1 lD (j,q,r) aDH Gw);refine Es yJ λs ad ⟨⟨an,aJ⟩,aR⟩=>⟨λlD z bn hm=>an lD z (aDI _ bn) hm,dd ad _ aR ⟨(λBo=>by rw[a1] at Bo;cases Bo),?_⟩⟩;rw[afp bY aK];exact aJ
  | new a1 bY aK =>
   obtain⟨e7,mk,Tg⟩:=aK;have ki:=(Tg h _).1 kO;have Bp:cls x.op≠.act:=λlD=>by rw[a1,lD] at dQ;simp[Bm] at dQ
   have mO:cls x.op≠.read:=λlD=>by rw[a1,lD] at dQ;simp[Bm] at dQ
   obtain⟨gA,kY⟩:=dC.fresh;cases Er (ki gA kY).2 with
   | q2 s aV _ =>
    refine(aV h _).2 ⟨λlD=>absurd lD Bp,(Tg h _).2 λb ar=>?_⟩;obtain⟨an,aJ⟩:=ki b ar;exact⟨an,((aV _ _).1 aJ).2⟩
   | read _ _ lD _ _ _ _ _=>exact absurd lD mO
   | act lD _ _ _ _=>exact absurd lD Bp
   | new lD _ oc =>
    obtain⟨Of,mk',H3⟩:=oc;refine(H3 h _).2 λkh hY=>⟨λTh=>absurd Th Bp,(Tg _ _).2 λb ar=>?_⟩;have dA:b≠kh:=by intro cc;subst cc;rw[eC] at ar;cases ar
    rw[cu _ _ dA] at ar;obtain⟨an,aJ⟩:=ki b ar;have aR:=((H3 _ _).1 aJ) kh (by rw[cu _ _ (aDC dA)];exact hY);rw[MB h _ _ (aDC dA)];exact⟨(λBo=>by rw[a1] at Bo;cases Bo),aR.2⟩
  | act a1 bY hm hY afr =>
   have Bp:cls x.op≠.act:=λlD=>by rw[a1,lD] at dQ;simp[Bm] at dQ
   have mO:cls x.op≠.read:=λlD=>by rw[a1,lD] at dQ;simp[Bm] at dQ
   obtain⟨iD,h0,⟨_,ln⟩,_⟩:=aya kO dC;cases Er ln with
   | q2 s aV _ =>
    exact(aV h _).2 ⟨λlD=>absurd lD Bp,hm _ λr af ⟨an,aJ⟩=>⟨an,((aV _ _).1 aJ).2⟩⟩
   | read _ _ lD _ _ _ _ _=>exact absurd lD mO
   | act lD _ _ _ _=>exact absurd lD Bp
   | new lD _ oc =>
    obtain⟨Of,mk',H3⟩:=oc;refine(H3 h _).2 λb ar=>⟨λTh=>absurd Th Bp,?_⟩;refine Es (hY b Of ar) ?_;rintro r ad ⟨af,rfl,aft,an,aJ⟩;exact⟨afs _ _ _ aft an,((H3 _ _).1 aJ b aft).2⟩
end
inductive vp (all:Array Oper):Nat->Nat->Prop where
 | Ti {j:Nat} {o:Oper} {gG:Edge} (h:all[j]? =some o) (he:gG∈o.after.toList) (ar:Region.binds .any gG=true):vp all gG.on j
 | trans {i k j:Nat} (h:vp all i k) {o:Oper} {gG:Edge} (ep:all[j]? =some o) (he:gG∈o.after.toList) (ar:Region.binds .any gG=true) (ah:gG.on=k):vp all i j
def vq (acc:List Nat):List Edge->Nat->Nat
 | [],s=>s
 | gG::l,s=>vq acc l (if Region.binds .any gG=true then s ||| 2 ^ gG.on ||| acc.getD gG.on 0 else s)
def Ej:List Oper->List Nat->List Nat
 | [],acc=>acc
 | o::l,acc=>Ej l (acc++[vq acc o.after.toList 0])
theorem afu (acc:List Nat)(i:Nat):∀(l:List Edge) (s:Nat),(vq acc l s).testBit i=true ->
 s.testBit i=true∨∃gG∈l,Region.binds .any gG=true/\(gG.on=i∨(acc.getD gG.on 0).testBit i=true)
 | [],s,h=> .inl h
 | gG::l,s,h=>by
  simp only[vq] at h;rcases afu acc i l _ h with aa|⟨ayp,he,ar,ad⟩
  .split at aa
   .rename_i ar
    simp only[Nat.testBit_or,Nat.testBit_two_pow,Bool.or_eq_true,aEJ] at aa;rcases aa with (aa|aa)|aa
    .exact .inl aa
    .exact .inr ⟨gG,aDH,ar,.inl aa⟩
    .exact .inr ⟨gG,aDH,ar,.inr aa⟩
   .exact .inl aa
  .exact .inr ⟨ayp,aDI _ he,ar,ad⟩
theorem afv (all:Array Oper):∀(l:List Oper) (acc:List Nat),(∀k,l[k]? =all[acc.length+k]?) ->
 (∀j i,(acc.getD j 0).testBit i=true->vp all i j)->∀j i,((Ej l acc).getD j 0).testBit i=true->vp all i j
 | [],acc,_,h=>h
 | o::l,acc,aT,h=>by
  simp only[Ej];refine afv all l _ (λk=>?_) ?_
  .have:=aT (k+1);simpa [Nat.add_assoc,Nat.add_comm 1] using this
  .intro j i ar
   have ep:all[acc.length]? =some o:=by simpa using (aT 0).symm
   rcases Nat.lt_trichotomy j acc.length with aU|aU|aU
   .have e:(acc++[vq acc o.after.toList 0]).getD j 0=acc.getD j 0:=by
     have:(acc++[vq acc o.after.toList 0])[j]? =acc[j]?:=aD0 aU;simp only[List.getD,this]
    rw[e] at ar;exact h j i ar
   .subst aU;have e:(acc++[vq acc o.after.toList 0]).getD acc.length 0=vq acc o.after.toList 0:=by simp[List.getD]
    rw[e] at ar;rcases afu acc i _ _ ar with aa|⟨gG,he,xM,ad|ad⟩
    .simp at aa
    .subst ad;exact .Ti ep he xM
    .exact .trans (h _ _ ad) ep he xM rfl
   .have e:(acc++[vq acc o.after.toList 0]).getD j 0=0:=by
     have:(acc++[vq acc o.after.toList 0])[j]? =none:=by rw[List.getElem?_eq_none_iff];simp;omega
     simp[List.getD,this]
    rw[e] at ar;simp at ar
def MC (all:Array Oper)(M:List Nat):List Nat->Bool
 | []=>true
 | p::l=>(l.all λq=>(M.getD q 0).testBit p||(match all[p]?,all[q]? with|some y,some x=>comm all y x|_,_=>false))&&MC all M l
def afw (all:Array Oper)(M:List Nat)(p q:Nat):Prop:=(M.getD q 0).testBit p=true∨∃y x,all[p]? =some y/\all[q]? =some x/\comm all y x=true
theorem afx {all:Array Oper}{M:List Nat}:∀ {l:List Nat},MC all M l=true->l.Pairwise (afw all M)
 | [],_=> .nil
 | p::l,h=>by
  simp only[MC,aEi,aE8,Bool.or_eq_true] at h;refine .cons (λq aj=>?_) (afx h.2);rcases h.1 q aj with aa|aa
  .exact .inl aa
  .split at aa
   .rename_i y x aC ai;exact .inr ⟨y,x,aC,ai,aa⟩
   .cases aa
def SW (all:Array Oper)(C:List Nat):Bool :=
 (C.length==all.size)&&C.all (λi=>decide (i<all.size))&&decide C.Nodup&&MC all (Ej all.toList []) C &&
 (all.toList.zipIdx.all λ(o,i)=>o.after.toList.all λgG=>!Region.binds .any gG||decide (gG.on<i))
structure Left (all:Array Oper)(M:List Nat)(rem:List Nat)(lT:Array Bool):Prop where
 size:lT.size=all.size
 mem:∀i,i<all.size->(lT.getD i true=false↔i∈rem)
 lt:∀i∈rem,i<all.size
 nodup:rem.Nodup
 afy:rem.Pairwise (afw all M)
 closed:∀i j,vp all i j->j<all.size->lT.getD j true=true->i<all.size->lT.getD i true=true
theorem vp.lt {all:Array Oper}(xo:∀(j:Nat) (o:Oper),all[j]? =some o->∀gG∈o.after.toList,Region.binds .any gG=true->gG.on<j){i j:Nat}(h:vp all i j):i<j:=by
 induction h with
 | Ti h he ar=>exact xo _ _ h _ he ar
 | trans h ep he ar ah dI=>have:=xo _ _ ep _ he ar;omega
theorem afz:∀(l:List Nat),l≠[]->∃i∈l,∀j∈l,i<=j
 | [],h=>absurd rfl h
 | [x],_=>⟨x,aDH,by simp⟩
 | x::y::l,_=>by
  obtain⟨i,hi,hm⟩:=afz (y::l) (by simp);rcases Nat.le_total x i with h|h
  .exact⟨x,aDH,λj aU=>by
    rcases aEr.1 aU with aa|aa
    .omega
    .have:=hm j aa;omega⟩
  .exact⟨i,aDI _ hi,λj aU=>by
    rcases aEr.1 aU with aa|aa
    .omega
    .exact hm j aa⟩
theorem Tj:∀(N:Nat) (l:List Nat),l.Nodup->(∀x∈l,x<N)->l.length<=N
 | 0,l,_,h=>by
  cases l with
  | nil=>simp
  | cons x l=>exact absurd (h x aDH) (by omega)
 | N+1,l,aK,h=>by
  by_cases hm:N∈l
  .have aa:=Tj N (l.erase N) (aK.erase N) (λx ai=>by
    have n0:=(aE0 aK).1 ai;have:=h x n0.2;omega)
   rw[List.length_erase_of_mem hm] at aa;omega
  .have:=Tj N l aK (λx ai=>by
    have aa:=h x ai;have:x≠N:=λe=>hm (e▸ai);omega)
   omega
section
variable {P:Program} {n:Nat} {all:Array Oper} {Q:Exit->Act->World->Prop}
theorem mem_ready {lT:Array Bool}{i:Nat}:i∈Region.ready .any all lT↔i<all.size/\lT.getD i true=false /\
 ∃o,all[i]? =some o/\∀gG∈o.after.toList,Region.binds .any gG=true->lT.getD gG.on false=true:=by
 unfold Region.ready;simp only[aFd,aDT,aEi,Bool.not_eq_true'];constructor
 .rintro⟨aa,ad,an⟩;refine⟨aa,ad,all[i],by simp[aa],λgG he ar=>?_⟩;simp[aa] at an;obtain⟨k,ah,rfl⟩:=List.mem_iff_getElem.1 he;have:=an k (by simpa using ah);have hY:Region.binds .any all[i].after[k]=true:=by simpa using ar
  simpa [hY] using this
 .rintro⟨aa,ad,o,ep,an⟩;refine⟨aa,ad,?_⟩;simp only[ep,aEx,aFE];rw[<-Array.all_toList,aE8];intro gG he;cases ar:Region.binds .any gG with
  | false=>rfl
  | true=>simp[an gG he ar]
theorem ayq {ro:Option Nat}{mm:Nat}{M:List Nat}(ub:∀j i,(M.getD j 0).testBit i=true->vp all i j)
 (xo:∀(j:Nat) (o:Oper),all[j]? =some o->∀gG∈o.after.toList,Region.binds .any gG=true->gG.on<j) (K:Env->ak->Prop) :
 ∀(fuel:Nat) (rem:List Nat) (lT:Array Bool) (e:Env) (h:ak) (a:Act) (w:World),rem.length<=fuel->Left all M rem lT->qX P n all M [] rem e h K->Good n e a->e8 h w ->
  (∀cc af eh cv,K cc af->Good n cc eh->eh.defers=a.defers->e8 af cv->e5 h af w cv->Q .normal eh cv)->wpAnyIn (nZ ro) mm P .any all Q fuel lT a w:=by
 intro fuel
 induction fuel with
 | zero =>
  intro rem lT e h a w aT L ah g c fI;obtain rfl:rem=[]:=aD9.1 (by omega);refine⟨?_,fI e h a w ah g rfl c (e5.refl _ _)⟩;apply List.eq_nil_iff_forall_not_mem.2;intro i hi;obtain⟨aa,ad,_⟩:=mem_ready.1 hi;have:=(L.mem i aa).1 ad;simp at this
 | succ fuel dI =>
  intro rem lT e h a w aT L ah g c fI;refine⟨λayr=>?_,λi hi=>?_⟩
  .by_cases aQ:rem=[]
   .subst aQ;exact fI e h a w ah g rfl c (e5.refl _ _)
   .exfalso;obtain⟨i,hi,Fp⟩:=afz rem aQ;have cl:=L.lt i hi;have:i∈Region.ready .any all lT:=by
     refine mem_ready.2 ⟨cl,(L.mem i cl).2 hi,all[i],by simp[cl],λgG he ar=>?_⟩;have aa:gG.on<i:=xo i all[i] (by simp[cl]) gG he ar;have ad:gG.on<all.size:=by omega
     have an:gG.on∉rem:=λb2=>by have:=Fp _ b2;omega
     have aJ:lT.getD gG.on true≠false:=λb2=>an ((L.mem _ ad).1 b2);have aR:gG.on<lT.size:=by rw[L.size];exact ad
     simp[Array.getD,aR] at aJ ⊢;exact aJ
    rw[ayr] at this;simp at this
  .obtain⟨cl,Df,o,ep,k0⟩:=mem_ready.1 hi;have Tk:=(L.mem i cl).1 Df;obtain⟨pre,post,rfl⟩:=List.append_of_mem Tk;have xb:∀j,vp all j i->lT.getD j true=true:=by
    intro j aU;have OO:=aU.lt xo;have key:∀k,k<all.size->lT.getD k false=true->lT.getD k true=true:=by
     intro k kO ki;have aR:k<lT.size:=by rw[L.size];exact kO
     simpa [Array.getD,aR] using ki
    cases aU with
    | Ti h he ar =>
     rw[ep] at h;cases h;have aa:=xo i o ep _ he ar;exact key _ (by omega) (k0 _ he ar)
    | trans h afA he ar ah =>
     rw[ep] at afA;cases afA;have aa:=xo i o ep _ he ar;subst ah;exact L.closed _ _ h (by omega) (key _ (by omega) (k0 _ he ar)) (by omega)
   have vm:∀j∈pre,∃y,all[j]? =some y/\comm all y o=true/\(M.getD i 0).testBit j=false:=by
    intro j aU;have ays:=L.lt j (by simp[aU]);have afB:(M.getD i 0).testBit j=false:=by
     cases ar:(M.getD i 0).testBit j with
     | false=>rfl
     | true =>
      have aa:=xb j (ub _ _ ar);have ad:=(L.mem j ays).2 (by simp[aU]);rw[aa] at ad;cases ad
    have aP:=L.afy;rw[List.pairwise_append] at aP;rcases aP.2.2 j aU i aDH with aa|⟨y,x,aC,ai,a1⟩
    .rw[afB] at aa;cases aa
    .rw[ep] at ai;cases ai;exact⟨y,aC,a1,afB⟩
   have mg:=afq ep pre post [] e h K c.Bn vm ah;unfold wpOpIn;simp only[ep];have xg:=ae6 (ro:=ro) (mm:=mm) (next:=wpAnyIn (nZ ro) mm P .any all Q fuel (lT.setIfInBounds i true)) (Q:=Q) mg g c λr af cv ⟨_,gM⟩ cr bw=>by
    refine dI (pre++post) _ _ _ _ _ ?_ ?_ gM (g.put o.dst r) cr λxh hQ SX SY q1 aI xi bb bH=>fI xh hQ SX SY q1 aI (xi.trans (by cases o.dst<;>rfl)) bb (bw.trans bH)
    .simp at aT ⊢;omega
    .have Ev:∀k d,k<all.size->(lT.setIfInBounds i true).getD k d=if k=i then true else lT.getD k d:=by
      intro k d kO;have aR:k<lT.size:=by rw[L.size];exact kO
      simp only[Array.getD_eq_getD_getElem?,aEI];by_cases aH:k=i
      .subst aH;simp[aR]
      .simp[aH,aDC aH]
     have Cy:=L.nodup;have ayt:i∉pre++post:=by
      rw[aFg] at Cy;intro b2;rcases aDO.1 b2 with aa|aa
      .exact Cy.2.2 i aa i aDH rfl
      .exact(aEL.1 Cy.2.1).1 aa
     refine⟨by simp[L.size],λk kO=>?_,λk kO=>L.lt k ((List.Sublist.append (List.Sublist.refl _) (List.sublist_cons_self _ _)).subset kO),?_,?_,?_⟩
     .rw[Ev k true kO];by_cases aH:k=i
      .subst aH;simp;simpa using ayt
      .rw[aDq aH,L.mem k kO];simp[aH]
     .exact Cy.sublist (List.Sublist.append (List.Sublist.refl _) (List.sublist_cons_self _ _))
     .exact L.afy.sublist (List.Sublist.append (List.Sublist.refl _) (List.sublist_cons_self _ _))
     .intro dO c6 ar FE uC xU
      rw[Ev _ _ xU];rw[Ev _ _ FE] at uC;split
      .rfl
      .by_cases aH:c6=i
       .subst aH;exact xb dO ar
       .rw[aDq aH] at uC;exact L.closed dO c6 ar FE uC xU
   split
   .rename_i hw;rw[aDr hw] at xg;exact xg
   .rename_i hw;rw[aDq hw] at xg;exact xg
theorem axB {ro:Option Nat}{mm:Nat}{id:Nat}{C:List Nat}(hm:P.follows .mixedOrders=true)(sy:SW all C=true){e:Env}{h:ak}{K:Env->ak->Prop}(ah:qX P n all (Ej all.toList []) [] C e h K)
 {a:Act} {w:World} (g:Good n e a) (c:e8 h w) (fI:∀cc af eh cv,K cc af->Good n cc eh->eh.defers=a.defers->e8 af cv->e5 h af w cv->Q .normal eh cv):(Code.region id all true).wpIn (nZ ro) mm P Q a w:=by
 simp only[SW,aEi,aFi,aE8,aEJ] at sy;obtain⟨⟨⟨⟨aa,ad⟩,an⟩,aJ⟩,aR⟩:=sy;have xo:∀(j:Nat) (o:Oper),all[j]? =some o->∀gG∈o.after.toList,Region.binds .any gG=true->gG.on<j:=by
  intro j o ep gG he ar;have:=aR (o,j) (by
   rw[List.mem_zipIdx_iff_getElem?];simpa using ep) gG he
  simpa [ar] using this
 refine wpIn_region_any hm (ayq (afv all all.toList [] (λk=>by simp) (λj i ar=>by simp at ar)) xo K all.size C _ e h a _ (by omega) ?_ ah g (c:e8 h { w with drawn:=w.drawn+1 }) ?_)
 .refine⟨by simp,λi hi=>?_,ad,an,afx aJ,?_⟩
  .have:i∈C:=by
    rcases Classical.em (i∈C) with b2|b2
    .exact b2
    .have:=Tj all.size (i::C) (aEL.2 ⟨b2,an⟩) (λx ai=>by
      rcases aEr.1 ai with bj|bj
      .omega
      .exact ad x bj)
     simp at this;omega
   simp[Array.getD,hi,this]
  .intro i j _ aU b2 _
   simp[Array.getD,aU] at b2
 .intro cc af eh cv q1 aI xi bb bH
  exact fI cc af eh cv q1 aI xi bb ((e5.drew h w).trans bH)
end

import Derived.Test.YtegdpmgnhnccaaaGreatShDraw
import Derived.RangeFuncNested
namespace Go.cQ
open Go Go.RowKit
mutual
def G9:eo->Type->Type
 | .i _,R=>Int->R
 | .u,R=>a8->R
 | .b,R=>Bool->R
 | .p,R=>aG->R
 | .f,R=>FuncId->List ae->R
 | .fw,R=>Option aG->R
 | .s,R=>an->R
 | .str,R=>ByteArray->R
 | .m,R=>Option Nat->R
 | .ws n,R=>bk n->R
 | .c_ l,R=>vK l R
 | .h5 l,R=>vK l R
 | .v,R=>Value->R
def vK:List eo->Type->Type
 | [],R=>R
 | t::l,R=>G9 t (vK l R)
end
mutual
def XM:(t:eo)->{R:Type}->G9 t R->(ae->R->Prop)->Prop
 | .i k,_,f,K=>∀x:Int,K (.i k x) (f x)
 | .u,_,f,K=>∀x:a8,K (.u x) (f x)
 | .b,_,f,K=>∀x:Bool,K (.b x) (f x)
 | .p,_,f,K=>∀x:aG,K (.p x) (f x)
 | .f,_,f,K=>∀(g:FuncId) (c:List ae),K (.f g c) (f g c)
 | .fw,_,f,K=>∀x:Option aG,K (.fw x) (f x)
 | .s,_,f,K=>∀x:an,K (.s x) (f x)
 | .str,_,f,K=>∀x:ByteArray,K (.str x) (f x)
 | .m,_,f,K=>∀x:Option Nat,K (.m x) (f x)
 | .ws n,_,f,K=>∀x:bk n,K (.ws n x) (f x)
 | .c_ l,_,f,K=>AF l f λr x=>K (.c_ r) x
 | .h5 l,_,f,K=>AF l f λr x=>K (.h5 r) x
 | .v,_,f,K=>∀x:Value,K (.v x) (f x)
def AF:(l:List eo)->{R:Type}->vK l R->(List ae->R->Prop)->Prop
 | [],_,f,K=>K [] f
 | t::l,_,f,K=>XM t f λr g=>AF l g λrs x=>K (r::rs) x
end
mutual
def G_:(t:eo)->{R:Type}->G9 t R->ae->(R->Prop)->Prop
 | .i k,_,f,.i hd x,K=>if hd=k then K (f x) else False
 | .u,_,f,.u x,K=>K (f x)
 | .b,_,f,.b x,K=>K (f x)
 | .p,_,f,.p x,K=>K (f x)
 | .f,_,f,.f g c,K=>K (f g c)
 | .fw,_,f,.fw x,K=>K (f x)
 | .fw,_,f,.p x,K=>K (f (some x))
 | .s,_,f,.s x,K=>K (f x)
 | .str,_,f,.str x,K=>K (f x)
 | .m,_,f,.m x,K=>K (f x)
 | .ws n,_,f,.ws m x,K=>if h:m=n then K (f (h▸x)) else False
 | .c_ l,_,f,.c_ r,K=>vL l f r K
 | .h5 l,_,f,.h5 r,K=>vL l f r K
 | .v,_,f,.v x,K=>K (f x)
 | .v,_,f,.f g c,K=>K (f (.func (.func g) #[] (ae.bw c).toArray))
 | _,_,_,_,_=>False
def vL:(l:List eo)->{R:Type}->vK l R->List ae->(R->Prop)->Prop
 | [],_,f,[],K=>K f
 | t::l,_,f,r::rs,K=>G_ t f r λg=>vL l g rs K
 | _,_,_,_,_=>False
end
structure a2 where
 loops:List (Nat×List (Nat×eo))
 amY:List (Nat×List (Nat×eo))
 XN:List (Nat×List Nat)
 amZ:List (Nat×List eo):=[]
def AG {α:Type}:List (Nat×α)->Nat->Option α
 | [],_=>none
 | (k,x)::l,i=>if k=i then some x else AG l i
def tY:Code->Option Nat
 | .region i _ _=>some i
 | .seq a b=>(tY a).or (tY b)
 | .cond _ a b=>(tY a).or (tY b)
 | .block _ c=>tY c
 | .loop c=>tY c
 | .scope c=>tY c
 | _=>none
def vM (l:List (Nat×eo)):List eo:=l.map (·.2)
def xR (n:Nat)(e:Env):List (Nat×eo)->(List ae->Prop)->Prop
 | [],K=>K []
 | (t,_)::l,K=>match (if t<n then e t else none) with
  | some s=>xR n e l λr=>K (s::r)
  | none=>False
def vN:List (Nat×eo)->List ae->Env
 | (t,_)::l,s::r=>put (vN l r) t s
 | _,_=>emp
abbrev oF:=Exit->Env->ai->Prop
def Ha (next:Env->ai->Prop)(Q:oF):oF
 | .normal,e,h=>next e h
 | x,e,h=>Q x e h
def XO (id:Nat)(Q:oF):oF
 | .exit xc,e,h=>if xc=id then Q .normal e h else Q (.exit xc) e h
 | x,e,h=>Q x e h
def am0 (n:Nat)(live:List (Nat×eo))(body:Env->ai->(Env->ai->Prop)->Prop)(e:Env)(h:ai):Prop :=
 ∃J:vK (vM live) (ai->Nat->Prop),(xR n e live λaU=>vL (vM live) J aU λI=>∃m,I h m) /\
  AF (vM live) J λaU I=>∀h m,I h m->body (vN live aU) h λch ag=>xR n ch live λru=>vL (vM live) J ru λMT=>∃l_,l_<m/\MT ag l_
def am1 (n:Nat)(live:List (Nat×eo))(first:(Env->ai->Prop)->Prop)(rest:Env->ai->Prop):Prop :=
 ∃J:vK (vM live) (ai->Prop),(first λch ag=>xR n ch live λaU=>vL (vM live) J aU λI=>I ag) /\
  AF (vM live) J λaU I=>∀h,I h->rest (vN live aU) h
def Hb (P:Program)(n:Nat)(all:Array Oper):List Oper->Env->ai->(Env->ai->Prop)->Prop
 | [],e,h,K=>K e h
 | o::l,e,h,K=>Hc P n all o e h λch r ag=>Hb P n all l (gd ch o.dst r) ag K
def eS (r:Loop):Obj:= .loop { r with state:= .ready,pending:=none }
def et (r:Loop):Obj:= .loop { r with state:= .busy,pending:=none }
def nM (r:Loop)(j:Code):Obj:= .loop { r with state:= .done,pending:=some j }
def h2 (r:Loop)(j:Option Code):Obj:= .loop { r with state:= .exhausted,pending:=j }
def Hd:List Nat->List ae->Env->Env
 | t::cc,s::l,e=>Hd cc l (put e t s)
 | _,_,e=>e
def am2 (l:Nat)(r:Loop)(kW:Value->ai->Prop):oF:=λx _ h =>
 match x with
 | .normal=>h l=some (et r)/\kW (.bool true) (bD h l (eS r))
 | .ret=>h l=some (et r)/\kW (.bool false) (bD h l (nM r .ret))
 | .exit id=>h l=some (et r)/\kW (.bool false) (bD h l (nM r (.exit id)))
 | _=>False
def sz:Code->List Nat×Bool
 | .seq x y=>let a:=sz x;let b:=sz y;(a.1++b.1.filter (λi=>!a.1.contains i),a.2||b.2)
 | .cond _ x y=>let a:=sz x;let b:=sz y;(a.1++b.1.filter (λi=>!a.1.contains i),a.2||b.2)
 | .block id c=>let a:=sz c;(a.1.filter (λi=>i != id),a.2)
 | .loop c=>sz c
 | .scope c=>sz c
 | .rangeFunc _ _ x y=>let a:=sz x;let b:=sz y;(a.1++b.1.filter (λi=>!a.1.contains i),a.2||b.2)
 | .exit id=>([id],false)
 | .ret=>([],true)
 | _=>([],false)
def MU (l:Nat)(r:Loop)(Q:oF)(e:Env)(h:ai):List Nat->Prop->Prop
 | [],X=>X
 | id::ids,X=>(h l=some (nM r (.exit id))/\Q (.exit id) e (bD h l (h2 r (some (.exit id)))))∨MU l r Q e h ids X
def MV (l:Nat)(r:Loop)(Q:oF)(e:Env)(Dr:List Nat×Bool)(h:ai):Prop :=
 MU l r Q e h Dr.1 (match Dr.2 with
  | true=>(h l=some (nM r .ret)/\Q .ret e (bD h l (h2 r (some .ret))))∨(h l=some (eS r)/\Q .normal e (bD h l (h2 r none)))
  | false=>h l=some (eS r)/\Q .normal e (bD h l (h2 r none)))
def sh (P:Program)(x:Value)(args:List Value)(h:ai)(Q:Value->ai->Prop):Prop :=
 match x with
 | .func (.func g) first cs=>first=#[]/\mY P g (args++cs.toList) h Q
 | _=>False
def lG (l:Nat):Value:= .func (.yield l) #[] #[]
def XP (ro:Option Nat)(h:ai):Prop :=
 match ro with
 | none=>True
 | some l=>∃r,h l=some (.loop r)
def am3 (l:Nat)(r:Loop)(next:Env->ai->Prop):oF:=λx e h =>
 match x with
 | .normal=>h l=some (eS r)/\next e (bD h l (et r))
 | _=>False
mutual
def XQ:eo->(ae->Prop)->Prop
 | .i k,K=>∀n:Int,K (.i k n)
 | .u,K=>∀x:a8,K (.u x)
 | .b,K=>∀x:Bool,K (.b x)
 | .p,K=>∀x:aG,K (.p x)
 | .f,K=>∀(g:FuncId) (c:List ae),K (.f g c)
 | .fw,K=>∀x:Option aG,K (.fw x)
 | .s,K=>∀x:an,K (.s x)
 | .str,K=>∀x:ByteArray,K (.str x)
 | .m,K=>∀x:Option Nat,K (.m x)
 | .ws n,K=>∀c:bk n,K (.ws n c)
 | .c_ l,K=>Ds l λr=>K (.c_ r)
 | .h5 l,K=>Ds l λr=>K (.h5 r)
 | .v,K=>∀x:Value,K (.v x)
def Ds:List eo->(List ae->Prop)->Prop
 | [],K=>K []
 | t::l,K=>XQ t λr=>Ds l λrs=>K (r::rs)
end
mutual
theorem am4:∀(t:eo) (K:ae->Prop),(∀s,K s)->XQ t K
 | .i k,K,h=>λ_=>h _
 | .u,K,h=>λ_=>h _
 | .b,K,h=>λ_=>h _
 | .p,K,h=>λ_=>h _
 | .f,K,h=>λ_ _=>h _
 | .fw,K,h=>λ_=>h _
 | .s,K,h=>λ_=>h _
 | .str,K,h=>λ_=>h _
 | .m,K,h=>λ_=>h _
 | .ws n,K,h=>λ_=>h _
 | .c_ l,K,h=>He l _ λ_ _=>h _
 | .h5 l,K,h=>He l _ λ_ _=>h _
 | .v,K,h=>λ_=>h _
theorem He:∀(l:List eo) (K:List ae->Prop),(∀r,r.length=l.length->K r)->Ds l K
 | [],K,h=>h [] rfl
 | t::l,K,h=>am4 t _ λs=>He l _ λr aK=>h (s::r) (by simp[aK])
end
def la (P:Program)(n:Nat)(A:a2):Option Nat->Code->oF->Env->ai->Prop
 | _,.skip,Q,e,h=>Q .normal e h
 | ro,.seq x y,Q,e,h=>match (tY y).bind (AG A.amY) with
  | none=>la P n A ro x (Ha (la P n A ro y Q) Q) e h
  | some live=>am1 n live (λnext=>la P n A ro x (Ha next Q) e h) (la P n A ro y Q)
 | ro,.cond c x y,Q,e,h=>match c with
  | .tmp t=>match (if t<n then e t else none) with
   | some (.b b)=>bp b (la P n A ro x Q (put e t (.b true)) h) (la P n A ro y Q (put e t (.b false)) h)
   | _=>False
  | .const (.bool b)=>cond b (la P n A ro x Q e h) (la P n A ro y Q e h)
  | _=>False
 | ro,.block id c,Q,e,h=>la P n A ro c (XO id Q) e h
 | _,.exit id,Q,e,h=>Q (.exit id) e h
 | _,.ret,Q,e,h=>Q .ret e h
 | _,.region id ops false,Q,e,h=>Hb P n ops ops.toList e h (Q .normal)
 | _,.region id ops true,Q,e,h =>
  if MW ops ((AG A.XN id).getD (List.range ops.size))=true then
   oG P n ops (AH ops.toList []) [] ((AG A.XN id).getD (List.range ops.size)) e h (Q .normal) else False
 | ro,.loop c,Q,e,h=>match (tY c).bind (AG A.loops) with
  | some live=>am0 n live (λe h next=>la P n A ro c (Ha next Q) e h) e h
  | none=>False
 | ro,.rangeFunc f cc x y,Q,e,h=>match (match cc.toList with|[]=>some []|t::_=>AG A.amZ t) with
  | some oH=>if oH.length=cc.size then gM n e f λs=>XP ro h/\∀(r:Loop) (l:Nat),h l=none ->
   (Ds oH λargs=>∀(ag:ai) (kW:Value->ai->Prop),ag l=some (eS r) ->
    la P n A (some l) x (am3 l r (la P n A (some l) y (am2 l r kW))) (Hd cc.toList args e) ag->mZ P l (ae.bw args) ag kW) ->
   sh P s.val [lG l] (bD h l (eS r)) (λ_ aq=>MV l r Q e (sz y) aq) else False
  | none=>False
 | _,_,_,_,_=>False
mutual
theorem am5:∀(t:eo) {R:Type} (f:G9 t R) (s:ae) (F:R->Prop) (K:ae->R->Prop),G_ t f s F->XM t f K->∃cx r,cx.val=s.val/\ae.cells cx=ae.cells s/\F r/\K cx r
 | .i k,_,f,s,F,K,h,bV=>by
  cases s<;>try exact(show False from h).elim
  rename_i hd x
  simp only[G_] at h;split at h
  .rename_i ab;subst ab;exact⟨_,_,rfl,rfl,h,bV x⟩
  .exact h.elim
 | .u,_,f,s,F,K,h,bV=>by
  cases s<;>try exact(show False from h).elim
  exact⟨_,_,rfl,rfl,h,bV _⟩
 | .b,_,f,s,F,K,h,bV=>by
  cases s<;>try exact(show False from h).elim
  exact⟨_,_,rfl,rfl,h,bV _⟩
 | .s,_,f,s,F,K,h,bV=>by
  cases s<;>try exact(show False from h).elim
  exact⟨_,_,rfl,rfl,h,bV _⟩
 | .str,_,f,s,F,K,h,bV=>by
  cases s<;>try exact(show False from h).elim
  exact⟨_,_,rfl,rfl,h,bV _⟩
 | .m,_,f,s,F,K,h,bV=>by
  cases s<;>try exact(show False from h).elim
  exact⟨_,_,rfl,rfl,h,bV _⟩
 | .v,_,f,s,F,K,h,bV=>by
  cases s<;>try exact(show False from h).elim
  .rename_i g c;exact⟨.v (.func (.func g) #[] (ae.bw c).toArray),_,rfl,rfl,h,bV _⟩
  .exact⟨_,_,rfl,rfl,h,bV _⟩
 | .p,_,f,s,F,K,h,bV=>by
  cases s<;>try exact(show False from h).elim
  exact⟨_,_,rfl,rfl,h,bV _⟩
 | .f,_,f,s,F,K,h,bV=>by
  cases s<;>try exact(show False from h).elim
  exact⟨_,_,rfl,rfl,h,bV _ _⟩
 | .fw,_,f,s,F,K,h,bV=>by
  cases s<;>try exact(show False from h).elim
  .rename_i x;exact⟨.fw (some x),_,rfl,rfl,h,bV (some x)⟩
  .exact⟨_,_,rfl,rfl,h,bV _⟩
 | .ws n,_,f,s,F,K,h,bV=>by
  cases s<;>try exact(show False from h).elim
  rename_i m x
  simp only[G_] at h;split at h
  .rename_i ab;subst ab;exact⟨_,_,rfl,rfl,h,bV x⟩
  .exact h.elim
 | .c_ l,_,f,s,F,K,h,bV=>by
  cases s<;>try exact(show False from h).elim
  obtain⟨cx,ej,aa,ad,aq,aJ⟩:=AI l f _ F _ h bV;exact⟨.c_ cx,ej,by simp only[ae.val,ad],by simp only[ae.cells,ad],aq,aJ⟩
 | .h5 l,_,f,s,F,K,h,bV=>by
  cases s<;>try exact(show False from h).elim
  obtain⟨cx,ej,aa,ad,aq,aJ⟩:=AI l f _ F _ h bV;exact⟨.h5 cx,ej,by simp only[ae.val,aa],by simp only[ae.cells,aa],aq,aJ⟩
theorem AI:∀(l:List eo) {R:Type} (f:vK l R) (s:List ae) (F:R->Prop) (K:List ae->R->Prop),vL l f s F->AF l f K ->
 ∃cx r,ae.bw cx=ae.bw s/\ae.fm cx=ae.fm s/\F r/\K cx r
 | [],_,f,[],F,K,h,bV=>⟨[],f,rfl,rfl,h,bV⟩
 | t::l,_,f,s::r,F,K,h,bV=>by
  obtain⟨s1,g,aa,ad,aq,aJ⟩:=am5 t f s _ _ h bV;obtain⟨s2,x,aW,bd,cg,cl⟩:=AI l g r F _ aq aJ;exact⟨s1::s2,x,by simp only[ae.bw,aa,aW],by simp only[ae.fm,ad,bd],cg,cl⟩
 | [],_,f,s::r,F,K,h,bV=>(show False from h).elim
 | t::l,_,f,[],F,K,h,bV=>(show False from h).elim
end
theorem Hf {n:Nat}{e:Env}{a:Act}(g:Good n e a):∀(l:List (Nat×eo)) (K:List ae->Prop),xR n e l K ->
 ∃r,K r/\∀ej,ae.bw ej=ae.bw r->Good n (vN l ej) a
 | [],K,h=>⟨[],h,λej _=>⟨g.size,λt s bz aR=>by cases ej<;>simp[vN,emp] at aR⟩⟩
 | (t,ty)::l,K,h=>by
  simp only[xR] at h;split at h
  .rename_i s aR
   split at aR
   .rename_i bz
    obtain⟨r,ab,aK⟩:=Hf g l _ h;refine⟨s::r,ab,λej bH=>?_⟩;cases ej with
    | nil=>simp[ae.bw] at bH
    | cons cx ej =>
     simp only[ae.bw,List.cons.injEq] at bH;refine⟨g.size,λu x hu af=>?_⟩;simp only[vN,put] at af;by_cases aC:u=t
     .subst aC;rw[as8 rfl] at af;cases af;rw[g.has u s hu aR,bH.1]
     .rw[as7 aC] at af;exact(aK ej bH.2).has u x hu af
   .cases aR
  .exact h.elim
theorem put_defers (a:Act)(d:Option Nat)(v:Value):(a.put d v).defers=a.defers:=by cases d<;>rfl
theorem XR {ro:Option Nat}{mm:Nat}{P:Program}{n:Nat}{all:Array Oper}{K:Env->ai->Prop}{Q:Exit->Act->World->Prop}:∀(l:List Oper) (e:Env) (h:ai) (a:Act) (w:World),Hb P n all l e h K->Good n e a->dU h w ->
 (∀ch ag dq bX,K ch ag->Good n ch dq->dq.defers=a.defers->dU ag bX->dN h ag w bX->Q .normal dq bX)->wpListIn (lY ro) mm P all Q l a w
 | [],e,h,a,w,ab,g,c,ja=>ja e h a w ab g rfl c (dN.refl _ _)
 | o::l,e,h,a,w,ab,g,c,ja=>by
  simp only[Hb,XS] at ab;have tZ:=XT (ro:=ro) (mm:=mm) (next:=wpListIn (lY ro) mm P all Q l) (Q:=Q) ab g c λr ag bX fx b8 bg =>
   XR l _ _ _ _ fx (g.put o.dst r) b8 λt_ gp MX MY q1 aP ua bs bJ=>ja t_ gp MX MY q1 aP (ua.trans (put_defers _ _ _)) bs (bg.trans bJ)
  unfold wpListIn;split
  .rename_i hw;rw[as8 hw] at tZ;exact tZ
  .rename_i hw;rw[as7 hw] at tZ;exact tZ
theorem am6 {F:Fence}{mm:Nat}{P:Program}{Q:Exit->Act->World->Prop}{a:Act}{w:World}{c:Code}(I:Act->World->Nat->Prop){m:Nat}(am7:I a w m)
 (round:∀a w m,I a w m->c.wpIn F mm P (Exit.then (λdq bX=>∃l_,l_<m/\I dq bX l_) Q) a w):(Code.loop c).wpIn F mm P Q a w:=by
 intro b k cs am8 au aK;have key:∀m a w,I a w m->∃e dq bX,Q e dq bX/\ArrivesIn (Machine.fenced P F) P (lone (b.atR a (.code c::.inLoop c::k)) cs w) b k cs e dq bX:=by
  intro m
  induction m using Nat.strongRecOn with
  | _ m c6 =>
   intro a w jI;obtain⟨e,vO,vP,ah,vQ⟩:=round a w m jI b (.inLoop c::k) cs am8 au aK;cases e with
   | normal =>
    obtain⟨l_,b1,MZ⟩:=ah;obtain⟨am9,am_,ana,anb,anc⟩:=c6 l_ b1 vO vP MZ;exact⟨am9,am_,ana,anb,.of_steps (StepsIn.trans vQ (.one (fenced_calm au aK rfl) stepR_inLoop)) anc⟩
   | exit id=>exact⟨_,vO,vP,ah,.pass (x:= .inLoop c) rfl (λ_ _=> .inl (by simp)) vQ⟩
   | goto l=>exact⟨_,vO,vP,ah,.pass (x:= .inLoop c) rfl (λ_ _=> .inl (by simp)) vQ⟩
   | ret=>exact⟨_,vO,vP,ah,.pass (x:= .inLoop c) rfl (λ_ _=> .inl (by simp)) vQ⟩
   | panic asN=>exact⟨_,vO,vP,ah,.pass (x:= .inLoop c) rfl (λ_ _=> .inl (by simp)) vQ⟩
   | outgrown=>exact⟨_,vO,vP,ah,.pass (x:= .inLoop c) rfl (λ_ _=> .inl (by simp)) vQ⟩
 obtain⟨e,dq,bX,ah,vQ⟩:=key _ a w am7;exact⟨e,dq,bX,ah,.of_steps (.one (fenced_calm au aK rfl) stepR_loop) vQ⟩
def pH (B:Nat)(cG:List Deferred)(h:ai)(w:World):Prop :=
 B<=w.heap.size/\∃bQ:List Nat,cG=bQ.map (λb=>{ target:= .collected b,args:=#[] })/\bQ.Nodup/\∀b∈bQ,B<=b/\h b=none/\w.heap[b]? =some (.deferred (some []))
theorem pH.grow {B:Nat}{cG:List Deferred}{h ag:ai}{w bX:World}(m:pH B cG h w)(g:dN h ag w bX):pH B cG ag bX:=by
 obtain⟨c7,bQ,e,hk,au⟩:=m;refine⟨au0 c7 g.size,bQ,e,hk,λb hn=>?_⟩;obtain⟨h0,aa,ad⟩:=au b hn;obtain⟨aq,aJ⟩:=g.rest b aa (auO.1 ad).1;exact⟨h0,aq,aJ.trans ad⟩
def Hg (B:Nat)(n:Nat)(Q:oF)(h:ai)(w:World):Exit->Act->World->Prop:=λx dq bX=>∃ch ag,Q x ch ag/\Good n ch dq/\pH B dq.defers ag bX/\dU ag bX/\dN h ag w bX
theorem Hg.mono {B:Nat}{n:Nat}{Q kW:oF}{h aa:ai}{w jJ:World}(g:dN h aa w jJ)(ah:∀x e ag,Q x e ag->kW x e ag){x:Exit}{a:Act}{bX:World}(hm:Hg B n Q aa jJ x a bX):Hg B n kW h w x a bX :=
 let ⟨ch,ag,aa,ad,ab,aq,aJ⟩:=hm;⟨ch,ag,ah _ _ _ aa,ad,ab,aq,g.trans aJ⟩
theorem dU.gd {h:ai}{w:World}(c:dU h w){l:Nat}{o il:Obj}(aO:h l=some o):dU (bD h l il) (w.putObj l il):=by
 intro b x af;by_cases e:b=l
 .subst e;rw[ea] at af;cases af;exact World.putObj_heap_same (c.lt aO)
 .rw[cJ _ _ e] at af;rw[World.putObj_heap_other e];exact c b x af
theorem dN.gd (h:ai)(w:World){l:Nat}{o il:Obj}(aO:h l=some o):dN h (bD h l il) w (w.putObj l il):=by
 refine⟨rfl,rfl,rfl,by simp,λb au _=>?_⟩;have e:b≠l:=by intro e;subst e;rw[aO] at au;cases au
 exact⟨by rw[cJ _ _ e];exact au,World.putObj_heap_other e⟩
theorem dU.more {h:ai}{w:World}(c:dU h w)(o:Obj):dU h (w.alloc o):=λb x af=>by
 rw[Below.heap_alloc _ _ _ (c.lt af)];exact c b x af
theorem dU.M0 {h:ai}{w:World}(c:dU h w){b:Nat}(au:w.heap.size<=b):h b=none:=by
 cases e:h b with
 | none=>rfl
 | some o=>have:=c.lt e;omega
theorem pH.nil {B:Nat}(h:ai){w:World}(c7:B<=w.heap.size):pH B [] h w:=⟨c7,[],rfl,auG,λ_ au=>by cases au⟩
theorem M1:∀(l:List ae),(ae.bw l).length=l.length
 | []=>rfl
 | x::l=>by simp[ae.bw,M1 l]
theorem XU {n:Nat}:∀(cc:List Nat) (l:List ae) (e:Env) (a:Act),Good n e a->Good n (Hd cc l e) { a with tmps:=(cc.zip (ae.bw l)).foldl (λtmps (x:Nat×Value)=>tmps.setIfInBounds x.1 x.2) a.tmps }
 | [],l,e,a,g=>by cases l<;>exact g
 | t::cc,[],e,a,g=>g
 | t::cc,s::l,e,a,g=>by
  have:=XU cc l _ _ (g.put (some t) s);exact this
theorem ane {P:Program}{n:Nat}{ro:Option Nat}{h:ai}{w:World}(c:dU h w)(M3:XP ro h)(fn:FuncId)(a:Act){B:Nat}(mk:pH B a.defers h w)(cc:Array Tmp)(x y:Code) :
 ∃(l:Nat) (mark:List Deferred) (r:Loop) (jJ:World),(Instr.enterLoop fn a.tmps cc x y ro).run P w= .ok (l,mark) jJ/\h l=none/\dU (bD h l (eS r)) jJ/\dN h (bD h l (eS r)) w jJ /\
  pH B (mark++a.defers) (bD h l (eS r)) jJ/\r.params=cc/\r.assign=x/\r.body=y/\r.tmps=a.tmps:=by
 cases ro with
 | none =>
  have aX:=c.more (.deferred (some []));have aC:(w.alloc (.deferred (some []))).heap.size=w.heap.size+1:=by simp
  have aO:h (w.heap.size+1)=none:=c.M0 (by omega);have nU:dN h h w (w.alloc (.deferred (some []))):=⟨rfl,rfl,rfl,by simp,λb au b1=>⟨au,Below.heap_alloc _ _ _ b1⟩⟩;have aZ:=aX.alloc (eS { state:= .ready,pending:=none,fn,tmps:=a.tmps,params:=cc,assign:=x,body:=y,defers:=w.heap.size });have np:=dN.alloc h (w.alloc (.deferred (some []))) (eS { state:= .ready,pending:=none,fn,tmps:=a.tmps,params:=cc,assign:=x,body:=y,defers:=w.heap.size });rw[aC] at aZ np;refine⟨_,_,_,_,run_enterLoop_outer fn a.tmps cc x y,aO,aZ,nU.trans np,?_,rfl,rfl,rfl,rfl⟩;obtain⟨c7,bQ,e,hk,au⟩:=mk.grow (nU.trans np);refine⟨c7,w.heap.size::bQ,by rw[e];rfl,auk.2 ⟨λhm=>?_,hk⟩,λb hn=>?_⟩
  .obtain⟨_,anf,eg,_,j0⟩:=mk;have eq:anf=bQ:=by
    have:=eg.symm.trans e;have ad:=congrArg (List.map λd:Deferred=>d.target) this;simp only[auf] at ad;have inj:∀(a b:List Nat),List.map ((λd:Deferred=>d.target) ∘ λb=>({ target:= .collected b,args:=#[] }:Deferred)) a=List.map ((λd:Deferred=>d.target) ∘ λb=>({ target:= .collected b,args:=#[] }:Deferred)) b->a=b:=by
     intro a
     induction a with
     | nil=>intro b h;cases b with
      | nil=>rfl
      | cons _ _=>simp at h
     | cons x a c6=>intro b h;cases b with
      | nil=>simp at h
      | cons y b=>simp at h;rw[h.1,c6 b (by simpa using h.2)]
    exact inj _ _ ad
   subst eq;have:=(j0 _ hm).2.2;simp at this
  .rcases at3.1 hn with a7|a7
   .subst a7;refine⟨mk.1,by rw[cJ _ _ (by omega)];exact c.M0 (as_ _),?_⟩;rw[Below.heap_alloc _ _ _ (by simp)];exact World.alloc_heap_new _ _
   .exact au b a7
 | some vR =>
  obtain⟨gT,ang⟩:=M3;exact⟨_,_,{ state:= .ready,pending:=none,fn,tmps:=a.tmps,params:=cc,assign:=x,body:=y,defers:=gT.defers },_,run_enterLoop_inner (c vR _ ang) fn a.tmps cc x y,c.M0 (as_ _),c.alloc _,dN.alloc _ _ _,mk.grow (dN.alloc _ _ _),rfl,rfl,rfl,rfl⟩
theorem anh {l:Nat}{r:Loop}{Q:oF}{e:Env}{Dr:List Nat×Bool}{h:ai}(ah:MV l r Q e Dr h) :
 (h l=some (eS r)/\Q .normal e (bD h l (h2 r none)))∨(h l=some (nM r .ret)/\Q .ret e (bD h l (h2 r (some .ret))))∨∃id,h l=some (nM r (.exit id))/\Q (.exit id) e (bD h l (h2 r (some (.exit id)))):=by
 obtain⟨ids,b⟩:=Dr;unfold MV at ah;simp only at ah
 induction ids with
 | nil =>
  simp only[MU] at ah;cases b with
  | true=>
   rcases ah with ah|ah
   .exact .inr (.inl ah)
   .exact .inl ah
  | false=>exact .inl ah
 | cons id ids c6 =>
  rcases ah with ah|ah
  .exact .inr (.inr ⟨id,ah⟩)
  .exact c6 ah
theorem ani {P:Program}{n:Nat}{A:a2}(hm:P.follows .mixedOrders=true):∀(c:Code) (B:Nat) (ro:Option Nat) (mm:Nat) (Q:oF) (e:Env) (h:ai),la P n A ro c Q e h->∀(a:Act) (w:World),Good n e a->pH B a.defers h w->dU h w ->
 c.wpIn (lY ro) mm P (Hg B n Q h w) a w:=by
 intro c
 induction c with
 | skip=>exact λB ro mm Q e h ab a w g mk hs=>wpIn_skip ⟨e,h,ab,g,mk,hs,dN.refl _ _⟩
 | region id ops draw =>
  intro B ro mm Q e h ab a w g mk hs;cases draw with
  | false=>exact wpIn_region_list (XR _ _ _ _ _ ab g hs λch ag dq bX q1 aP ua bs bJ=>⟨ch,ag,q1,aP,ua▸mk.grow bJ,bs,bJ⟩)
  | true =>
   simp only[la] at ab;split at ab
   .rename_i anj
    exact ank hm anj ab g hs λch ag dq bX q1 aP ua bs bJ=>⟨ch,ag,q1,aP,ua▸mk.grow bJ,bs,bJ⟩
   .exact ab.elim
 | seq x y xS xT =>
  intro B ro mm Q e h ab a w g mk hs;refine wpIn_seq ?_;simp only[la] at ab;split at ab
  .refine Code.wpIn_mono ?_ (xS B ro mm _ e h ab a w g mk hs);rintro pT dq bX ⟨ch,ag,ah,bg,mk',mu,oI⟩;cases pT with
   | normal=>exact Code.wpIn_mono (λ_ _ _ M4=>M4.mono oI λ_ _ _ bT=>bT) (xT B ro mm Q ch ag ah dq bX bg mk' mu)
   | _=>exact⟨ch,ag,ah,bg,mk',mu,oI⟩
  .rename_i live _
   obtain⟨J,anl,anm⟩:=ab;refine Code.wpIn_mono ?_ (xS B ro mm _ e h anl a w g mk hs);rintro pT dq bX ⟨ch,ag,ah,bg,mk',mu,oI⟩;cases pT with
   | normal =>
    obtain⟨aU,bH,M5⟩:=Hf bg _ _ ah;obtain⟨ru,I,aa,_,aq,aJ⟩:=AI _ J aU _ _ bH anm;exact Code.wpIn_mono (λ_ _ _ M4=>M4.mono oI λ_ _ _ bT=>bT) (xT B ro mm Q _ ag (aJ ag aq) dq bX (M5 ru aa) mk' mu)
   | _=>exact⟨ch,ag,ah,bg,mk',mu,oI⟩
 | cond c x y xS xT =>
  intro B ro mm Q e h ab a w g mk hs;simp only[la] at ab;split at ab
  .rename_i t
   split at ab
   .rename_i b au
    split at au
    .rename_i bz
     have he:a.eval (.tmp t)= .bool b:=g.has t _ bz au;have aM:=XV au;cases b with
     | true =>
      rw[amV,aM] at ab;exact wpIn_cond_true he (xS B ro mm Q e h ab a w g mk hs)
     | false =>
      rw[amW,aM] at ab;exact wpIn_cond_false he (xT B ro mm Q e h ab a w g mk hs)
    .cases au
   .exact ab.elim
  .rename_i b
   cases b with
   | true=>exact wpIn_cond_true rfl (xS B ro mm Q e h ab a w g mk hs)
   | false=>exact wpIn_cond_false rfl (xT B ro mm Q e h ab a w g mk hs)
  .exact ab.elim
 | block id c c6 =>
  intro B ro mm Q e h ab a w g mk hs;refine wpIn_block (Code.wpIn_mono ?_ (c6 B ro mm _ e h ab a w g mk hs));rintro pT dq bX ⟨ch,ag,ah,bg,mk',mu,oI⟩;cases pT with
  | exit xc =>
   simp only[XO] at ah;simp only[Exit.inBlock];split at ah
   .rename_i gJ;rw[as8 gJ];exact⟨ch,ag,ah,bg,mk',mu,oI⟩
   .rename_i gJ;rw[as7 gJ];exact⟨ch,ag,ah,bg,mk',mu,oI⟩
  | _=>exact⟨ch,ag,ah,bg,mk',mu,oI⟩
 | exit id=>exact λB ro mm Q e h ab a w g mk hs=>wpIn_exit ⟨e,h,ab,g,mk,hs,dN.refl _ _⟩
 | ret=>exact λB ro mm Q e h ab a w g mk hs=>wpIn_ret ⟨e,h,ab,g,mk,hs,dN.refl _ _⟩
 | loop c c6 =>
  intro B ro mm Q e h ab a w g mk hs;simp only[la] at ab;split at ab
  .rename_i live _
   obtain⟨J,ann,Hh⟩:=ab;obtain⟨aU,bH,M5⟩:=Hf g _ _ ann;obtain⟨ru,I,aa,_,⟨m,aq⟩,aJ⟩:=AI _ J aU _ _ bH Hh;refine am6 (λdq bX l_=>∃ru I ag,I ag l_/\(∀h m,I h m->la P n A ro c (Ha (λch ag=>xR n ch live λru=>vL (vM live) J ru λMT=>∃l_,l_<m/\MT ag l_) Q) (vN live ru) h) /\
    Good n (vN live ru) dq/\pH B dq.defers ag bX/\dU ag bX/\dN h ag w bX) (m:=m) ⟨ru,I,h,aq,aJ,M5 ru aa,mk,hs,dN.refl _ _⟩ ?_
   rintro vO vP m₁ ⟨asO,asP,ano,MZ,anp,anq,anr,ans,XW⟩;refine Code.wpIn_mono ?_ (c6 B ro mm _ _ _ (anp ano m₁ MZ) vO vP anq anr ans);rintro pT dq bX ⟨ch,ag,ah,bg,mk',mu,oI⟩;cases pT with
   | normal =>
    obtain⟨Xz,ant,anu⟩:=Hf bg _ _ ah;obtain⟨XX,anv,q1,_,⟨rK,b1,bs⟩,bJ⟩:=AI _ J Xz _ _ ant Hh;exact⟨rK,b1,XX,anv,ag,bs,bJ,anu XX q1,mk',mu,XW.trans oI⟩
   | _=>exact⟨ch,ag,ah,bg,mk',mu,XW.trans oI⟩
  .exact ab.elim
 | rangeFunc f cc x y xS xT =>
  intro B ro mm Q e h ab a w g mk hs;simp only[la] at ab;split at ab
  .rename_i oH _
   split at ab
   .rename_i hlen
    obtain⟨s,⟨M3,ab⟩,aR⟩:=ix ab;refine wpIn_rangeFunc λfn _=>?_;obtain⟨l,mark,r,jJ,jW,aO,aX,g1,M6,aC,a7,b2,b5⟩:=ane (P:=P) (n:=n) hs M3 fn a mk cc x y;have xU:=ab r l aO (He _ _ λargs qt ag kW iI anw bX mu=>by
     refine⟨{ r with state:= .ready,pending:=none },mu l _ iI,by rw[aC,M1,qt,hlen],?_⟩;refine roundIn_of_wpIn trivial ?_;simp only[aC,a7,b2,b5];have w4:Good n (Hd cc.toList args e) { tmps:=(cc.zip (ae.bw args).toArray).foldl (λtmps (x:Nat×Value)=>tmps.setIfInBounds x.1 x.2) a.tmps,defers:=[] }:=by
      have:=XU cc.toList args e { tmps:=a.tmps,defers:=[] } ⟨g.size,g.has⟩;have anx:(cc.zip (ae.bw args).toArray).foldl (λtmps (x:Nat×Value)=>tmps.setIfInBounds x.1 x.2) a.tmps=(cc.toList.zip (ae.bw args)).foldl (λtmps (x:Nat×Value)=>tmps.setIfInBounds x.1 x.2) a.tmps:=by
       rw[<-Array.foldl_toList];simp
      rw[anx];exact this
     refine Code.wpIn_mono ?_ (xS 0 (some l) 0 _ _ ag anw _ bX w4 (pH.nil _ (atx _)) mu);rintro pT aN iO ⟨nw,ad,ah,g2,anz,XY,anA⟩;cases pT with
     | normal =>
      obtain⟨lM,anB⟩:=ah;refine⟨_,run_beginRound (XY l _ lM) rfl,?_⟩;have cp:=XY.gd (il:=et r) lM;have g3:=dN.gd ad iO (il:=et r) lM;refine Code.wpIn_mono ?_ (xT 0 (some l) 0 _ nw _ anB aN _ g2 (anz.grow g3) cp);rintro anC a4 rG ⟨asQ,aJ,pI,g4,_,AJ,anD⟩;have xV:=(anA.trans g3).trans anD;cases anC with
      | normal=>exact⟨_,_,run_endRound none (AJ l _ pI.1),_,_,rfl,pI.2,AJ.gd pI.1,xV.trans (dN.gd _ _ pI.1)⟩
      | ret=>exact⟨_,_,run_endRound (some .ret) (AJ l _ pI.1),_,_,rfl,pI.2,AJ.gd pI.1,xV.trans (dN.gd _ _ pI.1)⟩
      | exit id=>exact⟨_,_,run_endRound (some (.exit id)) (AJ l _ pI.1),_,_,rfl,pI.2,AJ.gd pI.1,xV.trans (dN.gd _ _ pI.1)⟩
      | _=>exact pI.elim
     | _=>exact ah.elim)
    unfold sh at xU;split at xU
    .rename_i AK first cs anE
     obtain⟨rfl,xU⟩:=xU;have wD:([lG l]++cs.toList).toArray=#[lG l]++cs:=by apply atG.1;simp
     have n1:=xU.2 jJ aX;rw[wD] at n1;refine⟨l,mark,jJ,{ target:= .fn (.func AK) cs,args:=#[lG l] },jJ,AK,#[lG l]++cs,jJ,jW,?_,λ_ _=>trivial,?_,M7 ro,XZ (n1.mono ?_)⟩
     .have he:=aR a g;rw[anE] at he;simp[resolve,rangeCall,he,Deferred.ofValue,lG];rfl
     .simp only[invoke,M8 xU.1]
     .rintro fg n2 ⟨v,aq,rfl,ah,AL,Hi⟩;have xV:=g1.trans Hi;rcases anh ah with ⟨oJ,ja⟩|⟨oJ,ja⟩|⟨id,oJ,ja⟩
      .exact⟨none,_,run_endLoop (AL l _ oJ) (by simp),e,_,ja,⟨g.size,g.has⟩,(M6.grow Hi).grow (dN.gd _ _ oJ),AL.gd oJ,xV.trans (dN.gd _ _ oJ)⟩
      .exact⟨some .ret,_,run_endLoop (AL l _ oJ) (by simp),wpIn_ret ⟨e,_,ja,⟨g.size,g.has⟩,(M6.grow Hi).grow (dN.gd _ _ oJ),AL.gd oJ,xV.trans (dN.gd _ _ oJ)⟩⟩
      .exact⟨some (.exit id),_,run_endLoop (AL l _ oJ) (by simp),wpIn_exit ⟨e,_,ja,⟨g.size,g.has⟩,(M6.grow Hi).grow (dN.gd _ _ oJ),AL.gd oJ,xV.trans (dN.gd _ _ oJ)⟩⟩
    .exact xU.elim
   .exact ab.elim
  .exact ab.elim
 | scope c _=>exact λB ro mm Q e h ab=>ab.elim
 | label l=>exact λB ro mm Q e h ab=>ab.elim
 | goto l=>exact λB ro mm Q e h ab=>ab.elim
 | refuse s=>exact λB ro mm Q e h ab=>ab.elim
def xW (P:Program)(n:Nat)(e:Env)(h:ai):List ResultVar->(List ae->Prop)->Prop
 | [],K=>K []
 | .tmp t::l,K=>match (if t<n then e t else none) with
  | some s=>xW P n e h l λr=>K (s::r)
  | none=>False
 | .cell t T::l,K=>match (if t<n then e t else none) with
  | some (.p q)=>vS P T h q λs=>xW P n e h l λr=>K (s::r)
  | _=>False
def M9 (P:Program)(n:Nat)(rs:Array ResultVar)(Q:Value->ai->Prop):oF:=λx e h =>
 match x with
 | .normal| .ret=>xW P n e h rs.toList λr=>match r with|[s]=>Q s.val h|r=>Q (.tuple (ae.bw r).toArray) h
 | _=>False
def AM:Nat->List ae->Env
 | _,[]=>emp
 | i,s::l=>put (AM (i+1) l) i s
theorem X0:∀(l:List ae) (i t:Nat) (s:ae),AM i l t=some s->i<=t/\l[t-i]? =some s
 | [],i,t,s,h=>by simp[AM,emp] at h
 | x::l,i,t,s,h=>by
  simp only[AM,put] at h;by_cases aC:t=i
  .subst aC;simp at h ⊢;exact h
  .rw[as7 aC] at h;obtain⟨aa,ad⟩:=X0 l (i+1) t s h;refine⟨by omega,?_⟩;rw[show t-i=(t-(i+1))+1 by omega];simpa using ad
theorem X1:∀(l:List ae) (i:Nat) (s:ae),l[i]? =some s->(ae.bw l)[i]? =some s.val
 | [],i,s,h=>by simp at h
 | x::l,0,s,h=>by simp at h;subst h;rfl
 | x::l,i+1,s,h=>by simpa [ae.bw] using X1 l i s (by simpa using h)
theorem M_ {P:Program}{n:Nat}{e:Env}{a:Act}(g:Good n e a){h:ai}{w:World}(c:dU h w):∀(l:List ResultVar) (K:List ae->Prop),xW P n e h l K ->
 ∃r,K r/\(l.mapM λ(x:ResultVar)=>(match x with| .tmp t=>(pure (a.tmps.getD t undef):Sem Value)| .cell b t=>(do loadVar t (<-asAddr (a.tmps.getD b undef))))).run P w= .ok (ae.bw r) w
 | [],K,ab=>⟨[],ab,by simp[ae.bw]⟩
 | .tmp t::l,K,ab=>by
  simp only[xW] at ab;split at ab
  .rename_i s aR
   split at aR
   .rename_i bz
    obtain⟨r,ab,aK⟩:=M_ g c l _ ab;refine⟨s::r,ab,?_⟩;simp only[List.mapM_cons,atb,atk,ata,aK,ae.bw,g.has t s bz aR]
   .cases aR
  .exact ab.elim
 | .cell t T::l,K,ab=>by
  simp only[xW] at ab;split at ab
  .rename_i q aR
   split at aR
   .rename_i bz
    obtain⟨s,ab,kB,aa,ad⟩:=X2 ab;obtain⟨r,ab,aK⟩:=M_ g c l _ ab;refine⟨s::r,ab,?_⟩;have sw:(asAddr (a.tmps.getD t undef)).run P w= .ok q.addr w:=by rw[g.has t _ bz aR];rfl
    simp only[List.mapM_cons,atb,sw,atk,ata,X3 c aa ad kB,aK,ae.bw]
   .cases aR
  .exact ab.elim
theorem X4 {P:Program}{n:Nat}{e:Env}{a:Act}(g:Good n e a){h:ai}{w:World}(c:dU h w){fn:Func}{Q:Value->ai->Prop}{x:Exit}(ab:M9 P n fn.results Q x e h) :
 (x= .normal∨x= .ret)/\∃v,(results fn a.tmps).run P w= .ok v w/\Q v h:=by
 have af:x= .normal∨x= .ret:=by
  cases x<;>first|exact .inl rfl|exact .inr rfl|exact(show False from ab).elim
 refine⟨af,?_⟩;have fx:xW P n e h fn.results.toList λr=>match r with|[s]=>Q s.val h|r=>Q (.tuple (ae.bw r).toArray) h:=by
  rcases af with rfl|rfl<;>exact ab
 obtain⟨r,iw,aK⟩:=M_ g c _ _ fx;have anF:(fn.results.mapM λ(x:ResultVar)=>(match x with| .tmp t=>(pure (a.tmps.getD t undef):Sem Value)| .cell b t=>(do loadVar t (<-asAddr (a.tmps.getD b undef))))).run P w= .ok (ae.bw r).toArray w:=by
  obtain⟨vR,AN⟩:∃l,fn.results=List.toArray l:=⟨fn.results.toList,by simp⟩;rw[AN] at aK ⊢;rw[List.mapM_toArray];simp only[Sem.run_map,aK,ata]
 unfold results;simp only[atb]
 erw [anF]
 simp only[ata,atk];cases r with
 | nil=>exact⟨_,rfl,iw⟩
 | cons s r =>
  cases r with
  | nil=>exact⟨_,rfl,iw⟩
  | cons s2 r=>exact⟨_,rfl,iw⟩
theorem X5 {P:Program}{fn:Func}{tmps:Array Value}{R:Ending->World->Prop}{h:ai}:∀(cG:List Deferred) (kA:World) (h0:ai) (w:World),pH kA.heap.size cG h w->dU h w->dN h0 h kA w ->
 (∀bX,dU h bX->dN h0 h kA bX->∃v,(results fn tmps).run P bX= .ok v bX/\R (.returned v) bX)->LeavesInM (lY none) 0 P fn tmps R cG .returning w
 | [],kA,h0,w,_,c,g,aK=>aK w c g
 | d::cG,kA,h0,w,⟨c7,bQ,e,hk,au⟩,c,g,aK=>by
  cases bQ with
  | nil=>cases e
  | cons b bQ =>
   simp only[at1,List.cons.injEq] at e;obtain⟨rfl,rfl⟩:=e;obtain⟨gW,q1,aP⟩:=au b atm;have X6:=auk.1 hk;refine⟨(λh=>by cases h),.inl ⟨b,_,rfl,run_takeDeferred aP,X5 _ kA h0 _ ⟨by simpa using c7,bQ,rfl,X6.2,λx af=>?_⟩ ?_ ?_ aK⟩⟩
   .obtain⟨p0,hF,jt⟩:=au x (atn _ af);have cX:x≠b:=λe=>X6.1 (e▸af);exact⟨p0,hF,by rw[World.putObj_heap_other cX];exact jt⟩
   .intro x o af
    have cX:x≠b:=λe=>by subst e;rw[q1] at af;cases af
    rw[World.putObj_heap_other cX];exact c x o af
   .refine⟨g.os,g.tape,g.output,by simpa using g.size,λx af b1=>?_⟩;have cX:x≠b:=by omega
    obtain⟨ev,e5⟩:=g.rest x af b1;exact⟨ev,by rw[World.putObj_heap_other cX];exact e5⟩
theorem anG {P:Program}{f:FuncId}{fn:Func}{c:Code}(A:a2)(hm:P.follows .mixedOrders=true)(bf:P.funcs[f]? =some fn)(au:fn.body=some c)(lp:sg P f=true)
 (args:List ae) (aH:args.length<=fn.ntmps) {h:ai} {Q:Value->ai->Prop} (ab:la P fn.ntmps A none c (M9 P fn.ntmps fn.results Q) (AM 0 args) h):mY P f (ae.bw args) h Q:=by
 refine⟨lp,λw hs=>(callsIn_of_wp_marks (F:=lY none) (n:=0) bf au trivial (Code.wpIn_mono ?_ (ani hm c w.heap.size none 0 _ _ h ab _ w ?_ (pH.nil _ (as_ _)) hs))).calls (λ_ _ h=>by cases h)⟩
 .rintro x a bX ⟨ch,ag,ah,bg,mk',mu,oI⟩;have af:=(X4 bg mu ah).1;have aO:LeavesInM (lY none) 0 P fn a.tmps (λe bX=>∃v ag,e= .returned v/\Q v ag/\dU ag bX/\dN h ag w bX) a.defers .returning bX:=by
   refine X5 _ w h bX mk' mu oI λiO aZ g2=>?_;obtain⟨_,v,aK,ja⟩:=X4 bg aZ ah;exact⟨v,aK,v,ag,rfl,ja,aZ,g2⟩
  rcases af with rfl|rfl<;>exact aO
 .refine⟨by simp[M1];omega,λt s bz aR=>?_⟩;obtain⟨_,ad⟩:=X0 _ _ _ _ aR;have aq:=X1 _ _ _ ad;simp only[auz] at aq;simp only[Array.getD_eq_getD_getElem?];rw[au_ (by
   have:=(auu.1 aq).1;simpa using this)]
  simp[aq]
def zE (P:Program)(fn:Func)(A:a2)(Q:Value->ai->Prop)(args:List ae)(h:ai):Prop :=
 match fn.body with
 | some c=>la P fn.ntmps A none c (M9 P fn.ntmps fn.results Q) (AM 0 args) h
 | none=>False
theorem FQ {P:Program}{f:FuncId}{fn:Func}(A:a2)(hm:P.follows .mixedOrders=true)(bf:P.funcs[f]? =some fn)(lp:sg P f=true)
 (args:List ae) (aH:args.length<=fn.ntmps) {h:ai} {Q:Value->ai->Prop} (ab:zE P fn A Q args h):mY P f (ae.bw args) h Q:=by
 unfold zE at ab;split at ab
 .rename_i c aT
  exact anG A hm bf aT lp args aH ab
 .exact ab.elim

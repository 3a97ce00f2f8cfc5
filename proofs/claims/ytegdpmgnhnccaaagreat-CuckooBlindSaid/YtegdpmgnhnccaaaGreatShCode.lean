import Derived.Test.YtegdpmgnhnccaaaGreatShDraw
import Derived.RangeFuncNested
namespace Go.cR
open Go Go.RowKit
mutual
def Mn:fp->Type->Type
 | .i _,R=>Int->R
 | .u,R=>aE->R
 | .b,R=>Bool->R
 | .p,R=>aF->R
 | .f,R=>FuncId->List ag->R
 | .ic,R=>Option aF->R
 | .s,R=>ao->R
 | .str,R=>ByteArray->R
 | .m,R=>Option Nat->R
 | .ws n,R=>bo n->R
 | .dz l,R=>y1 l R
 | .jC l,R=>y1 l R
 | .v,R=>Value->R
def y1:List fp->Type->Type
 | [],R=>R
 | t::l,R=>Mn t (y1 l R)
end
mutual
def aeZ:(t:fp)->{R:Type}->Mn t R->(ag->R->Prop)->Prop
 | .i k,_,f,K=>∀x:Int,K (.i k x) (f x)
 | .u,_,f,K=>∀x:aE,K (.u x) (f x)
 | .b,_,f,K=>∀x:Bool,K (.b x) (f x)
 | .p,_,f,K=>∀x:aF,K (.p x) (f x)
 | .f,_,f,K=>∀(g:FuncId) (c:List ag),K (.f g c) (f g c)
 | .ic,_,f,K=>∀x:Option aF,K (.ic x) (f x)
 | .s,_,f,K=>∀x:ao,K (.s x) (f x)
 | .str,_,f,K=>∀x:ByteArray,K (.str x) (f x)
 | .m,_,f,K=>∀x:Option Nat,K (.m x) (f x)
 | .ws n,_,f,K=>∀x:bo n,K (.ws n x) (f x)
 | .dz l,_,f,K=>Eh l f λr x=>K (.dz r) x
 | .jC l,_,f,K=>Eh l f λr x=>K (.jC r) x
 | .v,_,f,K=>∀x:Value,K (.v x) (f x)
def Eh:(l:List fp)->{R:Type}->y1 l R->(List ag->R->Prop)->Prop
 | [],_,f,K=>K [] f
 | t::l,_,f,K=>aeZ t f λr g=>Eh l g λrs x=>K (r::rs) x
end
mutual
def Mo:(t:fp)->{R:Type}->Mn t R->ag->(R->Prop)->Prop
 | .i k,_,f,.i h_ x,K=>if h_=k then K (f x) else False
 | .u,_,f,.u x,K=>K (f x)
 | .b,_,f,.b x,K=>K (f x)
 | .p,_,f,.p x,K=>K (f x)
 | .f,_,f,.f g c,K=>K (f g c)
 | .ic,_,f,.ic x,K=>K (f x)
 | .ic,_,f,.p x,K=>K (f (some x))
 | .s,_,f,.s x,K=>K (f x)
 | .str,_,f,.str x,K=>K (f x)
 | .m,_,f,.m x,K=>K (f x)
 | .ws n,_,f,.ws m x,K=>if h:m=n then K (f (h▸x)) else False
 | .dz l,_,f,.dz r,K=>y2 l f r K
 | .jC l,_,f,.jC r,K=>y2 l f r K
 | .v,_,f,.v x,K=>K (f x)
 | .v,_,f,.f g c,K=>K (f (.func (.func g) #[] (ag.bJ c).toArray))
 | _,_,_,_,_=>False
def y2:(l:List fp)->{R:Type}->y1 l R->List ag->(R->Prop)->Prop
 | [],_,f,[],K=>K f
 | t::l,_,f,r::rs,K=>Mo t f r λg=>y2 l g rs K
 | _,_,_,_,_=>False
end
structure a6 where
 loops:List (Nat×List (Nat×fp))
 axf:List (Nat×List (Nat×fp))
 ae0:List (Nat×List Nat)
 axg:List (Nat×List fp):=[]
def Ei {α:Type}:List (Nat×α)->Nat->Option α
 | [],_=>none
 | (k,x)::l,i=>if k=i then some x else Ei l i
def xf:Code->Option Nat
 | .region i _ _=>some i
 | .seq a b=>(xf a).or (xf b)
 | .cond _ a b=>(xf a).or (xf b)
 | .block _ c=>xf c
 | .loop c=>xf c
 | .scope c=>xf c
 | _=>none
def y3 (l:List (Nat×fp)):List fp:=l.map (·.2)
def Bg (n:Nat)(e:Env):List (Nat×fp)->(List ag->Prop)->Prop
 | [],K=>K []
 | (t,_)::l,K=>match (if t<n then e t else none) with
  | some s=>Bg n e l λr=>K (s::r)
  | none=>False
def y4:List (Nat×fp)->List ag->Env
 | (t,_)::l,s::r=>put (y4 l r) t s
 | _,_=>emp
abbrev qW:=Exit->Env->ak->Prop
def Mp (next:Env->ak->Prop)(Q:qW):qW
 | .normal,e,h=>next e h
 | x,e,h=>Q x e h
def ae1 (id:Nat)(Q:qW):qW
 | .exit AA,e,h=>if AA=id then Q .normal e h else Q (.exit AA) e h
 | x,e,h=>Q x e h
def axh (n:Nat)(live:List (Nat×fp))(body:Env->ak->(Env->ak->Prop)->Prop)(e:Env)(h:ak):Prop :=
 ∃J:y1 (y3 live) (ak->Nat->Prop),(Bg n e live λaZ=>y2 (y3 live) J aZ λI=>∃m,I h m) /\
  Eh (y3 live) J λaZ I=>∀h m,I h m->body (y4 live aZ) h λcc af=>Bg n cc live λtW=>y2 (y3 live) J tW λSS=>∃np,np<m/\SS af np
def axi (n:Nat)(live:List (Nat×fp))(first:(Env->ak->Prop)->Prop)(rest:Env->ak->Prop):Prop :=
 ∃J:y1 (y3 live) (ak->Prop),(first λcc af=>Bg n cc live λaZ=>y2 (y3 live) J aZ λI=>I af) /\
  Eh (y3 live) J λaZ I=>∀h,I h->rest (y4 live aZ) h
def Mq (P:Program)(n:Nat)(all:Array Oper):List Oper->Env->ak->(Env->ak->Prop)->Prop
 | [],e,h,K=>K e h
 | o::l,e,h,K=>Mr P n all o e h λcc r af=>Mq P n all l (hy cc o.dst r) af K
def eA (r:Loop):Obj:= .loop { r with state:= .ready,pending:=none }
def dn (r:Loop):Obj:= .loop { r with state:= .busy,pending:=none }
def o4 (r:Loop)(j:Code):Obj:= .loop { r with state:= .done,pending:=some j }
def im (r:Loop)(j:Option Code):Obj:= .loop { r with state:= .exhausted,pending:=j }
def Ms:List Nat->List ag->Env->Env
 | t::cN,s::l,e=>Ms cN l (put e t s)
 | _,_,e=>e
def axj (l:Nat)(r:Loop)(nY:Value->ak->Prop):qW:=λx _ h =>
 match x with
 | .normal=>h l=some (dn r)/\nY (.bool true) (bD h l (eA r))
 | .ret=>h l=some (dn r)/\nY (.bool false) (bD h l (o4 r .ret))
 | .exit id=>h l=some (dn r)/\nY (.bool false) (bD h l (o4 r (.exit id)))
 | _=>False
def vn:Code->List Nat×Bool
 | .seq x y=>let a:=vn x;let b:=vn y;(a.1++b.1.filter (λi=>!a.1.contains i),a.2||b.2)
 | .cond _ x y=>let a:=vn x;let b:=vn y;(a.1++b.1.filter (λi=>!a.1.contains i),a.2||b.2)
 | .block id c=>let a:=vn c;(a.1.filter (λi=>i != id),a.2)
 | .loop c=>vn c
 | .scope c=>vn c
 | .rangeFunc _ _ x y=>let a:=vn x;let b:=vn y;(a.1++b.1.filter (λi=>!a.1.contains i),a.2||b.2)
 | .exit id=>([id],false)
 | .ret=>([],true)
 | _=>([],false)
def SU (l:Nat)(r:Loop)(Q:qW)(e:Env)(h:ak):List Nat->Prop->Prop
 | [],X=>X
 | id::ids,X=>(h l=some (o4 r (.exit id))/\Q (.exit id) e (bD h l (im r (some (.exit id)))))∨SU l r Q e h ids X
def SV (l:Nat)(r:Loop)(Q:qW)(e:Env)(HZ:List Nat×Bool)(h:ak):Prop :=
 SU l r Q e h HZ.1 (match HZ.2 with
  | true=>(h l=some (o4 r .ret)/\Q .ret e (bD h l (im r (some .ret))))∨(h l=some (eA r)/\Q .normal e (bD h l (im r none)))
  | false=>h l=some (eA r)/\Q .normal e (bD h l (im r none)))
def rj (P:Program)(x:Value)(args:List Value)(h:ak)(Q:Value->ak->Prop):Prop :=
 match x with
 | .func (.func g) first cs=>first=#[]/\o2 P g (args++cs.toList) h Q
 | _=>False
def lM (l:Nat):Value:= .func (.yield l) #[] #[]
def ae2 (ro:Option Nat)(h:ak):Prop :=
 match ro with
 | none=>True
 | some l=>∃r,h l=some (.loop r)
def axk (l:Nat)(r:Loop)(next:Env->ak->Prop):qW:=λx e h =>
 match x with
 | .normal=>h l=some (eA r)/\next e (bD h l (dn r))
 | _=>False
mutual
def ae3:fp->(ag->Prop)->Prop
 | .i k,K=>∀n:Int,K (.i k n)
 | .u,K=>∀x:aE,K (.u x)
 | .b,K=>∀x:Bool,K (.b x)
 | .p,K=>∀x:aF,K (.p x)
 | .f,K=>∀(g:FuncId) (c:List ag),K (.f g c)
 | .ic,K=>∀x:Option aF,K (.ic x)
 | .s,K=>∀x:ao,K (.s x)
 | .str,K=>∀x:ByteArray,K (.str x)
 | .m,K=>∀x:Option Nat,K (.m x)
 | .ws n,K=>∀c:bo n,K (.ws n c)
 | .dz l,K=>H0 l λr=>K (.dz r)
 | .jC l,K=>H0 l λr=>K (.jC r)
 | .v,K=>∀x:Value,K (.v x)
def H0:List fp->(List ag->Prop)->Prop
 | [],K=>K []
 | t::l,K=>ae3 t λr=>H0 l λrs=>K (r::rs)
end
mutual
theorem axl:∀(t:fp) (K:ag->Prop),(∀s,K s)->ae3 t K
 | .i k,K,h=>λ_=>h _
 | .u,K,h=>λ_=>h _
 | .b,K,h=>λ_=>h _
 | .p,K,h=>λ_=>h _
 | .f,K,h=>λ_ _=>h _
 | .ic,K,h=>λ_=>h _
 | .s,K,h=>λ_=>h _
 | .str,K,h=>λ_=>h _
 | .m,K,h=>λ_=>h _
 | .ws n,K,h=>λ_=>h _
 | .dz l,K,h=>Mt l _ λ_ _=>h _
 | .jC l,K,h=>Mt l _ λ_ _=>h _
 | .v,K,h=>λ_=>h _
theorem Mt:∀(l:List fp) (K:List ag->Prop),(∀r,r.length=l.length->K r)->H0 l K
 | [],K,h=>h [] rfl
 | t::l,K,h=>axl t _ λs=>Mt l _ λr aQ=>h (s::r) (by simp[aQ])
end
def m7 (P:Program)(n:Nat)(A:a6):Option Nat->Code->qW->Env->ak->Prop
 | _,.skip,Q,e,h=>Q .normal e h
 | ro,.seq x y,Q,e,h=>match (xf y).bind (Ei A.axf) with
  | none=>m7 P n A ro x (Mp (m7 P n A ro y Q) Q) e h
  | some live=>axi n live (λnext=>m7 P n A ro x (Mp next Q) e h) (m7 P n A ro y Q)
 | ro,.cond c x y,Q,e,h=>match c with
  | .tmp t=>match (if t<n then e t else none) with
   | some (.b b)=>bl b (m7 P n A ro x Q (put e t (.b true)) h) (m7 P n A ro y Q (put e t (.b false)) h)
   | _=>False
  | .const (.bool b)=>cond b (m7 P n A ro x Q e h) (m7 P n A ro y Q e h)
  | _=>False
 | ro,.block id c,Q,e,h=>m7 P n A ro c (ae1 id Q) e h
 | _,.exit id,Q,e,h=>Q (.exit id) e h
 | _,.ret,Q,e,h=>Q .ret e h
 | _,.region id ops false,Q,e,h=>Mq P n ops ops.toList e h (Q .normal)
 | _,.region id ops true,Q,e,h =>
  if SW ops ((Ei A.ae0 id).getD (List.range ops.size))=true then
   qX P n ops (Ej ops.toList []) [] ((Ei A.ae0 id).getD (List.range ops.size)) e h (Q .normal) else False
 | ro,.loop c,Q,e,h=>match (xf c).bind (Ei A.loops) with
  | some live=>axh n live (λe h next=>m7 P n A ro c (Mp next Q) e h) e h
  | none=>False
 | ro,.rangeFunc f cN x y,Q,e,h=>match (match cN.toList with|[]=>some []|t::_=>Ei A.axg t) with
  | some qY=>if qY.length=cN.size then ie n e f λs=>ae2 ro h/\∀(r:Loop) (l:Nat),h l=none ->
   (H0 qY λargs=>∀(af:ak) (nY:Value->ak->Prop),af l=some (eA r) ->
    m7 P n A (some l) x (axk l r (m7 P n A (some l) y (axj l r nY))) (Ms cN.toList args e) af->nj P l (ag.bJ args) af nY) ->
   rj P s.val [lM l] (bD h l (eA r)) (λ_ an=>SV l r Q e (vn y) an) else False
  | none=>False
 | _,_,_,_,_=>False
mutual
theorem axm:∀(t:fp) {R:Type} (f:Mn t R) (s:ag) (F:R->Prop) (K:ag->R->Prop),Mo t f s F->aeZ t f K->∃cE r,cE.val=s.val/\ag.cells cE=ag.cells s/\F r/\K cE r
 | .i k,_,f,s,F,K,h,bY=>by
  cases s<;>try exact(show False from h).elim
  rename_i h_ x
  simp only[Mo] at h;split at h
  .rename_i ah;subst ah;exact⟨_,_,rfl,rfl,h,bY x⟩
  .exact h.elim
 | .u,_,f,s,F,K,h,bY=>by
  cases s<;>try exact(show False from h).elim
  exact⟨_,_,rfl,rfl,h,bY _⟩
 | .b,_,f,s,F,K,h,bY=>by
  cases s<;>try exact(show False from h).elim
  exact⟨_,_,rfl,rfl,h,bY _⟩
 | .s,_,f,s,F,K,h,bY=>by
  cases s<;>try exact(show False from h).elim
  exact⟨_,_,rfl,rfl,h,bY _⟩
 | .str,_,f,s,F,K,h,bY=>by
  cases s<;>try exact(show False from h).elim
  exact⟨_,_,rfl,rfl,h,bY _⟩
 | .m,_,f,s,F,K,h,bY=>by
  cases s<;>try exact(show False from h).elim
  exact⟨_,_,rfl,rfl,h,bY _⟩
 | .v,_,f,s,F,K,h,bY=>by
  cases s<;>try exact(show False from h).elim
  .rename_i g c;exact⟨.v (.func (.func g) #[] (ag.bJ c).toArray),_,rfl,rfl,h,bY _⟩
  .exact⟨_,_,rfl,rfl,h,bY _⟩
 | .p,_,f,s,F,K,h,bY=>by
  cases s<;>try exact(show False from h).elim
  exact⟨_,_,rfl,rfl,h,bY _⟩
 | .f,_,f,s,F,K,h,bY=>by
  cases s<;>try exact(show False from h).elim
  exact⟨_,_,rfl,rfl,h,bY _ _⟩
 | .ic,_,f,s,F,K,h,bY=>by
  cases s<;>try exact(show False from h).elim
  .rename_i x;exact⟨.ic (some x),_,rfl,rfl,h,bY (some x)⟩
  .exact⟨_,_,rfl,rfl,h,bY _⟩
 | .ws n,_,f,s,F,K,h,bY=>by
  cases s<;>try exact(show False from h).elim
  rename_i m x
  simp only[Mo] at h;split at h
  .rename_i ah;subst ah;exact⟨_,_,rfl,rfl,h,bY x⟩
  .exact h.elim
 | .dz l,_,f,s,F,K,h,bY=>by
  cases s<;>try exact(show False from h).elim
  obtain⟨cE,fk,aa,ad,an,aJ⟩:=Ek l f _ F _ h bY;exact⟨.dz cE,fk,by simp only[ag.val,ad],by simp only[ag.cells,ad],an,aJ⟩
 | .jC l,_,f,s,F,K,h,bY=>by
  cases s<;>try exact(show False from h).elim
  obtain⟨cE,fk,aa,ad,an,aJ⟩:=Ek l f _ F _ h bY;exact⟨.jC cE,fk,by simp only[ag.val,aa],by simp only[ag.cells,aa],an,aJ⟩
theorem Ek:∀(l:List fp) {R:Type} (f:y1 l R) (s:List ag) (F:R->Prop) (K:List ag->R->Prop),y2 l f s F->Eh l f K ->
 ∃cE r,ag.bJ cE=ag.bJ s/\ag.gL cE=ag.gL s/\F r/\K cE r
 | [],_,f,[],F,K,h,bY=>⟨[],f,rfl,rfl,h,bY⟩
 | t::l,_,f,s::r,F,K,h,bY=>by
  obtain⟨s1,g,aa,ad,an,aJ⟩:=axm t f s _ _ h bY;obtain⟨s2,x,aR,bj,bU,bR⟩:=Ek l g r F _ an aJ;exact⟨s1::s2,x,by simp only[ag.bJ,aa,aR],by simp only[ag.gL,ad,bj],bU,bR⟩
 | [],_,f,s::r,F,K,h,bY=>(show False from h).elim
 | t::l,_,f,[],F,K,h,bY=>(show False from h).elim
end
theorem Mu {n:Nat}{e:Env}{a:Act}(g:Good n e a):∀(l:List (Nat×fp)) (K:List ag->Prop),Bg n e l K ->
 ∃r,K r/\∀fk,ag.bJ fk=ag.bJ r->Good n (y4 l fk) a
 | [],K,h=>⟨[],h,λfk _=>⟨g.size,λt s bG aV=>by cases fk<;>simp[y4,emp] at aV⟩⟩
 | (t,ty)::l,K,h=>by
  simp only[Bg] at h;split at h
  .rename_i s aV
   split at aV
   .rename_i bG
    obtain⟨r,ah,aQ⟩:=Mu g l _ h;refine⟨s::r,ah,λfk b0=>?_⟩;cases fk with
    | nil=>simp[ag.bJ] at b0
    | cons cE fk =>
     simp only[ag.bJ,List.cons.injEq] at b0;refine⟨g.size,λu x hu ai=>?_⟩;simp only[y4,put] at ai;by_cases aH:u=t
     .subst aH;rw[aDr rfl] at ai;cases ai;rw[g.has u s hu aV,b0.1]
     .rw[aDq aH] at ai;exact(aQ fk b0.2).has u x hu ai
   .cases aV
  .exact h.elim
theorem put_defers (a:Act)(d:Option Nat)(v:Value):(a.put d v).defers=a.defers:=by cases d<;>rfl
theorem ae4 {ro:Option Nat}{mm:Nat}{P:Program}{n:Nat}{all:Array Oper}{K:Env->ak->Prop}{Q:Exit->Act->World->Prop}:∀(l:List Oper) (e:Env) (h:ak) (a:Act) (w:World),Mq P n all l e h K->Good n e a->e8 h w ->
 (∀cc af eh cv,K cc af->Good n cc eh->eh.defers=a.defers->e8 af cv->e5 h af w cv->Q .normal eh cv)->wpListIn (nZ ro) mm P all Q l a w
 | [],e,h,a,w,ah,g,c,fI=>fI e h a w ah g rfl c (e5.refl _ _)
 | o::l,e,h,a,w,ah,g,c,fI=>by
  simp only[Mq,ae5] at ah;have xg:=ae6 (ro:=ro) (mm:=mm) (next:=wpListIn (nZ ro) mm P all Q l) (Q:=Q) ah g c λr af cv gM cr bw =>
   ae4 l _ _ _ _ gM (g.put o.dst r) cr λxh hQ SX SY q1 aI xi bb bH=>fI xh hQ SX SY q1 aI (xi.trans (put_defers _ _ _)) bb (bw.trans bH)
  unfold wpListIn;split
  .rename_i hw;rw[aDr hw] at xg;exact xg
  .rename_i hw;rw[aDq hw] at xg;exact xg
theorem axn {F:Fence}{mm:Nat}{P:Program}{Q:Exit->Act->World->Prop}{a:Act}{w:World}{c:Code}(I:Act->World->Nat->Prop){m:Nat}(axo:I a w m)
 (round:∀a w m,I a w m->c.wpIn F mm P (Exit.then (λeh cv=>∃np,np<m/\I eh cv np) Q) a w):(Code.loop c).wpIn F mm P Q a w:=by
 intro b k cs axp ar aQ;have key:∀m a w,I a w m->∃e eh cv,Q e eh cv/\ArrivesIn (Machine.fenced P F) P (lone (b.atR a (.code c::.inLoop c::k)) cs w) b k cs e eh cv:=by
  intro m
  induction m using Nat.strongRecOn with
  | _ m dI =>
   intro a w lj;obtain⟨e,y5,y6,aj,y7⟩:=round a w m lj b (.inLoop c::k) cs axp ar aQ;cases e with
   | normal =>
    obtain⟨np,cl,SZ⟩:=aj;obtain⟨axq,axr,axs,axt,axu⟩:=dI np cl y5 y6 SZ;exact⟨axq,axr,axs,axt,.of_steps (StepsIn.trans y7 (.one (fenced_calm ar aQ rfl) stepR_inLoop)) axu⟩
   | exit id=>exact⟨_,y5,y6,aj,.pass (x:= .inLoop c) rfl (λ_ _=> .inl (by simp)) y7⟩
   | goto l=>exact⟨_,y5,y6,aj,.pass (x:= .inLoop c) rfl (λ_ _=> .inl (by simp)) y7⟩
   | ret=>exact⟨_,y5,y6,aj,.pass (x:= .inLoop c) rfl (λ_ _=> .inl (by simp)) y7⟩
   | panic eX=>exact⟨_,y5,y6,aj,.pass (x:= .inLoop c) rfl (λ_ _=> .inl (by simp)) y7⟩
   | outgrown=>exact⟨_,y5,y6,aj,.pass (x:= .inLoop c) rfl (λ_ _=> .inl (by simp)) y7⟩
 obtain⟨e,eh,cv,aj,y7⟩:=key _ a w axo;exact⟨e,eh,cv,aj,.of_steps (.one (fenced_calm ar aQ rfl) stepR_loop) y7⟩
def rZ (B:Nat)(c9:List Deferred)(h:ak)(w:World):Prop :=
 B<=w.heap.size/\∃b8:List Nat,c9=b8.map (λb=>{ target:= .collected b,args:=#[] })/\b8.Nodup/\∀b∈b8,B<=b/\h b=none/\w.heap[b]? =some (.deferred (some []))
theorem rZ.grow {B:Nat}{c9:List Deferred}{h af:ak}{w cv:World}(m:rZ B c9 h w)(g:e5 h af w cv):rZ B c9 af cv:=by
 obtain⟨dC,b8,e,ja,ar⟩:=m;refine⟨aE_ dC g.size,b8,e,ja,λb hY=>?_⟩;obtain⟨h0,aa,ad⟩:=ar b hY;obtain⟨an,aJ⟩:=g.rest b aa (aFf.1 ad).1;exact⟨h0,an,aJ.trans ad⟩
def Mv (B:Nat)(n:Nat)(Q:qW)(h:ak)(w:World):Exit->Act->World->Prop:=λx eh cv=>∃cc af,Q x cc af/\Good n cc eh/\rZ B eh.defers af cv/\e8 af cv/\e5 h af w cv
theorem Mv.mono {B:Nat}{n:Nat}{Q nY:qW}{h aa:ak}{w ji:World}(g:e5 h aa w ji)(aj:∀x e af,Q x e af->nY x e af){x:Exit}{a:Act}{cv:World}(hm:Mv B n Q aa ji x a cv):Mv B n nY h w x a cv :=
 let ⟨cc,af,aa,ad,ah,an,aJ⟩:=hm;⟨cc,af,aj _ _ _ aa,ad,ah,an,g.trans aJ⟩
theorem e8.hy {h:ak}{w:World}(c:e8 h w){l:Nat}{o iF:Obj}(aT:h l=some o):e8 (bD h l iF) (w.putObj l iF):=by
 intro b x ai;by_cases e:b=l
 .subst e;rw[eC] at ai;cases ai;exact World.putObj_heap_same (c.lt aT)
 .rw[cu _ _ e] at ai;rw[World.putObj_heap_other e];exact c b x ai
theorem e5.hy (h:ak)(w:World){l:Nat}{o iF:Obj}(aT:h l=some o):e5 h (bD h l iF) w (w.putObj l iF):=by
 refine⟨rfl,rfl,rfl,by simp,λb ar _=>?_⟩;have e:b≠l:=by intro e;subst e;rw[aT] at ar;cases ar
 exact⟨by rw[cu _ _ e];exact ar,World.putObj_heap_other e⟩
theorem e8.more {h:ak}{w:World}(c:e8 h w)(o:Obj):e8 h (w.alloc o):=λb x ai=>by
 rw[Below.heap_alloc _ _ _ (c.lt ai)];exact c b x ai
theorem e8.S0 {h:ak}{w:World}(c:e8 h w){b:Nat}(ar:w.heap.size<=b):h b=none:=by
 cases e:h b with
 | none=>rfl
 | some o=>have:=c.lt e;omega
theorem rZ.nil {B:Nat}(h:ak){w:World}(dC:B<=w.heap.size):rZ B [] h w:=⟨dC,[],rfl,aE7,λ_ ar=>by cases ar⟩
theorem S1:∀(l:List ag),(ag.bJ l).length=l.length
 | []=>rfl
 | x::l=>by simp[ag.bJ,S1 l]
theorem ae7 {n:Nat}:∀(cN:List Nat) (l:List ag) (e:Env) (a:Act),Good n e a->Good n (Ms cN l e) { a with tmps:=(cN.zip (ag.bJ l)).foldl (λtmps (x:Nat×Value)=>tmps.setIfInBounds x.1 x.2) a.tmps }
 | [],l,e,a,g=>by cases l<;>exact g
 | t::cN,[],e,a,g=>g
 | t::cN,s::l,e,a,g=>by
  have:=ae7 cN l _ _ (g.put (some t) s);exact this
theorem axv {P:Program}{n:Nat}{ro:Option Nat}{h:ak}{w:World}(c:e8 h w)(S2:ae2 ro h)(fn:FuncId)(a:Act){B:Nat}(mk:rZ B a.defers h w)(cN:Array Tmp)(x y:Code) :
 ∃(l:Nat) (mark:List Deferred) (r:Loop) (ji:World),(Instr.enterLoop fn a.tmps cN x y ro).run P w= .ok (l,mark) ji/\h l=none/\e8 (bD h l (eA r)) ji/\e5 h (bD h l (eA r)) w ji /\
  rZ B (mark++a.defers) (bD h l (eA r)) ji/\r.params=cN/\r.assign=x/\r.body=y/\r.tmps=a.tmps:=by
 cases ro with
 | none =>
  have aS:=c.more (.deferred (some []));have aH:(w.alloc (.deferred (some []))).heap.size=w.heap.size+1:=by simp
  have aT:h (w.heap.size+1)=none:=c.S0 (by omega);have qd:e5 h h w (w.alloc (.deferred (some []))):=⟨rfl,rfl,rfl,by simp,λb ar cl=>⟨ar,Below.heap_alloc _ _ _ cl⟩⟩;have aY:=aS.alloc (eA { state:= .ready,pending:=none,fn,tmps:=a.tmps,params:=cN,assign:=x,body:=y,defers:=w.heap.size });have pE:=e5.alloc h (w.alloc (.deferred (some []))) (eA { state:= .ready,pending:=none,fn,tmps:=a.tmps,params:=cN,assign:=x,body:=y,defers:=w.heap.size });rw[aH] at aY pE;refine⟨_,_,_,_,run_enterLoop_outer fn a.tmps cN x y,aT,aY,qd.trans pE,?_,rfl,rfl,rfl,rfl⟩;obtain⟨dC,b8,e,ja,ar⟩:=mk.grow (qd.trans pE);refine⟨dC,w.heap.size::b8,by rw[e];rfl,aEL.2 ⟨λhm=>?_,ja⟩,λb hY=>?_⟩
  .obtain⟨_,axw,dM,_,kY⟩:=mk;have eq:axw=b8:=by
    have:=dM.symm.trans e;have ad:=congrArg (List.map λd:Deferred=>d.target) this;simp only[aEH] at ad;have inj:∀(a b:List Nat),List.map ((λd:Deferred=>d.target) ∘ λb=>({ target:= .collected b,args:=#[] }:Deferred)) a=List.map ((λd:Deferred=>d.target) ∘ λb=>({ target:= .collected b,args:=#[] }:Deferred)) b->a=b:=by
     intro a
     induction a with
     | nil=>intro b h;cases b with
      | nil=>rfl
      | cons _ _=>simp at h
     | cons x a dI=>intro b h;cases b with
      | nil=>simp at h
      | cons y b=>simp at h;rw[h.1,dI b (by simpa using h.2)]
    exact inj _ _ ad
   subst eq;have:=(kY _ hm).2.2;simp at this
  .rcases aEr.1 hY with a_|a_
   .subst a_;refine⟨mk.1,by rw[cu _ _ (by omega)];exact c.S0 (aDt _),?_⟩;rw[Below.heap_alloc _ _ _ (by simp)];exact World.alloc_heap_new _ _
   .exact ar b a_
 | some y8 =>
  obtain⟨iD,axx⟩:=S2;exact⟨_,_,{ state:= .ready,pending:=none,fn,tmps:=a.tmps,params:=cN,assign:=x,body:=y,defers:=iD.defers },_,run_enterLoop_inner (c y8 _ axx) fn a.tmps cN x y,c.S0 (aDt _),c.alloc _,e5.alloc _ _ _,mk.grow (e5.alloc _ _ _),rfl,rfl,rfl,rfl⟩
theorem axy {l:Nat}{r:Loop}{Q:qW}{e:Env}{HZ:List Nat×Bool}{h:ak}(aj:SV l r Q e HZ h) :
 (h l=some (eA r)/\Q .normal e (bD h l (im r none)))∨(h l=some (o4 r .ret)/\Q .ret e (bD h l (im r (some .ret))))∨∃id,h l=some (o4 r (.exit id))/\Q (.exit id) e (bD h l (im r (some (.exit id)))):=by
 obtain⟨ids,b⟩:=HZ;unfold SV at aj;simp only at aj
 induction ids with
 | nil =>
  simp only[SU] at aj;cases b with
  | true=>
   rcases aj with aj|aj
   .exact .inr (.inl aj)
   .exact .inl aj
  | false=>exact .inl aj
 | cons id ids dI =>
  rcases aj with aj|aj
  .exact .inr (.inr ⟨id,aj⟩)
  .exact dI aj
theorem axz {P:Program}{n:Nat}{A:a6}(hm:P.follows .mixedOrders=true):∀(c:Code) (B:Nat) (ro:Option Nat) (mm:Nat) (Q:qW) (e:Env) (h:ak),m7 P n A ro c Q e h->∀(a:Act) (w:World),Good n e a->rZ B a.defers h w->e8 h w ->
 c.wpIn (nZ ro) mm P (Mv B n Q h w) a w:=by
 intro c
 induction c with
 | skip=>exact λB ro mm Q e h ah a w g mk jP=>wpIn_skip ⟨e,h,ah,g,mk,jP,e5.refl _ _⟩
 | region id ops draw =>
  intro B ro mm Q e h ah a w g mk jP;cases draw with
  | false=>exact wpIn_region_list (ae4 _ _ _ _ _ ah g jP λcc af eh cv q1 aI xi bb bH=>⟨cc,af,q1,aI,xi▸mk.grow bH,bb,bH⟩)
  | true =>
   simp only[m7] at ah;split at ah
   .rename_i axA
    exact axB hm axA ah g jP λcc af eh cv q1 aI xi bb bH=>⟨cc,af,q1,aI,xi▸mk.grow bH,bb,bH⟩
   .exact ah.elim
 | seq x y Bh Bi =>
  intro B ro mm Q e h ah a w g mk jP;refine wpIn_seq ?_;simp only[m7] at ah;split at ah
  .refine Code.wpIn_mono ?_ (Bh B ro mm _ e h ah a w g mk jP);rintro tc eh cv ⟨cc,af,aj,bw,mk',oE,qZ⟩;cases tc with
   | normal=>exact Code.wpIn_mono (λ_ _ _ S3=>S3.mono qZ λ_ _ _ b2=>b2) (Bi B ro mm Q cc af aj eh cv bw mk' oE)
   | _=>exact⟨cc,af,aj,bw,mk',oE,qZ⟩
  .rename_i live _
   obtain⟨J,axC,axD⟩:=ah;refine Code.wpIn_mono ?_ (Bh B ro mm _ e h axC a w g mk jP);rintro tc eh cv ⟨cc,af,aj,bw,mk',oE,qZ⟩;cases tc with
   | normal =>
    obtain⟨aZ,b0,S4⟩:=Mu bw _ _ aj;obtain⟨tW,I,aa,_,an,aJ⟩:=Ek _ J aZ _ _ b0 axD;exact Code.wpIn_mono (λ_ _ _ S3=>S3.mono qZ λ_ _ _ b2=>b2) (Bi B ro mm Q _ af (aJ af an) eh cv (S4 tW aa) mk' oE)
   | _=>exact⟨cc,af,aj,bw,mk',oE,qZ⟩
 | cond c x y Bh Bi =>
  intro B ro mm Q e h ah a w g mk jP;simp only[m7] at ah;split at ah
  .rename_i t
   split at ah
   .rename_i b ar
    split at ar
    .rename_i bG
     have he:a.eval (.tmp t)= .bool b:=g.has t _ bG ar;have aP:=ae8 ar;cases b with
     | true =>
      rw[axc,aP] at ah;exact wpIn_cond_true he (Bh B ro mm Q e h ah a w g mk jP)
     | false =>
      rw[axd,aP] at ah;exact wpIn_cond_false he (Bi B ro mm Q e h ah a w g mk jP)
    .cases ar
   .exact ah.elim
  .rename_i b
   cases b with
   | true=>exact wpIn_cond_true rfl (Bh B ro mm Q e h ah a w g mk jP)
   | false=>exact wpIn_cond_false rfl (Bi B ro mm Q e h ah a w g mk jP)
  .exact ah.elim
 | block id c dI =>
  intro B ro mm Q e h ah a w g mk jP;refine wpIn_block (Code.wpIn_mono ?_ (dI B ro mm _ e h ah a w g mk jP));rintro tc eh cv ⟨cc,af,aj,bw,mk',oE,qZ⟩;cases tc with
  | exit AA =>
   simp only[ae1] at aj;simp only[Exit.inBlock];split at aj
   .rename_i hO;rw[aDr hO];exact⟨cc,af,aj,bw,mk',oE,qZ⟩
   .rename_i hO;rw[aDq hO];exact⟨cc,af,aj,bw,mk',oE,qZ⟩
  | _=>exact⟨cc,af,aj,bw,mk',oE,qZ⟩
 | exit id=>exact λB ro mm Q e h ah a w g mk jP=>wpIn_exit ⟨e,h,ah,g,mk,jP,e5.refl _ _⟩
 | ret=>exact λB ro mm Q e h ah a w g mk jP=>wpIn_ret ⟨e,h,ah,g,mk,jP,e5.refl _ _⟩
 | loop c dI =>
  intro B ro mm Q e h ah a w g mk jP;simp only[m7] at ah;split at ah
  .rename_i live _
   obtain⟨J,axE,Mw⟩:=ah;obtain⟨aZ,b0,S4⟩:=Mu g _ _ axE;obtain⟨tW,I,aa,_,⟨m,an⟩,aJ⟩:=Ek _ J aZ _ _ b0 Mw;refine axn (λeh cv np=>∃tW I af,I af np/\(∀h m,I h m->m7 P n A ro c (Mp (λcc af=>Bg n cc live λtW=>y2 (y3 live) J tW λSS=>∃np,np<m/\SS af np) Q) (y4 live tW) h) /\
    Good n (y4 live tW) eh/\rZ B eh.defers af cv/\e8 af cv/\e5 h af w cv) (m:=m) ⟨tW,I,h,an,aJ,S4 tW aa,mk,jP,e5.refl _ _⟩ ?_
   rintro y5 y6 m₁ ⟨aC_,aDa,axF,SZ,axG,axH,axI,axJ,ae9⟩;refine Code.wpIn_mono ?_ (dI B ro mm _ _ _ (axG axF m₁ SZ) y5 y6 axH axI axJ);rintro tc eh cv ⟨cc,af,aj,bw,mk',oE,qZ⟩;cases tc with
   | normal =>
    obtain⟨aeP,axK,axL⟩:=Mu bw _ _ aj;obtain⟨ae_,axM,q1,_,⟨uL,cl,bb⟩,bH⟩:=Ek _ J aeP _ _ axK Mw;exact⟨uL,cl,ae_,axM,af,bb,bH,axL ae_ q1,mk',oE,ae9.trans qZ⟩
   | _=>exact⟨cc,af,aj,bw,mk',oE,ae9.trans qZ⟩
  .exact ah.elim
 | rangeFunc f cN x y Bh Bi =>
  intro B ro mm Q e h ah a w g mk jP;simp only[m7] at ah;split at ah
  .rename_i qY _
   split at ah
   .rename_i hlen
    obtain⟨s,⟨S2,ah⟩,aV⟩:=kj ah;refine wpIn_rangeFunc λfn _=>?_;obtain⟨l,mark,r,ji,mg,aT,aS,g1,S5,aH,a_,b7,b6⟩:=axv (P:=P) (n:=n) jP S2 fn a mk cN x y;have Bj:=ah r l aT (Mt _ _ λargs sG af nY k0 axN cv oE=>by
     refine⟨{ r with state:= .ready,pending:=none },oE l _ k0,by rw[aH,S1,sG,hlen],?_⟩;refine roundIn_of_wpIn trivial ?_;simp only[aH,a_,b7,b6];have Au:Good n (Ms cN.toList args e) { tmps:=(cN.zip (ag.bJ args).toArray).foldl (λtmps (x:Nat×Value)=>tmps.setIfInBounds x.1 x.2) a.tmps,defers:=[] }:=by
      have:=ae7 cN.toList args e { tmps:=a.tmps,defers:=[] } ⟨g.size,g.has⟩;have axO:(cN.zip (ag.bJ args).toArray).foldl (λtmps (x:Nat×Value)=>tmps.setIfInBounds x.1 x.2) a.tmps=(cN.toList.zip (ag.bJ args)).foldl (λtmps (x:Nat×Value)=>tmps.setIfInBounds x.1 x.2) a.tmps:=by
       rw[<-Array.foldl_toList];simp
      rw[axO];exact this
     refine Code.wpIn_mono ?_ (Bh 0 (some l) 0 _ _ af axN _ cv Au (rZ.nil _ (aDM _)) oE);rintro tc aN h6 ⟨oS,ad,aj,g2,axP,afa,axQ⟩;cases tc with
     | normal =>
      obtain⟨nM,axR⟩:=aj;refine⟨_,run_beginRound (afa l _ nM) rfl,?_⟩;have cB:=afa.hy (iF:=dn r) nM;have g3:=e5.hy ad h6 (iF:=dn r) nM;refine Code.wpIn_mono ?_ (Bi 0 (some l) 0 _ oS _ axR aN _ g2 (axP.grow g3) cB);rintro axS a4 uI ⟨Jg,aJ,oL,g4,_,El,axT⟩;have Bk:=(axQ.trans g3).trans axT;cases axS with
      | normal=>exact⟨_,_,run_endRound none (El l _ oL.1),_,_,rfl,oL.2,El.hy oL.1,Bk.trans (e5.hy _ _ oL.1)⟩
      | ret=>exact⟨_,_,run_endRound (some .ret) (El l _ oL.1),_,_,rfl,oL.2,El.hy oL.1,Bk.trans (e5.hy _ _ oL.1)⟩
      | exit id=>exact⟨_,_,run_endRound (some (.exit id)) (El l _ oL.1),_,_,rfl,oL.2,El.hy oL.1,Bk.trans (e5.hy _ _ oL.1)⟩
      | _=>exact oL.elim
     | _=>exact aj.elim)
    unfold rj at Bj;split at Bj
    .rename_i Em first cs s6
     obtain⟨rfl,Bj⟩:=Bj;have Ac:([lM l]++cs.toList).toArray=#[lM l]++cs:=by apply aD6.1;simp
     have qx:=Bj.2 ji aS;rw[Ac] at qx;refine⟨l,mark,ji,{ target:= .fn (.func Em) cs,args:=#[lM l] },ji,Em,#[lM l]++cs,ji,mg,?_,λ_ _=>trivial,?_,S6 ro,afb (qx.mono ?_)⟩
     .have he:=aV a g;rw[s6] at he;simp[resolve,rangeCall,he,Deferred.ofValue,lM];rfl
     .simp only[invoke,S7 Bj.1]
     .rintro gG sm ⟨v,an,rfl,aj,En,Mx⟩;have Bk:=g1.trans Mx;rcases axy aj with ⟨q0,fI⟩|⟨q0,fI⟩|⟨id,q0,fI⟩
      .exact⟨none,_,run_endLoop (En l _ q0) (by simp),e,_,fI,⟨g.size,g.has⟩,(S5.grow Mx).grow (e5.hy _ _ q0),En.hy q0,Bk.trans (e5.hy _ _ q0)⟩
      .exact⟨some .ret,_,run_endLoop (En l _ q0) (by simp),wpIn_ret ⟨e,_,fI,⟨g.size,g.has⟩,(S5.grow Mx).grow (e5.hy _ _ q0),En.hy q0,Bk.trans (e5.hy _ _ q0)⟩⟩
      .exact⟨some (.exit id),_,run_endLoop (En l _ q0) (by simp),wpIn_exit ⟨e,_,fI,⟨g.size,g.has⟩,(S5.grow Mx).grow (e5.hy _ _ q0),En.hy q0,Bk.trans (e5.hy _ _ q0)⟩⟩
    .exact Bj.elim
   .exact ah.elim
  .exact ah.elim
 | scope c _=>exact λB ro mm Q e h ah=>ah.elim
 | label l=>exact λB ro mm Q e h ah=>ah.elim
 | goto l=>exact λB ro mm Q e h ah=>ah.elim
 | refuse s=>exact λB ro mm Q e h ah=>ah.elim
def Bl (P:Program)(n:Nat)(e:Env)(h:ak):List ResultVar->(List ag->Prop)->Prop
 | [],K=>K []
 | .tmp t::l,K=>match (if t<n then e t else none) with
  | some s=>Bl P n e h l λr=>K (s::r)
  | none=>False
 | .cell t T::l,K=>match (if t<n then e t else none) with
  | some (.p q)=>y9 P T h q λs=>Bl P n e h l λr=>K (s::r)
  | _=>False
def S8 (P:Program)(n:Nat)(rs:Array ResultVar)(Q:Value->ak->Prop):qW:=λx e h =>
 match x with
 | .normal| .ret=>Bl P n e h rs.toList λr=>match r with|[s]=>Q s.val h|r=>Q (.tuple (ag.bJ r).toArray) h
 | _=>False
def Eo:Nat->List ag->Env
 | _,[]=>emp
 | i,s::l=>put (Eo (i+1) l) i s
theorem afc:∀(l:List ag) (i t:Nat) (s:ag),Eo i l t=some s->i<=t/\l[t-i]? =some s
 | [],i,t,s,h=>by simp[Eo,emp] at h
 | x::l,i,t,s,h=>by
  simp only[Eo,put] at h;by_cases aH:t=i
  .subst aH;simp at h ⊢;exact h
  .rw[aDq aH] at h;obtain⟨aa,ad⟩:=afc l (i+1) t s h;refine⟨by omega,?_⟩;rw[show t-i=(t-(i+1))+1 by omega];simpa using ad
theorem afd:∀(l:List ag) (i:Nat) (s:ag),l[i]? =some s->(ag.bJ l)[i]? =some s.val
 | [],i,s,h=>by simp at h
 | x::l,0,s,h=>by simp at h;subst h;rfl
 | x::l,i+1,s,h=>by simpa [ag.bJ] using afd l i s (by simpa using h)
theorem S9 {P:Program}{n:Nat}{e:Env}{a:Act}(g:Good n e a){h:ak}{w:World}(c:e8 h w):∀(l:List ResultVar) (K:List ag->Prop),Bl P n e h l K ->
 ∃r,K r/\(l.mapM λ(x:ResultVar)=>(match x with| .tmp t=>(pure (a.tmps.getD t undef):Sem Value)| .cell b t=>(do loadVar t (<-asAddr (a.tmps.getD b undef))))).run P w= .ok (ag.bJ r) w
 | [],K,ah=>⟨[],ah,by simp[ag.bJ]⟩
 | .tmp t::l,K,ah=>by
  simp only[Bl] at ah;split at ah
  .rename_i s aV
   split at aV
   .rename_i bG
    obtain⟨r,ah,aQ⟩:=S9 g c l _ ah;refine⟨s::r,ah,?_⟩;simp only[List.mapM_cons,aDv,aDG,aDu,aQ,ag.bJ,g.has t s bG aV]
   .cases aV
  .exact ah.elim
 | .cell t T::l,K,ah=>by
  simp only[Bl] at ah;split at ah
  .rename_i q aV
   split at aV
   .rename_i bG
    obtain⟨s,ah,kB,aa,ad⟩:=afe ah;obtain⟨r,ah,aQ⟩:=S9 g c l _ ah;refine⟨s::r,ah,?_⟩;have tt:(asAddr (a.tmps.getD t undef)).run P w= .ok q.addr w:=by rw[g.has t _ bG aV];rfl
    simp only[List.mapM_cons,aDv,tt,aDG,aDu,aff c aa ad kB,aQ,ag.bJ]
   .cases aV
  .exact ah.elim
theorem afg {P:Program}{n:Nat}{e:Env}{a:Act}(g:Good n e a){h:ak}{w:World}(c:e8 h w){fn:Func}{Q:Value->ak->Prop}{x:Exit}(ah:S8 P n fn.results Q x e h) :
 (x= .normal∨x= .ret)/\∃v,(results fn a.tmps).run P w= .ok v w/\Q v h:=by
 have ai:x= .normal∨x= .ret:=by
  cases x<;>first|exact .inl rfl|exact .inr rfl|exact(show False from ah).elim
 refine⟨ai,?_⟩;have gM:Bl P n e h fn.results.toList λr=>match r with|[s]=>Q s.val h|r=>Q (.tuple (ag.bJ r).toArray) h:=by
  rcases ai with rfl|rfl<;>exact ah
 obtain⟨r,ki,aQ⟩:=S9 g c _ _ gM;have axU:(fn.results.mapM λ(x:ResultVar)=>(match x with| .tmp t=>(pure (a.tmps.getD t undef):Sem Value)| .cell b t=>(do loadVar t (<-asAddr (a.tmps.getD b undef))))).run P w= .ok (ag.bJ r).toArray w:=by
  obtain⟨y8,x4⟩:∃l,fn.results=List.toArray l:=⟨fn.results.toList,by simp⟩;rw[x4] at aQ ⊢;rw[List.mapM_toArray];simp only[Sem.run_map,aQ,aDu]
 unfold results;simp only[aDv]
 erw [axU]
 simp only[aDu,aDG];cases r with
 | nil=>exact⟨_,rfl,ki⟩
 | cons s r =>
  cases r with
  | nil=>exact⟨_,rfl,ki⟩
  | cons s2 r=>exact⟨_,rfl,ki⟩
theorem afh {P:Program}{fn:Func}{tmps:Array Value}{R:Ending->World->Prop}{h:ak}:∀(c9:List Deferred) (l2:World) (h0:ak) (w:World),rZ l2.heap.size c9 h w->e8 h w->e5 h0 h l2 w ->
 (∀cv,e8 h cv->e5 h0 h l2 cv->∃v,(results fn tmps).run P cv= .ok v cv/\R (.returned v) cv)->LeavesInM (nZ none) 0 P fn tmps R c9 .returning w
 | [],l2,h0,w,_,c,g,aQ=>aQ w c g
 | d::c9,l2,h0,w,⟨dC,b8,e,ja,ar⟩,c,g,aQ=>by
  cases b8 with
  | nil=>cases e
  | cons b b8 =>
   simp only[aEs,List.cons.injEq] at e;obtain⟨rfl,rfl⟩:=e;obtain⟨gU,q1,aI⟩:=ar b aDH;have afi:=aEL.1 ja;refine⟨(λh=>by cases h),.inl ⟨b,_,rfl,run_takeDeferred aI,afh _ l2 h0 _ ⟨by simpa using dC,b8,rfl,afi.2,λx ai=>?_⟩ ?_ ?_ aQ⟩⟩
   .obtain⟨p0,ho,iz⟩:=ar x (aDI _ ai);have dA:x≠b:=λe=>afi.1 (e▸ai);exact⟨p0,ho,by rw[World.putObj_heap_other dA];exact iz⟩
   .intro x o ai
    have dA:x≠b:=λe=>by subst e;rw[q1] at ai;cases ai
    rw[World.putObj_heap_other dA];exact c x o ai
   .refine⟨g.os,g.tape,g.output,by simpa using g.size,λx ai cl=>?_⟩;have dA:x≠b:=by omega
    obtain⟨eD,fK⟩:=g.rest x ai cl;exact⟨eD,by rw[World.putObj_heap_other dA];exact fK⟩
theorem axV {P:Program}{f:FuncId}{fn:Func}{c:Code}(A:a6)(hm:P.follows .mixedOrders=true)(bc:P.funcs[f]? =some fn)(ar:fn.body=some c)(nb:u_ P f=true)
 (args:List ag) (aK:args.length<=fn.ntmps) {h:ak} {Q:Value->ak->Prop} (ah:m7 P fn.ntmps A none c (S8 P fn.ntmps fn.results Q) (Eo 0 args) h):o2 P f (ag.bJ args) h Q:=by
 refine⟨nb,λw jP=>(callsIn_of_wp_marks (F:=nZ none) (n:=0) bc ar trivial (Code.wpIn_mono ?_ (axz hm c w.heap.size none 0 _ _ h ah _ w ?_ (rZ.nil _ (aDt _)) jP))).calls (λ_ _ h=>by cases h)⟩
 .rintro x a cv ⟨cc,af,aj,bw,mk',oE,qZ⟩;have ai:=(afg bw oE aj).1;have aT:LeavesInM (nZ none) 0 P fn a.tmps (λe cv=>∃v af,e= .returned v/\Q v af/\e8 af cv/\e5 h af w cv) a.defers .returning cv:=by
   refine afh _ w h cv mk' oE qZ λh6 aY g2=>?_;obtain⟨_,v,aQ,fI⟩:=afg bw aY aj;exact⟨v,aQ,v,af,rfl,fI,aY,g2⟩
  rcases ai with rfl|rfl<;>exact aT
 .refine⟨by simp[S1];omega,λt s bG aV=>?_⟩;obtain⟨_,ad⟩:=afc _ _ _ _ aV;have an:=afd _ _ _ ad;simp only[aFm] at an;simp only[Array.getD_eq_getD_getElem?];rw[aFG (by
   have:=(aES.1 an).1;simpa using this)]
  simp[an]
def Dn (P:Program)(fn:Func)(A:a6)(Q:Value->ak->Prop)(args:List ag)(h:ak):Prop :=
 match fn.body with
 | some c=>m7 P fn.ntmps A none c (S8 P fn.ntmps fn.results Q) (Eo 0 args) h
 | none=>False
theorem K9 {P:Program}{f:FuncId}{fn:Func}(A:a6)(hm:P.follows .mixedOrders=true)(bc:P.funcs[f]? =some fn)(nb:u_ P f=true)
 (args:List ag) (aK:args.length<=fn.ntmps) {h:ak} {Q:Value->ak->Prop} (ah:Dn P fn A Q args h):o2 P f (ag.bJ args) h Q:=by
 unfold Dn at ah;split at ah
 .rename_i c a1
  exact axV A hm bc a1 nb args aK ah
 .exact ah.elim

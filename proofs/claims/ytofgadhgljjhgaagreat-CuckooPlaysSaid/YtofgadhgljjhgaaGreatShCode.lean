import Derived.Test.YtofgadhgljjhgaaGreatShDraw
import Derived.RangeFuncNested
namespace Go.cD
open Go Go.RowKit
mutual
def KQ:ff->Type->Type
 | .i _,R=>Int->R
 | .u,R=>UInt64->R
 | .b,R=>Bool->R
 | .p,R=>aD->R
 | .f,R=>FuncId->List af->R
 | .hM,R=>Option aD->R
 | .s,R=>ar->R
 | .str,R=>ByteArray->R
 | .m,R=>Option Nat->R
 | .ws n,R=>Vector UInt64 n->R
 | .dt l,R=>x3 l R
 | .ja l,R=>x3 l R
 | .v,R=>Value->R
def x3:List ff->Type->Type
 | [],R=>R
 | t::l,R=>KQ t (x3 l R)
end
mutual
def acI:(t:ff)->{R:Type}->KQ t R->(af->R->Prop)->Prop
 | .i k,_,f,K=>∀x:Int,K (.i k x) (f x)
 | .u,_,f,K=>∀x:UInt64,K (.u x) (f x)
 | .b,_,f,K=>∀x:Bool,K (.b x) (f x)
 | .p,_,f,K=>∀x:aD,K (.p x) (f x)
 | .f,_,f,K=>∀(g:FuncId) (c:List af),K (.f g c) (f g c)
 | .hM,_,f,K=>∀x:Option aD,K (.hM x) (f x)
 | .s,_,f,K=>∀x:ar,K (.s x) (f x)
 | .str,_,f,K=>∀x:ByteArray,K (.str x) (f x)
 | .m,_,f,K=>∀x:Option Nat,K (.m x) (f x)
 | .ws n,_,f,K=>∀x:Vector UInt64 n,K (.ws n x) (f x)
 | .dt l,_,f,K=>Db l f λr x=>K (.dt r) x
 | .ja l,_,f,K=>Db l f λr x=>K (.ja r) x
 | .v,_,f,K=>∀x:Value,K (.v x) (f x)
def Db:(l:List ff)->{R:Type}->x3 l R->(List af->R->Prop)->Prop
 | [],_,f,K=>K [] f
 | t::l,_,f,K=>acI t f λr g=>Db l g λrs x=>K (r::rs) x
end
mutual
def KR:(t:ff)->{R:Type}->KQ t R->af->(R->Prop)->Prop
 | .i k,_,f,.i hJ x,K=>if hJ=k then K (f x) else False
 | .u,_,f,.u x,K=>K (f x)
 | .b,_,f,.b x,K=>K (f x)
 | .p,_,f,.p x,K=>K (f x)
 | .f,_,f,.f g c,K=>K (f g c)
 | .hM,_,f,.hM x,K=>K (f x)
 | .hM,_,f,.p x,K=>K (f (some x))
 | .s,_,f,.s x,K=>K (f x)
 | .str,_,f,.str x,K=>K (f x)
 | .m,_,f,.m x,K=>K (f x)
 | .ws n,_,f,.ws m x,K=>if h:m=n then K (f (h▸x)) else False
 | .dt l,_,f,.dt r,K=>x4 l f r K
 | .ja l,_,f,.ja r,K=>x4 l f r K
 | .v,_,f,.v x,K=>K (f x)
 | .v,_,f,.f g c,K=>K (f (.func (.func g) #[] (af.bB c).toArray))
 | _,_,_,_,_=>False
def x4:(l:List ff)->{R:Type}->x3 l R->List af->(R->Prop)->Prop
 | [],_,f,[],K=>K f
 | t::l,_,f,r::rs,K=>KR t f r λg=>x4 l g rs K
 | _,_,_,_,_=>False
end
structure a6 where
 loops:List (Nat×List (Nat×ff))
 auj:List (Nat×List (Nat×ff))
 acJ:List (Nat×List Nat)
 auk:List (Nat×List ff):=[]
def Dc {α:Type}:List (Nat×α)->Nat->Option α
 | [],_=>none
 | (k,x)::l,i=>if k=i then some x else Dc l i
def v_:Code->Option Nat
 | .region i _ _=>some i
 | .seq a b=>(v_ a).or (v_ b)
 | .cond _ a b=>(v_ a).or (v_ b)
 | .block _ c=>v_ c
 | .loop c=>v_ c
 | .scope c=>v_ c
 | _=>none
def x5 (l:List (Nat×ff)):List ff:=l.map (·.2)
def Ac (n:Nat)(e:Env):List (Nat×ff)->(List af->Prop)->Prop
 | [],K=>K []
 | (t,_)::l,K=>match (if t<n then e t else none) with
  | some s=>Ac n e l λr=>K (s::r)
  | none=>False
def x6:List (Nat×ff)->List af->Env
 | (t,_)::l,s::r=>put (x6 l r) t s
 | _,_=>emp
abbrev qd:=Exit->Env->ak->Prop
def KS (next:Env->ak->Prop)(Q:qd):qd
 | .normal,e,h=>next e h
 | x,e,h=>Q x e h
def acK (id:Nat)(Q:qd):qd
 | .exit zt,e,h=>if zt=id then Q .normal e h else Q (.exit zt) e h
 | x,e,h=>Q x e h
def aul (n:Nat)(live:List (Nat×ff))(body:Env->ak->(Env->ak->Prop)->Prop)(e:Env)(h:ak):Prop :=
 ∃J:x3 (x5 live) (ak->Nat->Prop),(Ac n e live λbb=>x4 (x5 live) J bb λI=>∃m,I h m) /\
  Db (x5 live) J λbb I=>∀h m,I h m->body (x6 live bb) h λb4 ah=>Ac n b4 live λs8=>x4 (x5 live) J s8 λQ8=>∃nM,nM<m/\Q8 ah nM
def aum (n:Nat)(live:List (Nat×ff))(first:(Env->ak->Prop)->Prop)(rest:Env->ak->Prop):Prop :=
 ∃J:x3 (x5 live) (ak->Prop),(first λb4 ah=>Ac n b4 live λbb=>x4 (x5 live) J bb λI=>I ah) /\
  Db (x5 live) J λbb I=>∀h,I h->rest (x6 live bb) h
def KT (P:Program)(n:Nat)(all:Array Oper):List Oper->Env->ak->(Env->ak->Prop)->Prop
 | [],e,h,K=>K e h
 | o::l,e,h,K=>KU P n all o e h λb4 r ah=>KT P n all l (gW b4 o.dst r) ah K
def eD (r:Loop):Obj:= .loop { r with state:= .ready,pending:=none }
def dO (r:Loop):Obj:= .loop { r with state:= .busy,pending:=none }
def ps (r:Loop)(j:Code):Obj:= .loop { r with state:= .done,pending:=some j }
def ia (r:Loop)(j:Option Code):Obj:= .loop { r with state:= .exhausted,pending:=j }
def KV:List Nat->List af->Env->Env
 | t::cx,s::l,e=>KV cx l (put e t s)
 | _,_,e=>e
def aun (l:Nat)(r:Loop)(np:Value->ak->Prop):qd:=λx _ h =>
 match x with
 | .normal=>h l=some (dO r)/\np (.bool true) (bA h l (eD r))
 | .ret=>h l=some (dO r)/\np (.bool false) (bA h l (ps r .ret))
 | .exit id=>h l=some (dO r)/\np (.bool false) (bA h l (ps r (.exit id)))
 | _=>False
def uo:Code->List Nat×Bool
 | .seq x y=>let a:=uo x;let b:=uo y;(a.1++b.1.filter (λi=>!a.1.contains i),a.2||b.2)
 | .cond _ x y=>let a:=uo x;let b:=uo y;(a.1++b.1.filter (λi=>!a.1.contains i),a.2||b.2)
 | .block id c=>let a:=uo c;(a.1.filter (λi=>i != id),a.2)
 | .loop c=>uo c
 | .scope c=>uo c
 | .rangeFunc _ _ x y=>let a:=uo x;let b:=uo y;(a.1++b.1.filter (λi=>!a.1.contains i),a.2||b.2)
 | .exit id=>([id],false)
 | .ret=>([],true)
 | _=>([],false)
def Q9 (l:Nat)(r:Loop)(Q:qd)(e:Env)(h:ak):List Nat->Prop->Prop
 | [],X=>X
 | id::ids,X=>(h l=some (ps r (.exit id))/\Q (.exit id) e (bA h l (ia r (some (.exit id)))))∨Q9 l r Q e h ids X
def Q_ (l:Nat)(r:Loop)(Q:qd)(e:Env)(GL:List Nat×Bool)(h:ak):Prop :=
 Q9 l r Q e h GL.1 (match GL.2 with
  | true=>(h l=some (ps r .ret)/\Q .ret e (bA h l (ia r (some .ret))))∨(h l=some (eD r)/\Q .normal e (bA h l (ia r none)))
  | false=>h l=some (eD r)/\Q .normal e (bA h l (ia r none)))
def ry (P:Program)(x:Value)(args:List Value)(h:ak)(Q:Value->ak->Prop):Prop :=
 match x with
 | .func (.func g) first cs=>first=#[]/\oq P g (args++cs.toList) h Q
 | _=>False
def l0 (l:Nat):Value:= .func (.yield l) #[] #[]
def acL (ro:Option Nat)(h:ak):Prop :=
 match ro with
 | none=>True
 | some l=>∃r,h l=some (.loop r)
def auo (l:Nat)(r:Loop)(next:Env->ak->Prop):qd:=λx e h =>
 match x with
 | .normal=>h l=some (eD r)/\next e (bA h l (dO r))
 | _=>False
mutual
def acM:ff->(af->Prop)->Prop
 | .i k,K=>∀n:Int,K (.i k n)
 | .u,K=>∀x:UInt64,K (.u x)
 | .b,K=>∀x:Bool,K (.b x)
 | .p,K=>∀x:aD,K (.p x)
 | .f,K=>∀(g:FuncId) (c:List af),K (.f g c)
 | .hM,K=>∀x:Option aD,K (.hM x)
 | .s,K=>∀x:ar,K (.s x)
 | .str,K=>∀x:ByteArray,K (.str x)
 | .m,K=>∀x:Option Nat,K (.m x)
 | .ws n,K=>∀c:Vector UInt64 n,K (.ws n c)
 | .dt l,K=>GM l λr=>K (.dt r)
 | .ja l,K=>GM l λr=>K (.ja r)
 | .v,K=>∀x:Value,K (.v x)
def GM:List ff->(List af->Prop)->Prop
 | [],K=>K []
 | t::l,K=>acM t λr=>GM l λrs=>K (r::rs)
end
mutual
theorem aup:∀(t:ff) (K:af->Prop),(∀s,K s)->acM t K
 | .i k,K,h=>λ_=>h _
 | .u,K,h=>λ_=>h _
 | .b,K,h=>λ_=>h _
 | .p,K,h=>λ_=>h _
 | .f,K,h=>λ_ _=>h _
 | .hM,K,h=>λ_=>h _
 | .s,K,h=>λ_=>h _
 | .str,K,h=>λ_=>h _
 | .m,K,h=>λ_=>h _
 | .ws n,K,h=>λ_=>h _
 | .dt l,K,h=>KW l _ λ_ _=>h _
 | .ja l,K,h=>KW l _ λ_ _=>h _
 | .v,K,h=>λ_=>h _
theorem KW:∀(l:List ff) (K:List af->Prop),(∀r,r.length=l.length->K r)->GM l K
 | [],K,h=>h [] rfl
 | t::l,K,h=>aup t _ λs=>KW l _ λr aP=>h (s::r) (by simp[aP])
end
def mD (P:Program)(n:Nat)(A:a6):Option Nat->Code->qd->Env->ak->Prop
 | _,.skip,Q,e,h=>Q .normal e h
 | ro,.seq x y,Q,e,h=>match (v_ y).bind (Dc A.auj) with
  | none=>mD P n A ro x (KS (mD P n A ro y Q) Q) e h
  | some live=>aum n live (λnext=>mD P n A ro x (KS next Q) e h) (mD P n A ro y Q)
 | ro,.cond c x y,Q,e,h=>match c with
  | .tmp t=>match (if t<n then e t else none) with
   | some (.b b)=>aG b (mD P n A ro x Q (put e t (.b true)) h) (mD P n A ro y Q (put e t (.b false)) h)
   | _=>False
  | .const (.bool b)=>cond b (mD P n A ro x Q e h) (mD P n A ro y Q e h)
  | _=>False
 | ro,.block id c,Q,e,h=>mD P n A ro c (acK id Q) e h
 | _,.exit id,Q,e,h=>Q (.exit id) e h
 | _,.ret,Q,e,h=>Q .ret e h
 | _,.region id ops false,Q,e,h=>KT P n ops ops.toList e h (Q .normal)
 | _,.region id ops true,Q,e,h =>
  if Ra ops ((Dc A.acJ id).getD (List.range ops.size))=true then
   qe P n ops (Dd ops.toList []) [] ((Dc A.acJ id).getD (List.range ops.size)) e h (Q .normal) else False
 | ro,.loop c,Q,e,h=>match (v_ c).bind (Dc A.loops) with
  | some live=>aul n live (λe h next=>mD P n A ro c (KS next Q) e h) e h
  | none=>False
 | ro,.rangeFunc f cx x y,Q,e,h=>match (match cx.toList with|[]=>some []|t::_=>Dc A.auk t) with
  | some qf=>if qf.length=cx.size then hN n e f λs=>acL ro h/\∀(r:Loop) (l:Nat),h l=none ->
   (GM qf λargs=>∀(ah:ak) (np:Value->ak->Prop),ah l=some (eD r) ->
    mD P n A (some l) x (auo l r (mD P n A (some l) y (aun l r np))) (KV cx.toList args e) ah->m8 P l (af.bB args) ah np) ->
   ry P s.val [l0 l] (bA h l (eD r)) (λ_ an=>Q_ l r Q e (uo y) an) else False
  | none=>False
 | _,_,_,_,_=>False
mutual
theorem auq:∀(t:ff) {R:Type} (f:KQ t R) (s:af) (F:R->Prop) (K:af->R->Prop),KR t f s F->acI t f K->∃cX r,cX.val=s.val/\af.cells cX=af.cells s/\F r/\K cX r
 | .i k,_,f,s,F,K,h,bO=>by
  cases s<;>try exact(show False from h).elim
  rename_i hJ x
  simp only[KR] at h
  split at h
  .rename_i ag;subst ag;exact⟨_,_,rfl,rfl,h,bO x⟩
  .exact h.elim
 | .u,_,f,s,F,K,h,bO=>by
  cases s<;>try exact(show False from h).elim
  exact⟨_,_,rfl,rfl,h,bO _⟩
 | .b,_,f,s,F,K,h,bO=>by
  cases s<;>try exact(show False from h).elim
  exact⟨_,_,rfl,rfl,h,bO _⟩
 | .s,_,f,s,F,K,h,bO=>by
  cases s<;>try exact(show False from h).elim
  exact⟨_,_,rfl,rfl,h,bO _⟩
 | .str,_,f,s,F,K,h,bO=>by
  cases s<;>try exact(show False from h).elim
  exact⟨_,_,rfl,rfl,h,bO _⟩
 | .m,_,f,s,F,K,h,bO=>by
  cases s<;>try exact(show False from h).elim
  exact⟨_,_,rfl,rfl,h,bO _⟩
 | .v,_,f,s,F,K,h,bO=>by
  cases s<;>try exact(show False from h).elim
  .rename_i g c;exact⟨.v (.func (.func g) #[] (af.bB c).toArray),_,rfl,rfl,h,bO _⟩
  .exact⟨_,_,rfl,rfl,h,bO _⟩
 | .p,_,f,s,F,K,h,bO=>by
  cases s<;>try exact(show False from h).elim
  exact⟨_,_,rfl,rfl,h,bO _⟩
 | .f,_,f,s,F,K,h,bO=>by
  cases s<;>try exact(show False from h).elim
  exact⟨_,_,rfl,rfl,h,bO _ _⟩
 | .hM,_,f,s,F,K,h,bO=>by
  cases s<;>try exact(show False from h).elim
  .rename_i x;exact⟨.hM (some x),_,rfl,rfl,h,bO (some x)⟩
  .exact⟨_,_,rfl,rfl,h,bO _⟩
 | .ws n,_,f,s,F,K,h,bO=>by
  cases s<;>try exact(show False from h).elim
  rename_i m x
  simp only[KR] at h
  split at h
  .rename_i ag;subst ag;exact⟨_,_,rfl,rfl,h,bO x⟩
  .exact h.elim
 | .dt l,_,f,s,F,K,h,bO=>by
  cases s<;>try exact(show False from h).elim
  obtain⟨cX,e5,aa,ad,an,aK⟩:=De l f _ F _ h bO
  exact⟨.dt cX,e5,by simp only[af.val,ad],by simp only[af.cells,ad],an,aK⟩
 | .ja l,_,f,s,F,K,h,bO=>by
  cases s<;>try exact(show False from h).elim
  obtain⟨cX,e5,aa,ad,an,aK⟩:=De l f _ F _ h bO
  exact⟨.ja cX,e5,by simp only[af.val,aa],by simp only[af.cells,aa],an,aK⟩
theorem De:∀(l:List ff) {R:Type} (f:x3 l R) (s:List af) (F:R->Prop) (K:List af->R->Prop),x4 l f s F->Db l f K ->
 ∃cX r,af.bB cX=af.bB s/\af.gn cX=af.gn s/\F r/\K cX r
 | [],_,f,[],F,K,h,bO=>⟨[],f,rfl,rfl,h,bO⟩
 | t::l,_,f,s::r,F,K,h,bO=>by
  obtain⟨s1,g,aa,ad,an,aK⟩:=auq t f s _ _ h bO
  obtain⟨s2,x,aR,bp,b3,bW⟩:=De l g r F _ an aK
  exact⟨s1::s2,x,by simp only[af.bB,aa,aR],by simp only[af.gn,ad,bp],b3,bW⟩
 | [],_,f,s::r,F,K,h,bO=>(show False from h).elim
 | t::l,_,f,[],F,K,h,bO=>(show False from h).elim
end
theorem KX {n:Nat}{e:Env}{a:Act}(g:Good n e a):∀(l:List (Nat×ff)) (K:List af->Prop),Ac n e l K ->
 ∃r,K r/\∀e5,af.bB e5=af.bB r->Good n (x6 l e5) a
 | [],K,h=>⟨[],h,λe5 _=>⟨g.size,λt s bw aU=>by cases e5<;>simp[x6,emp] at aU⟩⟩
 | (t,ty)::l,K,h=>by
  simp only[Ac] at h
  split at h
  .rename_i s aU
   split at aU
   .rename_i bw
    obtain⟨r,ag,aP⟩:=KX g l _ h
    refine⟨s::r,ag,λe5 bQ=>?_⟩
    cases e5 with
    | nil=>simp[af.bB] at bQ
    | cons cX e5 =>
     simp only[af.bB,List.cons.injEq] at bQ
     refine⟨g.size,λu x hu ai=>?_⟩
     simp only[x6,put] at ai
     by_cases aF:u=t
     .subst aF
      rw[if_pos rfl] at ai;cases ai
      rw[g.has u s hu aU,bQ.1]
     .rw[if_neg aF] at ai
      exact(aP e5 bQ.2).has u x hu ai
   .cases aU
  .exact h.elim
theorem put_defers (a:Act)(d:Option Nat)(v:Value):(a.put d v).defers=a.defers:=by cases d<;>rfl
theorem acN {ro:Option Nat}{mm:Nat}{P:Program}{n:Nat}{all:Array Oper}{K:Env->ak->Prop}{Q:Exit->Act->World->Prop}:∀(l:List Oper) (e:Env) (h:ak) (a:Act) (w:World),KT P n all l e h K->Good n e a->eQ h w ->
 (∀b4 ah dT cg,K b4 ah->Good n b4 dT->dT.defers=a.defers->eQ ah cg->eI h ah w cg->Q .normal dT cg)->wpListIn (nq ro) mm P all Q l a w
 | [],e,h,a,w,ag,g,c,fI=>fI e h a w ag g rfl c (eI.refl _ _)
 | o::l,e,h,a,w,ag,g,c,fI=>by
  simp only[KT,acO] at ag
  have wa:=acP (ro:=ro) (mm:=mm) (next:=wpListIn (nq ro) mm P all Q l) (Q:=Q) ag g c λr ah cg gp cc bo =>
   acN l _ _ _ _ gp (g.put o.dst r) cc λwb hq Rb Rc q1 aJ wc bd bI=>fI wb hq Rb Rc q1 aJ (wc.trans (put_defers _ _ _)) bd (bo.trans bI)
  unfold wpListIn
  split
  .rename_i hw;rw[if_pos hw] at wa;exact wa
  .rename_i hw;rw[if_neg hw] at wa;exact wa
theorem aur {F:Fence}{mm:Nat}{P:Program}{Q:Exit->Act->World->Prop}{a:Act}{w:World}{c:Code}(I:Act->World->Nat->Prop){m:Nat}(aus:I a w m)
 (round:∀a w m,I a w m->c.wpIn F mm P (Exit.then (λdT cg=>∃nM,nM<m/\I dT cg nM) Q) a w):(Code.loop c).wpIn F mm P Q a w:=by
 intro b k cs aut au aP
 have key:∀m a w,I a w m->∃e dT cg,Q e dT cg/\ArrivesIn (Machine.fenced P F) P (lone (b.atR a (.code c::.inLoop c::k)) cs w) b k cs e dT cg:=by
  intro m
  induction m using Nat.strongRecOn with
  | _ m dK =>
   intro a w kP
   obtain⟨e,x7,x8,aj,x9⟩:=round a w m kP b (.inLoop c::k) cs aut au aP
   cases e with
   | normal =>
    obtain⟨nM,ca,Rd⟩:=aj
    obtain⟨auu,auv,auw,auy,auz⟩:=dK nM ca x7 x8 Rd
    exact⟨auu,auv,auw,auy,.of_steps (StepsIn.trans x9 (.one (fenced_calm au aP rfl) stepR_inLoop)) auz⟩
   | exit id=>exact⟨_,x7,x8,aj,.pass (x:= .inLoop c) rfl (λ_ _=> .inl (by simp)) x9⟩
   | goto l=>exact⟨_,x7,x8,aj,.pass (x:= .inLoop c) rfl (λ_ _=> .inl (by simp)) x9⟩
   | ret=>exact⟨_,x7,x8,aj,.pass (x:= .inLoop c) rfl (λ_ _=> .inl (by simp)) x9⟩
   | panic ey=>exact⟨_,x7,x8,aj,.pass (x:= .inLoop c) rfl (λ_ _=> .inl (by simp)) x9⟩
   | outgrown=>exact⟨_,x7,x8,aj,.pass (x:= .inLoop c) rfl (λ_ _=> .inl (by simp)) x9⟩
 obtain⟨e,dT,cg,aj,x9⟩:=key _ a w aus
 exact⟨e,dT,cg,aj,.of_steps (.one (fenced_calm au aP rfl) stepR_loop) x9⟩
def q9 (B:Nat)(cY:List Deferred)(h:ak)(w:World):Prop :=
 B<=w.heap.size/\∃b6:List Nat,cY=b6.map (λb=>{ target:= .collected b,args:=#[] })/\b6.Nodup/\∀b∈b6,B<=b/\h b=none/\w.heap[b]? =some (.deferred (some []))
theorem q9.grow {B:Nat}{cY:List Deferred}{h ah:ak}{w cg:World}(m:q9 B cY h w)(g:eI h ah w cg):q9 B cY ah cg:=by
 obtain⟨dh,b6,e,ir,au⟩:=m
 refine⟨Nat.le_trans dh g.size,b6,e,ir,λb hA=>?_⟩
 obtain⟨h0,aa,ad⟩:=au b hA
 obtain⟨an,aK⟩:=g.rest b aa (Array.getElem?_eq_some_iff.1 ad).1
 exact⟨h0,an,aK.trans ad⟩
def KY (B:Nat)(n:Nat)(Q:qd)(h:ak)(w:World):Exit->Act->World->Prop:=λx dT cg=>∃b4 ah,Q x b4 ah/\Good n b4 dT/\q9 B dT.defers ah cg/\eQ ah cg/\eI h ah w cg
theorem KY.mono {B:Nat}{n:Nat}{Q np:qd}{h aa:ak}{w lA:World}(g:eI h aa w lA)(aj:∀x e ah,Q x e ah->np x e ah){x:Exit}{a:Act}{cg:World}(hm:KY B n Q aa lA x a cg):KY B n np h w x a cg :=
 let ⟨b4,ah,aa,ad,ag,an,aK⟩:=hm;⟨b4,ah,aj _ _ _ aa,ad,ag,an,g.trans aK⟩
theorem eQ.gW {h:ak}{w:World}(c:eQ h w){l:Nat}{o iE:Obj}(aT:h l=some o):eQ (bA h l iE) (w.putObj l iE):=by
 intro b x ai
 by_cases e:b=l
 .subst e
  rw[eH] at ai;cases ai
  exact World.putObj_heap_same (c.lt aT)
 .rw[cQ _ _ e] at ai
  rw[World.putObj_heap_other e];exact c b x ai
theorem eI.gW (h:ak)(w:World){l:Nat}{o iE:Obj}(aT:h l=some o):eI h (bA h l iE) w (w.putObj l iE):=by
 refine⟨rfl,rfl,rfl,by simp,λb au _=>?_⟩
 have e:b≠l:=by intro e;subst e;rw[aT] at au;cases au
 exact⟨by rw[cQ _ _ e];exact au,World.putObj_heap_other e⟩
theorem eQ.more {h:ak}{w:World}(c:eQ h w)(o:Obj):eQ h (w.alloc o):=λb x ai=>by
 rw[Below.heap_alloc _ _ _ (c.lt ai)];exact c b x ai
theorem eQ.Re {h:ak}{w:World}(c:eQ h w){b:Nat}(au:w.heap.size<=b):h b=none:=by
 cases e:h b with
 | none=>rfl
 | some o=>have:=c.lt e;omega
theorem q9.nil {B:Nat}(h:ak){w:World}(dh:B<=w.heap.size):q9 B [] h w:=⟨dh,[],rfl,List.nodup_nil,λ_ au=>by cases au⟩
theorem Rf:∀(l:List af),(af.bB l).length=l.length
 | []=>rfl
 | x::l=>by simp[af.bB,Rf l]
theorem acQ {n:Nat}:∀(cx:List Nat) (l:List af) (e:Env) (a:Act),Good n e a->Good n (KV cx l e) { a with tmps:=(cx.zip (af.bB l)).foldl (λtmps (x:Nat×Value)=>tmps.setIfInBounds x.1 x.2) a.tmps }
 | [],l,e,a,g=>by cases l<;>exact g
 | t::cx,[],e,a,g=>g
 | t::cx,s::l,e,a,g=>by
  have:=acQ cx l _ _ (g.put (some t) s)
  exact this
theorem auA {P:Program}{n:Nat}{ro:Option Nat}{h:ak}{w:World}(c:eQ h w)(Rg:acL ro h)(fn:FuncId)(a:Act){B:Nat}(mk:q9 B a.defers h w)(cx:Array Tmp)(x y:Code) :
 ∃(l:Nat) (mark:List Deferred) (r:Loop) (lA:World),(Instr.enterLoop fn a.tmps cx x y ro).run P w= .ok (l,mark) lA/\h l=none/\eQ (bA h l (eD r)) lA/\eI h (bA h l (eD r)) w lA /\
  q9 B (mark++a.defers) (bA h l (eD r)) lA/\r.params=cx/\r.assign=x/\r.body=y/\r.tmps=a.tmps:=by
 cases ro with
 | none =>
  have aQ:=c.more (.deferred (some []))
  have aF:(w.alloc (.deferred (some []))).heap.size=w.heap.size+1:=by simp
  have aT:h (w.heap.size+1)=none:=c.Re (by omega)
  have pz:eI h h w (w.alloc (.deferred (some []))):=⟨rfl,rfl,rfl,by simp,λb au ca=>⟨au,Below.heap_alloc _ _ _ ca⟩⟩
  have aY:=aQ.alloc (eD { state:= .ready,pending:=none,fn,tmps:=a.tmps,params:=cx,assign:=x,body:=y,defers:=w.heap.size })
  have oU:=eI.alloc h (w.alloc (.deferred (some []))) (eD { state:= .ready,pending:=none,fn,tmps:=a.tmps,params:=cx,assign:=x,body:=y,defers:=w.heap.size })
  rw[aF] at aY oU
  refine⟨_,_,_,_,run_enterLoop_outer fn a.tmps cx x y,aT,aY,pz.trans oU,?_,rfl,rfl,rfl,rfl⟩
  obtain⟨dh,b6,e,ir,au⟩:=mk.grow (pz.trans oU)
  refine⟨dh,w.heap.size::b6,by rw[e];rfl,List.nodup_cons.2 ⟨λhm=>?_,ir⟩,λb hA=>?_⟩
  .obtain⟨_,auB,dB,_,lf⟩:=mk
   have eq:auB=b6:=by
    have:=dB.symm.trans e
    have ad:=congrArg (List.map λd:Deferred=>d.target) this
    simp only[List.map_map] at ad
    have inj:∀(a b:List Nat),List.map ((λd:Deferred=>d.target) ∘ λb=>({ target:= .collected b,args:=#[] }:Deferred)) a=List.map ((λd:Deferred=>d.target) ∘ λb=>({ target:= .collected b,args:=#[] }:Deferred)) b->a=b:=by
     intro a
     induction a with
     | nil=>intro b h;cases b with
      | nil=>rfl
      | cons _ _=>simp at h
     | cons x a dK=>intro b h;cases b with
      | nil=>simp at h
      | cons y b=>simp at h;rw[h.1,dK b (by simpa using h.2)]
    exact inj _ _ ad
   subst eq
   have:=(lf _ hm).2.2
   simp at this
  .rcases List.mem_cons.1 hA with a8|a8
   .subst a8
    refine⟨mk.1,by rw[cQ _ _ (by omega)];exact c.Re (Nat.le_refl _),?_⟩
    rw[Below.heap_alloc _ _ _ (by simp)]
    exact World.alloc_heap_new _ _
   .exact au b a8
 | some x_ =>
  obtain⟨h2,auC⟩:=Rg
  exact⟨_,_,{ state:= .ready,pending:=none,fn,tmps:=a.tmps,params:=cx,assign:=x,body:=y,defers:=h2.defers },_,run_enterLoop_inner (c x_ _ auC) fn a.tmps cx x y,c.Re (Nat.le_refl _),c.alloc _,eI.alloc _ _ _,mk.grow (eI.alloc _ _ _),rfl,rfl,rfl,rfl⟩
theorem auD {l:Nat}{r:Loop}{Q:qd}{e:Env}{GL:List Nat×Bool}{h:ak}(aj:Q_ l r Q e GL h) :
 (h l=some (eD r)/\Q .normal e (bA h l (ia r none)))∨(h l=some (ps r .ret)/\Q .ret e (bA h l (ia r (some .ret))))∨∃id,h l=some (ps r (.exit id))/\Q (.exit id) e (bA h l (ia r (some (.exit id)))):=by
 obtain⟨ids,b⟩:=GL
 unfold Q_ at aj
 simp only at aj
 induction ids with
 | nil =>
  simp only[Q9] at aj
  cases b with
  | true=>
   rcases aj with aj|aj
   .exact .inr (.inl aj)
   .exact .inl aj
  | false=>exact .inl aj
 | cons id ids dK =>
  rcases aj with aj|aj
  .exact .inr (.inr ⟨id,aj⟩)
  .exact dK aj
theorem auE {P:Program}{n:Nat}{A:a6}(hm:P.follows .mixedOrders=true):∀(c:Code) (B:Nat) (ro:Option Nat) (mm:Nat) (Q:qd) (e:Env) (h:ak),mD P n A ro c Q e h->∀(a:Act) (w:World),Good n e a->q9 B a.defers h w->eQ h w ->
 c.wpIn (nq ro) mm P (KY B n Q h w) a w:=by
 intro c
 induction c with
 | skip=>exact λB ro mm Q e h ag a w g mk jg=>wpIn_skip ⟨e,h,ag,g,mk,jg,eI.refl _ _⟩
 | region id ops draw =>
  intro B ro mm Q e h ag a w g mk jg
  cases draw with
  | false=>exact wpIn_region_list (acN _ _ _ _ _ ag g jg λb4 ah dT cg q1 aJ wc bd bI=>⟨b4,ah,q1,aJ,wc▸mk.grow bI,bd,bI⟩)
  | true =>
   simp only[mD] at ag
   split at ag
   .rename_i auF
    exact auG hm auF ag g jg λb4 ah dT cg q1 aJ wc bd bI=>⟨b4,ah,q1,aJ,wc▸mk.grow bI,bd,bI⟩
   .exact ag.elim
 | seq x y Ad Ae =>
  intro B ro mm Q e h ag a w g mk jg
  refine wpIn_seq ?_
  simp only[mD] at ag
  split at ag
  .refine Code.wpIn_mono ?_ (Ad B ro mm _ e h ag a w g mk jg)
   rintro sx dT cg ⟨b4,ah,aj,bo,mk',nU,qg⟩
   cases sx with
   | normal=>exact Code.wpIn_mono (λ_ _ _ Rh=>Rh.mono qg λ_ _ _ bR=>bR) (Ae B ro mm Q b4 ah aj dT cg bo mk' nU)
   | _=>exact⟨b4,ah,aj,bo,mk',nU,qg⟩
  .rename_i live _
   obtain⟨J,auH,auI⟩:=ag
   refine Code.wpIn_mono ?_ (Ad B ro mm _ e h auH a w g mk jg)
   rintro sx dT cg ⟨b4,ah,aj,bo,mk',nU,qg⟩
   cases sx with
   | normal =>
    obtain⟨bb,bQ,Ri⟩:=KX bo _ _ aj
    obtain⟨s8,I,aa,_,an,aK⟩:=De _ J bb _ _ bQ auI
    exact Code.wpIn_mono (λ_ _ _ Rh=>Rh.mono qg λ_ _ _ bR=>bR) (Ae B ro mm Q _ ah (aK ah an) dT cg (Ri s8 aa) mk' nU)
   | _=>exact⟨b4,ah,aj,bo,mk',nU,qg⟩
 | cond c x y Ad Ae =>
  intro B ro mm Q e h ag a w g mk jg
  simp only[mD] at ag
  split at ag
  .rename_i t
   split at ag
   .rename_i b au
    split at au
    .rename_i bw
     have he:a.eval (.tmp t)= .bool b:=g.has t _ bw au
     have aS:=acR au
     cases b with
     | true =>
      rw[aug,aS] at ag
      exact wpIn_cond_true he (Ad B ro mm Q e h ag a w g mk jg)
     | false =>
      rw[auh,aS] at ag
      exact wpIn_cond_false he (Ae B ro mm Q e h ag a w g mk jg)
    .cases au
   .exact ag.elim
  .rename_i b
   cases b with
   | true=>exact wpIn_cond_true rfl (Ad B ro mm Q e h ag a w g mk jg)
   | false=>exact wpIn_cond_false rfl (Ae B ro mm Q e h ag a w g mk jg)
  .exact ag.elim
 | block id c dK =>
  intro B ro mm Q e h ag a w g mk jg
  refine wpIn_block (Code.wpIn_mono ?_ (dK B ro mm _ e h ag a w g mk jg))
  rintro sx dT cg ⟨b4,ah,aj,bo,mk',nU,qg⟩
  cases sx with
  | exit zt =>
   simp only[acK] at aj
   simp only[Exit.inBlock]
   split at aj
   .rename_i ho;rw[if_pos ho];exact⟨b4,ah,aj,bo,mk',nU,qg⟩
   .rename_i ho;rw[if_neg ho];exact⟨b4,ah,aj,bo,mk',nU,qg⟩
  | _=>exact⟨b4,ah,aj,bo,mk',nU,qg⟩
 | exit id=>exact λB ro mm Q e h ag a w g mk jg=>wpIn_exit ⟨e,h,ag,g,mk,jg,eI.refl _ _⟩
 | ret=>exact λB ro mm Q e h ag a w g mk jg=>wpIn_ret ⟨e,h,ag,g,mk,jg,eI.refl _ _⟩
 | loop c dK =>
  intro B ro mm Q e h ag a w g mk jg
  simp only[mD] at ag
  split at ag
  .rename_i live _
   obtain⟨J,auJ,KZ⟩:=ag
   obtain⟨bb,bQ,Ri⟩:=KX g _ _ auJ
   obtain⟨s8,I,aa,_,⟨m,an⟩,aK⟩:=De _ J bb _ _ bQ KZ
   refine aur (λdT cg nM=>∃s8 I ah,I ah nM/\(∀h m,I h m->mD P n A ro c (KS (λb4 ah=>Ac n b4 live λs8=>x4 (x5 live) J s8 λQ8=>∃nM,nM<m/\Q8 ah nM) Q) (x6 live s8) h) /\
    Good n (x6 live s8) dT/\q9 B dT.defers ah cg/\eQ ah cg/\eI h ah w cg) (m:=m) ⟨s8,I,h,an,aK,Ri s8 aa,mk,jg,eI.refl _ _⟩ ?_
   rintro x7 x8 m₁ ⟨az0,az1,auK,Rd,auL,auM,auN,auO,acS⟩
   refine Code.wpIn_mono ?_ (dK B ro mm _ _ _ (auL auK m₁ Rd) x7 x8 auM auN auO)
   rintro sx dT cg ⟨b4,ah,aj,bo,mk',nU,qg⟩
   cases sx with
   | normal =>
    obtain⟨acx,auP,auQ⟩:=KX bo _ _ aj
    obtain⟨acT,auR,q1,_,⟨tG,ca,bd⟩,bI⟩:=De _ J acx _ _ auP KZ
    exact⟨tG,ca,acT,auR,ah,bd,bI,auQ acT q1,mk',nU,acS.trans qg⟩
   | _=>exact⟨b4,ah,aj,bo,mk',nU,acS.trans qg⟩
  .exact ag.elim
 | rangeFunc f cx x y Ad Ae =>
  intro B ro mm Q e h ag a w g mk jg
  simp only[mD] at ag
  split at ag
  .rename_i qf _
   split at ag
   .rename_i hlen
    obtain⟨s,⟨Rg,ag⟩,aU⟩:=jP ag
    refine wpIn_rangeFunc λfn _=>?_
    obtain⟨l,mark,r,lA,lO,aT,aQ,g1,Rj,aF,a8,b0,b1⟩:=auA (P:=P) (n:=n) jg Rg fn a mk cx x y
    have Af:=ag r l aT (KW _ _ λargs r0 ah np k0 auS cg nU=>by
     refine⟨{ r with state:= .ready,pending:=none },nU l _ k0,by rw[aF,Rf,r0,hlen],?_⟩
     refine roundIn_of_wpIn trivial ?_
     simp only[aF,a8,b0,b1]
     have zk:Good n (KV cx.toList args e) { tmps:=(cx.zip (af.bB args).toArray).foldl (λtmps (x:Nat×Value)=>tmps.setIfInBounds x.1 x.2) a.tmps,defers:=[] }:=by
      have:=acQ cx.toList args e { tmps:=a.tmps,defers:=[] } ⟨g.size,g.has⟩
      have auT:(cx.zip (af.bB args).toArray).foldl (λtmps (x:Nat×Value)=>tmps.setIfInBounds x.1 x.2) a.tmps=(cx.toList.zip (af.bB args)).foldl (λtmps (x:Nat×Value)=>tmps.setIfInBounds x.1 x.2) a.tmps:=by
       rw[<-Array.foldl_toList];simp
      rw[auT];exact this
     refine Code.wpIn_mono ?_ (Ad 0 (some l) 0 _ _ ah auS _ cg zk (q9.nil _ (Nat.zero_le _)) nU)
     rintro sx aM kG ⟨pa,ad,aj,g2,auU,acU,auV⟩
     cases sx with
     | normal =>
      obtain⟨nb,auW⟩:=aj
      refine⟨_,run_beginRound (acU l _ nb) rfl,?_⟩
      have ck:=acU.gW (iE:=dO r) nb
      have g3:=eI.gW ad kG (iE:=dO r) nb
      refine Code.wpIn_mono ?_ (Ae 0 (some l) 0 _ pa _ auW aM _ g2 (auU.grow g3) ck)
      rintro auX a4 tC ⟨HV,aK,nZ,g4,_,Df,auY⟩
      have Ag:=(auV.trans g3).trans auY
      cases auX with
      | normal=>exact⟨_,_,run_endRound none (Df l _ nZ.1),_,_,rfl,nZ.2,Df.gW nZ.1,Ag.trans (eI.gW _ _ nZ.1)⟩
      | ret=>exact⟨_,_,run_endRound (some .ret) (Df l _ nZ.1),_,_,rfl,nZ.2,Df.gW nZ.1,Ag.trans (eI.gW _ _ nZ.1)⟩
      | exit id=>exact⟨_,_,run_endRound (some (.exit id)) (Df l _ nZ.1),_,_,rfl,nZ.2,Df.gW nZ.1,Ag.trans (eI.gW _ _ nZ.1)⟩
      | _=>exact nZ.elim
     | _=>exact aj.elim)
    unfold ry at Af
    split at Af
    .rename_i Dg first cs so
     obtain⟨rfl,Af⟩:=Af
     have y6:([l0 l]++cs.toList).toArray=#[l0 l]++cs:=by apply Array.toList_inj.1;simp
     have pS:=Af.2 lA aQ
     rw[y6] at pS
     refine⟨l,mark,lA,{ target:= .fn (.func Dg) cs,args:=#[l0 l] },lA,Dg,#[l0 l]++cs,lA,lO,?_,λ_ _=>trivial,?_,Rk ro,acV (pS.mono ?_)⟩
     .have he:=aU a g
      rw[so] at he
      simp[resolve,rangeCall,he,Deferred.ofValue,l0]
      rfl
     .simp only[invoke,Rl Af.1]
     .rintro gh rH ⟨v,an,rfl,aj,Dh,K0⟩
      have Ag:=g1.trans K0
      rcases auD aj with ⟨qh,fI⟩|⟨qh,fI⟩|⟨id,qh,fI⟩
      .exact⟨none,_,run_endLoop (Dh l _ qh) (by simp),e,_,fI,⟨g.size,g.has⟩,(Rj.grow K0).grow (eI.gW _ _ qh),Dh.gW qh,Ag.trans (eI.gW _ _ qh)⟩
      .exact⟨some .ret,_,run_endLoop (Dh l _ qh) (by simp),wpIn_ret ⟨e,_,fI,⟨g.size,g.has⟩,(Rj.grow K0).grow (eI.gW _ _ qh),Dh.gW qh,Ag.trans (eI.gW _ _ qh)⟩⟩
      .exact⟨some (.exit id),_,run_endLoop (Dh l _ qh) (by simp),wpIn_exit ⟨e,_,fI,⟨g.size,g.has⟩,(Rj.grow K0).grow (eI.gW _ _ qh),Dh.gW qh,Ag.trans (eI.gW _ _ qh)⟩⟩
    .exact Af.elim
   .exact ag.elim
  .exact ag.elim
 | scope c _=>exact λB ro mm Q e h ag=>ag.elim
 | label l=>exact λB ro mm Q e h ag=>ag.elim
 | goto l=>exact λB ro mm Q e h ag=>ag.elim
 | refuse s=>exact λB ro mm Q e h ag=>ag.elim
def Ah (P:Program)(n:Nat)(e:Env)(h:ak):List ResultVar->(List af->Prop)->Prop
 | [],K=>K []
 | .tmp t::l,K=>match (if t<n then e t else none) with
  | some s=>Ah P n e h l λr=>K (s::r)
  | none=>False
 | .cell t T::l,K=>match (if t<n then e t else none) with
  | some (.p q)=>ya P T h q λs=>Ah P n e h l λr=>K (s::r)
  | _=>False
def Rm (P:Program)(n:Nat)(rs:Array ResultVar)(Q:Value->ak->Prop):qd:=λx e h =>
 match x with
 | .normal| .ret=>Ah P n e h rs.toList λr=>match r with|[s]=>Q s.val h|r=>Q (.tuple (af.bB r).toArray) h
 | _=>False
def Di:Nat->List af->Env
 | _,[]=>emp
 | i,s::l=>put (Di (i+1) l) i s
theorem acW:∀(l:List af) (i t:Nat) (s:af),Di i l t=some s->i<=t/\l[t-i]? =some s
 | [],i,t,s,h=>by simp[Di,emp] at h
 | x::l,i,t,s,h=>by
  simp only[Di,put] at h
  by_cases aF:t=i
  .subst aF;simp at h ⊢;exact h
  .rw[if_neg aF] at h
   obtain⟨aa,ad⟩:=acW l (i+1) t s h
   refine⟨by omega,?_⟩
   rw[show t-i=(t-(i+1))+1 by omega]
   simpa using ad
theorem acX:∀(l:List af) (i:Nat) (s:af),l[i]? =some s->(af.bB l)[i]? =some s.val
 | [],i,s,h=>by simp at h
 | x::l,0,s,h=>by simp at h;subst h;rfl
 | x::l,i+1,s,h=>by simpa [af.bB] using acX l i s (by simpa using h)
theorem Rn {P:Program}{n:Nat}{e:Env}{a:Act}(g:Good n e a){h:ak}{w:World}(c:eQ h w):∀(l:List ResultVar) (K:List af->Prop),Ah P n e h l K ->
 ∃r,K r/\(l.mapM λ(x:ResultVar)=>(match x with| .tmp t=>(pure (a.tmps.getD t undef):Sem Value)| .cell b t=>(do loadVar t (<-asAddr (a.tmps.getD b undef))))).run P w= .ok (af.bB r) w
 | [],K,ag=>⟨[],ag,by simp[af.bB]⟩
 | .tmp t::l,K,ag=>by
  simp only[Ah] at ag
  split at ag
  .rename_i s aU
   split at aU
   .rename_i bw
    obtain⟨r,ag,aP⟩:=Rn g c l _ ag
    refine⟨s::r,ag,?_⟩
    simp only[List.mapM_cons,Sem.run_bind,Sem.run_pure,Result.andThen_ok,aP,af.bB,g.has t s bw aU]
   .cases aU
  .exact ag.elim
 | .cell t T::l,K,ag=>by
  simp only[Ah] at ag
  split at ag
  .rename_i q aU
   split at aU
   .rename_i bw
    obtain⟨s,ag,j7,aa,ad⟩:=acY ag
    obtain⟨r,ag,aP⟩:=Rn g c l _ ag
    refine⟨s::r,ag,?_⟩
    have sH:(asAddr (a.tmps.getD t undef)).run P w= .ok q.addr w:=by rw[g.has t _ bw aU];rfl
    simp only[List.mapM_cons,Sem.run_bind,sH,Sem.run_pure,Result.andThen_ok,acZ c aa ad j7,aP,af.bB]
   .cases aU
  .exact ag.elim
theorem ac0 {P:Program}{n:Nat}{e:Env}{a:Act}(g:Good n e a){h:ak}{w:World}(c:eQ h w){fn:Func}{Q:Value->ak->Prop}{x:Exit}(ag:Rm P n fn.results Q x e h) :
 (x= .normal∨x= .ret)/\∃v,(results fn a.tmps).run P w= .ok v w/\Q v h:=by
 have ai:x= .normal∨x= .ret:=by
  cases x<;>first|exact .inl rfl|exact .inr rfl|exact(show False from ag).elim
 refine⟨ai,?_⟩
 have gp:Ah P n e h fn.results.toList λr=>match r with|[s]=>Q s.val h|r=>Q (.tuple (af.bB r).toArray) h:=by
  rcases ai with rfl|rfl<;>exact ag
 obtain⟨r,jO,aP⟩:=Rn g c _ _ gp
 have auZ:(fn.results.mapM λ(x:ResultVar)=>(match x with| .tmp t=>(pure (a.tmps.getD t undef):Sem Value)| .cell b t=>(do loadVar t (<-asAddr (a.tmps.getD b undef))))).run P w= .ok (af.bB r).toArray w:=by
  obtain⟨x_,Dj⟩:∃l,fn.results=List.toArray l:=⟨fn.results.toList,by simp⟩
  rw[Dj] at aP ⊢
  rw[List.mapM_toArray]
  simp only[Sem.run_map,aP,Result.andThen_ok]
 unfold results
 simp only[Sem.run_bind]
 erw [auZ]
 simp only[Result.andThen_ok,Sem.run_pure]
 cases r with
 | nil=>exact⟨_,rfl,jO⟩
 | cons s r =>
  cases r with
  | nil=>exact⟨_,rfl,jO⟩
  | cons s2 r=>exact⟨_,rfl,jO⟩
theorem ac1 {P:Program}{fn:Func}{tmps:Array Value}{R:Ending->World->Prop}{h:ak}:∀(cY:List Deferred) (lz:World) (h0:ak) (w:World),q9 lz.heap.size cY h w->eQ h w->eI h0 h lz w ->
 (∀cg,eQ h cg->eI h0 h lz cg->∃v,(results fn tmps).run P cg= .ok v cg/\R (.returned v) cg)->LeavesInM (nq none) 0 P fn tmps R cY .returning w
 | [],lz,h0,w,_,c,g,aP=>aP w c g
 | d::cY,lz,h0,w,⟨dh,b6,e,ir,au⟩,c,g,aP=>by
  cases b6 with
  | nil=>cases e
  | cons b b6 =>
   simp only[List.map_cons,List.cons.injEq] at e
   obtain⟨rfl,rfl⟩:=e
   obtain⟨iy,q1,aJ⟩:=au b List.mem_cons_self
   have ac2:=List.nodup_cons.1 ir
   refine⟨(λh=>by cases h),.inl ⟨b,_,rfl,run_takeDeferred aJ,ac1 _ lz h0 _ ⟨by simpa using dh,b6,rfl,ac2.2,λx ai=>?_⟩ ?_ ?_ aP⟩⟩
   .obtain⟨p0,gX,h9⟩:=au x (List.mem_cons_of_mem _ ai)
    have df:x≠b:=λe=>ac2.1 (e▸ai)
    exact⟨p0,gX,by rw[World.putObj_heap_other df];exact h9⟩
   .intro x o ai
    have df:x≠b:=λe=>by subst e;rw[q1] at ai;cases ai
    rw[World.putObj_heap_other df];exact c x o ai
   .refine⟨g.os,g.tape,g.output,by simpa using g.size,λx ai ca=>?_⟩
    have df:x≠b:=by omega
    obtain⟨ew,fF⟩:=g.rest x ai ca
    exact⟨ew,by rw[World.putObj_heap_other df];exact fF⟩
theorem au0 {P:Program}{f:FuncId}{fn:Func}{c:Code}(A:a6)(hm:P.follows .mixedOrders=true)(a_:P.funcs[f]? =some fn)(au:fn.body=some c)(mJ:tZ P f=true)
 (args:List af) (aH:args.length<=fn.ntmps) {h:ak} {Q:Value->ak->Prop} (ag:mD P fn.ntmps A none c (Rm P fn.ntmps fn.results Q) (Di 0 args) h):oq P f (af.bB args) h Q:=by
 refine⟨mJ,λw jg=>(callsIn_of_wp_marks (F:=nq none) (n:=0) a_ au trivial (Code.wpIn_mono ?_ (auE hm c w.heap.size none 0 _ _ h ag _ w ?_ (q9.nil _ (Nat.le_refl _)) jg))).calls (λ_ _ h=>by cases h)⟩
 .rintro x a cg ⟨b4,ah,aj,bo,mk',nU,qg⟩
  have ai:=(ac0 bo nU aj).1
  have aT:LeavesInM (nq none) 0 P fn a.tmps (λe cg=>∃v ah,e= .returned v/\Q v ah/\eQ ah cg/\eI h ah w cg) a.defers .returning cg:=by
   refine ac1 _ w h cg mk' nU qg λkG aY g2=>?_
   obtain⟨_,v,aP,fI⟩:=ac0 bo aY aj
   exact⟨v,aP,v,ah,rfl,fI,aY,g2⟩
  rcases ai with rfl|rfl<;>exact aT
 .refine⟨by simp[Rf];omega,λt s bw aU=>?_⟩
  obtain⟨_,ad⟩:=acW _ _ _ _ aU
  have an:=acX _ _ _ ad
  simp only[Nat.sub_zero] at an
  simp only[Array.getD_eq_getD_getElem?]
  rw[Array.getElem?_append_left (by
   have:=(List.getElem?_eq_some_iff.1 an).1
   simpa using this)]
  simp[an]
def Cg (P:Program)(fn:Func)(A:a6)(Q:Value->ak->Prop)(args:List af)(h:ak):Prop :=
 match fn.body with
 | some c=>mD P fn.ntmps A none c (Rm P fn.ntmps fn.results Q) (Di 0 args) h
 | none=>False
theorem JB {P:Program}{f:FuncId}{fn:Func}(A:a6)(hm:P.follows .mixedOrders=true)(a_:P.funcs[f]? =some fn)(mJ:tZ P f=true)
 (args:List af) (aH:args.length<=fn.ntmps) {h:ak} {Q:Value->ak->Prop} (ag:Cg P fn A Q args h):oq P f (af.bB args) h Q:=by
 unfold Cg at ag
 split at ag
 .rename_i c aZ
  exact au0 A hm a_ aZ mJ args aH ag
 .exact ag.elim

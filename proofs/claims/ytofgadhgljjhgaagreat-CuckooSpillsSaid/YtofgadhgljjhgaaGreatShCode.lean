/- A function's whole body, read as a statement over a part of the heap; sound for the model's calls. -/
import Derived.Test.YtofgadhgljjhgaaGreatShDraw
import Derived.RangeFuncNested
namespace Go.Sh
open Go Go.RowKit
/-! ## Typed binders, for what a loop carries -/
mutual
def CurT:Ty→Type→Type
 | .i _,R=>Int→R
 | .u,R=>UInt64→R
 | .b,R=>Bool→R
 | .p,R=>Pt→R
 | .f,R=>FuncId→List SV→R
 | .pn,R=>Option Pt→R
 | .s,R=>Sl→R
 | .str,R=>ByteArray→R
 | .m,R=>Option Nat→R
 | .ws n,R=>Vector UInt64 n→R
 | .ag l,R=>CurL l R
 | .tup l,R=>CurL l R
 | .v,R=>Value→R
def CurL:List Ty→Type→Type
 | [],R=>R
 | t::l,R=>CurT t (CurL l R)
end
mutual
def allT:(t:Ty)→{R:Type}→CurT t R→(SV→R→Prop)→Prop
 | .i k,_,f,K=>∀x:Int,K (.i k x) (f x)
 | .u,_,f,K=>∀x:UInt64,K (.u x) (f x)
 | .b,_,f,K=>∀x:Bool,K (.b x) (f x)
 | .p,_,f,K=>∀x:Pt,K (.p x) (f x)
 | .f,_,f,K=>∀(g:FuncId) (c:List SV),K (.f g c) (f g c)
 | .pn,_,f,K=>∀x:Option Pt,K (.pn x) (f x)
 | .s,_,f,K=>∀x:Sl,K (.s x) (f x)
 | .str,_,f,K=>∀x:ByteArray,K (.str x) (f x)
 | .m,_,f,K=>∀x:Option Nat,K (.m x) (f x)
 | .ws n,_,f,K=>∀x:Vector UInt64 n,K (.ws n x) (f x)
 | .ag l,_,f,K=>allL l f fun r x=>K (.ag r) x
 | .tup l,_,f,K=>allL l f fun r x=>K (.tup r) x
 | .v,_,f,K=>∀x:Value,K (.v x) (f x)
def allL:(l:List Ty)→{R:Type}→CurL l R→(List SV→R→Prop)→Prop
 | [],_,f,K=>K [] f
 | t::l,_,f,K=>allT t f fun r g=>allL l g fun rs x=>K (r::rs) x
end
mutual
def appT:(t:Ty)→{R:Type}→CurT t R→SV→(R→Prop)→Prop
 | .i k,_,f,.i k' x,K=>if k'=k then K (f x) else False
 | .u,_,f,.u x,K=>K (f x)
 | .b,_,f,.b x,K=>K (f x)
 | .p,_,f,.p x,K=>K (f x)
 | .f,_,f,.f g c,K=>K (f g c)
 | .pn,_,f,.pn x,K=>K (f x)
 | .pn,_,f,.p x,K=>K (f (some x))
 | .s,_,f,.s x,K=>K (f x)
 | .str,_,f,.str x,K=>K (f x)
 | .m,_,f,.m x,K=>K (f x)
 | .ws n,_,f,.ws m x,K=>if h:m=n then K (f (h▸x)) else False
 | .ag l,_,f,.ag r,K=>appL l f r K
 | .tup l,_,f,.tup r,K=>appL l f r K
 | .v,_,f,.v x,K=>K (f x)
 | .v,_,f,.f g c,K=>K (f (.func (.func g) #[] (SV.vals c).toArray))
 | _,_,_,_,_=>False
def appL:(l:List Ty)→{R:Type}→CurL l R→List SV→(R→Prop)→Prop
 | [],_,f,[],K=>K f
 | t::l,_,f,r::rs,K=>appT t f r fun g=>appL l g rs K
 | _,_,_,_,_=>False
end
structure Ann where
 loops:List (Nat×List (Nat×Ty))
 cuts:List (Nat×List (Nat×Ty))
 orders:List (Nat×List Nat)
 yields:List (Nat×List Ty):=[]
def lookA {α:Type}:List (Nat×α)→Nat→Option α
 | [],_=>none
 | (k,x)::l,i=>if k=i then some x else lookA l i
def firstR:Code→Option Nat
 | .region i _ _=>some i
 | .seq a b=>(firstR a).or (firstR b)
 | .cond _ a b=>(firstR a).or (firstR b)
 | .block _ c=>firstR c
 | .loop c=>firstR c
 | .scope c=>firstR c
 | _=>none
def tyz (l:List (Nat×Ty)):List Ty:=l.map (·.2)
def getS (n:Nat) (e:Env):List (Nat×Ty)→(List SV→Prop)→Prop
 | [],K=>K []
 | (t,_)::l,K=>match (if t<n then e t else none) with
   | some s=>getS n e l fun r=>K (s::r)
   | none=>False
def setS:List (Nat×Ty)→List SV→Env
 | (t,_)::l,s::r=>put (setS l r) t s
 | _,_=>emp
abbrev Post:=Exit→Env→Hp→Prop
def thenK (next:Env→Hp→Prop) (Q:Post):Post
 | .normal,e,h=>next e h
 | x,e,h=>Q x e h
def blockK (id:Nat) (Q:Post):Post
 | .exit id',e,h=>if id'=id then Q .normal e h else Q (.exit id') e h
 | x,e,h=>Q x e h
def loopK (n:Nat) (live:List (Nat×Ty)) (body:Env→Hp→(Env→Hp→Prop)→Prop) (e:Env) (h:Hp):Prop :=
 ∃J:CurL (tyz live) (Hp→Nat→Prop),(getS n e live fun vs=>appL (tyz live) J vs fun I=>∃m,I h m) ∧
  allL (tyz live) J fun vs I=>∀h m,I h m→body (setS live vs) h fun e' h'=>getS n e' live fun vs'=>appL (tyz live) J vs' fun I'=>∃m',m'<m∧I' h' m'
def cutK (n:Nat) (live:List (Nat×Ty)) (first:(Env→Hp→Prop)→Prop) (rest:Env→Hp→Prop):Prop :=
 ∃J:CurL (tyz live) (Hp→Prop),(first fun e' h'=>getS n e' live fun vs=>appL (tyz live) J vs fun I=>I h') ∧
  allL (tyz live) J fun vs I=>∀h,I h→rest (setS live vs) h
def seqK (P:Program) (n:Nat) (all:Array Oper):List Oper→Env→Hp→(Env→Hp→Prop)→Prop
 | [],e,h,K=>K e h
 | o::l,e,h,K=>stepE P n all o e h fun e' r h'=>seqK P n all l (putO e' o.dst r) h' K
/-! ### Loops over functions: the record, by its state -/
def rdyL (r:Loop):Obj:= .loop { r with state:= .ready,pending:=none }
def busyL (r:Loop):Obj:= .loop { r with state:= .busy,pending:=none }
def doneL (r:Loop) (j:Code):Obj:= .loop { r with state:= .done,pending:=some j }
def goneL (r:Loop) (j:Option Code):Obj:= .loop { r with state:= .exhausted,pending:=j }
def setP:List Nat→List SV→Env→Env
 | t::ps,s::l,e=>setP ps l (put e t s)
 | _,_,e=>e
def roundQ (l:Nat) (r:Loop) (Q':Value→Hp→Prop):Post:=fun x _ h =>
 match x with
 | .normal=>h l=some (busyL r)∧Q' (.bool true) (upd h l (rdyL r))
 | .ret=>h l=some (busyL r)∧Q' (.bool false) (upd h l (doneL r .ret))
 | .exit id=>h l=some (busyL r)∧Q' (.bool false) (upd h l (doneL r (.exit id)))
 | _=>False
def jumpsOf:Code→List Nat×Bool
 | .seq x y=>let a:=jumpsOf x;let b:=jumpsOf y;(a.1++b.1.filter (fun i=>!a.1.contains i),a.2||b.2)
 | .cond _ x y=>let a:=jumpsOf x;let b:=jumpsOf y;(a.1++b.1.filter (fun i=>!a.1.contains i),a.2||b.2)
 | .block id c=>let a:=jumpsOf c;(a.1.filter (fun i=>i != id),a.2)
 | .loop c=>jumpsOf c
 | .scope c=>jumpsOf c
 | .rangeFunc _ _ x y=>let a:=jumpsOf x;let b:=jumpsOf y;(a.1++b.1.filter (fun i=>!a.1.contains i),a.2||b.2)
 | .exit id=>([id],false)
 | .ret=>([],true)
 | _=>([],false)
def exitsQ (l:Nat) (r:Loop) (Q:Post) (e:Env) (h:Hp):List Nat→Prop→Prop
 | [],X=>X
 | id::ids,X=>(h l=some (doneL r (.exit id))∧Q (.exit id) e (upd h l (goneL r (some (.exit id)))))∨exitsQ l r Q e h ids X
def endQ (l:Nat) (r:Loop) (Q:Post) (e:Env) (js:List Nat×Bool) (h:Hp):Prop :=
 exitsQ l r Q e h js.1 (match js.2 with
   | true=>(h l=some (doneL r .ret)∧Q .ret e (upd h l (goneL r (some .ret))))∨(h l=some (rdyL r)∧Q .normal e (upd h l (goneL r none)))
   | false=>h l=some (rdyL r)∧Q .normal e (upd h l (goneL r none)))
def callF (P:Program) (x:Value) (args:List Value) (h:Hp) (Q:Value→Hp→Prop):Prop :=
 match x with
 | .func (.func g) first cs=>first=#[]∧callK P g (args++cs.toList) h Q
 | _=>False
def yv (l:Nat):Value:= .func (.yield l) #[] #[]
def aroundK (ro:Option Nat) (h:Hp):Prop :=
 match ro with
 | none=>True
 | some l=>∃r,h l=some (.loop r)
def headQ (l:Nat) (r:Loop) (next:Env→Hp→Prop):Post:=fun x e h =>
 match x with
 | .normal=>h l=some (rdyL r)∧next e (upd h l (busyL r))
 | _=>False
mutual
def forT:Ty→(SV→Prop)→Prop
 | .i k,K=>∀n:Int,K (.i k n)
 | .u,K=>∀x:UInt64,K (.u x)
 | .b,K=>∀x:Bool,K (.b x)
 | .p,K=>∀x:Pt,K (.p x)
 | .f,K=>∀(g:FuncId) (c:List SV),K (.f g c)
 | .pn,K=>∀x:Option Pt,K (.pn x)
 | .s,K=>∀x:Sl,K (.s x)
 | .str,K=>∀x:ByteArray,K (.str x)
 | .m,K=>∀x:Option Nat,K (.m x)
 | .ws n,K=>∀c:Vector UInt64 n,K (.ws n c)
 | .ag l,K=>forTL l fun r=>K (.ag r)
 | .tup l,K=>forTL l fun r=>K (.tup r)
 | .v,K=>∀x:Value,K (.v x)
def forTL:List Ty→(List SV→Prop)→Prop
 | [],K=>K []
 | t::l,K=>forT t fun r=>forTL l fun rs=>K (r::rs)
end
mutual
theorem forT_all:∀(t:Ty) (K:SV→Prop),(∀s,K s)→forT t K
 | .i k,K,h=>fun _=>h _
 | .u,K,h=>fun _=>h _
 | .b,K,h=>fun _=>h _
 | .p,K,h=>fun _=>h _
 | .f,K,h=>fun _ _=>h _
 | .pn,K,h=>fun _=>h _
 | .s,K,h=>fun _=>h _
 | .str,K,h=>fun _=>h _
 | .m,K,h=>fun _=>h _
 | .ws n,K,h=>fun _=>h _
 | .ag l,K,h=>forTL_all l _ fun _ _=>h _
 | .tup l,K,h=>forTL_all l _ fun _ _=>h _
 | .v,K,h=>fun _=>h _
theorem forTL_all:∀(l:List Ty) (K:List SV→Prop),(∀r,r.length=l.length→K r)→forTL l K
 | [],K,h=>h [] rfl
 | t::l,K,h=>forT_all t _ fun s=>forTL_all l _ fun r hr=>h (s::r) (by simp[hr])
end
def codeK (P:Program) (n:Nat) (A:Ann):Option Nat→Code→Post→Env→Hp→Prop
 | _,.skip,Q,e,h=>Q .normal e h
 | ro,.seq x y,Q,e,h=>match (firstR y).bind (lookA A.cuts) with
   | none=>codeK P n A ro x (thenK (codeK P n A ro y Q) Q) e h
   | some live=>cutK n live (fun next=>codeK P n A ro x (thenK next Q) e h) (codeK P n A ro y Q)
 | ro,.cond c x y,Q,e,h=>match c with
   | .tmp t=>match (if t<n then e t else none) with
     | some (.b b)=>ifB b (codeK P n A ro x Q (put e t (.b true)) h) (codeK P n A ro y Q (put e t (.b false)) h)
     | _=>False
   | .const (.bool b)=>cond b (codeK P n A ro x Q e h) (codeK P n A ro y Q e h)
   | _=>False
 | ro,.block id c,Q,e,h=>codeK P n A ro c (blockK id Q) e h
 | _,.exit id,Q,e,h=>Q (.exit id) e h
 | _,.ret,Q,e,h=>Q .ret e h
 | _,.region id ops false,Q,e,h=>seqK P n ops ops.toList e h (Q .normal)
 | _,.region id ops true,Q,e,h =>
   if fitC ops ((lookA A.orders id).getD (List.range ops.size))=true then
     drawK P n ops (ancs ops.toList []) [] ((lookA A.orders id).getD (List.range ops.size)) e h (Q .normal) else False
 | ro,.loop c,Q,e,h=>match (firstR c).bind (lookA A.loops) with
   | some live=>loopK n live (fun e h next=>codeK P n A ro c (thenK next Q) e h) e h
   | none=>False
 | ro,.rangeFunc f ps x y,Q,e,h=>match (match ps.toList with|[]=>some []|t::_=>lookA A.yields t) with
   | some tys=>if tys.length=ps.size then evK n e f fun s=>aroundK ro h∧∀(r:Loop) (l:Nat),h l=none →
       (forTL tys fun args=>∀(h':Hp) (Q':Value→Hp→Prop),h' l=some (rdyL r) →
         codeK P n A (some l) x (headQ l r (codeK P n A (some l) y (roundQ l r Q'))) (setP ps.toList args e) h'→yldK P l (SV.vals args) h' Q') →
       callF P s.val [yv l] (upd h l (rdyL r)) (fun _ h3=>endQ l r Q e (jumpsOf y) h3) else False
   | none=>False
 | _,_,_,_,_=>False
/-! ## Soundness -/
mutual
theorem appT_all:∀(t:Ty) {R:Type} (f:CurT t R) (s:SV) (F:R→Prop) (K:SV→R→Prop),appT t f s F→allT t f K→∃s' r,s'.val=s.val∧SV.cells s'=SV.cells s∧F r∧K s' r
 | .i k,_,f,s,F,K,h,ha=>by
     cases s<;>try exact(show False from h).elim
     rename_i k' x
     simp only[appT] at h
     split at h
     · rename_i hk;subst hk;exact⟨_,_,rfl,rfl,h,ha x⟩
     · exact h.elim
 | .u,_,f,s,F,K,h,ha=>by
     cases s<;>try exact(show False from h).elim
     exact⟨_,_,rfl,rfl,h,ha _⟩
 | .b,_,f,s,F,K,h,ha=>by
     cases s<;>try exact(show False from h).elim
     exact⟨_,_,rfl,rfl,h,ha _⟩
 | .s,_,f,s,F,K,h,ha=>by
     cases s<;>try exact(show False from h).elim
     exact⟨_,_,rfl,rfl,h,ha _⟩
 | .str,_,f,s,F,K,h,ha=>by
     cases s<;>try exact(show False from h).elim
     exact⟨_,_,rfl,rfl,h,ha _⟩
 | .m,_,f,s,F,K,h,ha=>by
     cases s<;>try exact(show False from h).elim
     exact⟨_,_,rfl,rfl,h,ha _⟩
 | .v,_,f,s,F,K,h,ha=>by
     cases s<;>try exact(show False from h).elim
     · rename_i g c;exact⟨.v (.func (.func g) #[] (SV.vals c).toArray),_,rfl,rfl,h,ha _⟩
     · exact⟨_,_,rfl,rfl,h,ha _⟩
 | .p,_,f,s,F,K,h,ha=>by
     cases s<;>try exact(show False from h).elim
     exact⟨_,_,rfl,rfl,h,ha _⟩
 | .f,_,f,s,F,K,h,ha=>by
     cases s<;>try exact(show False from h).elim
     exact⟨_,_,rfl,rfl,h,ha _ _⟩
 | .pn,_,f,s,F,K,h,ha=>by
     cases s<;>try exact(show False from h).elim
     · rename_i x;exact⟨.pn (some x),_,rfl,rfl,h,ha (some x)⟩
     · exact⟨_,_,rfl,rfl,h,ha _⟩
 | .ws n,_,f,s,F,K,h,ha=>by
     cases s<;>try exact(show False from h).elim
     rename_i m x
     simp only[appT] at h
     split at h
     · rename_i hk;subst hk;exact⟨_,_,rfl,rfl,h,ha x⟩
     · exact h.elim
 | .ag l,_,f,s,F,K,h,ha=>by
     cases s<;>try exact(show False from h).elim
     obtain⟨s',r',h1,h2,h3,h4⟩:=appL_all l f _ F _ h ha
     exact⟨.ag s',r',by simp only[SV.val,h2],by simp only[SV.cells,h2],h3,h4⟩
 | .tup l,_,f,s,F,K,h,ha=>by
     cases s<;>try exact(show False from h).elim
     obtain⟨s',r',h1,h2,h3,h4⟩:=appL_all l f _ F _ h ha
     exact⟨.tup s',r',by simp only[SV.val,h1],by simp only[SV.cells,h1],h3,h4⟩
theorem appL_all:∀(l:List Ty) {R:Type} (f:CurL l R) (s:List SV) (F:R→Prop) (K:List SV→R→Prop),appL l f s F→allL l f K →
   ∃s' r,SV.vals s'=SV.vals s∧SV.cellsL s'=SV.cellsL s∧F r∧K s' r
 | [],_,f,[],F,K,h,ha=>⟨[],f,rfl,rfl,h,ha⟩
 | t::l,_,f,s::r,F,K,h,ha=>by
    obtain⟨s1,g,h1,h2,h3,h4⟩:=appT_all t f s _ _ h ha
    obtain⟨s2,x,h5,h6,h7,h8⟩:=appL_all l g r F _ h3 h4
    exact⟨s1::s2,x,by simp only[SV.vals,h1,h5],by simp only[SV.cellsL,h2,h6],h7,h8⟩
 | [],_,f,s::r,F,K,h,ha=>(show False from h).elim
 | t::l,_,f,[],F,K,h,ha=>(show False from h).elim
end
theorem getS_elim {n:Nat} {e:Env} {a:Act} (g:Good n e a):∀(l:List (Nat×Ty)) (K:List SV→Prop),getS n e l K →
   ∃r,K r∧∀r',SV.vals r'=SV.vals r→Good n (setS l r') a
 | [],K,h=>⟨[],h,fun r' _=>⟨g.size,fun t s ht hs=>by cases r'<;>simp[setS,emp] at hs⟩⟩
 | (t,ty)::l,K,h=>by
   simp only[getS] at h
   split at h
   · rename_i s hs
     split at hs
     · rename_i ht
       obtain⟨r,hk,hr⟩:=getS_elim g l _ h
       refine⟨s::r,hk,fun r' hv=>?_⟩
       cases r' with
       | nil=>simp[SV.vals] at hv
       | cons s' r' =>
         simp only[SV.vals,List.cons.injEq] at hv
         refine⟨g.size,fun u x hu hx=>?_⟩
         simp only[setS,put] at hx
         by_cases e1:u=t
         · subst e1
           rw[if_pos rfl] at hx;cases hx
           rw[g.has u s hu hs,hv.1]
         · rw[if_neg e1] at hx
           exact(hr r' hv.2).has u x hu hx
     · cases hs
   · exact h.elim
theorem put_defers (a:Act) (d:Option Nat) (v:Value):(a.put d v).defers=a.defers:=by cases d<;>rfl
theorem seqK_sound {ro:Option Nat} {mm:Nat} {P:Program} {n:Nat} {all:Array Oper} {K:Env→Hp→Prop} {Q:Exit→Act→World→Prop}:∀(l:List Oper) (e:Env) (h:Hp) (a:Act) (w:World),seqK P n all l e h K→Good n e a→Cov h w →
   (∀e' h' a' w',K e' h'→Good n e' a'→a'.defers=a.defers→Cov h' w'→Grow h h' w w'→Q .normal a' w')→wpListIn (fen ro) mm P all Q l a w
 | [],e,h,a,w,hk,g,c,hQ=>hQ e h a w hk g rfl c (Grow.refl _ _)
 | o::l,e,h,a,w,hk,g,c,hQ=>by
   simp only[seqK,stepE_eq] at hk
   have hstep:=runK_step (ro:=ro) (mm:=mm) (next:=wpListIn (fen ro) mm P all Q l) (Q:=Q) hk g c fun r h' w' hk' c' g' =>
     seqK_sound l _ _ _ _ hk' (g.put o.dst r) c' fun e'' h'' a'' w'' q1 q2 qd q3 q4=>hQ e'' h'' a'' w'' q1 q2 (qd.trans (put_defers _ _ _)) q3 (g'.trans q4)
   unfold wpListIn
   split
   · rename_i hw;rw[if_pos hw] at hstep;exact hstep
   · rename_i hw;rw[if_neg hw] at hstep;exact hstep
theorem wp_loop_num {F:Fence} {mm:Nat} {P:Program} {Q:Exit→Act→World→Prop} {a:Act} {w:World} {c:Code} (I:Act→World→Nat→Prop) {m:Nat} (h₀:I a w m)
   (round:∀a w m,I a w m→c.wpIn F mm P (Exit.then (fun a' w'=>∃m',m'<m∧I a' w' m') Q) a w):(Code.loop c).wpIn F mm P Q a w:=by
 intro b k cs hro hb hr
 have key:∀m a w,I a w m→∃e a' w',Q e a' w'∧ArrivesIn (Machine.fenced P F) P (lone (b.atR a (.code c::.inLoop c::k)) cs w) b k cs e a' w':=by
   intro m
   induction m using Nat.strongRecOn with
   | _ m ih =>
     intro a w hI
     obtain⟨e,a₁,w₁,hq,harr⟩:=round a w m hI b (.inLoop c::k) cs hro hb hr
     cases e with
     | normal =>
       obtain⟨m',hlt,hI₁⟩:=hq
       obtain⟨e₂,a₂,w₂,hq₂,harr₂⟩:=ih m' hlt a₁ w₁ hI₁
       exact⟨e₂,a₂,w₂,hq₂,.of_steps (StepsIn.trans harr (.one (fenced_calm hb hr rfl) stepR_inLoop)) harr₂⟩
     | exit id=>exact⟨_,a₁,w₁,hq,.pass (x:= .inLoop c) rfl (fun _ _=> .inl (by simp)) harr⟩
     | goto l=>exact⟨_,a₁,w₁,hq,.pass (x:= .inLoop c) rfl (fun _ _=> .inl (by simp)) harr⟩
     | ret=>exact⟨_,a₁,w₁,hq,.pass (x:= .inLoop c) rfl (fun _ _=> .inl (by simp)) harr⟩
     | panic ch=>exact⟨_,a₁,w₁,hq,.pass (x:= .inLoop c) rfl (fun _ _=> .inl (by simp)) harr⟩
     | outgrown=>exact⟨_,a₁,w₁,hq,.pass (x:= .inLoop c) rfl (fun _ _=> .inl (by simp)) harr⟩
 obtain⟨e,a',w',hq,harr⟩:=key _ a w h₀
 exact⟨e,a',w',hq,.of_steps (.one (fenced_calm hb hr rfl) stepR_loop) harr⟩
def Mk (B:Nat) (ds:List Deferred) (h:Hp) (w:World):Prop :=
 B≤w.heap.size∧∃bs:List Nat,ds=bs.map (fun b=>{ target:= .collected b,args:=#[] })∧bs.Nodup∧∀b∈bs,B≤b∧h b=none∧w.heap[b]? =some (.deferred (some []))
theorem Mk.grow {B:Nat} {ds:List Deferred} {h h':Hp} {w w':World} (m:Mk B ds h w) (g:Grow h h' w w'):Mk B ds h' w':=by
 obtain⟨hB,bs,e,nd,hb⟩:=m
 refine⟨Nat.le_trans hB g.size,bs,e,nd,fun b hb'=>?_⟩
 obtain⟨h0,h1,h2⟩:=hb b hb'
 obtain⟨h3,h4⟩:=g.rest b h1 (Array.getElem?_eq_some_iff.1 h2).1
 exact⟨h0,h3,h4.trans h2⟩
def Met (B:Nat) (n:Nat) (Q:Post) (h:Hp) (w:World):Exit→Act→World→Prop:=fun x a' w'=>∃e' h',Q x e' h'∧Good n e' a'∧Mk B a'.defers h' w'∧Cov h' w'∧Grow h h' w w'
theorem Met.mono {B:Nat} {n:Nat} {Q Q':Post} {h h1:Hp} {w w1:World} (g:Grow h h1 w w1) (hq:∀x e h',Q x e h'→Q' x e h') {x:Exit} {a:Act} {w':World} (hm:Met B n Q h1 w1 x a w'):Met B n Q' h w x a w' :=
 let ⟨e',h',h1,h2,hk,h3,h4⟩:=hm;⟨e',h',hq _ _ _ h1,h2,hk,h3,g.trans h4⟩
/-! ### A block of the part becomes another -/
theorem Cov.putO {h:Hp} {w:World} (c:Cov h w) {l:Nat} {o o':Obj} (hl:h l=some o):Cov (upd h l o') (w.putObj l o'):=by
 intro b x hx
 by_cases e:b=l
 · subst e
   rw[upd_same] at hx;cases hx
   exact World.putObj_heap_same (c.lt hl)
 · rw[upd_ne _ _ e] at hx
   rw[World.putObj_heap_other e];exact c b x hx
theorem Grow.putO (h:Hp) (w:World) {l:Nat} {o o':Obj} (hl:h l=some o):Grow h (upd h l o') w (w.putObj l o'):=by
 refine⟨rfl,rfl,rfl,by simp,fun b hb _=>?_⟩
 have e:b≠l:=by intro e;subst e;rw[hl] at hb;cases hb
 exact⟨by rw[upd_ne _ _ e];exact hb,World.putObj_heap_other e⟩
theorem Cov.more {h:Hp} {w:World} (c:Cov h w) (o:Obj):Cov h (w.alloc o):=fun b x hx=>by
 rw[Below.heap_alloc _ _ _ (c.lt hx)];exact c b x hx
theorem Cov.past {h:Hp} {w:World} (c:Cov h w) {b:Nat} (hb:w.heap.size≤b):h b=none:=by
 cases e:h b with
 | none=>rfl
 | some o=>have:=c.lt e;omega
theorem Mk.nil {B:Nat} (h:Hp) {w:World} (hB:B≤w.heap.size):Mk B [] h w:=⟨hB,[],rfl,List.nodup_nil,fun _ hb=>by cases hb⟩
theorem vals_length:∀(l:List SV),(SV.vals l).length=l.length
 | []=>rfl
 | x::l=>by simp[SV.vals,vals_length l]
theorem setP_good {n:Nat}:∀(ps:List Nat) (l:List SV) (e:Env) (a:Act),Good n e a→Good n (setP ps l e) { a with tmps:=(ps.zip (SV.vals l)).foldl (fun tmps (x:Nat×Value)=>tmps.setIfInBounds x.1 x.2) a.tmps }
 | [],l,e,a,g=>by cases l<;>exact g
 | t::ps,[],e,a,g=>g
 | t::ps,s::l,e,a,g=>by
   have:=setP_good ps l _ _ (g.put (some t) s)
   exact this
theorem enter_run {P:Program} {n:Nat} {ro:Option Nat} {h:Hp} {w:World} (c:Cov h w) (har:aroundK ro h) (fn:FuncId) (a:Act) {B:Nat} (mk:Mk B a.defers h w) (ps:Array Tmp) (x y:Code) :
   ∃(l:Nat) (mark:List Deferred) (r:Loop) (w1:World),(Instr.enterLoop fn a.tmps ps x y ro).run P w= .ok (l,mark) w1∧h l=none∧Cov (upd h l (rdyL r)) w1∧Grow h (upd h l (rdyL r)) w w1 ∧
    Mk B (mark++a.defers) (upd h l (rdyL r)) w1∧r.params=ps∧r.assign=x∧r.body=y∧r.tmps=a.tmps:=by
 cases ro with
 | none =>
   have c1:=c.more (.deferred (some []))
   have e1:(w.alloc (.deferred (some []))).heap.size=w.heap.size+1:=by simp
   have hl:h (w.heap.size+1)=none:=c.past (by omega)
   have gA:Grow h h w (w.alloc (.deferred (some []))):=⟨rfl,rfl,rfl,by simp,fun b hb hlt=>⟨hb,Below.heap_alloc _ _ _ hlt⟩⟩
   have c2:=c1.alloc (rdyL { state:= .ready,pending:=none,fn,tmps:=a.tmps,params:=ps,assign:=x,body:=y,defers:=w.heap.size })
   have gB:=Grow.alloc h (w.alloc (.deferred (some []))) (rdyL { state:= .ready,pending:=none,fn,tmps:=a.tmps,params:=ps,assign:=x,body:=y,defers:=w.heap.size })
   rw[e1] at c2 gB
   refine⟨_,_,_,_,run_enterLoop_outer fn a.tmps ps x y,hl,c2,gA.trans gB,?_,rfl,rfl,rfl,rfl⟩
   obtain⟨hB,bs,e,nd,hb⟩:=mk.grow (gA.trans gB)
   refine⟨hB,w.heap.size::bs,by rw[e];rfl,List.nodup_cons.2 ⟨fun hm=>?_,nd⟩,fun b hb'=>?_⟩
   · obtain⟨_,bs0,e0,_,hb0⟩:=mk
     have eq:bs0=bs:=by
       have:=e0.symm.trans e
       have h2:=congrArg (List.map fun d:Deferred=>d.target) this
       simp only[List.map_map] at h2
       have inj:∀(a b:List Nat),List.map ((fun d:Deferred=>d.target) ∘ fun b=>({ target:= .collected b,args:=#[] }:Deferred)) a=List.map ((fun d:Deferred=>d.target) ∘ fun b=>({ target:= .collected b,args:=#[] }:Deferred)) b→a=b:=by
         intro a
         induction a with
         | nil=>intro b h;cases b with
           | nil=>rfl
           | cons _ _=>simp at h
         | cons x a ih=>intro b h;cases b with
           | nil=>simp at h
           | cons y b=>simp at h;rw[h.1,ih b (by simpa using h.2)]
       exact inj _ _ h2
     subst eq
     have:=(hb0 _ hm).2.2
     simp at this
   · rcases List.mem_cons.1 hb' with e2|e2
     · subst e2
       refine⟨mk.1,by rw[upd_ne _ _ (by omega)];exact c.past (Nat.le_refl _),?_⟩
       rw[Below.heap_alloc _ _ _ (by simp)]
       exact World.alloc_heap_new _ _
     · exact hb b e2
 | some l0 =>
   obtain⟨r0,hr0⟩:=har
   exact⟨_,_,{ state:= .ready,pending:=none,fn,tmps:=a.tmps,params:=ps,assign:=x,body:=y,defers:=r0.defers },_,run_enterLoop_inner (c l0 _ hr0) fn a.tmps ps x y,c.past (Nat.le_refl _),c.alloc _,Grow.alloc _ _ _,mk.grow (Grow.alloc _ _ _),rfl,rfl,rfl,rfl⟩
theorem endQ_elim {l:Nat} {r:Loop} {Q:Post} {e:Env} {js:List Nat×Bool} {h:Hp} (hq:endQ l r Q e js h) :
   (h l=some (rdyL r)∧Q .normal e (upd h l (goneL r none)))∨(h l=some (doneL r .ret)∧Q .ret e (upd h l (goneL r (some .ret))))∨∃id,h l=some (doneL r (.exit id))∧Q (.exit id) e (upd h l (goneL r (some (.exit id)))):=by
 obtain⟨ids,b⟩:=js
 unfold endQ at hq
 simp only at hq
 induction ids with
 | nil =>
   simp only[exitsQ] at hq
   cases b with
   | true=>rcases hq with hq|hq
           · exact .inr (.inl hq)
           · exact .inl hq
   | false=>exact .inl hq
 | cons id ids ih =>
   rcases hq with hq|hq
   · exact .inr (.inr ⟨id,hq⟩)
   · exact ih hq
theorem codeK_sound {P:Program} {n:Nat} {A:Ann} (hm:P.follows .mixedOrders=true):∀(c:Code) (B:Nat) (ro:Option Nat) (mm:Nat) (Q:Post) (e:Env) (h:Hp),codeK P n A ro c Q e h→∀(a:Act) (w:World),Good n e a→Mk B a.defers h w→Cov h w →
   c.wpIn (fen ro) mm P (Met B n Q h w) a w:=by
 intro c
 induction c with
 | skip=>exact fun B ro mm Q e h hk a w g mk cv=>wpIn_skip ⟨e,h,hk,g,mk,cv,Grow.refl _ _⟩
 | region id ops draw =>
   intro B ro mm Q e h hk a w g mk cv
   cases draw with
   | false=>exact wpIn_region_list (seqK_sound _ _ _ _ _ hk g cv fun e' h' a' w' q1 q2 qd q3 q4=>⟨e',h',q1,q2,qd▸mk.grow q4,q3,q4⟩)
   | true =>
     simp only[codeK] at hk
     split at hk
     · rename_i hfit
       exact region_draw hm hfit hk g cv fun e' h' a' w' q1 q2 qd q3 q4=>⟨e',h',q1,q2,qd▸mk.grow q4,q3,q4⟩
     · exact hk.elim
 | seq x y ihx ihy =>
   intro B ro mm Q e h hk a w g mk cv
   refine wpIn_seq ?_
   simp only[codeK] at hk
   split at hk
   · refine Code.wpIn_mono ?_ (ihx B ro mm _ e h hk a w g mk cv)
     rintro x' a' w' ⟨e',h',hq,g',mk',cv',gr⟩
     cases x' with
     | normal=>exact Code.wpIn_mono (fun _ _ _ hmm=>hmm.mono gr fun _ _ _ hh=>hh) (ihy B ro mm Q e' h' hq a' w' g' mk' cv')
     | _=>exact⟨e',h',hq,g',mk',cv',gr⟩
   · rename_i live _
     obtain⟨J,hfirst,hrest⟩:=hk
     refine Code.wpIn_mono ?_ (ihx B ro mm _ e h hfirst a w g mk cv)
     rintro x' a' w' ⟨e',h',hq,g',mk',cv',gr⟩
     cases x' with
     | normal =>
       obtain⟨vs,hv,hgood⟩:=getS_elim g' _ _ hq
       obtain⟨vs',I,h1,_,h3,h4⟩:=appL_all _ J vs _ _ hv hrest
       exact Code.wpIn_mono (fun _ _ _ hmm=>hmm.mono gr fun _ _ _ hh=>hh) (ihy B ro mm Q _ h' (h4 h' h3) a' w' (hgood vs' h1) mk' cv')
     | _=>exact⟨e',h',hq,g',mk',cv',gr⟩
 | cond c x y ihx ihy =>
   intro B ro mm Q e h hk a w g mk cv
   simp only[codeK] at hk
   split at hk
   · rename_i t
     split at hk
     · rename_i b hb
       split at hb
       · rename_i ht
         have he:a.eval (.tmp t)= .bool b:=g.has t _ ht hb
         have hp:=put_self hb
         cases b with
         | true =>
           rw[ifB_true,hp] at hk
           exact wpIn_cond_true he (ihx B ro mm Q e h hk a w g mk cv)
         | false =>
           rw[ifB_false,hp] at hk
           exact wpIn_cond_false he (ihy B ro mm Q e h hk a w g mk cv)
       · cases hb
     · exact hk.elim
   · rename_i b
     cases b with
     | true=>exact wpIn_cond_true rfl (ihx B ro mm Q e h hk a w g mk cv)
     | false=>exact wpIn_cond_false rfl (ihy B ro mm Q e h hk a w g mk cv)
   · exact hk.elim
 | block id c ih =>
   intro B ro mm Q e h hk a w g mk cv
   refine wpIn_block (Code.wpIn_mono ?_ (ih B ro mm _ e h hk a w g mk cv))
   rintro x' a' w' ⟨e',h',hq,g',mk',cv',gr⟩
   cases x' with
   | exit id' =>
     simp only[blockK] at hq
     simp only[Exit.inBlock]
     split at hq
     · rename_i hid;rw[if_pos hid];exact⟨e',h',hq,g',mk',cv',gr⟩
     · rename_i hid;rw[if_neg hid];exact⟨e',h',hq,g',mk',cv',gr⟩
   | _=>exact⟨e',h',hq,g',mk',cv',gr⟩
 | exit id=>exact fun B ro mm Q e h hk a w g mk cv=>wpIn_exit ⟨e,h,hk,g,mk,cv,Grow.refl _ _⟩
 | ret=>exact fun B ro mm Q e h hk a w g mk cv=>wpIn_ret ⟨e,h,hk,g,mk,cv,Grow.refl _ _⟩
 | loop c ih =>
   intro B ro mm Q e h hk a w g mk cv
   simp only[codeK] at hk
   split at hk
   · rename_i live _
     obtain⟨J,hstart,hround⟩:=hk
     obtain⟨vs,hv,hgood⟩:=getS_elim g _ _ hstart
     obtain⟨vs',I,h1,_,⟨m,h3⟩,h4⟩:=appL_all _ J vs _ _ hv hround
     refine wp_loop_num (fun a' w' m'=>∃vs' I h',I h' m'∧(∀h m,I h m→codeK P n A ro c (thenK (fun e' h'=>getS n e' live fun vs'=>appL (tyz live) J vs' fun I'=>∃m',m'<m∧I' h' m') Q) (setS live vs') h) ∧
       Good n (setS live vs') a'∧Mk B a'.defers h' w'∧Cov h' w'∧Grow h h' w w') (m:=m) ⟨vs',I,h,h3,h4,hgood vs' h1,mk,cv,Grow.refl _ _⟩ ?_
     rintro a₁ w₁ m₁ ⟨vs₁,I₁,h₁,hI₁,hb₁,g₁,mk₁,cv₁,gr₁⟩
     refine Code.wpIn_mono ?_ (ih B ro mm _ _ _ (hb₁ h₁ m₁ hI₁) a₁ w₁ g₁ mk₁ cv₁)
     rintro x' a' w' ⟨e',h',hq,g',mk',cv',gr⟩
     cases x' with
     | normal =>
       obtain⟨vs2,hv2,hgood2⟩:=getS_elim g' _ _ hq
       obtain⟨vs3,I3,q1,_,⟨m3,hlt,q3⟩,q4⟩:=appL_all _ J vs2 _ _ hv2 hround
       exact⟨m3,hlt,vs3,I3,h',q3,q4,hgood2 vs3 q1,mk',cv',gr₁.trans gr⟩
     | _=>exact⟨e',h',hq,g',mk',cv',gr₁.trans gr⟩
   · exact hk.elim
 | rangeFunc f ps x y ihx ihy =>
   intro B ro mm Q e h hk a w g mk cv
   simp only[codeK] at hk
   split at hk
   · rename_i tys _
     split at hk
     · rename_i hlen
       obtain⟨s,⟨har,hk⟩,hs⟩:=evK_elim hk
       refine wpIn_rangeFunc fun fn _=>?_
       obtain⟨l,mark,r,w1,hrun,hl,c1,g1,mk1,e1,e2,e3,e4⟩:=enter_run (P:=P) (n:=n) cv har fn a mk ps x y
       have hcall:=hk r l hl (forTL_all _ _ fun args hargs h' Q' hrd hcode w' cv'=>by
         refine⟨{ r with state:= .ready,pending:=none },cv' l _ hrd,by rw[e1,vals_length,hargs,hlen],?_⟩
         refine roundIn_of_wpIn trivial ?_
         simp only[e1,e2,e3,e4]
         have ga:Good n (setP ps.toList args e) { tmps:=(ps.zip (SV.vals args).toArray).foldl (fun tmps (x:Nat×Value)=>tmps.setIfInBounds x.1 x.2) a.tmps,defers:=[] }:=by
           have:=setP_good ps.toList args e { tmps:=a.tmps,defers:=[] } ⟨g.size,g.has⟩
           have ez:(ps.zip (SV.vals args).toArray).foldl (fun tmps (x:Nat×Value)=>tmps.setIfInBounds x.1 x.2) a.tmps=(ps.toList.zip (SV.vals args)).foldl (fun tmps (x:Nat×Value)=>tmps.setIfInBounds x.1 x.2) a.tmps:=by
             rw[←Array.foldl_toList];simp
           rw[ez];exact this
         refine Code.wpIn_mono ?_ (ihx 0 (some l) 0 _ _ h' hcode _ w' ga (Mk.nil _ (Nat.zero_le _)) cv')
         rintro x' a2 w2 ⟨e2',h2,hq,g2,mk2,cv2,gr2⟩
         cases x' with
         | normal =>
           obtain⟨hr2,hnext⟩:=hq
           refine⟨_,run_beginRound (cv2 l _ hr2) rfl,?_⟩
           have c3:=cv2.putO (o':=busyL r) hr2
           have g3:=Grow.putO h2 w2 (o':=busyL r) hr2
           refine Code.wpIn_mono ?_ (ihy 0 (some l) 0 _ e2' _ hnext a2 _ g2 (mk2.grow g3) c3)
           rintro x'' a4 w4 ⟨e4',h4,hq4,g4,_,cv4,gr4⟩
           have gall:=(gr2.trans g3).trans gr4
           cases x'' with
           | normal=>exact⟨_,_,run_endRound none (cv4 l _ hq4.1),_,_,rfl,hq4.2,cv4.putO hq4.1,gall.trans (Grow.putO _ _ hq4.1)⟩
           | ret=>exact⟨_,_,run_endRound (some .ret) (cv4 l _ hq4.1),_,_,rfl,hq4.2,cv4.putO hq4.1,gall.trans (Grow.putO _ _ hq4.1)⟩
           | exit id=>exact⟨_,_,run_endRound (some (.exit id)) (cv4 l _ hq4.1),_,_,rfl,hq4.2,cv4.putO hq4.1,gall.trans (Grow.putO _ _ hq4.1)⟩
           | _=>exact hq4.elim
         | _=>exact hq.elim)
       unfold callF at hcall
       split at hcall
       · rename_i gf first cs hsv
         obtain⟨rfl,hcall⟩:=hcall
         have ea:([yv l]++cs.toList).toArray=#[yv l]++cs:=by apply Array.toList_inj.1;simp
         have hcl:=hcall.2 w1 c1
         rw[ea] at hcl
         refine⟨l,mark,w1,{ target:= .fn (.func gf) cs,args:=#[yv l] },w1,gf,#[yv l]++cs,w1,hrun,?_,fun _ _=>trivial,?_,fen_dep ro,calls_fen (hcl.mono ?_)⟩
         · have he:=hs a g
           rw[hsv] at he
           simp[resolve,rangeCall,he,Deferred.ofValue,yv]
           rfl
         · simp only[invoke,run_callFunc hcall.1]
         · rintro ed w3 ⟨v,h3,rfl,hq,cv3,gr3⟩
           have gall:=g1.trans gr3
           rcases endQ_elim hq with ⟨hl3,hQ⟩|⟨hl3,hQ⟩|⟨id,hl3,hQ⟩
           · exact⟨none,_,run_endLoop (cv3 l _ hl3) (by simp),e,_,hQ,⟨g.size,g.has⟩,(mk1.grow gr3).grow (Grow.putO _ _ hl3),cv3.putO hl3,gall.trans (Grow.putO _ _ hl3)⟩
           · exact⟨some .ret,_,run_endLoop (cv3 l _ hl3) (by simp),wpIn_ret ⟨e,_,hQ,⟨g.size,g.has⟩,(mk1.grow gr3).grow (Grow.putO _ _ hl3),cv3.putO hl3,gall.trans (Grow.putO _ _ hl3)⟩⟩
           · exact⟨some (.exit id),_,run_endLoop (cv3 l _ hl3) (by simp),wpIn_exit ⟨e,_,hQ,⟨g.size,g.has⟩,(mk1.grow gr3).grow (Grow.putO _ _ hl3),cv3.putO hl3,gall.trans (Grow.putO _ _ hl3)⟩⟩
       · exact hcall.elim
     · exact hk.elim
   · exact hk.elim
 | scope c _=>exact fun B ro mm Q e h hk=>hk.elim
 | label l=>exact fun B ro mm Q e h hk=>hk.elim
 | goto l=>exact fun B ro mm Q e h hk=>hk.elim
 | refuse s=>exact fun B ro mm Q e h hk=>hk.elim
/-! ## Results, and the call -/
def resK (P:Program) (n:Nat) (e:Env) (h:Hp):List ResultVar→(List SV→Prop)→Prop
 | [],K=>K []
 | .tmp t::l,K=>match (if t<n then e t else none) with
   | some s=>resK P n e h l fun r=>K (s::r)
   | none=>False
 | .cell t T::l,K=>match (if t<n then e t else none) with
   | some (.p q)=>ldK P T h q fun s=>resK P n e h l fun r=>K (s::r)
   | _=>False
def backK (P:Program) (n:Nat) (rs:Array ResultVar) (Q:Value→Hp→Prop):Post:=fun x e h =>
 match x with
 | .normal| .ret=>resK P n e h rs.toList fun r=>match r with|[s]=>Q s.val h|r=>Q (.tuple (SV.vals r).toArray) h
 | _=>False
def argE:Nat→List SV→Env
 | _,[]=>emp
 | i,s::l=>put (argE (i+1) l) i s
theorem argE_get:∀(l:List SV) (i t:Nat) (s:SV),argE i l t=some s→i≤t∧l[t-i]? =some s
 | [],i,t,s,h=>by simp[argE,emp] at h
 | x::l,i,t,s,h=>by
   simp only[argE,put] at h
   by_cases e1:t=i
   · subst e1;simp at h ⊢;exact h
   · rw[if_neg e1] at h
     obtain⟨h1,h2⟩:=argE_get l (i+1) t s h
     refine⟨by omega,?_⟩
     rw[show t-i=(t-(i+1))+1 by omega]
     simpa using h2
theorem vals_get:∀(l:List SV) (i:Nat) (s:SV),l[i]? =some s→(SV.vals l)[i]? =some s.val
 | [],i,s,h=>by simp at h
 | x::l,0,s,h=>by simp at h;subst h;rfl
 | x::l,i+1,s,h=>by simpa [SV.vals] using vals_get l i s (by simpa using h)
theorem resK_run {P:Program} {n:Nat} {e:Env} {a:Act} (g:Good n e a) {h:Hp} {w:World} (c:Cov h w):∀(l:List ResultVar) (K:List SV→Prop),resK P n e h l K →
   ∃r,K r∧(l.mapM fun (x:ResultVar)=>(match x with| .tmp t=>(pure (a.tmps.getD t undef):Sem Value)| .cell b t=>(do loadVar t (←asAddr (a.tmps.getD b undef))))).run P w= .ok (SV.vals r) w
 | [],K,hk=>⟨[],hk,by simp[SV.vals]⟩
 | .tmp t::l,K,hk=>by
   simp only[resK] at hk
   split at hk
   · rename_i s hs
     split at hs
     · rename_i ht
       obtain⟨r,hk,hr⟩:=resK_run g c l _ hk
       refine⟨s::r,hk,?_⟩
       simp only[List.mapM_cons,Sem.run_bind,Sem.run_pure,Result.andThen_ok,hr,SV.vals,g.has t s ht hs]
     · cases hs
   · exact hk.elim
 | .cell t T::l,K,hk=>by
   simp only[resK] at hk
   split at hk
   · rename_i q hs
     split at hs
     · rename_i ht
       obtain⟨s,hk,hst,h1,h2⟩:=ldK_elim hk
       obtain⟨r,hk,hr⟩:=resK_run g c l _ hk
       refine⟨s::r,hk,?_⟩
       have hA:(asAddr (a.tmps.getD t undef)).run P w= .ok q.addr w:=by rw[g.has t _ ht hs];rfl
       simp only[List.mapM_cons,Sem.run_bind,hA,Sem.run_pure,Result.andThen_ok,run_loadVar c h1 h2 hst,hr,SV.vals]
     · cases hs
   · exact hk.elim
theorem results_run {P:Program} {n:Nat} {e:Env} {a:Act} (g:Good n e a) {h:Hp} {w:World} (c:Cov h w) {fn:Func} {Q:Value→Hp→Prop} {x:Exit} (hk:backK P n fn.results Q x e h) :
   (x= .normal∨x= .ret)∧∃v,(results fn a.tmps).run P w= .ok v w∧Q v h:=by
 have hx:x= .normal∨x= .ret:=by
   cases x<;>first|exact .inl rfl|exact .inr rfl|exact(show False from hk).elim
 refine⟨hx,?_⟩
 have hk':resK P n e h fn.results.toList fun r=>match r with|[s]=>Q s.val h|r=>Q (.tuple (SV.vals r).toArray) h:=by
   rcases hx with rfl|rfl<;>exact hk
 obtain⟨r,hk2,hr⟩:=resK_run g c _ _ hk'
 have hmap:(fn.results.mapM fun (x:ResultVar)=>(match x with| .tmp t=>(pure (a.tmps.getD t undef):Sem Value)| .cell b t=>(do loadVar t (←asAddr (a.tmps.getD b undef))))).run P w= .ok (SV.vals r).toArray w:=by
   obtain⟨l0,hl0⟩:∃l,fn.results=List.toArray l:=⟨fn.results.toList,by simp⟩
   rw[hl0] at hr ⊢
   rw[List.mapM_toArray]
   simp only[Sem.run_map,hr,Result.andThen_ok]
 unfold results
 simp only[Sem.run_bind]
 erw [hmap]
 simp only[Result.andThen_ok,Sem.run_pure]
 cases r with
 | nil=>exact⟨_,rfl,hk2⟩
 | cons s r =>
   cases r with
   | nil=>exact⟨_,rfl,hk2⟩
   | cons s2 r=>exact⟨_,rfl,hk2⟩
theorem leave_marks {P:Program} {fn:Func} {tmps:Array Value} {R:Ending→World→Prop} {h:Hp}:∀(ds:List Deferred) (w0:World) (h0:Hp) (w:World),Mk w0.heap.size ds h w→Cov h w→Grow h0 h w0 w →
   (∀w',Cov h w'→Grow h0 h w0 w'→∃v,(results fn tmps).run P w'= .ok v w'∧R (.returned v) w')→LeavesInM (fen none) 0 P fn tmps R ds .returning w
 | [],w0,h0,w,_,c,g,hr=>hr w c g
 | d::ds,w0,h0,w,⟨hB,bs,e,nd,hb⟩,c,g,hr=>by
   cases bs with
   | nil=>cases e
   | cons b bs =>
     simp only[List.map_cons,List.cons.injEq] at e
     obtain⟨rfl,rfl⟩:=e
     obtain⟨q0,q1,q2⟩:=hb b List.mem_cons_self
     have nd':=List.nodup_cons.1 nd
     refine⟨(fun h=>by cases h),.inl ⟨b,_,rfl,run_takeDeferred q2,leave_marks _ w0 h0 _ ⟨by simpa using hB,bs,rfl,nd'.2,fun x hx=>?_⟩ ?_ ?_ hr⟩⟩
     · obtain⟨p0,p1,p2⟩:=hb x (List.mem_cons_of_mem _ hx)
       have hne:x≠b:=fun e=>nd'.1 (e▸hx)
       exact⟨p0,p1,by rw[World.putObj_heap_other hne];exact p2⟩
     · intro x o hx
       have hne:x≠b:=fun e=>by subst e;rw[q1] at hx;cases hx
       rw[World.putObj_heap_other hne];exact c x o hx
     · refine⟨g.os,g.tape,g.output,by simpa using g.size,fun x hx hlt=>?_⟩
       have hne:x≠b:=by omega
       obtain⟨r1,r2⟩:=g.rest x hx hlt
       exact⟨r1,by rw[World.putObj_heap_other hne];exact r2⟩
theorem calls_of_codeK {P:Program} {f:FuncId} {fn:Func} {c:Code} (A:Ann) (hm:P.follows .mixedOrders=true) (hf:P.funcs[f]? =some fn) (hb:fn.body=some c) (hok:okFn P f=true)
   (args:List SV) (hn:args.length≤fn.ntmps) {h:Hp} {Q:Value→Hp→Prop} (hk:codeK P fn.ntmps A none c (backK P fn.ntmps fn.results Q) (argE 0 args) h):callK P f (SV.vals args) h Q:=by
 refine⟨hok,fun w cv=>(callsIn_of_wp_marks (F:=fen none) (n:=0) hf hb trivial (Code.wpIn_mono ?_ (codeK_sound hm c w.heap.size none 0 _ _ h hk _ w ?_ (Mk.nil _ (Nat.le_refl _)) cv))).calls (fun _ _ h=>by cases h)⟩
 · rintro x a w' ⟨e',h',hq,g',mk',cv',gr⟩
   have hx:=(results_run g' cv' hq).1
   have hl:LeavesInM (fen none) 0 P fn a.tmps (fun e w'=>∃v h',e= .returned v∧Q v h'∧Cov h' w'∧Grow h h' w w') a.defers .returning w':=by
     refine leave_marks _ w h w' mk' cv' gr fun w2 c2 g2=>?_
     obtain⟨_,v,hr,hQ⟩:=results_run g' c2 hq
     exact⟨v,hr,v,h',rfl,hQ,c2,g2⟩
   rcases hx with rfl|rfl<;>exact hl
 · refine⟨by simp[vals_length];omega,fun t s ht hs=>?_⟩
   obtain⟨_,h2⟩:=argE_get _ _ _ _ hs
   have h3:=vals_get _ _ _ h2
   simp only[Nat.sub_zero] at h3
   simp only[Array.getD_eq_getD_getElem?]
   rw[Array.getElem?_append_left (by
     have:=(List.getElem?_eq_some_iff.1 h3).1
     simpa using this)]
   simp[h3]
def bodyK (P:Program) (fn:Func) (A:Ann) (Q:Value→Hp→Prop) (args:List SV) (h:Hp):Prop :=
 match fn.body with
 | some c=>codeK P fn.ntmps A none c (backK P fn.ntmps fn.results Q) (argE 0 args) h
 | none=>False
theorem calls_of_bodyK {P:Program} {f:FuncId} {fn:Func} (A:Ann) (hm:P.follows .mixedOrders=true) (hf:P.funcs[f]? =some fn) (hok:okFn P f=true)
   (args:List SV) (hn:args.length≤fn.ntmps) {h:Hp} {Q:Value→Hp→Prop} (hk:bodyK P fn A Q args h):callK P f (SV.vals args) h Q:=by
 unfold bodyK at hk
 split at hk
 · rename_i c hc
   exact calls_of_codeK A hm hf hc hok args hn hk
 · exact hk.elim
end Go.Sh

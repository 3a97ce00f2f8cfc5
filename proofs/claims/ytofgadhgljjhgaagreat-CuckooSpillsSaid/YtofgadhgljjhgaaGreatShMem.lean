/- Operations on memory: reads, stores, new blocks, calls; each sound for the model. -/
import Derived.Test.YtofgadhgljjhgaaGreatShOps
import Derived.Below
import Derived.OrdersIn
import Derived.TacticsIn
import Derived.RangeFuncLeaves
import Derived.RangeFuncRecord
import Derived.RangeFuncIn
namespace Go.Sh
open Go Go.RowKit
def upd (h:Hp) (b:Nat) (o:Obj):Hp:=fun x=>if x=b then some o else h x
theorem upd_same (h:Hp) (b:Nat) (o:Obj):upd h b o b=some o:=by simp[upd]
theorem upd_ne (h:Hp) {b c:Nat} (o:Obj) (hn:c≠b):upd h b o c=h c:=by simp[upd,hn]
theorem upd_comm (h:Hp) {b c:Nat} (o p:Obj) (hn:b≠c):upd (upd h b o) c p=upd (upd h c p) b o:=by
 funext x;unfold upd;by_cases h1:x=b<;>by_cases h2:x=c<;>simp_all
structure Grow (h h':Hp) (w w':World):Prop where
 os:w'.os=w.os
 tape:w'.tape=w.tape
 output:w'.output=w.output
 size:w.heap.size≤w'.heap.size
 rest:∀b,h b=none→b<w.heap.size→h' b=none∧w'.heap[b]? =w.heap[b]?
theorem Grow.refl (h:Hp) (w:World):Grow h h w w:=⟨rfl,rfl,rfl,Nat.le_refl _,fun _ hb _=>⟨hb,rfl⟩⟩
theorem Grow.trans {h1 h2 h3:Hp} {w1 w2 w3:World} (a:Grow h1 h2 w1 w2) (b:Grow h2 h3 w2 w3):Grow h1 h3 w1 w3 :=
 ⟨b.os.trans a.os,b.tape.trans a.tape,b.output.trans a.output,Nat.le_trans a.size b.size,fun x hx hl=>by
   obtain⟨h2x,e2⟩:=a.rest x hx hl
   obtain⟨h3x,e3⟩:=b.rest x h2x (Nat.lt_of_lt_of_le hl a.size)
   exact⟨h3x,e3.trans e2⟩⟩
theorem Cov.lt {h:Hp} {w:World} (c:Cov h w) {b:Nat} {o:Obj} (hb:h b=some o):b<w.heap.size:=by
 have:=c b o hb
 exact(Array.getElem?_eq_some_iff.1 this).1
theorem Cov.fresh {h:Hp} {w:World} (c:Cov h w):h w.heap.size=none:=by
 cases hb:h w.heap.size with
 | none=>rfl
 | some o=>exact absurd (c.lt hb) (Nat.lt_irrefl _)
theorem Cov.alloc {h:Hp} {w:World} (c:Cov h w) (o:Obj):Cov (upd h w.heap.size o) (w.alloc o):=by
 intro b x hb
 by_cases e:b=w.heap.size
 · subst e;rw[upd_same] at hb;cases hb;show(w.heap.push o)[w.heap.size]? =some o;simp
 · rw[upd_ne _ _ e] at hb
   have:=c.lt hb
   rw[Below.heap_alloc _ _ _ this];exact c _ _ hb
theorem Grow.alloc (h:Hp) (w:World) (o:Obj):Grow h (upd h w.heap.size o) w (w.alloc o) :=
 ⟨rfl,rfl,rfl,by simp,fun b hb hl=>⟨by rw[upd_ne _ _ (by omega)];exact hb,Below.heap_alloc _ _ _ hl⟩⟩
theorem Grow.drew (h:Hp) (w:World):Grow h h w w.drew:=⟨rfl,rfl,rfl,Nat.le_refl _,fun _ hb _=>⟨hb,rfl⟩⟩
/-! ## Reads -/
theorem rdL_addr {h:Hp} {w:World} (c:Cov h w) {b:Nat} {l:List Value} {o:Nat} (hr:rdL h b o l) (i:Nat) (hi:i<l.length) :
   w.cell? (Addr.add ⟨b,o,none⟩ i)=some l[i]:=by
 rw[show(⟨b,o,none⟩:Addr)=Pt.addr ⟨b,o⟩ from rfl,addr_add]
 exact c.cell ((rdL_iff h b l o).1 hr i hi)
theorem run_loadCellsFrom {P:Program} {h:Hp} {w:World} (c:Cov h w) {b o:Nat} (l:List Value) (hr:rdL h b o l) :
   ∀(k:Nat) (n:Nat) (acc:Array Value),k+n=l.length→(loadCellsFrom ⟨b,o,none⟩ k n acc).run P w= .ok (acc++(l.drop k).toArray) w:=by
 intro k n
 induction n generalizing k with
 | zero =>
   intro acc hk
   have:l.drop k=[]:=List.drop_eq_nil_of_le (by omega)
   simp[loadCellsFrom,this]
 | succ n ih =>
   intro acc hk
   have hlt:k<l.length:=by omega
   simp only[loadCellsFrom,Sem.run_bind,run_load,rdL_addr c hr k hlt,Result.andThen_ok]
   rw[ih (k+1) _ (by omega),List.drop_eq_getElem_cons hlt]
   congr 1
   apply Array.toList_inj.1
   simp
theorem run_loadCells {P:Program} {h:Hp} {w:World} (c:Cov h w) {b o:Nat} {l:List Value} (hr:rdL h b o l) :
   (loadCells ⟨b,o,none⟩ l.length).run P w= .ok l.toArray w:=by
 unfold loadCells
 rw[run_loadCellsFrom c l hr 0 l.length #[] (by omega)]
 simp
def Ty.isAg:Ty→Bool
 | .ag _=>true
 | .ws _=>true
 | _=>false
def ldK (P:Program) (T:TypeId) (h:Hp) (q:Pt) (K:SV→Prop):Prop :=
 if szT P T=some (tyOf P 9 T).size∧aggT P T=some (tyOf P 9 T).isAg then loadK h q.b (tyOf P 9 T) q.o K else False
theorem loadK_isAg (h:Hp) (b:Nat):∀(t:Ty) (o:Nat) (K:SV→Prop),loadK h b t o K →
   ∃r,K r∧rdL h b o (SV.cells r)∧(SV.cells r).length=t.size∧SV.flat r=true∧r.isAg=t.isAg:=by
 intro t o K hl
 cases t with
 | ag l =>
   obtain⟨r,hk,hr,hn,hf⟩:=loadKL_elim h b l o _ hl
   exact⟨_,hk,hr,hn,hf,rfl⟩
 | ws n =>
   obtain⟨c,hc,hk⟩:=hl
   obtain⟨r,hk',h1,h2,h3⟩:=loadK_elim h b (.ws n) o (fun r=>r= .ws n c) ⟨c,hc,rfl⟩
   subst hk'
   exact⟨_,hk,h1,h2,h3,rfl⟩
 | tup l=>exact hl.elim
 | v =>
   obtain⟨x,hx,h1,hk⟩:=hl
   exact⟨_,hk,by simp[SV.cells,rdL,hx],rfl,h1,rfl⟩
 | i k=>obtain⟨x,hx,hk⟩:=hl;exact⟨_,hk,by simp[SV.cells,rdL,hx],rfl,rfl,rfl⟩
 | u=>obtain⟨x,hx,hk⟩:=hl;exact⟨_,hk,by simp[SV.cells,rdL,hx],rfl,rfl,rfl⟩
 | b=>obtain⟨x,hx,hk⟩:=hl;exact⟨_,hk,by simp[SV.cells,rdL,hx],rfl,rfl,rfl⟩
 | p=>obtain⟨x,hx,hk⟩:=hl;exact⟨_,hk,by simp[SV.cells,rdL,hx],rfl,rfl,rfl⟩
 | f=>obtain⟨g,c,hx,hk⟩:=hl;exact⟨_,hk,by simp[SV.cells,rdL,hx],rfl,rfl,rfl⟩
 | pn=>obtain⟨x,hx,hk⟩:=hl;exact⟨_,hk,by simp[SV.cells,rdL,hx],rfl,rfl,rfl⟩
 | s=>obtain⟨x,hx,hk⟩:=hl;exact⟨_,hk,by simp[SV.cells,rdL,hx],rfl,rfl,rfl⟩
 | str=>obtain⟨x,hx,hk⟩:=hl;exact⟨_,hk,by simp[SV.cells,rdL,hx],rfl,rfl,rfl⟩
 | m=>obtain⟨x,hx,hk⟩:=hl;exact⟨_,hk,by simp[SV.cells,rdL,hx],rfl,rfl,rfl⟩
def Stands (h:Hp) (q:Pt) (r:SV):Prop:=rdL h q.b q.o (SV.cells r)
theorem run_loadVar {P:Program} {T:TypeId} {h:Hp} {w:World} (c:Cov h w) {q:Pt} {r:SV} (h1:szT P T=some r.size) (h2:aggT P T=some r.isAg) (hs:Stands h q r) :
   (loadVar T q.addr).run P w= .ok r.val w:=by
 unfold loadVar
 simp only[Sem.run_bind,run_isAgg h2,Result.andThen_ok]
 cases hr:r.isAg with
 | true =>
   have:=run_loadCells (P:=P) c hs
   rw[SV.cells_size] at this
   simp only[if_true,Sem.run_bind,run_sizeOf' h1,Result.andThen_ok,Sem.run_pure]
   rw[show q.addr=⟨q.b,q.o,none⟩ from rfl,this,SV.val_ag hr]
   rfl
 | false =>
   simp only[Bool.false_eq_true,if_false]
   unfold Stands at hs
   rw[SV.cells_sc hr] at hs
   simp only[run_load,show q.addr=⟨q.b,q.o,none⟩ from rfl,c.cell hs.1]
theorem ldK_elim {P:Program} {T:TypeId} {h:Hp} {q:Pt} {K:SV→Prop} (hl:ldK P T h q K) :
   ∃r,K r∧Stands h q r∧szT P T=some r.size∧aggT P T=some r.isAg:=by
 unfold ldK at hl
 split at hl
 · rename_i hc
   obtain⟨r,hk,hr,hn,hf,ha⟩:=loadK_isAg _ _ _ _ _ hl
   exact⟨r,hk,hr,by rw[hc.1,←hn,SV.cells_size],by rw[hc.2,ha]⟩
 · exact hl.elim
/-! ## Stores -/
def hwr (c:Array Value) (o:Nat):List Value→Array Value
 | []=>c
 | v::l=>hwr (c.setIfInBounds o v) (o+1) l
theorem hwr_size (l:List Value):∀(c:Array Value) (o:Nat),(hwr c o l).size=c.size:=by
 induction l with
 | nil=>intro c o;rfl
 | cons v l ih=>intro c o;simp[hwr,ih]
def storeK (h:Hp) (q:Pt) (l:List Value) (K:Hp→Prop):Prop :=
 ∃c t,h q.b=some (.cells c t (0,0))∧q.o+l.length≤c.size∧K (upd h q.b (.cells (hwr c q.o l) t (0,0)))
theorem run_storeCells {P:Program} (b o:Nat):∀(l:List Value) (k:Nat) (h:Hp) (w:World) (c:Array Value) (t:TypeId),Cov h w →
   (∀v∈l,v.oneCell'=true)→h b=some (.cells c t (0,0))→o+k+l.length≤c.size →
   ∃w',(storeCells ⟨b,o,none⟩ l k).run P w= .ok () w'∧Cov (upd h b (.cells (hwr c (o+k) l) t (0,0))) w'∧Grow h (upd h b (.cells (hwr c (o+k) l) t (0,0))) w w'
 | [],k,h,w,c,t,hc,_,hb,_=>by
   refine⟨w,rfl,?_,?_⟩
   · intro x y hx
     by_cases e:x=b
     · subst e;rw[upd_same] at hx;cases hx;exact hc _ _ hb
     · rw[upd_ne _ _ e] at hx;exact hc _ _ hx
   · refine⟨rfl,rfl,rfl,Nat.le_refl _,fun x hx _=>⟨?_,rfl⟩⟩
     rw[upd_ne _ _ (fun e=>by subst e;rw[hb] at hx;cases hx)];exact hx
 | v::l,k,h,w,c,t,hc,hv,hb,hl=>by
   simp only[List.length_cons] at hl
   have hlt:o+k<c.size:=by omega
   have hw:w.heap[b]? =some (.cells c t (0,0)):=hc _ _ hb
   have hcell:w.cell? (Addr.add ⟨b,o,none⟩ k)=some c[o+k]:=by
     rw[show(⟨b,o,none⟩:Addr)=Pt.addr ⟨b,o⟩ from rfl,addr_add]
     simp[Pt.addr,World.cell?,hw,hlt]
   have hfro:w.frozen? (Addr.add ⟨b,o,none⟩ k)=false:=by
     rw[show(⟨b,o,none⟩:Addr)=Pt.addr ⟨b,o⟩ from rfl,addr_add]
     simp[Pt.addr,World.frozen?,hw]
   have hblk:(Addr.add ⟨b,o,none⟩ k).block=b:=by unfold Addr.add;split<;>rfl
   have hsame:(w.setCell (Addr.add ⟨b,o,none⟩ k) v).heap[b]? =some (.cells (c.setIfInBounds (o+k) v) t (0,0)):=by
     rw[show(⟨b,o,none⟩:Addr)=Pt.addr ⟨b,o⟩ from rfl,addr_add]
     simp only[Pt.addr,World.setCell,Array.getElem?_modify,if_true,hw,Option.map_some]
     rfl
   have hother:∀x,x≠b→(w.setCell (Addr.add ⟨b,o,none⟩ k) v).heap[x]? =w.heap[x]?:=fun x hx=>Below.heap_setCell _ _ _ _ (by rw[hblk];exact hx)
   have hbl:b<w.heap.size:=hc.lt hb
   have hc1:Cov (upd h b (.cells (c.setIfInBounds (o+k) v) t (0,0))) (w.setCell (Addr.add ⟨b,o,none⟩ k) v):=by
     intro x y hx
     by_cases e:x=b
     · subst e;rw[upd_same] at hx;cases hx;exact hsame
     · rw[upd_ne _ _ e] at hx;rw[hother x e];exact hc _ _ hx
   have hg1:Grow h (upd h b (.cells (c.setIfInBounds (o+k) v) t (0,0))) w (w.setCell (Addr.add ⟨b,o,none⟩ k) v):=by
     refine⟨rfl,rfl,rfl,by simp,fun x hx _=>?_⟩
     have e:x≠b:=fun e=>by subst e;rw[hb] at hx;cases hx
     exact⟨by rw[upd_ne _ _ e];exact hx,hother x e⟩
   obtain⟨w',hr,hc',hg'⟩:=run_storeCells b o l (k+1) _ _ (c.setIfInBounds (o+k) v) t hc1 (fun x hx=>hv x (List.mem_cons_of_mem _ hx)) (upd_same _ _ _) (by simp;omega)
   have eu:∀z:Obj,upd (upd h b (.cells (c.setIfInBounds (o+k) v) t (0,0))) b z=upd h b z:=by
     intro z;funext x;unfold upd;split<;>rfl
   rw[eu] at hc' hg'
   refine⟨w',?_,hc',hg1.trans hg'⟩
   simp only[storeCells,Sem.run_bind,run_store _ _ _ _ _ (hv v (List.mem_cons_self)),hcell,hfro,Result.andThen_ok,Bool.false_eq_true,if_false]
   exact hr
theorem run_storeVar {P:Program} {T:TypeId} {h:Hp} {w:World} (hc:Cov h w) {q:Pt} {r:SV} (h1:szT P T=some r.size) (hf:r.flat=true) {K:Hp→Prop} (hk:storeK h q (SV.cells r) K) :
   ∃h' w',K h'∧(storeVar T q.addr r.val).run P w= .ok () w'∧Cov h' w'∧Grow h h' w w':=by
 obtain⟨c,t,hb,hl,hK⟩:=hk
 obtain⟨w',hr,hc',hg'⟩:=run_storeCells (P:=P) q.b q.o (SV.cells r) 0 h w c t hc (SV.cells_one r hf) hb (by simpa using hl)
 refine⟨_,w',hK,?_,hc',hg'⟩
 have hv:=SV.cells_val r hf
 simp only[storeVar,Sem.run_bind,run_sizeOf' h1,Result.andThen_ok,hv,List.size_toArray,SV.cells_size,ne_eq,not_true,if_false,Sem.run_ite]
 simpa [Pt.addr] using hr
/-! ## Calls -/
def okFn (P:Program) (f:FuncId):Bool :=
 match P.funcs[f]? with
 | some fn=>fn.name != "runtime.NumGoroutine"&&fn.body.isSome
 | none=>false
def callK (P:Program) (f:FuncId) (args:List Value) (h:Hp) (Q:Value→Hp→Prop):Prop :=
 okFn P f=true∧∀w,Cov h w→Calls P f args.toArray w fun e w'=>∃v h',e= .returned v∧Q v h'∧Cov h' w'∧Grow h h' w w'
theorem callK.mono {P:Program} {f:FuncId} {args:List Value} {h:Hp} {Q Q':Value→Hp→Prop} (hc:callK P f args h Q) (hq:∀v h',Q v h'→Q' v h'):callK P f args h Q' :=
 ⟨hc.1,fun w c=>(hc.2 w c).mono fun _ _ ⟨v,h',he,q,c',g⟩=>⟨v,h',he,hq v h' q,c',g⟩⟩
theorem run_callFunc {P:Program} {f:FuncId} (h:okFn P f=true) (args:Array Value) (w:World):(callFunc f args).run P w= .ok (.enter f args) w:=by
 unfold okFn at h
 split at h
 · rename_i fn hf
   simp only[Bool.and_eq_true,bne_iff_ne,ne_eq] at h
   obtain⟨hn,hb⟩:=h
   obtain⟨c,hc⟩:=Option.isSome_iff_exists.1 hb
   simp only[callFunc,Sem.run_bind,run_program,Result.andThen_ok,hf]
   rw[if_neg (by simpa using hn),if_neg (by simp[hc])]
   rfl
 · cases h
/-! ## Function values -/
def fen (ro:Option Nat):Fence:={ fn:=fun _=>True,depth:=none,alive:=false,round:=ro }
theorem fen_dep (ro:Option Nat) {n:Nat}:(fen ro).depth.isSome=true→1≤n:=fun h=>by cases h
theorem calls_fen {ro:Option Nat} {n:Nat} {P:Program} {f:FuncId} {args:Array Value} {w:World} {R:Ending→World→Prop} (h:Calls P f args w R):CallsIn (fen ro) n P f args w R:=by
 have h1:CallsIn Fence.wide n P f args w R:=callsIn_wide.2 h
 cases ro with
 | none=>exact h1
 | some l=>exact h1
theorem round_fen {ro:Option Nat} {n:Nat} {P:Program} {l:Nat} {f:FuncId} {tmps:Array Value} {assign body:Code} {w:World} {R:Ending→World→Prop} (h:RoundIn (fen none) 0 P l f tmps assign body w R) :
   RoundIn (fen ro) n P l f tmps assign body w R :=
 ⟨trivial,fun c cs _=>h.2 c cs (fun _ h=>by cases h)⟩
def isDefer:Op→Bool
 | .defer _=>true
 | _=>false
theorem sem_fen (ro:Option Nat) (a:Act) (o:Oper) (h:isDefer o.op=false):Oper.semAt ro a.eval o=execOp a.eval o :=
 Oper.semAt_eq ro a.eval o (fun c hc=>by rw[hc] at h;cases h)
def yldK (P:Program) (l:Nat) (args:List Value) (h:Hp) (Q:Value→Hp→Prop):Prop :=
 ∀w,Cov h w→∃r:Loop,w.heap[l]? =some (.loop r)∧args.length=r.params.size ∧
  RoundIn (fen none) 0 P l r.fn ((r.params.zip args.toArray).foldl (fun tmps (t,a)=>tmps.setIfInBounds t a) r.tmps) r.assign r.body w
    fun e w'=>∃v h',e= .returned v∧Q v h'∧Cov h' w'∧Grow h h' w w'
theorem yldK.mono {P:Program} {l:Nat} {args:List Value} {h:Hp} {Q Q':Value→Hp→Prop} (hc:yldK P l args h Q) (hq:∀v h',Q v h'→Q' v h'):yldK P l args h Q':=fun w c =>
 let ⟨r,h1,h2,h3⟩:=hc w c
 ⟨r,h1,h2,h3.mono fun _ _ ⟨v,h',he,q,c',g⟩=>⟨v,h',he,hq v h' q,c',g⟩⟩
def callV (P:Program) (x:Value) (args:List Value) (h:Hp) (Q:Value→Hp→Prop):Prop :=
 match x with
 | .func (.func g) first cs=>first=#[]∧callK P g (args++cs.toList) h Q
 | .func (.yield l) first cs=>first=#[]∧cs=#[]∧yldK P l args h Q
 | _=>False
theorem callV.mono {P:Program} {x:Value} {args:List Value} {h:Hp} {Q Q':Value→Hp→Prop} (hc:callV P x args h Q) (hq:∀v h',Q v h'→Q' v h'):callV P x args h Q':=by
 unfold callV at hc ⊢
 split at hc
 · exact⟨hc.1,hc.2.mono hq⟩
 · exact⟨hc.1,hc.2.1,hc.2.2.mono hq⟩
 · exact hc.elim
/-! ## New blocks -/
def newK (h:Hp) (o:Obj) (K:Nat→Hp→Prop):Prop:=∀b,h b=none→K b (upd h b o)
def inRow:Nat→List (Nat×SV)→Bool
 | _,[]=>true
 | k,(i,_)::l=>i==k&&inRow (k+1) l
def zRow (z:Array Value) (n:Nat):Array Value:=(Array.range n).map (z[·%z.size]!)
theorem fill_row (sz:Nat):∀(l:List (Nat×SV)) (k:Nat) (pre old:List Value),inRow k l=true→(∀x∈l,x.2.size=sz∧x.2.flat=true) →
   pre.length=k*sz→old.length=l.length*sz →
   Instr.fill (fun i=>some (i*sz,sz)) (pre++old).toArray (l.map fun x=>(x.1,x.2.val))=some (pre++SV.cellsL (l.map (·.2))).toArray
 | [],k,pre,old,_,_,_,ho=>by
   obtain rfl:old=[]:=List.length_eq_zero_iff.1 (by simpa using ho)
   simp[Instr.fill,SV.cellsL]
 | (i,r)::l,k,pre,old,hi,hs,hp,ho=>by
   simp only[inRow,Bool.and_eq_true,beq_iff_eq] at hi
   obtain⟨rfl,hi⟩:=hi
   obtain⟨hr,hf⟩:=hs (i,r) List.mem_cons_self
   simp only[List.length_cons] at ho
   have e0:(l.length+1)*sz=sz+l.length*sz:=by rw[Nat.add_mul,Nat.one_mul,Nat.add_comm]
   have hol:(old.take sz).length=sz:=by rw[List.length_take];omega
   have e1:pre++old=pre++old.take sz++old.drop sz:=by rw[List.append_assoc,List.take_append_drop]
   simp only at hr hf
   have hcl:(SV.cells r).length=sz:=by rw[SV.cells_size,hr]
   simp only[List.map_cons]
   rw[e1,fill_one (off:=i*sz) (l:=SV.cells r) (by rw[hcl]) (SV.cells_val r hf) (by rw[hol,hcl]) hp.symm]
   rw[fill_row sz l (i+1) (pre++SV.cells r) (old.drop sz) hi (fun x hx=>hs x (List.mem_cons_of_mem _ hx)) (by
     rw[List.length_append,hp,hcl,Nat.add_mul,Nat.one_mul]) (by rw[List.length_drop,ho,e0];omega)]
   simp[SV.cellsL]
def bldRow (P:Program) (T:TypeId) (len:Nat) (ps:List (Nat×SV)) (h:Hp) (K:Sl→Hp→Prop):Prop :=
 match P.underlying T with
 | some (.slice el)=>match szT P el,zrT P el with
   | some sz,some z=>if ps.length=len∧inRow 0 ps=true∧(ps.all fun x=>x.2.size==sz&&x.2.flat)=true∧z.cells.size=sz∧len*sz≤16777216 then
       newK h (.cells (SV.cellsL (ps.map (·.2))).toArray el) fun b h=>K ⟨some ⟨b,0⟩,len,len,none⟩ h else False
   | _,_=>False
 | _=>False
theorem bldRow_elim {P:Program} {T:TypeId} {len:Nat} {ps:List (Nat×SV)} {h:Hp} {K:Sl→Hp→Prop} (hk:bldRow P T len ps h K) (w:World) (c:Cov h w) :
   ∃r h' w',K r h'∧(Instr.buildSlice T len (ps.map fun x=>(x.1,x.2.val)).toArray).run P w= .ok (vs r) w'∧Cov h' w'∧Grow h h' w w':=by
 unfold bldRow at hk
 split at hk
 · rename_i el hu
   split at hk
   · rename_i sz z hz hzr
     split at hk
     · rename_i hc
       obtain⟨h1,h2,h3,h4,h5⟩:=hc
       have h3':∀x∈ps,x.2.size=sz∧x.2.flat=true:=by
         intro x hx
         have:=List.all_eq_true.1 h3 x hx
         simpa using this
       refine⟨_,_,_,hk w.heap.size c.fresh,?_,c.alloc _,Grow.alloc _ _ _⟩
       have hbig:¬len*sz > 2 ^ 24:=by omega
       simp only[Instr.buildSlice,Sem.run_bind,run_underlying hu,Result.andThen_ok,run_sizeOf' hz]
       rw[if_neg hbig]
       have key:∀Z:Array Value,Z.size=len*sz→Instr.fill (fun i=>some (i*sz,sz)) Z (ps.map fun x=>(x.1,x.2.val))=some (SV.cellsL (ps.map (·.2))).toArray:=by
         intro Z hZ
         have:=fill_row sz ps 0 [] Z.toList h2 h3' (by simp) (by simp[hZ,h1])
         simpa using this
       by_cases h0:len*sz=0
       · simp only[h0,if_true,Sem.run_bind,Sem.run_pure,Result.andThen_ok]
         rw[key _ (by simp[h0])]
         rfl
       · simp only[h0,if_false,Sem.run_bind,run_zero hzr,Sem.run_pure,Result.andThen_ok]
         rw[key _ (by simp)]
         rfl
     · exact hk.elim
   · exact hk.elim
 · exact hk.elim
def mkRow (P:Program) (T:TypeId) (len cap:Int) (h:Hp) (K:Sl→Hp→Prop):Prop :=
 match P.underlying T with
 | some (.slice el)=>match szT P el,zrT P el,(P.info? el).map (·.bytes) with
   | some sz,some z,some by_=>0≤len∧len≤cap∧(by_:Int)*cap≤281474976710656∧cap≤9223372036854775807 ∧
       newK h (.cells (zRow (if cap.toNat*sz=0 then #[] else z.cells) (cap.toNat*sz)) el) fun b h=>K ⟨some ⟨b,0⟩,len.toNat,cap.toNat,none⟩ h
   | _,_,_=>False
 | _=>False
theorem mkRow_elim {P:Program} {T:TypeId} {k k':IntKind} {len cap:Int} {h:Hp} {K:Sl→Hp→Prop} (hk:mkRow P T len cap h K) (w:World) (c:Cov h w) :
   ∃r h' w',K r h'∧(Instr.makeSlice T (.int k len) (.int k' cap)).run P w= .ok (vs r) w'∧Cov h' w'∧Grow h h' w w':=by
 unfold mkRow at hk
 split at hk
 · rename_i el hu
   split at hk
   · rename_i sz z by_ hz hzr hby
     obtain⟨h1,h2,h3,h4,hk⟩:=hk
     refine⟨_,_,_,hk w.heap.size c.fresh,?_,c.alloc _,Grow.alloc _ _ _⟩
     have hti:∃i,P.info? el=some i∧i.bytes=by_:=by
       cases hi:P.info? el with
       | none=>simp[hi] at hby
       | some i=>simp[hi] at hby;exact⟨i,rfl,hby⟩
     obtain⟨i,hi,rfl⟩:=hti
     have e1:IntKind.i64.wrap len=len:=IntWalk.i64_in len ⟨by omega,by omega⟩
     have e2:IntKind.i64.wrap cap=cap:=IntWalk.i64_in cap ⟨by omega,by omega⟩
     have hb0:¬(cap<0):=by omega
     have hb1:¬((i.bytes:Int)*cap > 2 ^ 48):=by
       have:(2:Int) ^ 48=281474976710656:=by decide
       omega
     have hb2:¬(len<0):=by omega
     have hb3:¬(len > cap):=by omega
     simp only[Instr.makeSlice,Sem.run_bind,run_underlying hu,Result.andThen_ok,asInt,asIntOf,Sem.run_pure,typeInfo,run_program,hi,e1,e2]
     simp only[hb0,hb1,hb2,hb3,decide_false,Bool.or_false,Bool.false_eq_true,if_false,Sem.run_bind,run_askRoom,Result.andThen_ok,run_sizeOf' hz]
     by_cases h0:cap.toNat*sz=0
     · simp only[h0,if_true,Sem.run_bind,Sem.run_pure,Result.andThen_ok]
       rfl
     · simp only[h0,if_false,Sem.run_bind,run_zero hzr,Sem.run_pure,Result.andThen_ok]
       rfl
   · exact hk.elim
 · exact hk.elim
/-! ## append, copy -/
def srcK (h:Hp) (x:SV) (sz n:Nat) (K:List Value→Prop):Prop :=
 match x with
 | .s x=>∃l:List Value,l.length=n*sz∧(∀v∈l,v.oneCell'=true)∧(match x.q with|some q=>rdL h q.b q.o l|none=>l=[])∧K l
 | .str s=>sz=1∧K (((s.extract 0 n).data.toList).map fun b=> .int .u8 (b.toNat:Int))
 | _=>False
theorem srcK_elim {P:Program} {h:Hp} {w:World} (c:Cov h w) {x:SV} {sz n:Nat} {K:List Value→Prop} (hk:srcK h x sz n K) :
   ∃l,K l∧(∀v∈l,v.oneCell'=true)∧(Builtin.firstCells sz n x.val).run P w= .ok l.toArray w:=by
 unfold srcK at hk
 split at hk
 · rename_i x
   obtain⟨l,hl,h1,hr,hk⟩:=hk
   refine⟨l,hk,h1,?_⟩
   cases hq:x.q with
   | none =>
     rw[hq] at hr
     simp only at hr
     subst hr
     have hl0:n*sz=0:=by simpa using hl.symm
     simp only[SV.val,vs]
     cases x.addr with
     | none=>simp[Builtin.firstCells]
     | some a =>
       simp only[Builtin.firstCells,hl0,loadCells]
       rfl
   | some q =>
     rw[hq] at hr
     simp only at hr
     have:=run_loadCells (P:=P) c hr
     rw[hl] at this
     simp only[SV.val,vs,Sl.addr_q hq]
     simpa [Builtin.firstCells,Pt.addr] using this
 · rename_i s
   obtain⟨rfl,hk⟩:=hk
   refine⟨_,hk,?_,?_⟩
   · intro v hv
     obtain⟨b,_,rfl⟩:=List.mem_map.1 hv
     rfl
   · simp only[Builtin.firstCells,SV.val,Sem.run_pure]
     congr 1
     apply Array.toList_inj.1
     simp
 · exact hk.elim
theorem srcK_elim2 {P:Program} {h:Hp} {w:World} (c:Cov h w) {x:SV} {sz n:Nat} {K:List Value→Prop} (hk:srcK h x sz n K) :
   ∃l,K l∧(∀v∈l,v.oneCell'=true)∧(Builtin.firstCells sz n x.val).run P w= .ok l.toArray w ∧
    (Builtin.firstCells sz n x.val).run P { w with drawn:=w.drawn+1 }= .ok l.toArray { w with drawn:=w.drawn+1 }:=by
 have:srcK h x sz n fun l=>K l∧srcK h x sz n fun l'=>l'=l:=by
   unfold srcK at hk ⊢
   split at hk
   · obtain⟨l,h1,h2,h3,h4⟩:=hk
     exact⟨l,h1,h2,h3,h4,l,h1,h2,h3,rfl⟩
   · exact⟨hk.1,hk.2,hk.1,rfl⟩
   · exact hk.elim
 obtain⟨l,⟨hk,hl⟩,h1,h2⟩:=srcK_elim (P:=P) c this
 obtain⟨l',e,_,h3⟩:=srcK_elim (P:=P) (w:={ w with drawn:=w.drawn+1 }) c hl
 subst e
 exact⟨_,hk,h1,h2,h3⟩
def lenOfK (x:SV) (K:Nat→Prop):Prop :=
 match x with
 | .s x=>K x.len
 | .str s=>K s.size
 | _=>False
theorem lenOfK_elim {P:Program} {x:SV} {K:Nat→Prop} (h:lenOfK x K):∃n,K n∧∀w,(Builtin.lenOf x.val).run P w= .ok n w:=by
 unfold lenOfK at h
 split at h
 · exact⟨_,h,fun w=>rfl⟩
 · exact⟨_,h,fun w=>rfl⟩
 · exact h.elim
def appK (P:Program) (T:TypeId) (x:Sl) (y:SV) (h:Hp) (K:Sl→Hp→Prop):Prop :=
 match P.underlying T with
 | some (.slice el)=>match szT P el,zrT P el,(P.info? el).map (·.bytes) with
   | some sz,some z,some by_=>lenOfK y fun n=>srcK h y sz n fun l =>
       cond (decide (x.len+n≤x.cap))
         (match x.q with|some q=>storeK h ⟨q.b,q.o+x.len*sz⟩ l fun h'=>K ⟨some q,x.len+n,x.cap,none⟩ h'|none=>l=[]∧K ⟨x.p,x.len+n,x.cap,x.z⟩ h)
         ((Builtin.nextslicecap (x.len+n) x.cap*by_≤281474976710656)∧((x.len+n:Nat):Int)≤9223372036854775807 ∧
           srcK h (.s x) sz x.len fun l0=>∀cp,x.len+n≤cp →
             newK h (.cells (l0.toArray++l.toArray++Builtin.zeroCells z.cells (cp-(x.len+n))) el) fun b h=>K ⟨some ⟨b,0⟩,x.len+n,cp,none⟩ h)
   | _,_,_=>False
 | _=>False
theorem appK_elim {P:Program} {T T':TypeId} {ats:Array TypeId} {ty:TypeId} {x:Sl} {y:SV} {h:Hp} {K:Sl→Hp→Prop} (hk:appK P T x y h K) (w:World) (c:Cov h w)
   (ha:ats[0]? =some T) (hb:ats[1]? =some T') (hd:(∃e,P.underlying T'=some (.slice e))∨P.underlying T'=some .string) :
   ∃r h' w',K r h'∧(Builtin.append_ ats ty #[vs x,y.val]).run P w= .ok (vs r) w'∧Cov h' w'∧Grow h h' w w':=by
 unfold appK at hk
 split at hk
 · rename_i el hu
   split at hk
   · rename_i sz z by_ hz hzr hby
     obtain⟨n,hk,hn⟩:=lenOfK_elim (P:=P) hk
     obtain⟨l,hk,hl1,hl,hl2⟩:=srcK_elim2 (P:=P) c hk
     have hti:∃i,P.info? el=some i∧i.bytes=by_:=by
       cases hi:P.info? el with
       | none=>simp[hi] at hby
       | some i=>simp[hi] at hby;exact⟨i,rfl,hby⟩
     obtain⟨i,hi,rfl⟩:=hti
     by_cases hroom:x.len+n≤x.cap
     · rw[decide_eq_true hroom] at hk
       simp only[cond_true] at hk
       cases hxq:x.q with
       | none =>
         rw[hxq] at hk
         simp only at hk
         obtain⟨rfl,hk⟩:=hk
         refine⟨_,h,w,hk,?_,c,Grow.refl _ _⟩
         have hst:∀a:Addr,(storeCells a [] 0).run P w= .ok () w:=fun a=>rfl
         rcases hd with ⟨e',hd'⟩|hd'
         all_goals
           rw[show vs ⟨x.p,x.len+n,x.cap,x.z⟩= .slice x.addr (x.len+n) x.cap from rfl]
           cases hxa:x.addr with
           | none=>simp only[Builtin.append_,ha,hb,List.getElem?_toArray,List.getElem?_cons_zero,List.getElem?_cons_succ,vs,Sem.run_bind,run_underlying hu,Result.andThen_ok,run_sizeOf' hz,run_underlying hd' w,Sem.run_pure,Bool.false_eq_true,if_false,hn,Bool.not_false,if_true,Sem.run_ite,false_or,typeInfo,run_program,hi,hroom,hl,hxa]
           | some a=>simp only[Builtin.append_,ha,hb,List.getElem?_toArray,List.getElem?_cons_zero,List.getElem?_cons_succ,vs,Sem.run_bind,run_underlying hu,Result.andThen_ok,run_sizeOf' hz,run_underlying hd' w,Sem.run_pure,Bool.false_eq_true,if_false,hn,Bool.not_false,if_true,Sem.run_ite,false_or,typeInfo,run_program,hi,hroom,hl,hxa,hst]
       | some q =>
         rw[hxq] at hk
         simp only at hk
         obtain⟨ca,t,hbk,hlen,hK⟩:=hk
         obtain⟨w',hr,hc',hg'⟩:=run_storeCells (P:=P) q.b (q.o+x.len*sz) l 0 h w ca t c hl1 hbk (by simpa using hlen)
         refine⟨_,_,w',hK,?_,hc',hg'⟩
         have e:(Addr.add q.addr (x.len*sz))=⟨q.b,q.o+x.len*sz,none⟩:=by rw[addr_add];rfl
         have e2:Sl.addr ⟨some q,x.len+n,x.cap,none⟩=some q.addr:=rfl
         rcases hd with ⟨e',hd'⟩|hd'
         all_goals
           simp only[Builtin.append_,ha,hb,List.getElem?_toArray,List.getElem?_cons_zero,List.getElem?_cons_succ,vs,Sem.run_bind,run_underlying hu,Result.andThen_ok,run_sizeOf' hz,run_underlying hd' w,Sem.run_pure,Bool.false_eq_true,if_false,hn,Bool.not_false,if_true,Sem.run_ite,false_or,typeInfo,run_program,hi,hroom,hl,Sl.addr_q hxq,e2,e,hr]
     · rw[decide_eq_false hroom] at hk
       simp only[cond_false] at hk
       obtain⟨hcap,hneed,hk⟩:=hk
       have c1:Cov h { w with drawn:=w.drawn+1 }:=c
       obtain⟨l0,hk,_,hl0⟩:=srcK_elim (P:=P) c1 hk
       have hb1:¬(((x.len+n:Nat):Int) > IntKind.i64.max∧i.bytes=0):=by
         intro hh
         have h1:=hh.1
         simp[IntKind.max,IntKind.signed,IntKind.bits] at h1
         omega
       have hb2:¬(Builtin.nextslicecap (x.len+n) x.cap*i.bytes > 2 ^ 48):=by
         have:2 ^ 48=281474976710656:=by decide
         omega
       have hq:(Question.appendCap (x.len+n) x.cap el).forced=false:=rfl
       have hcut:x.len+n≤(Question.appendCap (x.len+n) x.cap el).cut (w.tape w.drawn (Question.appendCap (x.len+n) x.cap el)):=by
         simp only[Question.cut];omega
       simp only[SV.val,vs] at hl0
       refine⟨_,_,_,hk _ hcut _ c1.fresh,?_,c1.alloc _,(Grow.drew h w).trans (Grow.alloc _ _ _)⟩
       rcases hd with ⟨e',hd'⟩|hd'
       all_goals
         simp only[Builtin.append_,ha,hb,List.getElem?_toArray,List.getElem?_cons_zero,List.getElem?_cons_succ,vs,Sem.run_bind,run_underlying hu,Result.andThen_ok,run_sizeOf' hz,run_underlying hd' w,Sem.run_pure,Bool.false_eq_true,if_false,hn,Bool.not_false,if_true,Sem.run_ite,false_or,typeInfo,run_program,hi,hroom,hb1,hb2,run_choose,hq,run_askRoom,hl0,hl2,run_zero hzr]
         rfl
   · exact hk.elim
 · exact hk.elim
def cpyK (P:Program) (T:TypeId) (x:Sl) (y:SV) (h:Hp) (K:Nat→Hp→Prop):Prop :=
 match P.underlying T with
 | some (.slice el)=>match szT P el with
   | some sz=>lenOfK y fun m=>srcK h y sz (Nat.min m x.len) fun l =>
       match x.q with
       | some q=>storeK h q l fun h'=>K (Nat.min m x.len) h'
       | none=>l=[]∧K (Nat.min m x.len) h
   | none=>False
 | _=>False
theorem cpyK_elim {P:Program} {T:TypeId} {ats:Array TypeId} {ty:TypeId} {x:Sl} {y:SV} {h:Hp} {K:Nat→Hp→Prop} (hk:cpyK P T x y h K) (w:World) (c:Cov h w)
   (ha:ats[0]? =some T) :
   ∃r h' w',K r h'∧(Builtin.copy_ ats ty #[vs x,y.val]).run P w= .ok (.int .i64 (r:Int)) w'∧Cov h' w'∧Grow h h' w w':=by
 unfold cpyK at hk
 split at hk
 · rename_i el hu
   split at hk
   · rename_i sz hz
     obtain⟨m,hk,hm⟩:=lenOfK_elim (P:=P) hk
     obtain⟨l,hk,hl1,hl⟩:=srcK_elim (P:=P) c hk
     cases hxq:x.q with
     | none =>
       rw[hxq] at hk
       simp only at hk
       obtain⟨rfl,hk⟩:=hk
       refine⟨_,_,_,hk,?_,c,Grow.refl _ _⟩
       have hst:∀a:Addr,(storeCells a [] 0).run P w= .ok () w:=fun a=>rfl
       cases hxa:x.addr with
       | none =>
         simp only[Builtin.copy_,ha,List.getElem?_toArray,List.getElem?_cons_zero,List.getElem?_cons_succ,vs,Sem.run_bind,run_underlying hu,Result.andThen_ok,run_sizeOf' hz,hm,hl,hxa]
         rfl
       | some a =>
         simp only[Builtin.copy_,ha,List.getElem?_toArray,List.getElem?_cons_zero,List.getElem?_cons_succ,vs,Sem.run_bind,run_underlying hu,Result.andThen_ok,run_sizeOf' hz,hm,hl,hxa,hst]
         rfl
     | some q =>
       rw[hxq] at hk
       simp only at hk
       obtain⟨ca,t,hbk,hlen,hK⟩:=hk
       obtain⟨w',hr,hc',hg'⟩:=run_storeCells (P:=P) q.b q.o l 0 h w ca t c hl1 hbk (by simpa using hlen)
       refine⟨_,_,w',hK,?_,hc',hg'⟩
       simp only[Builtin.copy_,ha,List.getElem?_toArray,List.getElem?_cons_zero,List.getElem?_cons_succ,vs,Sem.run_bind,run_underlying hu,Result.andThen_ok,run_sizeOf' hz,hm,hl,Sl.addr_q hxq,Pt.addr,hr]
       rfl
   · exact hk.elim
 · exact hk.elim
/-! ## All operations -/
def evAs (P:Program) (n:Nat) (e:Env):List Operand→List TypeId→(List SV→Prop)→Prop
 | [],_,K=>K []
 | x::l,[],K=>evK n e x fun s=>evAs P n e l [] fun r=>K (s::r)
 | x::l,t::ts,K=>evT n (tyOf P 9 t) e x fun s=>evAs P n e l ts fun r=>K (s::r)
theorem evAs_elim {P:Program} {n:Nat} {e:Env}:∀(l:List Operand) (ts:List TypeId) (K:List SV→Prop),evAs P n e l ts K →
   ∃r,K r∧∀a,Good n e a→l.map a.eval=SV.vals r
 | [],_,K,h=>⟨[],h,fun _ _=>rfl⟩
 | x::l,[],K,h=>by
   obtain⟨s,hs,h1⟩:=evK_elim h
   obtain⟨r,hr,h2⟩:=evAs_elim l [] _ hs
   exact⟨_,hr,fun a g=>by simp[SV.vals,h1 a g,h2 a g]⟩
 | x::l,t::ts,K,h=>by
   obtain⟨s,hs,h1⟩:=evT_elim h
   obtain⟨r,hr,h2⟩:=evAs_elim l ts _ hs
   exact⟨_,hr,fun a g=>by simp[SV.vals,h1 a g,h2 a g]⟩
def isTxt (P:Program) (T:TypeId):Bool :=
 match P.underlying T with
 | some (.slice _)=>true
 | some .string=>true
 | _=>false
theorem isTxt_or {P:Program} {T:TypeId} (h:isTxt P T=true):(∃e,P.underlying T=some (.slice e))∨P.underlying T=some .string:=by
 unfold isTxt at h
 split at h
 · rename_i hu;exact .inl ⟨_,hu⟩
 · rename_i hu;exact .inr hu
 · cases h
def extK (P:Program) (f:FuncId) (args:List Value) (h:Hp) (Q:Value→Hp→Prop):Prop:=∃v,(∀w,(callFunc f args.toArray).run P w= .ok (.value v) w)∧Q v h
/-! ## Maps of words, slices that are cleared -/
def ment (e:UInt64×Value×Nat):MapEntry:={ key:=vu e.1,val:=e.2.1,born:=e.2.2 }
def mput (l:List (UInt64×Value×Nat)) (clock:Nat) (k:UInt64) (v:Value):Obj :=
 match l.findIdx? (fun e=>e.1==k) with
 | some i=> .map ((l.modify i fun e=>(k,v,e.2.2)).map ment).toArray clock
 | none=> .map ((l++[(k,v,clock)]).map ment).toArray (clock+1)
def mupK (h:Hp) (r:Option Nat) (k:UInt64) (v:Value) (K:Hp→Prop):Prop :=
 ∃b l clock,r=some b∧h b=some (.map (l.map ment).toArray clock)∧K (upd h b (mput l clock k v))
theorem findNow_ment (kd:IntKind) (k:UInt64):∀(l:List (UInt64×Value×Nat)) (i:Nat),Instr.findNow (.int kd) (vu k) (l.map ment) i =
   some ((l.findIdx? (fun e=>e.1==k)).bind fun j=>(l[j]?).map fun e=>(i+j,e.2.1))
 | [],i=>by simp[Instr.findNow]
 | e::l,i=>by
   have ih:=findNow_ment kd k l (i+1)
   simp only[List.map_cons,Instr.findNow]
   have hs:Instr.sameNow (.int kd) (vu k) (ment e).key=some (e.1==k):=by
     simp only[Instr.sameNow,vu,ment,if_true,Option.some.injEq]
     rw[Bool.eq_iff_iff]
     simp only[beq_iff_eq,Int.natCast_inj,UInt64.toNat_inj]
     exact⟨fun h=>h.symm,fun h=>h.symm⟩
   rw[hs]
   cases hk:(e.1==k) with
   | true=>simp[List.findIdx?_cons,hk,ment]
   | false =>
     simp only[ih,List.findIdx?_cons,hk]
     congr 1
     cases l.findIdx? (fun e=>e.1==k) with
     | none=>rfl
     | some j =>
       simp only[Option.map_some,Option.bind_some,List.getElem?_cons_succ]
       rw[show i+1+j=i+(j+1) by omega]
       simp
theorem mupK_run {P:Program} {T kt vt:TypeId} (hT:P.underlying T=some (.map kt vt)) {kd:IntKind} (hk:P.underlying kt=some (.int kd)) {h:Hp} {w:World} (c:Cov h w) {r:Option Nat} {k:UInt64} {v:Value} {K:Hp→Prop} (hm:mupK h r k v K) :
   ∃h' w',K h'∧(Instr.mapUpdate T (.map r) (vu k) v).run P w= .ok () w'∧Cov h' w'∧Grow h h' w w':=by
 obtain⟨b,l,clock,rfl,hb,hK⟩:=hm
 have hw:=c _ _ hb
 have hg:(getObj b).run P w= .ok (.map (l.map ment).toArray clock) w:=by simp[getObj,Sem.run,hw]
 have hset:∀o:Obj,(setObj b o).run P w= .ok () { w with heap:=w.heap.setIfInBounds b o }:=fun o=>by simp[setObj,Sem.run,hw]
 have hck:(Instr.checkKey false 10000 kt (vu k)).run P w= .ok () w:=by
   rw[show(10000:Nat)=9999+1 from rfl,Instr.checkKey]
   simp only[Sem.run_bind,run_underlying hk,Result.andThen_ok,vu]
   rfl
 have hfk:(Instr.findKey kt (vu k) (l.map ment)).run P w= .ok ((l.findIdx? (fun e=>e.1==k)).bind fun j=>(l[j]?).map fun e=>(j,e.2.1)) w:=by
   have:=findNow_ment kd k l 0
   simp[Instr.findKey,run_underlying hk,this]
 have hcov:∀o:Obj,Cov (upd h b o) { w with heap:=w.heap.setIfInBounds b o }:=fun o x y hx=>by
   by_cases e:x=b
   · subst e;rw[upd_same] at hx;cases hx
     have:=c.lt hb
     simp[this]
   · rw[upd_ne _ _ e] at hx
     have:=c _ _ hx
     simp only[Array.getElem?_setIfInBounds]
     rw[if_neg (fun e'=>e e'.symm)];exact this
 have hgrow:∀o:Obj,Grow h (upd h b o) w { w with heap:=w.heap.setIfInBounds b o }:=fun o=>by
   refine⟨rfl,rfl,rfl,by simp,fun x hx _=>?_⟩
   have e:x≠b:=fun e=>by subst e;rw[hb] at hx;cases hx
   refine⟨by rw[upd_ne _ _ e];exact hx,?_⟩
   simp only[Array.getElem?_setIfInBounds]
   rw[if_neg (fun e'=>e e'.symm)]
 refine⟨_,_,hK,?_,hcov _,hgrow _⟩
 have stays:∀(a:UInt64) ,(Instr.keyThatStays (vu a) (vu k)).run P w= .ok (vu k) w∨a≠k:=fun a=>by
   by_cases e:a=k
   · subst e;left
     have hs:Instr.sameBits 10000 (vu a) (vu a)=true:=by simp[Instr.sameBits,vu]
     unfold Instr.keyThatStays
     rw[if_pos hs];rfl
   · exact .inr e
 simp only[Instr.mapUpdate,Sem.run_bind,run_underlying hT,Result.andThen_ok,hg,hck,hfk]
 unfold mput
 cases hf:l.findIdx? (fun e=>e.1==k) with
 | none=>simp[hset,ment]
 | some i =>
   obtain⟨hi,hik,_⟩:=List.findIdx?_eq_some_iff_getElem.1 hf
   have hi2:l[i]? =some l[i]:=List.getElem?_eq_getElem hi
   have hkk:l[i].1=k:=by simpa using hik
   have hst:=(stays l[i].1).resolve_right (fun h=>h hkk)
   simp only[Option.bind_some,hi2,Option.map_some]
   have e1:(((l.map ment).toArray[i]?).map (·.key)).getD (vu k)=vu l[i].1:=by simp[hi,ment]
   rw[e1]
   simp only[Sem.run_bind,hst,Result.andThen_ok,hset]
   congr 3
   refine congrArg (fun z=>Obj.map z clock) ?_
   apply Array.toList_inj.1
   simp only[Array.toList_modify,List.toList_toArray]
   apply List.ext_getElem?
   intro j
   simp only[List.getElem?_modify,List.getElem?_map]
   by_cases hj:i=j
   · subst hj;simp[hi,ment]
   · cases l[j]?<;>simp[hj]
def repV (n:Nat) (v:Value):List Value:=List.replicate n v
def clrK (P:Program) (T:TypeId) (x:Sl) (h:Hp) (K:Hp→Prop):Prop :=
 match P.underlying T with
 | some (.slice el)=>match zrT P el with
   | some z=>if z.oneCell'=true then ifB (decide (x.len=0)) (K h) (∃q,x.q=some q∧storeK h q (repV x.len z) K) else False
   | none=>False
 | _=>False
theorem zeroCells_one {z:Value} (hz:z.oneCell'=true) (n:Nat):(Builtin.zeroCells z.cells n).toList=repV n z:=by
 rw[oneCell_cells hz]
 unfold Builtin.zeroCells repV
 apply List.ext_getElem
 · simp
 · intro i h1 h2;simp[Nat.mod_one]
theorem clrK_run {P:Program} {T:TypeId} {h:Hp} {w:World} (c:Cov h w) {x:Sl} {K:Hp→Prop} {ats:Array TypeId} (ha:ats[0]? =some T) {ty:TypeId} (hk:clrK P T x h K) :
   ∃h' w',K h'∧(Builtin.clear_ ats ty #[vs x]).run P w= .ok (.tuple #[]) w'∧Cov h' w'∧Grow h h' w w':=by
 unfold clrK at hk
 split at hk
 · rename_i el hu
   split at hk
   · rename_i z hz
     split at hk
     · rename_i h1
       by_cases h0:x.len=0
       · rw[decide_eq_true h0] at hk
         refine⟨h,w,hk,?_,c,Grow.refl _ _⟩
         simp only[Builtin.clear_,ha,List.getElem?_toArray,List.getElem?_cons_zero,Sem.run_bind,run_underlying hu,Result.andThen_ok,vs,h0]
         cases x.addr<;>simp
       · rw[decide_eq_false h0] at hk
         obtain⟨q,hq,ct,t,hb,hl,hK⟩:=hk
         have hsz:(repV x.len z).length=x.len:=by simp[repV]
         obtain⟨w',hr,hc',hg'⟩:=run_storeCells (P:=P) q.b q.o (repV x.len z) 0 h w ct t c (fun v hv=>by
           unfold repV at hv;rw[List.eq_of_mem_replicate hv];exact h1) hb (by simpa using hl)
         refine⟨_,w',hK,?_,hc',hg'⟩
         have e:x.addr=some ⟨q.b,q.o,none⟩:=Sl.addr_q hq
         obtain⟨n,hn⟩:∃n,x.len=n+1:=⟨x.len-1,by omega⟩
         have hzc:=zeroCells_one h1 x.len
         rw[hn] at hzc hr
         simp only[Builtin.clear_,ha,List.getElem?_toArray,List.getElem?_cons_zero,Sem.run_bind,run_underlying hu,Result.andThen_ok,vs,e,hn,run_zero hz,hzc]
         rw[hr]
         simp
     · exact hk.elim
   · exact hk.elim
 · exact hk.elim
def opK (P:Program) (n:Nat) (o:Op) (ty:TypeId) (e:Env) (h:Hp) (K:SV→Hp→Prop):Prop :=
 match o with
 | .load T a=>evK n e a fun s=>match s with| .p q=>ldK P T h q fun r=>K r h|_=>False
 | .store T a x=>evK n e a fun s=>match s with
   | .p q=>evT n (tyOf P 9 T) e x fun r=>if szT P T=some r.size then flatK r (storeK h q (SV.cells r) fun h'=>K .no h') else False
   | _=>False
 | .box el x=>evT n (tyOf P 9 el) e x fun r=>flatK r (newK h (.cells (SV.cells r).toArray el) fun b h=>K (.p ⟨b,0⟩) h)
 | .alloc el=>match zrT P el with|some z=>newK h (.cells z.cells el) fun b h=>K (.p ⟨b,0⟩) h|none=>False
 | .buildSlice T len ps=>ptK P n e (ptTy P T) ps.toList fun ps=>bldRow P T len ps h fun r h=>K (.s r) h
 | .makeSlice T l c=>evK n e l fun l=>evK n e c fun c=>numK l fun _ l=>numK c fun _ c=>mkRow P T l c h fun r h=>K (.s r) h
 | .makeMap _ none=>newK h (.map #[] 0) fun b h=>K (.m (some b)) h
 | .call { callee:= .builtin .append,args,argTypes }=>evAs P n e args.toList argTypes.toList fun xs=>match xs with
   | [.s x,y]=>(match argTypes[0]?,argTypes[1]? with|some T,some T'=>if isTxt P T'=true then appK P T x y h (fun r h=>K (.s r) h) else False|_,_=>False)
   | _=>False
 | .call { callee:= .builtin .copy,args,argTypes }=>evAs P n e args.toList argTypes.toList fun xs=>match xs with
   | [.s x,y]=>(match argTypes[0]? with|some T=>cpyK P T x y h (fun r h=>K (.i .i64 (r:Int)) h)|none=>False)
   | _=>False
 | .call { callee:= .builtin .clear,args,argTypes }=>evAs P n e args.toList argTypes.toList fun xs=>match xs with
   | [.s x]=>(match argTypes[0]? with|some T=>clrK P T x h (fun h=>K (.tup []) h)|none=>False)
   | _=>False
 | .mapUpdate T m k x=>match P.underlying T with
   | some (.map kt vt)=>match P.underlying kt with
     | some (.int _)=>evK n e m fun m=>evK n e k fun k=>evT n (tyOf P 9 vt) e x fun x=>match m,k with
       | .m r,.u k=>mupK h r k x.val fun h=>K .no h
       | _,_=>False
     | _=>False
   | _=>False
 | .call { callee:= .value f,args,argTypes }=>evK n e f fun f=>evAs P n e args.toList argTypes.toList fun xs=>match f with
   | .f g c=>(match okFn P g with
     | true=>callK P g (SV.vals xs++SV.vals c) h fun v h'=>exT (tyOf P 9 ty) fun r=>v=r.val∧K r h'
     | false=>extK P g (SV.vals xs++SV.vals c) h fun v h'=>exT (tyOf P 9 ty) fun r=>v=r.val∧K r h')
   | .v x=>callV P x (SV.vals xs) h fun v h'=>exT (tyOf P 9 ty) fun r=>v=r.val∧K r h'
   | _=>False
 | o=>pureK P n o ty e fun r=>K r h
inductive Ran (P:Program) (x:Oper) (a:Act) (w:World) (h:Hp) (K:SV→Hp→Prop):Prop where
 | value (r:SV) (h':Hp) (w':World) (hk:K r h') (hr:(execOp a.eval x).run P w= .ok (.value r.val) w') (c:Cov h' w') (g:Grow h h' w w')
 | skip (h':Hp) (w':World) (hk:K .no h') (hr:(execOp a.eval x).run P w= .ok .skip w') (c:Cov h' w') (g:Grow h h' w w')
 | enter (f:FuncId) (args:List Value) (hr:(execOp a.eval x).run P w= .ok (.enter f args.toArray) w)
     (hc:Calls P f args.toArray w fun e w'=>∃r h',e= .returned r.val∧K r h'∧Cov h' w'∧Grow h h' w w')
 | round (l:Nat) (f:FuncId) (tmps:Array Value) (assign body:Code) (hr:(execOp a.eval x).run P w= .ok (.round l f tmps assign body) w)
     (hc:RoundIn (fen none) 0 P l f tmps assign body w fun e w'=>∃r h',e= .returned r.val∧K r h'∧Cov h' w'∧Grow h h' w w')
theorem Ran.wp {P:Program} {x:Oper} {a:Act} {w:World} {h:Hp} {K:SV→Hp→Prop} (hr:Ran P x a w h K) (hd:isDefer x.op=false) {ro:Option Nat} {m:Nat} {next:Act→World→Prop} {Q:Exit→Act→World→Prop}
   (hn:∀r h' w',K r h'→Cov h' w'→Grow h h' w w'→next (a.put x.dst r.val) w'):x.wpIn (fen ro) m P a w next Q:=by
 refine⟨fun _ _=>trivial,?_⟩
 rw[show(fen ro).round=ro from rfl,sem_fen ro a x hd]
 cases hr with
 | value r h' w' hk hr c g=>rw[hr,Oper.uponIn_value];exact hn r h' w' hk c g
 | skip h' w' hk hr c g=>rw[hr,Oper.uponIn_skip];exact hn .no h' w' hk c g
 | enter f args hr hc =>
   rw[hr,Oper.uponIn_enter]
   refine⟨fen_dep ro,(calls_fen hc).mono ?_⟩
   rintro e w' ⟨r,h',rfl,hk,c,g⟩
   exact hn r h' w' hk c g
 | round l f tmps assign body hr hc =>
   rw[hr,Oper.uponIn_round]
   refine⟨fen_dep ro,(round_fen hc).mono ?_⟩
   rintro e w' ⟨r,h',rfl,hk,c,g⟩
   exact hn r h' w' hk c g
theorem opK_nodefer {P:Program} {n:Nat} {e:Env} {h:Hp} {K:SV→Hp→Prop} {o:Op} {T:TypeId} (hk:opK P n o T e h K):isDefer o=false:=by
 cases o<;>first|rfl|exact(show False from hk).elim
theorem opK_ran {P:Program} {n:Nat} {e:Env} {h:Hp} {K:SV→Hp→Prop} {x:Oper} (hk:opK P n x.op x.type e h K) {a:Act} (g:Good n e a) {w:World} (c:Cov h w) :
   Ran P x a w h K:=by
 obtain⟨dst,op,ty,pos,after,guard⟩:=x
 simp only at hk
 unfold opK at hk
 split at hk
 · obtain⟨s,hk,hs⟩:=evK_elim hk
   split at hk
   · rename_i q
     obtain⟨r,hk,hst,h1,h2⟩:=ldK_elim hk
     refine .value r h w hk ?_ c (Grow.refl _ _)
     simp only[execOp,Sem.run_bind,hs a g,SV.val,vp,Instr.loadAt,Instr.sureAddr,Sem.run_pure,Result.andThen_ok,run_loadVar c h1 h2 hst]
   · exact hk.elim
 · obtain⟨s,hk,hs⟩:=evK_elim hk
   split at hk
   · rename_i q
     obtain⟨r,hk,hr⟩:=evT_elim hk
     split at hk
     · rename_i hc
       obtain⟨hf,hk⟩:=flatK_elim hk
       obtain⟨h',w',hk,hrun,c',g'⟩:=run_storeVar (P:=P) c hc hf hk
       refine .skip h' w' hk ?_ c' g'
       simp only[execOp,Sem.run_bind,hs a g,hr a g,SV.val,vp,Instr.storeAt,Instr.sureAddr,Sem.run_pure,Result.andThen_ok,hrun]
     · exact hk.elim
   · exact hk.elim
 · obtain⟨r,hk,hr⟩:=evT_elim hk
   obtain⟨hf,hk⟩:=flatK_elim hk
   refine .value _ _ _ (hk _ c.fresh) ?_ (c.alloc _) (Grow.alloc _ _ _)
   simp only[execOp,Sem.run_bind,hr a g,Instr.box,newVar,newRow,SV.cells_val r hf]
   rfl
 · split at hk
   · rename_i z hz
     refine .value _ _ _ (hk _ c.fresh) ?_ (c.alloc _) (Grow.alloc _ _ _)
     simp only[execOp,Sem.run_bind,Instr.alloc,run_zero hz,Result.andThen_ok,newVar,newRow]
     rfl
   · exact hk.elim
 · rename_i T len ps
   obtain⟨r,hk,hr⟩:=ptK_elim _ _ hk
   obtain⟨v,h',w',hk,hrun,c',g'⟩:=bldRow_elim hk w c
   refine .value (.s v) h' w' hk ?_ c' g'
   have:(ps.map fun x=>(x.1,a.eval x.2))=(r.map fun x=>(x.1,x.2.val)).toArray:=by
     apply Array.toList_inj.1
     simp[hr a g]
   simp only[execOp,Sem.run_bind,this,hrun]
   rfl
 · obtain⟨l,hk,hl⟩:=evK_elim hk
   obtain⟨cc,hk,hcc⟩:=evK_elim hk
   obtain⟨k,i,hi,hk⟩:=numK_elim hk
   obtain⟨k',i',hi',hk⟩:=numK_elim hk
   obtain⟨v,h',w',hk,hrun,c',g'⟩:=mkRow_elim (k:=k) (k':=k') hk w c
   refine .value (.s v) h' w' hk ?_ c' g'
   simp only[execOp,Sem.run_bind,hl a g,hcc a g,hi,hi',hrun]
   rfl
 · refine .value _ _ _ (hk _ c.fresh) ?_ (c.alloc _) (Grow.alloc _ _ _)
   simp only[execOp,Sem.run_bind,Instr.makeMap]
   rfl
 · rename_i args ats
   obtain⟨r,hk,hr⟩:=evAs_elim _ _ _ hk
   have hargs:args.map a.eval=(SV.vals r).toArray:=by
     apply Array.toList_inj.1
     simp[hr a g]
   split at hk
   · rename_i x y
     split at hk
     · rename_i T T' hT hT'
       split at hk
       · rename_i ht
         obtain⟨v,h',w',hk,hrun,c',g'⟩:=appK_elim (ty:=ty) hk w c hT hT' (isTxt_or ht)
         refine .value (.s v) h' w' hk ?_ c' g'
         simp only[execOp,Sem.run_bind,resolve,hargs,Sem.run_pure,Result.andThen_ok,invoke,builtin,SV.vals,SV.val,hrun]
       · exact hk.elim
     · exact hk.elim
   · exact hk.elim
 · rename_i args ats
   obtain⟨r,hk,hr⟩:=evAs_elim _ _ _ hk
   have hargs:args.map a.eval=(SV.vals r).toArray:=by
     apply Array.toList_inj.1
     simp[hr a g]
   split at hk
   · rename_i x y
     split at hk
     · rename_i T hT
       obtain⟨v,h',w',hk,hrun,c',g'⟩:=cpyK_elim (ty:=ty) hk w c hT
       refine .value (.i .i64 (v:Int)) h' w' hk ?_ c' g'
       simp only[execOp,Sem.run_bind,resolve,hargs,Sem.run_pure,Result.andThen_ok,invoke,builtin,SV.vals,SV.val,hrun]
     · exact hk.elim
   · exact hk.elim
 · rename_i args ats
   obtain⟨r,hk,hr⟩:=evAs_elim _ _ _ hk
   have hargs:args.map a.eval=(SV.vals r).toArray:=by
     apply Array.toList_inj.1
     simp[hr a g]
   split at hk
   · rename_i x
     split at hk
     · rename_i T hT
       obtain⟨h',w',hk,hrun,c',g'⟩:=clrK_run c hT (ty:=ty) hk
       refine .value (.tup []) h' w' hk ?_ c' g'
       simp only[execOp,Sem.run_bind,resolve,hargs,Sem.run_pure,Result.andThen_ok,invoke,builtin,SV.vals,SV.val,hrun]
     · exact hk.elim
   · exact hk.elim
 · rename_i T m k x
   split at hk
   · rename_i kt vt hu
     split at hk
     · rename_i kd hu2
       obtain⟨mv,hk,hm⟩:=evK_elim hk
       obtain⟨kv,hk,hkv⟩:=evK_elim hk
       obtain⟨xv,hk,hx⟩:=evT_elim hk
       split at hk
       · rename_i r k'
         obtain⟨h',w',hk,hrun,c',g'⟩:=mupK_run hu hu2 c hk
         refine .skip h' w' hk ?_ c' g'
         simp only[execOp,Sem.run_bind,hm a g,hkv a g,hx a g,SV.val,hrun,Result.andThen_ok,Sem.run_pure]
       · exact hk.elim
     · exact hk.elim
   · exact hk.elim
 · rename_i f args ats
   obtain⟨fv,hk,hf⟩:=evK_elim hk
   obtain⟨r,hk,hr⟩:=evAs_elim _ _ _ hk
   have hargs:args.map a.eval=(SV.vals r).toArray:=by
     apply Array.toList_inj.1
     simp[hr a g]
   split at hk
   · rename_i gf cap hk2
     split at hk
     rotate_left
     · obtain⟨v,hrun,hv⟩:=hk
       obtain⟨s,rfl,hK⟩:=exT_elim _ _ hv
       refine .value s h w hK ?_ c (Grow.refl _ _)
       simp only[execOp,Sem.run_bind,resolve,hargs,hf a g,SV.val,Deferred.ofValue,Sem.run_pure,Result.andThen_ok,invoke]
       have e:(#[]:Array Value)++(SV.vals r).toArray++(SV.vals cap).toArray=(SV.vals r++SV.vals cap).toArray:=by simp
       rw[e,hrun w]
     refine .enter gf (SV.vals r++SV.vals cap) ?_ ((hk.2 w c).mono ?_)
     · simp only[execOp,Sem.run_bind,resolve,hargs,hf a g,SV.val,Deferred.ofValue,Sem.run_pure,Result.andThen_ok,invoke,run_callFunc hk.1]
       simp
     · rintro e w' ⟨v,h',rfl,hv,c',g'⟩
       obtain⟨s,rfl,hK⟩:=exT_elim _ _ hv
       exact⟨s,h',rfl,hK,c',g'⟩
   · rename_i x
     unfold callV at hk
     split at hk
     · rename_i gf first cs
       obtain⟨rfl,hk⟩:=hk
       refine .enter gf (SV.vals r++cs.toList) ?_ ((hk.2 w c).mono ?_)
       · simp only[execOp,Sem.run_bind,resolve,hargs,hf a g,SV.val,Deferred.ofValue,Sem.run_pure,Result.andThen_ok,invoke]
         have e:(#[]:Array Value)++(SV.vals r).toArray++cs=(SV.vals r++cs.toList).toArray:=by simp
         simp only[e,run_callFunc hk.1]
       · rintro e w' ⟨v,h',rfl,hv,c',g'⟩
         obtain⟨s,rfl,hK⟩:=exT_elim _ _ hv
         exact⟨s,h',rfl,hK,c',g'⟩
     · rename_i l first cs
       obtain⟨rfl,rfl,hk⟩:=hk
       obtain⟨rc,hl,hlen,hround⟩:=hk w c
       refine .round l rc.fn _ rc.assign rc.body ?_ (hround.mono ?_)
       · simp only[execOp,Sem.run_bind,resolve,hargs,hf a g,SV.val,Deferred.ofValue,Sem.run_pure,Result.andThen_ok,invoke]
         have e:(#[]:Array Value)++(SV.vals r).toArray=(SV.vals r).toArray:=by simp
         simp only[e]
         exact run_yield hl (by simpa using hlen)
       · rintro e w' ⟨v,h',rfl,hv,c',g'⟩
         obtain⟨s,rfl,hK⟩:=exT_elim _ _ hv
         exact⟨s,h',rfl,hK,c',g'⟩
     · exact hk.elim
   · exact hk.elim
 · obtain⟨r,hk,hr⟩:=pureK_elim (x:=⟨dst,op,ty,pos,after,guard⟩) hk
   exact .value r h w hk (hr a g w) c (Grow.refl _ _)
end Go.Sh

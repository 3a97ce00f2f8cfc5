import Derived.Test.YtofgadhgljjhgaaGreatShOps
import Derived.Below
import Derived.OrdersIn
import Derived.TacticsIn
import Derived.RangeFuncLeaves
import Derived.RangeFuncRecord
import Derived.RangeFuncIn
namespace Go.cD
open Go Go.RowKit
def bA (h:ak)(b:Nat)(o:Obj):ak:=λx=>if x=b then some o else h x
theorem eH (h:ak)(b:Nat)(o:Obj):bA h b o b=some o:=by simp[bA]
theorem cQ (h:ak){b c:Nat}(o:Obj)(aH:c≠b):bA h b o c=h c:=by simp[bA,aH]
theorem K4 (h:ak){b c:Nat}(o p:Obj)(aH:b≠c):bA (bA h b o) c p=bA (bA h c p) b o:=by
 funext x;unfold bA;by_cases aa:x=b<;>by_cases ad:x=c<;>simp_all
structure eI (h ah:ak)(w cg:World):Prop where
 os:cg.os=w.os
 tape:cg.tape=w.tape
 output:cg.output=w.output
 size:w.heap.size<=cg.heap.size
 rest:∀b,h b=none->b<w.heap.size->ah b=none/\cg.heap[b]? =w.heap[b]?
theorem eI.refl (h:ak)(w:World):eI h h w w:=⟨rfl,rfl,rfl,Nat.le_refl _,λ_ au _=>⟨au,rfl⟩⟩
theorem eI.trans {aa ad an:ak}{lA kG rH:World}(a:eI aa ad lA kG)(b:eI ad an kG rH):eI aa an lA rH :=
 ⟨b.os.trans a.os,b.tape.trans a.tape,b.output.trans a.output,Nat.le_trans a.size b.size,λx ai aT=>by
  obtain⟨avz,a8⟩:=a.rest x ai aT
  obtain⟨avA,b0⟩:=b.rest x avz (Nat.lt_of_lt_of_le aT a.size)
  exact⟨avA,b0.trans a8⟩⟩
theorem eQ.lt {h:ak}{w:World}(c:eQ h w){b:Nat}{o:Obj}(au:h b=some o):b<w.heap.size:=by
 have:=c b o au
 exact(Array.getElem?_eq_some_iff.1 this).1
theorem eQ.fresh {h:ak}{w:World}(c:eQ h w):h w.heap.size=none:=by
 cases au:h w.heap.size with
 | none=>rfl
 | some o=>exact absurd (c.lt au) (Nat.lt_irrefl _)
theorem eQ.alloc {h:ak}{w:World}(c:eQ h w)(o:Obj):eQ (bA h w.heap.size o) (w.alloc o):=by
 intro b x au
 by_cases e:b=w.heap.size
 .subst e;rw[eH] at au;cases au;show(w.heap.push o)[w.heap.size]? =some o;simp
 .rw[cQ _ _ e] at au
  have:=c.lt au
  rw[Below.heap_alloc _ _ _ this];exact c _ _ au
theorem eI.alloc (h:ak)(w:World)(o:Obj):eI h (bA h w.heap.size o) w (w.alloc o) :=
 ⟨rfl,rfl,rfl,by simp,λb au aT=>⟨by rw[cQ _ _ (by omega)];exact au,Below.heap_alloc _ _ _ aT⟩⟩
theorem eI.drew (h:ak)(w:World):eI h h w w.drew:=⟨rfl,rfl,rfl,Nat.le_refl _,λ_ au _=>⟨au,rfl⟩⟩
theorem avB {h:ak}{w:World}(c:eQ h w){b:Nat}{l:List Value}{o:Nat}(aP:fQ h b o l)(i:Nat)(hi:i<l.length) :
 w.cell? (Addr.add ⟨b,o,none⟩ i)=some l[i]:=by
 rw[show(⟨b,o,none⟩:Addr)=aD.addr ⟨b,o⟩ from rfl,v7]
 exact c.cell ((pN h b l o).1 aP i hi)
theorem run_loadCellsFrom {P:Program}{h:ak}{w:World}(c:eQ h w){b o:Nat}(l:List Value)(aP:fQ h b o l) :
 ∀(k:Nat) (n:Nat) (acc:Array Value),k+n=l.length->(loadCellsFrom ⟨b,o,none⟩ k n acc).run P w= .ok (acc++(l.drop k).toArray) w:=by
 intro k n
 induction n generalizing k with
 | zero =>
  intro acc ag
  have:l.drop k=[]:=List.drop_eq_nil_of_le (by omega)
  simp[loadCellsFrom,this]
 | succ n dK =>
  intro acc ag
  have ca:k<l.length:=by omega
  simp only[loadCellsFrom,Sem.run_bind,run_load,avB c aP k ca,Result.andThen_ok]
  rw[dK (k+1) _ (by omega),List.drop_eq_getElem_cons ca]
  congr 1
  apply Array.toList_inj.1
  simp
theorem run_loadCells {P:Program}{h:ak}{w:World}(c:eQ h w){b o:Nat}{l:List Value}(aP:fQ h b o l) :
 (loadCells ⟨b,o,none⟩ l.length).run P w= .ok l.toArray w:=by
 unfold loadCells
 rw[run_loadCellsFrom c l aP 0 l.length #[] (by omega)]
 simp
def ff.r1:ff->Bool
 | .dt _=>true
 | .ws _=>true
 | _=>false
def ya (P:Program)(T:TypeId)(h:ak)(q:aD)(K:af->Prop):Prop :=
 if jQ P T=some (lP P 9 T).size/\ra P T=some (lP P 9 T).r1 then Da h q.b (lP P 9 T) q.o K else False
theorem avC (h:ak)(b:Nat):∀(t:ff) (o:Nat) (K:af->Prop),Da h b t o K ->
 ∃r,K r/\fQ h b o (af.cells r)/\(af.cells r).length=t.size/\af.flat r=true/\r.r1=t.r1:=by
 intro t o K aT
 cases t with
 | dt l =>
  obtain⟨r,ag,aP,aH,a_⟩:=Q6 h b l o _ aT
  exact⟨_,ag,aP,aH,a_,rfl⟩
 | ws n =>
  obtain⟨c,aZ,ag⟩:=aT
  obtain⟨r,gp,aa,ad,an⟩:=acF h b (.ws n) o (λr=>r= .ws n c) ⟨c,aZ,rfl⟩
  subst gp
  exact⟨_,ag,aa,ad,an,rfl⟩
 | ja l=>exact aT.elim
 | v =>
  obtain⟨x,ai,aa,ag⟩:=aT
  exact⟨_,ag,by simp[af.cells,fQ,ai],rfl,aa,rfl⟩
 | i k=>obtain⟨x,ai,ag⟩:=aT;exact⟨_,ag,by simp[af.cells,fQ,ai],rfl,rfl,rfl⟩
 | u=>obtain⟨x,ai,ag⟩:=aT;exact⟨_,ag,by simp[af.cells,fQ,ai],rfl,rfl,rfl⟩
 | b=>obtain⟨x,ai,ag⟩:=aT;exact⟨_,ag,by simp[af.cells,fQ,ai],rfl,rfl,rfl⟩
 | p=>obtain⟨x,ai,ag⟩:=aT;exact⟨_,ag,by simp[af.cells,fQ,ai],rfl,rfl,rfl⟩
 | f=>obtain⟨g,c,ai,ag⟩:=aT;exact⟨_,ag,by simp[af.cells,fQ,ai],rfl,rfl,rfl⟩
 | hM=>obtain⟨x,ai,ag⟩:=aT;exact⟨_,ag,by simp[af.cells,fQ,ai],rfl,rfl,rfl⟩
 | s=>obtain⟨x,ai,ag⟩:=aT;exact⟨_,ag,by simp[af.cells,fQ,ai],rfl,rfl,rfl⟩
 | str=>obtain⟨x,ai,ag⟩:=aT;exact⟨_,ag,by simp[af.cells,fQ,ai],rfl,rfl,rfl⟩
 | m=>obtain⟨x,ai,ag⟩:=aT;exact⟨_,ag,by simp[af.cells,fQ,ai],rfl,rfl,rfl⟩
def mb (h:ak)(q:aD)(r:af):Prop:=fQ h q.b q.o (af.cells r)
theorem acZ {P:Program}{T:TypeId}{h:ak}{w:World}(c:eQ h w){q:aD}{r:af}(aa:jQ P T=some r.size)(ad:ra P T=some r.r1)(aU:mb h q r) :
 (loadVar T q.addr).run P w= .ok r.val w:=by
 unfold loadVar
 simp only[Sem.run_bind,GP ad,Result.andThen_ok]
 cases aP:r.r1 with
 | true =>
  have:=run_loadCells (P:=P) c aU
  rw[af.v8] at this
  simp only[if_true,Sem.run_bind,mZ aa,Result.andThen_ok,Sem.run_pure]
  rw[show q.addr=⟨q.b,q.o,none⟩ from rfl,this,af.K6 aP]
  rfl
 | false =>
  simp only[Bool.false_eq_true,if_false]
  unfold mb at aU
  rw[af.adn aP] at aU
  simp only[run_load,show q.addr=⟨q.b,q.o,none⟩ from rfl,c.cell aU.1]
theorem acY {P:Program}{T:TypeId}{h:ak}{q:aD}{K:af->Prop}(aT:ya P T h q K) :
 ∃r,K r/\mb h q r/\jQ P T=some r.size/\ra P T=some r.r1:=by
 unfold ya at aT
 split at aT
 .rename_i aZ
  obtain⟨r,ag,aP,aH,a_,bO⟩:=avC _ _ _ _ _ aT
  exact⟨r,ag,aP,by rw[aZ.1,<-aH,af.v8],by rw[aZ.2,bO]⟩
 .exact aT.elim
def h5 (c:Array Value)(o:Nat):List Value->Array Value
 | []=>c
 | v::l=>h5 (c.setIfInBounds o v) (o+1) l
theorem AL (l:List Value):∀(c:Array Value) (o:Nat),(h5 c o l).size=c.size:=by
 induction l with
 | nil=>intro c o;rfl
 | cons v l dK=>intro c o;simp[h5,dK]
def aX (h:ak)(q:aD)(l:List Value)(K:ak->Prop):Prop :=
 ∃c t,h q.b=some (.cells c t (0,0))/\q.o+l.length<=c.size/\K (bA h q.b (.cells (h5 c q.o l) t (0,0)))
theorem GQ {P:Program}(b o:Nat):∀(l:List Value) (k:Nat) (h:ak) (w:World) (c:Array Value) (t:TypeId),eQ h w ->
 (∀v∈l,v.oneCell'=true)->h b=some (.cells c t (0,0))->o+k+l.length<=c.size ->
 ∃cg,(storeCells ⟨b,o,none⟩ l k).run P w= .ok () cg/\eQ (bA h b (.cells (h5 c (o+k) l) t (0,0))) cg/\eI h (bA h b (.cells (h5 c (o+k) l) t (0,0))) w cg
 | [],k,h,w,c,t,aZ,_,au,_=>by
  refine⟨w,rfl,?_,?_⟩
  .intro x y ai
   by_cases e:x=b
   .subst e;rw[eH] at ai;cases ai;exact aZ _ _ au
   .rw[cQ _ _ e] at ai;exact aZ _ _ ai
  .refine⟨rfl,rfl,rfl,Nat.le_refl _,λx ai _=>⟨?_,rfl⟩⟩
   rw[cQ _ _ (λe=>by subst e;rw[au] at ai;cases ai)];exact ai
 | v::l,k,h,w,c,t,aZ,bQ,au,aT=>by
  simp only[List.length_cons] at aT
  have ca:o+k<c.size:=by omega
  have hw:w.heap[b]? =some (.cells c t (0,0)):=aZ _ _ au
  have br:w.cell? (Addr.add ⟨b,o,none⟩ k)=some c[o+k]:=by
   rw[show(⟨b,o,none⟩:Addr)=aD.addr ⟨b,o⟩ from rfl,v7]
   simp[aD.addr,World.cell?,hw,ca]
  have avD:w.frozen? (Addr.add ⟨b,o,none⟩ k)=false:=by
   rw[show(⟨b,o,none⟩:Addr)=aD.addr ⟨b,o⟩ from rfl,v7]
   simp[aD.addr,World.frozen?,hw]
  have yL:(Addr.add ⟨b,o,none⟩ k).block=b:=by unfold Addr.add;split<;>rfl
  have s9:(w.setCell (Addr.add ⟨b,o,none⟩ k) v).heap[b]? =some (.cells (c.setIfInBounds (o+k) v) t (0,0)):=by
   rw[show(⟨b,o,none⟩:Addr)=aD.addr ⟨b,o⟩ from rfl,v7]
   simp only[aD.addr,World.setCell,Array.getElem?_modify,if_true,hw,Option.map_some]
   rfl
  have ado:∀x,x≠b->(w.setCell (Addr.add ⟨b,o,none⟩ k) v).heap[x]? =w.heap[x]?:=λx ai=>Below.heap_setCell _ _ _ _ (by rw[yL];exact ai)
  have vY:b<w.heap.size:=aZ.lt au
  have wK:eQ (bA h b (.cells (c.setIfInBounds (o+k) v) t (0,0))) (w.setCell (Addr.add ⟨b,o,none⟩ k) v):=by
   intro x y ai
   by_cases e:x=b
   .subst e;rw[eH] at ai;cases ai;exact s9
   .rw[cQ _ _ e] at ai;rw[ado x e];exact aZ _ _ ai
  have avE:eI h (bA h b (.cells (c.setIfInBounds (o+k) v) t (0,0))) w (w.setCell (Addr.add ⟨b,o,none⟩ k) v):=by
   refine⟨rfl,rfl,rfl,by simp,λx ai _=>?_⟩
   have e:x≠b:=λe=>by subst e;rw[au] at ai;cases ai
   exact⟨by rw[cQ _ _ e];exact ai,ado x e⟩
  obtain⟨cg,aP,mx,uv⟩:=GQ b o l (k+1) _ _ (c.setIfInBounds (o+k) v) t wK (λx ai=>bQ x (List.mem_cons_of_mem _ ai)) (eH _ _ _) (by simp;omega)
  have avF:∀z:Obj,bA (bA h b (.cells (c.setIfInBounds (o+k) v) t (0,0))) b z=bA h b z:=by
   intro z;funext x;unfold bA;split<;>rfl
  rw[avF] at mx uv
  refine⟨cg,?_,mx,avE.trans uv⟩
  simp only[storeCells,Sem.run_bind,run_store _ _ _ _ _ (bQ v (List.mem_cons_self)),br,avD,Result.andThen_ok,Bool.false_eq_true,if_false]
  exact aP
theorem avG {P:Program}{T:TypeId}{h:ak}{w:World}(aZ:eQ h w){q:aD}{r:af}(aa:jQ P T=some r.size)(a_:r.flat=true){K:ak->Prop}(ag:aX h q (af.cells r) K) :
 ∃ah cg,K ah/\(storeVar T q.addr r.val).run P w= .ok () cg/\eQ ah cg/\eI h ah w cg:=by
 obtain⟨c,t,au,aT,eM⟩:=ag
 obtain⟨cg,aP,mx,uv⟩:=GQ (P:=P) q.b q.o (af.cells r) 0 h w c t aZ (af.acG r a_) au (by simpa using aT)
 refine⟨_,cg,eM,?_,mx,uv⟩
 have bQ:=af.KO r a_
 simp only[storeVar,Sem.run_bind,mZ aa,Result.andThen_ok,bQ,List.size_toArray,af.v8,ne_eq,not_true,if_false,Sem.run_ite]
 simpa [aD.addr] using aP
def tZ (P:Program)(f:FuncId):Bool :=
 match P.funcs[f]? with
 | some fn=>fn.name != "runtime.NumGoroutine"&&fn.body.isSome
 | none=>false
def oq (P:Program)(f:FuncId)(args:List Value)(h:ak)(Q:Value->ak->Prop):Prop :=
 tZ P f=true/\∀w,eQ h w->Calls P f args.toArray w λe cg=>∃v ah,e= .returned v/\Q v ah/\eQ ah cg/\eI h ah w cg
theorem oq.mono {P:Program}{f:FuncId}{args:List Value}{h:ak}{Q np:Value->ak->Prop}(aZ:oq P f args h Q)(aj:∀v ah,Q v ah->np v ah):oq P f args h np :=
 ⟨aZ.1,λw c=>(aZ.2 w c).mono λ_ _ ⟨v,ah,he,q,cc,g⟩=>⟨v,ah,he,aj v ah q,cc,g⟩⟩
theorem Rl {P:Program}{f:FuncId}(h:tZ P f=true)(args:Array Value)(w:World):(callFunc f args).run P w= .ok (.enter f args) w:=by
 unfold tZ at h
 split at h
 .rename_i fn a_
  simp only[Bool.and_eq_true,bne_iff_ne,ne_eq] at h
  obtain⟨aH,au⟩:=h
  obtain⟨c,aZ⟩:=Option.isSome_iff_exists.1 au
  simp only[callFunc,Sem.run_bind,run_program,Result.andThen_ok,a_]
  rw[if_neg (by simpa using aH),if_neg (by simp[aZ])]
  rfl
 .cases h
def nq (ro:Option Nat):Fence:={ fn:=λ_=>True,depth:=none,alive:=false,round:=ro }
theorem Rk (ro:Option Nat){n:Nat}:(nq ro).depth.isSome=true->1<=n:=λh=>by cases h
theorem acV {ro:Option Nat}{n:Nat}{P:Program}{f:FuncId}{args:Array Value}{w:World}{R:Ending->World->Prop}(h:Calls P f args w R):CallsIn (nq ro) n P f args w R:=by
 have aa:CallsIn Fence.wide n P f args w R:=callsIn_wide.2 h
 cases ro with
 | none=>exact aa
 | some l=>exact aa
theorem avH {ro:Option Nat}{n:Nat}{P:Program}{l:Nat}{f:FuncId}{tmps:Array Value}{assign body:Code}{w:World}{R:Ending->World->Prop}(h:RoundIn (nq none) 0 P l f tmps assign body w R) :
 RoundIn (nq ro) n P l f tmps assign body w R :=
 ⟨trivial,λc cs _=>h.2 c cs (λ_ h=>by cases h)⟩
def RA:Op->Bool
 | .defer _=>true
 | _=>false
theorem avI (ro:Option Nat)(a:Act)(o:Oper)(h:RA o.op=false):Oper.semAt ro a.eval o=execOp a.eval o :=
 Oper.semAt_eq ro a.eval o (λc aZ=>by rw[aZ] at h;cases h)
def m8 (P:Program)(l:Nat)(args:List Value)(h:ak)(Q:Value->ak->Prop):Prop :=
 ∀w,eQ h w->∃r:Loop,w.heap[l]? =some (.loop r)/\args.length=r.params.size /\
  RoundIn (nq none) 0 P l r.fn ((r.params.zip args.toArray).foldl (λtmps (t,a)=>tmps.setIfInBounds t a) r.tmps) r.assign r.body w
   λe cg=>∃v ah,e= .returned v/\Q v ah/\eQ ah cg/\eI h ah w cg
theorem m8.mono {P:Program}{l:Nat}{args:List Value}{h:ak}{Q np:Value->ak->Prop}(aZ:m8 P l args h Q)(aj:∀v ah,Q v ah->np v ah):m8 P l args h np:=λw c =>
 let ⟨r,aa,ad,an⟩:=aZ w c
 ⟨r,aa,ad,an.mono λ_ _ ⟨v,ah,he,q,cc,g⟩=>⟨v,ah,he,aj v ah q,cc,g⟩⟩
def gi (P:Program)(x:Value)(args:List Value)(h:ak)(Q:Value->ak->Prop):Prop :=
 match x with
 | .func (.func g) first cs=>first=#[]/\oq P g (args++cs.toList) h Q
 | .func (.yield l) first cs=>first=#[]/\cs=#[]/\m8 P l args h Q
 | _=>False
theorem gi.mono {P:Program}{x:Value}{args:List Value}{h:ak}{Q np:Value->ak->Prop}(aZ:gi P x args h Q)(aj:∀v ah,Q v ah->np v ah):gi P x args h np:=by
 unfold gi at aZ ⊢
 split at aZ
 .exact⟨aZ.1,aZ.2.mono aj⟩
 .exact⟨aZ.1,aZ.2.1,aZ.2.2.mono aj⟩
 .exact aZ.elim
def bj (h:ak)(o:Obj)(K:Nat->ak->Prop):Prop:=∀b,h b=none->K b (bA h b o)
def K7:Nat->List (Nat×af)->Bool
 | _,[]=>true
 | k,(i,_)::l=>i==k&&K7 (k+1) l
def kT (z:Array Value)(n:Nat):Array Value:=(Array.range n).map (z[·%z.size]!)
theorem adp (dA:Nat):∀(l:List (Nat×af)) (k:Nat) (pre old:List Value),K7 k l=true->(∀x∈l,x.2.size=dA/\x.2.flat=true) ->
 pre.length=k*dA->old.length=l.length*dA ->
 Instr.fill (λi=>some (i*dA,dA)) (pre++old).toArray (l.map λx=>(x.1,x.2.val))=some (pre++af.gn (l.map (·.2))).toArray
 | [],k,pre,old,_,_,_,dS=>by
  obtain rfl:old=[]:=List.length_eq_zero_iff.1 (by simpa using dS)
  simp[Instr.fill,af.gn]
 | (i,r)::l,k,pre,old,hi,aU,aS,dS=>by
  simp only[K7,Bool.and_eq_true,beq_iff_eq] at hi
  obtain⟨rfl,hi⟩:=hi
  obtain⟨aP,a_⟩:=aU (i,r) List.mem_cons_self
  simp only[List.length_cons] at dS
  have dB:(l.length+1)*dA=dA+l.length*dA:=by rw[Nat.add_mul,Nat.one_mul,Nat.add_comm]
  have avJ:(old.take dA).length=dA:=by rw[List.length_take];omega
  have aF:pre++old=pre++old.take dA++old.drop dA:=by rw[List.append_assoc,List.take_append_drop]
  simp only at aP a_
  have pS:(af.cells r).length=dA:=by rw[af.v8,aP]
  simp only[List.map_cons]
  rw[aF,RB (off:=i*dA) (l:=af.cells r) (by rw[pS]) (af.KO r a_) (by rw[avJ,pS]) aS.symm]
  rw[adp dA l (i+1) (pre++af.cells r) (old.drop dA) hi (λx ai=>aU x (List.mem_cons_of_mem _ ai)) (by
   rw[List.length_append,aS,pS,Nat.add_mul,Nat.one_mul]) (by rw[List.length_drop,dS,dB];omega)]
  simp[af.gn]
def Am (P:Program)(T:TypeId)(len:Nat)(cx:List (Nat×af))(h:ak)(K:ar->ak->Prop):Prop :=
 match P.underlying T with
 | some (.slice el)=>match jQ P el,uw P el with
  | some dA,some z=>if cx.length=len/\K7 0 cx=true/\(cx.all λx=>x.2.size==dA&&x.2.flat)=true/\z.cells.size=dA/\len*dA<=16777216 then
   bj h (.cells (af.gn (cx.map (·.2))).toArray el) λb h=>K ⟨some ⟨b,0⟩,len,len,none⟩ h else False
  | _,_=>False
 | _=>False
theorem avK {P:Program}{T:TypeId}{len:Nat}{cx:List (Nat×af)}{h:ak}{K:ar->ak->Prop}(ag:Am P T len cx h K)(w:World)(c:eQ h w) :
 ∃r ah cg,K r ah/\(Instr.buildSlice T len (cx.map λx=>(x.1,x.2.val)).toArray).run P w= .ok (bb r) cg/\eQ ah cg/\eI h ah w cg:=by
 unfold Am at ag
 split at ag
 .rename_i el hu
  split at ag
  .rename_i dA z bc wm
   split at ag
   .rename_i aZ
    obtain⟨aa,ad,an,aK,aR⟩:=aZ
    have E4:∀x∈cx,x.2.size=dA/\x.2.flat=true:=by
     intro x ai
     have:=List.all_eq_true.1 an x ai
     simpa using this
    refine⟨_,_,_,ag w.heap.size c.fresh,?_,c.alloc _,eI.alloc _ _ _⟩
    have avL:¬len*dA > 2 ^ 24:=by omega
    simp only[Instr.buildSlice,Sem.run_bind,run_underlying hu,Result.andThen_ok,mZ bc]
    rw[if_neg avL]
    have key:∀Z:Array Value,Z.size=len*dA->Instr.fill (λi=>some (i*dA,dA)) Z (cx.map λx=>(x.1,x.2.val))=some (af.gn (cx.map (·.2))).toArray:=by
     intro Z avM
     have:=adp dA cx 0 [] Z.toList ad E4 (by simp) (by simp[avM,aa])
     simpa using this
    by_cases h0:len*dA=0
    .simp only[h0,if_true,Sem.run_bind,Sem.run_pure,Result.andThen_ok]
     rw[key _ (by simp[h0])]
     rfl
    .simp only[h0,if_false,Sem.run_bind,An wm,Sem.run_pure,Result.andThen_ok]
     rw[key _ (by simp)]
     rfl
   .exact ag.elim
  .exact ag.elim
 .exact ag.elim
def Ao (P:Program)(T:TypeId)(len cap:Int)(h:ak)(K:ar->ak->Prop):Prop :=
 match P.underlying T with
 | some (.slice el)=>match jQ P el,uw P el,(P.info? el).map (·.bytes) with
  | some dA,some z,some by_=>0<=len/\len<=cap/\(by_:Int)*cap<=281474976710656/\cap<=9223372036854775807 /\
   bj h (.cells (kT (if cap.toNat*dA=0 then #[] else z.cells) (cap.toNat*dA)) el) λb h=>K ⟨some ⟨b,0⟩,len.toNat,cap.toNat,none⟩ h
  | _,_,_=>False
 | _=>False
theorem avN {P:Program}{T:TypeId}{k hJ:IntKind}{len cap:Int}{h:ak}{K:ar->ak->Prop}(ag:Ao P T len cap h K)(w:World)(c:eQ h w) :
 ∃r ah cg,K r ah/\(Instr.makeSlice T (.int k len) (.int hJ cap)).run P w= .ok (bb r) cg/\eQ ah cg/\eI h ah w cg:=by
 unfold Ao at ag
 split at ag
 .rename_i el hu
  split at ag
  .rename_i dA z by_ bc wm kY
   obtain⟨aa,ad,an,aK,ag⟩:=ag
   refine⟨_,_,_,ag w.heap.size c.fresh,?_,c.alloc _,eI.alloc _ _ _⟩
   have RC:∃i,P.info? el=some i/\i.bytes=by_:=by
    cases hi:P.info? el with
    | none=>simp[hi] at kY
    | some i=>simp[hi] at kY;exact⟨i,rfl,kY⟩
   obtain⟨i,hi,rfl⟩:=RC
   have aF:IntKind.i64.wrap len=len:=IntWalk.i64_in len ⟨by omega,by omega⟩
   have a8:IntKind.i64.wrap cap=cap:=IntWalk.i64_in cap ⟨by omega,by omega⟩
   have lf:¬(cap<0):=by omega
   have pJ:¬((i.bytes:Int)*cap > 2 ^ 48):=by
    have:(2:Int) ^ 48=281474976710656:=by decide
    omega
   have hZ:¬(len<0):=by omega
   have tl:¬(len > cap):=by omega
   simp only[Instr.makeSlice,Sem.run_bind,run_underlying hu,Result.andThen_ok,asInt,asIntOf,Sem.run_pure,typeInfo,run_program,hi,aF,a8]
   simp only[lf,pJ,hZ,tl,decide_false,Bool.or_false,Bool.false_eq_true,if_false,Sem.run_bind,run_askRoom,Result.andThen_ok,mZ bc]
   by_cases h0:cap.toNat*dA=0
   .simp only[h0,if_true,Sem.run_bind,Sem.run_pure,Result.andThen_ok]
    rfl
   .simp only[h0,if_false,Sem.run_bind,An wm,Sem.run_pure,Result.andThen_ok]
    rfl
  .exact ag.elim
 .exact ag.elim
def n3 (h:ak)(x:af)(dA n:Nat)(K:List Value->Prop):Prop :=
 match x with
 | .s x=>∃l:List Value,l.length=n*dA/\(∀v∈l,v.oneCell'=true)/\(match x.q with|some q=>fQ h q.b q.o l|none=>l=[])/\K l
 | .str s=>dA=1/\K (((s.extract 0 n).data.toList).map λb=> .int .u8 (b.toNat:Int))
 | _=>False
theorem K8 {P:Program}{h:ak}{w:World}(c:eQ h w){x:af}{dA n:Nat}{K:List Value->Prop}(ag:n3 h x dA n K) :
 ∃l,K l/\(∀v∈l,v.oneCell'=true)/\(Builtin.firstCells dA n x.val).run P w= .ok l.toArray w:=by
 unfold n3 at ag
 split at ag
 .rename_i x
  obtain⟨l,aT,aa,aP,ag⟩:=ag
  refine⟨l,ag,aa,?_⟩
  cases aj:x.q with
  | none =>
   rw[aj] at aP
   simp only at aP
   subst aP
   have Dj:n*dA=0:=by simpa using aT.symm
   simp only[af.val,bb]
   cases x.addr with
   | none=>simp[Builtin.firstCells]
   | some a =>
    simp only[Builtin.firstCells,Dj,loadCells]
    rfl
  | some q =>
   rw[aj] at aP
   simp only at aP
   have:=run_loadCells (P:=P) c aP
   rw[aT] at this
   simp only[af.val,bb,ar.GG aj]
   simpa [Builtin.firstCells,aD.addr] using this
 .rename_i s
  obtain⟨rfl,ag⟩:=ag
  refine⟨_,ag,?_,?_⟩
  .intro v bQ
   obtain⟨b,_,rfl⟩:=List.mem_map.1 bQ
   rfl
  .simp only[Builtin.firstCells,af.val,Sem.run_pure]
   congr 1
   apply Array.toList_inj.1
   simp
 .exact ag.elim
theorem avO {P:Program}{h:ak}{w:World}(c:eQ h w){x:af}{dA n:Nat}{K:List Value->Prop}(ag:n3 h x dA n K) :
 ∃l,K l/\(∀v∈l,v.oneCell'=true)/\(Builtin.firstCells dA n x.val).run P w= .ok l.toArray w /\
  (Builtin.firstCells dA n x.val).run P { w with drawn:=w.drawn+1 }= .ok l.toArray { w with drawn:=w.drawn+1 }:=by
 have:n3 h x dA n λl=>K l/\n3 h x dA n λfx=>fx=l:=by
  unfold n3 at ag ⊢
  split at ag
  .obtain⟨l,aa,ad,an,aK⟩:=ag
   exact⟨l,aa,ad,an,aK,l,aa,ad,an,rfl⟩
  .exact⟨ag.1,ag.2,ag.1,rfl⟩
  .exact ag.elim
 obtain⟨l,⟨ag,aT⟩,aa,ad⟩:=K8 (P:=P) c this
 obtain⟨fx,e,_,an⟩:=K8 (P:=P) (w:={ w with drawn:=w.drawn+1 }) c aT
 subst e
 exact⟨_,ag,aa,ad,an⟩
def sy (x:af)(K:Nat->Prop):Prop :=
 match x with
 | .s x=>K x.len
 | .str s=>K s.size
 | _=>False
theorem adq {P:Program}{x:af}{K:Nat->Prop}(h:sy x K):∃n,K n/\∀w,(Builtin.lenOf x.val).run P w= .ok n w:=by
 unfold sy at h
 split at h
 .exact⟨_,h,λw=>rfl⟩
 .exact⟨_,h,λw=>rfl⟩
 .exact h.elim
def fh (P:Program)(T:TypeId)(x:ar)(y:af)(h:ak)(K:ar->ak->Prop):Prop :=
 match P.underlying T with
 | some (.slice el)=>match jQ P el,uw P el,(P.info? el).map (·.bytes) with
  | some dA,some z,some by_=>sy y λn=>n3 h y dA n λl =>
   cond (decide (x.len+n<=x.cap))
    (match x.q with|some q=>aX h ⟨q.b,q.o+x.len*dA⟩ l λah=>K ⟨some q,x.len+n,x.cap,none⟩ ah|none=>l=[]/\K ⟨x.p,x.len+n,x.cap,x.z⟩ h)
    ((Builtin.nextslicecap (x.len+n) x.cap*by_<=281474976710656)/\((x.len+n:Nat):Int)<=9223372036854775807 /\
      n3 h (.s x) dA x.len λx_=>∀nm,x.len+n<=nm ->
       bj h (.cells (x_.toArray++l.toArray++Builtin.zeroCells z.cells (nm-(x.len+n))) el) λb h=>K ⟨some ⟨b,0⟩,x.len+n,nm,none⟩ h)
  | _,_,_=>False
 | _=>False
theorem avP {P:Program}{T Ap:TypeId}{ats:Array TypeId}{ty:TypeId}{x:ar}{y:af}{h:ak}{K:ar->ak->Prop}(ag:fh P T x y h K)(w:World)(c:eQ h w)
 (bO:ats[0]? =some T) (au:ats[1]? =some Ap) (bV:(∃e,P.underlying Ap=some (.slice e))∨P.underlying Ap=some .string) :
 ∃r ah cg,K r ah/\(Builtin.append_ ats ty #[bb x,y.val]).run P w= .ok (bb r) cg/\eQ ah cg/\eI h ah w cg:=by
 unfold fh at ag
 split at ag
 .rename_i el hu
  split at ag
  .rename_i dA z by_ bc wm kY
   obtain⟨n,ag,aH⟩:=adq (P:=P) ag
   obtain⟨l,ag,RD,aT,Bf⟩:=avO (P:=P) c ag
   have RC:∃i,P.info? el=some i/\i.bytes=by_:=by
    cases hi:P.info? el with
    | none=>simp[hi] at kY
    | some i=>simp[hi] at kY;exact⟨i,rfl,kY⟩
   obtain⟨i,hi,rfl⟩:=RC
   by_cases Dr:x.len+n<=x.cap
   .rw[decide_eq_true Dr] at ag
    simp only[cond_true] at ag
    cases Aq:x.q with
    | none =>
     rw[Aq] at ag
     simp only at ag
     obtain⟨rfl,ag⟩:=ag
     refine⟨_,h,w,ag,?_,c,eI.refl _ _⟩
     have j7:∀a:Addr,(storeCells a [] 0).run P w= .ok () w:=λa=>rfl
     rcases bV with ⟨b4,pf⟩|pf
     all_goals
      rw[show bb ⟨x.p,x.len+n,x.cap,x.z⟩= .slice x.addr (x.len+n) x.cap from rfl]
      cases GR:x.addr with
      | none=>simp only[Builtin.append_,bO,au,List.getElem?_toArray,List.getElem?_cons_zero,List.getElem?_cons_succ,bb,Sem.run_bind,run_underlying hu,Result.andThen_ok,mZ bc,run_underlying pf w,Sem.run_pure,Bool.false_eq_true,if_false,aH,Bool.not_false,if_true,Sem.run_ite,false_or,typeInfo,run_program,hi,Dr,aT,GR]
      | some a=>simp only[Builtin.append_,bO,au,List.getElem?_toArray,List.getElem?_cons_zero,List.getElem?_cons_succ,bb,Sem.run_bind,run_underlying hu,Result.andThen_ok,mZ bc,run_underlying pf w,Sem.run_pure,Bool.false_eq_true,if_false,aH,Bool.not_false,if_true,Sem.run_ite,false_or,typeInfo,run_program,hi,Dr,aT,GR,j7]
    | some q =>
     rw[Aq] at ag
     simp only at ag
     obtain⟨rG,t,RE,hlen,eM⟩:=ag
     obtain⟨cg,aP,mx,uv⟩:=GQ (P:=P) q.b (q.o+x.len*dA) l 0 h w rG t c RD RE (by simpa using hlen)
     refine⟨_,_,cg,eM,?_,mx,uv⟩
     have e:(Addr.add q.addr (x.len*dA))=⟨q.b,q.o+x.len*dA,none⟩:=by rw[v7];rfl
     have a8:ar.addr ⟨some q,x.len+n,x.cap,none⟩=some q.addr:=rfl
     rcases bV with ⟨b4,pf⟩|pf
     all_goals
      simp only[Builtin.append_,bO,au,List.getElem?_toArray,List.getElem?_cons_zero,List.getElem?_cons_succ,bb,Sem.run_bind,run_underlying hu,Result.andThen_ok,mZ bc,run_underlying pf w,Sem.run_pure,Bool.false_eq_true,if_false,aH,Bool.not_false,if_true,Sem.run_ite,false_or,typeInfo,run_program,hi,Dr,aT,ar.GG Aq,a8,e,aP]
   .rw[decide_eq_false Dr] at ag
    simp only[cond_false] at ag
    obtain⟨uE,az2,ag⟩:=ag
    have aQ:eQ h { w with drawn:=w.drawn+1 }:=c
    obtain⟨x_,ag,_,Dj⟩:=K8 (P:=P) aQ ag
    have pJ:¬(((x.len+n:Nat):Int) > IntKind.i64.max/\i.bytes=0):=by
     intro bR
     have aa:=bR.1
     simp[IntKind.max,IntKind.signed,IntKind.bits] at aa
     omega
    have hZ:¬(Builtin.nextslicecap (x.len+n) x.cap*i.bytes > 2 ^ 48):=by
     have:2 ^ 48=281474976710656:=by decide
     omega
    have aj:(Question.appendCap (x.len+n) x.cap el).forced=false:=rfl
    have avQ:x.len+n<=(Question.appendCap (x.len+n) x.cap el).cut (w.tape w.drawn (Question.appendCap (x.len+n) x.cap el)):=by
     simp only[Question.cut];omega
    simp only[af.val,bb] at Dj
    refine⟨_,_,_,ag _ avQ _ aQ.fresh,?_,aQ.alloc _,(eI.drew h w).trans (eI.alloc _ _ _)⟩
    rcases bV with ⟨b4,pf⟩|pf
    all_goals
     simp only[Builtin.append_,bO,au,List.getElem?_toArray,List.getElem?_cons_zero,List.getElem?_cons_succ,bb,Sem.run_bind,run_underlying hu,Result.andThen_ok,mZ bc,run_underlying pf w,Sem.run_pure,Bool.false_eq_true,if_false,aH,Bool.not_false,if_true,Sem.run_ite,false_or,typeInfo,run_program,hi,Dr,pJ,hZ,run_choose,aj,run_askRoom,Dj,Bf,An wm]
     rfl
  .exact ag.elim
 .exact ag.elim
def l4 (P:Program)(T:TypeId)(x:ar)(y:af)(h:ak)(K:Nat->ak->Prop):Prop :=
 match P.underlying T with
 | some (.slice el)=>match jQ P el with
  | some dA=>sy y λm=>n3 h y dA (Nat.min m x.len) λl =>
   match x.q with
   | some q=>aX h q l λah=>K (Nat.min m x.len) ah
   | none=>l=[]/\K (Nat.min m x.len) h
  | none=>False
 | _=>False
theorem avR {P:Program}{T:TypeId}{ats:Array TypeId}{ty:TypeId}{x:ar}{y:af}{h:ak}{K:Nat->ak->Prop}(ag:l4 P T x y h K)(w:World)(c:eQ h w)
 (bO:ats[0]? =some T) :
 ∃r ah cg,K r ah/\(Builtin.copy_ ats ty #[bb x,y.val]).run P w= .ok (.int .i64 (r:Int)) cg/\eQ ah cg/\eI h ah w cg:=by
 unfold l4 at ag
 split at ag
 .rename_i el hu
  split at ag
  .rename_i dA bc
   obtain⟨m,ag,hm⟩:=adq (P:=P) ag
   obtain⟨l,ag,RD,aT⟩:=K8 (P:=P) c ag
   cases Aq:x.q with
   | none =>
    rw[Aq] at ag
    simp only at ag
    obtain⟨rfl,ag⟩:=ag
    refine⟨_,_,_,ag,?_,c,eI.refl _ _⟩
    have j7:∀a:Addr,(storeCells a [] 0).run P w= .ok () w:=λa=>rfl
    cases GR:x.addr with
    | none =>
     simp only[Builtin.copy_,bO,List.getElem?_toArray,List.getElem?_cons_zero,List.getElem?_cons_succ,bb,Sem.run_bind,run_underlying hu,Result.andThen_ok,mZ bc,hm,aT,GR]
     rfl
    | some a =>
     simp only[Builtin.copy_,bO,List.getElem?_toArray,List.getElem?_cons_zero,List.getElem?_cons_succ,bb,Sem.run_bind,run_underlying hu,Result.andThen_ok,mZ bc,hm,aT,GR,j7]
     rfl
   | some q =>
    rw[Aq] at ag
    simp only at ag
    obtain⟨rG,t,RE,hlen,eM⟩:=ag
    obtain⟨cg,aP,mx,uv⟩:=GQ (P:=P) q.b q.o l 0 h w rG t c RD RE (by simpa using hlen)
    refine⟨_,_,cg,eM,?_,mx,uv⟩
    simp only[Builtin.copy_,bO,List.getElem?_toArray,List.getElem?_cons_zero,List.getElem?_cons_succ,bb,Sem.run_bind,run_underlying hu,Result.andThen_ok,mZ bc,hm,aT,ar.GG Aq,aD.addr,aP]
    rfl
  .exact ag.elim
 .exact ag.elim
def q_ (P:Program)(n:Nat)(e:Env):List Operand->List TypeId->(List af->Prop)->Prop
 | [],_,K=>K []
 | x::l,[],K=>hN n e x λs=>q_ P n e l [] λr=>K (s::r)
 | x::l,t::iY,K=>pB n (lP P 9 t) e x λs=>q_ P n e l iY λr=>K (s::r)
theorem Ds {P:Program}{n:Nat}{e:Env}:∀(l:List Operand) (iY:List TypeId) (K:List af->Prop),q_ P n e l iY K ->
 ∃r,K r/\∀a,Good n e a->l.map a.eval=af.bB r
 | [],_,K,h=>⟨[],h,λ_ _=>rfl⟩
 | x::l,[],K,h=>by
  obtain⟨s,aU,aa⟩:=jP h
  obtain⟨r,aP,ad⟩:=Ds l [] _ aU
  exact⟨_,aP,λa g=>by simp[af.bB,aa a g,ad a g]⟩
 | x::l,t::iY,K,h=>by
  obtain⟨s,aU,aa⟩:=yf h
  obtain⟨r,aP,ad⟩:=Ds l iY _ aU
  exact⟨_,aP,λa g=>by simp[af.bB,aa a g,ad a g]⟩
def RF (P:Program)(T:TypeId):Bool :=
 match P.underlying T with
 | some (.slice _)=>true
 | some .string=>true
 | _=>false
theorem avS {P:Program}{T:TypeId}(h:RF P T=true):(∃e,P.underlying T=some (.slice e))∨P.underlying T=some .string:=by
 unfold RF at h
 split at h
 .rename_i hu;exact .inl ⟨_,hu⟩
 .rename_i hu;exact .inr hu
 .cases h
def aab (P:Program)(f:FuncId)(args:List Value)(h:ak)(Q:Value->ak->Prop):Prop:=∃v,(∀w,(callFunc f args.toArray).run P w= .ok (.value v) w)/\Q v h
def p3 (e:UInt64×Value×Nat):MapEntry:={ key:=ab e.1,val:=e.2.1,born:=e.2.2 }
def NX (l:List (UInt64×Value×Nat))(clock:Nat)(k:UInt64)(v:Value):Obj :=
 match l.findIdx? (λe=>e.1==k) with
 | some i=> .map ((l.modify i λe=>(k,v,e.2.2)).map p3).toArray clock
 | none=> .map ((l++[(k,v,clock)]).map p3).toArray (clock+1)
def sL (h:ak)(r:Option Nat)(k:UInt64)(v:Value)(K:ak->Prop):Prop :=
 ∃b l clock,r=some b/\h b=some (.map (l.map p3).toArray clock)/\K (bA h b (NX l clock k v))
theorem adr (yg:IntKind)(k:UInt64):∀(l:List (UInt64×Value×Nat)) (i:Nat),Instr.findNow (.int yg) (ab k) (l.map p3) i =
 some ((l.findIdx? (λe=>e.1==k)).bind λj=>(l[j]?).map λe=>(i+j,e.2.1))
 | [],i=>by simp[Instr.findNow]
 | e::l,i=>by
  have dK:=adr yg k l (i+1)
  simp only[List.map_cons,Instr.findNow]
  have aU:Instr.sameNow (.int yg) (ab k) (p3 e).key=some (e.1==k):=by
   simp only[Instr.sameNow,ab,p3,if_true,Option.some.injEq]
   rw[Bool.eq_iff_iff]
   simp only[beq_iff_eq,Int.natCast_inj,UInt64.toNat_inj]
   exact⟨λh=>h.symm,λh=>h.symm⟩
  rw[aU]
  cases ag:(e.1==k) with
  | true=>simp[List.findIdx?_cons,ag,p3]
  | false =>
   simp only[dK,List.findIdx?_cons,ag]
   congr 1
   cases l.findIdx? (λe=>e.1==k) with
   | none=>rfl
   | some j =>
    simp only[Option.map_some,Option.bind_some,List.getElem?_cons_succ]
    rw[show i+1+j=i+(j+1) by omega]
    simp
theorem avT {P:Program}{T yh GS:TypeId}(fW:P.underlying T=some (.map yh GS)){yg:IntKind}(ag:P.underlying yh=some (.int yg)){h:ak}{w:World}(c:eQ h w){r:Option Nat}{k:UInt64}{v:Value}{K:ak->Prop}(hm:sL h r k v K) :
 ∃ah cg,K ah/\(Instr.mapUpdate T (.map r) (ab k) v).run P w= .ok () cg/\eQ ah cg/\eI h ah w cg:=by
 obtain⟨b,l,clock,rfl,au,eM⟩:=hm
 have hw:=c _ _ au
 have c_:(getObj b).run P w= .ok (.map (l.map p3).toArray clock) w:=by simp[getObj,Sem.run,hw]
 have Dq:∀o:Obj,(setObj b o).run P w= .ok () { w with heap:=w.heap.setIfInBounds b o }:=λo=>by simp[setObj,Sem.run,hw]
 have avU:(Instr.checkKey false 10000 yh (ab k)).run P w= .ok () w:=by
  rw[show(10000:Nat)=9999+1 from rfl,Instr.checkKey]
  simp only[Sem.run_bind,run_underlying ag,Result.andThen_ok,ab]
  rfl
 have avV:(Instr.findKey yh (ab k) (l.map p3)).run P w= .ok ((l.findIdx? (λe=>e.1==k)).bind λj=>(l[j]?).map λe=>(j,e.2.1)) w:=by
  have:=adr yg k l 0
  simp[Instr.findKey,run_underlying ag,this]
 have avW:∀o:Obj,eQ (bA h b o) { w with heap:=w.heap.setIfInBounds b o }:=λo x y ai=>by
  by_cases e:x=b
  .subst e;rw[eH] at ai;cases ai
   have:=c.lt au
   simp[this]
  .rw[cQ _ _ e] at ai
   have:=c _ _ ai
   simp only[Array.getElem?_setIfInBounds]
   rw[if_neg (λb4=>e b4.symm)];exact this
 have avX:∀o:Obj,eI h (bA h b o) w { w with heap:=w.heap.setIfInBounds b o }:=λo=>by
  refine⟨rfl,rfl,rfl,by simp,λx ai _=>?_⟩
  have e:x≠b:=λe=>by subst e;rw[au] at ai;cases ai
  refine⟨by rw[cQ _ _ e];exact ai,?_⟩
  simp only[Array.getElem?_setIfInBounds]
  rw[if_neg (λb4=>e b4.symm)]
 refine⟨_,_,eM,?_,avW _,avX _⟩
 have stays:∀(a:UInt64) ,(Instr.keyThatStays (ab a) (ab k)).run P w= .ok (ab k) w∨a≠k:=λa=>by
  by_cases e:a=k
  .subst e;left
   have aU:Instr.sameBits 10000 (ab a) (ab a)=true:=by simp[Instr.sameBits,ab]
   unfold Instr.keyThatStays
   rw[if_pos aU];rfl
  .exact .inr e
 simp only[Instr.mapUpdate,Sem.run_bind,run_underlying fW,Result.andThen_ok,c_,avU,avV]
 unfold NX
 cases a_:l.findIdx? (λe=>e.1==k) with
 | none=>simp[Dq,p3]
 | some i =>
  obtain⟨hi,Lz,_⟩:=List.findIdx?_eq_some_iff_getElem.1 a_
  have j3:l[i]? =some l[i]:=List.getElem?_eq_getElem hi
  have sN:l[i].1=k:=by simpa using Lz
  have j7:=(stays l[i].1).resolve_right (λh=>h sN)
  simp only[Option.bind_some,j3,Option.map_some]
  have aF:(((l.map p3).toArray[i]?).map (·.key)).getD (ab k)=ab l[i].1:=by simp[hi,p3]
  rw[aF]
  simp only[Sem.run_bind,j7,Result.andThen_ok,Dq]
  congr 3
  refine congrArg (λz=>Obj.map z clock) ?_
  apply Array.toList_inj.1
  simp only[Array.toList_modify,List.toList_toArray]
  apply List.ext_getElem?
  intro j
  simp only[List.getElem?_modify,List.getElem?_map]
  by_cases aV:i=j
  .subst aV;simp[hi,p3]
  .cases l[j]?<;>simp[aV]
def xH (n:Nat)(v:Value):List Value:=List.replicate n v
def r2 (P:Program)(T:TypeId)(x:ar)(h:ak)(K:ak->Prop):Prop :=
 match P.underlying T with
 | some (.slice el)=>match uw P el with
  | some z=>if z.oneCell'=true then aG (decide (x.len=0)) (K h) (∃q,x.q=some q/\aX h q (xH x.len z) K) else False
  | none=>False
 | _=>False
theorem avY {z:Value}(bc:z.oneCell'=true)(n:Nat):(Builtin.zeroCells z.cells n).toList=xH n z:=by
 rw[aui bc]
 unfold Builtin.zeroCells xH
 apply List.ext_getElem
 .simp
 .intro i aa ad;simp[Nat.mod_one]
theorem avZ {P:Program}{T:TypeId}{h:ak}{w:World}(c:eQ h w){x:ar}{K:ak->Prop}{ats:Array TypeId}(bO:ats[0]? =some T){ty:TypeId}(ag:r2 P T x h K) :
 ∃ah cg,K ah/\(Builtin.clear_ ats ty #[bb x]).run P w= .ok (.tuple #[]) cg/\eQ ah cg/\eI h ah w cg:=by
 unfold r2 at ag
 split at ag
 .rename_i el hu
  split at ag
  .rename_i z bc
   split at ag
   .rename_i aa
    by_cases h0:x.len=0
    .rw[decide_eq_true h0] at ag
     refine⟨h,w,ag,?_,c,eI.refl _ _⟩
     simp only[Builtin.clear_,bO,List.getElem?_toArray,List.getElem?_cons_zero,Sem.run_bind,run_underlying hu,Result.andThen_ok,bb,h0]
     cases x.addr<;>simp
    .rw[decide_eq_false h0] at ag
     obtain⟨q,aj,av0,t,au,aT,eM⟩:=ag
     have n2:(xH x.len z).length=x.len:=by simp[xH]
     obtain⟨cg,aP,mx,uv⟩:=GQ (P:=P) q.b q.o (xH x.len z) 0 h w av0 t c (λv bQ=>by
      unfold xH at bQ;rw[List.eq_of_mem_replicate bQ];exact aa) au (by simpa using aT)
     refine⟨_,cg,eM,?_,mx,uv⟩
     have e:x.addr=some ⟨q.b,q.o,none⟩:=ar.GG aj
     obtain⟨n,aH⟩:∃n,x.len=n+1:=⟨x.len-1,by omega⟩
     have ads:=avY aa x.len
     rw[aH] at ads aP
     simp only[Builtin.clear_,bO,List.getElem?_toArray,List.getElem?_cons_zero,Sem.run_bind,run_underlying hu,Result.andThen_ok,bb,e,aH,An bc,ads]
     rw[aP]
     simp
   .exact ag.elim
  .exact ag.elim
 .exact ag.elim
def h8 (P:Program)(n:Nat)(o:Op)(ty:TypeId)(e:Env)(h:ak)(K:af->ak->Prop):Prop :=
 match o with
 | .load T a=>hN n e a λs=>match s with| .p q=>ya P T h q λr=>K r h|_=>False
 | .store T a x=>hN n e a λs=>match s with
  | .p q=>pB n (lP P 9 T) e x λr=>if jQ P T=some r.size then mC r (aX h q (af.cells r) λah=>K .no ah) else False
  | _=>False
 | .box el x=>pB n (lP P 9 el) e x λr=>mC r (bj h (.cells (af.cells r).toArray el) λb h=>K (.p ⟨b,0⟩) h)
 | .alloc el=>match uw P el with|some z=>bj h (.cells z.cells el) λb h=>K (.p ⟨b,0⟩) h|none=>False
 | .buildSlice T len cx=>wh P n e (adt P T) cx.toList λcx=>Am P T len cx h λr h=>K (.s r) h
 | .makeSlice T l c=>hN n e l λl=>hN n e c λc=>yi l λ_ l=>yi c λ_ c=>Ao P T l c h λr h=>K (.s r) h
 | .makeMap _ none=>bj h (.map #[] 0) λb h=>K (.m (some b)) h
 | .call { callee:= .builtin .append,args,argTypes }=>q_ P n e args.toList argTypes.toList λxs=>match xs with
  | [.s x,y]=>(match argTypes[0]?,argTypes[1]? with|some T,some Ap=>if RF P Ap=true then fh P T x y h (λr h=>K (.s r) h) else False|_,_=>False)
  | _=>False
 | .call { callee:= .builtin .copy,args,argTypes }=>q_ P n e args.toList argTypes.toList λxs=>match xs with
  | [.s x,y]=>(match argTypes[0]? with|some T=>l4 P T x y h (λr h=>K (.i .i64 (r:Int)) h)|none=>False)
  | _=>False
 | .call { callee:= .builtin .clear,args,argTypes }=>q_ P n e args.toList argTypes.toList λxs=>match xs with
  | [.s x]=>(match argTypes[0]? with|some T=>r2 P T x h (λh=>K (.ja []) h)|none=>False)
  | _=>False
 | .mapUpdate T m k x=>match P.underlying T with
  | some (.map yh GS)=>match P.underlying yh with
   | some (.int _)=>hN n e m λm=>hN n e k λk=>pB n (lP P 9 GS) e x λx=>match m,k with
    | .m r,.u k=>sL h r k x.val λh=>K .no h
    | _,_=>False
   | _=>False
  | _=>False
 | .call { callee:= .value f,args,argTypes }=>hN n e f λf=>q_ P n e args.toList argTypes.toList λxs=>match f with
  | .f g c=>(match tZ P g with
   | true=>oq P g (af.bB xs++af.bB c) h λv ah=>Ab (lP P 9 ty) λr=>v=r.val/\K r ah
   | false=>aab P g (af.bB xs++af.bB c) h λv ah=>Ab (lP P 9 ty) λr=>v=r.val/\K r ah)
  | .v x=>gi P x (af.bB xs) h λv ah=>Ab (lP P 9 ty) λr=>v=r.val/\K r ah
  | _=>False
 | o=>wj P n o ty e λr=>K r h
inductive RG (P:Program) (x:Oper) (a:Act) (w:World) (h:ak) (K:af->ak->Prop):Prop where
 | value (r:af) (ah:ak) (cg:World) (ag:K r ah) (aP:(execOp a.eval x).run P w= .ok (.value r.val) cg) (c:eQ ah cg) (g:eI h ah w cg)
 | skip (ah:ak) (cg:World) (ag:K .no ah) (aP:(execOp a.eval x).run P w= .ok .skip cg) (c:eQ ah cg) (g:eI h ah w cg)
 | enter (f:FuncId) (args:List Value) (aP:(execOp a.eval x).run P w= .ok (.enter f args.toArray) w)
  (aZ:Calls P f args.toArray w λe cg=>∃r ah,e= .returned r.val/\K r ah/\eQ ah cg/\eI h ah w cg)
 | round (l:Nat) (f:FuncId) (tmps:Array Value) (assign body:Code) (aP:(execOp a.eval x).run P w= .ok (.round l f tmps assign body) w)
  (aZ:RoundIn (nq none) 0 P l f tmps assign body w λe cg=>∃r ah,e= .returned r.val/\K r ah/\eQ ah cg/\eI h ah w cg)
theorem RG.wp {P:Program}{x:Oper}{a:Act}{w:World}{h:ak}{K:af->ak->Prop}(aP:RG P x a w h K)(bV:RA x.op=false){ro:Option Nat}{m:Nat}{next:Act->World->Prop}{Q:Exit->Act->World->Prop}
 (aH:∀r ah cg,K r ah->eQ ah cg->eI h ah w cg->next (a.put x.dst r.val) cg):x.wpIn (nq ro) m P a w next Q:=by
 refine⟨λ_ _=>trivial,?_⟩
 rw[show(nq ro).round=ro from rfl,avI ro a x bV]
 cases aP with
 | value r ah cg ag aP c g=>rw[aP,Oper.uponIn_value];exact aH r ah cg ag c g
 | skip ah cg ag aP c g=>rw[aP,Oper.uponIn_skip];exact aH .no ah cg ag c g
 | enter f args aP aZ =>
  rw[aP,Oper.uponIn_enter]
  refine⟨Rk ro,(acV aZ).mono ?_⟩
  rintro e cg ⟨r,ah,rfl,ag,c,g⟩
  exact aH r ah cg ag c g
 | round l f tmps assign body aP aZ =>
  rw[aP,Oper.uponIn_round]
  refine⟨Rk ro,(avH aZ).mono ?_⟩
  rintro e cg ⟨r,ah,rfl,ag,c,g⟩
  exact aH r ah cg ag c g
theorem au5 {P:Program}{n:Nat}{e:Env}{h:ak}{K:af->ak->Prop}{o:Op}{T:TypeId}(ag:h8 P n o T e h K):RA o=false:=by
 cases o<;>first|rfl|exact(show False from ag).elim
theorem ac3 {P:Program}{n:Nat}{e:Env}{h:ak}{K:af->ak->Prop}{x:Oper}(ag:h8 P n x.op x.type e h K){a:Act}(g:Good n e a){w:World}(c:eQ h w) :
 RG P x a w h K:=by
 obtain⟨dst,op,ty,pos,after,guard⟩:=x
 simp only at ag
 unfold h8 at ag
 split at ag
 .obtain⟨s,ag,aU⟩:=jP ag
  split at ag
  .rename_i q
   obtain⟨r,ag,j7,aa,ad⟩:=acY ag
   refine .value r h w ag ?_ c (eI.refl _ _)
   simp only[execOp,Sem.run_bind,aU a g,af.val,bg,Instr.loadAt,Instr.sureAddr,Sem.run_pure,Result.andThen_ok,acZ c aa ad j7]
  .exact ag.elim
 .obtain⟨s,ag,aU⟩:=jP ag
  split at ag
  .rename_i q
   obtain⟨r,ag,aP⟩:=yf ag
   split at ag
   .rename_i aZ
    obtain⟨a_,ag⟩:=x2 ag
    obtain⟨ah,cg,ag,lO,cc,bo⟩:=avG (P:=P) c aZ a_ ag
    refine .skip ah cg ag ?_ cc bo
    simp only[execOp,Sem.run_bind,aU a g,aP a g,af.val,bg,Instr.storeAt,Instr.sureAddr,Sem.run_pure,Result.andThen_ok,lO]
   .exact ag.elim
  .exact ag.elim
 .obtain⟨r,ag,aP⟩:=yf ag
  obtain⟨a_,ag⟩:=x2 ag
  refine .value _ _ _ (ag _ c.fresh) ?_ (c.alloc _) (eI.alloc _ _ _)
  simp only[execOp,Sem.run_bind,aP a g,Instr.box,newVar,newRow,af.KO r a_]
  rfl
 .split at ag
  .rename_i z bc
   refine .value _ _ _ (ag _ c.fresh) ?_ (c.alloc _) (eI.alloc _ _ _)
   simp only[execOp,Sem.run_bind,Instr.alloc,An bc,Result.andThen_ok,newVar,newRow]
   rfl
  .exact ag.elim
 .rename_i T len cx
  obtain⟨r,ag,aP⟩:=RH _ _ ag
  obtain⟨v,ah,cg,ag,lO,cc,bo⟩:=avK ag w c
  refine .value (.s v) ah cg ag ?_ cc bo
  have:(cx.map λx=>(x.1,a.eval x.2))=(r.map λx=>(x.1,x.2.val)).toArray:=by
   apply Array.toList_inj.1
   simp[aP a g]
  simp only[execOp,Sem.run_bind,this,lO]
  rfl
 .obtain⟨l,ag,aT⟩:=jP ag
  obtain⟨nH,ag,s3⟩:=jP ag
  obtain⟨k,i,hi,ag⟩:=GU ag
  obtain⟨hJ,dw,b5,ag⟩:=GU ag
  obtain⟨v,ah,cg,ag,lO,cc,bo⟩:=avN (k:=k) (hJ:=hJ) ag w c
  refine .value (.s v) ah cg ag ?_ cc bo
  simp only[execOp,Sem.run_bind,aT a g,s3 a g,hi,b5,lO]
  rfl
 .refine .value _ _ _ (ag _ c.fresh) ?_ (c.alloc _) (eI.alloc _ _ _)
  simp only[execOp,Sem.run_bind,Instr.makeMap]
  rfl
 .rename_i args ats
  obtain⟨r,ag,aP⟩:=Ds _ _ _ ag
  have r0:args.map a.eval=(af.bB r).toArray:=by
   apply Array.toList_inj.1
   simp[aP a g]
  split at ag
  .rename_i x y
   split at ag
   .rename_i T Ap fW RI
    split at ag
    .rename_i bw
     obtain⟨v,ah,cg,ag,lO,cc,bo⟩:=avP (ty:=ty) ag w c fW RI (avS bw)
     refine .value (.s v) ah cg ag ?_ cc bo
     simp only[execOp,Sem.run_bind,resolve,r0,Sem.run_pure,Result.andThen_ok,invoke,builtin,af.bB,af.val,lO]
    .exact ag.elim
   .exact ag.elim
  .exact ag.elim
 .rename_i args ats
  obtain⟨r,ag,aP⟩:=Ds _ _ _ ag
  have r0:args.map a.eval=(af.bB r).toArray:=by
   apply Array.toList_inj.1
   simp[aP a g]
  split at ag
  .rename_i x y
   split at ag
   .rename_i T fW
    obtain⟨v,ah,cg,ag,lO,cc,bo⟩:=avR (ty:=ty) ag w c fW
    refine .value (.i .i64 (v:Int)) ah cg ag ?_ cc bo
    simp only[execOp,Sem.run_bind,resolve,r0,Sem.run_pure,Result.andThen_ok,invoke,builtin,af.bB,af.val,lO]
   .exact ag.elim
  .exact ag.elim
 .rename_i args ats
  obtain⟨r,ag,aP⟩:=Ds _ _ _ ag
  have r0:args.map a.eval=(af.bB r).toArray:=by
   apply Array.toList_inj.1
   simp[aP a g]
  split at ag
  .rename_i x
   split at ag
   .rename_i T fW
    obtain⟨ah,cg,ag,lO,cc,bo⟩:=avZ c fW (ty:=ty) ag
    refine .value (.ja []) ah cg ag ?_ cc bo
    simp only[execOp,Sem.run_bind,resolve,r0,Sem.run_pure,Result.andThen_ok,invoke,builtin,af.bB,af.val,lO]
   .exact ag.elim
  .exact ag.elim
 .rename_i T m k x
  split at ag
  .rename_i yh GS hu
   split at ag
   .rename_i yg EV
    obtain⟨av1,ag,hm⟩:=jP ag
    obtain⟨av2,ag,av3⟩:=jP ag
    obtain⟨av4,ag,ai⟩:=yf ag
    split at ag
    .rename_i r hJ
     obtain⟨ah,cg,ag,lO,cc,bo⟩:=avT hu EV c ag
     refine .skip ah cg ag ?_ cc bo
     simp only[execOp,Sem.run_bind,hm a g,av3 a g,ai a g,af.val,lO,Result.andThen_ok,Sem.run_pure]
    .exact ag.elim
   .exact ag.elim
  .exact ag.elim
 .rename_i f args ats
  obtain⟨av5,ag,a_⟩:=jP ag
  obtain⟨r,ag,aP⟩:=Ds _ _ _ ag
  have r0:args.map a.eval=(af.bB r).toArray:=by
   apply Array.toList_inj.1
   simp[aP a g]
  split at ag
  .rename_i Dg cap jO
   split at ag
   rotate_left
   .obtain⟨v,lO,bQ⟩:=ag
    obtain⟨s,rfl,eM⟩:=GK _ _ bQ
    refine .value s h w eM ?_ c (eI.refl _ _)
    simp only[execOp,Sem.run_bind,resolve,r0,a_ a g,af.val,Deferred.ofValue,Sem.run_pure,Result.andThen_ok,invoke]
    have e:(#[]:Array Value)++(af.bB r).toArray++(af.bB cap).toArray=(af.bB r++af.bB cap).toArray:=by simp
    rw[e,lO w]
   refine .enter Dg (af.bB r++af.bB cap) ?_ ((ag.2 w c).mono ?_)
   .simp only[execOp,Sem.run_bind,resolve,r0,a_ a g,af.val,Deferred.ofValue,Sem.run_pure,Result.andThen_ok,invoke,Rl ag.1]
    simp
   .rintro e cg ⟨v,ah,rfl,bQ,cc,bo⟩
    obtain⟨s,rfl,eM⟩:=GK _ _ bQ
    exact⟨s,ah,rfl,eM,cc,bo⟩
  .rename_i x
   unfold gi at ag
   split at ag
   .rename_i Dg first cs
    obtain⟨rfl,ag⟩:=ag
    refine .enter Dg (af.bB r++cs.toList) ?_ ((ag.2 w c).mono ?_)
    .simp only[execOp,Sem.run_bind,resolve,r0,a_ a g,af.val,Deferred.ofValue,Sem.run_pure,Result.andThen_ok,invoke]
     have e:(#[]:Array Value)++(af.bB r).toArray++cs=(af.bB r++cs.toList).toArray:=by simp
     simp only[e,Rl ag.1]
    .rintro e cg ⟨v,ah,rfl,bQ,cc,bo⟩
     obtain⟨s,rfl,eM⟩:=GK _ _ bQ
     exact⟨s,ah,rfl,eM,cc,bo⟩
   .rename_i l first cs
    obtain⟨rfl,rfl,ag⟩:=ag
    obtain⟨rc,aT,hlen,KZ⟩:=ag w c
    refine .round l rc.fn _ rc.assign rc.body ?_ (KZ.mono ?_)
    .simp only[execOp,Sem.run_bind,resolve,r0,a_ a g,af.val,Deferred.ofValue,Sem.run_pure,Result.andThen_ok,invoke]
     have e:(#[]:Array Value)++(af.bB r).toArray=(af.bB r).toArray:=by simp
     simp only[e]
     exact run_yield aT (by simpa using hlen)
    .rintro e cg ⟨v,ah,rfl,bQ,cc,bo⟩
     obtain⟨s,rfl,eM⟩:=GK _ _ bQ
     exact⟨s,ah,rfl,eM,cc,bo⟩
   .exact ag.elim
  .exact ag.elim
 .obtain⟨r,ag,aP⟩:=av6 (x:=⟨dst,op,ty,pos,after,guard⟩) ag
  exact .value r h w ag (aP a g w) c (eI.refl _ _)

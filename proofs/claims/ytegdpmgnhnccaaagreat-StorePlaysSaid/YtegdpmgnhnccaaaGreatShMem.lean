import Derived.Test.YtegdpmgnhnccaaaGreatShOps
import Derived.Below
import Derived.OrdersIn
import Derived.TacticsIn
import Derived.RangeFuncLeaves
import Derived.RangeFuncRecord
import Derived.RangeFuncIn
namespace Go.cQ
open Go Go.RowKit
def bD (h:ai)(b:Nat)(o:Obj):ai:=λx=>if x=b then some o else h x
theorem ea (h:ai)(b:Nat)(o:Obj):bD h b o b=some o:=by simp[bD]
theorem cJ (h:ai){b c:Nat}(o:Obj)(aH:c≠b):bD h b o c=h c:=by simp[bD,aH]
theorem Hm (h:ai){b c:Nat}(o p:Obj)(aH:b≠c):bD (bD h b o) c p=bD (bD h c p) b o:=by
 funext x;unfold bD;by_cases aa:x=b<;>by_cases ad:x=c<;>simp_all
structure dN (h ag:ai)(w bX:World):Prop where
 os:bX.os=w.os
 tape:bX.tape=w.tape
 output:bX.output=w.output
 size:w.heap.size<=bX.heap.size
 rest:∀b,h b=none->b<w.heap.size->ag b=none/\bX.heap[b]? =w.heap[b]?
theorem dN.refl (h:ai)(w:World):dN h h w w:=⟨rfl,rfl,rfl,as_ _,λ_ au _=>⟨au,rfl⟩⟩
theorem dN.trans {aa ad aq:ai}{jJ iO n2:World}(a:dN aa ad jJ iO)(b:dN ad aq iO n2):dN aa aq jJ n2 :=
 ⟨b.os.trans a.os,b.tape.trans a.tape,b.output.trans a.output,au0 a.size b.size,λx af aO=>by
  obtain⟨aof,a7⟩:=a.rest x af aO;obtain⟨aog,b2⟩:=b.rest x aof (aup aO a.size);exact⟨aog,b2.trans a7⟩⟩
theorem dU.lt {h:ai}{w:World}(c:dU h w){b:Nat}{o:Obj}(au:h b=some o):b<w.heap.size:=by
 have:=c b o au;exact(auO.1 this).1
theorem dU.fresh {h:ai}{w:World}(c:dU h w):h w.heap.size=none:=by
 cases au:h w.heap.size with
 | none=>rfl
 | some o=>exact absurd (c.lt au) (Nat.lt_irrefl _)
theorem dU.alloc {h:ai}{w:World}(c:dU h w)(o:Obj):dU (bD h w.heap.size o) (w.alloc o):=by
 intro b x au;by_cases e:b=w.heap.size
 .subst e;rw[ea] at au;cases au;show(w.heap.push o)[w.heap.size]? =some o;simp
 .rw[cJ _ _ e] at au;have:=c.lt au;rw[Below.heap_alloc _ _ _ this];exact c _ _ au
theorem dN.alloc (h:ai)(w:World)(o:Obj):dN h (bD h w.heap.size o) w (w.alloc o) :=
 ⟨rfl,rfl,rfl,by simp,λb au aO=>⟨by rw[cJ _ _ (by omega)];exact au,Below.heap_alloc _ _ _ aO⟩⟩
theorem dN.drew (h:ai)(w:World):dN h h w w.drew:=⟨rfl,rfl,rfl,as_ _,λ_ au _=>⟨au,rfl⟩⟩
theorem aoh {h:ai}{w:World}(c:dU h w){b:Nat}{l:List Value}{o:Nat}(aK:fb h b o l)(i:Nat)(hi:i<l.length) :
 w.cell? (Addr.add ⟨b,o,none⟩ i)=some l[i]:=by
 rw[show(⟨b,o,none⟩:Addr)=aG.addr ⟨b,o⟩ from rfl,tW];exact c.cell ((qh h b l o).1 aK i hi)
theorem run_loadCellsFrom {P:Program}{h:ai}{w:World}(c:dU h w){b o:Nat}(l:List Value)(aK:fb h b o l) :
 ∀(k:Nat) (n:Nat) (acc:Array Value),k+n=l.length->(loadCellsFrom ⟨b,o,none⟩ k n acc).run P w= .ok (acc++(l.drop k).toArray) w:=by
 intro k n
 induction n generalizing k with
 | zero =>
  intro acc ab;have:l.drop k=[]:=List.drop_eq_nil_of_le (by omega);simp[loadCellsFrom,this]
 | succ n c6 =>
  intro acc ab;have b1:k<l.length:=by omega
  simp only[loadCellsFrom,atb,run_load,aoh c aK k b1,ata];rw[c6 (k+1) _ (by omega),auv b1];congr 1;apply atG.1;simp
theorem run_loadCells {P:Program}{h:ai}{w:World}(c:dU h w){b o:Nat}{l:List Value}(aK:fb h b o l) :
 (loadCells ⟨b,o,none⟩ l.length).run P w= .ok l.toArray w:=by
 unfold loadCells;rw[run_loadCellsFrom c l aK 0 l.length #[] (by omega)];simp
def eo.qu:eo->Bool
 | .c_ _=>true
 | .ws _=>true
 | _=>false
def vS (P:Program)(T:TypeId)(h:ai)(q:aG)(K:ae->Prop):Prop :=
 if iy P T=some (kr P 9 T).size/\pK P T=some (kr P 9 T).qu then AD h q.b (kr P 9 T) q.o K else False
theorem aoi (h:ai)(b:Nat):∀(t:eo) (o:Nat) (K:ae->Prop),AD h b t o K ->
 ∃r,K r/\fb h b o (ae.cells r)/\(ae.cells r).length=t.size/\ae.flat r=true/\r.qu=t.qu:=by
 intro t o K aO;cases t with
 | c_ l =>
  obtain⟨r,ab,aK,aH,bf⟩:=MR h b l o _ aO;exact⟨_,ab,aK,aH,bf,rfl⟩
 | ws n =>
  obtain⟨c,aT,ab⟩:=aO;obtain⟨r,fx,aa,ad,aq⟩:=XJ h b (.ws n) o (λr=>r= .ws n c) ⟨c,aT,rfl⟩;subst fx;exact⟨_,ab,aa,ad,aq,rfl⟩
 | h5 l=>exact aO.elim
 | v =>
  obtain⟨x,af,aa,ab⟩:=aO;exact⟨_,ab,by simp[ae.cells,fb,af],rfl,aa,rfl⟩
 | i k=>obtain⟨x,af,ab⟩:=aO;exact⟨_,ab,by simp[ae.cells,fb,af],rfl,rfl,rfl⟩
 | u=>obtain⟨x,af,ab⟩:=aO;exact⟨_,ab,by simp[ae.cells,fb,af],rfl,rfl,rfl⟩
 | b=>obtain⟨x,af,ab⟩:=aO;exact⟨_,ab,by simp[ae.cells,fb,af],rfl,rfl,rfl⟩
 | p=>obtain⟨x,af,ab⟩:=aO;exact⟨_,ab,by simp[ae.cells,fb,af],rfl,rfl,rfl⟩
 | f=>obtain⟨g,c,af,ab⟩:=aO;exact⟨_,ab,by simp[ae.cells,fb,af],rfl,rfl,rfl⟩
 | fw=>obtain⟨x,af,ab⟩:=aO;exact⟨_,ab,by simp[ae.cells,fb,af],rfl,rfl,rfl⟩
 | s=>obtain⟨x,af,ab⟩:=aO;exact⟨_,ab,by simp[ae.cells,fb,af],rfl,rfl,rfl⟩
 | str=>obtain⟨x,af,ab⟩:=aO;exact⟨_,ab,by simp[ae.cells,fb,af],rfl,rfl,rfl⟩
 | m=>obtain⟨x,af,ab⟩:=aO;exact⟨_,ab,by simp[ae.cells,fb,af],rfl,rfl,rfl⟩
def kN (h:ai)(q:aG)(r:ae):Prop:=fb h q.b q.o (ae.cells r)
theorem X3 {P:Program}{T:TypeId}{h:ai}{w:World}(c:dU h w){q:aG}{r:ae}(aa:iy P T=some r.size)(ad:pK P T=some r.qu)(aR:kN h q r) :
 (loadVar T q.addr).run P w= .ok r.val w:=by
 unfold loadVar;simp only[atb,Dv ad,ata];cases aK:r.qu with
 | true =>
  have:=run_loadCells (P:=P) c aR;rw[ae.tX] at this;simp only[at2,atb,lD aa,ata,atk];rw[show q.addr=⟨q.b,q.o,none⟩ from rfl,this,ae.Ho aK];rfl
 | false =>
  simp only[atN,atS];unfold kN at aR;rw[ae.Yq aK] at aR;simp only[run_load,show q.addr=⟨q.b,q.o,none⟩ from rfl,c.cell aR.1]
theorem X2 {P:Program}{T:TypeId}{h:ai}{q:aG}{K:ae->Prop}(aO:vS P T h q K) :
 ∃r,K r/\kN h q r/\iy P T=some r.size/\pK P T=some r.qu:=by
 unfold vS at aO;split at aO
 .rename_i aT
  obtain⟨r,ab,aK,aH,bf,bV⟩:=aoi _ _ _ _ _ aO;exact⟨r,ab,aK,by rw[aT.1,<-aH,ae.tX],by rw[aT.2,bV]⟩
 .exact aO.elim
def hg (c:Array Value)(o:Nat):List Value->Array Value
 | []=>c
 | v::l=>hg (c.setIfInBounds o v) (o+1) l
theorem yr (l:List Value):∀(c:Array Value) (o:Nat),(hg c o l).size=c.size:=by
 induction l with
 | nil=>intro c o;rfl
 | cons v l c6=>intro c o;simp[hg,c6]
def a1 (h:ai)(q:aG)(l:List Value)(K:ai->Prop):Prop :=
 ∃c t,h q.b=dB c t/\q.o+l.length<=c.size/\K (bD h q.b (.cells (hg c q.o l) t (0,0)))
theorem Dw {P:Program}(b o:Nat):∀(l:List Value) (k:Nat) (h:ai) (w:World) (c:Array Value) (t:TypeId),dU h w ->
 (∀v∈l,v.oneCell'=true)->h b=dB c t->o+k+l.length<=c.size ->
 ∃bX,(storeCells ⟨b,o,none⟩ l k).run P w= .ok () bX/\dU (bD h b (.cells (hg c (o+k) l) t (0,0))) bX/\dN h (bD h b (.cells (hg c (o+k) l) t (0,0))) w bX
 | [],k,h,w,c,t,aT,_,au,_=>by
  refine⟨w,rfl,?_,?_⟩
  .intro x y af
   by_cases e:x=b
   .subst e;rw[ea] at af;cases af;exact aT _ _ au
   .rw[cJ _ _ e] at af;exact aT _ _ af
  .refine⟨rfl,rfl,rfl,as_ _,λx af _=>⟨?_,rfl⟩⟩;rw[cJ _ _ (λe=>by subst e;rw[au] at af;cases af)];exact af
 | v::l,k,h,w,c,t,aT,bH,au,aO=>by
  simp only[List.length_cons] at aO;have b1:o+k<c.size:=by omega
  have hw:w.heap[b]? =dB c t:=aT _ _ au;have bR:w.cell? (Addr.add ⟨b,o,none⟩ k)=some c[o+k]:=by
   rw[show(⟨b,o,none⟩:Addr)=aG.addr ⟨b,o⟩ from rfl,tW];simp[aG.addr,World.cell?,hw,b1]
  have aoj:w.frozen? (Addr.add ⟨b,o,none⟩ k)=false:=by
   rw[show(⟨b,o,none⟩:Addr)=aG.addr ⟨b,o⟩ from rfl,tW];simp[aG.addr,World.frozen?,hw]
  have aok:(Addr.add ⟨b,o,none⟩ k).block=b:=by unfold Addr.add;split<;>rfl
  have rv:(w.setCell (Addr.add ⟨b,o,none⟩ k) v).heap[b]? =dB (c.setIfInBounds (o+k) v) t:=by
   rw[show(⟨b,o,none⟩:Addr)=aG.addr ⟨b,o⟩ from rfl,tW];simp only[aG.addr,World.setCell,Array.getElem?_modify,at2,hw,aua];rfl
  have Yr:∀x,x≠b->(w.setCell (Addr.add ⟨b,o,none⟩ k) v).heap[x]? =w.heap[x]?:=λx af=>Below.heap_setCell _ _ _ _ (by rw[aok];exact af);have tU:b<w.heap.size:=aT.lt au;have Eu:dU (bD h b (.cells (c.setIfInBounds (o+k) v) t (0,0))) (w.setCell (Addr.add ⟨b,o,none⟩ k) v):=by
   intro x y af;by_cases e:x=b
   .subst e;rw[ea] at af;cases af;exact rv
   .rw[cJ _ _ e] at af;rw[Yr x e];exact aT _ _ af
  have aol:dN h (bD h b (.cells (c.setIfInBounds (o+k) v) t (0,0))) w (w.setCell (Addr.add ⟨b,o,none⟩ k) v):=by
   refine⟨rfl,rfl,rfl,by simp,λx af _=>?_⟩;have e:x≠b:=λe=>by subst e;rw[au] at af;cases af
   exact⟨by rw[cJ _ _ e];exact af,Yr x e⟩
  obtain⟨bX,aK,k5,sD⟩:=Dw b o l (k+1) _ _ (c.setIfInBounds (o+k) v) t Eu (λx af=>bH x (atn _ af)) (ea _ _ _) (by simp;omega);have aom:∀z:Obj,bD (bD h b (.cells (c.setIfInBounds (o+k) v) t (0,0))) b z=bD h b z:=by
   intro z;funext x;unfold bD;split<;>rfl
  rw[aom] at k5 sD;refine⟨bX,?_,k5,aol.trans sD⟩;simp only[storeCells,atb,run_store _ _ _ _ _ (bH v (atm)),bR,aoj,ata,atN,atS];exact aK
theorem aon {P:Program}{T:TypeId}{h:ai}{w:World}(aT:dU h w){q:aG}{r:ae}(aa:iy P T=some r.size)(bf:r.flat=true){K:ai->Prop}(ab:a1 h q (ae.cells r) K) :
 ∃ag bX,K ag/\(storeVar T q.addr r.val).run P w= .ok () bX/\dU ag bX/\dN h ag w bX:=by
 obtain⟨c,t,au,aO,fr⟩:=ab;obtain⟨bX,aK,k5,sD⟩:=Dw (P:=P) q.b q.o (ae.cells r) 0 h w c t aT (ae.XK r bf) au (by simpa using aO);refine⟨_,bX,fr,?_,k5,sD⟩;have bH:=ae.G7 r bf;simp only[storeVar,atb,lD aa,ata,bH,List.size_toArray,ae.tX,ne_eq,not_true,atS,Sem.run_ite];simpa [aG.addr] using aK
def sg (P:Program)(f:FuncId):Bool :=
 match P.funcs[f]? with
 | some fn=>fn.name != "runtime.NumGoroutine"&&fn.body.isSome
 | none=>false
def mY (P:Program)(f:FuncId)(args:List Value)(h:ai)(Q:Value->ai->Prop):Prop :=
 sg P f=true/\∀w,dU h w->Calls P f args.toArray w λe bX=>∃v ag,e= .returned v/\Q v ag/\dU ag bX/\dN h ag w bX
theorem mY.mono {P:Program}{f:FuncId}{args:List Value}{h:ai}{Q kW:Value->ai->Prop}(aT:mY P f args h Q)(ah:∀v ag,Q v ag->kW v ag):mY P f args h kW :=
 ⟨aT.1,λw c=>(aT.2 w c).mono λ_ _ ⟨v,ag,he,q,b8,g⟩=>⟨v,ag,he,ah v ag q,b8,g⟩⟩
theorem M8 {P:Program}{f:FuncId}(h:sg P f=true)(args:Array Value)(w:World):(callFunc f args).run P w= .ok (.enter f args) w:=by
 unfold sg at h;split at h
 .rename_i fn bf
  simp only[at6,bne_iff_ne,ne_eq] at h;obtain⟨aH,au⟩:=h;obtain⟨c,aT⟩:=Option.isSome_iff_exists.1 au;simp only[callFunc,atb,run_program,ata,bf];rw[as7 (by simpa using aH),as7 (by simp[aT])];rfl
 .cases h
def lY (ro:Option Nat):Fence:={ fn:=λ_=>True,depth:=none,alive:=false,round:=ro }
theorem M7 (ro:Option Nat){n:Nat}:(lY ro).depth.isSome=true->1<=n:=λh=>by cases h
theorem XZ {ro:Option Nat}{n:Nat}{P:Program}{f:FuncId}{args:Array Value}{w:World}{R:Ending->World->Prop}(h:Calls P f args w R):CallsIn (lY ro) n P f args w R:=by
 have aa:CallsIn Fence.wide n P f args w R:=callsIn_wide.2 h;cases ro with
 | none=>exact aa
 | some l=>exact aa
theorem aoo {ro:Option Nat}{n:Nat}{P:Program}{l:Nat}{f:FuncId}{tmps:Array Value}{assign body:Code}{w:World}{R:Ending->World->Prop}(h:RoundIn (lY none) 0 P l f tmps assign body w R) :
 RoundIn (lY ro) n P l f tmps assign body w R :=
 ⟨trivial,λc cs _=>h.2 c cs (λ_ h=>by cases h)⟩
def Nn:Op->Bool
 | .defer _=>true
 | _=>false
theorem aop (ro:Option Nat)(a:Act)(o:Oper)(h:Nn o.op=false):Oper.semAt ro a.eval o=execOp a.eval o :=
 Oper.semAt_eq ro a.eval o (λc aT=>by rw[aT] at h;cases h)
def mZ (P:Program)(l:Nat)(args:List Value)(h:ai)(Q:Value->ai->Prop):Prop :=
 ∀w,dU h w->∃r:Loop,w.heap[l]? =some (.loop r)/\args.length=r.params.size /\
  RoundIn (lY none) 0 P l r.fn ((r.params.zip args.toArray).foldl (λtmps (t,a)=>tmps.setIfInBounds t a) r.tmps) r.assign r.body w
   λe bX=>∃v ag,e= .returned v/\Q v ag/\dU ag bX/\dN h ag w bX
theorem mZ.mono {P:Program}{l:Nat}{args:List Value}{h:ai}{Q kW:Value->ai->Prop}(aT:mZ P l args h Q)(ah:∀v ag,Q v ag->kW v ag):mZ P l args h kW:=λw c =>
 let ⟨r,aa,ad,aq⟩:=aT w c
 ⟨r,aa,ad,aq.mono λ_ _ ⟨v,ag,he,q,b8,g⟩=>⟨v,ag,he,ah v ag q,b8,g⟩⟩
def fo (P:Program)(x:Value)(args:List Value)(h:ai)(Q:Value->ai->Prop):Prop :=
 match x with
 | .func (.func g) first cs=>first=#[]/\mY P g (args++cs.toList) h Q
 | .func (.yield l) first cs=>first=#[]/\cs=#[]/\mZ P l args h Q
 | _=>False
theorem fo.mono {P:Program}{x:Value}{args:List Value}{h:ai}{Q kW:Value->ai->Prop}(aT:fo P x args h Q)(ah:∀v ag,Q v ag->kW v ag):fo P x args h kW:=by
 unfold fo at aT ⊢;split at aT
 .exact⟨aT.1,aT.2.mono ah⟩
 .exact⟨aT.1,aT.2.1,aT.2.2.mono ah⟩
 .exact aT.elim
def bn (h:ai)(o:Obj)(K:Nat->ai->Prop):Prop:=∀b,h b=none->K b (bD h b o)
def Hp:Nat->List (Nat×ae)->Bool
 | _,[]=>true
 | k,(i,_)::l=>i==k&&Hp (k+1) l
def kx (z:Array Value)(n:Nat):Array Value:=(Array.range n).map (z[·%z.size]!)
theorem Ys (c4:Nat):∀(l:List (Nat×ae)) (k:Nat) (pre old:List Value),Hp k l=true->(∀x∈l,x.2.size=c4/\x.2.flat=true) ->
 pre.length=k*c4->old.length=l.length*c4 ->
 Instr.fill (λi=>some (i*c4,c4)) (pre++old).toArray (l.map λx=>(x.1,x.2.val))=some (pre++ae.fm (l.map (·.2))).toArray
 | [],k,pre,old,_,_,_,dQ=>by
  obtain rfl:old=[]:=atM.1 (by simpa using dQ);simp[Instr.fill,ae.fm]
 | (i,r)::l,k,pre,old,hi,aR,aM,dQ=>by
  simp only[Hp,at6,beq_iff_eq] at hi;obtain⟨rfl,hi⟩:=hi;obtain⟨aK,bf⟩:=aR (i,r) atm;simp only[List.length_cons] at dQ;have eg:(l.length+1)*c4=c4+l.length*c4:=by rw[aul,Nat.one_mul,Nat.add_comm]
  have aoq:(old.take c4).length=c4:=by rw[List.length_take];omega
  have aC:pre++old=pre++old.take c4++old.drop c4:=by rw[atr,aur]
  simp only at aK bf;have n1:(ae.cells r).length=c4:=by rw[ae.tX,aK]
  simp only[at1];rw[aC,No (off:=i*c4) (l:=ae.cells r) (by rw[n1]) (ae.G7 r bf) (by rw[aoq,n1]) aM.symm];rw[Ys c4 l (i+1) (pre++ae.cells r) (old.drop c4) hi (λx af=>aR x (atn _ af)) (by
   rw[as9,aM,n1,aul,Nat.one_mul]) (by rw[auF,dQ,eg];omega)]
  simp[ae.fm]
def x1 (P:Program)(T:TypeId)(len:Nat)(cc:List (Nat×ae))(h:ai)(K:an->ai->Prop):Prop :=
 match P.underlying T with
 | some (.slice el)=>match iy P el,sE P el with
  | some c4,some z=>if cc.length=len/\Hp 0 cc=true/\(cc.all λx=>x.2.size==c4&&x.2.flat)=true/\z.cells.size=c4/\len*c4<=16777216 then
   bn h (.cells (ae.fm (cc.map (·.2))).toArray el) λb h=>K ⟨some ⟨b,0⟩,len,len,none⟩ h else False
  | _,_=>False
 | _=>False
theorem aor {P:Program}{T:TypeId}{len:Nat}{cc:List (Nat×ae)}{h:ai}{K:an->ai->Prop}(ab:x1 P T len cc h K)(w:World)(c:dU h w) :
 ∃r ag bX,K r ag/\(Instr.buildSlice T len (cc.map λx=>(x.1,x.2.val)).toArray).run P w= .ok (aU r) bX/\dU ag bX/\dN h ag w bX:=by
 unfold x1 at ab;split at ab
 .rename_i el hu
  split at ab
  .rename_i c4 z bt uh
   split at ab
   .rename_i aT
    obtain⟨aa,ad,aq,aJ,aW⟩:=aT;have q2:∀x∈cc,x.2.size=c4/\x.2.flat=true:=by
     intro x af;have:=auH.1 aq x af;simpa using this
    refine⟨_,_,_,ab w.heap.size c.fresh,?_,c.alloc _,dN.alloc _ _ _⟩;have aos:¬len*c4 > 2 ^ 24:=by omega
    simp only[Instr.buildSlice,atb,atd hu,ata,lD bt];rw[as7 aos];have key:∀Z:Array Value,Z.size=len*c4->Instr.fill (λi=>some (i*c4,c4)) Z (cc.map λx=>(x.1,x.2.val))=some (ae.fm (cc.map (·.2))).toArray:=by
     intro Z aot;have:=Ys c4 cc 0 [] Z.toList ad q2 (by simp) (by simp[aot,aa]);simpa using this
    by_cases h0:len*c4=0
    .simp only[h0,at2,atb,atk,ata];rw[key _ (by simp[h0])];rfl
    .simp only[h0,atS,atb,x2 uh,atk,ata];rw[key _ (by simp)];rfl
   .exact ab.elim
  .exact ab.elim
 .exact ab.elim
def x3 (P:Program)(T:TypeId)(len cap:Int)(h:ai)(K:an->ai->Prop):Prop :=
 match P.underlying T with
 | some (.slice el)=>match iy P el,sE P el,(P.info? el).map (·.bytes) with
  | some c4,some z,some by_=>0<=len/\len<=cap/\(by_:Int)*cap<=281474976710656/\cap<=9223372036854775807 /\
   bn h (.cells (kx (if cap.toNat*c4=0 then #[] else z.cells) (cap.toNat*c4)) el) λb h=>K ⟨some ⟨b,0⟩,len.toNat,cap.toNat,none⟩ h
  | _,_,_=>False
 | _=>False
theorem aou {P:Program}{T:TypeId}{k hd:IntKind}{len cap:Int}{h:ai}{K:an->ai->Prop}(ab:x3 P T len cap h K)(w:World)(c:dU h w) :
 ∃r ag bX,K r ag/\(Instr.makeSlice T (.int k len) (.int hd cap)).run P w= .ok (aU r) bX/\dU ag bX/\dN h ag w bX:=by
 unfold x3 at ab;split at ab
 .rename_i el hu
  split at ab
  .rename_i c4 z by_ bt uh jL
   obtain⟨aa,ad,aq,aJ,ab⟩:=ab;refine⟨_,_,_,ab w.heap.size c.fresh,?_,c.alloc _,dN.alloc _ _ _⟩;have Np:∃i,P.info? el=some i/\i.bytes=by_:=by
    cases hi:P.info? el with
    | none=>simp[hi] at jL
    | some i=>simp[hi] at jL;exact⟨i,rfl,jL⟩
   obtain⟨i,hi,rfl⟩:=Np;have aC:IntKind.i64.wrap len=len:=IntWalk.i64_in len ⟨by omega,by omega⟩;have a7:IntKind.i64.wrap cap=cap:=IntWalk.i64_in cap ⟨by omega,by omega⟩;have j0:¬(cap<0):=by omega
   have pV:¬((i.bytes:Int)*cap > 2 ^ 48):=by
    have:(2:Int) ^ 48=281474976710656:=by decide
    omega
   have gI:¬(len<0):=by omega
   have o3:¬(len > cap):=by omega
   simp only[Instr.makeSlice,atb,atd hu,ata,asInt,asIntOf,atk,typeInfo,run_program,hi,aC,a7];simp only[j0,pV,gI,o3,decide_false,Bool.or_false,atN,atS,atb,run_askRoom,ata,lD bt];by_cases h0:cap.toNat*c4=0
   .simp only[h0,at2,atb,atk,ata];rfl
   .simp only[h0,atS,atb,x2 uh,atk,ata];rfl
  .exact ab.elim
 .exact ab.elim
def my (h:ai)(x:ae)(c4 n:Nat)(K:List Value->Prop):Prop :=
 match x with
 | .s x=>∃l:List Value,l.length=n*c4/\(∀v∈l,v.oneCell'=true)/\(match x.q with|some q=>fb h q.b q.o l|none=>l=[])/\K l
 | .str s=>c4=1/\K (((s.extract 0 n).data.toList).map λb=> .int .u8 (b.toNat:Int))
 | _=>False
theorem Hq {P:Program}{h:ai}{w:World}(c:dU h w){x:ae}{c4 n:Nat}{K:List Value->Prop}(ab:my h x c4 n K) :
 ∃l,K l/\(∀v∈l,v.oneCell'=true)/\(Builtin.firstCells c4 n x.val).run P w= .ok l.toArray w:=by
 unfold my at ab;split at ab
 .rename_i x
  obtain⟨l,aO,aa,aK,ab⟩:=ab;refine⟨l,ab,aa,?_⟩;cases ah:x.q with
  | none =>
   rw[ah] at aK;simp only at aK;subst aK;have AN:n*c4=0:=by simpa using aO.symm
   simp only[ae.val,aU];cases x.addr with
   | none=>simp[Builtin.firstCells]
   | some a =>
    simp only[Builtin.firstCells,AN,loadCells];rfl
  | some q =>
   rw[ah] at aK;simp only at aK;have:=run_loadCells (P:=P) c aK;rw[aO] at this;simp only[ae.val,aU,an.Dl ah];simpa [Builtin.firstCells,aG.addr] using this
 .rename_i s
  obtain⟨rfl,ab⟩:=ab;refine⟨_,ab,?_,?_⟩
  .intro v bH
   obtain⟨b,_,rfl⟩:=atE.1 bH;rfl
  .simp only[Builtin.firstCells,ae.val,atk];congr 1;apply atG.1;simp
 .exact ab.elim
theorem aov {P:Program}{h:ai}{w:World}(c:dU h w){x:ae}{c4 n:Nat}{K:List Value->Prop}(ab:my h x c4 n K) :
 ∃l,K l/\(∀v∈l,v.oneCell'=true)/\(Builtin.firstCells c4 n x.val).run P w= .ok l.toArray w /\
  (Builtin.firstCells c4 n x.val).run P { w with drawn:=w.drawn+1 }= .ok l.toArray { w with drawn:=w.drawn+1 }:=by
 have:my h x c4 n λl=>K l/\my h x c4 n λeF=>eF=l:=by
  unfold my at ab ⊢;split at ab
  .obtain⟨l,aa,ad,aq,aJ⟩:=ab;exact⟨l,aa,ad,aq,aJ,l,aa,ad,aq,rfl⟩
  .exact⟨ab.1,ab.2,ab.1,rfl⟩
  .exact ab.elim
 obtain⟨l,⟨ab,aO⟩,aa,ad⟩:=Hq (P:=P) c this;obtain⟨eF,e,_,aq⟩:=Hq (P:=P) (w:={ w with drawn:=w.drawn+1 }) c aO;subst e;exact⟨_,ab,aa,ad,aq⟩
def qA (x:ae)(K:Nat->Prop):Prop :=
 match x with
 | .s x=>K x.len
 | .str s=>K s.size
 | _=>False
theorem Yt {P:Program}{x:ae}{K:Nat->Prop}(h:qA x K):∃n,K n/\∀w,(Builtin.lenOf x.val).run P w= .ok n w:=by
 unfold qA at h;split at h
 .exact⟨_,h,λw=>rfl⟩
 .exact⟨_,h,λw=>rfl⟩
 .exact h.elim
def en (P:Program)(T:TypeId)(x:an)(y:ae)(h:ai)(K:an->ai->Prop):Prop :=
 match P.underlying T with
 | some (.slice el)=>match iy P el,sE P el,(P.info? el).map (·.bytes) with
  | some c4,some z,some by_=>qA y λn=>my h y c4 n λl =>
   cond (decide (x.len+n<=x.cap))
    (match x.q with|some q=>a1 h ⟨q.b,q.o+x.len*c4⟩ l λag=>K ⟨some q,x.len+n,x.cap,none⟩ ag|none=>l=[]/\K ⟨x.p,x.len+n,x.cap,x.z⟩ h)
    ((Builtin.nextslicecap (x.len+n) x.cap*by_<=281474976710656)/\((x.len+n:Nat):Int)<=9223372036854775807 /\
      my h (.s x) c4 x.len λvR=>∀lV,x.len+n<=lV ->
       bn h (.cells (vR.toArray++l.toArray++Builtin.zeroCells z.cells (lV-(x.len+n))) el) λb h=>K ⟨some ⟨b,0⟩,x.len+n,lV,none⟩ h)
  | _,_,_=>False
 | _=>False
theorem aow {P:Program}{T x4:TypeId}{ats:Array TypeId}{ty:TypeId}{x:an}{y:ae}{h:ai}{K:an->ai->Prop}(ab:en P T x y h K)(w:World)(c:dU h w)
 (bV:ats[0]? =some T) (au:ats[1]? =some x4) (bK:(∃e,P.underlying x4=some (.slice e))∨P.underlying x4=some .string) :
 ∃r ag bX,K r ag/\(Builtin.append_ ats ty #[aU x,y.val]).run P w= .ok (aU r) bX/\dU ag bX/\dN h ag w bX:=by
 unfold en at ab;split at ab
 .rename_i el hu
  split at ab
  .rename_i c4 z by_ bt uh jL
   obtain⟨n,ab,aH⟩:=Yt (P:=P) ab;obtain⟨l,ab,Nq,aO,aox⟩:=aov (P:=P) c ab;have Np:∃i,P.info? el=some i/\i.bytes=by_:=by
    cases hi:P.info? el with
    | none=>simp[hi] at jL
    | some i=>simp[hi] at jL;exact⟨i,rfl,jL⟩
   obtain⟨i,hi,rfl⟩:=Np;by_cases AU:x.len+n<=x.cap
   .rw[atl AU] at ab;simp only[aud] at ab;cases x5:x.q with
    | none =>
     rw[x5] at ab;simp only at ab;obtain⟨rfl,ab⟩:=ab;refine⟨_,h,w,ab,?_,c,dN.refl _ _⟩;have kB:∀a:Addr,(storeCells a [] 0).run P w= .ok () w:=λa=>rfl;rcases bK with ⟨ch,nE⟩|nE
     all_goals
      rw[show aU ⟨x.p,x.len+n,x.cap,x.z⟩= .slice x.addr (x.len+n) x.cap from rfl];cases Dx:x.addr with
      | none=>simp only[Builtin.append_,bV,au,atO,atp,atu,aU,atb,atd hu,ata,lD bt,atd nE w,atk,atN,atS,aH,Bool.not_false,at2,Sem.run_ite,false_or,typeInfo,run_program,hi,AU,aO,Dx]
      | some a=>simp only[Builtin.append_,bV,au,atO,atp,atu,aU,atb,atd hu,ata,lD bt,atd nE w,atk,atN,atS,aH,Bool.not_false,at2,Sem.run_ite,false_or,typeInfo,run_program,hi,AU,aO,Dx,kB]
    | some q =>
     rw[x5] at ab;simp only at ab;obtain⟨pU,t,Nr,hlen,fr⟩:=ab;obtain⟨bX,aK,k5,sD⟩:=Dw (P:=P) q.b (q.o+x.len*c4) l 0 h w pU t c Nq Nr (by simpa using hlen);refine⟨_,_,bX,fr,?_,k5,sD⟩;have e:(Addr.add q.addr (x.len*c4))=⟨q.b,q.o+x.len*c4,none⟩:=by rw[tW];rfl
     have a7:an.addr ⟨some q,x.len+n,x.cap,none⟩=some q.addr:=rfl;rcases bK with ⟨ch,nE⟩|nE
     all_goals
      simp only[Builtin.append_,bV,au,atO,atp,atu,aU,atb,atd hu,ata,lD bt,atd nE w,atk,atN,atS,aH,Bool.not_false,at2,Sem.run_ite,false_or,typeInfo,run_program,hi,AU,aO,an.Dl x5,a7,e,aK]
   .rw[ati AU] at ab;simp only[auA] at ab;obtain⟨sO,asR,ab⟩:=ab;have aX:dU h { w with drawn:=w.drawn+1 }:=c;obtain⟨vR,ab,_,AN⟩:=Hq (P:=P) aX ab;have pV:¬(((x.len+n:Nat):Int) > IntKind.i64.max/\i.bytes=0):=by
     intro bT;have aa:=bT.1;simp[IntKind.max,IntKind.signed,IntKind.bits] at aa;omega
    have gI:¬(Builtin.nextslicecap (x.len+n) x.cap*i.bytes > 2 ^ 48):=by
     have:2 ^ 48=281474976710656:=by decide
     omega
    have ah:(Question.appendCap (x.len+n) x.cap el).forced=false:=rfl;have aoy:x.len+n<=(Question.appendCap (x.len+n) x.cap el).cut (w.tape w.drawn (Question.appendCap (x.len+n) x.cap el)):=by
     simp only[Question.cut];omega
    simp only[ae.val,aU] at AN;refine⟨_,_,_,ab _ aoy _ aX.fresh,?_,aX.alloc _,(dN.drew h w).trans (dN.alloc _ _ _)⟩;rcases bK with ⟨ch,nE⟩|nE
    all_goals
     simp only[Builtin.append_,bV,au,atO,atp,atu,aU,atb,atd hu,ata,lD bt,atd nE w,atk,atN,atS,aH,Bool.not_false,at2,Sem.run_ite,false_or,typeInfo,run_program,hi,AU,pV,gI,run_choose,ah,run_askRoom,AN,aox,x2 uh];rfl
  .exact ab.elim
 .exact ab.elim
def kP (P:Program)(T:TypeId)(x:an)(y:ae)(h:ai)(K:Nat->ai->Prop):Prop :=
 match P.underlying T with
 | some (.slice el)=>match iy P el with
  | some c4=>qA y λm=>my h y c4 (Nat.min m x.len) λl =>
   match x.q with
   | some q=>a1 h q l λag=>K (Nat.min m x.len) ag
   | none=>l=[]/\K (Nat.min m x.len) h
  | none=>False
 | _=>False
theorem aoz {P:Program}{T:TypeId}{ats:Array TypeId}{ty:TypeId}{x:an}{y:ae}{h:ai}{K:Nat->ai->Prop}(ab:kP P T x y h K)(w:World)(c:dU h w)
 (bV:ats[0]? =some T) :
 ∃r ag bX,K r ag/\(Builtin.copy_ ats ty #[aU x,y.val]).run P w= .ok (.int .i64 (r:Int)) bX/\dU ag bX/\dN h ag w bX:=by
 unfold kP at ab;split at ab
 .rename_i el hu
  split at ab
  .rename_i c4 bt
   obtain⟨m,ab,hm⟩:=Yt (P:=P) ab;obtain⟨l,ab,Nq,aO⟩:=Hq (P:=P) c ab;cases x5:x.q with
   | none =>
    rw[x5] at ab;simp only at ab;obtain⟨rfl,ab⟩:=ab;refine⟨_,_,_,ab,?_,c,dN.refl _ _⟩;have kB:∀a:Addr,(storeCells a [] 0).run P w= .ok () w:=λa=>rfl;cases Dx:x.addr with
    | none =>
     simp only[Builtin.copy_,bV,atO,atp,atu,aU,atb,atd hu,ata,lD bt,hm,aO,Dx];rfl
    | some a =>
     simp only[Builtin.copy_,bV,atO,atp,atu,aU,atb,atd hu,ata,lD bt,hm,aO,Dx,kB];rfl
   | some q =>
    rw[x5] at ab;simp only at ab;obtain⟨pU,t,Nr,hlen,fr⟩:=ab;obtain⟨bX,aK,k5,sD⟩:=Dw (P:=P) q.b q.o l 0 h w pU t c Nq Nr (by simpa using hlen);refine⟨_,_,bX,fr,?_,k5,sD⟩;simp only[Builtin.copy_,bV,atO,atp,atu,aU,atb,atd hu,ata,lD bt,hm,aO,an.Dl x5,aG.addr,aK];rfl
  .exact ab.elim
 .exact ab.elim
def pJ (P:Program)(n:Nat)(e:Env):List Operand->List TypeId->(List ae->Prop)->Prop
 | [],_,K=>K []
 | x::l,[],K=>gM n e x λs=>pJ P n e l [] λr=>K (s::r)
 | x::l,t::h1,K=>nW n (kr P 9 t) e x λs=>pJ P n e l h1 λr=>K (s::r)
theorem AV {P:Program}{n:Nat}{e:Env}:∀(l:List Operand) (h1:List TypeId) (K:List ae->Prop),pJ P n e l h1 K ->
 ∃r,K r/\∀a,Good n e a->l.map a.eval=ae.bw r
 | [],_,K,h=>⟨[],h,λ_ _=>rfl⟩
 | x::l,[],K,h=>by
  obtain⟨s,aR,aa⟩:=ix h;obtain⟨r,aK,ad⟩:=AV l [] _ aR;exact⟨_,aK,λa g=>by simp[ae.bw,aa a g,ad a g]⟩
 | x::l,t::h1,K,h=>by
  obtain⟨s,aR,aa⟩:=vX h;obtain⟨r,aK,ad⟩:=AV l h1 _ aR;exact⟨_,aK,λa g=>by simp[ae.bw,aa a g,ad a g]⟩
def Ns (P:Program)(T:TypeId):Bool :=
 match P.underlying T with
 | some (.slice _)=>true
 | some .string=>true
 | _=>false
theorem aoA {P:Program}{T:TypeId}(h:Ns P T=true):(∃e,P.underlying T=some (.slice e))∨P.underlying T=some .string:=by
 unfold Ns at h;split at h
 .rename_i hu;exact .inl ⟨_,hu⟩
 .rename_i hu;exact .inr hu
 .cases h
def Vn (P:Program)(f:FuncId)(args:List Value)(h:ai)(Q:Value->ai->Prop):Prop:=∃v,(∀w,(callFunc f args.toArray).run P w= .ok (.value v) w)/\Q v h
def oq (e:a8×Value×Nat):MapEntry:={ key:=ak e.1,val:=e.2.1,born:=e.2.2 }
def JB (l:List (a8×Value×Nat))(clock:Nat)(k:a8)(v:Value):Obj :=
 match l.findIdx? (λe=>e.1==k) with
 | some i=> .map ((l.modify i λe=>(k,v,e.2.2)).map oq).toArray clock
 | none=> .map ((l++[(k,v,clock)]).map oq).toArray (clock+1)
def q3 (h:ai)(r:Option Nat)(k:a8)(v:Value)(K:ai->Prop):Prop :=
 ∃b l clock,r=some b/\h b=some (.map (l.map oq).toArray clock)/\K (bD h b (JB l clock k v))
theorem Yu (vY:IntKind)(k:a8):∀(l:List (a8×Value×Nat)) (i:Nat),Instr.findNow (.int vY) (ak k) (l.map oq) i =
 some ((l.findIdx? (λe=>e.1==k)).bind λj=>(l[j]?).map λe=>(i+j,e.2.1))
 | [],i=>by simp[Instr.findNow]
 | e::l,i=>by
  have c6:=Yu vY k l (i+1);simp only[at1,Instr.findNow];have aR:Instr.sameNow (.int vY) (ak k) (oq e).key=some (e.1==k):=by
   simp only[Instr.sameNow,ak,oq,at2,atX];rw[atz];simp only[beq_iff_eq,ave,att];exact⟨λh=>h.symm,λh=>h.symm⟩
  rw[aR];cases ab:(e.1==k) with
  | true=>simp[List.findIdx?_cons,ab,oq]
  | false =>
   simp only[c6,List.findIdx?_cons,ab];congr 1;cases l.findIdx? (λe=>e.1==k) with
   | none=>rfl
   | some j =>
    simp only[aua,Option.bind_some,atu];rw[show i+1+j=i+(j+1) by omega];simp
theorem aoB {P:Program}{T vZ Dy:TypeId}(iR:P.underlying T=some (.map vZ Dy)){vY:IntKind}(ab:P.underlying vZ=some (.int vY)){h:ai}{w:World}(c:dU h w){r:Option Nat}{k:a8}{v:Value}{K:ai->Prop}(hm:q3 h r k v K) :
 ∃ag bX,K ag/\(Instr.mapUpdate T (.map r) (ak k) v).run P w= .ok () bX/\dU ag bX/\dN h ag w bX:=by
 obtain⟨b,l,clock,rfl,au,fr⟩:=hm;have hw:=c _ _ au;have cR:(getObj b).run P w= .ok (.map (l.map oq).toArray clock) w:=by simp[getObj,Sem.run,hw]
 have AT:∀o:Obj,(setObj b o).run P w= .ok () { w with heap:=w.heap.setIfInBounds b o }:=λo=>by simp[setObj,Sem.run,hw]
 have aoC:(Instr.checkKey false 10000 vZ (ak k)).run P w= .ok () w:=by
  rw[show(10000:Nat)=9999+1 from rfl,Instr.checkKey];simp only[atb,atd ab,ata,ak];rfl
 have aoD:(Instr.findKey vZ (ak k) (l.map oq)).run P w= .ok ((l.findIdx? (λe=>e.1==k)).bind λj=>(l[j]?).map λe=>(j,e.2.1)) w:=by
  have:=Yu vY k l 0;simp[Instr.findKey,atd ab,this]
 have aoE:∀o:Obj,dU (bD h b o) { w with heap:=w.heap.setIfInBounds b o }:=λo x y af=>by
  by_cases e:x=b
  .subst e;rw[ea] at af;cases af;have:=c.lt au;simp[this]
  .rw[cJ _ _ e] at af;have:=c _ _ af;simp only[auh];rw[as7 (λch=>e ch.symm)];exact this
 have aoF:∀o:Obj,dN h (bD h b o) w { w with heap:=w.heap.setIfInBounds b o }:=λo=>by
  refine⟨rfl,rfl,rfl,by simp,λx af _=>?_⟩;have e:x≠b:=λe=>by subst e;rw[au] at af;cases af
  refine⟨by rw[cJ _ _ e];exact af,?_⟩;simp only[auh];rw[as7 (λch=>e ch.symm)]
 refine⟨_,_,fr,?_,aoE _,aoF _⟩;have stays:∀(a:a8) ,(Instr.keyThatStays (ak a) (ak k)).run P w= .ok (ak k) w∨a≠k:=λa=>by
  by_cases e:a=k
  .subst e;left;have aR:Instr.sameBits 10000 (ak a) (ak a)=true:=by simp[Instr.sameBits,ak]
   unfold Instr.keyThatStays;rw[as8 aR];rfl
  .exact .inr e
 simp only[Instr.mapUpdate,atb,atd iR,ata,cR,aoC,aoD];unfold JB;cases bf:l.findIdx? (λe=>e.1==k) with
 | none=>simp[AT,oq]
 | some i =>
  obtain⟨hi,HV,_⟩:=List.findIdx?_eq_some_iff_getElem.1 bf;have ky:l[i]? =some l[i]:=atc hi;have q6:l[i].1=k:=by simpa using HV
  have kB:=(stays l[i].1).resolve_right (λh=>h q6);simp only[Option.bind_some,ky,aua];have aC:(((l.map oq).toArray[i]?).map (·.key)).getD (ak k)=ak l[i].1:=by simp[hi,oq]
  rw[aC];simp only[atb,kB,ata,AT];congr 3;refine congrArg (λz=>Obj.map z clock) ?_;apply atG.1;simp only[Array.toList_modify,List.toList_toArray];apply List.ext_getElem?;intro j;simp only[List.getElem?_modify,List.getElem?_map];by_cases aL:i=j
  .subst aL;simp[hi,oq]
  .cases l[j]?<;>simp[aL]
def vr (n:Nat)(v:Value):List Value:=List.replicate n v
def qv (P:Program)(T:TypeId)(x:an)(h:ai)(K:ai->Prop):Prop :=
 match P.underlying T with
 | some (.slice el)=>match sE P el with
  | some z=>if z.oneCell'=true then bp (decide (x.len=0)) (K h) (∃q,x.q=some q/\a1 h q (vr x.len z) K) else False
  | none=>False
 | _=>False
theorem aoG {z:Value}(bt:z.oneCell'=true)(n:Nat):(Builtin.zeroCells z.cells n).toList=vr n z:=by
 rw[amX bt];unfold Builtin.zeroCells vr;apply aue
 .simp
 .intro i aa ad;simp[Nat.mod_one]
theorem aoH {P:Program}{T:TypeId}{h:ai}{w:World}(c:dU h w){x:an}{K:ai->Prop}{ats:Array TypeId}(bV:ats[0]? =some T){ty:TypeId}(ab:qv P T x h K) :
 ∃ag bX,K ag/\(Builtin.clear_ ats ty #[aU x]).run P w= .ok (.tuple #[]) bX/\dU ag bX/\dN h ag w bX:=by
 unfold qv at ab;split at ab
 .rename_i el hu
  split at ab
  .rename_i z bt
   split at ab
   .rename_i aa
    by_cases h0:x.len=0
    .rw[atl h0] at ab;refine⟨h,w,ab,?_,c,dN.refl _ _⟩;simp only[Builtin.clear_,bV,atO,atp,atb,atd hu,ata,aU,h0];cases x.addr<;>simp
    .rw[ati h0] at ab;obtain⟨q,ah,aoI,t,au,aO,fr⟩:=ab;have mx:(vr x.len z).length=x.len:=by simp[vr]
     obtain⟨bX,aK,k5,sD⟩:=Dw (P:=P) q.b q.o (vr x.len z) 0 h w aoI t c (λv bH=>by
      unfold vr at bH;rw[List.eq_of_mem_replicate bH];exact aa) au (by simpa using aO)
     refine⟨_,bX,fr,?_,k5,sD⟩;have e:x.addr=some ⟨q.b,q.o,none⟩:=an.Dl ah;obtain⟨n,aH⟩:∃n,x.len=n+1:=⟨x.len-1,by omega⟩;have Yv:=aoG aa x.len;rw[aH] at Yv aK;simp only[Builtin.clear_,bV,atO,atp,atb,atd hu,ata,aU,e,aH,x2 bt,Yv];rw[aK];simp
   .exact ab.elim
  .exact ab.elim
 .exact ab.elim
def gY (P:Program)(n:Nat)(o:Op)(ty:TypeId)(e:Env)(h:ai)(K:ae->ai->Prop):Prop :=
 match o with
 | .load T a=>gM n e a λs=>match s with| .p q=>vS P T h q λr=>K r h|_=>False
 | .store T a x=>gM n e a λs=>match s with
  | .p q=>nW n (kr P 9 T) e x λr=>if iy P T=some r.size then k_ r (a1 h q (ae.cells r) λag=>K .no ag) else False
  | _=>False
 | .box el x=>nW n (kr P 9 el) e x λr=>k_ r (bn h (.cells (ae.cells r).toArray el) λb h=>K (.p ⟨b,0⟩) h)
 | .alloc el=>match sE P el with|some z=>bn h (.cells z.cells el) λb h=>K (.p ⟨b,0⟩) h|none=>False
 | .buildSlice T len cc=>ud P n e (Yw P T) cc.toList λcc=>x1 P T len cc h λr h=>K (.s r) h
 | .makeSlice T l c=>gM n e l λl=>gM n e c λc=>v7 l λ_ l=>v7 c λ_ c=>x3 P T l c h λr h=>K (.s r) h
 | .makeMap _ none=>bn h (.map #[] 0) λb h=>K (.m (some b)) h
 | .call { callee:= .builtin .append,args,argTypes }=>pJ P n e args.toList argTypes.toList λxs=>match xs with
  | [.s x,y]=>(match argTypes[0]?,argTypes[1]? with|some T,some x4=>if Ns P x4=true then en P T x y h (λr h=>K (.s r) h) else False|_,_=>False)
  | _=>False
 | .call { callee:= .builtin .copy,args,argTypes }=>pJ P n e args.toList argTypes.toList λxs=>match xs with
  | [.s x,y]=>(match argTypes[0]? with|some T=>kP P T x y h (λr h=>K (.i .i64 (r:Int)) h)|none=>False)
  | _=>False
 | .call { callee:= .builtin .clear,args,argTypes }=>pJ P n e args.toList argTypes.toList λxs=>match xs with
  | [.s x]=>(match argTypes[0]? with|some T=>qv P T x h (λh=>K (.h5 []) h)|none=>False)
  | _=>False
 | .mapUpdate T m k x=>match P.underlying T with
  | some (.map vZ Dy)=>match P.underlying vZ with
   | some (.int _)=>gM n e m λm=>gM n e k λk=>nW n (kr P 9 Dy) e x λx=>match m,k with
    | .m r,.u k=>q3 h r k x.val λh=>K .no h
    | _,_=>False
   | _=>False
  | _=>False
 | .call { callee:= .value f,args,argTypes }=>gM n e f λf=>pJ P n e args.toList argTypes.toList λxs=>match f with
  | .f g c=>(match sg P g with
   | true=>mY P g (ae.bw xs++ae.bw c) h λv ag=>xQ (kr P 9 ty) λr=>v=r.val/\K r ag
   | false=>Vn P g (ae.bw xs++ae.bw c) h λv ag=>xQ (kr P 9 ty) λr=>v=r.val/\K r ag)
  | .v x=>fo P x (ae.bw xs) h λv ag=>xQ (kr P 9 ty) λr=>v=r.val/\K r ag
  | _=>False
 | o=>uf P n o ty e λr=>K r h
inductive Nt (P:Program) (x:Oper) (a:Act) (w:World) (h:ai) (K:ae->ai->Prop):Prop where
 | value (r:ae) (ag:ai) (bX:World) (ab:K r ag) (aK:(execOp a.eval x).run P w= .ok (.value r.val) bX) (c:dU ag bX) (g:dN h ag w bX)
 | skip (ag:ai) (bX:World) (ab:K .no ag) (aK:(execOp a.eval x).run P w= .ok .skip bX) (c:dU ag bX) (g:dN h ag w bX)
 | enter (f:FuncId) (args:List Value) (aK:(execOp a.eval x).run P w= .ok (.enter f args.toArray) w)
  (aT:Calls P f args.toArray w λe bX=>∃r ag,e= .returned r.val/\K r ag/\dU ag bX/\dN h ag w bX)
 | round (l:Nat) (f:FuncId) (tmps:Array Value) (assign body:Code) (aK:(execOp a.eval x).run P w= .ok (.round l f tmps assign body) w)
  (aT:RoundIn (lY none) 0 P l f tmps assign body w λe bX=>∃r ag,e= .returned r.val/\K r ag/\dU ag bX/\dN h ag w bX)
theorem Nt.wp {P:Program}{x:Oper}{a:Act}{w:World}{h:ai}{K:ae->ai->Prop}(aK:Nt P x a w h K)(bK:Nn x.op=false){ro:Option Nat}{m:Nat}{next:Act->World->Prop}{Q:Exit->Act->World->Prop}
 (aH:∀r ag bX,K r ag->dU ag bX->dN h ag w bX->next (a.put x.dst r.val) bX):x.wpIn (lY ro) m P a w next Q:=by
 refine⟨λ_ _=>trivial,?_⟩;rw[show(lY ro).round=ro from rfl,aop ro a x bK];cases aK with
 | value r ag bX ab aK c g=>rw[aK,Oper.uponIn_value];exact aH r ag bX ab c g
 | skip ag bX ab aK c g=>rw[aK,Oper.uponIn_skip];exact aH .no ag bX ab c g
 | enter f args aK aT =>
  rw[aK,Oper.uponIn_enter];refine⟨M7 ro,(XZ aT).mono ?_⟩;rintro e bX ⟨r,ag,rfl,ab,c,g⟩;exact aH r ag bX ab c g
 | round l f tmps assign body aK aT =>
  rw[aK,Oper.uponIn_round];refine⟨M7 ro,(aoo aT).mono ?_⟩;rintro e bX ⟨r,ag,rfl,ab,c,g⟩;exact aH r ag bX ab c g
theorem anL {P:Program}{n:Nat}{e:Env}{h:ai}{K:ae->ai->Prop}{o:Op}{T:TypeId}(ab:gY P n o T e h K):Nn o=false:=by
 cases o<;>first|rfl|exact(show False from ab).elim
theorem X7 {P:Program}{n:Nat}{e:Env}{h:ai}{K:ae->ai->Prop}{x:Oper}(ab:gY P n x.op x.type e h K){a:Act}(g:Good n e a){w:World}(c:dU h w) :
 Nt P x a w h K:=by
 obtain⟨dst,op,ty,pos,after,guard⟩:=x;simp only at ab;unfold gY at ab;split at ab
 .obtain⟨s,ab,aR⟩:=ix ab;split at ab
  .rename_i q
   obtain⟨r,ab,kB,aa,ad⟩:=X2 ab;refine .value r h w ab ?_ c (dN.refl _ _);simp only[execOp,atb,aR a g,ae.val,bu,Instr.loadAt,Instr.sureAddr,atk,ata,X3 c aa ad kB]
  .exact ab.elim
 .obtain⟨s,ab,aR⟩:=ix ab;split at ab
  .rename_i q
   obtain⟨r,ab,aK⟩:=vX ab;split at ab
   .rename_i aT
    obtain⟨bf,ab⟩:=vJ ab;obtain⟨ag,bX,ab,jW,b8,bg⟩:=aon (P:=P) c aT bf ab;refine .skip ag bX ab ?_ b8 bg;simp only[execOp,atb,aR a g,aK a g,ae.val,bu,Instr.storeAt,Instr.sureAddr,atk,ata,jW]
   .exact ab.elim
  .exact ab.elim
 .obtain⟨r,ab,aK⟩:=vX ab;obtain⟨bf,ab⟩:=vJ ab;refine .value _ _ _ (ab _ c.fresh) ?_ (c.alloc _) (dN.alloc _ _ _);simp only[execOp,atb,aK a g,Instr.box,newVar,newRow,ae.G7 r bf];rfl
 .split at ab
  .rename_i z bt
   refine .value _ _ _ (ab _ c.fresh) ?_ (c.alloc _) (dN.alloc _ _ _);simp only[execOp,atb,Instr.alloc,x2 bt,ata,newVar,newRow];rfl
  .exact ab.elim
 .rename_i T len cc
  obtain⟨r,ab,aK⟩:=Nu _ _ ab;obtain⟨v,ag,bX,ab,jW,b8,bg⟩:=aor ab w c;refine .value (.s v) ag bX ab ?_ b8 bg;have:(cc.map λx=>(x.1,a.eval x.2))=(r.map λx=>(x.1,x.2.val)).toArray:=by
   apply atG.1;simp[aK a g]
  simp only[execOp,atb,this,jW];rfl
 .obtain⟨l,ab,aO⟩:=ix ab;obtain⟨nh,ab,rm⟩:=ix ab;obtain⟨k,i,hi,ab⟩:=Dz ab;obtain⟨hd,di,bN,ab⟩:=Dz ab;obtain⟨v,ag,bX,ab,jW,b8,bg⟩:=aou (k:=k) (hd:=hd) ab w c;refine .value (.s v) ag bX ab ?_ b8 bg;simp only[execOp,atb,aO a g,rm a g,hi,bN,jW];rfl
 .refine .value _ _ _ (ab _ c.fresh) ?_ (c.alloc _) (dN.alloc _ _ _);simp only[execOp,atb,Instr.makeMap];rfl
 .rename_i args ats
  obtain⟨r,ab,aK⟩:=AV _ _ _ ab;have qt:args.map a.eval=(ae.bw r).toArray:=by
   apply atG.1;simp[aK a g]
  split at ab
  .rename_i x y
   split at ab
   .rename_i T x4 iR Nv
    split at ab
    .rename_i bz
     obtain⟨v,ag,bX,ab,jW,b8,bg⟩:=aow (ty:=ty) ab w c iR Nv (aoA bz);refine .value (.s v) ag bX ab ?_ b8 bg;simp only[execOp,atb,resolve,qt,atk,ata,invoke,builtin,ae.bw,ae.val,jW]
    .exact ab.elim
   .exact ab.elim
  .exact ab.elim
 .rename_i args ats
  obtain⟨r,ab,aK⟩:=AV _ _ _ ab;have qt:args.map a.eval=(ae.bw r).toArray:=by
   apply atG.1;simp[aK a g]
  split at ab
  .rename_i x y
   split at ab
   .rename_i T iR
    obtain⟨v,ag,bX,ab,jW,b8,bg⟩:=aoz (ty:=ty) ab w c iR;refine .value (.i .i64 (v:Int)) ag bX ab ?_ b8 bg;simp only[execOp,atb,resolve,qt,atk,ata,invoke,builtin,ae.bw,ae.val,jW]
   .exact ab.elim
  .exact ab.elim
 .rename_i args ats
  obtain⟨r,ab,aK⟩:=AV _ _ _ ab;have qt:args.map a.eval=(ae.bw r).toArray:=by
   apply atG.1;simp[aK a g]
  split at ab
  .rename_i x
   split at ab
   .rename_i T iR
    obtain⟨ag,bX,ab,jW,b8,bg⟩:=aoH c iR (ty:=ty) ab;refine .value (.h5 []) ag bX ab ?_ b8 bg;simp only[execOp,atb,resolve,qt,atk,ata,invoke,builtin,ae.bw,ae.val,jW]
   .exact ab.elim
  .exact ab.elim
 .rename_i T m k x
  split at ab
  .rename_i vZ Dy hu
   split at ab
   .rename_i vY BA
    obtain⟨aoJ,ab,hm⟩:=ix ab;obtain⟨aoK,ab,aoL⟩:=ix ab;obtain⟨aoM,ab,af⟩:=vX ab;split at ab
    .rename_i r hd
     obtain⟨ag,bX,ab,jW,b8,bg⟩:=aoB hu BA c ab;refine .skip ag bX ab ?_ b8 bg;simp only[execOp,atb,hm a g,aoL a g,af a g,ae.val,jW,ata,atk]
    .exact ab.elim
   .exact ab.elim
  .exact ab.elim
 .rename_i f args ats
  obtain⟨aoN,ab,bf⟩:=ix ab;obtain⟨r,ab,aK⟩:=AV _ _ _ ab;have qt:args.map a.eval=(ae.bw r).toArray:=by
   apply atG.1;simp[aK a g]
  split at ab
  .rename_i AK cap iw
   split at ab
   rotate_left
   .obtain⟨v,jW,bH⟩:=ab;obtain⟨s,rfl,fr⟩:=Dq _ _ bH;refine .value s h w fr ?_ c (dN.refl _ _);simp only[execOp,atb,resolve,qt,bf a g,ae.val,Deferred.ofValue,atk,ata,invoke];have e:(#[]:Array Value)++(ae.bw r).toArray++(ae.bw cap).toArray=(ae.bw r++ae.bw cap).toArray:=by simp
    rw[e,jW w]
   refine .enter AK (ae.bw r++ae.bw cap) ?_ ((ab.2 w c).mono ?_)
   .simp only[execOp,atb,resolve,qt,bf a g,ae.val,Deferred.ofValue,atk,ata,invoke,M8 ab.1];simp
   .rintro e bX ⟨v,ag,rfl,bH,b8,bg⟩;obtain⟨s,rfl,fr⟩:=Dq _ _ bH;exact⟨s,ag,rfl,fr,b8,bg⟩
  .rename_i x
   unfold fo at ab;split at ab
   .rename_i AK first cs
    obtain⟨rfl,ab⟩:=ab;refine .enter AK (ae.bw r++cs.toList) ?_ ((ab.2 w c).mono ?_)
    .simp only[execOp,atb,resolve,qt,bf a g,ae.val,Deferred.ofValue,atk,ata,invoke];have e:(#[]:Array Value)++(ae.bw r).toArray++cs=(ae.bw r++cs.toList).toArray:=by simp
     simp only[e,M8 ab.1]
    .rintro e bX ⟨v,ag,rfl,bH,b8,bg⟩;obtain⟨s,rfl,fr⟩:=Dq _ _ bH;exact⟨s,ag,rfl,fr,b8,bg⟩
   .rename_i l first cs
    obtain⟨rfl,rfl,ab⟩:=ab;obtain⟨rc,aO,hlen,Hh⟩:=ab w c;refine .round l rc.fn _ rc.assign rc.body ?_ (Hh.mono ?_)
    .simp only[execOp,atb,resolve,qt,bf a g,ae.val,Deferred.ofValue,atk,ata,invoke];have e:(#[]:Array Value)++(ae.bw r).toArray=(ae.bw r).toArray:=by simp
     simp only[e];exact run_yield aO (by simpa using hlen)
    .rintro e bX ⟨v,ag,rfl,bH,b8,bg⟩;obtain⟨s,rfl,fr⟩:=Dq _ _ bH;exact⟨s,ag,rfl,fr,b8,bg⟩
   .exact ab.elim
  .exact ab.elim
 .obtain⟨r,ab,aK⟩:=aoO (x:=⟨dst,op,ty,pos,after,guard⟩) ab;exact .value r h w ab (aK a g w) c (dN.refl _ _)

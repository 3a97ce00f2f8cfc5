import Derived.Test.YtegdpmgnhnccaaaGreatShOps
import Derived.Below
import Derived.OrdersIn
import Derived.TacticsIn
import Derived.RangeFuncLeaves
import Derived.RangeFuncRecord
import Derived.RangeFuncIn
namespace Go.cR
open Go Go.RowKit
def bD (h:ak)(b:Nat)(o:Obj):ak:=λx=>if x=b then some o else h x
theorem eC (h:ak)(b:Nat)(o:Obj):bD h b o b=some o:=by simp[bD]
theorem cu (h:ak){b c:Nat}(o:Obj)(aK:c≠b):bD h b o c=h c:=by simp[bD,aK]
theorem MB (h:ak){b c:Nat}(o p:Obj)(aK:b≠c):bD (bD h b o) c p=bD (bD h c p) b o:=by
 funext x;unfold bD;by_cases aa:x=b<;>by_cases ad:x=c<;>simp_all
structure e5 (h af:ak)(w cv:World):Prop where
 os:cv.os=w.os
 tape:cv.tape=w.tape
 output:cv.output=w.output
 size:w.heap.size<=cv.heap.size
 rest:∀b,h b=none->b<w.heap.size->af b=none/\cv.heap[b]? =w.heap[b]?
theorem e5.refl (h:ak)(w:World):e5 h h w w:=⟨rfl,rfl,rfl,aDt _,λ_ ar _=>⟨ar,rfl⟩⟩
theorem e5.trans {aa ad an:ak}{ji h6 sm:World}(a:e5 aa ad ji h6)(b:e5 ad an h6 sm):e5 aa an ji sm :=
 ⟨b.os.trans a.os,b.tape.trans a.tape,b.output.trans a.output,aE_ a.size b.size,λx ai aT=>by
  obtain⟨ayu,a_⟩:=a.rest x ai aT;obtain⟨ayv,b7⟩:=b.rest x ayu (aEP aT a.size);exact⟨ayv,b7.trans a_⟩⟩
theorem e8.lt {h:ak}{w:World}(c:e8 h w){b:Nat}{o:Obj}(ar:h b=some o):b<w.heap.size:=by
 have:=c b o ar;exact(aFf.1 this).1
theorem e8.fresh {h:ak}{w:World}(c:e8 h w):h w.heap.size=none:=by
 cases ar:h w.heap.size with
 | none=>rfl
 | some o=>exact absurd (c.lt ar) (Nat.lt_irrefl _)
theorem e8.alloc {h:ak}{w:World}(c:e8 h w)(o:Obj):e8 (bD h w.heap.size o) (w.alloc o):=by
 intro b x ar;by_cases e:b=w.heap.size
 .subst e;rw[eC] at ar;cases ar;show(w.heap.push o)[w.heap.size]? =some o;simp
 .rw[cu _ _ e] at ar;have:=c.lt ar;rw[Below.heap_alloc _ _ _ this];exact c _ _ ar
theorem e5.alloc (h:ak)(w:World)(o:Obj):e5 h (bD h w.heap.size o) w (w.alloc o) :=
 ⟨rfl,rfl,rfl,by simp,λb ar aT=>⟨by rw[cu _ _ (by omega)];exact ar,Below.heap_alloc _ _ _ aT⟩⟩
theorem e5.drew (h:ak)(w:World):e5 h h w w.drew:=⟨rfl,rfl,rfl,aDt _,λ_ ar _=>⟨ar,rfl⟩⟩
theorem ayw {h:ak}{w:World}(c:e8 h w){b:Nat}{l:List Value}{o:Nat}(aQ:fW h b o l)(i:Nat)(hi:i<l.length) :
 w.cell? (Addr.add ⟨b,o,none⟩ i)=some l[i]:=by
 rw[show(⟨b,o,none⟩:Addr)=aF.addr ⟨b,o⟩ from rfl,xd];exact c.cell ((pJ h b l o).1 aQ i hi)
theorem run_loadCellsFrom {P:Program}{h:ak}{w:World}(c:e8 h w){b o:Nat}(l:List Value)(aQ:fW h b o l) :
 ∀(k:Nat) (n:Nat) (acc:Array Value),k+n=l.length->(loadCellsFrom ⟨b,o,none⟩ k n acc).run P w= .ok (acc++(l.drop k).toArray) w:=by
 intro k n
 induction n generalizing k with
 | zero =>
  intro acc ah;have:l.drop k=[]:=List.drop_eq_nil_of_le (by omega);simp[loadCellsFrom,this]
 | succ n dI =>
  intro acc ah;have cl:k<l.length:=by omega
  simp only[loadCellsFrom,aDv,run_load,ayw c aQ k cl,aDu];rw[dI (k+1) _ (by omega),aET cl];congr 1;apply aD6.1;simp
theorem run_loadCells {P:Program}{h:ak}{w:World}(c:e8 h w){b o:Nat}{l:List Value}(aQ:fW h b o l) :
 (loadCells ⟨b,o,none⟩ l.length).run P w= .ok l.toArray w:=by
 unfold loadCells;rw[run_loadCellsFrom c l aQ 0 l.length #[] (by omega)];simp
def fp.sH:fp->Bool
 | .dz _=>true
 | .ws _=>true
 | _=>false
def y9 (P:Program)(T:TypeId)(h:ak)(q:aF)(K:ag->Prop):Prop :=
 if kk P T=some (mh P 9 T).size/\r1 P T=some (mh P 9 T).sH then Eg h q.b (mh P 9 T) q.o K else False
theorem ayx (h:ak)(b:Nat):∀(t:fp) (o:Nat) (K:ag->Prop),Eg h b t o K ->
 ∃r,K r/\fW h b o (ag.cells r)/\(ag.cells r).length=t.size/\ag.flat r=true/\r.sH=t.sH:=by
 intro t o K aT;cases t with
 | dz l =>
  obtain⟨r,ah,aQ,aK,bc⟩:=SQ h b l o _ aT;exact⟨_,ah,aQ,aK,bc,rfl⟩
 | ws n =>
  obtain⟨c,a1,ah⟩:=aT;obtain⟨r,gM,aa,ad,an⟩:=aeW h b (.ws n) o (λr=>r= .ws n c) ⟨c,a1,rfl⟩;subst gM;exact⟨_,ah,aa,ad,an,rfl⟩
 | jC l=>exact aT.elim
 | v =>
  obtain⟨x,ai,aa,ah⟩:=aT;exact⟨_,ah,by simp[ag.cells,fW,ai],rfl,aa,rfl⟩
 | i k=>obtain⟨x,ai,ah⟩:=aT;exact⟨_,ah,by simp[ag.cells,fW,ai],rfl,rfl,rfl⟩
 | u=>obtain⟨x,ai,ah⟩:=aT;exact⟨_,ah,by simp[ag.cells,fW,ai],rfl,rfl,rfl⟩
 | b=>obtain⟨x,ai,ah⟩:=aT;exact⟨_,ah,by simp[ag.cells,fW,ai],rfl,rfl,rfl⟩
 | p=>obtain⟨x,ai,ah⟩:=aT;exact⟨_,ah,by simp[ag.cells,fW,ai],rfl,rfl,rfl⟩
 | f=>obtain⟨g,c,ai,ah⟩:=aT;exact⟨_,ah,by simp[ag.cells,fW,ai],rfl,rfl,rfl⟩
 | ic=>obtain⟨x,ai,ah⟩:=aT;exact⟨_,ah,by simp[ag.cells,fW,ai],rfl,rfl,rfl⟩
 | s=>obtain⟨x,ai,ah⟩:=aT;exact⟨_,ah,by simp[ag.cells,fW,ai],rfl,rfl,rfl⟩
 | str=>obtain⟨x,ai,ah⟩:=aT;exact⟨_,ah,by simp[ag.cells,fW,ai],rfl,rfl,rfl⟩
 | m=>obtain⟨x,ai,ah⟩:=aT;exact⟨_,ah,by simp[ag.cells,fW,ai],rfl,rfl,rfl⟩
def mN (h:ak)(q:aF)(r:ag):Prop:=fW h q.b q.o (ag.cells r)
theorem aff {P:Program}{T:TypeId}{h:ak}{w:World}(c:e8 h w){q:aF}{r:ag}(aa:kk P T=some r.size)(ad:r1 P T=some r.sH)(aV:mN h q r) :
 (loadVar T q.addr).run P w= .ok r.val w:=by
 unfold loadVar;simp only[aDv,H4 ad,aDu];cases aQ:r.sH with
 | true =>
  have:=run_loadCells (P:=P) c aV;rw[ag.xe] at this;simp only[aEv,aDv,nv aa,aDu,aDG];rw[show q.addr=⟨q.b,q.o,none⟩ from rfl,this,ag.MD aQ];rfl
 | false =>
  simp only[aEb,aEc];unfold mN at aV;rw[ag.afC aQ] at aV;simp only[run_load,show q.addr=⟨q.b,q.o,none⟩ from rfl,c.cell aV.1]
theorem afe {P:Program}{T:TypeId}{h:ak}{q:aF}{K:ag->Prop}(aT:y9 P T h q K) :
 ∃r,K r/\mN h q r/\kk P T=some r.size/\r1 P T=some r.sH:=by
 unfold y9 at aT;split at aT
 .rename_i a1
  obtain⟨r,ah,aQ,aK,bc,bY⟩:=ayx _ _ _ _ _ aT;exact⟨r,ah,aQ,by rw[a1.1,<-aK,ag.xe],by rw[a1.2,bY]⟩
 .exact aT.elim
def iI (c:Array Value)(o:Nat):List Value->Array Value
 | []=>c
 | v::l=>iI (c.setIfInBounds o v) (o+1) l
theorem BO (l:List Value):∀(c:Array Value) (o:Nat),(iI c o l).size=c.size:=by
 induction l with
 | nil=>intro c o;rfl
 | cons v l dI=>intro c o;simp[iI,dI]
def aW (h:ak)(q:aF)(l:List Value)(K:ak->Prop):Prop :=
 ∃c t,h q.b=ev c t/\q.o+l.length<=c.size/\K (bD h q.b (.cells (iI c q.o l) t (0,0)))
theorem H5 {P:Program}(b o:Nat):∀(l:List Value) (k:Nat) (h:ak) (w:World) (c:Array Value) (t:TypeId),e8 h w ->
 (∀v∈l,v.oneCell'=true)->h b=ev c t->o+k+l.length<=c.size ->
 ∃cv,(storeCells ⟨b,o,none⟩ l k).run P w= .ok () cv/\e8 (bD h b (.cells (iI c (o+k) l) t (0,0))) cv/\e5 h (bD h b (.cells (iI c (o+k) l) t (0,0))) w cv
 | [],k,h,w,c,t,a1,_,ar,_=>by
  refine⟨w,rfl,?_,?_⟩
  .intro x y ai
   by_cases e:x=b
   .subst e;rw[eC] at ai;cases ai;exact a1 _ _ ar
   .rw[cu _ _ e] at ai;exact a1 _ _ ai
  .refine⟨rfl,rfl,rfl,aDt _,λx ai _=>⟨?_,rfl⟩⟩;rw[cu _ _ (λe=>by subst e;rw[ar] at ai;cases ai)];exact ai
 | v::l,k,h,w,c,t,a1,b0,ar,aT=>by
  simp only[aE6] at aT;have cl:o+k<c.size:=by omega
  have hw:w.heap[b]? =ev c t:=a1 _ _ ar;have bx:w.cell? (Addr.add ⟨b,o,none⟩ k)=some c[o+k]:=by
   rw[show(⟨b,o,none⟩:Addr)=aF.addr ⟨b,o⟩ from rfl,xd];simp[aF.addr,World.cell?,hw,cl]
  have ayy:w.frozen? (Addr.add ⟨b,o,none⟩ k)=false:=by
   rw[show(⟨b,o,none⟩:Addr)=aF.addr ⟨b,o⟩ from rfl,xd];simp[aF.addr,World.frozen?,hw]
  have zJ:(Addr.add ⟨b,o,none⟩ k).block=b:=by unfold Addr.add;split<;>rfl
  have tX:(w.setCell (Addr.add ⟨b,o,none⟩ k) v).heap[b]? =ev (c.setIfInBounds (o+k) v) t:=by
   rw[show(⟨b,o,none⟩:Addr)=aF.addr ⟨b,o⟩ from rfl,xd];simp only[aF.addr,World.setCell,Array.getElem?_modify,aEv,hw,aEx];rfl
  have afD:∀x,x≠b->(w.setCell (Addr.add ⟨b,o,none⟩ k) v).heap[x]? =w.heap[x]?:=λx ai=>Below.heap_setCell _ _ _ _ (by rw[zJ];exact ai);have xb:b<w.heap.size:=a1.lt ar;have xF:e8 (bD h b (.cells (c.setIfInBounds (o+k) v) t (0,0))) (w.setCell (Addr.add ⟨b,o,none⟩ k) v):=by
   intro x y ai;by_cases e:x=b
   .subst e;rw[eC] at ai;cases ai;exact tX
   .rw[cu _ _ e] at ai;rw[afD x e];exact a1 _ _ ai
  have ayz:e5 h (bD h b (.cells (c.setIfInBounds (o+k) v) t (0,0))) w (w.setCell (Addr.add ⟨b,o,none⟩ k) v):=by
   refine⟨rfl,rfl,rfl,by simp,λx ai _=>?_⟩;have e:x≠b:=λe=>by subst e;rw[ar] at ai;cases ai
   exact⟨by rw[cu _ _ e];exact ai,afD x e⟩
  obtain⟨cv,aQ,m1,rz⟩:=H5 b o l (k+1) _ _ (c.setIfInBounds (o+k) v) t xF (λx ai=>b0 x (aDI _ ai)) (eC _ _ _) (by simp;omega);have ayA:∀z:Obj,bD (bD h b (.cells (c.setIfInBounds (o+k) v) t (0,0))) b z=bD h b z:=by
   intro z;funext x;unfold bD;split<;>rfl
  rw[ayA] at m1 rz;refine⟨cv,?_,m1,ayz.trans rz⟩;simp only[storeCells,aDv,run_store _ _ _ _ _ (b0 v (aDH)),bx,ayy,aDu,aEb,aEc];exact aQ
theorem ayB {P:Program}{T:TypeId}{h:ak}{w:World}(a1:e8 h w){q:aF}{r:ag}(aa:kk P T=some r.size)(bc:r.flat=true){K:ak->Prop}(ah:aW h q (ag.cells r) K) :
 ∃af cv,K af/\(storeVar T q.addr r.val).run P w= .ok () cv/\e8 af cv/\e5 h af w cv:=by
 obtain⟨c,t,ar,aT,eL⟩:=ah;obtain⟨cv,aQ,m1,rz⟩:=H5 (P:=P) q.b q.o (ag.cells r) 0 h w c t a1 (ag.aeX r bc) ar (by simpa using aT);refine⟨_,cv,eL,?_,m1,rz⟩;have b0:=ag.Ml r bc;simp only[storeVar,aDv,nv aa,aDu,b0,List.size_toArray,ag.xe,ne_eq,not_true,aEc,Sem.run_ite];simpa [aF.addr] using aQ
def u_ (P:Program)(f:FuncId):Bool :=
 match P.funcs[f]? with
 | some fn=>fn.name != "runtime.NumGoroutine"&&fn.body.isSome
 | none=>false
def o2 (P:Program)(f:FuncId)(args:List Value)(h:ak)(Q:Value->ak->Prop):Prop :=
 u_ P f=true/\∀w,e8 h w->Calls P f args.toArray w λe cv=>∃v af,e= .returned v/\Q v af/\e8 af cv/\e5 h af w cv
theorem o2.mono {P:Program}{f:FuncId}{args:List Value}{h:ak}{Q nY:Value->ak->Prop}(a1:o2 P f args h Q)(aj:∀v af,Q v af->nY v af):o2 P f args h nY :=
 ⟨a1.1,λw c=>(a1.2 w c).mono λ_ _ ⟨v,af,he,q,cr,g⟩=>⟨v,af,he,aj v af q,cr,g⟩⟩
theorem S7 {P:Program}{f:FuncId}(h:u_ P f=true)(args:Array Value)(w:World):(callFunc f args).run P w= .ok (.enter f args) w:=by
 unfold u_ at h;split at h
 .rename_i fn bc
  simp only[aEi,bne_iff_ne,ne_eq] at h;obtain⟨aK,ar⟩:=h;obtain⟨c,a1⟩:=Option.isSome_iff_exists.1 ar;simp only[callFunc,aDv,run_program,aDu,bc];rw[aDq (by simpa using aK),aDq (by simp[a1])];rfl
 .cases h
def nZ (ro:Option Nat):Fence:={ fn:=λ_=>True,depth:=none,alive:=false,round:=ro }
theorem S6 (ro:Option Nat){n:Nat}:(nZ ro).depth.isSome=true->1<=n:=λh=>by cases h
theorem afb {ro:Option Nat}{n:Nat}{P:Program}{f:FuncId}{args:Array Value}{w:World}{R:Ending->World->Prop}(h:Calls P f args w R):CallsIn (nZ ro) n P f args w R:=by
 have aa:CallsIn Fence.wide n P f args w R:=callsIn_wide.2 h;cases ro with
 | none=>exact aa
 | some l=>exact aa
theorem ayC {ro:Option Nat}{n:Nat}{P:Program}{l:Nat}{f:FuncId}{tmps:Array Value}{assign body:Code}{w:World}{R:Ending->World->Prop}(h:RoundIn (nZ none) 0 P l f tmps assign body w R) :
 RoundIn (nZ ro) n P l f tmps assign body w R :=
 ⟨trivial,λc cs _=>h.2 c cs (λ_ h=>by cases h)⟩
def Tl:Op->Bool
 | .defer _=>true
 | _=>false
theorem ayD (ro:Option Nat)(a:Act)(o:Oper)(h:Tl o.op=false):Oper.semAt ro a.eval o=execOp a.eval o :=
 Oper.semAt_eq ro a.eval o (λc a1=>by rw[a1] at h;cases h)
def nj (P:Program)(l:Nat)(args:List Value)(h:ak)(Q:Value->ak->Prop):Prop :=
 ∀w,e8 h w->∃r:Loop,w.heap[l]? =some (.loop r)/\args.length=r.params.size /\
  RoundIn (nZ none) 0 P l r.fn ((r.params.zip args.toArray).foldl (λtmps (t,a)=>tmps.setIfInBounds t a) r.tmps) r.assign r.body w
   λe cv=>∃v af,e= .returned v/\Q v af/\e8 af cv/\e5 h af w cv
theorem nj.mono {P:Program}{l:Nat}{args:List Value}{h:ak}{Q nY:Value->ak->Prop}(a1:nj P l args h Q)(aj:∀v af,Q v af->nY v af):nj P l args h nY:=λw c =>
 let ⟨r,aa,ad,an⟩:=a1 w c
 ⟨r,aa,ad,an.mono λ_ _ ⟨v,af,he,q,cr,g⟩=>⟨v,af,he,aj v af q,cr,g⟩⟩
def fL (P:Program)(x:Value)(args:List Value)(h:ak)(Q:Value->ak->Prop):Prop :=
 match x with
 | .func (.func g) first cs=>first=#[]/\o2 P g (args++cs.toList) h Q
 | .func (.yield l) first cs=>first=#[]/\cs=#[]/\nj P l args h Q
 | _=>False
theorem fL.mono {P:Program}{x:Value}{args:List Value}{h:ak}{Q nY:Value->ak->Prop}(a1:fL P x args h Q)(aj:∀v af,Q v af->nY v af):fL P x args h nY:=by
 unfold fL at a1 ⊢;split at a1
 .exact⟨a1.1,a1.2.mono aj⟩
 .exact⟨a1.1,a1.2.1,a1.2.2.mono aj⟩
 .exact a1.elim
def bg (h:ak)(o:Obj)(K:Nat->ak->Prop):Prop:=∀b,h b=none->K b (bD h b o)
def ME:Nat->List (Nat×ag)->Bool
 | _,[]=>true
 | k,(i,_)::l=>i==k&&ME (k+1) l
def lq (z:Array Value)(n:Nat):Array Value:=(Array.range n).map (z[·%z.size]!)
theorem afE (dR:Nat):∀(l:List (Nat×ag)) (k:Nat) (pre old:List Value),ME k l=true->(∀x∈l,x.2.size=dR/\x.2.flat=true) ->
 pre.length=k*dR->old.length=l.length*dR ->
 Instr.fill (λi=>some (i*dR,dR)) (pre++old).toArray (l.map λx=>(x.1,x.2.val))=some (pre++ag.gL (l.map (·.2))).toArray
 | [],k,pre,old,_,_,_,ep=>by
  obtain rfl:old=[]:=aD9.1 (by simpa using ep);simp[Instr.fill,ag.gL]
 | (i,r)::l,k,pre,old,hi,aV,aP,ep=>by
  simp only[ME,aEi,aFi] at hi;obtain⟨rfl,hi⟩:=hi;obtain⟨aQ,bc⟩:=aV (i,r) aDH;simp only[aE6] at ep;have dM:(l.length+1)*dR=dR+l.length*dR:=by rw[aEM,Nat.one_mul,Nat.add_comm]
  have ayE:(old.take dR).length=dR:=by rw[aEy];omega
  have aH:pre++old=pre++old.take dR++old.drop dR:=by rw[aDD,aEz]
  simp only at aQ bc;have qx:(ag.cells r).length=dR:=by rw[ag.xe,aQ]
  simp only[aEs];rw[aH,Tm (off:=i*dR) (l:=ag.cells r) (by rw[qx]) (ag.Ml r bc) (by rw[ayE,qx]) aP.symm];rw[afE dR l (i+1) (pre++ag.cells r) (old.drop dR) hi (λx ai=>aV x (aDI _ ai)) (by
   rw[aDs,aP,qx,aEM,Nat.one_mul]) (by rw[aDY,ep,dM];omega)]
  simp[ag.gL]
def Bq (P:Program)(T:TypeId)(len:Nat)(cN:List (Nat×ag))(h:ak)(K:ao->ak->Prop):Prop :=
 match P.underlying T with
 | some (.slice el)=>match kk P el,vr P el with
  | some dR,some z=>if cN.length=len/\ME 0 cN=true/\(cN.all λx=>x.2.size==dR&&x.2.flat)=true/\z.cells.size=dR/\len*dR<=16777216 then
   bg h (.cells (ag.gL (cN.map (·.2))).toArray el) λb h=>K ⟨some ⟨b,0⟩,len,len,none⟩ h else False
  | _,_=>False
 | _=>False
theorem ayF {P:Program}{T:TypeId}{len:Nat}{cN:List (Nat×ag)}{h:ak}{K:ao->ak->Prop}(ah:Bq P T len cN h K)(w:World)(c:e8 h w) :
 ∃r af cv,K r af/\(Instr.buildSlice T len (cN.map λx=>(x.1,x.2.val)).toArray).run P w= .ok (aZ r) cv/\e8 af cv/\e5 h af w cv:=by
 unfold Bq at ah;split at ah
 .rename_i el hu
  split at ah
  .rename_i dR z bn xp
   split at ah
   .rename_i a1
    obtain⟨aa,ad,an,aJ,aR⟩:=a1;have Gi:∀x∈cN,x.2.size=dR/\x.2.flat=true:=by
     intro x ai;have:=aE8.1 an x ai;simpa using this
    refine⟨_,_,_,ah w.heap.size c.fresh,?_,c.alloc _,e5.alloc _ _ _⟩;have ayG:¬len*dR > 2 ^ 24:=by omega
    simp only[Instr.buildSlice,aDv,aDB hu,aDu,nv bn];rw[aDq ayG];have key:∀Z:Array Value,Z.size=len*dR->Instr.fill (λi=>some (i*dR,dR)) Z (cN.map λx=>(x.1,x.2.val))=some (ag.gL (cN.map (·.2))).toArray:=by
     intro Z ayH;have:=afE dR cN 0 [] Z.toList ad Gi (by simp) (by simp[ayH,aa]);simpa using this
    by_cases h0:len*dR=0
    .simp only[h0,aEv,aDv,aDG,aDu];rw[key _ (by simp[h0])];rfl
    .simp only[h0,aEc,aDv,Br xp,aDG,aDu];rw[key _ (by simp)];rfl
   .exact ah.elim
  .exact ah.elim
 .exact ah.elim
def Bs (P:Program)(T:TypeId)(len cap:Int)(h:ak)(K:ao->ak->Prop):Prop :=
 match P.underlying T with
 | some (.slice el)=>match kk P el,vr P el,(P.info? el).map (·.bytes) with
  | some dR,some z,some by_=>0<=len/\len<=cap/\(by_:Int)*cap<=281474976710656/\cap<=9223372036854775807 /\
   bg h (.cells (lq (if cap.toNat*dR=0 then #[] else z.cells) (cap.toNat*dR)) el) λb h=>K ⟨some ⟨b,0⟩,len.toNat,cap.toNat,none⟩ h
  | _,_,_=>False
 | _=>False
theorem ayI {P:Program}{T:TypeId}{k h_:IntKind}{len cap:Int}{h:ak}{K:ao->ak->Prop}(ah:Bs P T len cap h K)(w:World)(c:e8 h w) :
 ∃r af cv,K r af/\(Instr.makeSlice T (.int k len) (.int h_ cap)).run P w= .ok (aZ r) cv/\e8 af cv/\e5 h af w cv:=by
 unfold Bs at ah;split at ah
 .rename_i el hu
  split at ah
  .rename_i dR z by_ bn xp kX
   obtain⟨aa,ad,an,aJ,ah⟩:=ah;refine⟨_,_,_,ah w.heap.size c.fresh,?_,c.alloc _,e5.alloc _ _ _⟩;have Tn:∃i,P.info? el=some i/\i.bytes=by_:=by
    cases hi:P.info? el with
    | none=>simp[hi] at kX
    | some i=>simp[hi] at kX;exact⟨i,rfl,kX⟩
   obtain⟨i,hi,rfl⟩:=Tn;have aH:IntKind.i64.wrap len=len:=IntWalk.i64_in len ⟨by omega,by omega⟩;have a_:IntKind.i64.wrap cap=cap:=IntWalk.i64_in cap ⟨by omega,by omega⟩;have kY:¬(cap<0):=by omega
   have nG:¬((i.bytes:Int)*cap > 2 ^ 48):=by
    have:(2:Int) ^ 48=281474976710656:=by decide
    omega
   have hN:¬(len<0):=by omega
   have uk:¬(len > cap):=by omega
   simp only[Instr.makeSlice,aDv,aDB hu,aDu,asInt,asIntOf,aDG,typeInfo,run_program,hi,aH,a_];simp only[kY,nG,hN,uk,decide_false,Bool.or_false,aEb,aEc,aDv,run_askRoom,aDu,nv bn];by_cases h0:cap.toNat*dR=0
   .simp only[h0,aEv,aDv,aDG,aDu];rfl
   .simp only[h0,aEc,aDv,Br xp,aDG,aDu];rfl
  .exact ah.elim
 .exact ah.elim
def oO (h:ak)(x:ag)(dR n:Nat)(K:List Value->Prop):Prop :=
 match x with
 | .s x=>∃l:List Value,l.length=n*dR/\(∀v∈l,v.oneCell'=true)/\(match x.q with|some q=>fW h q.b q.o l|none=>l=[])/\K l
 | .str s=>dR=1/\K (((s.extract 0 n).data.toList).map λb=> .int .u8 (b.toNat:Int))
 | _=>False
theorem MF {P:Program}{h:ak}{w:World}(c:e8 h w){x:ag}{dR n:Nat}{K:List Value->Prop}(ah:oO h x dR n K) :
 ∃l,K l/\(∀v∈l,v.oneCell'=true)/\(Builtin.firstCells dR n x.val).run P w= .ok l.toArray w:=by
 unfold oO at ah;split at ah
 .rename_i x
  obtain⟨l,aT,aa,aQ,ah⟩:=ah;refine⟨l,ah,aa,?_⟩;cases aj:x.q with
  | none =>
   rw[aj] at aQ;simp only at aQ;subst aQ;have x4:n*dR=0:=by simpa using aT.symm
   simp only[ag.val,aZ];cases x.addr with
   | none=>simp[Builtin.firstCells]
   | some a =>
    simp only[Builtin.firstCells,x4,loadCells];rfl
  | some q =>
   rw[aj] at aQ;simp only at aQ;have:=run_loadCells (P:=P) c aQ;rw[aT] at this;simp only[ag.val,aZ,ao.HU aj];simpa [Builtin.firstCells,aF.addr] using this
 .rename_i s
  obtain⟨rfl,ah⟩:=ah;refine⟨_,ah,?_,?_⟩
  .intro v b0
   obtain⟨b,_,rfl⟩:=aD2.1 b0;rfl
  .simp only[Builtin.firstCells,ag.val,aDG];congr 1;apply aD6.1;simp
 .exact ah.elim
theorem ayJ {P:Program}{h:ak}{w:World}(c:e8 h w){x:ag}{dR n:Nat}{K:List Value->Prop}(ah:oO h x dR n K) :
 ∃l,K l/\(∀v∈l,v.oneCell'=true)/\(Builtin.firstCells dR n x.val).run P w= .ok l.toArray w /\
  (Builtin.firstCells dR n x.val).run P { w with drawn:=w.drawn+1 }= .ok l.toArray { w with drawn:=w.drawn+1 }:=by
 have:oO h x dR n λl=>K l/\oO h x dR n λfw=>fw=l:=by
  unfold oO at ah ⊢;split at ah
  .obtain⟨l,aa,ad,an,aJ⟩:=ah;exact⟨l,aa,ad,an,aJ,l,aa,ad,an,rfl⟩
  .exact⟨ah.1,ah.2,ah.1,rfl⟩
  .exact ah.elim
 obtain⟨l,⟨ah,aT⟩,aa,ad⟩:=MF (P:=P) c this;obtain⟨fw,e,_,an⟩:=MF (P:=P) (w:={ w with drawn:=w.drawn+1 }) c aT;subst e;exact⟨_,ah,aa,ad,an⟩
def td (x:ag)(K:Nat->Prop):Prop :=
 match x with
 | .s x=>K x.len
 | .str s=>K s.size
 | _=>False
theorem afF {P:Program}{x:ag}{K:Nat->Prop}(h:td x K):∃n,K n/\∀w,(Builtin.lenOf x.val).run P w= .ok n w:=by
 unfold td at h;split at h
 .exact⟨_,h,λw=>rfl⟩
 .exact⟨_,h,λw=>rfl⟩
 .exact h.elim
def eI (P:Program)(T:TypeId)(x:ao)(y:ag)(h:ak)(K:ao->ak->Prop):Prop :=
 match P.underlying T with
 | some (.slice el)=>match kk P el,vr P el,(P.info? el).map (·.bytes) with
  | some dR,some z,some by_=>td y λn=>oO h y dR n λl =>
   cond (decide (x.len+n<=x.cap))
    (match x.q with|some q=>aW h ⟨q.b,q.o+x.len*dR⟩ l λaf=>K ⟨some q,x.len+n,x.cap,none⟩ af|none=>l=[]/\K ⟨x.p,x.len+n,x.cap,x.z⟩ h)
    ((Builtin.nextslicecap (x.len+n) x.cap*by_<=281474976710656)/\((x.len+n:Nat):Int)<=9223372036854775807 /\
      oO h (.s x) dR x.len λy8=>∀nU,x.len+n<=nU ->
       bg h (.cells (y8.toArray++l.toArray++Builtin.zeroCells z.cells (nU-(x.len+n))) el) λb h=>K ⟨some ⟨b,0⟩,x.len+n,nU,none⟩ h)
  | _,_,_=>False
 | _=>False
theorem ayK {P:Program}{T Bt:TypeId}{ats:Array TypeId}{ty:TypeId}{x:ao}{y:ag}{h:ak}{K:ao->ak->Prop}(ah:eI P T x y h K)(w:World)(c:e8 h w)
 (bY:ats[0]? =some T) (ar:ats[1]? =some Bt) (b4:(∃e,P.underlying Bt=some (.slice e))∨P.underlying Bt=some .string) :
 ∃r af cv,K r af/\(Builtin.append_ ats ty #[aZ x,y.val]).run P w= .ok (aZ r) cv/\e8 af cv/\e5 h af w cv:=by
 unfold eI at ah;split at ah
 .rename_i el hu
  split at ah
  .rename_i dR z by_ bn xp kX
   obtain⟨n,ah,aK⟩:=afF (P:=P) ah;obtain⟨l,ah,To,aT,Ce⟩:=ayJ (P:=P) c ah;have Tn:∃i,P.info? el=some i/\i.bytes=by_:=by
    cases hi:P.info? el with
    | none=>simp[hi] at kX
    | some i=>simp[hi] at kX;exact⟨i,rfl,kX⟩
   obtain⟨i,hi,rfl⟩:=Tn;by_cases Ew:x.len+n<=x.cap
   .rw[aDA Ew] at ah;simp only[aED] at ah;cases Bu:x.q with
    | none =>
     rw[Bu] at ah;simp only at ah;obtain⟨rfl,ah⟩:=ah;refine⟨_,h,w,ah,?_,c,e5.refl _ _⟩;have kB:∀a:Addr,(storeCells a [] 0).run P w= .ok () w:=λa=>rfl;rcases b4 with ⟨cc,pY⟩|pY
     all_goals
      rw[show aZ ⟨x.p,x.len+n,x.cap,x.z⟩= .slice x.addr (x.len+n) x.cap from rfl];cases H6:x.addr with
      | none=>simp only[Builtin.append_,bY,ar,aD1,aDK,aDJ,aZ,aDv,aDB hu,aDu,nv bn,aDB pY w,aDG,aEb,aEc,aK,Bool.not_false,aEv,Sem.run_ite,false_or,typeInfo,run_program,hi,Ew,aT,H6]
      | some a=>simp only[Builtin.append_,bY,ar,aD1,aDK,aDJ,aZ,aDv,aDB hu,aDu,nv bn,aDB pY w,aDG,aEb,aEc,aK,Bool.not_false,aEv,Sem.run_ite,false_or,typeInfo,run_program,hi,Ew,aT,H6,kB]
    | some q =>
     rw[Bu] at ah;simp only at ah;obtain⟨sl,t,Tp,hlen,eL⟩:=ah;obtain⟨cv,aQ,m1,rz⟩:=H5 (P:=P) q.b (q.o+x.len*dR) l 0 h w sl t c To Tp (by simpa using hlen);refine⟨_,_,cv,eL,?_,m1,rz⟩;have e:(Addr.add q.addr (x.len*dR))=⟨q.b,q.o+x.len*dR,none⟩:=by rw[xd];rfl
     have a_:ao.addr ⟨some q,x.len+n,x.cap,none⟩=some q.addr:=rfl;rcases b4 with ⟨cc,pY⟩|pY
     all_goals
      simp only[Builtin.append_,bY,ar,aD1,aDK,aDJ,aZ,aDv,aDB hu,aDu,nv bn,aDB pY w,aDG,aEb,aEc,aK,Bool.not_false,aEv,Sem.run_ite,false_or,typeInfo,run_program,hi,Ew,aT,ao.HU Bu,a_,e,aQ]
   .rw[aDz Ew] at ah;simp only[aEZ] at ah;obtain⟨vz,Ys,ah⟩:=ah;have aS:e8 h { w with drawn:=w.drawn+1 }:=c;obtain⟨y8,ah,_,x4⟩:=MF (P:=P) aS ah;have nG:¬(((x.len+n:Nat):Int) > IntKind.i64.max/\i.bytes=0):=by
     intro b2;have aa:=b2.1;simp[IntKind.max,IntKind.signed,IntKind.bits] at aa;omega
    have hN:¬(Builtin.nextslicecap (x.len+n) x.cap*i.bytes > 2 ^ 48):=by
     have:2 ^ 48=281474976710656:=by decide
     omega
    have aj:(Question.appendCap (x.len+n) x.cap el).forced=false:=rfl;have ayL:x.len+n<=(Question.appendCap (x.len+n) x.cap el).cut (w.tape w.drawn (Question.appendCap (x.len+n) x.cap el)):=by
     simp only[Question.cut];omega
    simp only[ag.val,aZ] at x4;refine⟨_,_,_,ah _ ayL _ aS.fresh,?_,aS.alloc _,(e5.drew h w).trans (e5.alloc _ _ _)⟩;rcases b4 with ⟨cc,pY⟩|pY
    all_goals
     simp only[Builtin.append_,bY,ar,aD1,aDK,aDJ,aZ,aDv,aDB hu,aDu,nv bn,aDB pY w,aDG,aEb,aEc,aK,Bool.not_false,aEv,Sem.run_ite,false_or,typeInfo,run_program,hi,Ew,nG,hN,run_choose,aj,run_askRoom,x4,Ce,Br xp];rfl
  .exact ah.elim
 .exact ah.elim
def mB (P:Program)(T:TypeId)(x:ao)(y:ag)(h:ak)(K:Nat->ak->Prop):Prop :=
 match P.underlying T with
 | some (.slice el)=>match kk P el with
  | some dR=>td y λm=>oO h y dR (Nat.min m x.len) λl =>
   match x.q with
   | some q=>aW h q l λaf=>K (Nat.min m x.len) af
   | none=>l=[]/\K (Nat.min m x.len) h
  | none=>False
 | _=>False
theorem ayM {P:Program}{T:TypeId}{ats:Array TypeId}{ty:TypeId}{x:ao}{y:ag}{h:ak}{K:Nat->ak->Prop}(ah:mB P T x y h K)(w:World)(c:e8 h w)
 (bY:ats[0]? =some T) :
 ∃r af cv,K r af/\(Builtin.copy_ ats ty #[aZ x,y.val]).run P w= .ok (.int .i64 (r:Int)) cv/\e8 af cv/\e5 h af w cv:=by
 unfold mB at ah;split at ah
 .rename_i el hu
  split at ah
  .rename_i dR bn
   obtain⟨m,ah,hm⟩:=afF (P:=P) ah;obtain⟨l,ah,To,aT⟩:=MF (P:=P) c ah;cases Bu:x.q with
   | none =>
    rw[Bu] at ah;simp only at ah;obtain⟨rfl,ah⟩:=ah;refine⟨_,_,_,ah,?_,c,e5.refl _ _⟩;have kB:∀a:Addr,(storeCells a [] 0).run P w= .ok () w:=λa=>rfl;cases H6:x.addr with
    | none =>
     simp only[Builtin.copy_,bY,aD1,aDK,aDJ,aZ,aDv,aDB hu,aDu,nv bn,hm,aT,H6];rfl
    | some a =>
     simp only[Builtin.copy_,bY,aD1,aDK,aDJ,aZ,aDv,aDB hu,aDu,nv bn,hm,aT,H6,kB];rfl
   | some q =>
    rw[Bu] at ah;simp only at ah;obtain⟨sl,t,Tp,hlen,eL⟩:=ah;obtain⟨cv,aQ,m1,rz⟩:=H5 (P:=P) q.b q.o l 0 h w sl t c To Tp (by simpa using hlen);refine⟨_,_,cv,eL,?_,m1,rz⟩;simp only[Builtin.copy_,bY,aD1,aDK,aDJ,aZ,aDv,aDB hu,aDu,nv bn,hm,aT,ao.HU Bu,aF.addr,aQ];rfl
  .exact ah.elim
 .exact ah.elim
def r0 (P:Program)(n:Nat)(e:Env):List Operand->List TypeId->(List ag->Prop)->Prop
 | [],_,K=>K []
 | x::l,[],K=>ie n e x λs=>r0 P n e l [] λr=>K (s::r)
 | x::l,t::jz,K=>qf n (mh P 9 t) e x λs=>r0 P n e l jz λr=>K (s::r)
theorem Ex {P:Program}{n:Nat}{e:Env}:∀(l:List Operand) (jz:List TypeId) (K:List ag->Prop),r0 P n e l jz K ->
 ∃r,K r/\∀a,Good n e a->l.map a.eval=ag.bJ r
 | [],_,K,h=>⟨[],h,λ_ _=>rfl⟩
 | x::l,[],K,h=>by
  obtain⟨s,aV,aa⟩:=kj h;obtain⟨r,aQ,ad⟩:=Ex l [] _ aV;exact⟨_,aQ,λa g=>by simp[ag.bJ,aa a g,ad a g]⟩
 | x::l,t::jz,K,h=>by
  obtain⟨s,aV,aa⟩:=zd h;obtain⟨r,aQ,ad⟩:=Ex l jz _ aV;exact⟨_,aQ,λa g=>by simp[ag.bJ,aa a g,ad a g]⟩
def Tq (P:Program)(T:TypeId):Bool :=
 match P.underlying T with
 | some (.slice _)=>true
 | some .string=>true
 | _=>false
theorem ayN {P:Program}{T:TypeId}(h:Tq P T=true):(∃e,P.underlying T=some (.slice e))∨P.underlying T=some .string:=by
 unfold Tq at h;split at h
 .rename_i hu;exact .inl ⟨_,hu⟩
 .rename_i hu;exact .inr hu
 .cases h
def acB (P:Program)(f:FuncId)(args:List Value)(h:ak)(Q:Value->ak->Prop):Prop:=∃v,(∀w,(callFunc f args.toArray).run P w= .ok (.value v) w)/\Q v h
def qN (e:aE×Value×Nat):MapEntry:={ key:=ab e.1,val:=e.2.1,born:=e.2.2 }
def PR (l:List (aE×Value×Nat))(clock:Nat)(k:aE)(v:Value):Obj :=
 match l.findIdx? (λe=>e.1==k) with
 | some i=> .map ((l.modify i λe=>(k,v,e.2.2)).map qN).toArray clock
 | none=> .map ((l++[(k,v,clock)]).map qN).toArray (clock+1)
def tx (h:ak)(r:Option Nat)(k:aE)(v:Value)(K:ak->Prop):Prop :=
 ∃b l clock,r=some b/\h b=some (.map (l.map qN).toArray clock)/\K (bD h b (PR l clock k v))
theorem afG (ze:IntKind)(k:aE):∀(l:List (aE×Value×Nat)) (i:Nat),Instr.findNow (.int ze) (ab k) (l.map qN) i =
 some ((l.findIdx? (λe=>e.1==k)).bind λj=>(l[j]?).map λe=>(i+j,e.2.1))
 | [],i=>by simp[Instr.findNow]
 | e::l,i=>by
  have dI:=afG ze k l (i+1);simp only[aEs,Instr.findNow];have aV:Instr.sameNow (.int ze) (ab k) (qN e).key=some (e.1==k):=by
   simp only[Instr.sameNow,ab,qN,aEv,aEj];rw[aDV];simp only[aFi,aFN,aDE];exact⟨λh=>h.symm,λh=>h.symm⟩
  rw[aV];cases ah:(e.1==k) with
  | true=>simp[List.findIdx?_cons,ah,qN]
  | false =>
   simp only[dI,List.findIdx?_cons,ah];congr 1;cases l.findIdx? (λe=>e.1==k) with
   | none=>rfl
   | some j =>
    simp only[aEx,Option.bind_some,aDJ];rw[show i+1+j=i+(j+1) by omega];simp
theorem ayO {P:Program}{T zf H7:TypeId}(gf:P.underlying T=some (.map zf H7)){ze:IntKind}(ah:P.underlying zf=some (.int ze)){h:ak}{w:World}(c:e8 h w){r:Option Nat}{k:aE}{v:Value}{K:ak->Prop}(hm:tx h r k v K) :
 ∃af cv,K af/\(Instr.mapUpdate T (.map r) (ab k) v).run P w= .ok () cv/\e8 af cv/\e5 h af w cv:=by
 obtain⟨b,l,clock,rfl,ar,eL⟩:=hm;have hw:=c _ _ ar;have dd:(getObj b).run P w= .ok (.map (l.map qN).toArray clock) w:=by simp[getObj,Sem.run,hw]
 have Ev:∀o:Obj,(setObj b o).run P w= .ok () { w with heap:=w.heap.setIfInBounds b o }:=λo=>by simp[setObj,Sem.run,hw]
 have ayP:(Instr.checkKey false 10000 zf (ab k)).run P w= .ok () w:=by
  rw[show(10000:Nat)=9999+1 from rfl,Instr.checkKey];simp only[aDv,aDB ah,aDu,ab];rfl
 have ayQ:(Instr.findKey zf (ab k) (l.map qN)).run P w= .ok ((l.findIdx? (λe=>e.1==k)).bind λj=>(l[j]?).map λe=>(j,e.2.1)) w:=by
  have:=afG ze k l 0;simp[Instr.findKey,aDB ah,this]
 have ayR:∀o:Obj,e8 (bD h b o) { w with heap:=w.heap.setIfInBounds b o }:=λo x y ai=>by
  by_cases e:x=b
  .subst e;rw[eC] at ai;cases ai;have:=c.lt ar;simp[this]
  .rw[cu _ _ e] at ai;have:=c _ _ ai;simp only[aEI];rw[aDq (λcc=>e cc.symm)];exact this
 have ayS:∀o:Obj,e5 h (bD h b o) w { w with heap:=w.heap.setIfInBounds b o }:=λo=>by
  refine⟨rfl,rfl,rfl,by simp,λx ai _=>?_⟩;have e:x≠b:=λe=>by subst e;rw[ar] at ai;cases ai
  refine⟨by rw[cu _ _ e];exact ai,?_⟩;simp only[aEI];rw[aDq (λcc=>e cc.symm)]
 refine⟨_,_,eL,?_,ayR _,ayS _⟩;have stays:∀(a:aE) ,(Instr.keyThatStays (ab a) (ab k)).run P w= .ok (ab k) w∨a≠k:=λa=>by
  by_cases e:a=k
  .subst e;left;have aV:Instr.sameBits 10000 (ab a) (ab a)=true:=by simp[Instr.sameBits,ab]
   unfold Instr.keyThatStays;rw[aDr aV];rfl
  .exact .inr e
 simp only[Instr.mapUpdate,aDv,aDB gf,aDu,dd,ayP,ayQ];unfold PR;cases bc:l.findIdx? (λe=>e.1==k) with
 | none=>simp[Ev,qN]
 | some i =>
  obtain⟨hi,M8,_⟩:=List.findIdx?_eq_some_iff_getElem.1 bc;have kz:l[i]? =some l[i]:=aDx hi;have tA:l[i].1=k:=by simpa using M8
  have kB:=(stays l[i].1).resolve_right (λh=>h tA);simp only[Option.bind_some,kz,aEx];have aH:(((l.map qN).toArray[i]?).map (·.key)).getD (ab k)=ab l[i].1:=by simp[hi,qN]
  rw[aH];simp only[aDv,kB,aDu,Ev];congr 3;refine congrArg (λz=>Obj.map z clock) ?_;apply aD6.1;simp only[Array.toList_modify,List.toList_toArray];apply List.ext_getElem?;intro j;simp only[List.getElem?_modify,List.getElem?_map];by_cases aU:i=j
  .subst aU;simp[hi,qN]
  .cases l[j]?<;>simp[aU]
def yF (n:Nat)(v:Value):List Value:=List.replicate n v
def sI (P:Program)(T:TypeId)(x:ao)(h:ak)(K:ak->Prop):Prop :=
 match P.underlying T with
 | some (.slice el)=>match vr P el with
  | some z=>if z.oneCell'=true then bl (decide (x.len=0)) (K h) (∃q,x.q=some q/\aW h q (yF x.len z) K) else False
  | none=>False
 | _=>False
theorem ayT {z:Value}(bn:z.oneCell'=true)(n:Nat):(Builtin.zeroCells z.cells n).toList=yF n z:=by
 rw[axe bn];unfold Builtin.zeroCells yF;apply aEG
 .simp
 .intro i aa ad;simp[Nat.mod_one]
theorem ayU {P:Program}{T:TypeId}{h:ak}{w:World}(c:e8 h w){x:ao}{K:ak->Prop}{ats:Array TypeId}(bY:ats[0]? =some T){ty:TypeId}(ah:sI P T x h K) :
 ∃af cv,K af/\(Builtin.clear_ ats ty #[aZ x]).run P w= .ok (.tuple #[]) cv/\e8 af cv/\e5 h af w cv:=by
 unfold sI at ah;split at ah
 .rename_i el hu
  split at ah
  .rename_i z bn
   split at ah
   .rename_i aa
    by_cases h0:x.len=0
    .rw[aDA h0] at ah;refine⟨h,w,ah,?_,c,e5.refl _ _⟩;simp only[Builtin.clear_,bY,aD1,aDK,aDv,aDB hu,aDu,aZ,h0];cases x.addr<;>simp
    .rw[aDz h0] at ah;obtain⟨q,aj,ayV,t,ar,aT,eL⟩:=ah;have oN:(yF x.len z).length=x.len:=by simp[yF]
     obtain⟨cv,aQ,m1,rz⟩:=H5 (P:=P) q.b q.o (yF x.len z) 0 h w ayV t c (λv b0=>by
      unfold yF at b0;rw[List.eq_of_mem_replicate b0];exact aa) ar (by simpa using aT)
     refine⟨_,cv,eL,?_,m1,rz⟩;have e:x.addr=some ⟨q.b,q.o,none⟩:=ao.HU aj;obtain⟨n,aK⟩:∃n,x.len=n+1:=⟨x.len-1,by omega⟩;have afH:=ayT aa x.len;rw[aK] at afH aQ;simp only[Builtin.clear_,bY,aD1,aDK,aDv,aDB hu,aDu,aZ,e,aK,Br bn,afH];rw[aQ];simp
   .exact ah.elim
  .exact ah.elim
 .exact ah.elim
def iJ (P:Program)(n:Nat)(o:Op)(ty:TypeId)(e:Env)(h:ak)(K:ag->ak->Prop):Prop :=
 match o with
 | .load T a=>ie n e a λs=>match s with| .p q=>y9 P T h q λr=>K r h|_=>False
 | .store T a x=>ie n e a λs=>match s with
  | .p q=>qf n (mh P 9 T) e x λr=>if kk P T=some r.size then m6 r (aW h q (ag.cells r) λaf=>K .no af) else False
  | _=>False
 | .box el x=>qf n (mh P 9 el) e x λr=>m6 r (bg h (.cells (ag.cells r).toArray el) λb h=>K (.p ⟨b,0⟩) h)
 | .alloc el=>match vr P el with|some z=>bg h (.cells z.cells el) λb h=>K (.p ⟨b,0⟩) h|none=>False
 | .buildSlice T len cN=>xl P n e (afI P T) cN.toList λcN=>Bq P T len cN h λr h=>K (.s r) h
 | .makeSlice T l c=>ie n e l λl=>ie n e c λc=>zg l λ_ l=>zg c λ_ c=>Bs P T l c h λr h=>K (.s r) h
 | .makeMap _ none=>bg h (.map #[] 0) λb h=>K (.m (some b)) h
 | .call { callee:= .builtin .append,args,argTypes }=>r0 P n e args.toList argTypes.toList λxs=>match xs with
  | [.s x,y]=>(match argTypes[0]?,argTypes[1]? with|some T,some Bt=>if Tq P Bt=true then eI P T x y h (λr h=>K (.s r) h) else False|_,_=>False)
  | _=>False
 | .call { callee:= .builtin .copy,args,argTypes }=>r0 P n e args.toList argTypes.toList λxs=>match xs with
  | [.s x,y]=>(match argTypes[0]? with|some T=>mB P T x y h (λr h=>K (.i .i64 (r:Int)) h)|none=>False)
  | _=>False
 | .call { callee:= .builtin .clear,args,argTypes }=>r0 P n e args.toList argTypes.toList λxs=>match xs with
  | [.s x]=>(match argTypes[0]? with|some T=>sI P T x h (λh=>K (.jC []) h)|none=>False)
  | _=>False
 | .mapUpdate T m k x=>match P.underlying T with
  | some (.map zf H7)=>match P.underlying zf with
   | some (.int _)=>ie n e m λm=>ie n e k λk=>qf n (mh P 9 H7) e x λx=>match m,k with
    | .m r,.u k=>tx h r k x.val λh=>K .no h
    | _,_=>False
   | _=>False
  | _=>False
 | .call { callee:= .value f,args,argTypes }=>ie n e f λf=>r0 P n e args.toList argTypes.toList λxs=>match f with
  | .f g c=>(match u_ P g with
   | true=>o2 P g (ag.bJ xs++ag.bJ c) h λv af=>Bf (mh P 9 ty) λr=>v=r.val/\K r af
   | false=>acB P g (ag.bJ xs++ag.bJ c) h λv af=>Bf (mh P 9 ty) λr=>v=r.val/\K r af)
  | .v x=>fL P x (ag.bJ xs) h λv af=>Bf (mh P 9 ty) λr=>v=r.val/\K r af
  | _=>False
 | o=>xn P n o ty e λr=>K r h
inductive Tr (P:Program) (x:Oper) (a:Act) (w:World) (h:ak) (K:ag->ak->Prop):Prop where
 | value (r:ag) (af:ak) (cv:World) (ah:K r af) (aQ:(execOp a.eval x).run P w= .ok (.value r.val) cv) (c:e8 af cv) (g:e5 h af w cv)
 | skip (af:ak) (cv:World) (ah:K .no af) (aQ:(execOp a.eval x).run P w= .ok .skip cv) (c:e8 af cv) (g:e5 h af w cv)
 | enter (f:FuncId) (args:List Value) (aQ:(execOp a.eval x).run P w= .ok (.enter f args.toArray) w)
  (a1:Calls P f args.toArray w λe cv=>∃r af,e= .returned r.val/\K r af/\e8 af cv/\e5 h af w cv)
 | round (l:Nat) (f:FuncId) (tmps:Array Value) (assign body:Code) (aQ:(execOp a.eval x).run P w= .ok (.round l f tmps assign body) w)
  (a1:RoundIn (nZ none) 0 P l f tmps assign body w λe cv=>∃r af,e= .returned r.val/\K r af/\e8 af cv/\e5 h af w cv)
theorem Tr.wp {P:Program}{x:Oper}{a:Act}{w:World}{h:ak}{K:ag->ak->Prop}(aQ:Tr P x a w h K)(b4:Tl x.op=false){ro:Option Nat}{m:Nat}{next:Act->World->Prop}{Q:Exit->Act->World->Prop}
 (aK:∀r af cv,K r af->e8 af cv->e5 h af w cv->next (a.put x.dst r.val) cv):x.wpIn (nZ ro) m P a w next Q:=by
 refine⟨λ_ _=>trivial,?_⟩;rw[show(nZ ro).round=ro from rfl,ayD ro a x b4];cases aQ with
 | value r af cv ah aQ c g=>rw[aQ,Oper.uponIn_value];exact aK r af cv ah c g
 | skip af cv ah aQ c g=>rw[aQ,Oper.uponIn_skip];exact aK .no af cv ah c g
 | enter f args aQ a1 =>
  rw[aQ,Oper.uponIn_enter];refine⟨S6 ro,(afb a1).mono ?_⟩;rintro e cv ⟨r,af,rfl,ah,c,g⟩;exact aK r af cv ah c g
 | round l f tmps assign body aQ a1 =>
  rw[aQ,Oper.uponIn_round];refine⟨S6 ro,(ayC a1).mono ?_⟩;rintro e cv ⟨r,af,rfl,ah,c,g⟩;exact aK r af cv ah c g
theorem ax0 {P:Program}{n:Nat}{e:Env}{h:ak}{K:ag->ak->Prop}{o:Op}{T:TypeId}(ah:iJ P n o T e h K):Tl o=false:=by
 cases o<;>first|rfl|exact(show False from ah).elim
theorem afj {P:Program}{n:Nat}{e:Env}{h:ak}{K:ag->ak->Prop}{x:Oper}(ah:iJ P n x.op x.type e h K){a:Act}(g:Good n e a){w:World}(c:e8 h w) :
 Tr P x a w h K:=by
 obtain⟨dst,op,ty,pos,after,guard⟩:=x;simp only at ah;unfold iJ at ah;split at ah
 .obtain⟨s,ah,aV⟩:=kj ah;split at ah
  .rename_i q
   obtain⟨r,ah,kB,aa,ad⟩:=afe ah;refine .value r h w ah ?_ c (e5.refl _ _);simp only[execOp,aDv,aV a g,ag.val,bm,Instr.loadAt,Instr.sureAddr,aDG,aDu,aff c aa ad kB]
  .exact ah.elim
 .obtain⟨s,ah,aV⟩:=kj ah;split at ah
  .rename_i q
   obtain⟨r,ah,aQ⟩:=zd ah;split at ah
   .rename_i a1
    obtain⟨bc,ah⟩:=y0 ah;obtain⟨af,cv,ah,mg,cr,bw⟩:=ayB (P:=P) c a1 bc ah;refine .skip af cv ah ?_ cr bw;simp only[execOp,aDv,aV a g,aQ a g,ag.val,bm,Instr.storeAt,Instr.sureAddr,aDG,aDu,mg]
   .exact ah.elim
  .exact ah.elim
 .obtain⟨r,ah,aQ⟩:=zd ah;obtain⟨bc,ah⟩:=y0 ah;refine .value _ _ _ (ah _ c.fresh) ?_ (c.alloc _) (e5.alloc _ _ _);simp only[execOp,aDv,aQ a g,Instr.box,newVar,newRow,ag.Ml r bc];rfl
 .split at ah
  .rename_i z bn
   refine .value _ _ _ (ah _ c.fresh) ?_ (c.alloc _) (e5.alloc _ _ _);simp only[execOp,aDv,Instr.alloc,Br bn,aDu,newVar,newRow];rfl
  .exact ah.elim
 .rename_i T len cN
  obtain⟨r,ah,aQ⟩:=Ts _ _ ah;obtain⟨v,af,cv,ah,mg,cr,bw⟩:=ayF ah w c;refine .value (.s v) af cv ah ?_ cr bw;have:(cN.map λx=>(x.1,a.eval x.2))=(r.map λx=>(x.1,x.2.val)).toArray:=by
   apply aD6.1;simp[aQ a g]
  simp only[execOp,aDv,this,mg];rfl
 .obtain⟨l,ah,aT⟩:=kj ah;obtain⟨om,ah,tR⟩:=kj ah;obtain⟨k,i,hi,ah⟩:=H8 ah;obtain⟨h_,dO,cb,ah⟩:=H8 ah;obtain⟨v,af,cv,ah,mg,cr,bw⟩:=ayI (k:=k) (h_:=h_) ah w c;refine .value (.s v) af cv ah ?_ cr bw;simp only[execOp,aDv,aT a g,tR a g,hi,cb,mg];rfl
 .refine .value _ _ _ (ah _ c.fresh) ?_ (c.alloc _) (e5.alloc _ _ _);simp only[execOp,aDv,Instr.makeMap];rfl
 .rename_i args ats
  obtain⟨r,ah,aQ⟩:=Ex _ _ _ ah;have sG:args.map a.eval=(ag.bJ r).toArray:=by
   apply aD6.1;simp[aQ a g]
  split at ah
  .rename_i x y
   split at ah
   .rename_i T Bt gf Tt
    split at ah
    .rename_i bG
     obtain⟨v,af,cv,ah,mg,cr,bw⟩:=ayK (ty:=ty) ah w c gf Tt (ayN bG);refine .value (.s v) af cv ah ?_ cr bw;simp only[execOp,aDv,resolve,sG,aDG,aDu,invoke,builtin,ag.bJ,ag.val,mg]
    .exact ah.elim
   .exact ah.elim
  .exact ah.elim
 .rename_i args ats
  obtain⟨r,ah,aQ⟩:=Ex _ _ _ ah;have sG:args.map a.eval=(ag.bJ r).toArray:=by
   apply aD6.1;simp[aQ a g]
  split at ah
  .rename_i x y
   split at ah
   .rename_i T gf
    obtain⟨v,af,cv,ah,mg,cr,bw⟩:=ayM (ty:=ty) ah w c gf;refine .value (.i .i64 (v:Int)) af cv ah ?_ cr bw;simp only[execOp,aDv,resolve,sG,aDG,aDu,invoke,builtin,ag.bJ,ag.val,mg]
   .exact ah.elim
  .exact ah.elim
 .rename_i args ats
  obtain⟨r,ah,aQ⟩:=Ex _ _ _ ah;have sG:args.map a.eval=(ag.bJ r).toArray:=by
   apply aD6.1;simp[aQ a g]
  split at ah
  .rename_i x
   split at ah
   .rename_i T gf
    obtain⟨af,cv,ah,mg,cr,bw⟩:=ayU c gf (ty:=ty) ah;refine .value (.jC []) af cv ah ?_ cr bw;simp only[execOp,aDv,resolve,sG,aDG,aDu,invoke,builtin,ag.bJ,ag.val,mg]
   .exact ah.elim
  .exact ah.elim
 .rename_i T m k x
  split at ah
  .rename_i zf H7 hu
   split at ah
   .rename_i ze F1
    obtain⟨ow,ah,hm⟩:=kj ah;obtain⟨ayW,ah,ayX⟩:=kj ah;obtain⟨ayY,ah,ai⟩:=zd ah;split at ah
    .rename_i r h_
     obtain⟨af,cv,ah,mg,cr,bw⟩:=ayO hu F1 c ah;refine .skip af cv ah ?_ cr bw;simp only[execOp,aDv,hm a g,ayX a g,ai a g,ag.val,mg,aDu,aDG]
    .exact ah.elim
   .exact ah.elim
  .exact ah.elim
 .rename_i f args ats
  obtain⟨ayZ,ah,bc⟩:=kj ah;obtain⟨r,ah,aQ⟩:=Ex _ _ _ ah;have sG:args.map a.eval=(ag.bJ r).toArray:=by
   apply aD6.1;simp[aQ a g]
  split at ah
  .rename_i Em cap ki
   split at ah
   rotate_left
   .obtain⟨v,mg,b0⟩:=ah;obtain⟨s,rfl,eL⟩:=HY _ _ b0;refine .value s h w eL ?_ c (e5.refl _ _);simp only[execOp,aDv,resolve,sG,bc a g,ag.val,Deferred.ofValue,aDG,aDu,invoke];have e:(#[]:Array Value)++(ag.bJ r).toArray++(ag.bJ cap).toArray=(ag.bJ r++ag.bJ cap).toArray:=by simp
    rw[e,mg w]
   refine .enter Em (ag.bJ r++ag.bJ cap) ?_ ((ah.2 w c).mono ?_)
   .simp only[execOp,aDv,resolve,sG,bc a g,ag.val,Deferred.ofValue,aDG,aDu,invoke,S7 ah.1];simp
   .rintro e cv ⟨v,af,rfl,b0,cr,bw⟩;obtain⟨s,rfl,eL⟩:=HY _ _ b0;exact⟨s,af,rfl,eL,cr,bw⟩
  .rename_i x
   unfold fL at ah;split at ah
   .rename_i Em first cs
    obtain⟨rfl,ah⟩:=ah;refine .enter Em (ag.bJ r++cs.toList) ?_ ((ah.2 w c).mono ?_)
    .simp only[execOp,aDv,resolve,sG,bc a g,ag.val,Deferred.ofValue,aDG,aDu,invoke];have e:(#[]:Array Value)++(ag.bJ r).toArray++cs=(ag.bJ r++cs.toList).toArray:=by simp
     simp only[e,S7 ah.1]
    .rintro e cv ⟨v,af,rfl,b0,cr,bw⟩;obtain⟨s,rfl,eL⟩:=HY _ _ b0;exact⟨s,af,rfl,eL,cr,bw⟩
   .rename_i l first cs
    obtain⟨rfl,rfl,ah⟩:=ah;obtain⟨rc,aT,hlen,Mw⟩:=ah w c;refine .round l rc.fn _ rc.assign rc.body ?_ (Mw.mono ?_)
    .simp only[execOp,aDv,resolve,sG,bc a g,ag.val,Deferred.ofValue,aDG,aDu,invoke];have e:(#[]:Array Value)++(ag.bJ r).toArray=(ag.bJ r).toArray:=by simp
     simp only[e];exact run_yield aT (by simpa using hlen)
    .rintro e cv ⟨v,af,rfl,b0,cr,bw⟩;obtain⟨s,rfl,eL⟩:=HY _ _ b0;exact⟨s,af,rfl,eL,cr,bw⟩
   .exact ah.elim
  .exact ah.elim
 .obtain⟨r,ah,aQ⟩:=ay0 (x:=⟨dst,op,ty,pos,after,guard⟩) ah;exact .value r h w ah (aQ a g w) c (e5.refl _ _)

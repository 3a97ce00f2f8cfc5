import Derived.Test.YtegdpmgnhnccaaaGreatShUse
import Derived.ProofKit
import Derived.SizedLaws
import Derived.SliceStrings
import Derived.LaidLaws
import Derived.LaidHandle
import Derived.Stop.Joined
namespace Go.cR
open Go Go.RowKit Go.ChangeShapes Go.WideShapes Go.ChangeAt
def rq (w:World):ak:=λb=>w.heap[b]?
theorem aAm (w:World):e8 (rq w) w:=λ_ _ h=>h
theorem agb {w:World} {b o:Nat} {v:Value} (h:w.cell? ⟨b,o,none⟩=some v):bx (rq w) b o=some v:=by
 unfold World.cell? at h;unfold bx rq;simp only at h;cases e:w.heap[b]? with
 | none=>simp[e] at h
 | some e7=>cases e7<;>simp_all
theorem aAn {P:Program}{f:FuncId}{args:List Value}{w:World}(ah:o2 P f args (rq w) λv af=>v= .bool true/\bL (rq w) af) :
 Calls P f args.toArray w λe cv=>e= .returned (.bool true)/\Below w.heap.size w cv:=by
 refine(ah.2 w (aAm w)).mono ?_;rintro e cv ⟨v,af,rfl,⟨rfl,k⟩,jP,g⟩;refine⟨rfl,g.os,g.tape,g.output,g.size,λb ar=>?_⟩;have aa:rq w b=some w.heap[b]:=by simp[rq,ar]
 have ad:=jP b w.heap[b] (by rw[k b (by rw[aa];simp),aa]);rw[ad];simp[ar]
theorem agc {H:Type}{enc:TypeId×Value->H}{P:Program}(aT:laidOutB P=true){W TW:World}(ar:Below W.heap.size W TW) :
 ∀ {jz:List TypeId} {aZ:List Value} {c9:List (DataW H)} {cN:List MemPlace},(∀t∈jz,P.readableRec t=true/\t<P.types.size)->(∀p∈cN,p.block<W.heap.size) ->
  DataW.TrodAll enc P W 0 (λ_=>true) true jz aZ c9 cN->DataW.TrodAll enc P TW 0 (λb=>decide (b<W.heap.size)) true jz aZ c9 cN
 | [],[],[],_,_,_,h=>h
 | t::jz,v::aZ,d::c9,cN,bG,aP,⟨p,q,aa,ad,e⟩=>by
  subst e;exact⟨p,q,Below.trod aT (bG t (by simp)).1 (bG t (by simp)).2 aa ar (λx ai=>aP x (by simp[ai])),agc aT ar (λIU af=>bG IU (by simp[af])) (λx ai=>aP x (by simp[ai])) ad,rfl⟩
 | [],_::_,_,_,_,_,h=>by cases h
 | [],[],_::_,_,_,_,h=>by cases h
 | _::_,[],_,_,_,_,h=>by cases h
 | _::_,_::_,[],_,_,_,h=>by cases h
theorem agd {H:Type}{enc:TypeId×Value->H}{P:Program}{W:World}{base:Nat}{sp:Nat->Bool}{b4:Bool} :
 ∀ {jz:List TypeId} {aZ:List Value} {c9:List (DataW H)} {cN:List MemPlace},DataW.TrodAll enc P W base sp b4 jz aZ c9 cN->c9.length=jz.length
 | [],[],[],_,_=>rfl
 | t::jz,v::aZ,d::c9,cN,⟨p,q,_,ad,_⟩=>by simp[agd ad]
 | [],_::_,_,_,h=>by cases h
 | [],[],_::_,_,h=>by cases h
 | _::_,[],_,_,h=>by cases h
 | _::_,_::_,[],_,h=>by cases h
theorem awY {H:Type}{enc:TypeId×Value->H}{C:Checked}{os:Os}{f:FuncId}{fn:Func}{s:ChangeSpec}{tb:TypeId}
 (own:ownKnob C.prog.godebug=none) (started:os.Started) (aAo:C.prog.inits.idxOf? f=none) (aAp:C.prog.funcs[f]? =some fn)
 (witness:∃(w:World) (tape:Tape) (i:Input),w.os=os/\(w.forCall tape i).Shaped C.prog/\i.vars=[]/\Input.okWide C.prog (w.forCall tape i) .any w.heap.size f i /\
  s.pre6 enc C.prog fn [] false (w.forCall tape i).memory i.args/\({}:Assume).holds C.prog (lone (Frame.enter C.prog f i.args .normal) [] (w.forCall tape i)))
 (TX:s.vars=[]) (aAq:fn.resultTypes=#[tb]) (F3:C.prog.underlying tb=some .bool) (aT:laidOutB C.prog=true)
 (aAr:(fn.params.toList.all λt=>C.prog.readableRec t&&decide (t<C.prog.types.size))=true)
 (aAs:∀c9:List (DataW H),c9.length=fn.params.toList.length->s.fn H c9={ results:=[.lit (.bool true)],args:=c9 })
 (law:∀(W:World) (base:Nat) (args:List Value) (c9:List (DataW H)) (p:List MemPlace),
  (∀(j:Nat) t v,fn.params.toList[j]? =some t->args[j]? =some v->Value.okWide C.prog W .any base t v) ->
  DataW.TrodAll enc C.prog W 0 (λ_=>true) true fn.params.toList args c9 p ->
  (DataW.weightsEach C.prog fn.params.toList c9).all (·<=reachBytes)=true ->
  o2 C.prog f args (rq W) λv af=>v= .bool true/\bL (rq W) af) :
 ReturnsInHanded {} C os f .any (s.pre6 enc C.prog fn [] false) (s.post enc C.prog fn false true false false):=by
 refine returnsInHanded_of_change_sized own started aAo aAp witness ?_;intro W base args c9 gs before nm vX _ oN _;have age:=vX;obtain⟨p,q,tt,jA,rfl,aDd,_⟩:=vX;rw[TX] at jA;obtain⟨rfl,rfl⟩:=trodVars_none jA;have aAt:s.plain.varTypes C.prog=[]:=by
  have:s.plain.vars=[]:=TX;simp[DataSpec.varTypes,this]
 rw[aAt,aD5,aD5] at oN;have hlen:=agd tt;have cl:∀x∈p++[],x.block<W.heap.size:=λx ai=>age.lt x ai;have a1:=law W base args.toList c9 p (λj t v aa ad=>nm j t v (by simpa using aa) (by simpa using ad)) tt oN;refine(aAn (by simpa using a1)).mono ?_;rintro e TW ⟨rfl,ar⟩;have iL:s.fn H (c9++[])={ results:=[.lit (.bool true)],args:=c9 }:=by rw[aD5];exact aAs c9 hlen
 have oP:∀t∈fn.params.toList,C.prog.readableRec t=true/\t<C.prog.types.size:=λt bG=>by
  have:=aE8.1 aAr t bG;simpa using this
 have aAu:=agc aT ar oP (λx ai=>cl x (by simp[ai])) tt;refine⟨_,rfl,c9,[],p++[],[],p,[],age,?_,?_,?_,?_,?_⟩
 .rw[iL,aAq];exact trodAll_mk1 ⟨1,by simp[DataW.trod,Value.cells,F3]⟩
 .rw[iL];exact aAu
 .rw[TX,iL];rfl
 .exact ar.frame _
 .intro h;cases h
section
variable {H:Type} {enc:TypeId×Value->H} {P:Program} {W:World} {base:Nat}
theorem aeL {t:TypeId}{k:IntKind}{v:Value}{d:DataW H}{cN:List MemPlace}(bG:P.underlying t=some (.int k))(nm:Value.okWide P W .any base t v)(b4:DataW.Trod enc P W 0 (λ_=>true) true t v d cN) :
 ∃n,v= .int k n/\(Lit.int k n).wf=true:=by
 obtain⟨n,aa,_,_,ad⟩:=open_int bG nm b4;exact⟨n,aa,ad⟩
theorem aw0 {t:TypeId}{v:Value}{d:DataW H}{cN:List MemPlace}(bG:P.underlying t=some (.int .i64))(nm:Value.okWide P W .any base t v)(b4:DataW.Trod enc P W 0 (λ_=>true) true t v d cN) :
 ∃n:Int,v= .int .i64 n/\-9223372036854775808<=n/\n<=9223372036854775807:=by
 obtain⟨n,aa,ad⟩:=aeL bG nm b4;refine⟨n,aa,?_⟩;simp[Lit.wf,IntKind.min,IntKind.max,IntKind.signed,IntKind.bits] at ad;omega
theorem aAv {t e:TypeId}{k:IntKind}{v:Value}{d:DataW H}{cN:List MemPlace}(bG:P.underlying t=some (.slice e))(he:P.underlying e=some (.int k))(a1:P.cellsOf e=1)
 (nm:Value.okWide P W .any base t v) (b4:DataW.Trod enc P W 0 (λ_=>true) true t v d cN) :
 ∃(s:ao) (l:List Int),v=aZ s/\e4 (Value.int k) (rq W) s l/\(∀n∈l,(Lit.int k n).wf=true)/\((d= .nil/\l=[])∨∃el sp,d= .slice el sp/\el.length=l.length):=by
 obtain⟨a,len,cap,rfl⟩:=okWide_slice bG nm;obtain⟨fuel,bc⟩:=b4;rcases open_ints bG he a1 bc with ⟨vA,ai⟩|⟨eh,TU,TV,agf,vA,_,aT,hm,bn,ai,bx,hw⟩
 .have aH:Value.slice a len cap= .slice none 0 0:=by simpa [Value.cells] using vA
  cases aH;cases ai;exact⟨⟨none,0,0,none⟩,[],rfl,e4.gy _ _,by simp,.inl ⟨rfl,rfl⟩⟩
 .have aH:Value.slice a len cap= .slice (some eh) TU TV:=by simpa [Value.cells] using vA
  cases aH;cases ai;simp only[aEv] at bn;refine⟨⟨some ⟨eh.block,eh.off⟩,len,cap,eh.spot⟩,agf.take len,rfl,⟨by simp;omega,aT,?_,?_⟩,λn aK=>hw n (List.mem_of_mem_take aK),.inr ⟨_,_,rfl,by simp[lits]⟩⟩
  .intro aj
   by_cases h0:cap=0
   .exact h0
   .have:eh.spot=none:=by
     have:=World.cell?_spot (bx 0 (by omega));simpa [Addr.add] using this
    rw[this] at aj;cases aj
  .intro q aj i hi
   have cb:i<agf.length/\i<len:=by simp at hi;omega
   have iL:eh.spot=none:=by
    have:=World.cell?_spot (bx 0 (by omega));simpa [Addr.add] using this
   rw[iL] at aj;cases aj;have aa:=bx i cb.1;have e:eh.add i=⟨eh.block,eh.off+i,none⟩:=by
    obtain⟨b,o,z⟩:=eh;simp only at iL;subst iL;unfold Addr.add;split
    .rename_i h;subst h;rfl
    .rfl
   rw[e] at aa;have:=agb aa;simp only[List.getElem_take];rw[this];simp[List.getD,cb.1]
theorem e4.map {α β:Type}{f:α->Value}{g:β->Value}{h:ak}{s:ao}{l:List α}(r:e4 f h s l)(m:α->β)(hm:∀x∈l,g (m x)=f x):e4 g h s (l.map m) :=
 ⟨by simp[r.len],r.cap,r.nil,λq aj i hi=>by
  have cb:i<l.length:=by simpa using hi
  rw[r.rd q aj i cb];simp[hm _ (aDR cb)]⟩
theorem aw1 {t e:TypeId}{v:Value}{d:DataW H}{cN:List MemPlace}(bG:P.underlying t=some (.slice e))(he:P.underlying e=some (.int .u64))(a1:P.cellsOf e=1)
 (nm:Value.okWide P W .any base t v) (b4:DataW.Trod enc P W 0 (λ_=>true) true t v d cN) :
 ∃(s:ao) (l:List aE),v=aZ s/\e4 ab (rq W) s l/\((d= .nil/\l=[])∨∃el sp,d= .slice el sp/\el.length=l.length):=by
 obtain⟨s,l,rfl,r,hw,pY⟩:=aAv bG he a1 nm b4;refine⟨s,l.map λn=>UInt64.ofNat n.toNat,rfl,r.map _ λn aK=>?_,?_⟩
 .have:=hw n aK;simp[Lit.wf,IntKind.min,IntKind.max,IntKind.signed,IntKind.bits] at this;unfold ab;congr 1;rw[aDw];omega
 .rcases pY with ⟨aa,rfl⟩|⟨el,sp,aa,ad⟩
  .exact .inl ⟨aa,rfl⟩
  .exact .inr ⟨el,sp,aa,by simpa using ad⟩
theorem aeQ {jz:List TypeId}{c9:List (DataW H)}{j:Nat}{t e:TypeId}{d:DataW H}{n by_:Nat}(oN:(DataW.weightsEach P jz c9).all (·<=reachBytes)=true)(bG:jz[j]? =some t)(hu:P.underlying t=some (.slice e))(ar:P.bytesOf e=by_)
 (aU:c9[j]? =some d) (b4:(d= .nil/\n=0)∨∃el sp,d= .slice el sp/\el.length=n):n*by_<=140737488355328:=by
 rcases b4 with ⟨_,rfl⟩|⟨el,sp,rfl,rfl⟩
 .simp
 .have:=sized_slice oN bG aU hu;rw[ar] at this;have ad:=reachBytes_lt;have an:el.length*by_<=(el.length+sp.length)*by_:=aEm _ (by omega);have aJ:(2:Nat) ^ 47=140737488355328:=by decide
  omega
end

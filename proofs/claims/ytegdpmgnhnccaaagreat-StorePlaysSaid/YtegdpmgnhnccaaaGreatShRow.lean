import Derived.Test.YtegdpmgnhnccaaaGreatShUse
import Derived.ProofKit
import Derived.SizedLaws
import Derived.SliceStrings
import Derived.LaidLaws
import Derived.LaidHandle
import Derived.Stop.Joined
namespace Go.cQ
open Go Go.RowKit Go.ChangeShapes Go.WideShapes Go.ChangeAt
def pM (w:World):ai:=λb=>w.heap[b]?
theorem aqe (w:World):dU (pM w) w:=λ_ _ h=>h
theorem Y0 {w:World} {b o:Nat} {v:Value} (h:w.cell? ⟨b,o,none⟩=some v):bR (pM w) b o=some v:=by
 unfold World.cell? at h;unfold bR pM;simp only at h;cases e:w.heap[b]? with
 | none=>simp[e] at h
 | some fJ=>cases fJ<;>simp_all
theorem aqf {P:Program}{f:FuncId}{args:List Value}{w:World}(ab:mY P f args (pM w) λv ag=>v= .bool true/\bB (pM w) ag) :
 Calls P f args.toArray w λe bX=>e= .returned (.bool true)/\Below w.heap.size w bX:=by
 refine(ab.2 w (aqe w)).mono ?_;rintro e bX ⟨v,ag,rfl,⟨rfl,k⟩,hs,g⟩;refine⟨rfl,g.os,g.tape,g.output,g.size,λb au=>?_⟩;have aa:pM w b=some w.heap[b]:=by simp[pM,au]
 have ad:=hs b w.heap[b] (by rw[k b (by rw[aa];simp),aa]);rw[ad];simp[au]
theorem Y2 {H:Type}{enc:TypeId×Value->H}{P:Program}(aO:laidOutB P=true){W NY:World}(au:Below W.heap.size W NY) :
 ∀ {h1:List TypeId} {aU:List Value} {cG:List (DataW H)} {cc:List MemPlace},(∀t∈h1,P.readableRec t=true/\t<P.types.size)->(∀p∈cc,p.block<W.heap.size) ->
  DataW.TrodAll enc P W 0 (λ_=>true) true h1 aU cG cc->DataW.TrodAll enc P NY 0 (λb=>decide (b<W.heap.size)) true h1 aU cG cc
 | [],[],[],_,_,_,h=>h
 | t::h1,v::aU,d::cG,cc,bz,aM,⟨p,q,aa,ad,e⟩=>by
  subst e;exact⟨p,q,Below.trod aO (bz t (by simp)).1 (bz t (by simp)).2 aa au (λx af=>aM x (by simp[af])),Y2 aO au (λJ4 ag=>bz J4 (by simp[ag])) (λx af=>aM x (by simp[af])) ad,rfl⟩
 | [],_::_,_,_,_,_,h=>by cases h
 | [],[],_::_,_,_,_,h=>by cases h
 | _::_,[],_,_,_,_,h=>by cases h
 | _::_,_::_,[],_,_,_,h=>by cases h
theorem Y3 {H:Type}{enc:TypeId×Value->H}{P:Program}{W:World}{base:Nat}{sp:Nat->Bool}{bK:Bool} :
 ∀ {h1:List TypeId} {aU:List Value} {cG:List (DataW H)} {cc:List MemPlace},DataW.TrodAll enc P W base sp bK h1 aU cG cc->cG.length=h1.length
 | [],[],[],_,_=>rfl
 | t::h1,v::aU,d::cG,cc,⟨p,q,_,ad,_⟩=>by simp[Y3 ad]
 | [],_::_,_,_,h=>by cases h
 | [],[],_::_,_,h=>by cases h
 | _::_,[],_,_,h=>by cases h
 | _::_,_::_,[],_,h=>by cases h
theorem amE {H:Type}{enc:TypeId×Value->H}{C:Checked}{os:Os}{f:FuncId}{fn:Func}{s:ChangeSpec}{tb:TypeId}
 (own:ownKnob C.prog.godebug=none) (started:os.Started) (aqg:C.prog.inits.idxOf? f=none) (aqh:C.prog.funcs[f]? =some fn)
 (witness:∃(w:World) (tape:Tape) (i:Input),w.os=os/\(w.forCall tape i).Shaped C.prog/\i.vars=[]/\Input.okWide C.prog (w.forCall tape i) .any w.heap.size f i /\
  s.pre6 enc C.prog fn [] false (w.forCall tape i).memory i.args/\({}:Assume).holds C.prog (lone (Frame.enter C.prog f i.args .normal) [] (w.forCall tape i)))
 (NZ:s.vars=[]) (aqi:fn.resultTypes=#[tb]) (EJ:C.prog.underlying tb=some .bool) (aO:laidOutB C.prog=true)
 (aqj:(fn.params.toList.all λt=>C.prog.readableRec t&&decide (t<C.prog.types.size))=true)
 (aqk:∀cG:List (DataW H),cG.length=fn.params.toList.length->s.fn H cG={ results:=[.lit (.bool true)],args:=cG })
 (law:∀(W:World) (base:Nat) (args:List Value) (cG:List (DataW H)) (p:List MemPlace),
  (∀(j:Nat) t v,fn.params.toList[j]? =some t->args[j]? =some v->Value.okWide C.prog W .any base t v) ->
  DataW.TrodAll enc C.prog W 0 (λ_=>true) true fn.params.toList args cG p ->
  (DataW.weightsEach C.prog fn.params.toList cG).all (·<=reachBytes)=true ->
  mY C.prog f args (pM W) λv ag=>v= .bool true/\bB (pM W) ag) :
 ReturnsInHanded {} C os f .any (s.pre6 enc C.prog fn [] false) (s.post enc C.prog fn false true false false):=by
 refine returnsInHanded_of_change_sized own started aqg aqh witness ?_;intro W base args cG gs before lC s8 _ mx _;have Y4:=s8;obtain⟨p,q,sw,h3,rfl,asT,_⟩:=s8;rw[NZ] at h3;obtain⟨rfl,rfl⟩:=trodVars_none h3;have aql:s.plain.varTypes C.prog=[]:=by
  have:s.plain.vars=[]:=NZ;simp[DataSpec.varTypes,this]
 rw[aql,atU,atU] at mx;have hlen:=Y3 sw;have b1:∀x∈p++[],x.block<W.heap.size:=λx af=>Y4.lt x af;have aT:=law W base args.toList cG p (λj t v aa ad=>lC j t v (by simpa using aa) (by simpa using ad)) sw mx;refine(aqf (by simpa using aT)).mono ?_;rintro e NY ⟨rfl,au⟩;have k4:s.fn H (cG++[])={ results:=[.lit (.bool true)],args:=cG }:=by rw[atU];exact aqk cG hlen
 have mA:∀t∈fn.params.toList,C.prog.readableRec t=true/\t<C.prog.types.size:=λt bz=>by
  have:=auH.1 aqj t bz;simpa using this
 have aqm:=Y2 aO au mA (λx af=>b1 x (by simp[af])) sw;refine⟨_,rfl,cG,[],p++[],[],p,[],Y4,?_,?_,?_,?_,?_⟩
 .rw[k4,aqi];exact trodAll_mk1 ⟨1,by simp[DataW.trod,Value.cells,EJ]⟩
 .rw[k4];exact aqm
 .rw[NZ,k4];rfl
 .exact au.frame _
 .intro h;cases h
section
variable {H:Type} {enc:TypeId×Value->H} {P:Program} {W:World} {base:Nat}
theorem Xv {t:TypeId}{k:IntKind}{v:Value}{d:DataW H}{cc:List MemPlace}(bz:P.underlying t=some (.int k))(lC:Value.okWide P W .any base t v)(bK:DataW.Trod enc P W 0 (λ_=>true) true t v d cc) :
 ∃n,v= .int k n/\(Lit.int k n).wf=true:=by
 obtain⟨n,aa,_,_,ad⟩:=open_int bz lC bK;exact⟨n,aa,ad⟩
theorem amG {t:TypeId}{v:Value}{d:DataW H}{cc:List MemPlace}(bz:P.underlying t=some (.int .i64))(lC:Value.okWide P W .any base t v)(bK:DataW.Trod enc P W 0 (λ_=>true) true t v d cc) :
 ∃n:Int,v= .int .i64 n/\-9223372036854775808<=n/\n<=9223372036854775807:=by
 obtain⟨n,aa,ad⟩:=Xv bz lC bK;refine⟨n,aa,?_⟩;simp[Lit.wf,IntKind.min,IntKind.max,IntKind.signed,IntKind.bits] at ad;omega
theorem aqn {t e:TypeId}{k:IntKind}{v:Value}{d:DataW H}{cc:List MemPlace}(bz:P.underlying t=some (.slice e))(he:P.underlying e=some (.int k))(aT:P.cellsOf e=1)
 (lC:Value.okWide P W .any base t v) (bK:DataW.Trod enc P W 0 (λ_=>true) true t v d cc) :
 ∃(s:an) (l:List Int),v=aU s/\ey (Value.int k) (pM W) s l/\(∀n∈l,(Lit.int k n).wf=true)/\((d= .nil/\l=[])∨∃el sp,d= .slice el sp/\el.length=l.length):=by
 obtain⟨a,len,cap,rfl⟩:=okWide_slice bz lC;obtain⟨fuel,bf⟩:=bK;rcases open_ints bz he aT bf with ⟨sP,af⟩|⟨dq,NW,NX,Y5,sP,_,aO,hm,bt,af,bR,hw⟩
 .have aC:Value.slice a len cap= .slice none 0 0:=by simpa [Value.cells] using sP
  cases aC;cases af;exact⟨⟨none,0,0,none⟩,[],rfl,ey.e9 _ _,by simp,.inl ⟨rfl,rfl⟩⟩
 .have aC:Value.slice a len cap= .slice (some dq) NW NX:=by simpa [Value.cells] using sP
  cases aC;cases af;simp only[at2] at bt;refine⟨⟨some ⟨dq.block,dq.off⟩,len,cap,dq.spot⟩,Y5.take len,rfl,⟨by simp;omega,aO,?_,?_⟩,λn aH=>hw n (List.mem_of_mem_take aH),.inr ⟨_,_,rfl,by simp[lits]⟩⟩
  .intro ah
   by_cases h0:cap=0
   .exact h0
   .have:dq.spot=none:=by
     have:=World.cell?_spot (bR 0 (by omega));simpa [Addr.add] using this
    rw[this] at ah;cases ah
  .intro q ah i hi
   have bN:i<Y5.length/\i<len:=by simp at hi;omega
   have k4:dq.spot=none:=by
    have:=World.cell?_spot (bR 0 (by omega));simpa [Addr.add] using this
   rw[k4] at ah;cases ah;have aa:=bR i bN.1;have e:dq.add i=⟨dq.block,dq.off+i,none⟩:=by
    obtain⟨b,o,z⟩:=dq;simp only at k4;subst k4;unfold Addr.add;split
    .rename_i h;subst h;rfl
    .rfl
   rw[e] at aa;have:=Y0 aa;simp only[List.getElem_take];rw[this];simp[List.getD,bN.1]
theorem ey.map {α β:Type}{f:α->Value}{g:β->Value}{h:ai}{s:an}{l:List α}(r:ey f h s l)(m:α->β)(hm:∀x∈l,g (m x)=f x):ey g h s (l.map m) :=
 ⟨by simp[r.len],r.cap,r.nil,λq ah i hi=>by
  have bN:i<l.length:=by simpa using hi
  rw[r.rd q ah i bN];simp[hm _ (aty bN)]⟩
theorem amH {t e:TypeId}{v:Value}{d:DataW H}{cc:List MemPlace}(bz:P.underlying t=some (.slice e))(he:P.underlying e=some (.int .u64))(aT:P.cellsOf e=1)
 (lC:Value.okWide P W .any base t v) (bK:DataW.Trod enc P W 0 (λ_=>true) true t v d cc) :
 ∃(s:an) (l:List a8),v=aU s/\ey ak (pM W) s l/\((d= .nil/\l=[])∨∃el sp,d= .slice el sp/\el.length=l.length):=by
 obtain⟨s,l,rfl,r,hw,nE⟩:=aqn bz he aT lC bK;refine⟨s,l.map λn=>UInt64.ofNat n.toNat,rfl,r.map _ λn aH=>?_,?_⟩
 .have:=hw n aH;simp[Lit.wf,IntKind.min,IntKind.max,IntKind.signed,IntKind.bits] at this;unfold ak;congr 1;rw[ate];omega
 .rcases nE with ⟨aa,rfl⟩|⟨el,sp,aa,ad⟩
  .exact .inl ⟨aa,rfl⟩
  .exact .inr ⟨el,sp,aa,by simpa using ad⟩
theorem XA {h1:List TypeId}{cG:List (DataW H)}{j:Nat}{t e:TypeId}{d:DataW H}{n by_:Nat}(mx:(DataW.weightsEach P h1 cG).all (·<=reachBytes)=true)(bz:h1[j]? =some t)(hu:P.underlying t=some (.slice e))(au:P.bytesOf e=by_)
 (aL:cG[j]? =some d) (bK:(d= .nil/\n=0)∨∃el sp,d= .slice el sp/\el.length=n):n*by_<=140737488355328:=by
 rcases bK with ⟨_,rfl⟩|⟨el,sp,rfl,rfl⟩
 .simp
 .have:=sized_slice mx bz aL hu;rw[au] at this;have ad:=reachBytes_lt;have aq:el.length*by_<=(el.length+sp.length)*by_:=aug _ (by omega);have aJ:(2:Nat) ^ 47=140737488355328:=by decide
  omega
end

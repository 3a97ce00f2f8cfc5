import Derived.Test.YtofgadhgljjhgaaGreatShUse
import Derived.ProofKit
import Derived.SizedLaws
import Derived.SliceStrings
import Derived.LaidLaws
import Derived.LaidHandle
import Derived.Stop.Joined
namespace Go.cD
open Go Go.RowKit Go.ChangeShapes Go.WideShapes Go.ChangeAt
def qD (w:World):ak:=λb=>w.heap[b]?
theorem axs (w:World):eQ (qD w) w:=λ_ _ h=>h
theorem adX {w:World} {b o:Nat} {v:Value} (h:w.cell? ⟨b,o,none⟩=some v):br (qD w) b o=some v:=by
 unfold World.cell? at h
 unfold br qD
 simp only at h
 cases e:w.heap[b]? with
 | none=>simp[e] at h
 | some e3=>cases e3<;>simp_all
theorem axt {P:Program}{f:FuncId}{args:List Value}{w:World}(ag:oq P f args (qD w) λv ah=>v= .bool true/\bL (qD w) ah) :
 Calls P f args.toArray w λe cg=>e= .returned (.bool true)/\Below w.heap.size w cg:=by
 refine(ag.2 w (axs w)).mono ?_
 rintro e cg ⟨v,ah,rfl,⟨rfl,k⟩,jg,g⟩
 refine⟨rfl,g.os,g.tape,g.output,g.size,λb au=>?_⟩
 have aa:qD w b=some w.heap[b]:=by simp[qD,au]
 have ad:=jg b w.heap[b] (by rw[k b (by rw[aa];simp),aa])
 rw[ad];simp[au]
theorem adY {H:Type}{enc:TypeId×Value->H}{P:Program}(aT:laidOutB P=true){W Sa:World}(au:Below W.heap.size W Sa) :
 ∀ {iY:List TypeId} {bb:List Value} {cY:List (DataW H)} {cx:List MemPlace},(∀t∈iY,P.readableRec t=true/\t<P.types.size)->(∀p∈cx,p.block<W.heap.size) ->
  DataW.TrodAll enc P W 0 (λ_=>true) true iY bb cY cx->DataW.TrodAll enc P Sa 0 (λb=>decide (b<W.heap.size)) true iY bb cY cx
 | [],[],[],_,_,_,h=>h
 | t::iY,v::bb,d::cY,cx,bw,aS,⟨p,q,aa,ad,e⟩=>by
  subst e
  exact⟨p,q,Below.trod aT (bw t (by simp)).1 (bw t (by simp)).2 aa au (λx ai=>aS x (by simp[ai])),adY aT au (λHB ah=>bw HB (by simp[ah])) (λx ai=>aS x (by simp[ai])) ad,rfl⟩
 | [],_::_,_,_,_,_,h=>by cases h
 | [],[],_::_,_,_,_,h=>by cases h
 | _::_,[],_,_,_,_,h=>by cases h
 | _::_,_::_,[],_,_,_,h=>by cases h
theorem adZ {H:Type}{enc:TypeId×Value->H}{P:Program}{W:World}{base:Nat}{sp:Nat->Bool}{bV:Bool} :
 ∀ {iY:List TypeId} {bb:List Value} {cY:List (DataW H)} {cx:List MemPlace},DataW.TrodAll enc P W base sp bV iY bb cY cx->cY.length=iY.length
 | [],[],[],_,_=>rfl
 | t::iY,v::bb,d::cY,cx,⟨p,q,_,ad,_⟩=>by simp[adZ ad]
 | [],_::_,_,_,h=>by cases h
 | [],[],_::_,_,h=>by cases h
 | _::_,[],_,_,h=>by cases h
 | _::_,_::_,[],_,h=>by cases h
theorem at1 {H:Type}{enc:TypeId×Value->H}{C:Checked}{os:Os}{f:FuncId}{fn:Func}{s:ChangeSpec}{tb:TypeId}
 (own:ownKnob C.prog.godebug=none) (started:os.Started) (axu:C.prog.inits.idxOf? f=none) (axv:C.prog.funcs[f]? =some fn)
 (witness:∃(w:World) (tape:Tape) (i:Input),w.os=os/\(w.forCall tape i).Shaped C.prog/\i.vars=[]/\Input.okWide C.prog (w.forCall tape i) .any w.heap.size f i /\
  s.pre6 enc C.prog fn [] false (w.forCall tape i).memory i.args/\({}:Assume).holds C.prog (lone (Frame.enter C.prog f i.args .normal) [] (w.forCall tape i)))
 (Sb:s.vars=[]) (axw:fn.resultTypes=#[tb]) (IH:C.prog.underlying tb=some .bool) (aT:laidOutB C.prog=true)
 (axx:(fn.params.toList.all λt=>C.prog.readableRec t&&decide (t<C.prog.types.size))=true)
 (axy:∀cY:List (DataW H),cY.length=fn.params.toList.length->s.fn H cY={ results:=[.lit (.bool true)],args:=cY })
 (law:∀(W:World) (base:Nat) (args:List Value) (cY:List (DataW H)) (p:List MemPlace),
  (∀(j:Nat) t v,fn.params.toList[j]? =some t->args[j]? =some v->Value.okWide C.prog W .any base t v) ->
  DataW.TrodAll enc C.prog W 0 (λ_=>true) true fn.params.toList args cY p ->
  (DataW.weightsEach C.prog fn.params.toList cY).all (·<=reachBytes)=true ->
  oq C.prog f args (qD W) λv ah=>v= .bool true/\bL (qD W) ah) :
 ReturnsInHanded {} C os f .any (s.pre6 enc C.prog fn [] false) (s.post enc C.prog fn false true false false):=by
 refine returnsInHanded_of_change_sized own started axu axv witness ?_
 intro W base args cY gs before mP uY _ n2 _
 have ad0:=uY
 obtain⟨p,q,sH,iZ,rfl,az5,_⟩:=uY
 rw[Sb] at iZ
 obtain⟨rfl,rfl⟩:=trodVars_none iZ
 have axz:s.plain.varTypes C.prog=[]:=by
  have:s.plain.vars=[]:=Sb
  simp[DataSpec.varTypes,this]
 rw[axz,List.append_nil,List.append_nil] at n2
 have hlen:=adZ sH
 have ca:∀x∈p++[],x.block<W.heap.size:=λx ai=>ad0.lt x ai
 have aZ:=law W base args.toList cY p (λj t v aa ad=>mP j t v (by simpa using aa) (by simpa using ad)) sH n2
 refine(axt (by simpa using aZ)).mono ?_
 rintro e Sa ⟨rfl,au⟩
 have ix:s.fn H (cY++[])={ results:=[.lit (.bool true)],args:=cY }:=by rw[List.append_nil];exact axy cY hlen
 have n5:∀t∈fn.params.toList,C.prog.readableRec t=true/\t<C.prog.types.size:=λt bw=>by
  have:=List.all_eq_true.1 axx t bw
  simpa using this
 have axA:=adY aT au n5 (λx ai=>ca x (by simp[ai])) sH
 refine⟨_,rfl,cY,[],p++[],[],p,[],ad0,?_,?_,?_,?_,?_⟩
 .rw[ix,axw]
  exact trodAll_mk1 ⟨1,by simp[DataW.trod,Value.cells,IH]⟩
 .rw[ix];exact axA
 .rw[Sb,ix];rfl
 .exact au.frame _
 .intro h;cases h
section
variable {H:Type} {enc:TypeId×Value->H} {P:Program} {W:World} {base:Nat}
theorem acs {t:TypeId}{k:IntKind}{v:Value}{d:DataW H}{cx:List MemPlace}(bw:P.underlying t=some (.int k))(mP:Value.okWide P W .any base t v)(bV:DataW.Trod enc P W 0 (λ_=>true) true t v d cx) :
 ∃n,v= .int k n/\(Lit.int k n).wf=true:=by
 obtain⟨n,aa,_,_,ad⟩:=open_int bw mP bV
 exact⟨n,aa,ad⟩
theorem at3 {t:TypeId}{v:Value}{d:DataW H}{cx:List MemPlace}(bw:P.underlying t=some (.int .i64))(mP:Value.okWide P W .any base t v)(bV:DataW.Trod enc P W 0 (λ_=>true) true t v d cx) :
 ∃n:Int,v= .int .i64 n/\-9223372036854775808<=n/\n<=9223372036854775807:=by
 obtain⟨n,aa,ad⟩:=acs bw mP bV
 refine⟨n,aa,?_⟩
 simp[Lit.wf,IntKind.min,IntKind.max,IntKind.signed,IntKind.bits] at ad
 omega
theorem axB {t e:TypeId}{k:IntKind}{v:Value}{d:DataW H}{cx:List MemPlace}(bw:P.underlying t=some (.slice e))(he:P.underlying e=some (.int k))(aZ:P.cellsOf e=1)
 (mP:Value.okWide P W .any base t v) (bV:DataW.Trod enc P W 0 (λ_=>true) true t v d cx) :
 ∃(s:ar) (l:List Int),v=bb s/\fi (Value.int k) (qD W) s l/\(∀n∈l,(Lit.int k n).wf=true)/\((d= .nil/\l=[])∨∃el sp,d= .slice el sp/\el.length=l.length):=by
 obtain⟨a,len,cap,rfl⟩:=okWide_slice bw mP
 obtain⟨fuel,a_⟩:=bV
 rcases open_ints bw he aZ a_ with ⟨uF,ai⟩|⟨dT,R9,R_,ad1,uF,_,aT,hm,bc,ai,br,hw⟩
 .have aF:Value.slice a len cap= .slice none 0 0:=by simpa [Value.cells] using uF
  cases aF
  cases ai
  exact⟨⟨none,0,0,none⟩,[],rfl,fi.gD _ _,by simp,.inl ⟨rfl,rfl⟩⟩
 .have aF:Value.slice a len cap= .slice (some dT) R9 R_:=by simpa [Value.cells] using uF
  cases aF
  cases ai
  simp only[if_true] at bc
  refine⟨⟨some ⟨dT.block,dT.off⟩,len,cap,dT.spot⟩,ad1.take len,rfl,⟨by simp;omega,aT,?_,?_⟩,λn aH=>hw n (List.mem_of_mem_take aH),.inr ⟨_,_,rfl,by simp[lits]⟩⟩
  .intro aj
   by_cases h0:cap=0
   .exact h0
   .have:dT.spot=none:=by
     have:=World.cell?_spot (br 0 (by omega))
     simpa [Addr.add] using this
    rw[this] at aj;cases aj
  .intro q aj i hi
   have b5:i<ad1.length/\i<len:=by simp at hi;omega
   have ix:dT.spot=none:=by
    have:=World.cell?_spot (br 0 (by omega))
    simpa [Addr.add] using this
   rw[ix] at aj
   cases aj
   have aa:=br i b5.1
   have e:dT.add i=⟨dT.block,dT.off+i,none⟩:=by
    obtain⟨b,o,z⟩:=dT
    simp only at ix;subst ix
    unfold Addr.add;split
    .rename_i h;subst h;rfl
    .rfl
   rw[e] at aa
   have:=adX aa
   simp only[List.getElem_take]
   rw[this]
   simp[List.getD,b5.1]
theorem fi.map {α β:Type}{f:α->Value}{g:β->Value}{h:ak}{s:ar}{l:List α}(r:fi f h s l)(m:α->β)(hm:∀x∈l,g (m x)=f x):fi g h s (l.map m) :=
 ⟨by simp[r.len],r.cap,r.nil,λq aj i hi=>by
  have b5:i<l.length:=by simpa using hi
  rw[r.rd q aj i b5];simp[hm _ (List.getElem_mem b5)]⟩
theorem at4 {t e:TypeId}{v:Value}{d:DataW H}{cx:List MemPlace}(bw:P.underlying t=some (.slice e))(he:P.underlying e=some (.int .u64))(aZ:P.cellsOf e=1)
 (mP:Value.okWide P W .any base t v) (bV:DataW.Trod enc P W 0 (λ_=>true) true t v d cx) :
 ∃(s:ar) (l:List UInt64),v=bb s/\fi ab (qD W) s l/\((d= .nil/\l=[])∨∃el sp,d= .slice el sp/\el.length=l.length):=by
 obtain⟨s,l,rfl,r,hw,pf⟩:=axB bw he aZ mP bV
 refine⟨s,l.map λn=>UInt64.ofNat n.toNat,rfl,r.map _ λn aH=>?_,?_⟩
 .have:=hw n aH
  simp[Lit.wf,IntKind.min,IntKind.max,IntKind.signed,IntKind.bits] at this
  unfold ab
  congr 1
  rw[UInt64.toNat_ofNat']
  omega
 .rcases pf with ⟨aa,rfl⟩|⟨el,sp,aa,ad⟩
  .exact .inl ⟨aa,rfl⟩
  .exact .inr ⟨el,sp,aa,by simpa using ad⟩
theorem acy {iY:List TypeId}{cY:List (DataW H)}{j:Nat}{t e:TypeId}{d:DataW H}{n by_:Nat}(n2:(DataW.weightsEach P iY cY).all (·<=reachBytes)=true)(bw:iY[j]? =some t)(hu:P.underlying t=some (.slice e))(au:P.bytesOf e=by_)
 (aV:cY[j]? =some d) (bV:(d= .nil/\n=0)∨∃el sp,d= .slice el sp/\el.length=n):n*by_<=140737488355328:=by
 rcases bV with ⟨_,rfl⟩|⟨el,sp,rfl,rfl⟩
 .simp
 .have:=sized_slice n2 bw aV hu
  rw[au] at this
  have ad:=reachBytes_lt
  have an:el.length*by_<=(el.length+sp.length)*by_:=Nat.mul_le_mul_right _ (by omega)
  have aK:(2:Nat) ^ 47=140737488355328:=by decide
  omega
end

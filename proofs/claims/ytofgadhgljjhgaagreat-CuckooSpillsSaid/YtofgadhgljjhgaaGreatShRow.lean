/- A law's row out of what its function comes to: each argument opened, all of it shut again. -/
import Derived.Test.YtofgadhgljjhgaaGreatShUse
import Derived.ProofKit
import Derived.SizedLaws
import Derived.SliceStrings
import Derived.LaidLaws
import Derived.LaidHandle
import Derived.Stop.Joined
namespace Go.Sh
open Go Go.RowKit Go.ChangeShapes Go.WideShapes Go.ChangeAt
def hpOf (w:World):Hp:=fun b=>w.heap[b]?
theorem cov_hpOf (w:World):Cov (hpOf w) w:=fun _ _ h=>h
theorem calls_of_callK {P:Program} {f:FuncId} {args:List Value} {w:World} (hk:callK P f args (hpOf w) fun v h'=>v= .bool true∧Keep (hpOf w) h') :
   Calls P f args.toArray w fun e w'=>e= .returned (.bool true)∧Below w.heap.size w w':=by
 refine(hk.2 w (cov_hpOf w)).mono ?_
 rintro e w' ⟨v,h',rfl,⟨rfl,k⟩,cv,g⟩
 refine⟨rfl,g.os,g.tape,g.output,g.size,fun b hb=>?_⟩
 have h1:hpOf w b=some w.heap[b]:=by simp[hpOf,hb]
 have h2:=cv b w.heap[b] (by rw[k b (by rw[h1];simp),h1])
 rw[h2];simp[hb]
theorem trodAll_below {H:Type} {enc:TypeId×Value→H} {P:Program} (hl:laidOutB P=true) {W W':World} (hb:Below W.heap.size W W') :
   ∀ {ts:List TypeId} {vs:List Value} {ds:List (DataW H)} {ps:List MemPlace},(∀t∈ts,P.readableRec t=true∧t<P.types.size)→(∀p∈ps,p.block<W.heap.size) →
     DataW.TrodAll enc P W 0 (fun _=>true) true ts vs ds ps→DataW.TrodAll enc P W' 0 (fun b=>decide (b<W.heap.size)) true ts vs ds ps
 | [],[],[],_,_,_,h=>h
 | t::ts,v::vs,d::ds,ps,ht,hp,⟨p,q,h1,h2,e⟩=>by
   subst e
   exact⟨p,q,Below.trod hl (ht t (by simp)).1 (ht t (by simp)).2 h1 hb (fun x hx=>hp x (by simp[hx])),trodAll_below hl hb (fun t' h'=>ht t' (by simp[h'])) (fun x hx=>hp x (by simp[hx])) h2,rfl⟩
 | [],_::_,_,_,_,_,h=>by cases h
 | [],[],_::_,_,_,_,h=>by cases h
 | _::_,[],_,_,_,_,h=>by cases h
 | _::_,_::_,[],_,_,_,h=>by cases h
theorem trodAll_len {H:Type} {enc:TypeId×Value→H} {P:Program} {W:World} {base:Nat} {sp:Nat→Bool} {hd:Bool} :
   ∀ {ts:List TypeId} {vs:List Value} {ds:List (DataW H)} {ps:List MemPlace},DataW.TrodAll enc P W base sp hd ts vs ds ps→ds.length=ts.length
 | [],[],[],_,_=>rfl
 | t::ts,v::vs,d::ds,ps,⟨p,q,_,h2,_⟩=>by simp[trodAll_len h2]
 | [],_::_,_,_,h=>by cases h
 | [],[],_::_,_,h=>by cases h
 | _::_,[],_,_,h=>by cases h
 | _::_,_::_,[],_,h=>by cases h
theorem lifted_of_law {H:Type} {enc:TypeId×Value→H} {C:Checked} {os:Os} {f:FuncId} {fn:Func} {s:ChangeSpec} {tb:TypeId}
   (own:ownKnob C.prog.godebug=none) (started:os.Started) (noInit:C.prog.inits.idxOf? f=none) (hfn:C.prog.funcs[f]? =some fn)
   (witness:∃(w:World) (tape:Tape) (i:Input),w.os=os∧(w.forCall tape i).Shaped C.prog∧i.vars=[]∧Input.okWide C.prog (w.forCall tape i) .any w.heap.size f i ∧
     s.pre6 enc C.prog fn [] false (w.forCall tape i).memory i.args∧({}:Assume).holds C.prog (lone (Frame.enter C.prog f i.args .normal) [] (w.forCall tape i)))
   (hvars:s.vars=[]) (hres:fn.resultTypes=#[tb]) (htb:C.prog.underlying tb=some .bool) (hl:laidOutB C.prog=true)
   (hts:(fn.params.toList.all fun t=>C.prog.readableRec t&&decide (t<C.prog.types.size))=true)
   (hspec:∀ds:List (DataW H),ds.length=fn.params.toList.length→s.fn H ds={ results:=[.lit (.bool true)],args:=ds })
   (law:∀(W:World) (base:Nat) (args:List Value) (ds:List (DataW H)) (p:List MemPlace),
     (∀(j:Nat) t v,fn.params.toList[j]? =some t→args[j]? =some v→Value.okWide C.prog W .any base t v) →
     DataW.TrodAll enc C.prog W 0 (fun _=>true) true fn.params.toList args ds p →
     (DataW.weightsEach C.prog fn.params.toList ds).all (·≤reachBytes)=true →
     callK C.prog f args (hpOf W) fun v h'=>v= .bool true∧Keep (hpOf W) h') :
   ReturnsInHanded {} C os f .any (s.pre6 enc C.prog fn [] false) (s.post enc C.prog fn false true false false):=by
 refine returnsInHanded_of_change_sized own started noInit hfn witness ?_
 intro W base args ds gs before hval hW _ hsz _
 have hW':=hW
 obtain⟨p,q,hA,hV,rfl,hfz,_⟩:=hW
 rw[hvars] at hV
 obtain⟨rfl,rfl⟩:=trodVars_none hV
 have hvt:s.plain.varTypes C.prog=[]:=by
   have:s.plain.vars=[]:=hvars
   simp[DataSpec.varTypes,this]
 rw[hvt,List.append_nil,List.append_nil] at hsz
 have hlen:=trodAll_len hA
 have hlt:∀x∈p++[],x.block<W.heap.size:=fun x hx=>hW'.lt x hx
 have hc:=law W base args.toList ds p (fun j t v h1 h2=>hval j t v (by simpa using h1) (by simpa using h2)) hA hsz
 refine(calls_of_callK (by simpa using hc)).mono ?_
 rintro e W' ⟨rfl,hb⟩
 have hsp:s.fn H (ds++[])={ results:=[.lit (.bool true)],args:=ds }:=by rw[List.append_nil];exact hspec ds hlen
 have hall:∀t∈fn.params.toList,C.prog.readableRec t=true∧t<C.prog.types.size:=fun t ht=>by
   have:=List.all_eq_true.1 hts t ht
   simpa using this
 have hA':=trodAll_below hl hb hall (fun x hx=>hlt x (by simp[hx])) hA
 refine⟨_,rfl,ds,[],p++[],[],p,[],hW',?_,?_,?_,?_,?_⟩
 · rw[hsp,hres]
   exact trodAll_mk1 ⟨1,by simp[DataW.trod,Value.cells,htb]⟩
 · rw[hsp];exact hA'
 · rw[hvars,hsp];rfl
 · exact hb.frame _
 · intro h;cases h
/-! ## The arguments -/
section
variable {H:Type} {enc:TypeId×Value→H} {P:Program} {W:World} {base:Nat}
theorem arg_int {t:TypeId} {k:IntKind} {v:Value} {d:DataW H} {ps:List MemPlace} (ht:P.underlying t=some (.int k)) (hval:Value.okWide P W .any base t v) (hd:DataW.Trod enc P W 0 (fun _=>true) true t v d ps) :
   ∃n,v= .int k n∧(Lit.int k n).wf=true:=by
 obtain⟨n,h1,_,_,h2⟩:=open_int ht hval hd
 exact⟨n,h1,h2⟩
theorem arg_i64 {t:TypeId} {v:Value} {d:DataW H} {ps:List MemPlace} (ht:P.underlying t=some (.int .i64)) (hval:Value.okWide P W .any base t v) (hd:DataW.Trod enc P W 0 (fun _=>true) true t v d ps) :
   ∃n:Int,v= .int .i64 n∧-9223372036854775808≤n∧n≤9223372036854775807:=by
 obtain⟨n,h1,h2⟩:=arg_int ht hval hd
 refine⟨n,h1,?_⟩
 simp[Lit.wf,IntKind.min,IntKind.max,IntKind.signed,IntKind.bits] at h2
 omega
end
end Go.Sh

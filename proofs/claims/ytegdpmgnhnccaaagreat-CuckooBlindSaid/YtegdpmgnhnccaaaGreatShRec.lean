import Derived.Test.YtegdpmgnhnccaaaGreatShRow
import Derived.Test.YtegdpmgnhnccaaaGreatShKit
import Derived.Deep.Slices
namespace Go.cR
open Go Go.RowKit Go.ChangeShapes Go.WideShapes Go.ChangeAt
def aAf:Option IntKind->Value->Prop
 | some k,v=>∃n,v= .int k n/\(Lit.int k n).wf=true
 | none,v=>∃b,v= .bool b
theorem fR.map {α β:Type}{f:α->List Value}{g:β->List Value}{h:ak}{s:ao}{l:List α}(r:fR f h s l)(m:α->β)(hm:∀x∈l,g (m x)=f x):fR g h s (l.map m) :=
 ⟨by simp[r.len],r.cap,r.nil,λq aj=>by
  have e:(l.map m).flatMap g=l.flatMap f:=by
   rw[List.flatMap_map];have:∀l:List α,(∀x∈l,g (m x)=f x)->l.flatMap (λa=>g (m a))=l.flatMap f:=by
    intro l aT
    induction l with
    | nil=>rfl
    | cons x l dI=>rw[List.flatMap_cons,List.flatMap_cons,aT x (by simp),dI λy aC=>aT y (by simp[aC])]
   exact this l hm
  rw[e];exact r.rd q aj⟩
section
variable {H:Type} {enc:TypeId×Value->H} {P:Program} {W:World} {base:Nat}
theorem aj6 {t e:TypeId}{gq:Array Field}{ks:List (Option IntKind)}{v:Value}{d:DataW H}{cN:List MemPlace}(bG:P.underlying t=some (.slice e))(he:P.underlying e=some (.struct gq))(a1:P.cellsOf e=ks.length)(ln:0<ks.length)
 (xS:gq.size=ks.length) (bc:∀(j:Nat) (k:Option IntKind),ks[j]? =some k->∃f:Field,gq[j]? =some f/\f.offset=j/\P.cellsOf f.type=1/\P.underlying f.type=some (match k with|some k=> .int k|none=> .bool))
 (nm:Value.okWide P W .any base t v) (b4:DataW.Trod enc P W 0 (λ_=>true) true t v d cN) :
 ∃(s:ao) (l:List (List Value)),v=aZ s/\fR id (rq W) s l/\(∀r∈l,r.length=ks.length/\∀(j:Nat) (k:Option IntKind),ks[j]? =some k->∃v,r[j]? =some v/\aAf k v)/\((d= .nil/\l=[])∨∃el sp,d= .slice el sp/\el.length=l.length):=by
 obtain⟨a,len,cap,rfl⟩:=okWide_slice bG nm;obtain⟨fuel,aAg⟩:=b4;rcases Go.Deep.open_slice bG aAg with ⟨vA,ai⟩|⟨eh,TU,TV,m,n,D,aAh,vA,_,aT,_,hm,ai,zE⟩
 .have aH:Value.slice a len cap= .slice none 0 0:=by simpa [Value.cells] using vA
  cases aH;cases ai;exact⟨⟨none,0,0,none⟩,[],rfl,fR.gy _ _,by simp,.inl ⟨rfl,rfl⟩⟩
 .have aH:Value.slice a len cap= .slice (some eh) TU TV:=by simpa [Value.cells] using vA
  cases aH;cases ai;simp only[aEv] at hm;subst hm;obtain⟨C,sy⟩:=Go.Deep.choose_lt (α:=List Value) (p:=λi cs=>W.cells? 0 (eh.add (i*P.cellsOf e)) (P.cellsOf e)=some cs/\DataW.trod enc P W 0 (λ_=>true) true n e cs=some (D i,aAh i)) zE;have hlen:∀i,i<m->(C i).length=ks.length:=λi hi=>by
   obtain⟨_,ad,_⟩:=World.cells?_some (sy i hi).1;rw[ad,a1]
  have bx:∀i,i<m->∀j,j<ks.length->W.cell? (eh.add (i*ks.length+j))=(C i)[j]?:=λi hi j aU=>by
   obtain⟨_,_,an⟩:=World.cells?_some (sy i hi).1;have:=an j (by rw[a1];exact aU);rw[Go.Deep.add_add,a1] at this;exact this
  have aga:0<m->eh.spot=none:=λh0=>by
   have aa:=bx 0 h0 0 ln;rw[aDx (by rw[hlen 0 h0];exact ln)] at aa;have:=World.cell?_spot aa;simpa [Addr.add] using this
  refine⟨⟨some ⟨eh.block,eh.off⟩,len,m,eh.spot⟩,(List.range len).map C,rfl,⟨by simp,aT,?_,?_⟩,?_,.inr ⟨_,_,rfl,by simp⟩⟩
  .intro aj
   by_cases h0:m=0
   .exact h0
   .have iL:eh.spot=none:=aga (Nat.pos_of_ne_zero h0);have:eh.spot=none->ao.q ⟨some ⟨eh.block,eh.off⟩,len,m,eh.spot⟩=some ⟨eh.block,eh.off⟩:=λe=>by rw[e];rfl
    rw[this iL] at aj;cases aj
  .intro q aj
   rw[pJ];intro x ai;have eg:((List.range len).map C).flatMap id=(List.range len).flatMap C:=by rw[List.flatMap_map];rfl
   rw[<-aDx ai,eg];rw[eg] at ai;have aAi:((List.range len).flatMap C).length=len*ks.length:=by
    have:∀k,k<=len->((List.range k).flatMap C).length=k*ks.length:=by
     intro k
     induction k with
     | zero=>intro _;simp
     | succ k dI=>intro ah;rw[aDQ,aEB,aDs,dI (by omega)];simp[hlen k (by omega),aEM]
    exact this len (aDt _)
   have hx:x<len*ks.length:=by rw[<-aAi];exact ai
   have hi:x/ks.length<len:=Nat.div_lt_of_lt_mul (by rw[aDW];exact hx);have aU:x%ks.length<ks.length:=aEk _ ln;have rA:x/ks.length<m:=aEP hi aT;have iL:eh.spot=none:=aga (Nat.zero_lt_of_lt rA);rw[show ao.q ⟨some ⟨eh.block,eh.off⟩,len,m,eh.spot⟩=some ⟨eh.block,eh.off⟩ by rw[iL];rfl] at aj;cases aj;have aa:=bx (x/ks.length) rA (x%ks.length) aU;rw[show x/ks.length*ks.length+x%ks.length=x by rw[aDW];exact aFr _ _] at aa;have e:eh.add x=⟨eh.block,eh.off+x,none⟩:=by
    obtain⟨b,o,z⟩:=eh;simp only at iL;subst iL;unfold Addr.add;split
    .rename_i h;subst h;rfl
    .rfl
   have dd:∀k,k<=len->x<k*ks.length->((List.range k).flatMap C)[x]? =(C (x/ks.length))[x%ks.length]?:=by
    intro k
    induction k with
    | zero=>intro _ h;omega
    | succ k dI =>
     intro ah uK;have sN:((List.range k).flatMap C).length=k*ks.length:=by
      have:∀z,z<=len->((List.range z).flatMap C).length=z*ks.length:=by
       intro z
       induction z with
       | zero=>intro _;simp
       | succ z dI=>intro bn;rw[aDQ,aEB,aDs,dI (by omega)];simp[hlen z (by omega),aEM]
      exact this k (by omega)
     rw[aDQ,aEB];by_cases c:x<k*ks.length
     .rw[aD0 (by rw[sN];exact c)];exact dI (by omega) c
     .rw[aFe (by rw[sN];omega),sN];have aDb:x<k*ks.length+ks.length:=by rw[aEM] at uK;omega
      have d1:x/ks.length=k:=by
       apply Nat.div_eq_of_lt_le
       .exact Nat.le_of_not_lt c
       .rw[aEM];omega
      have d2:x%ks.length=x-k*ks.length:=by
       have:=aFr x ks.length;rw[d1,aDW] at this;omega
      rw[d1,d2];simp
   have an:=dd len (aDt _) hx;rw[e] at aa;rw[aDx (l:=C (x/ks.length)) (by rw[hlen _ rA];exact aU)] at aa an;have aJ:=agb aa;exact aJ.trans an.symm
  .intro r aQ
   obtain⟨i,hi,rfl⟩:=aD2.1 aQ;have cb:i<len:=aDT.1 hi;refine⟨hlen i (by omega),λj k ah=>?_⟩;obtain⟨f,aa,ad,an,aJ⟩:=bc j k ah;obtain⟨xs,jh,_,_,_,aAj,aAk⟩:=DataW.trod_struct he (sy i (by omega)).2;have aR:=aAk j f aa;have aU:j<ks.length:=(aES.1 ah).1;rw[ad,an] at aR;have s4:j<(C i).length:=by rw[hlen i (by omega)];exact aU
   have dP:((C i).drop j).take 1=[(C i)[j]]:=by rw[aET s4,List.take_succ_cons,List.take_zero]
   rw[dP,aDx (by rw[aAj,xS];exact aU)] at aR;refine⟨(C i)[j],aDx s4,?_⟩;cases k with
   | some k =>
    obtain⟨z,bn,_,hw⟩:=DataW.trod_int (k:=k) aJ aR;exact⟨z,by simpa using bn,hw⟩
   | none =>
    obtain⟨z,bn,_⟩:=DataW.trod_bool aJ aR;exact⟨z,by simpa using bn⟩
end
structure aAl where
 op:Int
 id:aE
 n:aE
 lo: -9223372036854775808<=op
 hi:op<=9223372036854775807
def aDc (x:aAl):List Value:=[.int .i64 x.op,ab x.id,ab x.n]
section
variable {H:Type} {enc:TypeId×Value->H} {P:Program} {W:World} {base:Nat}
end

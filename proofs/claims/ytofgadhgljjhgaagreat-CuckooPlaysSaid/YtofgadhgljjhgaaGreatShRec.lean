import Derived.Test.YtofgadhgljjhgaaGreatShRow
import Derived.Test.YtofgadhgljjhgaaGreatShRows
import Derived.Deep.Slices
namespace Go.cD
open Go Go.RowKit Go.ChangeShapes Go.WideShapes Go.ChangeAt
def axl:Option IntKind->Value->Prop
 | some k,v=>∃n,v= .int k n/\(Lit.int k n).wf=true
 | none,v=>∃b,v= .bool b
theorem fN.map {α β:Type}{f:α->List Value}{g:β->List Value}{h:ak}{s:ar}{l:List α}(r:fN f h s l)(m:α->β)(hm:∀x∈l,g (m x)=f x):fN g h s (l.map m) :=
 ⟨by simp[r.len],r.cap,r.nil,λq aj=>by
  have e:(l.map m).flatMap g=l.flatMap f:=by
   rw[List.flatMap_map]
   have:∀l:List α,(∀x∈l,g (m x)=f x)->l.flatMap (λa=>g (m a))=l.flatMap f:=by
    intro l aT
    induction l with
    | nil=>rfl
    | cons x l dK=>rw[List.flatMap_cons,List.flatMap_cons,aT x (by simp),dK λy aB=>aT y (by simp[aB])]
   exact this l hm
  rw[e];exact r.rd q aj⟩
section
variable {H:Type} {enc:TypeId×Value->H} {P:Program} {W:World} {base:Nat}
theorem ahL {t e:TypeId}{fU:Array Field}{ks:List (Option IntKind)}{v:Value}{d:DataW H}{cx:List MemPlace}(bw:P.underlying t=some (.slice e))(he:P.underlying e=some (.struct fU))(aZ:P.cellsOf e=ks.length)(mi:0<ks.length)
 (wW:fU.size=ks.length) (a_:∀(j:Nat) (k:Option IntKind),ks[j]? =some k->∃f:Field,fU[j]? =some f/\f.offset=j/\P.cellsOf f.type=1/\P.underlying f.type=some (match k with|some k=> .int k|none=> .bool))
 (mP:Value.okWide P W .any base t v) (bV:DataW.Trod enc P W 0 (λ_=>true) true t v d cx) :
 ∃(s:ar) (l:List (List Value)),v=bb s/\fN id (qD W) s l/\(∀r∈l,r.length=ks.length/\∀(j:Nat) (k:Option IntKind),ks[j]? =some k->∃v,r[j]? =some v/\axl k v)/\((d= .nil/\l=[])∨∃el sp,d= .slice el sp/\el.length=l.length):=by
 obtain⟨a,len,cap,rfl⟩:=okWide_slice bw mP
 obtain⟨fuel,axm⟩:=bV
 rcases Go.Deep.open_slice bw axm with ⟨uF,ai⟩|⟨dT,R9,R_,m,n,D,axn,uF,_,aT,_,hm,ai,yH⟩
 .have aF:Value.slice a len cap= .slice none 0 0:=by simpa [Value.cells] using uF
  cases aF
  cases ai
  exact⟨⟨none,0,0,none⟩,[],rfl,fN.gD _ _,by simp,.inl ⟨rfl,rfl⟩⟩
 .have aF:Value.slice a len cap= .slice (some dT) R9 R_:=by simpa [Value.cells] using uF
  cases aF
  cases ai
  simp only[if_true] at hm
  subst hm
  obtain⟨C,rR⟩:=Go.Deep.choose_lt (α:=List Value) (p:=λi cs=>W.cells? 0 (dT.add (i*P.cellsOf e)) (P.cellsOf e)=some cs/\DataW.trod enc P W 0 (λ_=>true) true n e cs=some (D i,axn i)) yH
  have hlen:∀i,i<m->(C i).length=ks.length:=λi hi=>by
   obtain⟨_,ad,_⟩:=World.cells?_some (rR i hi).1
   rw[ad,aZ]
  have br:∀i,i<m->∀j,j<ks.length->W.cell? (dT.add (i*ks.length+j))=(C i)[j]?:=λi hi j aV=>by
   obtain⟨_,_,an⟩:=World.cells?_some (rR i hi).1
   have:=an j (by rw[aZ];exact aV)
   rw[Go.Deep.add_add,aZ] at this
   exact this
  have adW:0<m->dT.spot=none:=λh0=>by
   have aa:=br 0 h0 0 mi
   rw[List.getElem?_eq_getElem (by rw[hlen 0 h0];exact mi)] at aa
   have:=World.cell?_spot aa
   simpa [Addr.add] using this
  refine⟨⟨some ⟨dT.block,dT.off⟩,len,m,dT.spot⟩,(List.range len).map C,rfl,⟨by simp,aT,?_,?_⟩,?_,.inr ⟨_,_,rfl,by simp⟩⟩
  .intro aj
   by_cases h0:m=0
   .exact h0
   .have ix:dT.spot=none:=adW (Nat.pos_of_ne_zero h0)
    have:dT.spot=none->ar.q ⟨some ⟨dT.block,dT.off⟩,len,m,dT.spot⟩=some ⟨dT.block,dT.off⟩:=λe=>by rw[e];rfl
    rw[this ix] at aj;cases aj
  .intro q aj
   rw[pN]
   intro x ai
   have dY:((List.range len).map C).flatMap id=(List.range len).flatMap C:=by rw[List.flatMap_map];rfl
   rw[<-List.getElem?_eq_getElem ai,dY]
   rw[dY] at ai
   have axo:((List.range len).flatMap C).length=len*ks.length:=by
    have:∀k,k<=len->((List.range k).flatMap C).length=k*ks.length:=by
     intro k
     induction k with
     | zero=>intro _;simp
     | succ k dK=>intro ag;rw[List.range_succ,List.flatMap_append,List.length_append,dK (by omega)];simp[hlen k (by omega),Nat.add_mul]
    exact this len (Nat.le_refl _)
   have gV:x<len*ks.length:=by rw[<-axo];exact ai
   have hi:x/ks.length<len:=Nat.div_lt_of_lt_mul (by rw[Nat.mul_comm];exact gV)
   have aV:x%ks.length<ks.length:=Nat.mod_lt _ mi
   have qJ:x/ks.length<m:=Nat.lt_of_lt_of_le hi aT
   have ix:dT.spot=none:=adW (Nat.zero_lt_of_lt qJ)
   rw[show ar.q ⟨some ⟨dT.block,dT.off⟩,len,m,dT.spot⟩=some ⟨dT.block,dT.off⟩ by rw[ix];rfl] at aj
   cases aj
   have aa:=br (x/ks.length) qJ (x%ks.length) aV
   rw[show x/ks.length*ks.length+x%ks.length=x by rw[Nat.mul_comm];exact Nat.div_add_mod _ _] at aa
   have e:dT.add x=⟨dT.block,dT.off+x,none⟩:=by
    obtain⟨b,o,z⟩:=dT
    simp only at ix;subst ix
    unfold Addr.add;split
    .rename_i h;subst h;rfl
    .rfl
   have c_:∀k,k<=len->x<k*ks.length->((List.range k).flatMap C)[x]? =(C (x/ks.length))[x%ks.length]?:=by
    intro k
    induction k with
    | zero=>intro _ h;omega
    | succ k dK =>
     intro ag tF
     have r7:((List.range k).flatMap C).length=k*ks.length:=by
      have:∀z,z<=len->((List.range z).flatMap C).length=z*ks.length:=by
       intro z
       induction z with
       | zero=>intro _;simp
       | succ z dK=>intro bc;rw[List.range_succ,List.flatMap_append,List.length_append,dK (by omega)];simp[hlen z (by omega),Nat.add_mul]
      exact this k (by omega)
     rw[List.range_succ,List.flatMap_append]
     by_cases c:x<k*ks.length
     .rw[List.getElem?_append_left (by rw[r7];exact c)];exact dK (by omega) c
     .rw[List.getElem?_append_right (by rw[r7];omega),r7]
      have az3:x<k*ks.length+ks.length:=by rw[Nat.add_mul] at tF;omega
      have d1:x/ks.length=k:=by
       apply Nat.div_eq_of_lt_le
       .exact Nat.le_of_not_lt c
       .rw[Nat.add_mul];omega
      have d2:x%ks.length=x-k*ks.length:=by
       have:=Nat.div_add_mod x ks.length
       rw[d1,Nat.mul_comm] at this;omega
      rw[d1,d2];simp
   have an:=c_ len (Nat.le_refl _) gV
   rw[e] at aa
   rw[List.getElem?_eq_getElem (l:=C (x/ks.length)) (by rw[hlen _ qJ];exact aV)] at aa an
   have aK:=adX aa
   exact aK.trans an.symm
  .intro r aP
   obtain⟨i,hi,rfl⟩:=List.mem_map.1 aP
   have b5:i<len:=List.mem_range.1 hi
   refine⟨hlen i (by omega),λj k ag=>?_⟩
   obtain⟨f,aa,ad,an,aK⟩:=a_ j k ag
   obtain⟨xs,iD,_,_,_,axp,axq⟩:=DataW.trod_struct he (rR i (by omega)).2
   have aR:=axq j f aa
   have aV:j<ks.length:=(List.getElem?_eq_some_iff.1 ag).1
   rw[ad,an] at aR
   have sm:j<(C i).length:=by rw[hlen i (by omega)];exact aV
   have dE:((C i).drop j).take 1=[(C i)[j]]:=by rw[List.drop_eq_getElem_cons sm,List.take_succ_cons,List.take_zero]
   rw[dE,List.getElem?_eq_getElem (by rw[axp,wW];exact aV)] at aR
   refine⟨(C i)[j],List.getElem?_eq_getElem sm,?_⟩
   cases k with
   | some k =>
    obtain⟨z,bc,_,hw⟩:=DataW.trod_int (k:=k) aK aR
    exact⟨z,by simpa using bc,hw⟩
   | none =>
    obtain⟨z,bc,_⟩:=DataW.trod_bool aK aR
    exact⟨z,by simpa using bc⟩
end
structure axr where
 op:Int
 id:UInt64
 n:UInt64
 lo: -9223372036854775808<=op
 hi:op<=9223372036854775807
def az4 (x:axr):List Value:=[.int .i64 x.op,ab x.id,ab x.n]
section
variable {H:Type} {enc:TypeId×Value->H} {P:Program} {W:World} {base:Nat}
end

import Derived.Test.YtegdpmgnhnccaaaGreatShRow
import Derived.Test.YtegdpmgnhnccaaaGreatShRows
import Derived.Deep.Slices
namespace Go.cQ
open Go Go.RowKit Go.ChangeShapes Go.WideShapes Go.ChangeAt
def ap7:Option IntKind->Value->Prop
 | some k,v=>∃n,v= .int k n/\(Lit.int k n).wf=true
 | none,v=>∃b,v= .bool b
theorem fi.map {α β:Type}{f:α->List Value}{g:β->List Value}{h:ai}{s:an}{l:List α}(r:fi f h s l)(m:α->β)(hm:∀x∈l,g (m x)=f x):fi g h s (l.map m) :=
 ⟨by simp[r.len],r.cap,r.nil,λq ah=>by
  have e:(l.map m).flatMap g=l.flatMap f:=by
   rw[List.flatMap_map];have:∀l:List α,(∀x∈l,g (m x)=f x)->l.flatMap (λa=>g (m a))=l.flatMap f:=by
    intro l aO
    induction l with
    | nil=>rfl
    | cons x l c6=>rw[List.flatMap_cons,List.flatMap_cons,aO x (by simp),c6 λy aA=>aO y (by simp[aA])]
   exact this l hm
  rw[e];exact r.rd q ah⟩
section
variable {H:Type} {enc:TypeId×Value->H} {P:Program} {W:World} {base:Nat}
theorem ap8 {t e:TypeId}{e8:Array Field}{ks:List (Option IntKind)}{v:Value}{d:DataW H}{cc:List MemPlace}(bz:P.underlying t=some (.slice e))(he:P.underlying e=some (.struct e8))(aT:P.cellsOf e=ks.length)(l6:0<ks.length)
 (AE:e8.size=ks.length) (bf:∀(j:Nat) (k:Option IntKind),ks[j]? =some k->∃f:Field,e8[j]? =some f/\f.offset=j/\P.cellsOf f.type=1/\P.underlying f.type=some (match k with|some k=> .int k|none=> .bool))
 (lC:Value.okWide P W .any base t v) (bK:DataW.Trod enc P W 0 (λ_=>true) true t v d cc) :
 ∃(s:an) (l:List (List Value)),v=aU s/\fi id (pM W) s l/\(∀r∈l,r.length=ks.length/\∀(j:Nat) (k:Option IntKind),ks[j]? =some k->∃v,r[j]? =some v/\ap7 k v)/\((d= .nil/\l=[])∨∃el sp,d= .slice el sp/\el.length=l.length):=by
 obtain⟨a,len,cap,rfl⟩:=okWide_slice bz lC;obtain⟨fuel,ap9⟩:=bK;rcases Go.Deep.open_slice bz ap9 with ⟨sP,af⟩|⟨dq,NW,NX,m,n,D,ap_,sP,_,aO,_,hm,af,wI⟩
 .have aC:Value.slice a len cap= .slice none 0 0:=by simpa [Value.cells] using sP
  cases aC;cases af;exact⟨⟨none,0,0,none⟩,[],rfl,fi.e9 _ _,by simp,.inl ⟨rfl,rfl⟩⟩
 .have aC:Value.slice a len cap= .slice (some dq) NW NX:=by simpa [Value.cells] using sP
  cases aC;cases af;simp only[at2] at hm;subst hm;obtain⟨C,qg⟩:=Go.Deep.choose_lt (α:=List Value) (p:=λi cs=>W.cells? 0 (dq.add (i*P.cellsOf e)) (P.cellsOf e)=some cs/\DataW.trod enc P W 0 (λ_=>true) true n e cs=some (D i,ap_ i)) wI;have hlen:∀i,i<m->(C i).length=ks.length:=λi hi=>by
   obtain⟨_,ad,_⟩:=World.cells?_some (qg i hi).1;rw[ad,aT]
  have bR:∀i,i<m->∀j,j<ks.length->W.cell? (dq.add (i*ks.length+j))=(C i)[j]?:=λi hi j aL=>by
   obtain⟨_,_,aq⟩:=World.cells?_some (qg i hi).1;have:=aq j (by rw[aT];exact aL);rw[Go.Deep.add_add,aT] at this;exact this
  have YZ:0<m->dq.spot=none:=λh0=>by
   have aa:=bR 0 h0 0 l6;rw[atc (by rw[hlen 0 h0];exact l6)] at aa;have:=World.cell?_spot aa;simpa [Addr.add] using this
  refine⟨⟨some ⟨dq.block,dq.off⟩,len,m,dq.spot⟩,(List.range len).map C,rfl,⟨by simp,aO,?_,?_⟩,?_,.inr ⟨_,_,rfl,by simp⟩⟩
  .intro ah
   by_cases h0:m=0
   .exact h0
   .have k4:dq.spot=none:=YZ (Nat.pos_of_ne_zero h0);have:dq.spot=none->an.q ⟨some ⟨dq.block,dq.off⟩,len,m,dq.spot⟩=some ⟨dq.block,dq.off⟩:=λe=>by rw[e];rfl
    rw[this k4] at ah;cases ah
  .intro q ah
   rw[qh];intro x af;have fp:((List.range len).map C).flatMap id=(List.range len).flatMap C:=by rw[List.flatMap_map];rfl
   rw[<-atc af,fp];rw[fp] at af;have aqa:((List.range len).flatMap C).length=len*ks.length:=by
    have:∀k,k<=len->((List.range k).flatMap C).length=k*ks.length:=by
     intro k
     induction k with
     | zero=>intro _;simp
     | succ k c6=>intro ab;rw[ato,auE,as9,c6 (by omega)];simp[hlen k (by omega),aul]
    exact this len (as_ _)
   have gD:x<len*ks.length:=by rw[<-aqa];exact af
   have hi:x/ks.length<len:=Nat.div_lt_of_lt_mul (by rw[atK];exact gD);have aL:x%ks.length<ks.length:=aum _ l6;have o5:x/ks.length<m:=aup hi aO;have k4:dq.spot=none:=YZ (Nat.zero_lt_of_lt o5);rw[show an.q ⟨some ⟨dq.block,dq.off⟩,len,m,dq.spot⟩=some ⟨dq.block,dq.off⟩ by rw[k4];rfl] at ah;cases ah;have aa:=bR (x/ks.length) o5 (x%ks.length) aL;rw[show x/ks.length*ks.length+x%ks.length=x by rw[atK];exact auW _ _] at aa;have e:dq.add x=⟨dq.block,dq.off+x,none⟩:=by
    obtain⟨b,o,z⟩:=dq;simp only at k4;subst k4;unfold Addr.add;split
    .rename_i h;subst h;rfl
    .rfl
   have cR:∀k,k<=len->x<k*ks.length->((List.range k).flatMap C)[x]? =(C (x/ks.length))[x%ks.length]?:=by
    intro k
    induction k with
    | zero=>intro _ h;omega
    | succ k c6 =>
     intro ab rJ;have se:((List.range k).flatMap C).length=k*ks.length:=by
      have:∀z,z<=len->((List.range z).flatMap C).length=z*ks.length:=by
       intro z
       induction z with
       | zero=>intro _;simp
       | succ z c6=>intro bt;rw[ato,auE,as9,c6 (by omega)];simp[hlen z (by omega),aul]
      exact this k (by omega)
     rw[ato,auE];by_cases c:x<k*ks.length
     .rw[atB (by rw[se];exact c)];exact c6 (by omega) c
     .rw[auN (by rw[se];omega),se];have asS:x<k*ks.length+ks.length:=by rw[aul] at rJ;omega
      have d1:x/ks.length=k:=by
       apply Nat.div_eq_of_lt_le
       .exact Nat.le_of_not_lt c
       .rw[aul];omega
      have d2:x%ks.length=x-k*ks.length:=by
       have:=auW x ks.length;rw[d1,atK] at this;omega
      rw[d1,d2];simp
   have aq:=cR len (as_ _) gD;rw[e] at aa;rw[atc (l:=C (x/ks.length)) (by rw[hlen _ o5];exact aL)] at aa aq;have aJ:=Y0 aa;exact aJ.trans aq.symm
  .intro r aK
   obtain⟨i,hi,rfl⟩:=atE.1 aK;have bN:i<len:=atq.1 hi;refine⟨hlen i (by omega),λj k ab=>?_⟩;obtain⟨f,aa,ad,aq,aJ⟩:=bf j k ab;obtain⟨xs,oy,_,_,_,aqb,aqc⟩:=DataW.trod_struct he (qg i (by omega)).2;have aW:=aqc j f aa;have aL:j<ks.length:=(auu.1 ab).1;rw[ad,aq] at aW;have Hx:j<(C i).length:=by rw[hlen i (by omega)];exact aL
   have dK:((C i).drop j).take 1=[(C i)[j]]:=by rw[auv Hx,List.take_succ_cons,List.take_zero]
   rw[dK,atc (by rw[aqb,AE];exact aL)] at aW;refine⟨(C i)[j],atc Hx,?_⟩;cases k with
   | some k =>
    obtain⟨z,bt,_,hw⟩:=DataW.trod_int (k:=k) aJ aW;exact⟨z,by simpa using bt,hw⟩
   | none =>
    obtain⟨z,bt,_⟩:=DataW.trod_bool aJ aW;exact⟨z,by simpa using bt⟩
end
structure wN where
 op:Int
 id:a8
 n:a8
 lo: -9223372036854775808<=op
 hi:op<=9223372036854775807
def BL (x:wN):List Value:=[.int .i64 x.op,ak x.id,ak x.n]
theorem EN (x:wN):(BL x).length=3:=rfl
section
variable {H:Type} {enc:TypeId×Value->H} {P:Program} {W:World} {base:Nat}
theorem amI {t e:TypeId}{e8:Array Field}{v:Value}{d:DataW H}{cc:List MemPlace}(bz:P.underlying t=some (.slice e))(he:P.underlying e=some (.struct e8))(aT:P.cellsOf e=3)
 (AE:e8.toList.map (λf=>(f.offset,P.cellsOf f.type,P.underlying f.type))=[(0,1,some (.int .i64)),(1,1,some (.int .u64)),(2,1,some (.int .u64))])
 (lC:Value.okWide P W .any base t v) (bK:DataW.Trod enc P W 0 (λ_=>true) true t v d cc) :
 ∃(s:an) (l:List wN),v=aU s/\fi BL (pM W) s l/\((d= .nil/\l=[])∨∃el sp,d= .slice el sp/\el.length=l.length):=by
 have aR:e8.size=3:=by have:=congrArg List.length AE;simpa using this
 have cR:∀j:Nat,e8[j]? =e8.toList[j]?:=λj=>by simp
 have bf:∀(j:Nat) (k:Option IntKind),[some IntKind.i64,some .u64,some .u64][j]? =some k->∃f:Field,e8[j]? =some f/\f.offset=j/\P.cellsOf f.type=1/\P.underlying f.type=some (match k with|some k=> .int k|none=> .bool):=by
  intro j k ab;have aL:j<3:=(auu.1 ab).1;have Y1:j<e8.toList.length:=by simpa [aR] using aL
  have aa:=congrArg (λl=>l[j]?) AE;simp only[List.getElem?_map,atc Y1,aua] at aa;refine⟨e8.toList[j],by rw[cR,atc Y1],?_⟩;have aq:j=0∨j=1∨j=2:=by omega
  rcases aq with rfl|rfl|rfl
  .cases ab;simp only[atp,atX,Prod.mk.injEq] at aa;exact aa
  .cases ab;simp only[atp,atu,atX,Prod.mk.injEq] at aa;exact aa
  .cases ab;simp only[atp,atu,atX,Prod.mk.injEq] at aa;exact aa
 obtain⟨s,l,aa,r,hw,ad⟩:=ap8 (ks:=[some .i64,some .u64,some .u64]) bz he aT (by decide) aR bf lC bK;have key:∀x∈l,∃y:wN,BL y=x:=by
  intro x af;obtain⟨hlen,bH⟩:=hw x af;obtain⟨v0,g0,ij,rfl,kA⟩:=bH 0 (some .i64) rfl;obtain⟨v1,g1,ax,rfl,jJ⟩:=bH 1 (some .u64) rfl;obtain⟨v2,g2,ay,rfl,iO⟩:=bH 2 (some .u64) rfl;simp[Lit.wf,IntKind.min,IntKind.max,IntKind.signed,IntKind.bits] at kA jJ iO;refine⟨⟨ij,UInt64.ofNat ax.toNat,UInt64.ofNat ay.toNat,by omega,by omega⟩,?_⟩
  match x,hlen with
  | [a,b,c],_ =>
   cases g0;cases g1;cases g2;have t1:((UInt64.ofNat ax.toNat).toNat:Int)=ax:=by rw[ate];omega
   have t2:((UInt64.ofNat ay.toNat).toNat:Int)=ay:=by rw[ate];omega
   show [Value.int .i64 ij,Value.int .u64 ((UInt64.ofNat ax.toNat).toNat:Int),Value.int .u64 ((UInt64.ofNat ay.toNat).toNat:Int)]=_;rw[t1,t2]
 classical
 let aqd:wN:=⟨0,0,0,by decide,by decide⟩;refine⟨s,l.map λx=>if af:∃y:wN,BL y=x then Classical.choose af else aqd,aa,r.map _ λx af=>?_,?_⟩
 .rw[dif_pos (key x af)];exact Classical.choose_spec (key x af)
 .rcases ad with ⟨a,rfl⟩|⟨el,sp,a,b⟩
  .exact .inl ⟨a,rfl⟩
  .exact .inr ⟨el,sp,a,by simpa using b⟩
end

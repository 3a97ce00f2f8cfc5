/- All operations that neither read nor change memory, under one name ('pureK'), sound for the model. -/
import Derived.Test.YtofgadhgljjhgaaGreatShPure
import Derived.Laws.StructEq
import Derived.ChangeKeysEq
namespace Go.Sh
open Go Go.RowKit
def numK (s:SV) (K:IntKind→Int→Prop):Prop :=
 match s with
 | .i k n=>K k n
 | .u x=>K .u64 (x.toNat:Int)
 | _=>False
theorem numK_elim {s:SV} {K:IntKind→Int→Prop} (h:numK s K):∃k n,s.val= .int k n∧K k n:=by
 cases s<;>first|exact h.elim|exact⟨_,_,rfl,h⟩
def evKs (n:Nat) (e:Env):List Operand→(List SV→Prop)→Prop
 | [],K=>K []
 | x::l,K=>evK n e x fun s=>evKs n e l fun r=>K (s::r)
theorem evKs_elim {n:Nat} {e:Env}:∀(l:List Operand) (K:List SV→Prop),evKs n e l K→∃r,K r∧∀a,Good n e a→l.map a.eval=SV.vals r
 | [],K,h=>⟨[],h,fun _ _=>rfl⟩
 | x::l,K,h=>by
   obtain⟨s,hs,h1⟩:=evK_elim h
   obtain⟨r,hr,h2⟩:=evKs_elim l _ hs
   exact⟨_,hr,fun a g=>by simp[SV.vals,h1 a g,h2 a g]⟩
def aggT (P:Program) (T:TypeId):Option Bool :=
 match P.underlying T with
 | some (.struct _)=>some true
 | some (.array _ _)=>some true
 | some _=>some false
 | none=>none
theorem run_isAgg {P:Program} {T:TypeId} {b:Bool} (h:aggT P T=some b) (w:World):(isAgg T).run P w= .ok b w:=by
 unfold aggT at h
 unfold isAgg
 simp only[Sem.run_bind]
 split at h
 · rename_i hu;rw[run_underlying hu];simp at h;subst h;rfl
 · rename_i hu;rw[run_underlying hu];simp at h;subst h;rfl
 · rename_i d hx hy hu
   rw[run_underlying hu];simp at h;subst h
   simp only[Result.andThen_ok]
   rfl
 · cases h
def szT (P:Program) (T:TypeId):Option Nat:=(P.info? T).map (·.size)
theorem run_sizeOf' {P:Program} {T:TypeId} {n:Nat} (h:szT P T=some n) (w:World):(sizeOf T).run P w= .ok n w:=by
 unfold szT at h
 cases hi:P.info? T with
 | none=>simp[hi] at h
 | some i =>
   simp[hi] at h
   simp[sizeOf,typeInfo,hi,h]
def SV.isAg:SV→Bool
 | .ag _=>true
 | .ws _ _=>true
 | _=>false
theorem SV.val_ag {s:SV} (h:s.isAg=true):s.val= .agg (SV.cells s).toArray:=by
 cases s<;>first|cases h|skip
 · simp only[SV.val,SV.cells];congr 1;apply Array.toList_inj.1;simp[Vector.toList]
 · rfl
theorem SV.cells_sc {s:SV} (h:s.isAg=false):SV.cells s=[s.val]:=by
 cases s<;>first|rfl|cases h
def fOff (P:Program) (s:TypeId) (i:Nat):Option Nat :=
 match P.underlying s with
 | some (.struct fs)=>match fs[i]? with
   | some f=>match szT P f.type with
     | some 0=>none
     | some _=>some f.offset
     | none=>none
   | none=>none
 | _=>none
theorem run_fieldAt {P:Program} {s:TypeId} {i off:Nat} (h:fOff P s i=some off) (q:Pt) (w:World) :
   (Instr.fieldAt s (vp q) i).run P w= .ok (vp ⟨q.b,q.o+off⟩) w:=by
 unfold fOff at h
 split at h
 · rename_i fs hs
   split at h
   · rename_i f hf
     split at h
     · cases h
     · rename_i n hn hz
       simp at h
       subst h
       have hn0:n≠0:=fun e=>hn e
       simp only[Instr.fieldAt,Sem.run_bind,run_underlying hs,Result.andThen_ok,hf,Instr.sureAddr,vp,Sem.run_pure,fieldPlace,run_sizeOf' hz,hn0,if_false,addr_add]
     · cases h
   · cases h
 · cases h
def fldK (P:Program) (s:TypeId) (i:Nat) (l:List SV) (K:SV→Prop):Prop :=
 match P.underlying s with
 | some (.struct fs)=>match fs[i]?,l[i]? with
   | some f,some r=>if f.offset=SV.sizeL (l.take i)∧szT P f.type=some r.size∧aggT P f.type=some r.isAg then K r else False
   | _,_=>False
 | _=>False
theorem cellsL_append (l l':List SV):SV.cellsL (l++l')=SV.cellsL l++SV.cellsL l':=by
 induction l with
 | nil=>rfl
 | cons a l ih=>simp[SV.cellsL,ih]
theorem run_part {P:Program} {T:TypeId} {off:Nat} {pre post:List Value} {r:SV} (h1:off=pre.length) (h2:szT P T=some r.size) (h3:aggT P T=some r.isAg) (w:World) :
   (part T (pre++SV.cells r++post).toArray off).run P w= .ok r.val w:=by
 subst h1
 unfold part
 simp only[Sem.run_bind,run_isAgg h3,Result.andThen_ok]
 have hl:=SV.cells_size r
 cases hr:r.isAg with
 | true =>
   simp only[if_true,Sem.run_bind,run_sizeOf' h2,Result.andThen_ok,Sem.run_pure]
   rw[SV.val_ag hr]
   congr 2
   apply Array.toList_inj.1
   simp[←hl]
 | false =>
   simp only[Bool.false_eq_true,if_false]
   have hc:=SV.cells_sc hr
   rw[hc]
   simp
theorem fldK_elim {P:Program} {s:TypeId} {i:Nat} {l:List SV} {K:SV→Prop} (h:fldK P s i l K) :
   ∃r,K r∧∀w,(Instr.field s (SV.val (.ag l)) i).run P w= .ok r.val w:=by
 unfold fldK at h
 split at h
 · rename_i fs hs
   split at h
   · rename_i f r hf hr
     split at h
     · rename_i hc
       refine⟨r,h,fun w=>?_⟩
       obtain⟨h1,h2,h3⟩:=hc
       simp only[Instr.field,Sem.run_bind,run_underlying hs,Result.andThen_ok,hf,SV.val,asAgg,Sem.run_pure]
       obtain⟨hi,hir⟩:=List.getElem?_eq_some_iff.1 hr
       have e:l=l.take i++r::l.drop (i+1):=by
         conv=>lhs;rw[←List.take_append_drop i l,List.drop_eq_getElem_cons hi,hir]
       have e2:SV.cellsL l=SV.cellsL (l.take i)++SV.cells r++SV.cellsL (l.drop (i+1)):=by
         conv=>lhs;rw[e,cellsL_append]
         simp[SV.cellsL]
       rw[e2]
       exact run_part (by rw[h1,SV.cellsL_size]) h2 h3 w
     · exact h.elim
   · exact h.elim
 · exact h.elim
/-! ## Indexes -/
def ixAddrK (P:Program) (T:TypeId) (x:SV) (i:Int) (K:SV→Prop):Prop :=
 match P.underlying T,x with
 | some (.slice el),.s x=>match szT P el with
   | some sz=>∃q,x.q=some q∧0≤i∧i<x.len∧K (.p ⟨q.b,q.o+i.toNat*sz⟩)
   | none=>False
 | some (.array len el),.p q=>match szT P el with
   | some sz=>0≤i∧i<len∧K (.p ⟨q.b,q.o+i.toNat*sz⟩)
   | none=>False
 | _,_=>False
theorem ixAddrK_elim {P:Program} {T:TypeId} {x:SV} {k:IntKind} {i:Int} {K:SV→Prop} (h:ixAddrK P T x i K) :
   ∃r,K r∧∀w,(Instr.indexAt T x.val (.int k i)).run P w= .ok r.val w:=by
 unfold ixAddrK at h
 split at h
 · rename_i el x hu
   split at h
   · rename_i sz hz
     obtain⟨q,hq,h0,h1,hk⟩:=h
     refine⟨_,hk,fun w=>?_⟩
     simp only[Instr.indexAt,asIntOf,Sem.run_bind,run_underlying hu,Result.andThen_ok,Sem.run_pure,SV.val,vs,Sl.addr_q hq]
     simp[h0,h1,run_sizeOf' hz,addr_add,vp]
   · exact h.elim
 · rename_i len el q hu
   split at h
   · rename_i sz hz
     obtain⟨h0,h1,hk⟩:=h
     refine⟨_,hk,fun w=>?_⟩
     simp only[Instr.indexAt,asIntOf,Sem.run_bind,run_underlying hu,Result.andThen_ok,Sem.run_pure,SV.val,vp,Instr.sureAddr]
     simp[h0,h1,run_sizeOf' hz,addr_add]
   · exact h.elim
 · exact h.elim
def ixK (P:Program) (T:TypeId) (x:SV) (i:Int) (K:SV→Prop):Prop :=
 match P.underlying T,x with
 | some (.array len el),.ws n c=>if len=n∧szT P el=some 1∧aggT P el=some false then 0≤i∧∃h:i.toNat<n,K (.u c[i.toNat]) else False
 | some .string,.str s=>0≤i∧∃h:i.toNat<s.size,K (.i .u8 (s[i.toNat].toNat:Int))
 | _,_=>False
theorem ixK_elim {P:Program} {T:TypeId} {x:SV} {k:IntKind} {i:Int} {K:SV→Prop} (h:ixK P T x i K) :
   ∃r,K r∧∀w,(Instr.index T x.val (.int k i)).run P w= .ok r.val w:=by
 unfold ixK at h
 split at h
 · rename_i len el n c hu
   split at h
   · rename_i hc
     obtain⟨rfl,h1,h2⟩:=hc
     obtain⟨h0,hi,hk⟩:=h
     refine⟨_,hk,fun w=>?_⟩
     have hlt:i<len:=by omega
     simp only[Instr.index,asIntOf,Sem.run_bind,run_underlying hu,Result.andThen_ok,Sem.run_pure,SV.val]
     simp only[h0,hlt,and_self,if_true,Sem.run_bind,run_sizeOf' h1,Result.andThen_ok,part,run_isAgg h2,Bool.false_eq_true,if_false]
     simp[hi]
   · exact h.elim
 · rename_i s hu
   obtain⟨h0,hi,hk⟩:=h
   refine⟨_,hk,fun w=>?_⟩
   simp only[Instr.index,asIntOf,Sem.run_bind,run_underlying hu,Result.andThen_ok,Sem.run_pure,SV.val]
   have:s[i.toNat]? =some s[i.toNat]:=by simp[hi]
   simp[h0,this]
 · exact h.elim
/-! ## Slices of slices -/
def bndK (x:SV) (most:Nat) (K:Nat→Prop):Prop:=numK x fun _ i=>0≤i∧i≤most∧K i.toNat
theorem bndK_elim {P:Program} {x:SV} {most:Nat} {K:Nat→Prop} (h:bndK x most K) :
   ∃m,m≤most∧K m∧∀c w,(Instr.sliceBound x.val most c).run P w= .ok m w:=by
 obtain⟨k,i,hx,h0,h1,hk⟩:=numK_elim h
 refine⟨_,by omega,hk,fun c w=>?_⟩
 simp only[Instr.sliceBound,hx,asIntOf,Sem.run_bind,Sem.run_pure,Result.andThen_ok]
 rw[if_pos ⟨h0,h1⟩];rfl
def bndsK (len cap:Nat) (lo hi mx:Option SV) (K:Nat→Nat→Nat→Prop):Prop :=
 match lo,hi,mx with
 | none,none,none=>K 0 len cap
 | some l,none,none=>bndK l len fun l=>K l len cap
 | none,some h,none=>bndK h cap fun h=>K 0 h cap
 | some l,some h,none=>bndK h cap fun h=>bndK l h fun l=>K l h cap
 | none,some h,some m=>bndK m cap fun m=>bndK h m fun h=>K 0 h m
 | some l,some h,some m=>bndK m cap fun m=>bndK h m fun h=>bndK l h fun l=>K l h m
 | _,none,some _=>False
theorem bndsK_elim {P:Program} {len cap:Nat} {lo hi mx:Option SV} {K:Nat→Nat→Nat→Prop} (h:bndsK len cap lo hi mx K) :
   ∃l h m,K l h m∧∀b w,(Instr.sliceBounds b len cap (lo.map SV.val) (hi.map SV.val) (mx.map SV.val)).run P w= .ok (l,h,m) w:=by
 unfold bndsK at h
 split at h
 · exact⟨_,_,_,h,fun b w=>by simp[Instr.sliceBounds]⟩
 · obtain⟨l,_,hk,hr⟩:=bndK_elim (P:=P) h
   exact⟨_,_,_,hk,fun b w=>by simp[Instr.sliceBounds,hr]⟩
 · obtain⟨l,_,hk,hr⟩:=bndK_elim (P:=P) h
   exact⟨_,_,_,hk,fun b w=>by simp[Instr.sliceBounds,hr]⟩
 · obtain⟨l,_,hk,hr⟩:=bndK_elim (P:=P) h
   obtain⟨l2,_,hk,hr2⟩:=bndK_elim (P:=P) hk
   exact⟨_,_,_,hk,fun b w=>by simp[Instr.sliceBounds,hr,hr2]⟩
 · obtain⟨l,_,hk,hr⟩:=bndK_elim (P:=P) h
   obtain⟨l2,_,hk,hr2⟩:=bndK_elim (P:=P) hk
   exact⟨_,_,_,hk,fun b w=>by simp[Instr.sliceBounds,hr,hr2]⟩
 · obtain⟨l,_,hk,hr⟩:=bndK_elim (P:=P) h
   obtain⟨l2,_,hk,hr2⟩:=bndK_elim (P:=P) hk
   obtain⟨l3,_,hk,hr3⟩:=bndK_elim (P:=P) hk
   exact⟨_,_,_,hk,fun b w=>by simp[Instr.sliceBounds,hr,hr2,hr3]⟩
 · exact h.elim
def slPt (p:Option Pt) (l m sz:Nat):Option Pt:=if m=l then p else p.map fun q=>⟨q.b,q.o+l*sz⟩
def slZ (z:Option Nat) (l m sz:Nat):Option Nat:=if m=l∨l*sz=0 then z else none
def sliceK (P:Program) (T:TypeId) (x:SV) (lo hi mx:Option SV) (K:SV→Prop):Prop :=
 match P.underlying T,x with
 | some (.slice el),.s x=>match szT P el with
   | some sz=>bndsK x.len x.cap lo hi mx fun l h m=>K (.s ⟨slPt x.p l m sz,h-l,m-l,slZ x.z l m sz⟩)
   | none=>False
 | some (.array len el),.p q=>match szT P el with
   | some sz=>bndsK len len lo hi mx fun l h m=>K (.s ⟨slPt (some q) l m sz,h-l,m-l,none⟩)
   | none=>False
 | some .string,.str s=>match mx with
   | none=>bndsK s.size s.size lo hi none fun l h _=>K (.str (s.extract l h))
   | some _=>False
 | _,_=>False
theorem slZ_val (x:Sl) (l m sz a b:Nat):Sl.addr ⟨slPt x.p l m sz,a,b,slZ x.z l m sz⟩=(if m=l then x.addr else x.addr.map (·.add (l*sz))):=by
 obtain⟨p,n,c,z⟩:=x
 simp only[Sl.addr,slPt,slZ]
 by_cases h1:m=l
 · simp[h1]
 · cases p with
   | none=>simp[h1]
   | some q =>
     by_cases h2:l*sz=0
     · simp only[h1,if_false,Option.map_some,h2,Addr.add,if_true,or_true,Nat.add_zero]
     · simp only[h1,if_false,Option.map_some,h2,Addr.add,or_self]
theorem slN_val (q:Pt) (l m sz a b:Nat):Sl.addr ⟨slPt (some q) l m sz,a,b,none⟩=(if m=l then some q.addr else some (q.addr.add (l*sz))):=by
 simp only[Sl.addr,slPt]
 by_cases h1:m=l
 · simp[h1,Pt.addr]
 · simp only[h1,if_false,Option.map_some,addr_add];rfl
theorem sliceK_elim {P:Program} {T:TypeId} {x:SV} {lo hi mx:Option SV} {K:SV→Prop} (h:sliceK P T x lo hi mx K) :
   ∃r,K r∧∀w,(Instr.sliceAt T x.val (lo.map SV.val) (hi.map SV.val) (mx.map SV.val)).run P w= .ok r.val w:=by
 unfold sliceK at h
 split at h
 · rename_i el x hu
   split at h
   · rename_i sz hz
     obtain⟨l,h',m,hk,hr⟩:=bndsK_elim (P:=P) h
     refine⟨_,hk,fun w=>?_⟩
     simp only[Instr.sliceAt,Instr.slice,Sem.run_bind,run_underlying hu,Result.andThen_ok,SV.val,vs,hr,run_sizeOf' hz,Sem.run_pure,slZ_val]
   · exact h.elim
 · rename_i len el q hu
   split at h
   · rename_i sz hz
     obtain⟨l,h',m,hk,hr⟩:=bndsK_elim (P:=P) h
     refine⟨_,hk,fun w=>?_⟩
     simp only[Instr.sliceAt,Sem.run_bind,run_underlying hu,Result.andThen_ok,SV.val,vs,vp,hr,run_sizeOf' hz,Sem.run_pure,slN_val,Instr.sureAddr]
     split<;>rfl
   · exact h.elim
 · rename_i s hu
   split at h
   · obtain⟨l,h',m,hk,hr⟩:=bndsK_elim (P:=P) h
     refine⟨_,hk,fun w=>?_⟩
     simp only[Option.map_none] at hr
     simp only[Instr.sliceAt,Instr.slice,Sem.run_bind,run_underlying hu,Result.andThen_ok,SV.val,Option.map_none,Option.isSome_none,Bool.false_eq_true,if_false,hr,Sem.run_pure]
   · exact h.elim
 · exact h.elim
/-! ## Aggregates made -/
def zrT (P:Program) (T:TypeId):Option Value:=(P.info? T).bind (·.zero)
theorem run_zero {P:Program} {T:TypeId} {v:Value} (h:zrT P T=some v) (w:World):(zeroValue T).run P w= .ok v w:=by
 unfold zrT at h
 cases hi:P.info? T with
 | none=>simp[hi] at h
 | some i =>
   simp[hi] at h
   simp[zeroValue,typeInfo,hi,h]
theorem fold_wr (post:List Value) (off:Nat):∀(l old pre:List Value) (k:Nat),l.length=old.length→off+k=pre.length →
   (l.zipIdx k).foldl (fun cs x=>cs.setIfInBounds (off+x.2) x.1) (pre++old++post).toArray=(pre++l++post).toArray
 | [],old,pre,k,h,_=>by
   obtain rfl:old=[]:=List.length_eq_zero_iff.1 h.symm
   rfl
 | c::l,[],pre,k,h,_=>by simp at h
 | c::l,o::old,pre,k,h,hk=>by
   simp only[List.zipIdx_cons,List.foldl_cons]
   have e:(pre++(o::old)++post).toArray.setIfInBounds (off+k) c=((pre++[c])++old++post).toArray:=by
     rw[hk];simp
   rw[e,fold_wr post off l old (pre++[c]) (k+1) (by simpa using h) (by simp;omega)]
   simp
theorem fill_one {place:Nat→Option (Nat×Nat)} {i off:Nat} {v:Value} {l old pre post:List Value} {rest:List (Nat×Value)}
   (hp:place i=some (off,l.length)) (hv:v.cells=l.toArray) (ho:old.length=l.length) (hoff:off=pre.length) :
   Instr.fill place (pre++old++post).toArray ((i,v)::rest)=Instr.fill place (pre++l++post).toArray rest:=by
 simp only[Instr.fill,hp,hv]
 rw[if_neg (by simp;omega)]
 congr 1
 have:=fold_wr post off l old pre 0 ho.symm (by omega)
 rw[←this,←Array.foldl_toList]
 simp
def bldS (P:Program) (fs:Array Field):List (Nat×SV)→List SV→(List SV→Prop)→Prop
 | [],l,K=>K l
 | (i,r)::ps,l,K =>
   match fs[i]?,l[i]? with
   | some f,some old=>if f.offset=SV.sizeL (l.take i)∧szT P f.type=some r.size∧old.size=r.size then flatK r (bldS P fs ps (l.set i r) K) else False
   | _,_=>False
def fsPlaces (P:Program) (fs:Array Field):Array (Nat×Nat):=fs.map fun f=>(f.offset,(szT P f.type).getD 0)
theorem run_places {P:Program} {fs:Array Field} (h:fs.toList.all (fun f=>(szT P f.type).isSome)=true) (w:World) :
   (fs.mapM fun f=>(do pure (f.offset,←sizeOf f.type):Sem (Nat×Nat))).run P w= .ok (fsPlaces P fs) w:=by
 obtain⟨l⟩:=fs
 unfold fsPlaces
 rw[←Array.toArray_toList (xs:=(⟨l⟩:Array Field)),List.mapM_toArray]
 simp only[Sem.run_map]
 have key:∀l:List Field,l.all (fun f=>(szT P f.type).isSome)=true →
     (l.mapM fun f=>(do pure (f.offset,←sizeOf f.type):Sem (Nat×Nat))).run P w= .ok (l.map fun f=>(f.offset,(szT P f.type).getD 0)) w:=by
   intro l hl
   induction l with
   | nil=>simp
   | cons f l ih =>
     simp only[List.all_cons,Bool.and_eq_true] at hl
     obtain⟨n,hn⟩:=Option.isSome_iff_exists.1 hl.1
     simp only[List.mapM_cons,Sem.run_bind,run_sizeOf' hn,Result.andThen_ok,Sem.run_pure,ih hl.2,List.map_cons,hn,Option.getD_some]
 rw[key l h]
 simp
theorem take_set_drop (l:List SV) (i:Nat) (r:SV) (hi:i<l.length):SV.cellsL l=SV.cellsL (l.take i)++SV.cells l[i]++SV.cellsL (l.drop (i+1)) ∧
   SV.cellsL (l.set i r)=SV.cellsL (l.take i)++SV.cells r++SV.cellsL (l.drop (i+1)):=by
 constructor
 · conv=>lhs;rw[←List.take_append_drop i l,List.drop_eq_getElem_cons hi,cellsL_append]
   simp[SV.cellsL]
 · rw[List.set_eq_take_append_cons_drop,if_pos hi,cellsL_append]
   simp[SV.cellsL]
theorem bldS_elim {P:Program} {fs:Array Field}:∀(ps:List (Nat×SV)) (l:List SV) (K:List SV→Prop),bldS P fs ps l K →
   ∃l',K l'∧Instr.fill ((fsPlaces P fs)[·]?) (SV.cellsL l).toArray (ps.map fun x=>(x.1,x.2.val))=some (SV.cellsL l').toArray
 | [],l,K,h=>⟨l,h,rfl⟩
 | (i,r)::ps,l,K,h=>by
   simp only[bldS] at h
   split at h
   · rename_i f old hf ho
     split at h
     · rename_i hc
       obtain⟨h1,h2,h3⟩:=hc
       obtain⟨h4,h⟩:=flatK_elim h
       obtain⟨l',hk,hl'⟩:=bldS_elim ps _ K h
       refine⟨l',hk,?_⟩
       rw[←hl']
       obtain⟨hi,hio⟩:=List.getElem?_eq_some_iff.1 ho
       obtain⟨e1,e2⟩:=take_set_drop l i r hi
       rw[e1,e2,hio]
       refine fill_one (off:=f.offset) ?_ (SV.cells_val r h4) ?_ (by rw[h1,SV.cellsL_size])
       · simp[fsPlaces,hf,h2,SV.cells_size]
       · rw[SV.cells_size,SV.cells_size,h3]
     · exact h.elim
   · exact h.elim
def bldW (n:Nat):List (Nat×SV)→Vector UInt64 n→(Vector UInt64 n→Prop)→Prop
 | [],c,K=>K c
 | (i,.u x)::ps,c,K=>if h:i<n then bldW n ps (c.set i x) K else False
 | _::_,_,_=>False
theorem bldW_elim {n:Nat}:∀(ps:List (Nat×SV)) (c:Vector UInt64 n) (K:Vector UInt64 n→Prop),bldW n ps c K →
   ∃c',K c'∧Instr.fill (fun i=>some (i*1,1)) (c.toList.map vu).toArray (ps.map fun x=>(x.1,x.2.val))=some (c'.toList.map vu).toArray:=by
 intro ps
 induction ps with
 | nil=>exact fun c K h=>⟨c,h,rfl⟩
 | cons p ps ih =>
   intro c K h
   obtain⟨i,r⟩:=p
   cases r<;>try exact h.elim
   rename_i x
   simp only[bldW] at h
   split at h
   · rename_i hi
     obtain⟨c',hk,hc'⟩:=ih _ K h
     refine⟨c',hk,?_⟩
     rw[←hc']
     have hl:i<(c.toList.map vu).length:=by simpa using hi
     have e1:c.toList.map vu=(c.toList.map vu).take i++[(c.toList.map vu)[i]]++(c.toList.map vu).drop (i+1):=by
       conv=>lhs;rw[←List.take_append_drop i (c.toList.map vu),List.drop_eq_getElem_cons hl]
       simp
     have e2:(c.set i x).toList.map vu=(c.toList.map vu).take i++[vu x]++(c.toList.map vu).drop (i+1):=by
       simp only[Vector.toList_set,List.map_set]
       rw[List.set_eq_take_append_cons_drop,if_pos hl]
       simp
     rw[e2]
     conv=>lhs;rw[e1]
     refine fill_one (off:=i*1) rfl rfl rfl ?_
     simp;omega
   · exact h.elim
def bldK (P:Program) (T:TypeId) (ps:List (Nat×SV)) (K:SV→Prop):Prop :=
 match P.underlying T,zrT P T with
 | some (.struct fs),some z=>match ofVT (tyOf P 9 T) z with
   | .ag l=>if fs.toList.all (fun f=>(szT P f.type).isSome)=true then bldS P fs ps l fun l=>K (.ag l) else False
   | _=>False
 | some (.array _ el),some z=>match ofVT (tyOf P 9 T) z with
   | .ws n c=>if szT P el=some 1 then bldW n ps c fun c=>K (.ws n c) else False
   | _=>False
 | _,_=>False
theorem bldK_elim {P:Program} {T:TypeId} {ps:List (Nat×SV)} {K:SV→Prop} (h:bldK P T ps K) :
   ∃r,K r∧∀w,(Instr.build T (ps.map fun x=>(x.1,x.2.val)).toArray).run P w= .ok r.val w:=by
 unfold bldK at h
 split at h
 · rename_i fs z hu hz
   split at h
   · rename_i l hl
     split at h
     · rename_i ha
       obtain⟨l',hk,hf⟩:=bldS_elim ps l _ h
       refine⟨_,hk,fun w=>?_⟩
       have hzv:=ofVT_val (tyOf P 9 T) z
       rw[hl] at hzv
       simp only[Instr.build,Sem.run_bind,run_zero hz,Result.andThen_ok,run_underlying hu,run_places ha]
       rw[←hzv]
       simp only[SV.val,Value.cells]
       rw[hf];rfl
     · exact h.elim
   · exact h.elim
 · rename_i len el z hu hz
   split at h
   · rename_i n c hl
     split at h
     · rename_i ha
       obtain⟨c',hk,hf⟩:=bldW_elim ps c _ h
       refine⟨_,hk,fun w=>?_⟩
       have hzv:=ofVT_val (tyOf P 9 T) z
       rw[hl] at hzv
       simp only[Instr.build,Sem.run_bind,run_zero hz,Result.andThen_ok,run_underlying hu,run_sizeOf' ha]
       rw[←hzv,SV.val_ag (s:= .ws n c) rfl,SV.val_ag (s:= .ws n c') rfl]
       simp only[Value.cells,SV.cells]
       rw[hf];rfl
     · exact h.elim
   · exact h.elim
 · exact h.elim
/-! ## Builtins that only reckon -/
def lenK (P:Program) (T:TypeId) (x:SV) (K:SV→Prop):Prop :=
 match P.underlying T,x with
 | some (.slice _),.s x=>K (.i .i64 x.len)
 | some .string,.str s=>K (.i .i64 s.size)
 | some (.array k _),_=>K (.i .i64 k)
 | _,_=>False
theorem lenK_elim {P:Program} {T:TypeId} {x:SV} {K:SV→Prop} {ats:Array TypeId} {ty:TypeId} (h:lenK P T x K) (ha:ats[0]? =some T) :
   ∃r,K r∧∀w,(Builtin.len_ ats ty #[x.val]).run P w= .ok r.val w:=by
 unfold lenK at h
 split at h
 · rename_i hu
   exact⟨_,h,fun w=>by simp[Builtin.len_,ha,run_underlying hu,SV.val,vs,goInt]⟩
 · rename_i hu
   exact⟨_,h,fun w=>by simp[Builtin.len_,ha,run_underlying hu,SV.val,goInt]⟩
 · rename_i hu
   exact⟨_,h,fun w=>by simp[Builtin.len_,ha,run_underlying hu,SV.val,goInt]⟩
 · exact h.elim
def mm2 (mx:Bool) (x y:SV) (K:SV→Prop):Prop :=
 match x,y with
 | .i k a,.i _ b=>K (.i k (cond mx (max a b) (min a b)))
 | .u a,.u b=>K (.u (cond mx (max a b) (min a b)))
 | _,_=>False
theorem max_if (a b:Int):(if b > a then b else a)=max a b:=by split<;>omega
theorem min_if (a b:Int):(if b<a then b else a)=min a b:=by split<;>omega
theorem umax_nat (a b:UInt64):((max a b).toNat:Int)=max (a.toNat:Int) b.toNat:=by
 rw[show max a b=if a≤b then b else a from rfl]
 split<;>rename_i h<;>rw[UInt64.le_iff_toNat_le] at h<;>omega
theorem umin_nat (a b:UInt64):((min a b).toNat:Int)=min (a.toNat:Int) b.toNat:=by
 rw[show min a b=if a≤b then a else b from rfl]
 split<;>rename_i h<;>rw[UInt64.le_iff_toNat_le] at h<;>omega
theorem mm2_max {P:Program} {x y:SV} {K:SV→Prop} (h:mm2 true x y K):Comes P (Builtin.max2 x.val y.val) K:=by
 unfold mm2 at h
 split at h
 · refine⟨_,h,fun w=>?_⟩
   simp only[SV.val,Builtin.max2,Sem.run_pure,cond_true,max_if]
 · refine⟨_,h,fun w=>?_⟩
   simp only[SV.val,vu,Builtin.max2,Sem.run_pure,cond_true,max_if,umax_nat]
 · exact h.elim
theorem mm2_min {P:Program} {x y:SV} {K:SV→Prop} (h:mm2 false x y K):Comes P (Builtin.min2 x.val y.val) K:=by
 unfold mm2 at h
 split at h
 · refine⟨_,h,fun w=>?_⟩
   simp only[SV.val,Builtin.min2,Sem.run_pure,cond_false,min_if]
 · refine⟨_,h,fun w=>?_⟩
   simp only[SV.val,vu,Builtin.min2,Sem.run_pure,cond_false,min_if,umin_nat]
 · exact h.elim
def bltK (P:Program) (b:Builtin) (ats:Array TypeId) (xs:List SV) (K:SV→Prop):Prop :=
 match b,xs with
 | .len,[x]=>match ats[0]? with|some T=>lenK P T x K|none=>False
 | .cap,[.s x]=>match ats[0]? with|some T=>(match P.underlying T with|some (.slice _)=>K (.i .i64 x.cap)|_=>False)|none=>False
 | .max,[x,y]=>mm2 true x y K
 | .min,[x,y]=>mm2 false x y K
 | _,_=>False
theorem bltK_elim {P:Program} {b:Builtin} {ats:Array TypeId} {ty:TypeId} {cs:Array Bool} {xs:List SV} {K:SV→Prop} (h:bltK P b ats xs K) :
   ∃r,K r∧∀w,(builtin b ats ty cs (SV.vals xs).toArray).run P w= .ok (.value r.val) w:=by
 unfold bltK at h
 split at h
 · split at h
   · rename_i T hT
     obtain⟨r,hk,hr⟩:=lenK_elim (ats:=ats) (ty:=ty) h hT
     exact⟨r,hk,fun w=>by simp[builtin,SV.vals,hr]⟩
   · exact h.elim
 · rename_i x
   split at h
   · rename_i T hT
     split at h
     · rename_i hu
       exact⟨_,h,fun w=>by simp[builtin,SV.vals,Builtin.cap_,hT,run_underlying hu,SV.val,vs,goInt]⟩
     · exact h.elim
   · exact h.elim
 · rename_i x y
   obtain⟨r,hk,hr⟩:=mm2_max (P:=P) h
   exact⟨r,hk,fun w=>by simp[builtin,SV.vals,Builtin.max_,hr]⟩
 · rename_i x y
   obtain⟨r,hk,hr⟩:=mm2_min (P:=P) h
   exact⟨r,hk,fun w=>by simp[builtin,SV.vals,Builtin.min_,hr]⟩
 · exact h.elim
/-! ## All of them -/
def oOp (n:Nat) (e:Env) (x:Option Operand) (K:Option SV→Prop):Prop :=
 match x with
 | none=>K none
 | some x=>evK n e x fun s=>K (some s)
theorem oOp_elim {n:Nat} {e:Env} {x:Option Operand} {K:Option SV→Prop} (h:oOp n e x K) :
   ∃s,K s∧∀a,Good n e a→x.map a.eval=s.map SV.val:=by
 cases x with
 | none=>exact⟨none,h,fun _ _=>rfl⟩
 | some x =>
   obtain⟨s,hs,h1⟩:=evK_elim h
   exact⟨some s,hs,fun a g=>by simp[h1 a g]⟩
def ptK (P:Program) (n:Nat) (e:Env) (tys:Nat→Ty):List (Nat×Operand)→(List (Nat×SV)→Prop)→Prop
 | [],K=>K []
 | (i,x)::l,K=>evT n (tys i) e x fun s=>ptK P n e tys l fun r=>K ((i,s)::r)
theorem ptK_elim {P:Program} {n:Nat} {e:Env} {tys:Nat→Ty}:∀(l:List (Nat×Operand)) (K:List (Nat×SV)→Prop),ptK P n e tys l K →
   ∃r,K r∧∀a,Good n e a→l.map (fun x=>(x.1,a.eval x.2))=r.map (fun x=>(x.1,x.2.val))
 | [],K,h=>⟨[],h,fun _ _=>rfl⟩
 | (i,x)::l,K,h=>by
   obtain⟨s,hs,h1⟩:=evT_elim h
   obtain⟨r,hr,h2⟩:=ptK_elim l _ hs
   exact⟨_,hr,fun a g=>by simp[h1 a g,h2 a g]⟩
def ptTy (P:Program) (T:TypeId) (i:Nat):Ty :=
 match P.underlying T with
 | some (.struct fs)=>match fs[i]? with|some f=>tyOf P 9 f.type|none=> .v
 | some (.array _ el)=>tyOf P 9 el
 | some (.slice el)=>tyOf P 9 el
 | _=> .v
def ncK (x:SV) (K:SV→Prop):Prop :=
 match x with
 | .p q=>K (.p q)
 | .pn q=>∃p,q=some p∧K (.p p)
 | .f g c=>K (.f g c)
 | _=>False
def pkK (c a b:SV) (K:SV→Prop):Prop :=
 match c,a,b with
 | .b c,.b a,.b b=>K (.b (cond c a b))
 | .b c,a,b=>ifB c (K a) (K b)
 | _,_,_=>False
def eqC (P:Program) (T:TypeId) (a b:SV):Option Bool :=
 match P.underlying T,a,b with
 | some (.int _),.i k x,.i k' y=>if k=k' then some (decide (x=y)) else none
 | some (.int _),.u x,.u y=>some (decide (x=y))
 | some .bool,.b x,.b y=>some (x==y)
 | some .string,.str x,.str y=>some (x.toList==y.toList)
 | _,_,_=>none
def eqFs (P:Program):List Field→Nat→List SV→List SV→Option Bool
 | [],_,[],[]=>some true
 | f::fs,o,a::l,b::l' =>
   if (f.name != "_")=true∧f.offset=o∧aggT P f.type=some false then
     match eqC P f.type a b,eqFs P fs (o+1) l l' with
     | some r,some t=>some (r&&t)
     | _,_=>none
   else none
 | _,_,_,_=>none
def eqAg (P:Program) (T:TypeId) (l l':List SV):Option Bool :=
 match P.underlying T with
 | some (.struct fs)=>if P.eqGuardType P.depth T=false∧P.stoodInHeld T=false then eqFs P fs.toList 0 l l' else none
 | _=>none
theorem eqC_run {P:Program} {T:TypeId} {a b:SV} {r:Bool} (h:eqC P T a b=some r) (d:Nat) (w:World) :
   (Op.equalIn (d+1) T a.val b.val).run P w= .ok r w∧SV.cells a=[a.val]∧SV.cells b=[b.val]:=by
 unfold eqC at h
 split at h
 · rename_i k k1 x k2 y hu
   split at h
   · rename_i hk
     subst hk
     cases h
     refine⟨?_,rfl,rfl⟩
     simp only[SV.val];rw[run_equalIn_int w d T _ _ _ _ hu,beq_decide_int]
   · cases h
 · rename_i k x y hu
   cases h
   refine⟨?_,rfl,rfl⟩
   simp only[SV.val,vu];rw[run_equalIn_int w d T _ _ _ _ hu,beq_decide_int]
   simp[←UInt64.toNat_inj,Int.natCast_inj]
 · rename_i x y hu
   cases h
   refine⟨?_,rfl,rfl⟩
   simp only[SV.val];rw[run_equalIn_bool' w d T _ _ hu]
 · rename_i x y hu
   cases h
   refine⟨?_,rfl,rfl⟩
   simp only[SV.val];rw[run_equalIn_string w d T _ _ hu]
 · cases h
theorem run_part1 {P:Program} {T:TypeId} {pre post:List Value} {v:Value} (h3:aggT P T=some false) (w:World) :
   (part T (pre++v::post).toArray pre.length).run P w= .ok v w:=by
 unfold part
 simp only[Sem.run_bind,run_isAgg h3,Result.andThen_ok,Bool.false_eq_true,if_false]
 simp
theorem eqFs_run {P:Program} (d:Nat) (w:World):∀(fs:List Field) (o:Nat) (l l':List SV) (r:Bool) (pre pre':List Value),eqFs P fs o l l'=some r→pre.length=o→pre'.length=o →
   (Op.eqFields (d+1) (pre++SV.cellsL l).toArray (pre'++SV.cellsL l').toArray fs).run P w= .ok r w
 | [],o,[],[],r,pre,pre',h,_,_=>by
   simp only[eqFs,Option.some.injEq] at h;subst h;simp[Op.eqFields]
 | f::fs,o,a::l,b::l',r,pre,pre',h,h1,h2=>by
   simp only[eqFs] at h
   split at h
   · rename_i hc
     obtain⟨c1,c2,c3⟩:=hc
     split at h
     · rename_i r1 t1 e1 e2
       cases h
       obtain⟨q1,q2,q3⟩:=eqC_run e1 d w
       have ih:=eqFs_run d w fs (o+1) l l' t1 (pre++[a.val]) (pre'++[b.val]) e2 (by simp[h1]) (by simp[h2])
       have n1:f.name ≠ "_":=by simpa using c1
       have p1:=run_part1 (P:=P) (pre:=pre) (post:=SV.cellsL l) (v:=a.val) c3 w
       have p2:=run_part1 (P:=P) (pre:=pre') (post:=SV.cellsL l') (v:=b.val) c3 w
       rw[h1] at p1;rw[h2] at p2
       simp only[Op.eqFields,n1,ne_eq,not_false_eq_true,if_true,SV.cellsL,q2,q3,c2,List.singleton_append,Sem.run_bind,p1,p2,Result.andThen_ok,q1]
       cases r1
       · simp
       · simpa using ih
     · cases h
   · cases h
 | [],o,a::l,l',r,pre,pre',h,_,_=>by simp[eqFs] at h
 | [],o,[],b::l',r,pre,pre',h,_,_=>by simp[eqFs] at h
 | f::fs,o,[],l',r,pre,pre',h,_,_=>by simp[eqFs] at h
 | f::fs,o,a::l,[],r,pre,pre',h,_,_=>by simp[eqFs] at h
def agOp (op:BinOp) (r:Bool) (K:SV→Prop):Prop :=
 match op with
 | .eql=>K (.b r)
 | .neq=>K (.b (!r))
 | _=>False
theorem eqAg_run {P:Program} {T:TypeId} {l l':List SV} {r:Bool} (h:eqAg P T l l'=some r) (op:BinOp) (x y:Operand) (K:SV→Prop) (hk:agOp op r K) :
   ∃s,K s∧∀w,(do eqGuard op T x y (SV.val (.ag l)) (SV.val (.ag l'));binOp op T (SV.val (.ag l)) (SV.val (.ag l')):Sem Value).run P w= .ok s.val w:=by
 unfold eqAg at h
 split at h
 · rename_i fs hu
   split at h
   · rename_i hc
     obtain⟨c1,c2⟩:=hc
     have hf:P.fieldsOf T=fs:=by unfold Program.fieldsOf;rw[hu]
     have key:∀w,(Op.equalIn 10000 T (SV.val (.ag l)) (SV.val (.ag l'))).run P w= .ok r w:=fun w=>by
       have:=run_equalIn_struct (P:=P) w 9999 T (SV.cellsL l).toArray (SV.cellsL l').toArray (by rw[hf];exact hu) c2
       simp only[SV.val]
       rw[this,hf]
       exact eqFs_run 9998 w fs.toList 0 l l' r [] [] h rfl rfl
     cases op<;>try exact(show False from hk).elim
     · refine⟨_,hk,fun w=>?_⟩
       have k1:=key w
       simp only[SV.val] at k1
       simp only[Sem.run_bind,SV.val,run_eqGuard_agg w _ T x y _ _ c1,Result.andThen_ok,run_eql_struct,k1]
     · refine⟨_,hk,fun w=>?_⟩
       have k1:=key w
       simp only[SV.val] at k1
       simp only[Sem.run_bind,SV.val,run_eqGuard_agg w _ T x y _ _ c1,Result.andThen_ok,run_neq_struct,k1]
   · cases h
 · cases h
def eqWs (P:Program) (T:TypeId) (n:Nat) (c c':Vector UInt64 n):Option Bool :=
 match P.underlying T with
 | some (.array m e)=>match P.underlying e with
   | some (.int .u64)=>if m=n∧P.eqGuardType P.depth T=false∧szT P e=some 1∧aggT P e=some false then some (decide (c=c')) else none
   | _=>none
 | _=>none
theorem run_partW {P:Program} {e:TypeId} (h3:aggT P e=some false) {n:Nat} (c:Vector UInt64 n) {i:Nat} (hi:i<n) (w:World) :
   (part e (c.toArray.map vu) i).run P w= .ok (vu c[i]) w:=by
 unfold part
 simp only[Sem.run_bind,run_isAgg h3,Result.andThen_ok,Bool.false_eq_true,if_false]
 simp[hi]
theorem eqItems_run {P:Program} {e:TypeId} (d:Nat) (w:World) (hu:P.underlying e=some (.int .u64)) (h3:aggT P e=some false) {n:Nat} (c c':Vector UInt64 n):∀(is:List Nat),(∀i∈is,i<n) →
   (Op.eqItems (d+1) e 1 (c.toArray.map vu) (c'.toArray.map vu) is).run P w= .ok (is.all fun i=>decide (c[i]? =c'[i]?)) w
 | [],_=>by simp[Op.eqItems]
 | i::is,h=>by
   have hi:=h i (List.mem_cons_self ..)
   have ih:=eqItems_run d w hu h3 c c' is fun j hj=>h j (List.mem_cons_of_mem _ hj)
   have p1:=run_partW h3 c hi w
   have p2:=run_partW h3 c' hi w
   have q:(Op.equalIn (d+1) e (vu c[i]) (vu c'[i])).run P w= .ok (decide (c[i]=c'[i])) w:=by
     simp only[vu];rw[run_equalIn_int w d e _ _ _ _ hu,beq_decide_int]
     simp[←UInt64.toNat_inj,Int.natCast_inj]
   simp only[Op.eqItems,Nat.mul_one,Sem.run_bind,p1,p2,q,Result.andThen_ok]
   have e1:decide (c[i]? =c'[i]?)=decide (c[i]=c'[i]):=by simp[hi]
   rw[List.all_cons,e1]
   cases decide (c[i]=c'[i])
   · simp
   · simpa using ih
theorem eqWs_run {P:Program} {T:TypeId} {n:Nat} {c c':Vector UInt64 n} {r:Bool} (h:eqWs P T n c c'=some r) (op:BinOp) (x y:Operand) (K:SV→Prop) (hk:agOp op r K) :
   ∃s,K s∧∀w,(do eqGuard op T x y (SV.val (.ws n c)) (SV.val (.ws n c'));binOp op T (SV.val (.ws n c)) (SV.val (.ws n c')):Sem Value).run P w= .ok s.val w:=by
 unfold eqWs at h
 split at h
 · rename_i m e hu
   split at h
   · rename_i he
     split at h
     · rename_i hc
       obtain⟨rfl,c1,c2,c3⟩:=hc
       cases h
       obtain⟨i,hi,hsz⟩:∃i,P.info? e=some i∧i.size=1:=by
         unfold szT at c2
         cases hh:P.info? e with
         | none=>rw[hh] at c2;cases c2
         | some i=>rw[hh] at c2;exact⟨i,rfl,by simpa using c2⟩
       have hcells:P.cellsOf e=1:=by unfold Program.cellsOf;rw[hi];simpa using hsz
       have key:∀w,(Op.equalIn 10000 T (.agg (c.toArray.map vu)) (.agg (c'.toArray.map vu))).run P w= .ok (decide (c=c')) w:=fun w=>by
         rw[run_equalIn_array w 9999 _ _ hu hi,hcells,eqItems_run 9998 w he c3 c c' _ (fun i hi=>List.mem_range.1 hi)]
         congr 1
         rw[Bool.eq_iff_iff]
         simp only[List.all_eq_true,List.mem_range,decide_eq_true_eq]
         constructor
         · intro h
           apply Vector.ext
           intro i hi
           have:=h i hi
           simpa [hi] using this
         · rintro rfl i _;rfl
       cases op<;>try exact(show False from hk).elim
       · refine⟨_,hk,fun w=>?_⟩
         have k1:=key w
         simp only[SV.val]
         simp only[Sem.run_bind,run_eqGuard_agg w _ T x y _ _ c1,Result.andThen_ok,run_eql_struct,k1]
       · refine⟨_,hk,fun w=>?_⟩
         have k1:=key w
         simp only[SV.val]
         simp only[Sem.run_bind,run_eqGuard_agg w _ T x y _ _ c1,Result.andThen_ok,run_neq_struct,k1]
     · cases h
   · cases h
 · cases h
def boK (P:Program) (n:Nat) (op:BinOp) (T:TypeId) (y:Operand) (e:Env) (a:SV) (K:SV→Prop):Prop :=
 match y with
 | .const v=>binK P op T a (ofV v) K
 | y=>evK n e y fun b=>match a,b with
   | _,.v _=>False
   | .ag l,.ag l'=>(match eqAg P T l l' with|some r=>agOp op r K|none=>False)
   | .ws k c,.ws m c'=>if hm:m=k then (match eqWs P T k c (hm▸c') with|some r=>agOp op r K|none=>False) else False
   | a,b=>binK P op T a b K
theorem boK_elim {P:Program} {n:Nat} {op:BinOp} {T:TypeId} {x y:Operand} {e:Env} {s:SV} {K:SV→Prop} (h:boK P n op T y e s K) :
   ∃r,K r∧∀a,Good n e a→a.eval x=s.val→∀w,(do eqGuard op T x y (a.eval x) (a.eval y);binOp op T (a.eval x) (a.eval y):Sem Value).run P w= .ok r.val w:=by
 unfold boK at h
 split at h
 · rename_i v
   obtain⟨⟨r,hk,hr⟩,he⟩:=binK_elim h
   refine⟨r,hk,fun a g hs w=>?_⟩
   rw[ofV_val] at hr he
   have e1:(eqGuard op T x (.const v) (a.eval x) v).run P w= .ok () w:=by
     rw[hs]
     rcases he with he|⟨h1,h2⟩
     · exact eqGuard_easy w he
     · rw[h1,h2];exact eqGuard_nil w
   simp only[Sem.run_bind,Act.eval] at e1 ⊢
   rw[e1]
   simp only[Result.andThen_ok]
   have hs':a.eval x=s.val:=hs
   unfold Act.eval at hs'
   rw[hs']
   exact hr w
 · obtain⟨b,h,hb⟩:=evK_elim h
   split at h
   · exact h.elim
   · split at h
     · rename_i l l' _ r hr
       obtain⟨t,ht,hw⟩:=eqAg_run hr op x y K h
       refine⟨t,ht,fun a g hs w=>?_⟩
       rw[hs,hb a g];exact hw w
     · exact h.elim
   · split at h
     · rename_i hm
       subst hm
       split at h
       · rename_i r hr
         obtain⟨t,ht,hw⟩:=eqWs_run hr op x y K h
         refine⟨t,ht,fun a g hs w=>?_⟩
         rw[hs,hb a g];exact hw w
       · exact h.elim
     · exact h.elim
   · rename_i hv _ _
     obtain⟨⟨r,hk,hr⟩,he⟩:=binK_elim h
     refine⟨r,hk,fun a g hs w=>?_⟩
     rw[hs,hb a g]
     have e1:(eqGuard op T x y s.val b.val).run P w= .ok () w:=by
       rcases he with he|⟨h1,h2⟩
       · exact eqGuard_easy w he
       · exfalso
         cases b<;>first|(simp[SV.val,vu,vp,vpn,vs,undef] at h2;done)|exact hv _ rfl
     simp[e1,hr]
def pureK (P:Program) (n:Nat) (o:Op) (ty:TypeId) (e:Env) (K:SV→Prop):Prop :=
 match o with
 | .move x=>evT n (tyOf P 9 ty) e x K
 | .assign x=>evT n (tyOf P 9 ty) e x K
 | .pick c a b=>evK n e c fun c=>evK n e a fun a=>evK n e b fun b=>pkK c a b K
 | .nilCheck x=>evK n e x fun a=>ncK a K
 | .binOp op T x y _=>evK n e x fun a=>boK P n op T y e a K
 | .unOp op _ x=>evK n e x fun a=>unK op a K
 | .convert s d x=>evK n e x fun a=>convK P s d a K
 | .fieldAddr s x i=>match fOff P s i with
   | some off=>evK n e x fun a=>match a with| .p q=>K (.p ⟨q.b,q.o+off⟩)|_=>False
   | none=>False
 | .field s x i=>evK n e x fun a=>match a with| .ag l=>fldK P s i l K|_=>False
 | .indexAddr T x ix=>evK n e x fun a=>evK n e ix fun j=>numK j fun _ j=>ixAddrK P T a j K
 | .index T x ix=>evK n e x fun a=>evK n e ix fun j=>numK j fun _ j=>ixK P T a j K
 | .extract x i=>evK n e x fun a=>match a with| .tup l=>(match l[i]? with|some r=>K r|none=>False)|_=>False
 | .slice T x lo hi mx=>evK n e x fun a=>oOp n e lo fun l=>oOp n e hi fun h=>oOp n e mx fun m=>sliceK P T a l h m K
 | .makeFunc (.func g) first captured=>if first.size=0 then evKs n e captured.toList fun c=>K (.f g c) else False
 | .makeInterface T x=>match P.underlying T with
   | some (.interface _)=>False
   | some _=>evT n (tyOf P 9 T) e x fun a=>K (.v (.iface T a.val))
   | none=>False
 | .build T ps=>ptK P n e (ptTy P T) ps.toList fun ps=>bldK P T ps K
 | .call { callee:= .builtin b,args,argTypes }=>evKs n e args.toList fun xs=>bltK P b argTypes xs K
 | _=>False
theorem pkK_elim {c a b:SV} {K:SV→Prop} (h:pkK c a b K):∃r t,K r∧c.val= .bool t∧r.val=if t then a.val else b.val:=by
 unfold pkK at h
 split at h
 · rename_i c a b
   exact⟨_,c,h,rfl,by cases c<;>rfl⟩
 · rename_i c _
   cases c
   · exact⟨_,false,h,rfl,rfl⟩
   · exact⟨_,true,h,rfl,rfl⟩
 · exact h.elim
theorem pureK_elim {P:Program} {n:Nat} {e:Env} {K:SV→Prop} {x:Oper} (h:pureK P n x.op x.type e K) :
   ∃r,K r∧∀a,Good n e a→∀w,(execOp a.eval x).run P w= .ok (.value r.val) w:=by
 obtain⟨dst,op,ty,pos,after,guard⟩:=x
 simp only at h
 unfold pureK at h
 split at h
 · obtain⟨s,hk,hs⟩:=evT_elim h
   exact⟨s,hk,fun a g w=>by simp[execOp,hs a g]⟩
 · obtain⟨s,hk,hs⟩:=evT_elim h
   exact⟨s,hk,fun a g w=>by simp[execOp,hs a g]⟩
 · obtain⟨c,h,hc⟩:=evK_elim h
   obtain⟨x,h,hx⟩:=evK_elim h
   obtain⟨y,h,hy⟩:=evK_elim h
   obtain⟨r,t,hk,ht,hr⟩:=pkK_elim h
   exact⟨r,hk,fun a g w=>by simp[execOp,hc a g,hx a g,hy a g,ht,asBool,hr]⟩
 · obtain⟨x,h,hx⟩:=evK_elim h
   unfold ncK at h
   split at h
   · exact⟨_,h,fun a g w=>by simp[execOp,hx a g,SV.val,vp]⟩
   · obtain⟨p,rfl,hk⟩:=h
     exact⟨_,hk,fun a g w=>by simp[execOp,hx a g,SV.val,vpn,vp]⟩
   · exact⟨_,h,fun a g w=>by simp[execOp,hx a g,SV.val]⟩
   · exact h.elim
 · rename_i op T x y yT
   obtain⟨s,h,hs⟩:=evK_elim h
   obtain⟨r,hk,hr⟩:=boK_elim (x:=x) h
   refine⟨r,hk,fun a g w=>?_⟩
   have:=hr a g (hs a g) w
   simp only[execOp,Sem.run_bind] at this ⊢
   simp[this]
 · obtain⟨s,h,hs⟩:=evK_elim h
   obtain⟨r,hk,hr⟩:=unK_elim (P:=P) h
   exact⟨r,hk,fun a g w=>by simp[execOp,hs a g,hr]⟩
 · obtain⟨s,h,hs⟩:=evK_elim h
   obtain⟨r,hk,hr⟩:=convK_elim (P:=P) h
   exact⟨r,hk,fun a g w=>by simp[execOp,hs a g,hr]⟩
 · split at h
   · rename_i off ho
     obtain⟨s,h,hs⟩:=evK_elim h
     split at h
     · rename_i q
       exact⟨_,h,fun a g w=>by simp only[execOp,Sem.run_bind,hs a g,SV.val,run_fieldAt ho];rfl⟩
     · exact h.elim
   · exact h.elim
 · obtain⟨s,h,hs⟩:=evK_elim h
   split at h
   · rename_i l
     obtain⟨r,hk,hr⟩:=fldK_elim h
     exact⟨r,hk,fun a g w=>by simp[execOp,hs a g,hr]⟩
   · exact h.elim
 · obtain⟨s,h,hs⟩:=evK_elim h
   obtain⟨j,h,hj⟩:=evK_elim h
   obtain⟨k,i,hi,h⟩:=numK_elim h
   obtain⟨r,hk,hr⟩:=ixAddrK_elim (k:=k) h
   exact⟨r,hk,fun a g w=>by simp[execOp,hs a g,hj a g,hi,hr]⟩
 · obtain⟨s,h,hs⟩:=evK_elim h
   obtain⟨j,h,hj⟩:=evK_elim h
   obtain⟨k,i,hi,h⟩:=numK_elim h
   obtain⟨r,hk,hr⟩:=ixK_elim (k:=k) h
   exact⟨r,hk,fun a g w=>by simp[execOp,hs a g,hj a g,hi,hr]⟩
 · obtain⟨s,h,hs⟩:=evK_elim h
   split at h
   · rename_i l
     split at h
     · rename_i r hr
       refine⟨r,h,fun a g w=>?_⟩
       have:∀j:Nat,l[j]? =some r→(SV.vals l)[j]? =some r.val:=by
         have key:∀(l:List SV) (i:Nat) (r:SV),l[i]? =some r→(SV.vals l)[i]? =some r.val:=by
           intro l
           induction l with
           | nil=>intro i r h;simp at h
           | cons x l ih =>
             intro i r h
             cases i with
             | zero=>simp at h;subst h;rfl
             | succ i=>simpa [SV.vals] using ih i r (by simpa using h)
         exact fun j hj=>key l j r hj
       simp[execOp,hs a g,SV.val,Instr.extract,this _ hr]
     · exact h.elim
   · exact h.elim
 · obtain⟨s,h,hs⟩:=evK_elim h
   obtain⟨lo,h,h1⟩:=oOp_elim h
   obtain⟨hi,h,h2⟩:=oOp_elim h
   obtain⟨mx,h,h3⟩:=oOp_elim h
   obtain⟨r,hk,hr⟩:=sliceK_elim h
   exact⟨r,hk,fun a g w=>by simp only[execOp,Sem.run_bind,hs a g,h1 a g,h2 a g,h3 a g,hr];rfl⟩
 · split at h
   · rename_i g first captured hf
     obtain⟨r,hk,hr⟩:=evKs_elim _ _ h
     refine⟨_,hk,fun a gd w=>?_⟩
     have h1:first=#[]:=Array.size_eq_zero_iff.1 hf
     subst h1
     have h2:(captured.map a.eval)=(SV.vals r).toArray:=by
       apply Array.toList_inj.1
       simp[hr a gd]
     simp[execOp,Instr.makeFunc,h2,SV.val]
   · exact h.elim
 · split at h
   · exact h.elim
   · rename_i T x d hni hu
     obtain⟨s,h,hs⟩:=evT_elim h
     refine⟨_,h,fun a g w=>?_⟩
     simp only[execOp,Sem.run_bind,Instr.makeInterface,run_underlying hu,Result.andThen_ok]
     simp[hs a g,SV.val]
   · exact h.elim
 · rename_i T ps
   obtain⟨r,h,hr⟩:=ptK_elim _ _ h
   obtain⟨v,hk,hv⟩:=bldK_elim h
   refine⟨v,hk,fun a g w=>?_⟩
   have:(ps.map fun x=>(x.1,a.eval x.2))=(r.map fun x=>(x.1,x.2.val)).toArray:=by
     apply Array.toList_inj.1
     simp[hr a g]
   simp only[execOp,Sem.run_bind,this,hv]
   rfl
 · rename_i b args ats
   obtain⟨r,h,hr⟩:=evKs_elim _ _ h
   obtain⟨v,hk,hv⟩:=bltK_elim (ty:=ty) (cs:=args.map fun| .const _=>true|_=>false) h
   refine⟨v,hk,fun a g w=>?_⟩
   have:args.map a.eval=(SV.vals r).toArray:=by
     apply Array.toList_inj.1
     simp[hr a g]
   simp only[execOp,Sem.run_bind,resolve,Sem.run_pure,Result.andThen_ok,invoke,this]
   exact hv w
 · exact h.elim
end Go.Sh

import Derived.Test.YtofgadhgljjhgaaGreatShPure
import Derived.Laws.StructEq
import Derived.ChangeKeysEq
namespace Go.cD
open Go Go.RowKit
def yi (s:af)(K:IntKind->Int->Prop):Prop :=
 match s with
 | .i k n=>K k n
 | .u x=>K .u64 (x.toNat:Int)
 | _=>False
theorem GU {s:af}{K:IntKind->Int->Prop}(h:yi s K):∃k n,s.val= .int k n/\K k n:=by
 cases s<;>first|exact h.elim|exact⟨_,_,rfl,h⟩
def wg (n:Nat)(e:Env):List Operand->(List af->Prop)->Prop
 | [],K=>K []
 | x::l,K=>hN n e x λs=>wg n e l λr=>K (s::r)
theorem RJ {n:Nat}{e:Env}:∀(l:List Operand) (K:List af->Prop),wg n e l K->∃r,K r/\∀a,Good n e a->l.map a.eval=af.bB r
 | [],K,h=>⟨[],h,λ_ _=>rfl⟩
 | x::l,K,h=>by
  obtain⟨s,aU,aa⟩:=jP h
  obtain⟨r,aP,ad⟩:=RJ l _ aU
  exact⟨_,aP,λa g=>by simp[af.bB,aa a g,ad a g]⟩
def ra (P:Program)(T:TypeId):Option Bool :=
 match P.underlying T with
 | some (.struct _)=>some true
 | some (.array _ _)=>some true
 | some _=>some false
 | none=>none
theorem GP {P:Program}{T:TypeId}{b:Bool}(h:ra P T=some b)(w:World):(isAgg T).run P w= .ok b w:=by
 unfold ra at h
 unfold isAgg
 simp only[Sem.run_bind]
 split at h
 .rename_i hu;rw[run_underlying hu];simp at h;subst h;rfl
 .rename_i hu;rw[run_underlying hu];simp at h;subst h;rfl
 .rename_i d ai aB hu
  rw[run_underlying hu];simp at h;subst h
  simp only[Result.andThen_ok]
  rfl
 .cases h
def jQ (P:Program)(T:TypeId):Option Nat:=(P.info? T).map (·.size)
theorem mZ {P:Program}{T:TypeId}{n:Nat}(h:jQ P T=some n)(w:World):(sizeOf T).run P w= .ok n w:=by
 unfold jQ at h
 cases hi:P.info? T with
 | none=>simp[hi] at h
 | some i =>
  simp[hi] at h
  simp[sizeOf,typeInfo,hi,h]
def af.r1:af->Bool
 | .dt _=>true
 | .ws _ _=>true
 | _=>false
theorem af.K6 {s:af}(h:s.r1=true):s.val= .agg (af.cells s).toArray:=by
 cases s<;>first|cases h|skip
 .simp only[af.val,af.cells];congr 1;apply Array.toList_inj.1;simp[Vector.toList]
 .rfl
theorem af.adn {s:af}(h:s.r1=false):af.cells s=[s.val]:=by
 cases s<;>first|rfl|cases h
def RK (P:Program)(s:TypeId)(i:Nat):Option Nat :=
 match P.underlying s with
 | some (.struct fU)=>match fU[i]? with
  | some f=>match jQ P f.type with
   | some 0=>none
   | some _=>some f.offset
   | none=>none
  | none=>none
 | _=>none
theorem av7 {P:Program}{s:TypeId}{i off:Nat}(h:RK P s i=some off)(q:aD)(w:World) :
 (Instr.fieldAt s (bg q) i).run P w= .ok (bg ⟨q.b,q.o+off⟩) w:=by
 unfold RK at h
 split at h
 .rename_i fU aU
  split at h
  .rename_i f a_
   split at h
   .cases h
   .rename_i n aH bc
    simp at h
    subst h
    have J7:n≠0:=λe=>aH e
    simp only[Instr.fieldAt,Sem.run_bind,run_underlying aU,Result.andThen_ok,a_,Instr.sureAddr,bg,Sem.run_pure,fieldPlace,mZ bc,J7,if_false,v7]
   .cases h
  .cases h
 .cases h
def GV (P:Program)(s:TypeId)(i:Nat)(l:List af)(K:af->Prop):Prop :=
 match P.underlying s with
 | some (.struct fU)=>match fU[i]?,l[i]? with
  | some f,some r=>if f.offset=af.q8 (l.take i)/\jQ P f.type=some r.size/\ra P f.type=some r.r1 then K r else False
  | _,_=>False
 | _=>False
theorem RL (l fx:List af):af.gn (l++fx)=af.gn l++af.gn fx:=by
 induction l with
 | nil=>rfl
 | cons a l dK=>simp[af.gn,dK]
theorem av8 {P:Program}{T:TypeId}{off:Nat}{pre post:List Value}{r:af}(aa:off=pre.length)(ad:jQ P T=some r.size)(an:ra P T=some r.r1)(w:World) :
 (part T (pre++af.cells r++post).toArray off).run P w= .ok r.val w:=by
 subst aa
 unfold part
 simp only[Sem.run_bind,GP an,Result.andThen_ok]
 have aT:=af.v8 r
 cases aP:r.r1 with
 | true =>
  simp only[if_true,Sem.run_bind,mZ ad,Result.andThen_ok,Sem.run_pure]
  rw[af.K6 aP]
  congr 2
  apply Array.toList_inj.1
  simp[<-aT]
 | false =>
  simp only[Bool.false_eq_true,if_false]
  have aZ:=af.adn aP
  rw[aZ]
  simp
theorem av9 {P:Program}{s:TypeId}{i:Nat}{l:List af}{K:af->Prop}(h:GV P s i l K) :
 ∃r,K r/\∀w,(Instr.field s (af.val (.dt l)) i).run P w= .ok r.val w:=by
 unfold GV at h
 split at h
 .rename_i fU aU
  split at h
  .rename_i f r a_ aP
   split at h
   .rename_i aZ
    refine⟨r,h,λw=>?_⟩
    obtain⟨aa,ad,an⟩:=aZ
    simp only[Instr.field,Sem.run_bind,run_underlying aU,Result.andThen_ok,a_,af.val,asAgg,Sem.run_pure]
    obtain⟨hi,Rz⟩:=List.getElem?_eq_some_iff.1 aP
    have e:l=l.take i++r::l.drop (i+1):=by
     conv=>lhs;rw[<-List.take_append_drop i l,List.drop_eq_getElem_cons hi,Rz]
    have a8:af.gn l=af.gn (l.take i)++af.cells r++af.gn (l.drop (i+1)):=by
     conv=>lhs;rw[e,RL]
     simp[af.gn]
    rw[a8]
    exact av8 (by rw[aa,af.KP]) ad an w
   .exact h.elim
  .exact h.elim
 .exact h.elim
def GW (P:Program)(T:TypeId)(x:af)(i:Int)(K:af->Prop):Prop :=
 match P.underlying T,x with
 | some (.slice el),.s x=>match jQ P el with
  | some dA=>∃q,x.q=some q/\0<=i/\i<x.len/\K (.p ⟨q.b,q.o+i.toNat*dA⟩)
  | none=>False
 | some (.array len el),.p q=>match jQ P el with
  | some dA=>0<=i/\i<len/\K (.p ⟨q.b,q.o+i.toNat*dA⟩)
  | none=>False
 | _,_=>False
theorem av_ {P:Program}{T:TypeId}{x:af}{k:IntKind}{i:Int}{K:af->Prop}(h:GW P T x i K) :
 ∃r,K r/\∀w,(Instr.indexAt T x.val (.int k i)).run P w= .ok r.val w:=by
 unfold GW at h
 split at h
 .rename_i el x hu
  split at h
  .rename_i dA bc
   obtain⟨q,aj,h0,aa,ag⟩:=h
   refine⟨_,ag,λw=>?_⟩
   simp only[Instr.indexAt,asIntOf,Sem.run_bind,run_underlying hu,Result.andThen_ok,Sem.run_pure,af.val,bb,ar.GG aj]
   simp[h0,aa,mZ bc,v7,bg]
  .exact h.elim
 .rename_i len el q hu
  split at h
  .rename_i dA bc
   obtain⟨h0,aa,ag⟩:=h
   refine⟨_,ag,λw=>?_⟩
   simp only[Instr.indexAt,asIntOf,Sem.run_bind,run_underlying hu,Result.andThen_ok,Sem.run_pure,af.val,bg,Instr.sureAddr]
   simp[h0,aa,mZ bc,v7]
  .exact h.elim
 .exact h.elim
def GX (P:Program)(T:TypeId)(x:af)(i:Int)(K:af->Prop):Prop :=
 match P.underlying T,x with
 | some (.array len el),.ws n c=>if len=n/\jQ P el=some 1/\ra P el=some false then 0<=i/\∃h:i.toNat<n,K (.u c[i.toNat]) else False
 | some .string,.str s=>0<=i/\∃h:i.toNat<s.size,K (.i .u8 (s[i.toNat].toNat:Int))
 | _,_=>False
theorem awa {P:Program}{T:TypeId}{x:af}{k:IntKind}{i:Int}{K:af->Prop}(h:GX P T x i K) :
 ∃r,K r/\∀w,(Instr.index T x.val (.int k i)).run P w= .ok r.val w:=by
 unfold GX at h
 split at h
 .rename_i len el n c hu
  split at h
  .rename_i aZ
   obtain⟨rfl,aa,ad⟩:=aZ
   obtain⟨h0,hi,ag⟩:=h
   refine⟨_,ag,λw=>?_⟩
   have ca:i<len:=by omega
   simp only[Instr.index,asIntOf,Sem.run_bind,run_underlying hu,Result.andThen_ok,Sem.run_pure,af.val]
   simp only[h0,ca,and_self,if_true,Sem.run_bind,mZ aa,Result.andThen_ok,part,GP ad,Bool.false_eq_true,if_false]
   simp[hi]
  .exact h.elim
 .rename_i s hu
  obtain⟨h0,hi,ag⟩:=h
  refine⟨_,ag,λw=>?_⟩
  simp only[Instr.index,asIntOf,Sem.run_bind,run_underlying hu,Result.andThen_ok,Sem.run_pure,af.val]
  have:s[i.toNat]? =some s[i.toNat]:=by simp[hi]
  simp[h0,this]
 .exact h.elim
def r3 (x:af)(yj:Nat)(K:Nat->Prop):Prop:=yi x λ_ i=>0<=i/\i<=yj/\K i.toNat
theorem wo {P:Program}{x:af}{yj:Nat}{K:Nat->Prop}(h:r3 x yj K) :
 ∃m,m<=yj/\K m/\∀c w,(Instr.sliceBound x.val yj c).run P w= .ok m w:=by
 obtain⟨k,i,ai,h0,aa,ag⟩:=GU h
 refine⟨_,by omega,ag,λc w=>?_⟩
 simp only[Instr.sliceBound,ai,asIntOf,Sem.run_bind,Sem.run_pure,Result.andThen_ok]
 rw[if_pos ⟨h0,aa⟩];rfl
def qk (len cap:Nat)(lo hi k3:Option af)(K:Nat->Nat->Nat->Prop):Prop :=
 match lo,hi,k3 with
 | none,none,none=>K 0 len cap
 | some l,none,none=>r3 l len λl=>K l len cap
 | none,some h,none=>r3 h cap λh=>K 0 h cap
 | some l,some h,none=>r3 h cap λh=>r3 l h λl=>K l h cap
 | none,some h,some m=>r3 m cap λm=>r3 h m λh=>K 0 h m
 | some l,some h,some m=>r3 m cap λm=>r3 h m λh=>r3 l h λl=>K l h m
 | _,none,some _=>False
theorem RM {P:Program}{len cap:Nat}{lo hi k3:Option af}{K:Nat->Nat->Nat->Prop}(h:qk len cap lo hi k3 K) :
 ∃l h m,K l h m/\∀b w,(Instr.sliceBounds b len cap (lo.map af.val) (hi.map af.val) (k3.map af.val)).run P w= .ok (l,h,m) w:=by
 unfold qk at h
 split at h
 .exact⟨_,_,_,h,λb w=>by simp[Instr.sliceBounds]⟩
 .obtain⟨l,_,ag,aP⟩:=wo (P:=P) h
  exact⟨_,_,_,ag,λb w=>by simp[Instr.sliceBounds,aP]⟩
 .obtain⟨l,_,ag,aP⟩:=wo (P:=P) h
  exact⟨_,_,_,ag,λb w=>by simp[Instr.sliceBounds,aP]⟩
 .obtain⟨l,_,ag,aP⟩:=wo (P:=P) h
  obtain⟨gx,_,ag,nb⟩:=wo (P:=P) ag
  exact⟨_,_,_,ag,λb w=>by simp[Instr.sliceBounds,aP,nb]⟩
 .obtain⟨l,_,ag,aP⟩:=wo (P:=P) h
  obtain⟨gx,_,ag,nb⟩:=wo (P:=P) ag
  exact⟨_,_,_,ag,λb w=>by simp[Instr.sliceBounds,aP,nb]⟩
 .obtain⟨l,_,ag,aP⟩:=wo (P:=P) h
  obtain⟨gx,_,ag,nb⟩:=wo (P:=P) ag
  obtain⟨o6,_,ag,awb⟩:=wo (P:=P) ag
  exact⟨_,_,_,ag,λb w=>by simp[Instr.sliceBounds,aP,nb,awb]⟩
 .exact h.elim
def gA (p:Option aD)(l m dA:Nat):Option aD:=if m=l then p else p.map λq=>⟨q.b,q.o+l*dA⟩
def iL (z:Option Nat)(l m dA:Nat):Option Nat:=if m=l∨l*dA=0 then z else none
def GY (P:Program)(T:TypeId)(x:af)(lo hi k3:Option af)(K:af->Prop):Prop :=
 match P.underlying T,x with
 | some (.slice el),.s x=>match jQ P el with
  | some dA=>qk x.len x.cap lo hi k3 λl h m=>K (.s ⟨gA x.p l m dA,h-l,m-l,iL x.z l m dA⟩)
  | none=>False
 | some (.array len el),.p q=>match jQ P el with
  | some dA=>qk len len lo hi k3 λl h m=>K (.s ⟨gA (some q) l m dA,h-l,m-l,none⟩)
  | none=>False
 | some .string,.str s=>match k3 with
  | none=>qk s.size s.size lo hi none λl h _=>K (.str (s.extract l h))
  | some _=>False
 | _,_=>False
theorem awc (x:ar)(l m dA a b:Nat):ar.addr ⟨gA x.p l m dA,a,b,iL x.z l m dA⟩=(if m=l then x.addr else x.addr.map (·.add (l*dA))):=by
 obtain⟨p,n,c,z⟩:=x
 simp only[ar.addr,gA,iL]
 by_cases aa:m=l
 .simp[aa]
 .cases p with
  | none=>simp[aa]
  | some q =>
   by_cases ad:l*dA=0
   .simp only[aa,if_false,Option.map_some,ad,Addr.add,if_true,or_true,Nat.add_zero]
   .simp only[aa,if_false,Option.map_some,ad,Addr.add,or_self]
theorem awd (q:aD)(l m dA a b:Nat):ar.addr ⟨gA (some q) l m dA,a,b,none⟩=(if m=l then some q.addr else some (q.addr.add (l*dA))):=by
 simp only[ar.addr,gA]
 by_cases aa:m=l
 .simp[aa,aD.addr]
 .simp only[aa,if_false,Option.map_some,v7];rfl
theorem awe {P:Program}{T:TypeId}{x:af}{lo hi k3:Option af}{K:af->Prop}(h:GY P T x lo hi k3 K) :
 ∃r,K r/\∀w,(Instr.sliceAt T x.val (lo.map af.val) (hi.map af.val) (k3.map af.val)).run P w= .ok r.val w:=by
 unfold GY at h
 split at h
 .rename_i el x hu
  split at h
  .rename_i dA bc
   obtain⟨l,ah,m,ag,aP⟩:=RM (P:=P) h
   refine⟨_,ag,λw=>?_⟩
   simp only[Instr.sliceAt,Instr.slice,Sem.run_bind,run_underlying hu,Result.andThen_ok,af.val,bb,aP,mZ bc,Sem.run_pure,awc]
  .exact h.elim
 .rename_i len el q hu
  split at h
  .rename_i dA bc
   obtain⟨l,ah,m,ag,aP⟩:=RM (P:=P) h
   refine⟨_,ag,λw=>?_⟩
   simp only[Instr.sliceAt,Sem.run_bind,run_underlying hu,Result.andThen_ok,af.val,bb,bg,aP,mZ bc,Sem.run_pure,awd,Instr.sureAddr]
   split<;>rfl
  .exact h.elim
 .rename_i s hu
  split at h
  .obtain⟨l,ah,m,ag,aP⟩:=RM (P:=P) h
   refine⟨_,ag,λw=>?_⟩
   simp only[Option.map_none] at aP
   simp only[Instr.sliceAt,Instr.slice,Sem.run_bind,run_underlying hu,Result.andThen_ok,af.val,Option.map_none,Option.isSome_none,Bool.false_eq_true,if_false,aP,Sem.run_pure]
  .exact h.elim
 .exact h.elim
def uw (P:Program)(T:TypeId):Option Value:=(P.info? T).bind (·.zero)
theorem An {P:Program}{T:TypeId}{v:Value}(h:uw P T=some v)(w:World):(zeroValue T).run P w= .ok v w:=by
 unfold uw at h
 cases hi:P.info? T with
 | none=>simp[hi] at h
 | some i =>
  simp[hi] at h
  simp[zeroValue,typeInfo,hi,h]
theorem adu (post:List Value)(off:Nat):∀(l old pre:List Value) (k:Nat),l.length=old.length->off+k=pre.length ->
 (l.zipIdx k).foldl (λcs x=>cs.setIfInBounds (off+x.2) x.1) (pre++old++post).toArray=(pre++l++post).toArray
 | [],old,pre,k,h,_=>by
  obtain rfl:old=[]:=List.length_eq_zero_iff.1 h.symm
  rfl
 | c::l,[],pre,k,h,_=>by simp at h
 | c::l,o::old,pre,k,h,ag=>by
  simp only[List.zipIdx_cons,List.foldl_cons]
  have e:(pre++(o::old)++post).toArray.setIfInBounds (off+k) c=((pre++[c])++old++post).toArray:=by
   rw[ag];simp
  rw[e,adu post off l old (pre++[c]) (k+1) (by simpa using h) (by simp;omega)]
  simp
theorem RB {place:Nat->Option (Nat×Nat)}{i off:Nat}{v:Value}{l old pre post:List Value}{rest:List (Nat×Value)}
 (aS:place i=some (off,l.length)) (bQ:v.cells=l.toArray) (dS:old.length=l.length) (qp:off=pre.length) :
 Instr.fill place (pre++old++post).toArray ((i,v)::rest)=Instr.fill place (pre++l++post).toArray rest:=by
 simp only[Instr.fill,aS,bQ]
 rw[if_neg (by simp;omega)]
 congr 1
 have:=adu post off l old pre 0 dS.symm (by omega)
 rw[<-this,<-Array.foldl_toList]
 simp
def Ar (P:Program)(fU:Array Field):List (Nat×af)->List af->(List af->Prop)->Prop
 | [],l,K=>K l
 | (i,r)::cx,l,K =>
  match fU[i]?,l[i]? with
  | some f,some old=>if f.offset=af.q8 (l.take i)/\jQ P f.type=some r.size/\old.size=r.size then mC r (Ar P fU cx (l.set i r) K) else False
  | _,_=>False
def K9 (P:Program)(fU:Array Field):Array (Nat×Nat):=fU.map λf=>(f.offset,(jQ P f.type).getD 0)
theorem run_places {P:Program}{fU:Array Field}(h:fU.toList.all (λf=>(jQ P f.type).isSome)=true)(w:World) :
 (fU.mapM λf=>(do pure (f.offset,<-sizeOf f.type):Sem (Nat×Nat))).run P w= .ok (K9 P fU) w:=by
 obtain⟨l⟩:=fU
 unfold K9
 rw[<-Array.toArray_toList (xs:=(⟨l⟩:Array Field)),List.mapM_toArray]
 simp only[Sem.run_map]
 have key:∀l:List Field,l.all (λf=>(jQ P f.type).isSome)=true ->
  (l.mapM λf=>(do pure (f.offset,<-sizeOf f.type):Sem (Nat×Nat))).run P w= .ok (l.map λf=>(f.offset,(jQ P f.type).getD 0)) w:=by
  intro l aT
  induction l with
  | nil=>simp
  | cons f l dK =>
   simp only[List.all_cons,Bool.and_eq_true] at aT
   obtain⟨n,aH⟩:=Option.isSome_iff_exists.1 aT.1
   simp only[List.mapM_cons,Sem.run_bind,mZ aH,Result.andThen_ok,Sem.run_pure,dK aT.2,List.map_cons,aH,Option.getD_some]
 rw[key l h]
 simp
theorem awf (l:List af)(i:Nat)(r:af)(hi:i<l.length):af.gn l=af.gn (l.take i)++af.cells l[i]++af.gn (l.drop (i+1)) /\
 af.gn (l.set i r)=af.gn (l.take i)++af.cells r++af.gn (l.drop (i+1)):=by
 constructor
 .conv=>lhs;rw[<-List.take_append_drop i l,List.drop_eq_getElem_cons hi,RL]
  simp[af.gn]
 .rw[List.set_eq_take_append_cons_drop,if_pos hi,RL]
  simp[af.gn]
theorem adv {P:Program}{fU:Array Field}:∀(cx:List (Nat×af)) (l:List af) (K:List af->Prop),Ar P fU cx l K ->
 ∃fx,K fx/\Instr.fill ((K9 P fU)[·]?) (af.gn l).toArray (cx.map λx=>(x.1,x.2.val))=some (af.gn fx).toArray
 | [],l,K,h=>⟨l,h,rfl⟩
 | (i,r)::cx,l,K,h=>by
  simp only[Ar] at h
  split at h
  .rename_i f old a_ dS
   split at h
   .rename_i aZ
    obtain⟨aa,ad,an⟩:=aZ
    obtain⟨aK,h⟩:=x2 h
    obtain⟨fx,ag,awg⟩:=adv cx _ K h
    refine⟨fx,ag,?_⟩
    rw[<-awg]
    obtain⟨hi,rL⟩:=List.getElem?_eq_some_iff.1 dS
    obtain⟨aF,a8⟩:=awf l i r hi
    rw[aF,a8,rL]
    refine RB (off:=f.offset) ?_ (af.KO r aK) ?_ (by rw[aa,af.KP])
    .simp[K9,a_,ad,af.v8]
    .rw[af.v8,af.v8,an]
   .exact h.elim
  .exact h.elim
def As (n:Nat):List (Nat×af)->Vector UInt64 n->(Vector UInt64 n->Prop)->Prop
 | [],c,K=>K c
 | (i,.u x)::cx,c,K=>if h:i<n then As n cx (c.set i x) K else False
 | _::_,_,_=>False
theorem awh {n:Nat}:∀(cx:List (Nat×af)) (c:Vector UInt64 n) (K:Vector UInt64 n->Prop),As n cx c K ->
 ∃cc,K cc/\Instr.fill (λi=>some (i*1,1)) (c.toList.map ab).toArray (cx.map λx=>(x.1,x.2.val))=some (cc.toList.map ab).toArray:=by
 intro cx
 induction cx with
 | nil=>exact λc K h=>⟨c,h,rfl⟩
 | cons p cx dK =>
  intro c K h
  obtain⟨i,r⟩:=p
  cases r<;>try exact h.elim
  rename_i x
  simp only[As] at h
  split at h
  .rename_i hi
   obtain⟨cc,ag,mx⟩:=dK _ K h
   refine⟨cc,ag,?_⟩
   rw[<-mx]
   have aT:i<(c.toList.map ab).length:=by simpa using hi
   have aF:c.toList.map ab=(c.toList.map ab).take i++[(c.toList.map ab)[i]]++(c.toList.map ab).drop (i+1):=by
    conv=>lhs;rw[<-List.take_append_drop i (c.toList.map ab),List.drop_eq_getElem_cons aT]
    simp
   have a8:(c.set i x).toList.map ab=(c.toList.map ab).take i++[ab x]++(c.toList.map ab).drop (i+1):=by
    simp only[Vector.toList_set,List.map_set]
    rw[List.set_eq_take_append_cons_drop,if_pos aT]
    simp
   rw[a8]
   conv=>lhs;rw[aF]
   refine RB (off:=i*1) rfl rfl rfl ?_
   simp;omega
  .exact h.elim
def GZ (P:Program)(T:TypeId)(cx:List (Nat×af))(K:af->Prop):Prop :=
 match P.underlying T,uw P T with
 | some (.struct fU),some z=>match G0 (lP P 9 T) z with
  | .dt l=>if fU.toList.all (λf=>(jQ P f.type).isSome)=true then Ar P fU cx l λl=>K (.dt l) else False
  | _=>False
 | some (.array _ el),some z=>match G0 (lP P 9 T) z with
  | .ws n c=>if jQ P el=some 1 then As n cx c λc=>K (.ws n c) else False
  | _=>False
 | _,_=>False
theorem awi {P:Program}{T:TypeId}{cx:List (Nat×af)}{K:af->Prop}(h:GZ P T cx K) :
 ∃r,K r/\∀w,(Instr.build T (cx.map λx=>(x.1,x.2.val)).toArray).run P w= .ok r.val w:=by
 unfold GZ at h
 split at h
 .rename_i fU z hu bc
  split at h
  .rename_i l aT
   split at h
   .rename_i bO
    obtain⟨fx,ag,a_⟩:=adv cx l _ h
    refine⟨_,ag,λw=>?_⟩
    have G1:=RN (lP P 9 T) z
    rw[aT] at G1
    simp only[Instr.build,Sem.run_bind,An bc,Result.andThen_ok,run_underlying hu,run_places bO]
    rw[<-G1]
    simp only[af.val,Value.cells]
    rw[a_];rfl
   .exact h.elim
  .exact h.elim
 .rename_i len el z hu bc
  split at h
  .rename_i n c aT
   split at h
   .rename_i bO
    obtain⟨cc,ag,a_⟩:=awh cx c _ h
    refine⟨_,ag,λw=>?_⟩
    have G1:=RN (lP P 9 T) z
    rw[aT] at G1
    simp only[Instr.build,Sem.run_bind,An bc,Result.andThen_ok,run_underlying hu,mZ bO]
    rw[<-G1,af.K6 (s:= .ws n c) rfl,af.K6 (s:= .ws n cc) rfl]
    simp only[Value.cells,af.cells]
    rw[a_];rfl
   .exact h.elim
  .exact h.elim
 .exact h.elim
def G2 (P:Program)(T:TypeId)(x:af)(K:af->Prop):Prop :=
 match P.underlying T,x with
 | some (.slice _),.s x=>K (.i .i64 x.len)
 | some .string,.str s=>K (.i .i64 s.size)
 | some (.array k _),_=>K (.i .i64 k)
 | _,_=>False
theorem awj {P:Program}{T:TypeId}{x:af}{K:af->Prop}{ats:Array TypeId}{ty:TypeId}(h:G2 P T x K)(bO:ats[0]? =some T) :
 ∃r,K r/\∀w,(Builtin.len_ ats ty #[x.val]).run P w= .ok r.val w:=by
 unfold G2 at h
 split at h
 .rename_i hu
  exact⟨_,h,λw=>by simp[Builtin.len_,bO,run_underlying hu,af.val,bb,goInt]⟩
 .rename_i hu
  exact⟨_,h,λw=>by simp[Builtin.len_,bO,run_underlying hu,af.val,goInt]⟩
 .rename_i hu
  exact⟨_,h,λw=>by simp[Builtin.len_,bO,run_underlying hu,af.val,goInt]⟩
 .exact h.elim
def yl (k3:Bool)(x y:af)(K:af->Prop):Prop :=
 match x,y with
 | .i k a,.i _ b=>K (.i k (cond k3 (max a b) (min a b)))
 | .u a,.u b=>K (.u (cond k3 (max a b) (min a b)))
 | _,_=>False
theorem adw (a b:Int):(if b > a then b else a)=max a b:=by split<;>omega
theorem adx (a b:Int):(if b<a then b else a)=min a b:=by split<;>omega
theorem awk (a b:UInt64):((max a b).toNat:Int)=max (a.toNat:Int) b.toNat:=by
 rw[show max a b=if a<=b then b else a from rfl]
 split<;>rename_i h<;>rw[UInt64.le_iff_toNat_le] at h<;>omega
theorem awl (a b:UInt64):((min a b).toNat:Int)=min (a.toNat:Int) b.toNat:=by
 rw[show min a b=if a<=b then a else b from rfl]
 split<;>rename_i h<;>rw[UInt64.le_iff_toNat_le] at h<;>omega
theorem awm {P:Program}{x y:af}{K:af->Prop}(h:yl true x y K):Comes P (Builtin.max2 x.val y.val) K:=by
 unfold yl at h
 split at h
 .refine⟨_,h,λw=>?_⟩
  simp only[af.val,Builtin.max2,Sem.run_pure,cond_true,adw]
 .refine⟨_,h,λw=>?_⟩
  simp only[af.val,ab,Builtin.max2,Sem.run_pure,cond_true,adw,awk]
 .exact h.elim
theorem awn {P:Program}{x y:af}{K:af->Prop}(h:yl false x y K):Comes P (Builtin.min2 x.val y.val) K:=by
 unfold yl at h
 split at h
 .refine⟨_,h,λw=>?_⟩
  simp only[af.val,Builtin.min2,Sem.run_pure,cond_false,adx]
 .refine⟨_,h,λw=>?_⟩
  simp only[af.val,ab,Builtin.min2,Sem.run_pure,cond_false,adx,awl]
 .exact h.elim
def G3 (P:Program)(b:Builtin)(ats:Array TypeId)(xs:List af)(K:af->Prop):Prop :=
 match b,xs with
 | .len,[x]=>match ats[0]? with|some T=>G2 P T x K|none=>False
 | .cap,[.s x]=>match ats[0]? with|some T=>(match P.underlying T with|some (.slice _)=>K (.i .i64 x.cap)|_=>False)|none=>False
 | .max,[x,y]=>yl true x y K
 | .min,[x,y]=>yl false x y K
 | _,_=>False
theorem awo {P:Program}{b:Builtin}{ats:Array TypeId}{ty:TypeId}{cs:Array Bool}{xs:List af}{K:af->Prop}(h:G3 P b ats xs K) :
 ∃r,K r/\∀w,(builtin b ats ty cs (af.bB xs).toArray).run P w= .ok (.value r.val) w:=by
 unfold G3 at h
 split at h
 .split at h
  .rename_i T fW
   obtain⟨r,ag,aP⟩:=awj (ats:=ats) (ty:=ty) h fW
   exact⟨r,ag,λw=>by simp[builtin,af.bB,aP]⟩
  .exact h.elim
 .rename_i x
  split at h
  .rename_i T fW
   split at h
   .rename_i hu
    exact⟨_,h,λw=>by simp[builtin,af.bB,Builtin.cap_,fW,run_underlying hu,af.val,bb,goInt]⟩
   .exact h.elim
  .exact h.elim
 .rename_i x y
  obtain⟨r,ag,aP⟩:=awm (P:=P) h
  exact⟨r,ag,λw=>by simp[builtin,af.bB,Builtin.max_,aP]⟩
 .rename_i x y
  obtain⟨r,ag,aP⟩:=awn (P:=P) h
  exact⟨r,ag,λw=>by simp[builtin,af.bB,Builtin.min_,aP]⟩
 .exact h.elim
def wi (n:Nat)(e:Env)(x:Option Operand)(K:Option af->Prop):Prop :=
 match x with
 | none=>K none
 | some x=>hN n e x λs=>K (some s)
theorem RO {n:Nat}{e:Env}{x:Option Operand}{K:Option af->Prop}(h:wi n e x K) :
 ∃s,K s/\∀a,Good n e a->x.map a.eval=s.map af.val:=by
 cases x with
 | none=>exact⟨none,h,λ_ _=>rfl⟩
 | some x =>
  obtain⟨s,aU,aa⟩:=jP h
  exact⟨some s,aU,λa g=>by simp[aa a g]⟩
def wh (P:Program)(n:Nat)(e:Env)(qf:Nat->ff):List (Nat×Operand)->(List (Nat×af)->Prop)->Prop
 | [],K=>K []
 | (i,x)::l,K=>pB n (qf i) e x λs=>wh P n e qf l λr=>K ((i,s)::r)
theorem RH {P:Program}{n:Nat}{e:Env}{qf:Nat->ff}:∀(l:List (Nat×Operand)) (K:List (Nat×af)->Prop),wh P n e qf l K ->
 ∃r,K r/\∀a,Good n e a->l.map (λx=>(x.1,a.eval x.2))=r.map (λx=>(x.1,x.2.val))
 | [],K,h=>⟨[],h,λ_ _=>rfl⟩
 | (i,x)::l,K,h=>by
  obtain⟨s,aU,aa⟩:=yf h
  obtain⟨r,aP,ad⟩:=RH l _ aU
  exact⟨_,aP,λa g=>by simp[aa a g,ad a g]⟩
def adt (P:Program)(T:TypeId)(i:Nat):ff :=
 match P.underlying T with
 | some (.struct fU)=>match fU[i]? with|some f=>lP P 9 f.type|none=> .v
 | some (.array _ el)=>lP P 9 el
 | some (.slice el)=>lP P 9 el
 | _=> .v
def K_ (x:af)(K:af->Prop):Prop :=
 match x with
 | .p q=>K (.p q)
 | .hM q=>∃p,q=some p/\K (.p p)
 | .f g c=>K (.f g c)
 | _=>False
def G4 (c a b:af)(K:af->Prop):Prop :=
 match c,a,b with
 | .b c,.b a,.b b=>K (.b (cond c a b))
 | .b c,a,b=>aG c (K a) (K b)
 | _,_,_=>False
def RP (P:Program)(T:TypeId)(a b:af):Option Bool :=
 match P.underlying T,a,b with
 | some (.int _),.i k x,.i hJ y=>if k=hJ then some (decide (x=y)) else none
 | some (.int _),.u x,.u y=>some (decide (x=y))
 | some .bool,.b x,.b y=>some (x==y)
 | some .string,.str x,.str y=>some (x.toList==y.toList)
 | _,_,_=>none
def wq (P:Program):List Field->Nat->List af->List af->Option Bool
 | [],_,[],[]=>some true
 | f::fU,o,a::l,b::fx =>
  if (f.name != "_")=true/\f.offset=o/\ra P f.type=some false then
   match RP P f.type a b,wq P fU (o+1) l fx with
   | some r,some t=>some (r&&t)
   | _,_=>none
  else none
 | _,_,_,_=>none
def RQ (P:Program)(T:TypeId)(l fx:List af):Option Bool :=
 match P.underlying T with
 | some (.struct fU)=>if P.eqGuardType P.depth T=false/\P.stoodInHeld T=false then wq P fU.toList 0 l fx else none
 | _=>none
theorem awp {P:Program}{T:TypeId}{a b:af}{r:Bool}(h:RP P T a b=some r)(d:Nat)(w:World) :
 (Op.equalIn (d+1) T a.val b.val).run P w= .ok r w/\af.cells a=[a.val]/\af.cells b=[b.val]:=by
 unfold RP at h
 split at h
 .rename_i k aE x aC y hu
  split at h
  .rename_i ag
   subst ag
   cases h
   refine⟨?_,rfl,rfl⟩
   simp only[af.val];rw[run_equalIn_int w d T _ _ _ _ hu,Dt]
  .cases h
 .rename_i k x y hu
  cases h
  refine⟨?_,rfl,rfl⟩
  simp only[af.val,ab];rw[run_equalIn_int w d T _ _ _ _ hu,Dt]
  simp[<-UInt64.toNat_inj,Int.natCast_inj]
 .rename_i x y hu
  cases h
  refine⟨?_,rfl,rfl⟩
  simp only[af.val];rw[run_equalIn_bool' w d T _ _ hu]
 .rename_i x y hu
  cases h
  refine⟨?_,rfl,rfl⟩
  simp only[af.val];rw[run_equalIn_string w d T _ _ hu]
 .cases h
theorem ady {P:Program}{T:TypeId}{pre post:List Value}{v:Value}(an:ra P T=some false)(w:World) :
 (part T (pre++v::post).toArray pre.length).run P w= .ok v w:=by
 unfold part
 simp only[Sem.run_bind,GP an,Result.andThen_ok,Bool.false_eq_true,if_false]
 simp
theorem adz {P:Program}(d:Nat)(w:World):∀(fU:List Field) (o:Nat) (l fx:List af) (r:Bool) (pre ux:List Value),wq P fU o l fx=some r->pre.length=o->ux.length=o ->
 (Op.eqFields (d+1) (pre++af.gn l).toArray (ux++af.gn fx).toArray fU).run P w= .ok r w
 | [],o,[],[],r,pre,ux,h,_,_=>by
  simp only[wq,Option.some.injEq] at h;subst h;simp[Op.eqFields]
 | f::fU,o,a::l,b::fx,r,pre,ux,h,aa,ad=>by
  simp only[wq] at h
  split at h
  .rename_i aZ
   obtain⟨aQ,aY,ck⟩:=aZ
   split at h
   .rename_i ew t1 aF a8
    cases h
    obtain⟨q1,aJ,bd⟩:=awp aF d w
    have dK:=adz d w fU (o+1) l fx t1 (pre++[a.val]) (ux++[b.val]) a8 (by simp[aa]) (by simp[ad])
    have aw:f.name ≠ "_":=by simpa using aQ
    have gX:=ady (P:=P) (pre:=pre) (post:=af.gn l) (v:=a.val) ck w
    have h9:=ady (P:=P) (pre:=ux) (post:=af.gn fx) (v:=b.val) ck w
    rw[aa] at gX;rw[ad] at h9
    simp only[Op.eqFields,aw,ne_eq,not_false_eq_true,if_true,af.gn,aJ,bd,aY,List.singleton_append,Sem.run_bind,gX,h9,Result.andThen_ok,q1]
    cases ew
    .simp
    .simpa using dK
   .cases h
  .cases h
 | [],o,a::l,fx,r,pre,ux,h,_,_=>by simp[wq] at h
 | [],o,[],b::fx,r,pre,ux,h,_,_=>by simp[wq] at h
 | f::fU,o,[],fx,r,pre,ux,h,_,_=>by simp[wq] at h
 | f::fU,o,a::l,[],r,pre,ux,h,_,_=>by simp[wq] at h
def ym (op:BinOp)(r:Bool)(K:af->Prop):Prop :=
 match op with
 | .eql=>K (.b r)
 | .neq=>K (.b (!r))
 | _=>False
theorem awq {P:Program}{T:TypeId}{l fx:List af}{r:Bool}(h:RQ P T l fx=some r)(op:BinOp)(x y:Operand)(K:af->Prop)(ag:ym op r K) :
 ∃s,K s/\∀w,(do eqGuard op T x y (af.val (.dt l)) (af.val (.dt fx));binOp op T (af.val (.dt l)) (af.val (.dt fx)):Sem Value).run P w= .ok s.val w:=by
 unfold RQ at h
 split at h
 .rename_i fU hu
  split at h
  .rename_i aZ
   obtain⟨aQ,aY⟩:=aZ
   have a_:P.fieldsOf T=fU:=by unfold Program.fieldsOf;rw[hu]
   have key:∀w,(Op.equalIn 10000 T (af.val (.dt l)) (af.val (.dt fx))).run P w= .ok r w:=λw=>by
    have:=run_equalIn_struct (P:=P) w 9999 T (af.gn l).toArray (af.gn fx).toArray (by rw[a_];exact hu) aY
    simp only[af.val]
    rw[this,a_]
    exact adz 9998 w fU.toList 0 l fx r [] [] h rfl rfl
   cases op<;>try exact(show False from ag).elim
   .refine⟨_,ag,λw=>?_⟩
    have aE:=key w
    simp only[af.val] at aE
    simp only[Sem.run_bind,af.val,run_eqGuard_agg w _ T x y _ _ aQ,Result.andThen_ok,run_eql_struct,aE]
   .refine⟨_,ag,λw=>?_⟩
    have aE:=key w
    simp only[af.val] at aE
    simp only[Sem.run_bind,af.val,run_eqGuard_agg w _ T x y _ _ aQ,Result.andThen_ok,run_neq_struct,aE]
  .cases h
 .cases h
def RR (P:Program)(T:TypeId)(n:Nat)(c cc:Vector UInt64 n):Option Bool :=
 match P.underlying T with
 | some (.array m e)=>match P.underlying e with
  | some (.int .u64)=>if m=n/\P.eqGuardType P.depth T=false/\jQ P e=some 1/\ra P e=some false then some (decide (c=cc)) else none
  | _=>none
 | _=>none
theorem adA {P:Program}{e:TypeId}(an:ra P e=some false){n:Nat}(c:Vector UInt64 n){i:Nat}(hi:i<n)(w:World) :
 (part e (c.toArray.map ab) i).run P w= .ok (ab c[i]) w:=by
 unfold part
 simp only[Sem.run_bind,GP an,Result.andThen_ok,Bool.false_eq_true,if_false]
 simp[hi]
theorem adB {P:Program}{e:TypeId}(d:Nat)(w:World)(hu:P.underlying e=some (.int .u64))(an:ra P e=some false){n:Nat}(c cc:Vector UInt64 n):∀(is:List Nat),(∀i∈is,i<n) ->
 (Op.eqItems (d+1) e 1 (c.toArray.map ab) (cc.toArray.map ab) is).run P w= .ok (is.all λi=>decide (c[i]? =cc[i]?)) w
 | [],_=>by simp[Op.eqItems]
 | i::is,h=>by
  have hi:=h i (List.mem_cons_self ..)
  have dK:=adB d w hu an c cc is λj aV=>h j (List.mem_cons_of_mem _ aV)
  have gX:=adA an c hi w
  have h9:=adA an cc hi w
  have q:(Op.equalIn (d+1) e (ab c[i]) (ab cc[i])).run P w= .ok (decide (c[i]=cc[i])) w:=by
   simp only[ab];rw[run_equalIn_int w d e _ _ _ _ hu,Dt]
   simp[<-UInt64.toNat_inj,Int.natCast_inj]
  simp only[Op.eqItems,Nat.mul_one,Sem.run_bind,gX,h9,q,Result.andThen_ok]
  have aF:decide (c[i]? =cc[i]?)=decide (c[i]=cc[i]):=by simp[hi]
  rw[List.all_cons,aF]
  cases decide (c[i]=cc[i])
  .simp
  .simpa using dK
theorem awr {P:Program}{T:TypeId}{n:Nat}{c cc:Vector UInt64 n}{r:Bool}(h:RR P T n c cc=some r)(op:BinOp)(x y:Operand)(K:af->Prop)(ag:ym op r K) :
 ∃s,K s/\∀w,(do eqGuard op T x y (af.val (.ws n c)) (af.val (.ws n cc));binOp op T (af.val (.ws n c)) (af.val (.ws n cc)):Sem Value).run P w= .ok s.val w:=by
 unfold RR at h
 split at h
 .rename_i m e hu
  split at h
  .rename_i he
   split at h
   .rename_i aZ
    obtain⟨rfl,aQ,aY,ck⟩:=aZ
    cases h
    obtain⟨i,hi,n2⟩:∃i,P.info? e=some i/\i.size=1:=by
     unfold jQ at aY
     cases bR:P.info? e with
     | none=>rw[bR] at aY;cases aY
     | some i=>rw[bR] at aY;exact⟨i,rfl,by simpa using aY⟩
    have aws:P.cellsOf e=1:=by unfold Program.cellsOf;rw[hi];simpa using n2
    have key:∀w,(Op.equalIn 10000 T (.agg (c.toArray.map ab)) (.agg (cc.toArray.map ab))).run P w= .ok (decide (c=cc)) w:=λw=>by
     rw[run_equalIn_array w 9999 _ _ hu hi,aws,adB 9998 w he ck c cc _ (λi hi=>List.mem_range.1 hi)]
     congr 1
     rw[Bool.eq_iff_iff]
     simp only[List.all_eq_true,List.mem_range,decide_eq_true_eq]
     constructor
     .intro h
      apply Vector.ext
      intro i hi
      have:=h i hi
      simpa [hi] using this
     .rintro rfl i _;rfl
    cases op<;>try exact(show False from ag).elim
    .refine⟨_,ag,λw=>?_⟩
     have aE:=key w
     simp only[af.val]
     simp only[Sem.run_bind,run_eqGuard_agg w _ T x y _ _ aQ,Result.andThen_ok,run_eql_struct,aE]
    .refine⟨_,ag,λw=>?_⟩
     have aE:=key w
     simp only[af.val]
     simp only[Sem.run_bind,run_eqGuard_agg w _ T x y _ _ aQ,Result.andThen_ok,run_neq_struct,aE]
   .cases h
  .cases h
 .cases h
def yc (P:Program)(n:Nat)(op:BinOp)(T:TypeId)(y:Operand)(e:Env)(a:af)(K:af->Prop):Prop :=
 match y with
 | .const v=>Du P op T a (uy v) K
 | y=>hN n e y λb=>match a,b with
  | _,.v _=>False
  | .dt l,.dt fx=>(match RQ P T l fx with|some r=>ym op r K|none=>False)
  | .ws k c,.ws m cc=>if hm:m=k then (match RR P T k c (hm▸cc) with|some r=>ym op r K|none=>False) else False
  | a,b=>Du P op T a b K
theorem awt {P:Program}{n:Nat}{op:BinOp}{T:TypeId}{x y:Operand}{e:Env}{s:af}{K:af->Prop}(h:yc P n op T y e s K) :
 ∃r,K r/\∀a,Good n e a->a.eval x=s.val->∀w,(do eqGuard op T x y (a.eval x) (a.eval y);binOp op T (a.eval x) (a.eval y):Sem Value).run P w= .ok r.val w:=by
 unfold yc at h
 split at h
 .rename_i v
  obtain⟨⟨r,ag,aP⟩,he⟩:=adC h
  refine⟨r,ag,λa g aU w=>?_⟩
  rw[La] at aP he
  have aF:(eqGuard op T x (.const v) (a.eval x) v).run P w= .ok () w:=by
   rw[aU]
   rcases he with he|⟨aa,ad⟩
   .exact adD w he
   .rw[aa,ad];exact awu w
  simp only[Sem.run_bind,Act.eval] at aF ⊢
  rw[aF]
  simp only[Result.andThen_ok]
  have pq:a.eval x=s.val:=aU
  unfold Act.eval at pq
  rw[pq]
  exact aP w
 .obtain⟨b,h,au⟩:=jP h
  split at h
  .exact h.elim
  .split at h
   .rename_i l fx _ r aP
    obtain⟨t,bw,hw⟩:=awq aP op x y K h
    refine⟨t,bw,λa g aU w=>?_⟩
    rw[aU,au a g];exact hw w
   .exact h.elim
  .split at h
   .rename_i hm
    subst hm
    split at h
    .rename_i r aP
     obtain⟨t,bw,hw⟩:=awr aP op x y K h
     refine⟨t,bw,λa g aU w=>?_⟩
     rw[aU,au a g];exact hw w
    .exact h.elim
   .exact h.elim
  .rename_i bQ _ _
   obtain⟨⟨r,ag,aP⟩,he⟩:=adC h
   refine⟨r,ag,λa g aU w=>?_⟩
   rw[aU,au a g]
   have aF:(eqGuard op T x y s.val b.val).run P w= .ok () w:=by
    rcases he with he|⟨aa,ad⟩
    .exact adD w he
    .exfalso
     cases b<;>first|(simp[af.val,ab,bg,a1,bb,undef] at ad;done)|exact bQ _ rfl
   simp[aF,aP]
def wj (P:Program)(n:Nat)(o:Op)(ty:TypeId)(e:Env)(K:af->Prop):Prop :=
 match o with
 | .move x=>pB n (lP P 9 ty) e x K
 | .assign x=>pB n (lP P 9 ty) e x K
 | .pick c a b=>hN n e c λc=>hN n e a λa=>hN n e b λb=>G4 c a b K
 | .nilCheck x=>hN n e x λa=>K_ a K
 | .binOp op T x y _=>hN n e x λa=>yc P n op T y e a K
 | .unOp op _ x=>hN n e x λa=>G5 op a K
 | .convert s d x=>hN n e x λa=>G6 P s d a K
 | .fieldAddr s x i=>match RK P s i with
  | some off=>hN n e x λa=>match a with| .p q=>K (.p ⟨q.b,q.o+off⟩)|_=>False
  | none=>False
 | .field s x i=>hN n e x λa=>match a with| .dt l=>GV P s i l K|_=>False
 | .indexAddr T x cp=>hN n e x λa=>hN n e cp λj=>yi j λ_ j=>GW P T a j K
 | .index T x cp=>hN n e x λa=>hN n e cp λj=>yi j λ_ j=>GX P T a j K
 | .extract x i=>hN n e x λa=>match a with| .ja l=>(match l[i]? with|some r=>K r|none=>False)|_=>False
 | .slice T x lo hi k3=>hN n e x λa=>wi n e lo λl=>wi n e hi λh=>wi n e k3 λm=>GY P T a l h m K
 | .makeFunc (.func g) first captured=>if first.size=0 then wg n e captured.toList λc=>K (.f g c) else False
 | .makeInterface T x=>match P.underlying T with
  | some (.interface _)=>False
  | some _=>pB n (lP P 9 T) e x λa=>K (.v (.iface T a.val))
  | none=>False
 | .build T cx=>wh P n e (adt P T) cx.toList λcx=>GZ P T cx K
 | .call { callee:= .builtin b,args,argTypes }=>wg n e args.toList λxs=>G3 P b argTypes xs K
 | _=>False
theorem awv {c a b:af}{K:af->Prop}(h:G4 c a b K):∃r t,K r/\c.val= .bool t/\r.val=if t then a.val else b.val:=by
 unfold G4 at h
 split at h
 .rename_i c a b
  exact⟨_,c,h,rfl,by cases c<;>rfl⟩
 .rename_i c _
  cases c
  .exact⟨_,false,h,rfl,rfl⟩
  .exact⟨_,true,h,rfl,rfl⟩
 .exact h.elim
theorem av6 {P:Program}{n:Nat}{e:Env}{K:af->Prop}{x:Oper}(h:wj P n x.op x.type e K) :
 ∃r,K r/\∀a,Good n e a->∀w,(execOp a.eval x).run P w= .ok (.value r.val) w:=by
 obtain⟨dst,op,ty,pos,after,guard⟩:=x
 simp only at h
 unfold wj at h
 split at h
 .obtain⟨s,ag,aU⟩:=yf h
  exact⟨s,ag,λa g w=>by simp[execOp,aU a g]⟩
 .obtain⟨s,ag,aU⟩:=yf h
  exact⟨s,ag,λa g w=>by simp[execOp,aU a g]⟩
 .obtain⟨c,h,aZ⟩:=jP h
  obtain⟨x,h,ai⟩:=jP h
  obtain⟨y,h,aB⟩:=jP h
  obtain⟨r,t,ag,bw,aP⟩:=awv h
  exact⟨r,ag,λa g w=>by simp[execOp,aZ a g,ai a g,aB a g,bw,asBool,aP]⟩
 .obtain⟨x,h,ai⟩:=jP h
  unfold K_ at h
  split at h
  .exact⟨_,h,λa g w=>by simp[execOp,ai a g,af.val,bg]⟩
  .obtain⟨p,rfl,ag⟩:=h
   exact⟨_,ag,λa g w=>by simp[execOp,ai a g,af.val,a1,bg]⟩
  .exact⟨_,h,λa g w=>by simp[execOp,ai a g,af.val]⟩
  .exact h.elim
 .rename_i op T x y au2
  obtain⟨s,h,aU⟩:=jP h
  obtain⟨r,ag,aP⟩:=awt (x:=x) h
  refine⟨r,ag,λa g w=>?_⟩
  have:=aP a g (aU a g) w
  simp only[execOp,Sem.run_bind] at this ⊢
  simp[this]
 .obtain⟨s,h,aU⟩:=jP h
  obtain⟨r,ag,aP⟩:=aww (P:=P) h
  exact⟨r,ag,λa g w=>by simp[execOp,aU a g,aP]⟩
 .obtain⟨s,h,aU⟩:=jP h
  obtain⟨r,ag,aP⟩:=awx (P:=P) h
  exact⟨r,ag,λa g w=>by simp[execOp,aU a g,aP]⟩
 .split at h
  .rename_i off dS
   obtain⟨s,h,aU⟩:=jP h
   split at h
   .rename_i q
    exact⟨_,h,λa g w=>by simp only[execOp,Sem.run_bind,aU a g,af.val,av7 dS];rfl⟩
   .exact h.elim
  .exact h.elim
 .obtain⟨s,h,aU⟩:=jP h
  split at h
  .rename_i l
   obtain⟨r,ag,aP⟩:=av9 h
   exact⟨r,ag,λa g w=>by simp[execOp,aU a g,aP]⟩
  .exact h.elim
 .obtain⟨s,h,aU⟩:=jP h
  obtain⟨j,h,aV⟩:=jP h
  obtain⟨k,i,hi,h⟩:=GU h
  obtain⟨r,ag,aP⟩:=av_ (k:=k) h
  exact⟨r,ag,λa g w=>by simp[execOp,aU a g,aV a g,hi,aP]⟩
 .obtain⟨s,h,aU⟩:=jP h
  obtain⟨j,h,aV⟩:=jP h
  obtain⟨k,i,hi,h⟩:=GU h
  obtain⟨r,ag,aP⟩:=awa (k:=k) h
  exact⟨r,ag,λa g w=>by simp[execOp,aU a g,aV a g,hi,aP]⟩
 .obtain⟨s,h,aU⟩:=jP h
  split at h
  .rename_i l
   split at h
   .rename_i r aP
    refine⟨r,h,λa g w=>?_⟩
    have:∀j:Nat,l[j]? =some r->(af.bB l)[j]? =some r.val:=by
     have key:∀(l:List af) (i:Nat) (r:af),l[i]? =some r->(af.bB l)[i]? =some r.val:=by
      intro l
      induction l with
      | nil=>intro i r h;simp at h
      | cons x l dK =>
       intro i r h
       cases i with
       | zero=>simp at h;subst h;rfl
       | succ i=>simpa [af.bB] using dK i r (by simpa using h)
     exact λj aV=>key l j r aV
    simp[execOp,aU a g,af.val,Instr.extract,this _ aP]
   .exact h.elim
  .exact h.elim
 .obtain⟨s,h,aU⟩:=jP h
  obtain⟨lo,h,aa⟩:=RO h
  obtain⟨hi,h,ad⟩:=RO h
  obtain⟨k3,h,an⟩:=RO h
  obtain⟨r,ag,aP⟩:=awe h
  exact⟨r,ag,λa g w=>by simp only[execOp,Sem.run_bind,aU a g,aa a g,ad a g,an a g,aP];rfl⟩
 .split at h
  .rename_i g first captured a_
   obtain⟨r,ag,aP⟩:=RJ _ _ h
   refine⟨_,ag,λa qR w=>?_⟩
   have aa:first=#[]:=Array.size_eq_zero_iff.1 a_
   subst aa
   have ad:(captured.map a.eval)=(af.bB r).toArray:=by
    apply Array.toList_inj.1
    simp[aP a qR]
   simp[execOp,Instr.makeFunc,ad,af.val]
  .exact h.elim
 .split at h
  .exact h.elim
  .rename_i T x d J8 hu
   obtain⟨s,h,aU⟩:=yf h
   refine⟨_,h,λa g w=>?_⟩
   simp only[execOp,Sem.run_bind,Instr.makeInterface,run_underlying hu,Result.andThen_ok]
   simp[aU a g,af.val]
  .exact h.elim
 .rename_i T cx
  obtain⟨r,h,aP⟩:=RH _ _ h
  obtain⟨v,ag,bQ⟩:=awi h
  refine⟨v,ag,λa g w=>?_⟩
  have:(cx.map λx=>(x.1,a.eval x.2))=(r.map λx=>(x.1,x.2.val)).toArray:=by
   apply Array.toList_inj.1
   simp[aP a g]
  simp only[execOp,Sem.run_bind,this,bQ]
  rfl
 .rename_i b args ats
  obtain⟨r,h,aP⟩:=RJ _ _ h
  obtain⟨v,ag,bQ⟩:=awo (ty:=ty) (cs:=args.map fun| .const _=>true|_=>false) h
  refine⟨v,ag,λa g w=>?_⟩
  have:args.map a.eval=(af.bB r).toArray:=by
   apply Array.toList_inj.1
   simp[aP a g]
  simp only[execOp,Sem.run_bind,resolve,Sem.run_pure,Result.andThen_ok,invoke,this]
  exact bQ w
 .exact h.elim

import Derived.Test.YtegdpmgnhnccaaaGreatShPure
import Derived.Laws.StructEq
import Derived.ChangeKeysEq
namespace Go.cR
open Go Go.RowKit
def zg (s:ag)(K:IntKind->Int->Prop):Prop :=
 match s with
 | .i k n=>K k n
 | .u x=>K .u64 (x.toNat:Int)
 | _=>False
theorem H8 {s:ag}{K:IntKind->Int->Prop}(h:zg s K):∃k n,s.val= .int k n/\K k n:=by
 cases s<;>first|exact h.elim|exact⟨_,_,rfl,h⟩
def xk (n:Nat)(e:Env):List Operand->(List ag->Prop)->Prop
 | [],K=>K []
 | x::l,K=>ie n e x λs=>xk n e l λr=>K (s::r)
theorem Tu {n:Nat}{e:Env}:∀(l:List Operand) (K:List ag->Prop),xk n e l K->∃r,K r/\∀a,Good n e a->l.map a.eval=ag.bJ r
 | [],K,h=>⟨[],h,λ_ _=>rfl⟩
 | x::l,K,h=>by
  obtain⟨s,aV,aa⟩:=kj h;obtain⟨r,aQ,ad⟩:=Tu l _ aV;exact⟨_,aQ,λa g=>by simp[ag.bJ,aa a g,ad a g]⟩
def r1 (P:Program)(T:TypeId):Option Bool :=
 match P.underlying T with
 | some (.struct _)=>some true
 | some (.array _ _)=>some true
 | some _=>some false
 | none=>none
theorem H4 {P:Program}{T:TypeId}{b:Bool}(h:r1 P T=some b)(w:World):(isAgg T).run P w= .ok b w:=by
 unfold r1 at h;unfold isAgg;simp only[aDv];split at h
 .rename_i hu;rw[aDB hu];simp at h;subst h;rfl
 .rename_i hu;rw[aDB hu];simp at h;subst h;rfl
 .rename_i d ai aC hu
  rw[aDB hu];simp at h;subst h;simp only[aDu];rfl
 .cases h
def kk (P:Program)(T:TypeId):Option Nat:=(P.info? T).map (·.size)
theorem nv {P:Program}{T:TypeId}{n:Nat}(h:kk P T=some n)(w:World):(sizeOf T).run P w= .ok n w:=by
 unfold kk at h;cases hi:P.info? T with
 | none=>simp[hi] at h
 | some i =>
  simp[hi] at h;simp[sizeOf,typeInfo,hi,h]
def ag.sH:ag->Bool
 | .dz _=>true
 | .ws _ _=>true
 | _=>false
theorem ag.MD {s:ag}(h:s.sH=true):s.val= .agg (ag.cells s).toArray:=by
 cases s<;>first|cases h|skip
 .simp only[ag.val,ag.cells];congr 1;apply aD6.1;simp[Vector.toList]
 .rfl
theorem ag.afC {s:ag}(h:s.sH=false):ag.cells s=[s.val]:=by
 cases s<;>first|rfl|cases h
def Tv (P:Program)(s:TypeId)(i:Nat):Option Nat :=
 match P.underlying s with
 | some (.struct gq)=>match gq[i]? with
  | some f=>match kk P f.type with
   | some 0=>none
   | some _=>some f.offset
   | none=>none
  | none=>none
 | _=>none
theorem ay1 {P:Program}{s:TypeId}{i off:Nat}(h:Tv P s i=some off)(q:aF)(w:World) :
 (Instr.fieldAt s (bm q) i).run P w= .ok (bm ⟨q.b,q.o+off⟩) w:=by
 unfold Tv at h;split at h
 .rename_i gq aV
  split at h
  .rename_i f bc
   split at h
   .cases h
   .rename_i n aK bn
    simp at h;subst h;have LD:n≠0:=λe=>aK e;simp only[Instr.fieldAt,aDv,aDB aV,aDu,bc,Instr.sureAddr,bm,aDG,fieldPlace,nv bn,LD,aEc,xd]
   .cases h
  .cases h
 .cases h
def H9 (P:Program)(s:TypeId)(i:Nat)(l:List ag)(K:ag->Prop):Prop :=
 match P.underlying s with
 | some (.struct gq)=>match gq[i]?,l[i]? with
  | some f,some r=>if f.offset=ag.rY (l.take i)/\kk P f.type=some r.size/\r1 P f.type=some r.sH then K r else False
  | _,_=>False
 | _=>False
theorem Tw (l fw:List ag):ag.gL (l++fw)=ag.gL l++ag.gL fw:=by
 induction l with
 | nil=>rfl
 | cons a l dI=>simp[ag.gL,dI]
theorem ay2 {P:Program}{T:TypeId}{off:Nat}{pre post:List Value}{r:ag}(aa:off=pre.length)(ad:kk P T=some r.size)(an:r1 P T=some r.sH)(w:World) :
 (part T (pre++ag.cells r++post).toArray off).run P w= .ok r.val w:=by
 subst aa;unfold part;simp only[aDv,H4 an,aDu];have aT:=ag.xe r;cases aQ:r.sH with
 | true =>
  simp only[aEv,aDv,nv ad,aDu,aDG];rw[ag.MD aQ];congr 2;apply aD6.1;simp[<-aT]
 | false =>
  simp only[aEb,aEc];have a1:=ag.afC aQ;rw[a1];simp
theorem ay3 {P:Program}{s:TypeId}{i:Nat}{l:List ag}{K:ag->Prop}(h:H9 P s i l K) :
 ∃r,K r/\∀w,(Instr.field s (ag.val (.dz l)) i).run P w= .ok r.val w:=by
 unfold H9 at h;split at h
 .rename_i gq aV
  split at h
  .rename_i f r bc aQ
   split at h
   .rename_i a1
    refine⟨r,h,λw=>?_⟩;obtain⟨aa,ad,an⟩:=a1;simp only[Instr.field,aDv,aDB aV,aDu,bc,ag.val,asAgg,aDG];obtain⟨hi,Tk⟩:=aES.1 aQ;have e:l=l.take i++r::l.drop (i+1):=by
     conv=>lhs;rw[<-aEz i l,aET hi,Tk]
    have a_:ag.gL l=ag.gL (l.take i)++ag.cells r++ag.gL (l.drop (i+1)):=by
     conv=>lhs;rw[e,Tw]
     simp[ag.gL]
    rw[a_];exact ay2 (by rw[aa,ag.Mm]) ad an w
   .exact h.elim
  .exact h.elim
 .exact h.elim
def H_ (P:Program)(T:TypeId)(x:ag)(i:Int)(K:ag->Prop):Prop :=
 match P.underlying T,x with
 | some (.slice el),.s x=>match kk P el with
  | some dR=>∃q,x.q=some q/\0<=i/\i<x.len/\K (.p ⟨q.b,q.o+i.toNat*dR⟩)
  | none=>False
 | some (.array len el),.p q=>match kk P el with
  | some dR=>0<=i/\i<len/\K (.p ⟨q.b,q.o+i.toNat*dR⟩)
  | none=>False
 | _,_=>False
theorem ay4 {P:Program}{T:TypeId}{x:ag}{k:IntKind}{i:Int}{K:ag->Prop}(h:H_ P T x i K) :
 ∃r,K r/\∀w,(Instr.indexAt T x.val (.int k i)).run P w= .ok r.val w:=by
 unfold H_ at h;split at h
 .rename_i el x hu
  split at h
  .rename_i dR bn
   obtain⟨q,aj,h0,aa,ah⟩:=h;refine⟨_,ah,λw=>?_⟩;simp only[Instr.indexAt,asIntOf,aDv,aDB hu,aDu,aDG,ag.val,aZ,ao.HU aj];simp[h0,aa,nv bn,xd,bm]
  .exact h.elim
 .rename_i len el q hu
  split at h
  .rename_i dR bn
   obtain⟨h0,aa,ah⟩:=h;refine⟨_,ah,λw=>?_⟩;simp only[Instr.indexAt,asIntOf,aDv,aDB hu,aDu,aDG,ag.val,bm,Instr.sureAddr];simp[h0,aa,nv bn,xd]
  .exact h.elim
 .exact h.elim
def Ia (P:Program)(T:TypeId)(x:ag)(i:Int)(K:ag->Prop):Prop :=
 match P.underlying T,x with
 | some (.array len el),.ws n c=>if len=n/\kk P el=some 1/\r1 P el=some false then 0<=i/\∃h:i.toNat<n,K (.u c[i.toNat]) else False
 | some .string,.str s=>0<=i/\∃h:i.toNat<s.size,K (.i .u8 (s[i.toNat].toNat:Int))
 | _,_=>False
theorem ay5 {P:Program}{T:TypeId}{x:ag}{k:IntKind}{i:Int}{K:ag->Prop}(h:Ia P T x i K) :
 ∃r,K r/\∀w,(Instr.index T x.val (.int k i)).run P w= .ok r.val w:=by
 unfold Ia at h;split at h
 .rename_i len el n c hu
  split at h
  .rename_i a1
   obtain⟨rfl,aa,ad⟩:=a1;obtain⟨h0,hi,ah⟩:=h;refine⟨_,ah,λw=>?_⟩;have cl:i<len:=by omega
   simp only[Instr.index,asIntOf,aDv,aDB hu,aDu,aDG,ag.val];simp only[h0,cl,and_self,aEv,aDv,nv aa,aDu,part,H4 ad,aEb,aEc];simp[hi]
  .exact h.elim
 .rename_i s hu
  obtain⟨h0,hi,ah⟩:=h;refine⟨_,ah,λw=>?_⟩;simp only[Instr.index,asIntOf,aDv,aDB hu,aDu,aDG,ag.val];have:s[i.toNat]? =some s[i.toNat]:=by simp[hi]
  simp[h0,this]
 .exact h.elim
def sJ (x:ag)(zh:Nat)(K:Nat->Prop):Prop:=zg x λ_ i=>0<=i/\i<=zh/\K i.toNat
theorem xq {P:Program}{x:ag}{zh:Nat}{K:Nat->Prop}(h:sJ x zh K) :
 ∃m,m<=zh/\K m/\∀c w,(Instr.sliceBound x.val zh c).run P w= .ok m w:=by
 obtain⟨k,i,ai,h0,aa,ah⟩:=H8 h;refine⟨_,by omega,ah,λc w=>?_⟩;simp only[Instr.sliceBound,ai,asIntOf,aDv,aDG,aDu];rw[aDr ⟨h0,aa⟩];rfl
def q4 (len cap:Nat)(lo hi lC:Option ag)(K:Nat->Nat->Nat->Prop):Prop :=
 match lo,hi,lC with
 | none,none,none=>K 0 len cap
 | some l,none,none=>sJ l len λl=>K l len cap
 | none,some h,none=>sJ h cap λh=>K 0 h cap
 | some l,some h,none=>sJ h cap λh=>sJ l h λl=>K l h cap
 | none,some h,some m=>sJ m cap λm=>sJ h m λh=>K 0 h m
 | some l,some h,some m=>sJ m cap λm=>sJ h m λh=>sJ l h λl=>K l h m
 | _,none,some _=>False
theorem Tx {P:Program}{len cap:Nat}{lo hi lC:Option ag}{K:Nat->Nat->Nat->Prop}(h:q4 len cap lo hi lC K) :
 ∃l h m,K l h m/\∀b w,(Instr.sliceBounds b len cap (lo.map ag.val) (hi.map ag.val) (lC.map ag.val)).run P w= .ok (l,h,m) w:=by
 unfold q4 at h;split at h
 .exact⟨_,_,_,h,λb w=>by simp[Instr.sliceBounds]⟩
 .obtain⟨l,_,ah,aQ⟩:=xq (P:=P) h;exact⟨_,_,_,ah,λb w=>by simp[Instr.sliceBounds,aQ]⟩
 .obtain⟨l,_,ah,aQ⟩:=xq (P:=P) h;exact⟨_,_,_,ah,λb w=>by simp[Instr.sliceBounds,aQ]⟩
 .obtain⟨l,_,ah,aQ⟩:=xq (P:=P) h;obtain⟨gg,_,ah,nM⟩:=xq (P:=P) ah;exact⟨_,_,_,ah,λb w=>by simp[Instr.sliceBounds,aQ,nM]⟩
 .obtain⟨l,_,ah,aQ⟩:=xq (P:=P) h;obtain⟨gg,_,ah,nM⟩:=xq (P:=P) ah;exact⟨_,_,_,ah,λb w=>by simp[Instr.sliceBounds,aQ,nM]⟩
 .obtain⟨l,_,ah,aQ⟩:=xq (P:=P) h;obtain⟨gg,_,ah,nM⟩:=xq (P:=P) ah;obtain⟨og,_,ah,ay6⟩:=xq (P:=P) ah;exact⟨_,_,_,ah,λb w=>by simp[Instr.sliceBounds,aQ,nM,ay6]⟩
 .exact h.elim
def fX (p:Option aF)(l m dR:Nat):Option aF:=if m=l then p else p.map λq=>⟨q.b,q.o+l*dR⟩
def hZ (z:Option Nat)(l m dR:Nat):Option Nat:=if m=l∨l*dR=0 then z else none
def Ib (P:Program)(T:TypeId)(x:ag)(lo hi lC:Option ag)(K:ag->Prop):Prop :=
 match P.underlying T,x with
 | some (.slice el),.s x=>match kk P el with
  | some dR=>q4 x.len x.cap lo hi lC λl h m=>K (.s ⟨fX x.p l m dR,h-l,m-l,hZ x.z l m dR⟩)
  | none=>False
 | some (.array len el),.p q=>match kk P el with
  | some dR=>q4 len len lo hi lC λl h m=>K (.s ⟨fX (some q) l m dR,h-l,m-l,none⟩)
  | none=>False
 | some .string,.str s=>match lC with
  | none=>q4 s.size s.size lo hi none λl h _=>K (.str (s.extract l h))
  | some _=>False
 | _,_=>False
theorem ay7 (x:ao)(l m dR a b:Nat):ao.addr ⟨fX x.p l m dR,a,b,hZ x.z l m dR⟩=(if m=l then x.addr else x.addr.map (·.add (l*dR))):=by
 obtain⟨p,n,c,z⟩:=x;simp only[ao.addr,fX,hZ];by_cases aa:m=l
 .simp[aa]
 .cases p with
  | none=>simp[aa]
  | some q =>
   by_cases ad:l*dR=0
   .simp only[aa,aEc,aEx,ad,Addr.add,aEv,or_true,aEe]
   .simp only[aa,aEc,aEx,ad,Addr.add,or_self]
theorem ay8 (q:aF)(l m dR a b:Nat):ao.addr ⟨fX (some q) l m dR,a,b,none⟩=(if m=l then some q.addr else some (q.addr.add (l*dR))):=by
 simp only[ao.addr,fX];by_cases aa:m=l
 .simp[aa,aF.addr]
 .simp only[aa,aEc,aEx,xd];rfl
theorem ay9 {P:Program}{T:TypeId}{x:ag}{lo hi lC:Option ag}{K:ag->Prop}(h:Ib P T x lo hi lC K) :
 ∃r,K r/\∀w,(Instr.sliceAt T x.val (lo.map ag.val) (hi.map ag.val) (lC.map ag.val)).run P w= .ok r.val w:=by
 unfold Ib at h;split at h
 .rename_i el x hu
  split at h
  .rename_i dR bn
   obtain⟨l,af,m,ah,aQ⟩:=Tx (P:=P) h;refine⟨_,ah,λw=>?_⟩;simp only[Instr.sliceAt,Instr.slice,aDv,aDB hu,aDu,ag.val,aZ,aQ,nv bn,aDG,ay7]
  .exact h.elim
 .rename_i len el q hu
  split at h
  .rename_i dR bn
   obtain⟨l,af,m,ah,aQ⟩:=Tx (P:=P) h;refine⟨_,ah,λw=>?_⟩;simp only[Instr.sliceAt,aDv,aDB hu,aDu,ag.val,aZ,bm,aQ,nv bn,aDG,ay8,Instr.sureAddr];split<;>rfl
  .exact h.elim
 .rename_i s hu
  split at h
  .obtain⟨l,af,m,ah,aQ⟩:=Tx (P:=P) h;refine⟨_,ah,λw=>?_⟩;simp only[Option.map_none] at aQ;simp only[Instr.sliceAt,Instr.slice,aDv,aDB hu,aDu,ag.val,Option.map_none,Option.isSome_none,aEb,aEc,aQ,aDG]
  .exact h.elim
 .exact h.elim
def vr (P:Program)(T:TypeId):Option Value:=(P.info? T).bind (·.zero)
theorem Br {P:Program}{T:TypeId}{v:Value}(h:vr P T=some v)(w:World):(zeroValue T).run P w= .ok v w:=by
 unfold vr at h;cases hi:P.info? T with
 | none=>simp[hi] at h
 | some i =>
  simp[hi] at h;simp[zeroValue,typeInfo,hi,h]
theorem afJ (post:List Value)(off:Nat):∀(l old pre:List Value) (k:Nat),l.length=old.length->off+k=pre.length ->
 (l.zipIdx k).foldl (λcs x=>cs.setIfInBounds (off+x.2) x.1) (pre++old++post).toArray=(pre++l++post).toArray
 | [],old,pre,k,h,_=>by
  obtain rfl:old=[]:=aD9.1 h.symm;rfl
 | c::l,[],pre,k,h,_=>by simp at h
 | c::l,o::old,pre,k,h,ah=>by
  simp only[List.zipIdx_cons,List.foldl_cons];have e:(pre++(o::old)++post).toArray.setIfInBounds (off+k) c=((pre++[c])++old++post).toArray:=by
   rw[ah];simp
  rw[e,afJ post off l old (pre++[c]) (k+1) (by simpa using h) (by simp;omega)];simp
theorem Tm {place:Nat->Option (Nat×Nat)}{i off:Nat}{v:Value}{l old pre post:List Value}{rest:List (Nat×Value)}
 (aP:place i=some (off,l.length)) (b0:v.cells=l.toArray) (ep:old.length=l.length) (q_:off=pre.length) :
 Instr.fill place (pre++old++post).toArray ((i,v)::rest)=Instr.fill place (pre++l++post).toArray rest:=by
 simp only[Instr.fill,aP,b0];rw[aDq (by simp;omega)];congr 1;have:=afJ post off l old pre 0 ep.symm (by omega);rw[<-this,<-Array.foldl_toList];simp
def Bv (P:Program)(gq:Array Field):List (Nat×ag)->List ag->(List ag->Prop)->Prop
 | [],l,K=>K l
 | (i,r)::cN,l,K =>
  match gq[i]?,l[i]? with
  | some f,some old=>if f.offset=ag.rY (l.take i)/\kk P f.type=some r.size/\old.size=r.size then m6 r (Bv P gq cN (l.set i r) K) else False
  | _,_=>False
def MG (P:Program)(gq:Array Field):Array (Nat×Nat):=gq.map λf=>(f.offset,(kk P f.type).getD 0)
theorem run_places {P:Program}{gq:Array Field}(h:gq.toList.all (λf=>(kk P f.type).isSome)=true)(w:World) :
 (gq.mapM λf=>(do pure (f.offset,<-sizeOf f.type):Sem (Nat×Nat))).run P w= .ok (MG P gq) w:=by
 obtain⟨l⟩:=gq;unfold MG;rw[<-Array.toArray_toList (xs:=(⟨l⟩:Array Field)),List.mapM_toArray];simp only[Sem.run_map];have key:∀l:List Field,l.all (λf=>(kk P f.type).isSome)=true ->
  (l.mapM λf=>(do pure (f.offset,<-sizeOf f.type):Sem (Nat×Nat))).run P w= .ok (l.map λf=>(f.offset,(kk P f.type).getD 0)) w:=by
  intro l aT
  induction l with
  | nil=>simp
  | cons f l dI =>
   simp only[List.all_cons,aEi] at aT;obtain⟨n,aK⟩:=Option.isSome_iff_exists.1 aT.1;simp only[List.mapM_cons,aDv,nv aK,aDu,aDG,dI aT.2,aEs,aK,aFE]
 rw[key l h];simp
theorem ay_ (l:List ag)(i:Nat)(r:ag)(hi:i<l.length):ag.gL l=ag.gL (l.take i)++ag.cells l[i]++ag.gL (l.drop (i+1)) /\
 ag.gL (l.set i r)=ag.gL (l.take i)++ag.cells r++ag.gL (l.drop (i+1)):=by
 constructor
 .conv=>lhs;rw[<-aEz i l,aET hi,Tw]
  simp[ag.gL]
 .rw[List.set_eq_take_append_cons_drop,aDr hi,Tw];simp[ag.gL]
theorem afK {P:Program}{gq:Array Field}:∀(cN:List (Nat×ag)) (l:List ag) (K:List ag->Prop),Bv P gq cN l K ->
 ∃fw,K fw/\Instr.fill ((MG P gq)[·]?) (ag.gL l).toArray (cN.map λx=>(x.1,x.2.val))=some (ag.gL fw).toArray
 | [],l,K,h=>⟨l,h,rfl⟩
 | (i,r)::cN,l,K,h=>by
  simp only[Bv] at h;split at h
  .rename_i f old bc ep
   split at h
   .rename_i a1
    obtain⟨aa,ad,an⟩:=a1;obtain⟨aJ,h⟩:=y0 h;obtain⟨fw,ah,aza⟩:=afK cN _ K h;refine⟨fw,ah,?_⟩;rw[<-aza];obtain⟨hi,sq⟩:=aES.1 ep;obtain⟨aH,a_⟩:=ay_ l i r hi;rw[aH,a_,sq];refine Tm (off:=f.offset) ?_ (ag.Ml r aJ) ?_ (by rw[aa,ag.Mm])
    .simp[MG,bc,ad,ag.xe]
    .rw[ag.xe,ag.xe,an]
   .exact h.elim
  .exact h.elim
def Bw (n:Nat):List (Nat×ag)->bo n->(bo n->Prop)->Prop
 | [],c,K=>K c
 | (i,.u x)::cN,c,K=>if h:i<n then Bw n cN (c.set i x) K else False
 | _::_,_,_=>False
theorem azb {n:Nat}:∀(cN:List (Nat×ag)) (c:bo n) (K:bo n->Prop),Bw n cN c K ->
 ∃cr,K cr/\Instr.fill (λi=>some (i*1,1)) (c.toList.map ab).toArray (cN.map λx=>(x.1,x.2.val))=some (cr.toList.map ab).toArray:=by
 intro cN
 induction cN with
 | nil=>exact λc K h=>⟨c,h,rfl⟩
 | cons p cN dI =>
  intro c K h;obtain⟨i,r⟩:=p;cases r<;>try exact h.elim
  rename_i x
  simp only[Bw] at h;split at h
  .rename_i hi
   obtain⟨cr,ah,m1⟩:=dI _ K h;refine⟨cr,ah,?_⟩;rw[<-m1];have aT:i<(c.toList.map ab).length:=by simpa using hi
   have aH:c.toList.map ab=(c.toList.map ab).take i++[(c.toList.map ab)[i]]++(c.toList.map ab).drop (i+1):=by
    conv=>lhs;rw[<-aEz i (c.toList.map ab),aET aT]
    simp
   have a_:(c.set i x).toList.map ab=(c.toList.map ab).take i++[ab x]++(c.toList.map ab).drop (i+1):=by
    simp only[Vector.toList_set,List.map_set];rw[List.set_eq_take_append_cons_drop,aDr aT];simp
   rw[a_]
   conv=>lhs;rw[aH]
   refine Tm (off:=i*1) rfl rfl rfl ?_;simp;omega
  .exact h.elim
def Ic (P:Program)(T:TypeId)(cN:List (Nat×ag))(K:ag->Prop):Prop :=
 match P.underlying T,vr P T with
 | some (.struct gq),some z=>match Ie (mh P 9 T) z with
  | .dz l=>if gq.toList.all (λf=>(kk P f.type).isSome)=true then Bv P gq cN l λl=>K (.dz l) else False
  | _=>False
 | some (.array _ el),some z=>match Ie (mh P 9 T) z with
  | .ws n c=>if kk P el=some 1 then Bw n cN c λc=>K (.ws n c) else False
  | _=>False
 | _,_=>False
theorem azc {P:Program}{T:TypeId}{cN:List (Nat×ag)}{K:ag->Prop}(h:Ic P T cN K) :
 ∃r,K r/\∀w,(Instr.build T (cN.map λx=>(x.1,x.2.val)).toArray).run P w= .ok r.val w:=by
 unfold Ic at h;split at h
 .rename_i gq z hu bn
  split at h
  .rename_i l aT
   split at h
   .rename_i bY
    obtain⟨fw,ah,bc⟩:=afK cN l _ h;refine⟨_,ah,λw=>?_⟩;have Ig:=Ty (mh P 9 T) z;rw[aT] at Ig;simp only[Instr.build,aDv,Br bn,aDu,aDB hu,run_places bY];rw[<-Ig];simp only[ag.val,Value.cells];rw[bc];rfl
   .exact h.elim
  .exact h.elim
 .rename_i len el z hu bn
  split at h
  .rename_i n c aT
   split at h
   .rename_i bY
    obtain⟨cr,ah,bc⟩:=azb cN c _ h;refine⟨_,ah,λw=>?_⟩;have Ig:=Ty (mh P 9 T) z;rw[aT] at Ig;simp only[Instr.build,aDv,Br bn,aDu,aDB hu,nv bY];rw[<-Ig,ag.MD (s:= .ws n c) rfl,ag.MD (s:= .ws n cr) rfl];simp only[Value.cells,ag.cells];rw[bc];rfl
   .exact h.elim
  .exact h.elim
 .exact h.elim
def Ih (P:Program)(T:TypeId)(x:ag)(K:ag->Prop):Prop :=
 match P.underlying T,x with
 | some (.slice _),.s x=>K (.i .i64 x.len)
 | some .string,.str s=>K (.i .i64 s.size)
 | some (.array k _),_=>K (.i .i64 k)
 | _,_=>False
theorem azd {P:Program}{T:TypeId}{x:ag}{K:ag->Prop}{ats:Array TypeId}{ty:TypeId}(h:Ih P T x K)(bY:ats[0]? =some T) :
 ∃r,K r/\∀w,(Builtin.len_ ats ty #[x.val]).run P w= .ok r.val w:=by
 unfold Ih at h;split at h
 .rename_i hu
  exact⟨_,h,λw=>by simp[Builtin.len_,bY,aDB hu,ag.val,aZ,goInt]⟩
 .rename_i hu
  exact⟨_,h,λw=>by simp[Builtin.len_,bY,aDB hu,ag.val,goInt]⟩
 .rename_i hu
  exact⟨_,h,λw=>by simp[Builtin.len_,bY,aDB hu,ag.val,goInt]⟩
 .exact h.elim
def zi (lC:Bool)(x y:ag)(K:ag->Prop):Prop :=
 match x,y with
 | .i k a,.i _ b=>K (.i k (cond lC (max a b) (min a b)))
 | .u a,.u b=>K (.u (cond lC (max a b) (min a b)))
 | _,_=>False
theorem afL (a b:Int):(if b > a then b else a)=max a b:=by split<;>omega
theorem afM (a b:Int):(if b<a then b else a)=min a b:=by split<;>omega
theorem aze (a b:aE):((max a b).toNat:Int)=max (a.toNat:Int) b.toNat:=by
 rw[show max a b=if a<=b then b else a from rfl];split<;>rename_i h<;>rw[aEN] at h<;>omega
theorem azf (a b:aE):((min a b).toNat:Int)=min (a.toNat:Int) b.toNat:=by
 rw[show min a b=if a<=b then a else b from rfl];split<;>rename_i h<;>rw[aEN] at h<;>omega
theorem azg {P:Program}{x y:ag}{K:ag->Prop}(h:zi true x y K):Comes P (Builtin.max2 x.val y.val) K:=by
 unfold zi at h;split at h
 .refine⟨_,h,λw=>?_⟩;simp only[ag.val,Builtin.max2,aDG,aED,afL]
 .refine⟨_,h,λw=>?_⟩;simp only[ag.val,ab,Builtin.max2,aDG,aED,afL,aze]
 .exact h.elim
theorem azh {P:Program}{x y:ag}{K:ag->Prop}(h:zi false x y K):Comes P (Builtin.min2 x.val y.val) K:=by
 unfold zi at h;split at h
 .refine⟨_,h,λw=>?_⟩;simp only[ag.val,Builtin.min2,aDG,aEZ,afM]
 .refine⟨_,h,λw=>?_⟩;simp only[ag.val,ab,Builtin.min2,aDG,aEZ,afM,azf]
 .exact h.elim
def Ii (P:Program)(b:Builtin)(ats:Array TypeId)(xs:List ag)(K:ag->Prop):Prop :=
 match b,xs with
 | .len,[x]=>match ats[0]? with|some T=>Ih P T x K|none=>False
 | .cap,[.s x]=>match ats[0]? with|some T=>(match P.underlying T with|some (.slice _)=>K (.i .i64 x.cap)|_=>False)|none=>False
 | .max,[x,y]=>zi true x y K
 | .min,[x,y]=>zi false x y K
 | _,_=>False
theorem azi {P:Program}{b:Builtin}{ats:Array TypeId}{ty:TypeId}{cs:Array Bool}{xs:List ag}{K:ag->Prop}(h:Ii P b ats xs K) :
 ∃r,K r/\∀w,(builtin b ats ty cs (ag.bJ xs).toArray).run P w= .ok (.value r.val) w:=by
 unfold Ii at h;split at h
 .split at h
  .rename_i T gf
   obtain⟨r,ah,aQ⟩:=azd (ats:=ats) (ty:=ty) h gf;exact⟨r,ah,λw=>by simp[builtin,ag.bJ,aQ]⟩
  .exact h.elim
 .rename_i x
  split at h
  .rename_i T gf
   split at h
   .rename_i hu
    exact⟨_,h,λw=>by simp[builtin,ag.bJ,Builtin.cap_,gf,aDB hu,ag.val,aZ,goInt]⟩
   .exact h.elim
  .exact h.elim
 .rename_i x y
  obtain⟨r,ah,aQ⟩:=azg (P:=P) h;exact⟨r,ah,λw=>by simp[builtin,ag.bJ,Builtin.max_,aQ]⟩
 .rename_i x y
  obtain⟨r,ah,aQ⟩:=azh (P:=P) h;exact⟨r,ah,λw=>by simp[builtin,ag.bJ,Builtin.min_,aQ]⟩
 .exact h.elim
def xm (n:Nat)(e:Env)(x:Option Operand)(K:Option ag->Prop):Prop :=
 match x with
 | none=>K none
 | some x=>ie n e x λs=>K (some s)
theorem Tz {n:Nat}{e:Env}{x:Option Operand}{K:Option ag->Prop}(h:xm n e x K) :
 ∃s,K s/\∀a,Good n e a->x.map a.eval=s.map ag.val:=by
 cases x with
 | none=>exact⟨none,h,λ_ _=>rfl⟩
 | some x =>
  obtain⟨s,aV,aa⟩:=kj h;exact⟨some s,aV,λa g=>by simp[aa a g]⟩
def xl (P:Program)(n:Nat)(e:Env)(qY:Nat->fp):List (Nat×Operand)->(List (Nat×ag)->Prop)->Prop
 | [],K=>K []
 | (i,x)::l,K=>qf n (qY i) e x λs=>xl P n e qY l λr=>K ((i,s)::r)
theorem Ts {P:Program}{n:Nat}{e:Env}{qY:Nat->fp}:∀(l:List (Nat×Operand)) (K:List (Nat×ag)->Prop),xl P n e qY l K ->
 ∃r,K r/\∀a,Good n e a->l.map (λx=>(x.1,a.eval x.2))=r.map (λx=>(x.1,x.2.val))
 | [],K,h=>⟨[],h,λ_ _=>rfl⟩
 | (i,x)::l,K,h=>by
  obtain⟨s,aV,aa⟩:=zd h;obtain⟨r,aQ,ad⟩:=Ts l _ aV;exact⟨_,aQ,λa g=>by simp[aa a g,ad a g]⟩
def afI (P:Program)(T:TypeId)(i:Nat):fp :=
 match P.underlying T with
 | some (.struct gq)=>match gq[i]? with|some f=>mh P 9 f.type|none=> .v
 | some (.array _ el)=>mh P 9 el
 | some (.slice el)=>mh P 9 el
 | _=> .v
def MH (x:ag)(K:ag->Prop):Prop :=
 match x with
 | .p q=>K (.p q)
 | .ic q=>∃p,q=some p/\K (.p p)
 | .f g c=>K (.f g c)
 | _=>False
def Ij (c a b:ag)(K:ag->Prop):Prop :=
 match c,a,b with
 | .b c,.b a,.b b=>K (.b (cond c a b))
 | .b c,a,b=>bl c (K a) (K b)
 | _,_,_=>False
def TA (P:Program)(T:TypeId)(a b:ag):Option Bool :=
 match P.underlying T,a,b with
 | some (.int _),.i k x,.i h_ y=>if k=h_ then some (decide (x=y)) else none
 | some (.int _),.u x,.u y=>some (decide (x=y))
 | some .bool,.b x,.b y=>some (x==y)
 | some .string,.str x,.str y=>some (x.toList==y.toList)
 | _,_,_=>none
def xr (P:Program):List Field->Nat->List ag->List ag->Option Bool
 | [],_,[],[]=>some true
 | f::gq,o,a::l,b::fw =>
  if (f.name != "_")=true/\f.offset=o/\r1 P f.type=some false then
   match TA P f.type a b,xr P gq (o+1) l fw with
   | some r,some t=>some (r&&t)
   | _,_=>none
  else none
 | _,_,_,_=>none
def TB (P:Program)(T:TypeId)(l fw:List ag):Option Bool :=
 match P.underlying T with
 | some (.struct gq)=>if P.eqGuardType P.depth T=false/\P.stoodInHeld T=false then xr P gq.toList 0 l fw else none
 | _=>none
theorem azj {P:Program}{T:TypeId}{a b:ag}{r:Bool}(h:TA P T a b=some r)(d:Nat)(w:World) :
 (Op.equalIn (d+1) T a.val b.val).run P w= .ok r w/\ag.cells a=[a.val]/\ag.cells b=[b.val]:=by
 unfold TA at h;split at h
 .rename_i k aD x aB y hu
  split at h
  .rename_i ah
   subst ah;cases h;refine⟨?_,rfl,rfl⟩;simp only[ag.val];rw[run_equalIn_int w d T _ _ _ _ hu,Ey]
  .cases h
 .rename_i k x y hu
  cases h;refine⟨?_,rfl,rfl⟩;simp only[ag.val,ab];rw[run_equalIn_int w d T _ _ _ _ hu,Ey];simp[<-aDE,aFN]
 .rename_i x y hu
  cases h;refine⟨?_,rfl,rfl⟩;simp only[ag.val];rw[run_equalIn_bool' w d T _ _ hu]
 .rename_i x y hu
  cases h;refine⟨?_,rfl,rfl⟩;simp only[ag.val];rw[run_equalIn_string w d T _ _ hu]
 .cases h
theorem afN {P:Program}{T:TypeId}{pre post:List Value}{v:Value}(an:r1 P T=some false)(w:World) :
 (part T (pre++v::post).toArray pre.length).run P w= .ok v w:=by
 unfold part;simp only[aDv,H4 an,aDu,aEb,aEc];simp
theorem afO {P:Program}(d:Nat)(w:World):∀(gq:List Field) (o:Nat) (l fw:List ag) (r:Bool) (pre vs:List Value),xr P gq o l fw=some r->pre.length=o->vs.length=o ->
 (Op.eqFields (d+1) (pre++ag.gL l).toArray (vs++ag.gL fw).toArray gq).run P w= .ok r w
 | [],o,[],[],r,pre,vs,h,_,_=>by
  simp only[xr,aEj] at h;subst h;simp[Op.eqFields]
 | f::gq,o,a::l,b::fw,r,pre,vs,h,aa,ad=>by
  simp only[xr] at h;split at h
  .rename_i a1
   obtain⟨aS,aY,cB⟩:=a1;split at h
   .rename_i eD t1 aH a_
    cases h;obtain⟨q1,aI,bb⟩:=azj aH d w;have dI:=afO d w gq (o+1) l fw t1 (pre++[a.val]) (vs++[b.val]) a_ (by simp[aa]) (by simp[ad]);have ay:f.name ≠ "_":=by simpa using aS
    have ho:=afN (P:=P) (pre:=pre) (post:=ag.gL l) (v:=a.val) cB w;have iz:=afN (P:=P) (pre:=vs) (post:=ag.gL fw) (v:=b.val) cB w;rw[aa] at ho;rw[ad] at iz;simp only[Op.eqFields,ay,ne_eq,not_false_eq_true,aEv,ag.gL,aI,bb,aY,List.singleton_append,aDv,ho,iz,aDu,q1];cases eD
    .simp
    .simpa using dI
   .cases h
  .cases h
 | [],o,a::l,fw,r,pre,vs,h,_,_=>by simp[xr] at h
 | [],o,[],b::fw,r,pre,vs,h,_,_=>by simp[xr] at h
 | f::gq,o,[],fw,r,pre,vs,h,_,_=>by simp[xr] at h
 | f::gq,o,a::l,[],r,pre,vs,h,_,_=>by simp[xr] at h
def zj (op:BinOp)(r:Bool)(K:ag->Prop):Prop :=
 match op with
 | .eql=>K (.b r)
 | .neq=>K (.b (!r))
 | _=>False
theorem azk {P:Program}{T:TypeId}{l fw:List ag}{r:Bool}(h:TB P T l fw=some r)(op:BinOp)(x y:Operand)(K:ag->Prop)(ah:zj op r K) :
 ∃s,K s/\∀w,(do eqGuard op T x y (ag.val (.dz l)) (ag.val (.dz fw));binOp op T (ag.val (.dz l)) (ag.val (.dz fw)):Sem Value).run P w= .ok s.val w:=by
 unfold TB at h;split at h
 .rename_i gq hu
  split at h
  .rename_i a1
   obtain⟨aS,aY⟩:=a1;have bc:P.fieldsOf T=gq:=by unfold Program.fieldsOf;rw[hu]
   have key:∀w,(Op.equalIn 10000 T (ag.val (.dz l)) (ag.val (.dz fw))).run P w= .ok r w:=λw=>by
    have:=run_equalIn_struct (P:=P) w 9999 T (ag.gL l).toArray (ag.gL fw).toArray (by rw[bc];exact hu) aY;simp only[ag.val];rw[this,bc];exact afO 9998 w gq.toList 0 l fw r [] [] h rfl rfl
   cases op<;>try exact(show False from ah).elim
   .refine⟨_,ah,λw=>?_⟩;have aD:=key w;simp only[ag.val] at aD;simp only[aDv,ag.val,run_eqGuard_agg w _ T x y _ _ aS,aDu,run_eql_struct,aD]
   .refine⟨_,ah,λw=>?_⟩;have aD:=key w;simp only[ag.val] at aD;simp only[aDv,ag.val,run_eqGuard_agg w _ T x y _ _ aS,aDu,run_neq_struct,aD]
  .cases h
 .cases h
def TC (P:Program)(T:TypeId)(n:Nat)(c cr:bo n):Option Bool :=
 match P.underlying T with
 | some (.array m e)=>match P.underlying e with
  | some (.int .u64)=>if m=n/\P.eqGuardType P.depth T=false/\kk P e=some 1/\r1 P e=some false then some (decide (c=cr)) else none
  | _=>none
 | _=>none
theorem afP {P:Program}{e:TypeId}(an:r1 P e=some false){n:Nat}(c:bo n){i:Nat}(hi:i<n)(w:World) :
 (part e (c.toArray.map ab) i).run P w= .ok (ab c[i]) w:=by
 unfold part;simp only[aDv,H4 an,aDu,aEb,aEc];simp[hi]
theorem afQ {P:Program}{e:TypeId}(d:Nat)(w:World)(hu:P.underlying e=some (.int .u64))(an:r1 P e=some false){n:Nat}(c cr:bo n):∀(is:List Nat),(∀i∈is,i<n) ->
 (Op.eqItems (d+1) e 1 (c.toArray.map ab) (cr.toArray.map ab) is).run P w= .ok (is.all λi=>decide (c[i]? =cr[i]?)) w
 | [],_=>by simp[Op.eqItems]
 | i::is,h=>by
  have hi:=h i (aDH ..);have dI:=afQ d w hu an c cr is λj aU=>h j (aDI _ aU);have ho:=afP an c hi w;have iz:=afP an cr hi w;have q:(Op.equalIn (d+1) e (ab c[i]) (ab cr[i])).run P w= .ok (decide (c[i]=cr[i])) w:=by
   simp only[ab];rw[run_equalIn_int w d e _ _ _ _ hu,Ey];simp[<-aDE,aFN]
  simp only[Op.eqItems,aEV,aDv,ho,iz,q,aDu];have aH:decide (c[i]? =cr[i]?)=decide (c[i]=cr[i]):=by simp[hi]
  rw[List.all_cons,aH];cases decide (c[i]=cr[i])
  .simp
  .simpa using dI
theorem azl {P:Program}{T:TypeId}{n:Nat}{c cr:bo n}{r:Bool}(h:TC P T n c cr=some r)(op:BinOp)(x y:Operand)(K:ag->Prop)(ah:zj op r K) :
 ∃s,K s/\∀w,(do eqGuard op T x y (ag.val (.ws n c)) (ag.val (.ws n cr));binOp op T (ag.val (.ws n c)) (ag.val (.ws n cr)):Sem Value).run P w= .ok s.val w:=by
 unfold TC at h;split at h
 .rename_i m e hu
  split at h
  .rename_i he
   split at h
   .rename_i a1
    obtain⟨rfl,aS,aY,cB⟩:=a1;cases h;obtain⟨i,hi,oN⟩:∃i,P.info? e=some i/\i.size=1:=by
     unfold kk at aY;cases b2:P.info? e with
     | none=>rw[b2] at aY;cases aY
     | some i=>rw[b2] at aY;exact⟨i,rfl,by simpa using aY⟩
    have azm:P.cellsOf e=1:=by unfold Program.cellsOf;rw[hi];simpa using oN
    have key:∀w,(Op.equalIn 10000 T (.agg (c.toArray.map ab)) (.agg (cr.toArray.map ab))).run P w= .ok (decide (c=cr)) w:=λw=>by
     rw[run_equalIn_array w 9999 _ _ hu hi,azm,afQ 9998 w he cB c cr _ (λi hi=>aDT.1 hi)];congr 1;rw[aDV];simp only[aE8,aDT,aEJ];constructor
     .intro h
      apply aEO;intro i hi;have:=h i hi;simpa [hi] using this
     .rintro rfl i _;rfl
    cases op<;>try exact(show False from ah).elim
    .refine⟨_,ah,λw=>?_⟩;have aD:=key w;simp only[ag.val];simp only[aDv,run_eqGuard_agg w _ T x y _ _ aS,aDu,run_eql_struct,aD]
    .refine⟨_,ah,λw=>?_⟩;have aD:=key w;simp only[ag.val];simp only[aDv,run_eqGuard_agg w _ T x y _ _ aS,aDu,run_neq_struct,aD]
   .cases h
  .cases h
 .cases h
def za (P:Program)(n:Nat)(op:BinOp)(T:TypeId)(y:Operand)(e:Env)(a:ag)(K:ag->Prop):Prop :=
 match y with
 | .const v=>Ez P op T a (vt v) K
 | y=>ie n e y λb=>match a,b with
  | _,.v _=>False
  | .dz l,.dz fw=>(match TB P T l fw with|some r=>zj op r K|none=>False)
  | .ws k c,.ws m cr=>if hm:m=k then (match TC P T k c (hm▸cr) with|some r=>zj op r K|none=>False) else False
  | a,b=>Ez P op T a b K
theorem azn {P:Program}{n:Nat}{op:BinOp}{T:TypeId}{x y:Operand}{e:Env}{s:ag}{K:ag->Prop}(h:za P n op T y e s K) :
 ∃r,K r/\∀a,Good n e a->a.eval x=s.val->∀w,(do eqGuard op T x y (a.eval x) (a.eval y);binOp op T (a.eval x) (a.eval y):Sem Value).run P w= .ok r.val w:=by
 unfold za at h;split at h
 .rename_i v
  obtain⟨⟨r,ah,aQ⟩,he⟩:=afR h;refine⟨r,ah,λa g aV w=>?_⟩;rw[MI] at aQ he;have aH:(eqGuard op T x (.const v) (a.eval x) v).run P w= .ok () w:=by
   rw[aV];rcases he with he|⟨aa,ad⟩
   .exact afS w he
   .rw[aa,ad];exact azo w
  simp only[aDv,Act.eval] at aH ⊢;rw[aH];simp only[aDu];have p6:a.eval x=s.val:=aV;unfold Act.eval at p6;rw[p6];exact aQ w
 .obtain⟨b,h,ar⟩:=kj h;split at h
  .exact h.elim
  .split at h
   .rename_i l fw _ r aQ
    obtain⟨t,bG,hw⟩:=azk aQ op x y K h;refine⟨t,bG,λa g aV w=>?_⟩;rw[aV,ar a g];exact hw w
   .exact h.elim
  .split at h
   .rename_i hm
    subst hm;split at h
    .rename_i r aQ
     obtain⟨t,bG,hw⟩:=azl aQ op x y K h;refine⟨t,bG,λa g aV w=>?_⟩;rw[aV,ar a g];exact hw w
    .exact h.elim
   .exact h.elim
  .rename_i b0 _ _
   obtain⟨⟨r,ah,aQ⟩,he⟩:=afR h;refine⟨r,ah,λa g aV w=>?_⟩;rw[aV,ar a g];have aH:(eqGuard op T x y s.val b.val).run P w= .ok () w:=by
    rcases he with he|⟨aa,ad⟩
    .exact afS w he
    .exfalso;cases b<;>first|(simp[ag.val,ab,bm,a7,aZ,undef] at ad;done)|exact b0 _ rfl
   simp[aH,aQ]
def xn (P:Program)(n:Nat)(o:Op)(ty:TypeId)(e:Env)(K:ag->Prop):Prop :=
 match o with
 | .move x=>qf n (mh P 9 ty) e x K
 | .assign x=>qf n (mh P 9 ty) e x K
 | .pick c a b=>ie n e c λc=>ie n e a λa=>ie n e b λb=>Ij c a b K
 | .nilCheck x=>ie n e x λa=>MH a K
 | .binOp op T x y _=>ie n e x λa=>za P n op T y e a K
 | .unOp op _ x=>ie n e x λa=>Ik op a K
 | .convert s d x=>ie n e x λa=>Il P s d a K
 | .fieldAddr s x i=>match Tv P s i with
  | some off=>ie n e x λa=>match a with| .p q=>K (.p ⟨q.b,q.o+off⟩)|_=>False
  | none=>False
 | .field s x i=>ie n e x λa=>match a with| .dz l=>H9 P s i l K|_=>False
 | .indexAddr T x cA=>ie n e x λa=>ie n e cA λj=>zg j λ_ j=>H_ P T a j K
 | .index T x cA=>ie n e x λa=>ie n e cA λj=>zg j λ_ j=>Ia P T a j K
 | .extract x i=>ie n e x λa=>match a with| .jC l=>(match l[i]? with|some r=>K r|none=>False)|_=>False
 | .slice T x lo hi lC=>ie n e x λa=>xm n e lo λl=>xm n e hi λh=>xm n e lC λm=>Ib P T a l h m K
 | .makeFunc (.func g) first captured=>if first.size=0 then xk n e captured.toList λc=>K (.f g c) else False
 | .makeInterface T x=>match P.underlying T with
  | some (.interface _)=>False
  | some _=>qf n (mh P 9 T) e x λa=>K (.v (.iface T a.val))
  | none=>False
 | .build T cN=>xl P n e (afI P T) cN.toList λcN=>Ic P T cN K
 | .call { callee:= .builtin b,args,argTypes }=>xk n e args.toList λxs=>Ii P b argTypes xs K
 | _=>False
theorem azp {c a b:ag}{K:ag->Prop}(h:Ij c a b K):∃r t,K r/\c.val= .bool t/\r.val=if t then a.val else b.val:=by
 unfold Ij at h;split at h
 .rename_i c a b
  exact⟨_,c,h,rfl,by cases c<;>rfl⟩
 .rename_i c _
  cases c
  .exact⟨_,false,h,rfl,rfl⟩
  .exact⟨_,true,h,rfl,rfl⟩
 .exact h.elim
theorem ay0 {P:Program}{n:Nat}{e:Env}{K:ag->Prop}{x:Oper}(h:xn P n x.op x.type e K) :
 ∃r,K r/\∀a,Good n e a->∀w,(execOp a.eval x).run P w= .ok (.value r.val) w:=by
 obtain⟨dst,op,ty,pos,after,guard⟩:=x;simp only at h;unfold xn at h;split at h
 .obtain⟨s,ah,aV⟩:=zd h;exact⟨s,ah,λa g w=>by simp[execOp,aV a g]⟩
 .obtain⟨s,ah,aV⟩:=zd h;exact⟨s,ah,λa g w=>by simp[execOp,aV a g]⟩
 .obtain⟨c,h,a1⟩:=kj h;obtain⟨x,h,ai⟩:=kj h;obtain⟨y,h,aC⟩:=kj h;obtain⟨r,t,ah,bG,aQ⟩:=azp h;exact⟨r,ah,λa g w=>by simp[execOp,a1 a g,ai a g,aC a g,bG,asBool,aQ]⟩
 .obtain⟨x,h,ai⟩:=kj h;unfold MH at h;split at h
  .exact⟨_,h,λa g w=>by simp[execOp,ai a g,ag.val,bm]⟩
  .obtain⟨p,rfl,ah⟩:=h;exact⟨_,ah,λa g w=>by simp[execOp,ai a g,ag.val,a7,bm]⟩
  .exact⟨_,h,λa g w=>by simp[execOp,ai a g,ag.val]⟩
  .exact h.elim
 .rename_i op T x y axX
  obtain⟨s,h,aV⟩:=kj h;obtain⟨r,ah,aQ⟩:=azn (x:=x) h;refine⟨r,ah,λa g w=>?_⟩;have:=aQ a g (aV a g) w;simp only[execOp,aDv] at this ⊢;simp[this]
 .obtain⟨s,h,aV⟩:=kj h;obtain⟨r,ah,aQ⟩:=azq (P:=P) h;exact⟨r,ah,λa g w=>by simp[execOp,aV a g,aQ]⟩
 .obtain⟨s,h,aV⟩:=kj h;obtain⟨r,ah,aQ⟩:=azr (P:=P) h;exact⟨r,ah,λa g w=>by simp[execOp,aV a g,aQ]⟩
 .split at h
  .rename_i off ep
   obtain⟨s,h,aV⟩:=kj h;split at h
   .rename_i q
    exact⟨_,h,λa g w=>by simp only[execOp,aDv,aV a g,ag.val,ay1 ep];rfl⟩
   .exact h.elim
  .exact h.elim
 .obtain⟨s,h,aV⟩:=kj h;split at h
  .rename_i l
   obtain⟨r,ah,aQ⟩:=ay3 h;exact⟨r,ah,λa g w=>by simp[execOp,aV a g,aQ]⟩
  .exact h.elim
 .obtain⟨s,h,aV⟩:=kj h;obtain⟨j,h,aU⟩:=kj h;obtain⟨k,i,hi,h⟩:=H8 h;obtain⟨r,ah,aQ⟩:=ay4 (k:=k) h;exact⟨r,ah,λa g w=>by simp[execOp,aV a g,aU a g,hi,aQ]⟩
 .obtain⟨s,h,aV⟩:=kj h;obtain⟨j,h,aU⟩:=kj h;obtain⟨k,i,hi,h⟩:=H8 h;obtain⟨r,ah,aQ⟩:=ay5 (k:=k) h;exact⟨r,ah,λa g w=>by simp[execOp,aV a g,aU a g,hi,aQ]⟩
 .obtain⟨s,h,aV⟩:=kj h;split at h
  .rename_i l
   split at h
   .rename_i r aQ
    refine⟨r,h,λa g w=>?_⟩;have:∀j:Nat,l[j]? =some r->(ag.bJ l)[j]? =some r.val:=by
     have key:∀(l:List ag) (i:Nat) (r:ag),l[i]? =some r->(ag.bJ l)[i]? =some r.val:=by
      intro l
      induction l with
      | nil=>intro i r h;simp at h
      | cons x l dI =>
       intro i r h;cases i with
       | zero=>simp at h;subst h;rfl
       | succ i=>simpa [ag.bJ] using dI i r (by simpa using h)
     exact λj aU=>key l j r aU
    simp[execOp,aV a g,ag.val,Instr.extract,this _ aQ]
   .exact h.elim
  .exact h.elim
 .obtain⟨s,h,aV⟩:=kj h;obtain⟨lo,h,aa⟩:=Tz h;obtain⟨hi,h,ad⟩:=Tz h;obtain⟨lC,h,an⟩:=Tz h;obtain⟨r,ah,aQ⟩:=ay9 h;exact⟨r,ah,λa g w=>by simp only[execOp,aDv,aV a g,aa a g,ad a g,an a g,aQ];rfl⟩
 .split at h
  .rename_i g first captured bc
   obtain⟨r,ah,aQ⟩:=Tu _ _ h;refine⟨_,ah,λa rI w=>?_⟩;have aa:first=#[]:=Array.size_eq_zero_iff.1 bc
   subst aa;have ad:(captured.map a.eval)=(ag.bJ r).toArray:=by
    apply aD6.1;simp[aQ a rI]
   simp[execOp,Instr.makeFunc,ad,ag.val]
  .exact h.elim
 .split at h
  .exact h.elim
  .rename_i T x d LF hu
   obtain⟨s,h,aV⟩:=zd h;refine⟨_,h,λa g w=>?_⟩;simp only[execOp,aDv,Instr.makeInterface,aDB hu,aDu];simp[aV a g,ag.val]
  .exact h.elim
 .rename_i T cN
  obtain⟨r,h,aQ⟩:=Ts _ _ h;obtain⟨v,ah,b0⟩:=azc h;refine⟨v,ah,λa g w=>?_⟩;have:(cN.map λx=>(x.1,a.eval x.2))=(r.map λx=>(x.1,x.2.val)).toArray:=by
   apply aD6.1;simp[aQ a g]
  simp only[execOp,aDv,this,b0];rfl
 .rename_i b args ats
  obtain⟨r,h,aQ⟩:=Tu _ _ h;obtain⟨v,ah,b0⟩:=azi (ty:=ty) (cs:=args.map fun| .const _=>true|_=>false) h;refine⟨v,ah,λa g w=>?_⟩;have:args.map a.eval=(ag.bJ r).toArray:=by
   apply aD6.1;simp[aQ a g]
  simp only[execOp,aDv,resolve,aDG,aDu,invoke,this];exact b0 w
 .exact h.elim

import Derived.Test.YtegdpmgnhnccaaaGreatShPure
import Derived.Laws.StructEq
import Derived.ChangeKeysEq
namespace Go.cQ
open Go Go.RowKit
def v7 (s:ae)(K:IntKind->Int->Prop):Prop :=
 match s with
 | .i k n=>K k n
 | .u x=>K .u64 (x.toNat:Int)
 | _=>False
theorem Dz {s:ae}{K:IntKind->Int->Prop}(h:v7 s K):∃k n,s.val= .int k n/\K k n:=by
 cases s<;>first|exact h.elim|exact⟨_,_,rfl,h⟩
def uc (n:Nat)(e:Env):List Operand->(List ae->Prop)->Prop
 | [],K=>K []
 | x::l,K=>gM n e x λs=>uc n e l λr=>K (s::r)
theorem Nw {n:Nat}{e:Env}:∀(l:List Operand) (K:List ae->Prop),uc n e l K->∃r,K r/\∀a,Good n e a->l.map a.eval=ae.bw r
 | [],K,h=>⟨[],h,λ_ _=>rfl⟩
 | x::l,K,h=>by
  obtain⟨s,aR,aa⟩:=ix h;obtain⟨r,aK,ad⟩:=Nw l _ aR;exact⟨_,aK,λa g=>by simp[ae.bw,aa a g,ad a g]⟩
def pK (P:Program)(T:TypeId):Option Bool :=
 match P.underlying T with
 | some (.struct _)=>some true
 | some (.array _ _)=>some true
 | some _=>some false
 | none=>none
theorem Dv {P:Program}{T:TypeId}{b:Bool}(h:pK P T=some b)(w:World):(isAgg T).run P w= .ok b w:=by
 unfold pK at h;unfold isAgg;simp only[atb];split at h
 .rename_i hu;rw[atd hu];simp at h;subst h;rfl
 .rename_i hu;rw[atd hu];simp at h;subst h;rfl
 .rename_i d af aA hu
  rw[atd hu];simp at h;subst h;simp only[ata];rfl
 .cases h
def iy (P:Program)(T:TypeId):Option Nat:=(P.info? T).map (·.size)
theorem lD {P:Program}{T:TypeId}{n:Nat}(h:iy P T=some n)(w:World):(sizeOf T).run P w= .ok n w:=by
 unfold iy at h;cases hi:P.info? T with
 | none=>simp[hi] at h
 | some i =>
  simp[hi] at h;simp[sizeOf,typeInfo,hi,h]
def ae.qu:ae->Bool
 | .c_ _=>true
 | .ws _ _=>true
 | _=>false
theorem ae.Ho {s:ae}(h:s.qu=true):s.val= .agg (ae.cells s).toArray:=by
 cases s<;>first|cases h|skip
 .simp only[ae.val,ae.cells];congr 1;apply atG.1;simp[Vector.toList]
 .rfl
theorem ae.Yq {s:ae}(h:s.qu=false):ae.cells s=[s.val]:=by
 cases s<;>first|rfl|cases h
def Nx (P:Program)(s:TypeId)(i:Nat):Option Nat :=
 match P.underlying s with
 | some (.struct e8)=>match e8[i]? with
  | some f=>match iy P f.type with
   | some 0=>none
   | some _=>some f.offset
   | none=>none
  | none=>none
 | _=>none
theorem aoP {P:Program}{s:TypeId}{i off:Nat}(h:Nx P s i=some off)(q:aG)(w:World) :
 (Instr.fieldAt s (bu q) i).run P w= .ok (bu ⟨q.b,q.o+off⟩) w:=by
 unfold Nx at h;split at h
 .rename_i e8 aR
  split at h
  .rename_i f bf
   split at h
   .cases h
   .rename_i n aH bt
    simp at h;subst h;have Gq:n≠0:=λe=>aH e;simp only[Instr.fieldAt,atb,atd aR,ata,bf,Instr.sureAddr,bu,atk,fieldPlace,lD bt,Gq,atS,tW]
   .cases h
  .cases h
 .cases h
def DA (P:Program)(s:TypeId)(i:Nat)(l:List ae)(K:ae->Prop):Prop :=
 match P.underlying s with
 | some (.struct e8)=>match e8[i]?,l[i]? with
  | some f,some r=>if f.offset=ae.pG (l.take i)/\iy P f.type=some r.size/\pK P f.type=some r.qu then K r else False
  | _,_=>False
 | _=>False
theorem Ny (l eF:List ae):ae.fm (l++eF)=ae.fm l++ae.fm eF:=by
 induction l with
 | nil=>rfl
 | cons a l c6=>simp[ae.fm,c6]
theorem aoQ {P:Program}{T:TypeId}{off:Nat}{pre post:List Value}{r:ae}(aa:off=pre.length)(ad:iy P T=some r.size)(aq:pK P T=some r.qu)(w:World) :
 (part T (pre++ae.cells r++post).toArray off).run P w= .ok r.val w:=by
 subst aa;unfold part;simp only[atb,Dv aq,ata];have aO:=ae.tX r;cases aK:r.qu with
 | true =>
  simp only[at2,atb,lD ad,ata,atk];rw[ae.Ho aK];congr 2;apply atG.1;simp[<-aO]
 | false =>
  simp only[atN,atS];have aT:=ae.Yq aK;rw[aT];simp
theorem aoR {P:Program}{s:TypeId}{i:Nat}{l:List ae}{K:ae->Prop}(h:DA P s i l K) :
 ∃r,K r/\∀w,(Instr.field s (ae.val (.c_ l)) i).run P w= .ok r.val w:=by
 unfold DA at h;split at h
 .rename_i e8 aR
  split at h
  .rename_i f r bf aK
   split at h
   .rename_i aT
    refine⟨r,h,λw=>?_⟩;obtain⟨aa,ad,aq⟩:=aT;simp only[Instr.field,atb,atd aR,ata,bf,ae.val,asAgg,atk];obtain⟨hi,Nm⟩:=auu.1 aK;have e:l=l.take i++r::l.drop (i+1):=by
     conv=>lhs;rw[<-aur i l,auv hi,Nm]
    have a7:ae.fm l=ae.fm (l.take i)++ae.cells r++ae.fm (l.drop (i+1)):=by
     conv=>lhs;rw[e,Ny]
     simp[ae.fm]
    rw[a7];exact aoQ (by rw[aa,ae.G8]) ad aq w
   .exact h.elim
  .exact h.elim
 .exact h.elim
def DB (P:Program)(T:TypeId)(x:ae)(i:Int)(K:ae->Prop):Prop :=
 match P.underlying T,x with
 | some (.slice el),.s x=>match iy P el with
  | some c4=>∃q,x.q=some q/\0<=i/\i<x.len/\K (.p ⟨q.b,q.o+i.toNat*c4⟩)
  | none=>False
 | some (.array len el),.p q=>match iy P el with
  | some c4=>0<=i/\i<len/\K (.p ⟨q.b,q.o+i.toNat*c4⟩)
  | none=>False
 | _,_=>False
theorem aoS {P:Program}{T:TypeId}{x:ae}{k:IntKind}{i:Int}{K:ae->Prop}(h:DB P T x i K) :
 ∃r,K r/\∀w,(Instr.indexAt T x.val (.int k i)).run P w= .ok r.val w:=by
 unfold DB at h;split at h
 .rename_i el x hu
  split at h
  .rename_i c4 bt
   obtain⟨q,ah,h0,aa,ab⟩:=h;refine⟨_,ab,λw=>?_⟩;simp only[Instr.indexAt,asIntOf,atb,atd hu,ata,atk,ae.val,aU,an.Dl ah];simp[h0,aa,lD bt,tW,bu]
  .exact h.elim
 .rename_i len el q hu
  split at h
  .rename_i c4 bt
   obtain⟨h0,aa,ab⟩:=h;refine⟨_,ab,λw=>?_⟩;simp only[Instr.indexAt,asIntOf,atb,atd hu,ata,atk,ae.val,bu,Instr.sureAddr];simp[h0,aa,lD bt,tW]
  .exact h.elim
 .exact h.elim
def DC (P:Program)(T:TypeId)(x:ae)(i:Int)(K:ae->Prop):Prop :=
 match P.underlying T,x with
 | some (.array len el),.ws n c=>if len=n/\iy P el=some 1/\pK P el=some false then 0<=i/\∃h:i.toNat<n,K (.u c[i.toNat]) else False
 | some .string,.str s=>0<=i/\∃h:i.toNat<s.size,K (.i .u8 (s[i.toNat].toNat:Int))
 | _,_=>False
theorem aoT {P:Program}{T:TypeId}{x:ae}{k:IntKind}{i:Int}{K:ae->Prop}(h:DC P T x i K) :
 ∃r,K r/\∀w,(Instr.index T x.val (.int k i)).run P w= .ok r.val w:=by
 unfold DC at h;split at h
 .rename_i len el n c hu
  split at h
  .rename_i aT
   obtain⟨rfl,aa,ad⟩:=aT;obtain⟨h0,hi,ab⟩:=h;refine⟨_,ab,λw=>?_⟩;have b1:i<len:=by omega
   simp only[Instr.index,asIntOf,atb,atd hu,ata,atk,ae.val];simp only[h0,b1,and_self,at2,atb,lD aa,ata,part,Dv ad,atN,atS];simp[hi]
  .exact h.elim
 .rename_i s hu
  obtain⟨h0,hi,ab⟩:=h;refine⟨_,ab,λw=>?_⟩;simp only[Instr.index,asIntOf,atb,atd hu,ata,atk,ae.val];have:s[i.toNat]? =some s[i.toNat]:=by simp[hi]
  simp[h0,this]
 .exact h.elim
def qw (x:ae)(v8:Nat)(K:Nat->Prop):Prop:=v7 x λ_ i=>0<=i/\i<=v8/\K i.toNat
theorem ui {P:Program}{x:ae}{v8:Nat}{K:Nat->Prop}(h:qw x v8 K) :
 ∃m,m<=v8/\K m/\∀c w,(Instr.sliceBound x.val v8 c).run P w= .ok m w:=by
 obtain⟨k,i,af,h0,aa,ab⟩:=Dz h;refine⟨_,by omega,ab,λc w=>?_⟩;simp only[Instr.sliceBound,af,asIntOf,atb,atk,ata];rw[as8 ⟨h0,aa⟩];rfl
def oM (len cap:Nat)(lo hi jR:Option ae)(K:Nat->Nat->Nat->Prop):Prop :=
 match lo,hi,jR with
 | none,none,none=>K 0 len cap
 | some l,none,none=>qw l len λl=>K l len cap
 | none,some h,none=>qw h cap λh=>K 0 h cap
 | some l,some h,none=>qw h cap λh=>qw l h λl=>K l h cap
 | none,some h,some m=>qw m cap λm=>qw h m λh=>K 0 h m
 | some l,some h,some m=>qw m cap λm=>qw h m λh=>qw l h λl=>K l h m
 | _,none,some _=>False
theorem Nz {P:Program}{len cap:Nat}{lo hi jR:Option ae}{K:Nat->Nat->Nat->Prop}(h:oM len cap lo hi jR K) :
 ∃l h m,K l h m/\∀b w,(Instr.sliceBounds b len cap (lo.map ae.val) (hi.map ae.val) (jR.map ae.val)).run P w= .ok (l,h,m) w:=by
 unfold oM at h;split at h
 .exact⟨_,_,_,h,λb w=>by simp[Instr.sliceBounds]⟩
 .obtain⟨l,_,ab,aK⟩:=ui (P:=P) h;exact⟨_,_,_,ab,λb w=>by simp[Instr.sliceBounds,aK]⟩
 .obtain⟨l,_,ab,aK⟩:=ui (P:=P) h;exact⟨_,_,_,ab,λb w=>by simp[Instr.sliceBounds,aK]⟩
 .obtain⟨l,_,ab,aK⟩:=ui (P:=P) h;obtain⟨hW,_,ab,lM⟩:=ui (P:=P) ab;exact⟨_,_,_,ab,λb w=>by simp[Instr.sliceBounds,aK,lM]⟩
 .obtain⟨l,_,ab,aK⟩:=ui (P:=P) h;obtain⟨hW,_,ab,lM⟩:=ui (P:=P) ab;exact⟨_,_,_,ab,λb w=>by simp[Instr.sliceBounds,aK,lM]⟩
 .obtain⟨l,_,ab,aK⟩:=ui (P:=P) h;obtain⟨hW,_,ab,lM⟩:=ui (P:=P) ab;obtain⟨qP,_,ab,aoU⟩:=ui (P:=P) ab;exact⟨_,_,_,ab,λb w=>by simp[Instr.sliceBounds,aK,lM,aoU]⟩
 .exact h.elim
def fT (p:Option aG)(l m c4:Nat):Option aG:=if m=l then p else p.map λq=>⟨q.b,q.o+l*c4⟩
def hE (z:Option Nat)(l m c4:Nat):Option Nat:=if m=l∨l*c4=0 then z else none
def DD (P:Program)(T:TypeId)(x:ae)(lo hi jR:Option ae)(K:ae->Prop):Prop :=
 match P.underlying T,x with
 | some (.slice el),.s x=>match iy P el with
  | some c4=>oM x.len x.cap lo hi jR λl h m=>K (.s ⟨fT x.p l m c4,h-l,m-l,hE x.z l m c4⟩)
  | none=>False
 | some (.array len el),.p q=>match iy P el with
  | some c4=>oM len len lo hi jR λl h m=>K (.s ⟨fT (some q) l m c4,h-l,m-l,none⟩)
  | none=>False
 | some .string,.str s=>match jR with
  | none=>oM s.size s.size lo hi none λl h _=>K (.str (s.extract l h))
  | some _=>False
 | _,_=>False
theorem aoV (x:an)(l m c4 a b:Nat):an.addr ⟨fT x.p l m c4,a,b,hE x.z l m c4⟩=(if m=l then x.addr else x.addr.map (·.add (l*c4))):=by
 obtain⟨p,n,c,z⟩:=x;simp only[an.addr,fT,hE];by_cases aa:m=l
 .simp[aa]
 .cases p with
  | none=>simp[aa]
  | some q =>
   by_cases ad:l*c4=0
   .simp only[aa,atS,aua,ad,Addr.add,at2,or_true,atQ]
   .simp only[aa,atS,aua,ad,Addr.add,or_self]
theorem aoW (q:aG)(l m c4 a b:Nat):an.addr ⟨fT (some q) l m c4,a,b,none⟩=(if m=l then some q.addr else some (q.addr.add (l*c4))):=by
 simp only[an.addr,fT];by_cases aa:m=l
 .simp[aa,aG.addr]
 .simp only[aa,atS,aua,tW];rfl
theorem aoX {P:Program}{T:TypeId}{x:ae}{lo hi jR:Option ae}{K:ae->Prop}(h:DD P T x lo hi jR K) :
 ∃r,K r/\∀w,(Instr.sliceAt T x.val (lo.map ae.val) (hi.map ae.val) (jR.map ae.val)).run P w= .ok r.val w:=by
 unfold DD at h;split at h
 .rename_i el x hu
  split at h
  .rename_i c4 bt
   obtain⟨l,ag,m,ab,aK⟩:=Nz (P:=P) h;refine⟨_,ab,λw=>?_⟩;simp only[Instr.sliceAt,Instr.slice,atb,atd hu,ata,ae.val,aU,aK,lD bt,atk,aoV]
  .exact h.elim
 .rename_i len el q hu
  split at h
  .rename_i c4 bt
   obtain⟨l,ag,m,ab,aK⟩:=Nz (P:=P) h;refine⟨_,ab,λw=>?_⟩;simp only[Instr.sliceAt,atb,atd hu,ata,ae.val,aU,bu,aK,lD bt,atk,aoW,Instr.sureAddr];split<;>rfl
  .exact h.elim
 .rename_i s hu
  split at h
  .obtain⟨l,ag,m,ab,aK⟩:=Nz (P:=P) h;refine⟨_,ab,λw=>?_⟩;simp only[Option.map_none] at aK;simp only[Instr.sliceAt,Instr.slice,atb,atd hu,ata,ae.val,Option.map_none,Option.isSome_none,atN,atS,aK,atk]
  .exact h.elim
 .exact h.elim
def sE (P:Program)(T:TypeId):Option Value:=(P.info? T).bind (·.zero)
theorem x2 {P:Program}{T:TypeId}{v:Value}(h:sE P T=some v)(w:World):(zeroValue T).run P w= .ok v w:=by
 unfold sE at h;cases hi:P.info? T with
 | none=>simp[hi] at h
 | some i =>
  simp[hi] at h;simp[zeroValue,typeInfo,hi,h]
theorem Yx (post:List Value)(off:Nat):∀(l old pre:List Value) (k:Nat),l.length=old.length->off+k=pre.length ->
 (l.zipIdx k).foldl (λcs x=>cs.setIfInBounds (off+x.2) x.1) (pre++old++post).toArray=(pre++l++post).toArray
 | [],old,pre,k,h,_=>by
  obtain rfl:old=[]:=atM.1 h.symm;rfl
 | c::l,[],pre,k,h,_=>by simp at h
 | c::l,o::old,pre,k,h,ab=>by
  simp only[List.zipIdx_cons,List.foldl_cons];have e:(pre++(o::old)++post).toArray.setIfInBounds (off+k) c=((pre++[c])++old++post).toArray:=by
   rw[ab];simp
  rw[e,Yx post off l old (pre++[c]) (k+1) (by simpa using h) (by simp;omega)];simp
theorem No {place:Nat->Option (Nat×Nat)}{i off:Nat}{v:Value}{l old pre post:List Value}{rest:List (Nat×Value)}
 (aM:place i=some (off,l.length)) (bH:v.cells=l.toArray) (dQ:old.length=l.length) (r9:off=pre.length) :
 Instr.fill place (pre++old++post).toArray ((i,v)::rest)=Instr.fill place (pre++l++post).toArray rest:=by
 simp only[Instr.fill,aM,bH];rw[as7 (by simp;omega)];congr 1;have:=Yx post off l old pre 0 dQ.symm (by omega);rw[<-this,<-Array.foldl_toList];simp
def x6 (P:Program)(e8:Array Field):List (Nat×ae)->List ae->(List ae->Prop)->Prop
 | [],l,K=>K l
 | (i,r)::cc,l,K =>
  match e8[i]?,l[i]? with
  | some f,some old=>if f.offset=ae.pG (l.take i)/\iy P f.type=some r.size/\old.size=r.size then k_ r (x6 P e8 cc (l.set i r) K) else False
  | _,_=>False
def Hr (P:Program)(e8:Array Field):Array (Nat×Nat):=e8.map λf=>(f.offset,(iy P f.type).getD 0)
theorem run_places {P:Program}{e8:Array Field}(h:e8.toList.all (λf=>(iy P f.type).isSome)=true)(w:World) :
 (e8.mapM λf=>(do pure (f.offset,<-sizeOf f.type):Sem (Nat×Nat))).run P w= .ok (Hr P e8) w:=by
 obtain⟨l⟩:=e8;unfold Hr;rw[<-Array.toArray_toList (xs:=(⟨l⟩:Array Field)),List.mapM_toArray];simp only[Sem.run_map];have key:∀l:List Field,l.all (λf=>(iy P f.type).isSome)=true ->
  (l.mapM λf=>(do pure (f.offset,<-sizeOf f.type):Sem (Nat×Nat))).run P w= .ok (l.map λf=>(f.offset,(iy P f.type).getD 0)) w:=by
  intro l aO
  induction l with
  | nil=>simp
  | cons f l c6 =>
   simp only[List.all_cons,at6] at aO;obtain⟨n,aH⟩:=Option.isSome_iff_exists.1 aO.1;simp only[List.mapM_cons,atb,lD aH,ata,atk,c6 aO.2,at1,aH,au7]
 rw[key l h];simp
theorem aoY (l:List ae)(i:Nat)(r:ae)(hi:i<l.length):ae.fm l=ae.fm (l.take i)++ae.cells l[i]++ae.fm (l.drop (i+1)) /\
 ae.fm (l.set i r)=ae.fm (l.take i)++ae.cells r++ae.fm (l.drop (i+1)):=by
 constructor
 .conv=>lhs;rw[<-aur i l,auv hi,Ny]
  simp[ae.fm]
 .rw[List.set_eq_take_append_cons_drop,as8 hi,Ny];simp[ae.fm]
theorem Yy {P:Program}{e8:Array Field}:∀(cc:List (Nat×ae)) (l:List ae) (K:List ae->Prop),x6 P e8 cc l K ->
 ∃eF,K eF/\Instr.fill ((Hr P e8)[·]?) (ae.fm l).toArray (cc.map λx=>(x.1,x.2.val))=some (ae.fm eF).toArray
 | [],l,K,h=>⟨l,h,rfl⟩
 | (i,r)::cc,l,K,h=>by
  simp only[x6] at h;split at h
  .rename_i f old bf dQ
   split at h
   .rename_i aT
    obtain⟨aa,ad,aq⟩:=aT;obtain⟨aJ,h⟩:=vJ h;obtain⟨eF,ab,aoZ⟩:=Yy cc _ K h;refine⟨eF,ab,?_⟩;rw[<-aoZ];obtain⟨hi,pZ⟩:=auu.1 dQ;obtain⟨aC,a7⟩:=aoY l i r hi;rw[aC,a7,pZ];refine No (off:=f.offset) ?_ (ae.G7 r aJ) ?_ (by rw[aa,ae.G8])
    .simp[Hr,bf,ad,ae.tX]
    .rw[ae.tX,ae.tX,aq]
   .exact h.elim
  .exact h.elim
def x7 (n:Nat):List (Nat×ae)->bk n->(bk n->Prop)->Prop
 | [],c,K=>K c
 | (i,.u x)::cc,c,K=>if h:i<n then x7 n cc (c.set i x) K else False
 | _::_,_,_=>False
theorem ao0 {n:Nat}:∀(cc:List (Nat×ae)) (c:bk n) (K:bk n->Prop),x7 n cc c K ->
 ∃b8,K b8/\Instr.fill (λi=>some (i*1,1)) (c.toList.map ak).toArray (cc.map λx=>(x.1,x.2.val))=some (b8.toList.map ak).toArray:=by
 intro cc
 induction cc with
 | nil=>exact λc K h=>⟨c,h,rfl⟩
 | cons p cc c6 =>
  intro c K h;obtain⟨i,r⟩:=p;cases r<;>try exact h.elim
  rename_i x
  simp only[x7] at h;split at h
  .rename_i hi
   obtain⟨b8,ab,k5⟩:=c6 _ K h;refine⟨b8,ab,?_⟩;rw[<-k5];have aO:i<(c.toList.map ak).length:=by simpa using hi
   have aC:c.toList.map ak=(c.toList.map ak).take i++[(c.toList.map ak)[i]]++(c.toList.map ak).drop (i+1):=by
    conv=>lhs;rw[<-aur i (c.toList.map ak),auv aO]
    simp
   have a7:(c.set i x).toList.map ak=(c.toList.map ak).take i++[ak x]++(c.toList.map ak).drop (i+1):=by
    simp only[Vector.toList_set,List.map_set];rw[List.set_eq_take_append_cons_drop,as8 aO];simp
   rw[a7]
   conv=>lhs;rw[aC]
   refine No (off:=i*1) rfl rfl rfl ?_;simp;omega
  .exact h.elim
def DE (P:Program)(T:TypeId)(cc:List (Nat×ae))(K:ae->Prop):Prop :=
 match P.underlying T,sE P T with
 | some (.struct e8),some z=>match DF (kr P 9 T) z with
  | .c_ l=>if e8.toList.all (λf=>(iy P f.type).isSome)=true then x6 P e8 cc l λl=>K (.c_ l) else False
  | _=>False
 | some (.array _ el),some z=>match DF (kr P 9 T) z with
  | .ws n c=>if iy P el=some 1 then x7 n cc c λc=>K (.ws n c) else False
  | _=>False
 | _,_=>False
theorem ao1 {P:Program}{T:TypeId}{cc:List (Nat×ae)}{K:ae->Prop}(h:DE P T cc K) :
 ∃r,K r/\∀w,(Instr.build T (cc.map λx=>(x.1,x.2.val)).toArray).run P w= .ok r.val w:=by
 unfold DE at h;split at h
 .rename_i e8 z hu bt
  split at h
  .rename_i l aO
   split at h
   .rename_i bV
    obtain⟨eF,ab,bf⟩:=Yy cc l _ h;refine⟨_,ab,λw=>?_⟩;have DG:=NA (kr P 9 T) z;rw[aO] at DG;simp only[Instr.build,atb,x2 bt,ata,atd hu,run_places bV];rw[<-DG];simp only[ae.val,Value.cells];rw[bf];rfl
   .exact h.elim
  .exact h.elim
 .rename_i len el z hu bt
  split at h
  .rename_i n c aO
   split at h
   .rename_i bV
    obtain⟨b8,ab,bf⟩:=ao0 cc c _ h;refine⟨_,ab,λw=>?_⟩;have DG:=NA (kr P 9 T) z;rw[aO] at DG;simp only[Instr.build,atb,x2 bt,ata,atd hu,lD bV];rw[<-DG,ae.Ho (s:= .ws n c) rfl,ae.Ho (s:= .ws n b8) rfl];simp only[Value.cells,ae.cells];rw[bf];rfl
   .exact h.elim
  .exact h.elim
 .exact h.elim
def DH (P:Program)(T:TypeId)(x:ae)(K:ae->Prop):Prop :=
 match P.underlying T,x with
 | some (.slice _),.s x=>K (.i .i64 x.len)
 | some .string,.str s=>K (.i .i64 s.size)
 | some (.array k _),_=>K (.i .i64 k)
 | _,_=>False
theorem ao2 {P:Program}{T:TypeId}{x:ae}{K:ae->Prop}{ats:Array TypeId}{ty:TypeId}(h:DH P T x K)(bV:ats[0]? =some T) :
 ∃r,K r/\∀w,(Builtin.len_ ats ty #[x.val]).run P w= .ok r.val w:=by
 unfold DH at h;split at h
 .rename_i hu
  exact⟨_,h,λw=>by simp[Builtin.len_,bV,atd hu,ae.val,aU,goInt]⟩
 .rename_i hu
  exact⟨_,h,λw=>by simp[Builtin.len_,bV,atd hu,ae.val,goInt]⟩
 .rename_i hu
  exact⟨_,h,λw=>by simp[Builtin.len_,bV,atd hu,ae.val,goInt]⟩
 .exact h.elim
def v_ (jR:Bool)(x y:ae)(K:ae->Prop):Prop :=
 match x,y with
 | .i k a,.i _ b=>K (.i k (cond jR (max a b) (min a b)))
 | .u a,.u b=>K (.u (cond jR (max a b) (min a b)))
 | _,_=>False
theorem Yz (a b:Int):(if b > a then b else a)=max a b:=by split<;>omega
theorem YA (a b:Int):(if b<a then b else a)=min a b:=by split<;>omega
theorem ao3 (a b:a8):((max a b).toNat:Int)=max (a.toNat:Int) b.toNat:=by
 rw[show max a b=if a<=b then b else a from rfl];split<;>rename_i h<;>rw[at9] at h<;>omega
theorem ao4 (a b:a8):((min a b).toNat:Int)=min (a.toNat:Int) b.toNat:=by
 rw[show min a b=if a<=b then a else b from rfl];split<;>rename_i h<;>rw[at9] at h<;>omega
theorem ao5 {P:Program}{x y:ae}{K:ae->Prop}(h:v_ true x y K):Comes P (Builtin.max2 x.val y.val) K:=by
 unfold v_ at h;split at h
 .refine⟨_,h,λw=>?_⟩;simp only[ae.val,Builtin.max2,atk,aud,Yz]
 .refine⟨_,h,λw=>?_⟩;simp only[ae.val,ak,Builtin.max2,atk,aud,Yz,ao3]
 .exact h.elim
theorem ao6 {P:Program}{x y:ae}{K:ae->Prop}(h:v_ false x y K):Comes P (Builtin.min2 x.val y.val) K:=by
 unfold v_ at h;split at h
 .refine⟨_,h,λw=>?_⟩;simp only[ae.val,Builtin.min2,atk,auA,YA]
 .refine⟨_,h,λw=>?_⟩;simp only[ae.val,ak,Builtin.min2,atk,auA,YA,ao4]
 .exact h.elim
def DI (P:Program)(b:Builtin)(ats:Array TypeId)(xs:List ae)(K:ae->Prop):Prop :=
 match b,xs with
 | .len,[x]=>match ats[0]? with|some T=>DH P T x K|none=>False
 | .cap,[.s x]=>match ats[0]? with|some T=>(match P.underlying T with|some (.slice _)=>K (.i .i64 x.cap)|_=>False)|none=>False
 | .max,[x,y]=>v_ true x y K
 | .min,[x,y]=>v_ false x y K
 | _,_=>False
theorem ao7 {P:Program}{b:Builtin}{ats:Array TypeId}{ty:TypeId}{cs:Array Bool}{xs:List ae}{K:ae->Prop}(h:DI P b ats xs K) :
 ∃r,K r/\∀w,(builtin b ats ty cs (ae.bw xs).toArray).run P w= .ok (.value r.val) w:=by
 unfold DI at h;split at h
 .split at h
  .rename_i T iR
   obtain⟨r,ab,aK⟩:=ao2 (ats:=ats) (ty:=ty) h iR;exact⟨r,ab,λw=>by simp[builtin,ae.bw,aK]⟩
  .exact h.elim
 .rename_i x
  split at h
  .rename_i T iR
   split at h
   .rename_i hu
    exact⟨_,h,λw=>by simp[builtin,ae.bw,Builtin.cap_,iR,atd hu,ae.val,aU,goInt]⟩
   .exact h.elim
  .exact h.elim
 .rename_i x y
  obtain⟨r,ab,aK⟩:=ao5 (P:=P) h;exact⟨r,ab,λw=>by simp[builtin,ae.bw,Builtin.max_,aK]⟩
 .rename_i x y
  obtain⟨r,ab,aK⟩:=ao6 (P:=P) h;exact⟨r,ab,λw=>by simp[builtin,ae.bw,Builtin.min_,aK]⟩
 .exact h.elim
def ue (n:Nat)(e:Env)(x:Option Operand)(K:Option ae->Prop):Prop :=
 match x with
 | none=>K none
 | some x=>gM n e x λs=>K (some s)
theorem NB {n:Nat}{e:Env}{x:Option Operand}{K:Option ae->Prop}(h:ue n e x K) :
 ∃s,K s/\∀a,Good n e a->x.map a.eval=s.map ae.val:=by
 cases x with
 | none=>exact⟨none,h,λ_ _=>rfl⟩
 | some x =>
  obtain⟨s,aR,aa⟩:=ix h;exact⟨some s,aR,λa g=>by simp[aa a g]⟩
def ud (P:Program)(n:Nat)(e:Env)(oH:Nat->eo):List (Nat×Operand)->(List (Nat×ae)->Prop)->Prop
 | [],K=>K []
 | (i,x)::l,K=>nW n (oH i) e x λs=>ud P n e oH l λr=>K ((i,s)::r)
theorem Nu {P:Program}{n:Nat}{e:Env}{oH:Nat->eo}:∀(l:List (Nat×Operand)) (K:List (Nat×ae)->Prop),ud P n e oH l K ->
 ∃r,K r/\∀a,Good n e a->l.map (λx=>(x.1,a.eval x.2))=r.map (λx=>(x.1,x.2.val))
 | [],K,h=>⟨[],h,λ_ _=>rfl⟩
 | (i,x)::l,K,h=>by
  obtain⟨s,aR,aa⟩:=vX h;obtain⟨r,aK,ad⟩:=Nu l _ aR;exact⟨_,aK,λa g=>by simp[aa a g,ad a g]⟩
def Yw (P:Program)(T:TypeId)(i:Nat):eo :=
 match P.underlying T with
 | some (.struct e8)=>match e8[i]? with|some f=>kr P 9 f.type|none=> .v
 | some (.array _ el)=>kr P 9 el
 | some (.slice el)=>kr P 9 el
 | _=> .v
def Hs (x:ae)(K:ae->Prop):Prop :=
 match x with
 | .p q=>K (.p q)
 | .fw q=>∃p,q=some p/\K (.p p)
 | .f g c=>K (.f g c)
 | _=>False
def DJ (c a b:ae)(K:ae->Prop):Prop :=
 match c,a,b with
 | .b c,.b a,.b b=>K (.b (cond c a b))
 | .b c,a,b=>bp c (K a) (K b)
 | _,_,_=>False
def NC (P:Program)(T:TypeId)(a b:ae):Option Bool :=
 match P.underlying T,a,b with
 | some (.int _),.i k x,.i hd y=>if k=hd then some (decide (x=y)) else none
 | some (.int _),.u x,.u y=>some (decide (x=y))
 | some .bool,.b x,.b y=>some (x==y)
 | some .string,.str x,.str y=>some (x.toList==y.toList)
 | _,_,_=>none
def uj (P:Program):List Field->Nat->List ae->List ae->Option Bool
 | [],_,[],[]=>some true
 | f::e8,o,a::l,b::eF =>
  if (f.name != "_")=true/\f.offset=o/\pK P f.type=some false then
   match NC P f.type a b,uj P e8 (o+1) l eF with
   | some r,some t=>some (r&&t)
   | _,_=>none
  else none
 | _,_,_,_=>none
def ND (P:Program)(T:TypeId)(l eF:List ae):Option Bool :=
 match P.underlying T with
 | some (.struct e8)=>if P.eqGuardType P.depth T=false/\P.stoodInHeld T=false then uj P e8.toList 0 l eF else none
 | _=>none
theorem ao8 {P:Program}{T:TypeId}{a b:ae}{r:Bool}(h:NC P T a b=some r)(d:Nat)(w:World) :
 (Op.equalIn (d+1) T a.val b.val).run P w= .ok r w/\ae.cells a=[a.val]/\ae.cells b=[b.val]:=by
 unfold NC at h;split at h
 .rename_i k aE x az y hu
  split at h
  .rename_i ab
   subst ab;cases h;refine⟨?_,rfl,rfl⟩;simp only[ae.val];rw[run_equalIn_int w d T _ _ _ _ hu,AW]
  .cases h
 .rename_i k x y hu
  cases h;refine⟨?_,rfl,rfl⟩;simp only[ae.val,ak];rw[run_equalIn_int w d T _ _ _ _ hu,AW];simp[<-att,ave]
 .rename_i x y hu
  cases h;refine⟨?_,rfl,rfl⟩;simp only[ae.val];rw[run_equalIn_bool' w d T _ _ hu]
 .rename_i x y hu
  cases h;refine⟨?_,rfl,rfl⟩;simp only[ae.val];rw[run_equalIn_string w d T _ _ hu]
 .cases h
theorem YB {P:Program}{T:TypeId}{pre post:List Value}{v:Value}(aq:pK P T=some false)(w:World) :
 (part T (pre++v::post).toArray pre.length).run P w= .ok v w:=by
 unfold part;simp only[atb,Dv aq,ata,atN,atS];simp
theorem YC {P:Program}(d:Nat)(w:World):∀(e8:List Field) (o:Nat) (l eF:List ae) (r:Bool) (pre sF:List Value),uj P e8 o l eF=some r->pre.length=o->sF.length=o ->
 (Op.eqFields (d+1) (pre++ae.fm l).toArray (sF++ae.fm eF).toArray e8).run P w= .ok r w
 | [],o,[],[],r,pre,sF,h,_,_=>by
  simp only[uj,atX] at h;subst h;simp[Op.eqFields]
 | f::e8,o,a::l,b::eF,r,pre,sF,h,aa,ad=>by
  simp only[uj] at h;split at h
  .rename_i aT
   obtain⟨aX,aZ,cp⟩:=aT;split at h
   .rename_i ev t1 aC a7
    cases h;obtain⟨q1,aP,bs⟩:=ao8 aC d w;have c6:=YC d w e8 (o+1) l eF t1 (pre++[a.val]) (sF++[b.val]) a7 (by simp[aa]) (by simp[ad]);have ax:f.name ≠ "_":=by simpa using aX
    have hF:=YB (P:=P) (pre:=pre) (post:=ae.fm l) (v:=a.val) cp w;have jt:=YB (P:=P) (pre:=sF) (post:=ae.fm eF) (v:=b.val) cp w;rw[aa] at hF;rw[ad] at jt;simp only[Op.eqFields,ax,ne_eq,not_false_eq_true,at2,ae.fm,aP,bs,aZ,List.singleton_append,atb,hF,jt,ata,q1];cases ev
    .simp
    .simpa using c6
   .cases h
  .cases h
 | [],o,a::l,eF,r,pre,sF,h,_,_=>by simp[uj] at h
 | [],o,[],b::eF,r,pre,sF,h,_,_=>by simp[uj] at h
 | f::e8,o,[],eF,r,pre,sF,h,_,_=>by simp[uj] at h
 | f::e8,o,a::l,[],r,pre,sF,h,_,_=>by simp[uj] at h
def wa (op:BinOp)(r:Bool)(K:ae->Prop):Prop :=
 match op with
 | .eql=>K (.b r)
 | .neq=>K (.b (!r))
 | _=>False
theorem ao9 {P:Program}{T:TypeId}{l eF:List ae}{r:Bool}(h:ND P T l eF=some r)(op:BinOp)(x y:Operand)(K:ae->Prop)(ab:wa op r K) :
 ∃s,K s/\∀w,(do eqGuard op T x y (ae.val (.c_ l)) (ae.val (.c_ eF));binOp op T (ae.val (.c_ l)) (ae.val (.c_ eF)):Sem Value).run P w= .ok s.val w:=by
 unfold ND at h;split at h
 .rename_i e8 hu
  split at h
  .rename_i aT
   obtain⟨aX,aZ⟩:=aT;have bf:P.fieldsOf T=e8:=by unfold Program.fieldsOf;rw[hu]
   have key:∀w,(Op.equalIn 10000 T (ae.val (.c_ l)) (ae.val (.c_ eF))).run P w= .ok r w:=λw=>by
    have:=run_equalIn_struct (P:=P) w 9999 T (ae.fm l).toArray (ae.fm eF).toArray (by rw[bf];exact hu) aZ;simp only[ae.val];rw[this,bf];exact YC 9998 w e8.toList 0 l eF r [] [] h rfl rfl
   cases op<;>try exact(show False from ab).elim
   .refine⟨_,ab,λw=>?_⟩;have aE:=key w;simp only[ae.val] at aE;simp only[atb,ae.val,run_eqGuard_agg w _ T x y _ _ aX,ata,run_eql_struct,aE]
   .refine⟨_,ab,λw=>?_⟩;have aE:=key w;simp only[ae.val] at aE;simp only[atb,ae.val,run_eqGuard_agg w _ T x y _ _ aX,ata,run_neq_struct,aE]
  .cases h
 .cases h
def NF (P:Program)(T:TypeId)(n:Nat)(c b8:bk n):Option Bool :=
 match P.underlying T with
 | some (.array m e)=>match P.underlying e with
  | some (.int .u64)=>if m=n/\P.eqGuardType P.depth T=false/\iy P e=some 1/\pK P e=some false then some (decide (c=b8)) else none
  | _=>none
 | _=>none
theorem YD {P:Program}{e:TypeId}(aq:pK P e=some false){n:Nat}(c:bk n){i:Nat}(hi:i<n)(w:World) :
 (part e (c.toArray.map ak) i).run P w= .ok (ak c[i]) w:=by
 unfold part;simp only[atb,Dv aq,ata,atN,atS];simp[hi]
theorem YE {P:Program}{e:TypeId}(d:Nat)(w:World)(hu:P.underlying e=some (.int .u64))(aq:pK P e=some false){n:Nat}(c b8:bk n):∀(is:List Nat),(∀i∈is,i<n) ->
 (Op.eqItems (d+1) e 1 (c.toArray.map ak) (b8.toArray.map ak) is).run P w= .ok (is.all λi=>decide (c[i]? =b8[i]?)) w
 | [],_=>by simp[Op.eqItems]
 | i::is,h=>by
  have hi:=h i (atm ..);have c6:=YE d w hu aq c b8 is λj aL=>h j (atn _ aL);have hF:=YD aq c hi w;have jt:=YD aq b8 hi w;have q:(Op.equalIn (d+1) e (ak c[i]) (ak b8[i])).run P w= .ok (decide (c[i]=b8[i])) w:=by
   simp only[ak];rw[run_equalIn_int w d e _ _ _ _ hu,AW];simp[<-att,ave]
  simp only[Op.eqItems,auw,atb,hF,jt,q,ata];have aC:decide (c[i]? =b8[i]?)=decide (c[i]=b8[i]):=by simp[hi]
  rw[List.all_cons,aC];cases decide (c[i]=b8[i])
  .simp
  .simpa using c6
theorem ao_ {P:Program}{T:TypeId}{n:Nat}{c b8:bk n}{r:Bool}(h:NF P T n c b8=some r)(op:BinOp)(x y:Operand)(K:ae->Prop)(ab:wa op r K) :
 ∃s,K s/\∀w,(do eqGuard op T x y (ae.val (.ws n c)) (ae.val (.ws n b8));binOp op T (ae.val (.ws n c)) (ae.val (.ws n b8)):Sem Value).run P w= .ok s.val w:=by
 unfold NF at h;split at h
 .rename_i m e hu
  split at h
  .rename_i he
   split at h
   .rename_i aT
    obtain⟨rfl,aX,aZ,cp⟩:=aT;cases h;obtain⟨i,hi,mx⟩:∃i,P.info? e=some i/\i.size=1:=by
     unfold iy at aZ;cases bT:P.info? e with
     | none=>rw[bT] at aZ;cases aZ
     | some i=>rw[bT] at aZ;exact⟨i,rfl,by simpa using aZ⟩
    have apa:P.cellsOf e=1:=by unfold Program.cellsOf;rw[hi];simpa using mx
    have key:∀w,(Op.equalIn 10000 T (.agg (c.toArray.map ak)) (.agg (b8.toArray.map ak))).run P w= .ok (decide (c=b8)) w:=λw=>by
     rw[run_equalIn_array w 9999 _ _ hu hi,apa,YE 9998 w he cp c b8 _ (λi hi=>atq.1 hi)];congr 1;rw[atz];simp only[auH,atq,aui];constructor
     .intro h
      apply aub;intro i hi;have:=h i hi;simpa [hi] using this
     .rintro rfl i _;rfl
    cases op<;>try exact(show False from ab).elim
    .refine⟨_,ab,λw=>?_⟩;have aE:=key w;simp only[ae.val];simp only[atb,run_eqGuard_agg w _ T x y _ _ aX,ata,run_eql_struct,aE]
    .refine⟨_,ab,λw=>?_⟩;have aE:=key w;simp only[ae.val];simp only[atb,run_eqGuard_agg w _ T x y _ _ aX,ata,run_neq_struct,aE]
   .cases h
  .cases h
 .cases h
def vU (P:Program)(n:Nat)(op:BinOp)(T:TypeId)(y:Operand)(e:Env)(a:ae)(K:ae->Prop):Prop :=
 match y with
 | .const v=>AX P op T a (sG v) K
 | y=>gM n e y λb=>match a,b with
  | _,.v _=>False
  | .c_ l,.c_ eF=>(match ND P T l eF with|some r=>wa op r K|none=>False)
  | .ws k c,.ws m b8=>if hm:m=k then (match NF P T k c (hm▸b8) with|some r=>wa op r K|none=>False) else False
  | a,b=>AX P op T a b K
theorem apb {P:Program}{n:Nat}{op:BinOp}{T:TypeId}{x y:Operand}{e:Env}{s:ae}{K:ae->Prop}(h:vU P n op T y e s K) :
 ∃r,K r/\∀a,Good n e a->a.eval x=s.val->∀w,(do eqGuard op T x y (a.eval x) (a.eval y);binOp op T (a.eval x) (a.eval y):Sem Value).run P w= .ok r.val w:=by
 unfold vU at h;split at h
 .rename_i v
  obtain⟨⟨r,ab,aK⟩,he⟩:=YF h;refine⟨r,ab,λa g aR w=>?_⟩;rw[Ht] at aK he;have aC:(eqGuard op T x (.const v) (a.eval x) v).run P w= .ok () w:=by
   rw[aR];rcases he with he|⟨aa,ad⟩
   .exact YG w he
   .rw[aa,ad];exact apc w
  simp only[atb,Act.eval] at aC ⊢;rw[aC];simp only[ata];have nK:a.eval x=s.val:=aR;unfold Act.eval at nK;rw[nK];exact aK w
 .obtain⟨b,h,au⟩:=ix h;split at h
  .exact h.elim
  .split at h
   .rename_i l eF _ r aK
    obtain⟨t,bz,hw⟩:=ao9 aK op x y K h;refine⟨t,bz,λa g aR w=>?_⟩;rw[aR,au a g];exact hw w
   .exact h.elim
  .split at h
   .rename_i hm
    subst hm;split at h
    .rename_i r aK
     obtain⟨t,bz,hw⟩:=ao_ aK op x y K h;refine⟨t,bz,λa g aR w=>?_⟩;rw[aR,au a g];exact hw w
    .exact h.elim
   .exact h.elim
  .rename_i bH _ _
   obtain⟨⟨r,ab,aK⟩,he⟩:=YF h;refine⟨r,ab,λa g aR w=>?_⟩;rw[aR,au a g];have aC:(eqGuard op T x y s.val b.val).run P w= .ok () w:=by
    rcases he with he|⟨aa,ad⟩
    .exact YG w he
    .exfalso;cases b<;>first|(simp[ae.val,ak,bu,bZ,aU,undef] at ad;done)|exact bH _ rfl
   simp[aC,aK]
def uf (P:Program)(n:Nat)(o:Op)(ty:TypeId)(e:Env)(K:ae->Prop):Prop :=
 match o with
 | .move x=>nW n (kr P 9 ty) e x K
 | .assign x=>nW n (kr P 9 ty) e x K
 | .pick c a b=>gM n e c λc=>gM n e a λa=>gM n e b λb=>DJ c a b K
 | .nilCheck x=>gM n e x λa=>Hs a K
 | .binOp op T x y _=>gM n e x λa=>vU P n op T y e a K
 | .unOp op _ x=>gM n e x λa=>DK op a K
 | .convert s d x=>gM n e x λa=>DL P s d a K
 | .fieldAddr s x i=>match Nx P s i with
  | some off=>gM n e x λa=>match a with| .p q=>K (.p ⟨q.b,q.o+off⟩)|_=>False
  | none=>False
 | .field s x i=>gM n e x λa=>match a with| .c_ l=>DA P s i l K|_=>False
 | .indexAddr T x e0=>gM n e x λa=>gM n e e0 λj=>v7 j λ_ j=>DB P T a j K
 | .index T x e0=>gM n e x λa=>gM n e e0 λj=>v7 j λ_ j=>DC P T a j K
 | .extract x i=>gM n e x λa=>match a with| .h5 l=>(match l[i]? with|some r=>K r|none=>False)|_=>False
 | .slice T x lo hi jR=>gM n e x λa=>ue n e lo λl=>ue n e hi λh=>ue n e jR λm=>DD P T a l h m K
 | .makeFunc (.func g) first captured=>if first.size=0 then uc n e captured.toList λc=>K (.f g c) else False
 | .makeInterface T x=>match P.underlying T with
  | some (.interface _)=>False
  | some _=>nW n (kr P 9 T) e x λa=>K (.v (.iface T a.val))
  | none=>False
 | .build T cc=>ud P n e (Yw P T) cc.toList λcc=>DE P T cc K
 | .call { callee:= .builtin b,args,argTypes }=>uc n e args.toList λxs=>DI P b argTypes xs K
 | _=>False
theorem apd {c a b:ae}{K:ae->Prop}(h:DJ c a b K):∃r t,K r/\c.val= .bool t/\r.val=if t then a.val else b.val:=by
 unfold DJ at h;split at h
 .rename_i c a b
  exact⟨_,c,h,rfl,by cases c<;>rfl⟩
 .rename_i c _
  cases c
  .exact⟨_,false,h,rfl,rfl⟩
  .exact⟨_,true,h,rfl,rfl⟩
 .exact h.elim
theorem aoO {P:Program}{n:Nat}{e:Env}{K:ae->Prop}{x:Oper}(h:uf P n x.op x.type e K) :
 ∃r,K r/\∀a,Good n e a->∀w,(execOp a.eval x).run P w= .ok (.value r.val) w:=by
 obtain⟨dst,op,ty,pos,after,guard⟩:=x;simp only at h;unfold uf at h;split at h
 .obtain⟨s,ab,aR⟩:=vX h;exact⟨s,ab,λa g w=>by simp[execOp,aR a g]⟩
 .obtain⟨s,ab,aR⟩:=vX h;exact⟨s,ab,λa g w=>by simp[execOp,aR a g]⟩
 .obtain⟨c,h,aT⟩:=ix h;obtain⟨x,h,af⟩:=ix h;obtain⟨y,h,aA⟩:=ix h;obtain⟨r,t,ab,bz,aK⟩:=apd h;exact⟨r,ab,λa g w=>by simp[execOp,aT a g,af a g,aA a g,bz,asBool,aK]⟩
 .obtain⟨x,h,af⟩:=ix h;unfold Hs at h;split at h
  .exact⟨_,h,λa g w=>by simp[execOp,af a g,ae.val,bu]⟩
  .obtain⟨p,rfl,ab⟩:=h;exact⟨_,ab,λa g w=>by simp[execOp,af a g,ae.val,bZ,bu]⟩
  .exact⟨_,h,λa g w=>by simp[execOp,af a g,ae.val]⟩
  .exact h.elim
 .rename_i op T x y anI
  obtain⟨s,h,aR⟩:=ix h;obtain⟨r,ab,aK⟩:=apb (x:=x) h;refine⟨r,ab,λa g w=>?_⟩;have:=aK a g (aR a g) w;simp only[execOp,atb] at this ⊢;simp[this]
 .obtain⟨s,h,aR⟩:=ix h;obtain⟨r,ab,aK⟩:=ape (P:=P) h;exact⟨r,ab,λa g w=>by simp[execOp,aR a g,aK]⟩
 .obtain⟨s,h,aR⟩:=ix h;obtain⟨r,ab,aK⟩:=apf (P:=P) h;exact⟨r,ab,λa g w=>by simp[execOp,aR a g,aK]⟩
 .split at h
  .rename_i off dQ
   obtain⟨s,h,aR⟩:=ix h;split at h
   .rename_i q
    exact⟨_,h,λa g w=>by simp only[execOp,atb,aR a g,ae.val,aoP dQ];rfl⟩
   .exact h.elim
  .exact h.elim
 .obtain⟨s,h,aR⟩:=ix h;split at h
  .rename_i l
   obtain⟨r,ab,aK⟩:=aoR h;exact⟨r,ab,λa g w=>by simp[execOp,aR a g,aK]⟩
  .exact h.elim
 .obtain⟨s,h,aR⟩:=ix h;obtain⟨j,h,aL⟩:=ix h;obtain⟨k,i,hi,h⟩:=Dz h;obtain⟨r,ab,aK⟩:=aoS (k:=k) h;exact⟨r,ab,λa g w=>by simp[execOp,aR a g,aL a g,hi,aK]⟩
 .obtain⟨s,h,aR⟩:=ix h;obtain⟨j,h,aL⟩:=ix h;obtain⟨k,i,hi,h⟩:=Dz h;obtain⟨r,ab,aK⟩:=aoT (k:=k) h;exact⟨r,ab,λa g w=>by simp[execOp,aR a g,aL a g,hi,aK]⟩
 .obtain⟨s,h,aR⟩:=ix h;split at h
  .rename_i l
   split at h
   .rename_i r aK
    refine⟨r,h,λa g w=>?_⟩;have:∀j:Nat,l[j]? =some r->(ae.bw l)[j]? =some r.val:=by
     have key:∀(l:List ae) (i:Nat) (r:ae),l[i]? =some r->(ae.bw l)[i]? =some r.val:=by
      intro l
      induction l with
      | nil=>intro i r h;simp at h
      | cons x l c6 =>
       intro i r h;cases i with
       | zero=>simp at h;subst h;rfl
       | succ i=>simpa [ae.bw] using c6 i r (by simpa using h)
     exact λj aL=>key l j r aL
    simp[execOp,aR a g,ae.val,Instr.extract,this _ aK]
   .exact h.elim
  .exact h.elim
 .obtain⟨s,h,aR⟩:=ix h;obtain⟨lo,h,aa⟩:=NB h;obtain⟨hi,h,ad⟩:=NB h;obtain⟨jR,h,aq⟩:=NB h;obtain⟨r,ab,aK⟩:=aoX h;exact⟨r,ab,λa g w=>by simp only[execOp,atb,aR a g,aa a g,ad a g,aq a g,aK];rfl⟩
 .split at h
  .rename_i g first captured bf
   obtain⟨r,ab,aK⟩:=Nw _ _ h;refine⟨_,ab,λa pe w=>?_⟩;have aa:first=#[]:=Array.size_eq_zero_iff.1 bf
   subst aa;have ad:(captured.map a.eval)=(ae.bw r).toArray:=by
    apply atG.1;simp[aK a pe]
   simp[execOp,Instr.makeFunc,ad,ae.val]
  .exact h.elim
 .split at h
  .exact h.elim
  .rename_i T x d Gr hu
   obtain⟨s,h,aR⟩:=vX h;refine⟨_,h,λa g w=>?_⟩;simp only[execOp,atb,Instr.makeInterface,atd hu,ata];simp[aR a g,ae.val]
  .exact h.elim
 .rename_i T cc
  obtain⟨r,h,aK⟩:=Nu _ _ h;obtain⟨v,ab,bH⟩:=ao1 h;refine⟨v,ab,λa g w=>?_⟩;have:(cc.map λx=>(x.1,a.eval x.2))=(r.map λx=>(x.1,x.2.val)).toArray:=by
   apply atG.1;simp[aK a g]
  simp only[execOp,atb,this,bH];rfl
 .rename_i b args ats
  obtain⟨r,h,aK⟩:=Nw _ _ h;obtain⟨v,ab,bH⟩:=ao7 (ty:=ty) (cs:=args.map fun| .const _=>true|_=>false) h;refine⟨v,ab,λa g w=>?_⟩;have:args.map a.eval=(ae.bw r).toArray:=by
   apply atG.1;simp[aK a g]
  simp only[execOp,atb,resolve,atk,ata,invoke,this];exact bH w
 .exact h.elim

import Derived.Test.YtegdpmgnhnccaaaGreatSh
import Derived.Laws.Entries
namespace Go.cQ
open Go Go.RowKit
abbrev Env:=Nat->Option ae
def put (e:Env)(t:Nat)(s:ae):Env:=λx=>if x=t then some s else e x
def gd (e:Env)(t:Option Nat)(s:ae):Env:=match t with|some t=>put e t s|none=>e
def emp:Env:=λ_=>none
structure Good (n:Nat)(e:Env)(a:Act):Prop where
 size:a.tmps.size=n
 has:∀t s,t<n->e t=some s->a.tmps.getD t undef=s.val
theorem put_comm (e:Env){t u:Nat}(h:t≠u)(x y:ae):put (put e t x) u y=put (put e u y) t x:=by
 funext z;unfold put;by_cases aa:z=t<;>by_cases ad:z=u<;>simp_all
theorem Good.put {n:Nat}{e:Env}{a:Act}(g:Good n e a)(d:Option Nat)(s:ae):Good n (gd e d s) (a.put d s.val):=by
 cases d with
 | none=>exact g
 | some d =>
  refine⟨by simp[Act.put,g.size],?_⟩;intro t x bz af;simp only[gd,Go.cQ.put] at af;simp only[Act.put];by_cases h:t=d
  .subst h;simp at af;subst af;simp[Array.getD,g.size,bz]
  .rw[as7 h] at af;have:=g.has t x bz af;simp[Array.getD,g.size,bz] at this ⊢;rw[Array.getElem_setIfInBounds,cS];exact this
def wm (n:Int):Bool:=decide (0<=n/\n<18446744073709551616)
def cK (n:Int):a8:=UInt64.ofNat (n%18446744073709551616).toNat
theorem YR (n:Int):((cK n).toNat:Int)=n%18446744073709551616:=by
 unfold cK;have aa:0<=n%18446744073709551616:=Int.emod_nonneg _ (by decide);have ad:n%18446744073709551616<18446744073709551616:=Int.emod_lt_of_pos _ (by decide);rw[ate];omega
theorem yq {n:Int}(h:wm n=true):((cK n).toNat:Int)=n:=by
 rw[YR];unfold wm at h;simp at h;omega
theorem x_ (n:Int):IntKind.u64.wrap n=n%18446744073709551616:=by
 simp[IntKind.wrap,IntKind.signed,IntKind.bits]
theorem NT (n:Int):ak (cK n)= .int .u64 (IntKind.u64.wrap n):=by unfold ak;rw[YR,x_]
noncomputable def al (n:Int):Int:=Classical.choose (⟨wrap64 n,rfl⟩:∃m,m=wrap64 n)
theorem YS (n:Int):al n=wrap64 n:=Classical.choose_spec (⟨wrap64 n,rfl⟩:∃m,m=wrap64 n)
noncomputable def oN (k:IntKind)(n:Int):ae :=
 match k with
 | .u64=> .u (cK n)
 | .i64=> .i .i64 (al n)
 | k=> .i k (k.wrap n)
theorem qx (k:IntKind)(n:Int):(oN k n).val= .int k (k.wrap n):=by
 cases k<;>simp only[oN,ae.val,NT,YS];rw[IntWalk.i64_left]
def sG:Value->ae
 | .int .u64 n=>if wm n=true then .u (cK n) else .v (.int .u64 n)
 | .int k n=> .i k n
 | .bool b=> .b b
 | .pointer none=> .fw none
 | .slice none 0 0=> .s ⟨none,0,0,none⟩
 | .string s=> .str s
 | .map none=> .m none
 | x=> .v x
theorem Ht (x:Value):(sG x).val=x:=by
 unfold sG;split<;>try rfl
 split
 .rename_i h;simp only[ae.val,ak,yq h]
 .rfl
def NU:Value->Bool
 | .int .u64 n=>decide (n=0)
 | _=>false
theorem apT {v:Value}(h:NU v=true):v=ak 0:=by
 unfold NU at h;split at h
 .simp at h;subst h;rfl
 .cases h
mutual
def jH:eo->List Value->Option (ae×List Value)
 | .ws n,cs=>if (cs.take n).all NU&&(cs.take n).length==n then some (.ws n (Vector.replicate n 0),cs.drop n) else none
 | .c_ l,cs=>match DO l cs with|some (r,c)=>some (.c_ r,c)|none=>none
 | .h5 _,_=>none
 | _,c::cs=>some (sG c,cs)
 | _,[]=>none
def DO:List eo->List Value->Option (List ae×List Value)
 | [],cs=>some ([],cs)
 | t::l,cs =>
  match jH t cs with
  | some (r,c)=>match DO l c with|some (rs,b8)=>some (r::rs,b8)|none=>none
  | none=>none
end
theorem apU (x:Value):(sG x).cells=[x]:=by
 have h:=Ht x;unfold sG at h ⊢;split<;>try rfl
 split
 .rename_i ad;simp only[ae.cells,ak,yq ad]
 .rfl
theorem sJ (c:Value)(cs:List Value)(r:ae)(gv:List Value)(h:some (sG c,cs)=some (r,gv)):c::cs=r.cells++gv:=by
 obtain⟨rfl,rfl⟩:=at0 (atH h);simp[apU]
mutual
theorem NV:∀(t:eo) (cs:List Value) (r:ae) (gv:List Value),jH t cs=some (r,gv)->cs=r.cells++gv
 | .ws n,cs,r,gv,h=>by
  simp only[jH] at h;split at h
  .rename_i ad
   simp only[at6,auH,beq_iff_eq] at ad;obtain⟨rfl,rfl⟩:=at0 (atH h);have e:cs.take n=List.replicate n (ak 0):=List.eq_replicate_iff.2 ⟨ad.2,λv bH=>apT (ad.1 v bH)⟩
   conv=>lhs;rw[<-aur n cs,e]
   simp[ae.cells]
  .cases h
 | .c_ l,cs,r,gv,h=>by
  simp only[jH] at h;split at h
  .rename_i gT lh ad
   obtain⟨rfl,rfl⟩:=at0 (atH h);exact YT l cs gT _ ad
  .cases h
 | .h5 _,cs,r,gv,h=>by simp[jH] at h
 | .i _,c::cs,r,gv,h=>sJ c cs r gv (by simpa only[jH] using h)
 | .u,c::cs,r,gv,h=>sJ c cs r gv (by simpa only[jH] using h)
 | .b,c::cs,r,gv,h=>sJ c cs r gv (by simpa only[jH] using h)
 | .p,c::cs,r,gv,h=>sJ c cs r gv (by simpa only[jH] using h)
 | .f,c::cs,r,gv,h=>sJ c cs r gv (by simpa only[jH] using h)
 | .fw,c::cs,r,gv,h=>sJ c cs r gv (by simpa only[jH] using h)
 | .s,c::cs,r,gv,h=>sJ c cs r gv (by simpa only[jH] using h)
 | .str,c::cs,r,gv,h=>sJ c cs r gv (by simpa only[jH] using h)
 | .m,c::cs,r,gv,h=>sJ c cs r gv (by simpa only[jH] using h)
 | .v,c::cs,r,gv,h=>sJ c cs r gv (by simpa only[jH] using h)
 | .i _,[],r,gv,h=>by simp[jH] at h
 | .u,[],r,gv,h=>by simp[jH] at h
 | .b,[],r,gv,h=>by simp[jH] at h
 | .p,[],r,gv,h=>by simp[jH] at h
 | .f,[],r,gv,h=>by simp[jH] at h
 | .fw,[],r,gv,h=>by simp[jH] at h
 | .s,[],r,gv,h=>by simp[jH] at h
 | .str,[],r,gv,h=>by simp[jH] at h
 | .m,[],r,gv,h=>by simp[jH] at h
 | .v,[],r,gv,h=>by simp[jH] at h
theorem YT:∀(l:List eo) (cs:List Value) (r:List ae) (gv:List Value),DO l cs=some (r,gv)->cs=ae.fm r++gv
 | [],cs,r,gv,h=>by
  simp only[DO] at h;obtain⟨rfl,rfl⟩:=at0 (atH h);rfl
 | t::l,cs,r,gv,h=>by
  simp only[DO] at h;split at h
  .rename_i gT lh aa
   split at h
   .rename_i rs aX ad
    obtain⟨rfl,rfl⟩:=at0 (atH h);rw[NV t cs gT lh aa,YT l lh rs _ ad];simp[ae.fm]
   .cases h
  .cases h
end
def DF (t:eo)(x:Value):ae :=
 match x with
 | .agg cs=>match jH t cs.toList with
  | some (.ws n c,[])=> .ws n c
  | some (.c_ l,[])=> .c_ l
  | _=> .v (.agg cs)
 | x=>sG x
theorem NA (t:eo)(x:Value):(DF t x).val=x:=by
 unfold DF;split
 .rename_i cs
  split
  .rename_i n c h
   have:=NV _ _ _ _ h;simp only[ae.val,atU,ae.cells] at this ⊢;congr 1;apply atG.1;rw[this];simp[Vector.toList]
  .rename_i l h
   have:=NV _ _ _ _ h;simp only[ae.val,atU,ae.cells] at this ⊢;congr 1;apply atG.1;rw[this]
  .rfl
 .exact Ht _
section
variable (P:Program) (n:Nat)
def gM (e:Env)(x:Operand)(K:ae->Prop):Prop :=
 match x with
 | .tmp t=>match (if t<n then e t else none) with|some s=>K s|none=>False
 | .const v=>K (sG v)
 | .global g=>K (.p ⟨g,0⟩)
 | .func f=>K (.f f [])
variable {P n}
theorem ix {e:Env}{x:Operand}{K:ae->Prop}(h:gM n e x K):∃s,K s/\∀a,Good n e a->a.eval x=s.val:=by
 cases x with
 | tmp t =>
  simp only[gM] at h;split at h
  .rename_i s aR
   split at aR
   .rename_i bz
    exact⟨s,h,λa g=>g.has t s bz aR⟩
   .cases aR
  .exact h.elim
 | const v=>exact⟨_,h,λa _=>(Ht v).symm⟩
 | global g=>exact⟨_,h,λa _=>rfl⟩
 | func f=>exact⟨_,h,λa _=>rfl⟩
end
def nW (n:Nat)(ty:eo)(e:Env)(x:Operand)(K:ae->Prop):Prop :=
 match x with
 | .const v=>K (DF ty v)
 | x=>gM n e x K
theorem vX {n:Nat}{ty:eo}{e:Env}{x:Operand}{K:ae->Prop}(h:nW n ty e x K):∃s,K s/\∀a,Good n e a->a.eval x=s.val:=by
 cases x with
 | const v=>exact⟨_,h,λa _=>(NA ty v).symm⟩
 | tmp t=>exact ix h
 | global g=>exact ix h
 | func f=>exact ix h
def kr (P:Program):Nat->TypeId->eo
 | 0,_=> .v
 | f+1,T =>
  match P.underlying T with
  | some .bool=> .b
  | some (.int .u64)=> .u
  | some (.int k)=> .i k
  | some .string=> .str
  | some (.pointer _)=> .fw
  | some (.slice _)=> .s
  | some (.func _ _ _)=> .v
  | some (.map _ _)=> .m
  | some (.array k e)=>match kr P f e with| .u=> .ws k|t=> .c_ (List.replicate k t)
  | some (.struct e8)=> .c_ (e8.toList.map λd=>kr P f d.type)
  | some (.tuple h1)=> .h5 (h1.toList.map λt=>kr P f t)
  | _=> .v
def Hv (x:a8)(c:Nat):a8:=cK ((x.toNat:Int)*2 ^ (min c 64))
def ds (x:a8)(c:Nat):a8:=UInt64.ofNat (x.toNat/2 ^ (min c 64))
def oQ (op:BinOp)(k:IntKind)(a b:Int):Int :=
 match op with
 | .and=>((BitVec.ofInt k.bits a &&& BitVec.ofInt k.bits b).toNat:Int)
 | .or=>((BitVec.ofInt k.bits a ||| BitVec.ofInt k.bits b).toNat:Int)
 | .xor=>((BitVec.ofInt k.bits a ^^^ BitVec.ofInt k.bits b).toNat:Int)
 | _=>((BitVec.ofInt k.bits a &&& ~~~ BitVec.ofInt k.bits b).toNat:Int)
def isNil (x:Value)(K:ae->Prop):Prop:=(x= .nilIface/\K (.b true))∨(∃t v,x= .iface t v/\K (.b false))
def NK (op:BinOp)(k:IntKind)(a b:Int)(K:ae->Prop):Prop :=
 match op with
 | .add=>K (oN k (a+b))
 | .sub=>K (oN k (a-b))
 | .mul=>K (oN k (a*b))
 | .quo=>b≠0/\K (oN k (a.tdiv b))
 | .rem=>b≠0/\K (.i k (a.tmod b))
 | .and=>K (oN k (oQ .and k a b))
 | .or=>K (oN k (oQ .or k a b))
 | .xor=>K (oN k (oQ .xor k a b))
 | .andNot=>K (oN k (oQ .andNot k a b))
 | .eql=>K (.b (decide (a=b)))
 | .neq=>K (.b (!decide (a=b)))
 | .lss=>K (.b (decide (a<b)))
 | .leq=>K (.b (decide (a<=b)))
 | .gtr=>K (.b (decide (b<a)))
 | .geq=>K (.b (decide (b<=a)))
 | _=>False
def NL (op:BinOp)(x y:a8)(K:ae->Prop):Prop :=
 match op with
 | .add=>K (.u (x+y))
 | .sub=>K (.u (x-y))
 | .mul=>K (.u (x*y))
 | .quo=>y≠0/\K (.u (x/y))
 | .rem=>y≠0/\K (.u (x%y))
 | .and=>K (.u (x &&& y))
 | .or=>K (.u (x ||| y))
 | .xor=>K (.u (x ^^^ y))
 | .andNot=>K (.u (x &&& ~~~ y))
 | .eql=>K (.b (decide (x=y)))
 | .neq=>K (.b (!decide (x=y)))
 | .lss=>K (.b (decide (x<y)))
 | .leq=>K (.b (decide (x<=y)))
 | .gtr=>K (.b (decide (y<x)))
 | .geq=>K (.b (decide (y<=x)))
 | .shl=>K (.u (Hv x y.toNat))
 | .shr=>K (.u (ds x y.toNat))
def wc:BinOp->Bool
 | .shl| .shr=>true
 | _=>false
def DN (op:BinOp)(k:IntKind)(a:Int)(c:Nat)(K:ae->Prop):Prop :=
 match op with
 | .shl=>K (oN k (a*2 ^ (min c k.bits)))
 | .shr=>K (.i k (a.fdiv (2 ^ (min c k.bits))))
 | _=>False
def NM (op:BinOp)(x:a8)(c:Nat)(K:ae->Prop):Prop :=
 match op with
 | .shl=>K (.u (Hv x c))
 | .shr=>K (.u (ds x c))
 | _=>False
def x8 (P:Program)(T:TypeId)(x y:ae)(K:Bool->Prop):Prop :=
 match P.underlying T,x,y with
 | some .bool,.b a,.b b=>K (a==b)
 | some .string,.str a,.str b=>K (a.toList==b.toList)
 | some (.pointer _),.fw a,.fw none=>K a.isNone
 | some (.pointer _),.p _,.fw none=>K false
 | some (.slice _),.s a,.s ⟨none,_,_,_⟩=>K a.p.isNone
 | some (.interface _),.v a,.v .nilIface=>(a= .nilIface/\K true)∨(∃t v,a= .iface t v/\K false)
 | _,_,_=>False
def AX (P:Program)(op:BinOp)(T:TypeId)(x y:ae)(K:ae->Prop):Prop :=
 match x,y with
 | .i k a,.i hd b=>if wc op=true then 0<=b/\DN op k a b.toNat K else if k=hd then NK op k a b K else False
 | .u a,.u b=>NL op a b K
 | .i k a,.u b=>DN op k a b.toNat K
 | .u a,.i _ b=>0<=b/\NM op a b.toNat K
 | .str a,.str b =>
  match op with
  | .add=>((a.size+b.size:Nat):Int)<=9223372036854775807/\K (.str (a++b))
  | .eql=>K (.b (a.toList==b.toList))
  | .neq=>K (.b (!(a.toList==b.toList)))
  | _=>False
 | x,y =>
  match op with
  | .eql=>x8 P T x y λr=>K (.b r)
  | .neq=>x8 P T x y λr=>K (.b (!r))
  | _=>False
def DK (op:UnOp)(x:ae)(K:ae->Prop):Prop :=
 match op,x with
 | .neg,.i k a=>K (oN k (0-a))
 | .neg,.u a=>K (.u (0-a))
 | .xor,.u a=>K (.u (~~~ a))
 | .not,.b a=>K (.b (!a))
 | _,_=>False
def DL (P:Program)(src dst:TypeId)(x:ae)(K:ae->Prop):Prop :=
 match P.underlying src,P.underlying dst,x with
 | some _,some (.int .u64),.u a=>K (.u a)
 | some _,some (.int k),.i _ a=>K (oN k a)
 | some _,some (.int k),.u a=>K (oN k (a.toNat:Int))
 | some (.string),some .string,.str a=>K (.str a)
 | _,_,_=>False
theorem apV (x y:a8):ak (x+y)= .int .u64 (IntKind.u64.wrap (x.toNat+y.toNat)):=by
 unfold ak;rw[x_,au8];congr 1
theorem apW (x y:a8):ak (x*y)= .int .u64 (IntKind.u64.wrap (x.toNat*y.toNat)):=by
 unfold ak;rw[x_,UInt64.toNat_mul];congr 1
theorem YU (x y:a8):ak (x-y)= .int .u64 (IntKind.u64.wrap (x.toNat-y.toNat)):=by
 unfold ak;rw[x_,UInt64.toNat_sub];have aa:=x.toNat_lt;have ad:=y.toNat_lt;congr 1;omega
theorem DP (x:a8):BitVec.ofInt (IntKind.bits .u64) (x.toNat:Int)=x.toBitVec:=by
 apply BitVec.eq_of_toNat_eq;have:=x.toNat_lt;simp[IntKind.bits]
theorem DQ (z:a8)(r:BitVec (IntKind.bits .u64))(h:z.toBitVec=r) :
 ak z= .int .u64 (IntKind.u64.wrap (r.toNat:Int)):=by
 subst h;unfold ak;rw[x_];have:=z.toNat_lt;congr 1;show(z.toNat:Int)=(z.toNat:Int)%_;omega
theorem apX (x y:a8):((x%y).toNat:Int)=(x.toNat:Int).tmod y.toNat:=by
 rw[au9];rfl
theorem apY (x y:a8):ak (x/y)= .int .u64 (IntKind.u64.wrap ((x.toNat:Int).tdiv y.toNat)):=by
 unfold ak;rw[x_,UInt64.toNat_div];have aa:=x.toNat_lt;have ad:x.toNat/y.toNat<=x.toNat:=auy _ _;rw[<-Int.ofNat_tdiv];congr 1;generalize x.toNat/y.toNat=d at *;omega
theorem YV (x:a8)(c:Nat):(((ds x c).toNat:Nat):Int)=(x.toNat:Int).fdiv (2 ^ (min c 64)):=by
 unfold ds;have h0:=x.toNat_lt;have aa:x.toNat/2 ^ min c 64<=x.toNat:=auy _ _;have e:(2:Int) ^ (min c 64)=((2 ^ (min c 64):Nat):Int):=by simp
 rw[e,Int.fdiv_eq_ediv_of_nonneg _ (Int.natCast_nonneg _),<-Int.natCast_ediv,ate];generalize x.toNat/2 ^ min c 64=d at *;congr 1;omega
def Comes (P:Program)(s:Sem Value)(K:ae->Prop):Prop:=∃r,K r/\∀w,s.run P w= .ok r.val w
theorem AW (a b:Int):(a==b)=decide (a=b):=by
 by_cases h:a=b<;>simp[h]
theorem apZ {P:Program}{op:BinOp}{k:IntKind}{a b:Int}{K:ae->Prop}(aR:wc op=false)(h:NK op k a b K) :
 Comes P (binOp op 0 (.int k a) (.int k b)) K/\∀T,binOp op T (.int k a) (.int k b)=binOp op 0 (.int k a) (.int k b):=by
 have iR:∀T,binOp op T (.int k a) (.int k b)=binOp op 0 (.int k a) (.int k b):=by
  intro T;cases op<;>first|rfl|simp[wc] at aR
 refine⟨?_,iR⟩;cases op
 case add=>refine⟨_,h,λw=>?_⟩;rw[qx];simp[binOp,Op.intArith]
 case sub=>refine⟨_,h,λw=>?_⟩;rw[qx];simp[binOp,Op.intArith]
 case mul=>refine⟨_,h,λw=>?_⟩;rw[qx];simp[binOp,Op.intArith]
 case quo=>refine⟨_,h.2,λw=>?_⟩;rw[qx];simp[binOp,Op.intDiv,h.1]
 case rem=>refine⟨_,h.2,λw=>?_⟩;simp[binOp,Op.intDiv,h.1,ae.val]
 case and=>refine⟨_,h,λw=>?_⟩;rw[qx];simp[binOp];rfl
 case or=>refine⟨_,h,λw=>?_⟩;rw[qx];simp[binOp];rfl
 case xor=>refine⟨_,h,λw=>?_⟩;rw[qx];simp[binOp];rfl
 case andNot=>refine⟨_,h,λw=>?_⟩;rw[qx];simp[binOp];rfl
 case shl=>simp[wc] at aR
 case shr=>simp[wc] at aR
 all_goals first
  | exact h.elim
  | (refine⟨_,h,λw=>?_⟩;simp[binOp,Op.intCmp,ae.val,AW,bne];done)
theorem ap0 {P:Program}{op:BinOp}{a b:a8}{K:ae->Prop}(h:NL op a b K):∀T,Comes P (binOp op T (ak a) (ak b)) K:=by
 intro T;cases op
 case add=>refine⟨_,h,λw=>?_⟩;rw[ae.val,apV];rfl
 case sub=>refine⟨_,h,λw=>?_⟩;rw[ae.val,YU];rfl
 case mul=>refine⟨_,h,λw=>?_⟩;rw[ae.val,apW];rfl
 case quo =>
  refine⟨_,h.2,λw=>?_⟩;have au:(b.toNat:Int)≠0:=by intro e;exact h.1 (att.1 (by simpa using e))
  rw[ae.val,apY];simp only[ak,binOp,Op.intDiv,au,atS,ne_eq,not_true];rfl
 case rem =>
  refine⟨_,h.2,λw=>?_⟩;have au:(b.toNat:Int)≠0:=by intro e;exact h.1 (att.1 (by simpa using e))
  rw[ae.val];simp only[ak,apX,binOp,Op.intDiv,au,atS,ne_eq,not_true];rfl
 case and=>refine⟨_,h,λw=>?_⟩;rw[ae.val,DQ (a &&& b) _ rfl];simp only[ak,binOp,ne_eq,not_true,atS,Op.intBits,DP];rfl
 case or=>refine⟨_,h,λw=>?_⟩;rw[ae.val,DQ (a ||| b) _ rfl];simp only[ak,binOp,ne_eq,not_true,atS,Op.intBits,DP];rfl
 case xor=>refine⟨_,h,λw=>?_⟩;rw[ae.val,DQ (a ^^^ b) _ rfl];simp only[ak,binOp,ne_eq,not_true,atS,Op.intBits,DP];rfl
 case andNot=>refine⟨_,h,λw=>?_⟩;rw[ae.val,DQ (a &&& ~~~ b) _ rfl];simp only[ak,binOp,ne_eq,not_true,atS,Op.intBits,DP];rfl
 case shl =>
  refine⟨_,h,λw=>?_⟩;have au:¬((b.toNat:Int)<0):=by omega
  simp only[ae.val,Hv,NT];simp[ak,binOp,Op.shift,IntKind.bits,au]
 case shr =>
  refine⟨_,h,λw=>?_⟩;have au:¬((b.toNat:Int)<0):=by omega
  simp only[ae.val];simp[ak,binOp,Op.shift,IntKind.bits,au,YV]
 case eql =>
  refine⟨_,h,λw=>?_⟩;simp[ak,binOp,Op.intCmp,ae.val,AW,<-att,ave]
 case neq =>
  refine⟨_,h,λw=>?_⟩;simp[ak,binOp,Op.intCmp,ae.val,AW,bne,<-att,ave]
 case lss =>
  refine⟨_,h,λw=>?_⟩;simp[ak,binOp,Op.intCmp,ae.val,atY]
 case leq =>
  refine⟨_,h,λw=>?_⟩;simp[ak,binOp,Op.intCmp,ae.val,at9]
 case gtr =>
  refine⟨_,h,λw=>?_⟩;simp[ak,binOp,Op.intCmp,ae.val,atY]
 case geq =>
  refine⟨_,h,λw=>?_⟩;simp[ak,binOp,Op.intCmp,ae.val,at9]
theorem YW {P:Program}{op:BinOp}{k yk:IntKind}{a:Int}{c:Int}{K:ae->Prop}(aT:0<=c)(h:DN op k a c.toNat K)(ab:wc op=true) :
 ∀T,Comes P (binOp op T (.int k a) (.int yk c)) K:=by
 intro T;have aH:¬c<0:=by omega
 cases op
 case shl=>refine⟨_,h,λw=>?_⟩;rw[qx];simp[binOp,Op.shift,aH]
 case shr=>refine⟨_,h,λw=>?_⟩;simp[binOp,Op.shift,aH,ae.val]
 all_goals simp[wc] at ab
theorem ap1 {P:Program}{op:BinOp}{yk:IntKind}{a:a8}{c:Int}{K:ae->Prop}(aT:0<=c)(h:NM op a c.toNat K) :
 ∀T,Comes P (binOp op T (ak a) (.int yk c)) K:=by
 intro T;have aH:¬c<0:=by omega
 cases op
 case shl =>
  refine⟨_,h,λw=>?_⟩;simp only[ae.val,Hv,NT];simp[ak,binOp,Op.shift,aH,IntKind.bits]
 case shr =>
  refine⟨_,h,λw=>?_⟩;simp only[ae.val];simp[ak,binOp,Op.shift,aH,IntKind.bits,YV]
 all_goals exact h.elim
theorem ap2 {op:BinOp}{k:IntKind}{a:Int}{c:Nat}{K:ae->Prop}(h:DN op k a c K):wc op=true:=by
 cases op<;>first|rfl|exact h.elim
def Hw:Value->Value->Bool
 | .int _ _,.int _ _| .string _,.string _| .bool _,.bool _| .pointer _,.pointer _| .slice _ _ _,.slice _ _ _| .iface _ _,.nilIface=>true
 | _,_=>false
theorem YG {P:Program}{op:BinOp}{T:TypeId}{x y:Operand}{a b:Value}(w:World)(h:Hw a b=true) :
 (eqGuard op T x y a b).run P w= .ok () w:=by
 unfold Hw at h;split at h<;>first|(cases op<;>rfl)|cases h
theorem apc {P:Program}{op:BinOp}{T:TypeId}{x:Operand}{v:Value}(w:World) :
 (eqGuard op T x (.const v) .nilIface .nilIface).run P w= .ok () w:=by
 cases op<;>(cases x<;>rfl)
section
variable {P:Program} {T:TypeId} (w:World) (d:Nat)
theorem ap3 (h:P.underlying T=some .bool)(a b:Bool):(Op.equalIn (d+1) T (.bool a) (.bool b)).run P w= .ok (a==b) w:=by
 simp[Op.equalIn,atd h]
theorem YX {e:TypeId}(h:P.underlying T=some (.pointer e))(a:Option Addr):(Op.equalIn (d+1) T (.pointer a) (.pointer none)).run P w= .ok a.isNone w:=by
 cases a<;>simp[Op.equalIn,atd h]
theorem ap4 {e:TypeId}(h:P.underlying T=some (.slice e))(a:Option Addr)(n c oy b8:Nat) :
 (Op.equalIn (d+1) T (.slice a n c) (.slice none oy b8)).run P w= .ok a.isNone w:=by
 cases a<;>simp[Op.equalIn,atd h]
theorem ap5 {ms:Array (String×TypeId)}(h:P.underlying T=some (.interface ms)):(Op.equalIn (d+1) T .nilIface .nilIface).run P w= .ok true w:=by
 simp[Op.equalIn,atd h]
theorem ap6 {ms:Array (String×TypeId)}(h:P.underlying T=some (.interface ms))(t:TypeId)(v:Value) :
 (Op.equalIn (d+1) T (.iface t v) .nilIface).run P w= .ok false w:=by
 simp[Op.equalIn,atd h]
end
theorem A0 {P:Program}{T:TypeId}{a b:Value}{r:Bool}{w:World}(h:(Op.equal T a b).run P w= .ok r w)
 (aa:binOp .eql T a b=do pure (.bool (<-Op.equal T a b))) (ad:binOp .neq T a b=do pure (.bool (!(<-Op.equal T a b)))) :
 (binOp .eql T a b).run P w= .ok (.bool r) w/\(binOp .neq T a b).run P w= .ok (.bool (!r)) w:=by
 rw[aa,ad];simp[h]
theorem YY {P:Program}{T:TypeId}{x y:ae}{K:Bool->Prop}(h:x8 P T x y K) :
 ∃r,K r/\(∀w,(binOp .eql T x.val y.val).run P w= .ok (.bool r) w/\(binOp .neq T x.val y.val).run P w= .ok (.bool (!r)) w) /\
  (Hw x.val y.val=true∨(x.val= .nilIface/\y.val= .nilIface)):=by
 unfold x8 at h;split at h
 .rename_i a b bz
  exact⟨_,h,λw=>A0 (ap3 w 9999 bz _ _) rfl rfl,.inl rfl⟩
 .rename_i a b bz
  exact⟨_,h,λw=>by simp[ae.val,binOp,Op.stringOp],.inl rfl⟩
 .rename_i e a bz
  refine⟨_,h,λw=>A0 ?_ rfl rfl,.inl rfl⟩;have:=YX w 9999 bz (a.map aG.addr);rw[Option.isNone_map] at this;exact this
 .rename_i e q bz
  refine⟨_,h,λw=>A0 ?_ rfl rfl,.inl rfl⟩;exact YX w 9999 bz (some q.addr)
 .rename_i e a n c z bz
  refine⟨_,h,λw=>A0 ?_ rfl rfl,.inl rfl⟩;have:=ap4 w 9999 bz a.addr a.len a.cap n c;rw[an.addr,Option.isNone_map] at this;exact this
 .rename_i ms a bz
  rcases h with ⟨rfl,h⟩|⟨t,v,rfl,h⟩
  .exact⟨_,h,λw=>A0 (ap5 w 9999 bz) rfl rfl,.inr ⟨rfl,rfl⟩⟩
  .exact⟨_,h,λw=>A0 (ap6 w 9999 bz t v) rfl rfl,.inl rfl⟩
 .exact h.elim
theorem YF {P:Program}{op:BinOp}{T:TypeId}{x y:ae}{K:ae->Prop}(h:AX P op T x y K) :
 Comes P (binOp op T x.val y.val) K/\(Hw x.val y.val=true∨(x.val= .nilIface/\y.val= .nilIface)):=by
 unfold AX at h;split at h
 .rename_i k a hd b
  refine⟨?_,.inl rfl⟩;split at h
  .rename_i aR
   exact YW h.1 h.2 aR T
  .rename_i aR
   split at h
   .rename_i ab
    subst ab;have:=apZ (P:=P) (by simpa using aR) h;simp only[ae.val];rw[this.2 T];exact this.1
   .exact h.elim
 .exact⟨ap0 h T,.inl rfl⟩
 .rename_i k a b
  refine⟨?_,.inl rfl⟩;have:=YW (P:=P) (yk:= .u64) (c:=(b.toNat:Int)) (by omega) (by simpa using h) (ap2 h) T;exact this
 .exact⟨ap1 h.1 h.2 T,.inl rfl⟩
 .rename_i a b
  refine⟨?_,.inl rfl⟩;cases op
  case add =>
   refine⟨_,h.2,λw=>?_⟩;have aa:=h.1;simp only[ae.val,binOp,Op.stringOp];rw[as7]
   .simp
   .simp[IntKind.max,IntKind.signed,IntKind.bits];omega
  case eql=>exact⟨_,h,λw=>by simp[ae.val,binOp,Op.stringOp]⟩
  case neq=>exact⟨_,h,λw=>by simp[ae.val,binOp,Op.stringOp]⟩
  all_goals exact h.elim
 .cases op
  case eql =>
   obtain⟨r,aK,hw,he⟩:=YY h;exact⟨⟨_,aK,λw=>(hw w).1⟩,he⟩
  case neq =>
   obtain⟨r,aK,hw,he⟩:=YY h;exact⟨⟨_,aK,λw=>(hw w).2⟩,he⟩
  all_goals exact h.elim
theorem ape {P:Program}{op:UnOp}{x:ae}{K:ae->Prop}(h:DK op x K):Comes P (Op.unary op x.val) K:=by
 unfold DK at h;split at h
 .exact⟨_,h,λw=>by rw[qx];simp[ae.val,Op.unary,Op.intArith]⟩
 .rename_i a
  refine⟨_,h,λw=>?_⟩;simp only[ae.val,YU];simp[ak,Op.unary,Op.intArith]
 .rename_i a
  refine⟨_,h,λw=>?_⟩;have eg:BitVec.ofInt 64 18446744073709551615=BitVec.allOnes 64:=by decide
  have e:(~~~ a).toBitVec=(BitVec.ofInt (IntKind.bits .u64) (IntKind.max .u64) ^^^ BitVec.ofInt (IntKind.bits .u64) (a.toNat:Int)):=by
   rw[DP];show ~~~ a.toBitVec=BitVec.ofInt 64 18446744073709551615 ^^^ a.toBitVec;rw[eg,BitVec.not_def]
  simp only[ae.val];rw[DQ (~~~ a) _ e];rfl
 .exact⟨_,h,λw=>by simp[ae.val,Op.unary]⟩
 .exact h.elim
theorem apf {P:Program}{src dst:TypeId}{x:ae}{K:ae->Prop}(h:DL P src dst x K):Comes P (convert src dst x.val) K:=by
 unfold DL at h;split at h
 .rename_i d0 a aa ad
  refine⟨_,h,λw=>?_⟩;have aa:P.underlying src=some d0:=by assumption
  simp only[convert,atb,atd aa,atd ad,ata,ae.val,ak,Conv.intToInt];have:=a.toNat_lt;simp[x_];omega
 .rename_i a aa ad
  refine⟨_,h,λw=>?_⟩;rw[qx];simp only[convert,atb,atd aa,atd ad,ata,ae.val,Conv.intToInt];simp
 .rename_i aa ad
  refine⟨_,h,λw=>?_⟩;rw[qx];simp only[convert,atb,atd aa,atd ad,ata,ae.val,ak,Conv.intToInt];simp
 .rename_i a aa ad
  refine⟨_,h,λw=>?_⟩;simp only[convert,atb,atd aa,atd ad,ata,ae.val];simp
 .exact h.elim

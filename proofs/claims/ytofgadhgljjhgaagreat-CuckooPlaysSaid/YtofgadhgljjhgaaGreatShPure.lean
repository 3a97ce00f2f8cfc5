import Derived.Test.YtofgadhgljjhgaaGreatSh
import Derived.Laws.Entries
namespace Go.cD
open Go Go.RowKit
abbrev Env:=Nat->Option af
def put (e:Env)(t:Nat)(s:af):Env:=λx=>if x=t then some s else e x
def gW (e:Env)(t:Option Nat)(s:af):Env:=match t with|some t=>put e t s|none=>e
def emp:Env:=λ_=>none
structure Good (n:Nat)(e:Env)(a:Act):Prop where
 size:a.tmps.size=n
 has:∀t s,t<n->e t=some s->a.tmps.getD t undef=s.val
theorem put_comm (e:Env){t u:Nat}(h:t≠u)(x y:af):put (put e t x) u y=put (put e u y) t x:=by
 funext z;unfold put;by_cases aa:z=t<;>by_cases ad:z=u<;>simp_all
theorem Good.put {n:Nat}{e:Env}{a:Act}(g:Good n e a)(d:Option Nat)(s:af):Good n (gW e d s) (a.put d s.val):=by
 cases d with
 | none=>exact g
 | some d =>
  refine⟨by simp[Act.put,g.size],?_⟩
  intro t x bw ai
  simp only[gW,Go.cD.put] at ai
  simp only[Act.put]
  by_cases h:t=d
  .subst h
   simp at ai
   subst ai
   simp[Array.getD,g.size,bw]
  .rw[if_neg h] at ai
   have:=g.has t x bw ai
   simp[Array.getD,g.size,bw] at this ⊢
   rw[Array.getElem_setIfInBounds]
   rw[if_neg (by omega)]
   exact this
def yv (n:Int):Bool:=decide (0<=n/\n<18446744073709551616)
def cI (n:Int):UInt64:=UInt64.ofNat (n%18446744073709551616).toNat
theorem adO (n:Int):((cI n).toNat:Int)=n%18446744073709551616:=by
 unfold cI
 have aa:0<=n%18446744073709551616:=Int.emod_nonneg _ (by decide)
 have ad:n%18446744073709551616<18446744073709551616:=Int.emod_lt_of_pos _ (by decide)
 rw[UInt64.toNat_ofNat']
 omega
theorem AK {n:Int}(h:yv n=true):((cI n).toNat:Int)=n:=by
 rw[adO];unfold yv at h;simp at h;omega
theorem Av (n:Int):IntKind.u64.wrap n=n%18446744073709551616:=by
 simp[IntKind.wrap,IntKind.signed,IntKind.bits]
theorem R6 (n:Int):ab (cI n)= .int .u64 (IntKind.u64.wrap n):=by unfold ab;rw[adO,Av]
noncomputable def al (n:Int):Int:=Classical.choose (⟨wrap64 n,rfl⟩:∃m,m=wrap64 n)
theorem adP (n:Int):al n=wrap64 n:=Classical.choose_spec (⟨wrap64 n,rfl⟩:∃m,m=wrap64 n)
noncomputable def ql (k:IntKind)(n:Int):af :=
 match k with
 | .u64=> .u (cI n)
 | .i64=> .i .i64 (al n)
 | k=> .i k (k.wrap n)
theorem r4 (k:IntKind)(n:Int):(ql k n).val= .int k (k.wrap n):=by
 cases k<;>simp only[ql,af.val,R6,adP]
 rw[IntWalk.i64_left]
def uy:Value->af
 | .int .u64 n=>if yv n=true then .u (cI n) else .v (.int .u64 n)
 | .int k n=> .i k n
 | .bool b=> .b b
 | .pointer none=> .hM none
 | .slice none 0 0=> .s ⟨none,0,0,none⟩
 | .string s=> .str s
 | .map none=> .m none
 | x=> .v x
theorem La (x:Value):(uy x).val=x:=by
 unfold uy
 split<;>try rfl
 split
 .rename_i h;simp only[af.val,ab,AK h]
 .rfl
def R7:Value->Bool
 | .int .u64 n=>decide (n=0)
 | _=>false
theorem aw8 {v:Value}(h:R7 v=true):v=ab 0:=by
 unfold R7 at h
 split at h
 .simp at h;subst h;rfl
 .cases h
mutual
def kO:ff->List Value->Option (af×List Value)
 | .ws n,cs=>if (cs.take n).all R7&&(cs.take n).length==n then some (.ws n (Vector.replicate n 0),cs.drop n) else none
 | .dt l,cs=>match G9 l cs with|some (r,c)=>some (.dt r,c)|none=>none
 | .ja _,_=>none
 | _,c::cs=>some (uy c,cs)
 | _,[]=>none
def G9:List ff->List Value->Option (List af×List Value)
 | [],cs=>some ([],cs)
 | t::l,cs =>
  match kO t cs with
  | some (r,c)=>match G9 l c with|some (rs,cc)=>some (r::rs,cc)|none=>none
  | none=>none
end
theorem aw9 (x:Value):(uy x).cells=[x]:=by
 have h:=La x
 unfold uy at h ⊢
 split<;>try rfl
 split
 .rename_i ad;simp only[af.cells,ab,AK ad]
 .rfl
theorem uA (c:Value)(cs:List Value)(r:af)(hs:List Value)(h:some (uy c,cs)=some (r,hs)):c::cs=r.cells++hs:=by
 obtain⟨rfl,rfl⟩:=Prod.mk.inj (Option.some.inj h);simp[aw9]
mutual
theorem R8:∀(t:ff) (cs:List Value) (r:af) (hs:List Value),kO t cs=some (r,hs)->cs=r.cells++hs
 | .ws n,cs,r,hs,h=>by
  simp only[kO] at h
  split at h
  .rename_i ad
   simp only[Bool.and_eq_true,List.all_eq_true,beq_iff_eq] at ad
   obtain⟨rfl,rfl⟩:=Prod.mk.inj (Option.some.inj h)
   have e:cs.take n=List.replicate n (ab 0):=List.eq_replicate_iff.2 ⟨ad.2,λv bQ=>aw8 (ad.1 v bQ)⟩
   conv=>lhs;rw[<-List.take_append_drop n cs,e]
   simp[af.cells]
  .cases h
 | .dt l,cs,r,hs,h=>by
  simp only[kO] at h
  split at h
  .rename_i h2 gG ad
   obtain⟨rfl,rfl⟩:=Prod.mk.inj (Option.some.inj h)
   exact adQ l cs h2 _ ad
  .cases h
 | .ja _,cs,r,hs,h=>by simp[kO] at h
 | .i _,c::cs,r,hs,h=>uA c cs r hs (by simpa only[kO] using h)
 | .u,c::cs,r,hs,h=>uA c cs r hs (by simpa only[kO] using h)
 | .b,c::cs,r,hs,h=>uA c cs r hs (by simpa only[kO] using h)
 | .p,c::cs,r,hs,h=>uA c cs r hs (by simpa only[kO] using h)
 | .f,c::cs,r,hs,h=>uA c cs r hs (by simpa only[kO] using h)
 | .hM,c::cs,r,hs,h=>uA c cs r hs (by simpa only[kO] using h)
 | .s,c::cs,r,hs,h=>uA c cs r hs (by simpa only[kO] using h)
 | .str,c::cs,r,hs,h=>uA c cs r hs (by simpa only[kO] using h)
 | .m,c::cs,r,hs,h=>uA c cs r hs (by simpa only[kO] using h)
 | .v,c::cs,r,hs,h=>uA c cs r hs (by simpa only[kO] using h)
 | .i _,[],r,hs,h=>by simp[kO] at h
 | .u,[],r,hs,h=>by simp[kO] at h
 | .b,[],r,hs,h=>by simp[kO] at h
 | .p,[],r,hs,h=>by simp[kO] at h
 | .f,[],r,hs,h=>by simp[kO] at h
 | .hM,[],r,hs,h=>by simp[kO] at h
 | .s,[],r,hs,h=>by simp[kO] at h
 | .str,[],r,hs,h=>by simp[kO] at h
 | .m,[],r,hs,h=>by simp[kO] at h
 | .v,[],r,hs,h=>by simp[kO] at h
theorem adQ:∀(l:List ff) (cs:List Value) (r:List af) (hs:List Value),G9 l cs=some (r,hs)->cs=af.gn r++hs
 | [],cs,r,hs,h=>by
  simp only[G9] at h
  obtain⟨rfl,rfl⟩:=Prod.mk.inj (Option.some.inj h);rfl
 | t::l,cs,r,hs,h=>by
  simp only[G9] at h
  split at h
  .rename_i h2 gG aa
   split at h
   .rename_i rs aQ ad
    obtain⟨rfl,rfl⟩:=Prod.mk.inj (Option.some.inj h)
    rw[R8 t cs h2 gG aa,adQ l gG rs _ ad]
    simp[af.gn]
   .cases h
  .cases h
end
def G0 (t:ff)(x:Value):af :=
 match x with
 | .agg cs=>match kO t cs.toList with
  | some (.ws n c,[])=> .ws n c
  | some (.dt l,[])=> .dt l
  | _=> .v (.agg cs)
 | x=>uy x
theorem RN (t:ff)(x:Value):(G0 t x).val=x:=by
 unfold G0
 split
 .rename_i cs
  split
  .rename_i n c h
   have:=R8 _ _ _ _ h
   simp only[af.val,List.append_nil,af.cells] at this ⊢
   congr 1
   apply Array.toList_inj.1
   rw[this];simp[Vector.toList]
  .rename_i l h
   have:=R8 _ _ _ _ h
   simp only[af.val,List.append_nil,af.cells] at this ⊢
   congr 1
   apply Array.toList_inj.1
   rw[this]
  .rfl
 .exact La _
section
variable (P:Program) (n:Nat)
def hN (e:Env)(x:Operand)(K:af->Prop):Prop :=
 match x with
 | .tmp t=>match (if t<n then e t else none) with|some s=>K s|none=>False
 | .const v=>K (uy v)
 | .global g=>K (.p ⟨g,0⟩)
 | .func f=>K (.f f [])
variable {P n}
theorem jP {e:Env}{x:Operand}{K:af->Prop}(h:hN n e x K):∃s,K s/\∀a,Good n e a->a.eval x=s.val:=by
 cases x with
 | tmp t =>
  simp only[hN] at h
  split at h
  .rename_i s aU
   split at aU
   .rename_i bw
    exact⟨s,h,λa g=>g.has t s bw aU⟩
   .cases aU
  .exact h.elim
 | const v=>exact⟨_,h,λa _=>(La v).symm⟩
 | global g=>exact⟨_,h,λa _=>rfl⟩
 | func f=>exact⟨_,h,λa _=>rfl⟩
end
def pB (n:Nat)(ty:ff)(e:Env)(x:Operand)(K:af->Prop):Prop :=
 match x with
 | .const v=>K (G0 ty v)
 | x=>hN n e x K
theorem yf {n:Nat}{ty:ff}{e:Env}{x:Operand}{K:af->Prop}(h:pB n ty e x K):∃s,K s/\∀a,Good n e a->a.eval x=s.val:=by
 cases x with
 | const v=>exact⟨_,h,λa _=>(RN ty v).symm⟩
 | tmp t=>exact jP h
 | global g=>exact jP h
 | func f=>exact jP h
def lP (P:Program):Nat->TypeId->ff
 | 0,_=> .v
 | f+1,T =>
  match P.underlying T with
  | some .bool=> .b
  | some (.int .u64)=> .u
  | some (.int k)=> .i k
  | some .string=> .str
  | some (.pointer _)=> .hM
  | some (.slice _)=> .s
  | some (.func _ _ _)=> .v
  | some (.map _ _)=> .m
  | some (.array k e)=>match lP P f e with| .u=> .ws k|t=> .dt (List.replicate k t)
  | some (.struct fU)=> .dt (fU.toList.map λd=>lP P f d.type)
  | some (.tuple iY)=> .ja (iY.toList.map λt=>lP P f t)
  | _=> .v
def ti (x:UInt64)(c:Nat):UInt64:=cI ((x.toNat:Int)*2 ^ (min c 64))
def dD (x:UInt64)(c:Nat):UInt64:=UInt64.ofNat (x.toNat/2 ^ (min c 64))
def nV (op:BinOp)(k:IntKind)(a b:Int):Int :=
 match op with
 | .and=>((BitVec.ofInt k.bits a &&& BitVec.ofInt k.bits b).toNat:Int)
 | .or=>((BitVec.ofInt k.bits a ||| BitVec.ofInt k.bits b).toNat:Int)
 | .xor=>((BitVec.ofInt k.bits a ^^^ BitVec.ofInt k.bits b).toNat:Int)
 | _=>((BitVec.ofInt k.bits a &&& ~~~ BitVec.ofInt k.bits b).toNat:Int)
def isNil (x:Value)(K:af->Prop):Prop:=(x= .nilIface/\K (.b true))∨(∃t v,x= .iface t v/\K (.b false))
def RW (op:BinOp)(k:IntKind)(a b:Int)(K:af->Prop):Prop :=
 match op with
 | .add=>K (ql k (a+b))
 | .sub=>K (ql k (a-b))
 | .mul=>K (ql k (a*b))
 | .quo=>b≠0/\K (ql k (a.tdiv b))
 | .rem=>b≠0/\K (.i k (a.tmod b))
 | .and=>K (ql k (nV .and k a b))
 | .or=>K (ql k (nV .or k a b))
 | .xor=>K (ql k (nV .xor k a b))
 | .andNot=>K (ql k (nV .andNot k a b))
 | .eql=>K (.b (decide (a=b)))
 | .neq=>K (.b (!decide (a=b)))
 | .lss=>K (.b (decide (a<b)))
 | .leq=>K (.b (decide (a<=b)))
 | .gtr=>K (.b (decide (b<a)))
 | .geq=>K (.b (decide (b<=a)))
 | _=>False
def RX (op:BinOp)(x y:UInt64)(K:af->Prop):Prop :=
 match op with
 | .add=>K (.u (x+y))
 | .sub=>K (.u (x-y))
 | .mul=>K (.u (x*y))
 | .quo=>y≠0/\K (.u (x/y))
 | .rem=>y≠0/\K (.u (x%y))
 | .and=>K (.u (x &&& y))
 | .or=>K (.u (x ||| y))
 | .xor=>K (.u (x ^^^ y))
 | .andNot=>K (.u (x &&& ~~~ y))
 | .eql=>K (.b (decide (x=y)))
 | .neq=>K (.b (!decide (x=y)))
 | .lss=>K (.b (decide (x<y)))
 | .leq=>K (.b (decide (x<=y)))
 | .gtr=>K (.b (decide (y<x)))
 | .geq=>K (.b (decide (y<=x)))
 | .shl=>K (.u (ti x y.toNat))
 | .shr=>K (.u (dD x y.toNat))
def yo:BinOp->Bool
 | .shl| .shr=>true
 | _=>false
def G8 (op:BinOp)(k:IntKind)(a:Int)(c:Nat)(K:af->Prop):Prop :=
 match op with
 | .shl=>K (ql k (a*2 ^ (min c k.bits)))
 | .shr=>K (.i k (a.fdiv (2 ^ (min c k.bits))))
 | _=>False
def RY (op:BinOp)(x:UInt64)(c:Nat)(K:af->Prop):Prop :=
 match op with
 | .shl=>K (.u (ti x c))
 | .shr=>K (.u (dD x c))
 | _=>False
def At (P:Program)(T:TypeId)(x y:af)(K:Bool->Prop):Prop :=
 match P.underlying T,x,y with
 | some .bool,.b a,.b b=>K (a==b)
 | some .string,.str a,.str b=>K (a.toList==b.toList)
 | some (.pointer _),.hM a,.hM none=>K a.isNone
 | some (.pointer _),.p _,.hM none=>K false
 | some (.slice _),.s a,.s ⟨none,_,_,_⟩=>K a.p.isNone
 | some (.interface _),.v a,.v .nilIface=>(a= .nilIface/\K true)∨(∃t v,a= .iface t v/\K false)
 | _,_,_=>False
def Du (P:Program)(op:BinOp)(T:TypeId)(x y:af)(K:af->Prop):Prop :=
 match x,y with
 | .i k a,.i hJ b=>if yo op=true then 0<=b/\G8 op k a b.toNat K else if k=hJ then RW op k a b K else False
 | .u a,.u b=>RX op a b K
 | .i k a,.u b=>G8 op k a b.toNat K
 | .u a,.i _ b=>0<=b/\RY op a b.toNat K
 | .str a,.str b =>
  match op with
  | .add=>((a.size+b.size:Nat):Int)<=9223372036854775807/\K (.str (a++b))
  | .eql=>K (.b (a.toList==b.toList))
  | .neq=>K (.b (!(a.toList==b.toList)))
  | _=>False
 | x,y =>
  match op with
  | .eql=>At P T x y λr=>K (.b r)
  | .neq=>At P T x y λr=>K (.b (!r))
  | _=>False
def G5 (op:UnOp)(x:af)(K:af->Prop):Prop :=
 match op,x with
 | .neg,.i k a=>K (ql k (0-a))
 | .neg,.u a=>K (.u (0-a))
 | .xor,.u a=>K (.u (~~~ a))
 | .not,.b a=>K (.b (!a))
 | _,_=>False
def G6 (P:Program)(src dst:TypeId)(x:af)(K:af->Prop):Prop :=
 match P.underlying src,P.underlying dst,x with
 | some _,some (.int .u64),.u a=>K (.u a)
 | some _,some (.int k),.i _ a=>K (ql k a)
 | some _,some (.int k),.u a=>K (ql k (a.toNat:Int))
 | some (.string),some .string,.str a=>K (.str a)
 | _,_,_=>False
theorem aw_ (x y:UInt64):ab (x+y)= .int .u64 (IntKind.u64.wrap (x.toNat+y.toNat)):=by
 unfold ab;rw[Av,UInt64.toNat_add];congr 1
theorem axa (x y:UInt64):ab (x*y)= .int .u64 (IntKind.u64.wrap (x.toNat*y.toNat)):=by
 unfold ab;rw[Av,UInt64.toNat_mul];congr 1
theorem adR (x y:UInt64):ab (x-y)= .int .u64 (IntKind.u64.wrap (x.toNat-y.toNat)):=by
 unfold ab;rw[Av,UInt64.toNat_sub]
 have aa:=x.toNat_lt;have ad:=y.toNat_lt
 congr 1;omega
theorem G_ (x:UInt64):BitVec.ofInt (IntKind.bits .u64) (x.toNat:Int)=x.toBitVec:=by
 apply BitVec.eq_of_toNat_eq
 have:=x.toNat_lt
 simp[IntKind.bits]
theorem Ha (z:UInt64)(r:BitVec (IntKind.bits .u64))(h:z.toBitVec=r) :
 ab z= .int .u64 (IntKind.u64.wrap (r.toNat:Int)):=by
 subst h
 unfold ab;rw[Av]
 have:=z.toNat_lt
 congr 1
 show(z.toNat:Int)=(z.toNat:Int)%_
 omega
theorem axb (x y:UInt64):((x%y).toNat:Int)=(x.toNat:Int).tmod y.toNat:=by
 rw[UInt64.toNat_mod];rfl
theorem axc (x y:UInt64):ab (x/y)= .int .u64 (IntKind.u64.wrap ((x.toNat:Int).tdiv y.toNat)):=by
 unfold ab;rw[Av,UInt64.toNat_div]
 have aa:=x.toNat_lt
 have ad:x.toNat/y.toNat<=x.toNat:=Nat.div_le_self _ _
 rw[<-Int.ofNat_tdiv]
 congr 1
 generalize x.toNat/y.toNat=d at *
 omega
theorem adS (x:UInt64)(c:Nat):(((dD x c).toNat:Nat):Int)=(x.toNat:Int).fdiv (2 ^ (min c 64)):=by
 unfold dD
 have h0:=x.toNat_lt
 have aa:x.toNat/2 ^ min c 64<=x.toNat:=Nat.div_le_self _ _
 have e:(2:Int) ^ (min c 64)=((2 ^ (min c 64):Nat):Int):=by simp
 rw[e,Int.fdiv_eq_ediv_of_nonneg _ (Int.natCast_nonneg _),<-Int.natCast_ediv,UInt64.toNat_ofNat']
 generalize x.toNat/2 ^ min c 64=d at *
 congr 1
 omega
def Comes (P:Program)(s:Sem Value)(K:af->Prop):Prop:=∃r,K r/\∀w,s.run P w= .ok r.val w
theorem Dt (a b:Int):(a==b)=decide (a=b):=by
 by_cases h:a=b<;>simp[h]
theorem axd {P:Program}{op:BinOp}{k:IntKind}{a b:Int}{K:af->Prop}(aU:yo op=false)(h:RW op k a b K) :
 Comes P (binOp op 0 (.int k a) (.int k b)) K/\∀T,binOp op T (.int k a) (.int k b)=binOp op 0 (.int k a) (.int k b):=by
 have fW:∀T,binOp op T (.int k a) (.int k b)=binOp op 0 (.int k a) (.int k b):=by
  intro T;cases op<;>first|rfl|simp[yo] at aU
 refine⟨?_,fW⟩
 cases op
 case add=>refine⟨_,h,λw=>?_⟩;rw[r4];simp[binOp,Op.intArith]
 case sub=>refine⟨_,h,λw=>?_⟩;rw[r4];simp[binOp,Op.intArith]
 case mul=>refine⟨_,h,λw=>?_⟩;rw[r4];simp[binOp,Op.intArith]
 case quo=>refine⟨_,h.2,λw=>?_⟩;rw[r4];simp[binOp,Op.intDiv,h.1]
 case rem=>refine⟨_,h.2,λw=>?_⟩;simp[binOp,Op.intDiv,h.1,af.val]
 case and=>refine⟨_,h,λw=>?_⟩;rw[r4];simp[binOp];rfl
 case or=>refine⟨_,h,λw=>?_⟩;rw[r4];simp[binOp];rfl
 case xor=>refine⟨_,h,λw=>?_⟩;rw[r4];simp[binOp];rfl
 case andNot=>refine⟨_,h,λw=>?_⟩;rw[r4];simp[binOp];rfl
 case shl=>simp[yo] at aU
 case shr=>simp[yo] at aU
 all_goals first
  | exact h.elim
  | (refine⟨_,h,λw=>?_⟩;simp[binOp,Op.intCmp,af.val,Dt,bne];done)
theorem axe {P:Program}{op:BinOp}{a b:UInt64}{K:af->Prop}(h:RX op a b K):∀T,Comes P (binOp op T (ab a) (ab b)) K:=by
 intro T
 cases op
 case add=>refine⟨_,h,λw=>?_⟩;rw[af.val,aw_];rfl
 case sub=>refine⟨_,h,λw=>?_⟩;rw[af.val,adR];rfl
 case mul=>refine⟨_,h,λw=>?_⟩;rw[af.val,axa];rfl
 case quo =>
  refine⟨_,h.2,λw=>?_⟩
  have au:(b.toNat:Int)≠0:=by intro e;exact h.1 (UInt64.toNat_inj.1 (by simpa using e))
  rw[af.val,axc];simp only[ab,binOp,Op.intDiv,au,if_false,ne_eq,not_true];rfl
 case rem =>
  refine⟨_,h.2,λw=>?_⟩
  have au:(b.toNat:Int)≠0:=by intro e;exact h.1 (UInt64.toNat_inj.1 (by simpa using e))
  rw[af.val];simp only[ab,axb,binOp,Op.intDiv,au,if_false,ne_eq,not_true];rfl
 case and=>refine⟨_,h,λw=>?_⟩;rw[af.val,Ha (a &&& b) _ rfl];simp only[ab,binOp,ne_eq,not_true,if_false,Op.intBits,G_];rfl
 case or=>refine⟨_,h,λw=>?_⟩;rw[af.val,Ha (a ||| b) _ rfl];simp only[ab,binOp,ne_eq,not_true,if_false,Op.intBits,G_];rfl
 case xor=>refine⟨_,h,λw=>?_⟩;rw[af.val,Ha (a ^^^ b) _ rfl];simp only[ab,binOp,ne_eq,not_true,if_false,Op.intBits,G_];rfl
 case andNot=>refine⟨_,h,λw=>?_⟩;rw[af.val,Ha (a &&& ~~~ b) _ rfl];simp only[ab,binOp,ne_eq,not_true,if_false,Op.intBits,G_];rfl
 case shl =>
  refine⟨_,h,λw=>?_⟩
  have au:¬((b.toNat:Int)<0):=by omega
  simp only[af.val,ti,R6]
  simp[ab,binOp,Op.shift,IntKind.bits,au]
 case shr =>
  refine⟨_,h,λw=>?_⟩
  have au:¬((b.toNat:Int)<0):=by omega
  simp only[af.val]
  simp[ab,binOp,Op.shift,IntKind.bits,au,adS]
 case eql =>
  refine⟨_,h,λw=>?_⟩
  simp[ab,binOp,Op.intCmp,af.val,Dt,<-UInt64.toNat_inj,Int.natCast_inj]
 case neq =>
  refine⟨_,h,λw=>?_⟩
  simp[ab,binOp,Op.intCmp,af.val,Dt,bne,<-UInt64.toNat_inj,Int.natCast_inj]
 case lss =>
  refine⟨_,h,λw=>?_⟩
  simp[ab,binOp,Op.intCmp,af.val,UInt64.lt_iff_toNat_lt]
 case leq =>
  refine⟨_,h,λw=>?_⟩
  simp[ab,binOp,Op.intCmp,af.val,UInt64.le_iff_toNat_le]
 case gtr =>
  refine⟨_,h,λw=>?_⟩
  simp[ab,binOp,Op.intCmp,af.val,UInt64.lt_iff_toNat_lt]
 case geq =>
  refine⟨_,h,λw=>?_⟩
  simp[ab,binOp,Op.intCmp,af.val,UInt64.le_iff_toNat_le]
theorem adT {P:Program}{op:BinOp}{k yk:IntKind}{a:Int}{c:Int}{K:af->Prop}(aZ:0<=c)(h:G8 op k a c.toNat K)(ag:yo op=true) :
 ∀T,Comes P (binOp op T (.int k a) (.int yk c)) K:=by
 intro T
 have aH:¬c<0:=by omega
 cases op
 case shl=>refine⟨_,h,λw=>?_⟩;rw[r4];simp[binOp,Op.shift,aH]
 case shr=>refine⟨_,h,λw=>?_⟩;simp[binOp,Op.shift,aH,af.val]
 all_goals simp[yo] at ag
theorem axf {P:Program}{op:BinOp}{yk:IntKind}{a:UInt64}{c:Int}{K:af->Prop}(aZ:0<=c)(h:RY op a c.toNat K) :
 ∀T,Comes P (binOp op T (ab a) (.int yk c)) K:=by
 intro T
 have aH:¬c<0:=by omega
 cases op
 case shl =>
  refine⟨_,h,λw=>?_⟩
  simp only[af.val,ti,R6]
  simp[ab,binOp,Op.shift,aH,IntKind.bits]
 case shr =>
  refine⟨_,h,λw=>?_⟩
  simp only[af.val]
  simp[ab,binOp,Op.shift,aH,IntKind.bits,adS]
 all_goals exact h.elim
theorem axg {op:BinOp}{k:IntKind}{a:Int}{c:Nat}{K:af->Prop}(h:G8 op k a c K):yo op=true:=by
 cases op<;>first|rfl|exact h.elim
def Lc:Value->Value->Bool
 | .int _ _,.int _ _| .string _,.string _| .bool _,.bool _| .pointer _,.pointer _| .slice _ _ _,.slice _ _ _| .iface _ _,.nilIface=>true
 | _,_=>false
theorem adD {P:Program}{op:BinOp}{T:TypeId}{x y:Operand}{a b:Value}(w:World)(h:Lc a b=true) :
 (eqGuard op T x y a b).run P w= .ok () w:=by
 unfold Lc at h
 split at h<;>first|(cases op<;>rfl)|cases h
theorem awu {P:Program}{op:BinOp}{T:TypeId}{x:Operand}{v:Value}(w:World) :
 (eqGuard op T x (.const v) .nilIface .nilIface).run P w= .ok () w:=by
 cases op<;>(cases x<;>rfl)
section
variable {P:Program} {T:TypeId} (w:World) (d:Nat)
theorem axh (h:P.underlying T=some .bool)(a b:Bool):(Op.equalIn (d+1) T (.bool a) (.bool b)).run P w= .ok (a==b) w:=by
 simp[Op.equalIn,run_underlying h]
theorem adU {e:TypeId}(h:P.underlying T=some (.pointer e))(a:Option Addr):(Op.equalIn (d+1) T (.pointer a) (.pointer none)).run P w= .ok a.isNone w:=by
 cases a<;>simp[Op.equalIn,run_underlying h]
theorem axi {e:TypeId}(h:P.underlying T=some (.slice e))(a:Option Addr)(n c iD cc:Nat) :
 (Op.equalIn (d+1) T (.slice a n c) (.slice none iD cc)).run P w= .ok a.isNone w:=by
 cases a<;>simp[Op.equalIn,run_underlying h]
theorem axj {ms:Array (String×TypeId)}(h:P.underlying T=some (.interface ms)):(Op.equalIn (d+1) T .nilIface .nilIface).run P w= .ok true w:=by
 simp[Op.equalIn,run_underlying h]
theorem axk {ms:Array (String×TypeId)}(h:P.underlying T=some (.interface ms))(t:TypeId)(v:Value) :
 (Op.equalIn (d+1) T (.iface t v) .nilIface).run P w= .ok false w:=by
 simp[Op.equalIn,run_underlying h]
end
theorem Dx {P:Program}{T:TypeId}{a b:Value}{r:Bool}{w:World}(h:(Op.equal T a b).run P w= .ok r w)
 (aa:binOp .eql T a b=do pure (.bool (<-Op.equal T a b))) (ad:binOp .neq T a b=do pure (.bool (!(<-Op.equal T a b)))) :
 (binOp .eql T a b).run P w= .ok (.bool r) w/\(binOp .neq T a b).run P w= .ok (.bool (!r)) w:=by
 rw[aa,ad];simp[h]
theorem adV {P:Program}{T:TypeId}{x y:af}{K:Bool->Prop}(h:At P T x y K) :
 ∃r,K r/\(∀w,(binOp .eql T x.val y.val).run P w= .ok (.bool r) w/\(binOp .neq T x.val y.val).run P w= .ok (.bool (!r)) w) /\
  (Lc x.val y.val=true∨(x.val= .nilIface/\y.val= .nilIface)):=by
 unfold At at h
 split at h
 .rename_i a b bw
  exact⟨_,h,λw=>Dx (axh w 9999 bw _ _) rfl rfl,.inl rfl⟩
 .rename_i a b bw
  exact⟨_,h,λw=>by simp[af.val,binOp,Op.stringOp],.inl rfl⟩
 .rename_i e a bw
  refine⟨_,h,λw=>Dx ?_ rfl rfl,.inl rfl⟩
  have:=adU w 9999 bw (a.map aD.addr)
  rw[Option.isNone_map] at this
  exact this
 .rename_i e q bw
  refine⟨_,h,λw=>Dx ?_ rfl rfl,.inl rfl⟩
  exact adU w 9999 bw (some q.addr)
 .rename_i e a n c z bw
  refine⟨_,h,λw=>Dx ?_ rfl rfl,.inl rfl⟩
  have:=axi w 9999 bw a.addr a.len a.cap n c
  rw[ar.addr,Option.isNone_map] at this
  exact this
 .rename_i ms a bw
  rcases h with ⟨rfl,h⟩|⟨t,v,rfl,h⟩
  .exact⟨_,h,λw=>Dx (axj w 9999 bw) rfl rfl,.inr ⟨rfl,rfl⟩⟩
  .exact⟨_,h,λw=>Dx (axk w 9999 bw t v) rfl rfl,.inl rfl⟩
 .exact h.elim
theorem adC {P:Program}{op:BinOp}{T:TypeId}{x y:af}{K:af->Prop}(h:Du P op T x y K) :
 Comes P (binOp op T x.val y.val) K/\(Lc x.val y.val=true∨(x.val= .nilIface/\y.val= .nilIface)):=by
 unfold Du at h
 split at h
 .rename_i k a hJ b
  refine⟨?_,.inl rfl⟩
  split at h
  .rename_i aU
   exact adT h.1 h.2 aU T
  .rename_i aU
   split at h
   .rename_i ag
    subst ag
    have:=axd (P:=P) (by simpa using aU) h
    simp only[af.val]
    rw[this.2 T];exact this.1
   .exact h.elim
 .exact⟨axe h T,.inl rfl⟩
 .rename_i k a b
  refine⟨?_,.inl rfl⟩
  have:=adT (P:=P) (yk:= .u64) (c:=(b.toNat:Int)) (by omega) (by simpa using h) (axg h) T
  exact this
 .exact⟨axf h.1 h.2 T,.inl rfl⟩
 .rename_i a b
  refine⟨?_,.inl rfl⟩
  cases op
  case add =>
   refine⟨_,h.2,λw=>?_⟩
   have aa:=h.1
   simp only[af.val,binOp,Op.stringOp]
   rw[if_neg]
   .simp
   .simp[IntKind.max,IntKind.signed,IntKind.bits];omega
  case eql=>exact⟨_,h,λw=>by simp[af.val,binOp,Op.stringOp]⟩
  case neq=>exact⟨_,h,λw=>by simp[af.val,binOp,Op.stringOp]⟩
  all_goals exact h.elim
 .cases op
  case eql =>
   obtain⟨r,aP,hw,he⟩:=adV h
   exact⟨⟨_,aP,λw=>(hw w).1⟩,he⟩
  case neq =>
   obtain⟨r,aP,hw,he⟩:=adV h
   exact⟨⟨_,aP,λw=>(hw w).2⟩,he⟩
  all_goals exact h.elim
theorem aww {P:Program}{op:UnOp}{x:af}{K:af->Prop}(h:G5 op x K):Comes P (Op.unary op x.val) K:=by
 unfold G5 at h
 split at h
 .exact⟨_,h,λw=>by rw[r4];simp[af.val,Op.unary,Op.intArith]⟩
 .rename_i a
  refine⟨_,h,λw=>?_⟩
  simp only[af.val,adR];simp[ab,Op.unary,Op.intArith]
 .rename_i a
  refine⟨_,h,λw=>?_⟩
  have dB:BitVec.ofInt 64 18446744073709551615=BitVec.allOnes 64:=by decide
  have e:(~~~ a).toBitVec=(BitVec.ofInt (IntKind.bits .u64) (IntKind.max .u64) ^^^ BitVec.ofInt (IntKind.bits .u64) (a.toNat:Int)):=by
   rw[G_]
   show ~~~ a.toBitVec=BitVec.ofInt 64 18446744073709551615 ^^^ a.toBitVec
   rw[dB,BitVec.not_def]
  simp only[af.val]
  rw[Ha (~~~ a) _ e]
  rfl
 .exact⟨_,h,λw=>by simp[af.val,Op.unary]⟩
 .exact h.elim
theorem awx {P:Program}{src dst:TypeId}{x:af}{K:af->Prop}(h:G6 P src dst x K):Comes P (convert src dst x.val) K:=by
 unfold G6 at h
 split at h
 .rename_i d0 a aa ad
  refine⟨_,h,λw=>?_⟩
  have aa:P.underlying src=some d0:=by assumption
  simp only[convert,Sem.run_bind,run_underlying aa,run_underlying ad,Result.andThen_ok,af.val,ab,Conv.intToInt]
  have:=a.toNat_lt
  simp[Av];omega
 .rename_i a aa ad
  refine⟨_,h,λw=>?_⟩
  rw[r4]
  simp only[convert,Sem.run_bind,run_underlying aa,run_underlying ad,Result.andThen_ok,af.val,Conv.intToInt]
  simp
 .rename_i aa ad
  refine⟨_,h,λw=>?_⟩
  rw[r4]
  simp only[convert,Sem.run_bind,run_underlying aa,run_underlying ad,Result.andThen_ok,af.val,ab,Conv.intToInt]
  simp
 .rename_i a aa ad
  refine⟨_,h,λw=>?_⟩
  simp only[convert,Sem.run_bind,run_underlying aa,run_underlying ad,Result.andThen_ok,af.val]
  simp
 .exact h.elim

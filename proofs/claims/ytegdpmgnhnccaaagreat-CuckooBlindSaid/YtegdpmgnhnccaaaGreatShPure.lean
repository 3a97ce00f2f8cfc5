import Derived.Test.YtegdpmgnhnccaaaGreatSh
import Derived.Laws.Entries
namespace Go.cR
open Go Go.RowKit
abbrev Env:=Nat->Option ag
def put (e:Env)(t:Nat)(s:ag):Env:=λx=>if x=t then some s else e x
def hy (e:Env)(t:Option Nat)(s:ag):Env:=match t with|some t=>put e t s|none=>e
def emp:Env:=λ_=>none
structure Good (n:Nat)(e:Env)(a:Act):Prop where
 size:a.tmps.size=n
 has:∀t s,t<n->e t=some s->a.tmps.getD t undef=s.val
theorem put_comm (e:Env){t u:Nat}(h:t≠u)(x y:ag):put (put e t x) u y=put (put e u y) t x:=by
 funext z;unfold put;by_cases aa:z=t<;>by_cases ad:z=u<;>simp_all
theorem Good.put {n:Nat}{e:Env}{a:Act}(g:Good n e a)(d:Option Nat)(s:ag):Good n (hy e d s) (a.put d s.val):=by
 cases d with
 | none=>exact g
 | some d =>
  refine⟨by simp[Act.put,g.size],?_⟩;intro t x bG ai;simp only[hy,Go.cR.put] at ai;simp only[Act.put];by_cases h:t=d
  .subst h;simp at ai;subst ai;simp[Array.getD,g.size,bG]
  .rw[aDq h] at ai;have:=g.has t x bG ai;simp[Array.getD,g.size,bG] at this ⊢;rw[Array.getElem_setIfInBounds,cS];exact this
def zt (n:Int):Bool:=decide (0<=n/\n<18446744073709551616)
def cX (n:Int):aE:=UInt64.ofNat (n%18446744073709551616).toNat
theorem af3 (n:Int):((cX n).toNat:Int)=n%18446744073709551616:=by
 unfold cX;have aa:0<=n%18446744073709551616:=Int.emod_nonneg _ (by decide);have ad:n%18446744073709551616<18446744073709551616:=Int.emod_lt_of_pos _ (by decide);rw[aDw];omega
theorem BN {n:Int}(h:zt n=true):((cX n).toNat:Int)=n:=by
 rw[af3];unfold zt at h;simp at h;omega
theorem Bz (n:Int):IntKind.u64.wrap n=n%18446744073709551616:=by
 simp[IntKind.wrap,IntKind.signed,IntKind.bits]
theorem TR (n:Int):ab (cX n)= .int .u64 (IntKind.u64.wrap n):=by unfold ab;rw[af3,Bz]
noncomputable def al (n:Int):Int:=Classical.choose (⟨wrap64 n,rfl⟩:∃m,m=wrap64 n)
theorem af4 (n:Int):al n=wrap64 n:=Classical.choose_spec (⟨wrap64 n,rfl⟩:∃m,m=wrap64 n)
noncomputable def q5 (k:IntKind)(n:Int):ag :=
 match k with
 | .u64=> .u (cX n)
 | .i64=> .i .i64 (al n)
 | k=> .i k (k.wrap n)
theorem sK (k:IntKind)(n:Int):(q5 k n).val= .int k (k.wrap n):=by
 cases k<;>simp only[q5,ag.val,TR,af4];rw[IntWalk.i64_left]
def vt:Value->ag
 | .int .u64 n=>if zt n=true then .u (cX n) else .v (.int .u64 n)
 | .int k n=> .i k n
 | .bool b=> .b b
 | .pointer none=> .ic none
 | .slice none 0 0=> .s ⟨none,0,0,none⟩
 | .string s=> .str s
 | .map none=> .m none
 | x=> .v x
theorem MI (x:Value):(vt x).val=x:=by
 unfold vt;split<;>try rfl
 split
 .rename_i h;simp only[ag.val,ab,BN h]
 .rfl
def TS:Value->Bool
 | .int .u64 n=>decide (n=0)
 | _=>false
theorem az2 {v:Value}(h:TS v=true):v=ab 0:=by
 unfold TS at h;split at h
 .simp at h;subst h;rfl
 .cases h
mutual
def lh:fp->List Value->Option (ag×List Value)
 | .ws n,cs=>if (cs.take n).all TS&&(cs.take n).length==n then some (.ws n (Vector.replicate n 0),cs.drop n) else none
 | .dz l,cs=>match Ip l cs with|some (r,c)=>some (.dz r,c)|none=>none
 | .jC _,_=>none
 | _,c::cs=>some (vt c,cs)
 | _,[]=>none
def Ip:List fp->List Value->Option (List ag×List Value)
 | [],cs=>some ([],cs)
 | t::l,cs =>
  match lh t cs with
  | some (r,c)=>match Ip l c with|some (rs,cr)=>some (r::rs,cr)|none=>none
  | none=>none
end
theorem az3 (x:Value):(vt x).cells=[x]:=by
 have h:=MI x;unfold vt at h ⊢;split<;>try rfl
 split
 .rename_i ad;simp only[ag.cells,ab,BN ad]
 .rfl
theorem vv (c:Value)(cs:List Value)(r:ag)(hS:List Value)(h:some (vt c,cs)=some (r,hS)):c::cs=r.cells++hS:=by
 obtain⟨rfl,rfl⟩:=aEp (aDX h);simp[az3]
mutual
theorem TT:∀(t:fp) (cs:List Value) (r:ag) (hS:List Value),lh t cs=some (r,hS)->cs=r.cells++hS
 | .ws n,cs,r,hS,h=>by
  simp only[lh] at h;split at h
  .rename_i ad
   simp only[aEi,aE8,aFi] at ad;obtain⟨rfl,rfl⟩:=aEp (aDX h);have e:cs.take n=List.replicate n (ab 0):=List.eq_replicate_iff.2 ⟨ad.2,λv b0=>az2 (ad.1 v b0)⟩
   conv=>lhs;rw[<-aEz n cs,e]
   simp[ag.cells]
  .cases h
 | .dz l,cs,r,hS,h=>by
  simp only[lh] at h;split at h
  .rename_i iD ha ad
   obtain⟨rfl,rfl⟩:=aEp (aDX h);exact af5 l cs iD _ ad
  .cases h
 | .jC _,cs,r,hS,h=>by simp[lh] at h
 | .i _,c::cs,r,hS,h=>vv c cs r hS (by simpa only[lh] using h)
 | .u,c::cs,r,hS,h=>vv c cs r hS (by simpa only[lh] using h)
 | .b,c::cs,r,hS,h=>vv c cs r hS (by simpa only[lh] using h)
 | .p,c::cs,r,hS,h=>vv c cs r hS (by simpa only[lh] using h)
 | .f,c::cs,r,hS,h=>vv c cs r hS (by simpa only[lh] using h)
 | .ic,c::cs,r,hS,h=>vv c cs r hS (by simpa only[lh] using h)
 | .s,c::cs,r,hS,h=>vv c cs r hS (by simpa only[lh] using h)
 | .str,c::cs,r,hS,h=>vv c cs r hS (by simpa only[lh] using h)
 | .m,c::cs,r,hS,h=>vv c cs r hS (by simpa only[lh] using h)
 | .v,c::cs,r,hS,h=>vv c cs r hS (by simpa only[lh] using h)
 | .i _,[],r,hS,h=>by simp[lh] at h
 | .u,[],r,hS,h=>by simp[lh] at h
 | .b,[],r,hS,h=>by simp[lh] at h
 | .p,[],r,hS,h=>by simp[lh] at h
 | .f,[],r,hS,h=>by simp[lh] at h
 | .ic,[],r,hS,h=>by simp[lh] at h
 | .s,[],r,hS,h=>by simp[lh] at h
 | .str,[],r,hS,h=>by simp[lh] at h
 | .m,[],r,hS,h=>by simp[lh] at h
 | .v,[],r,hS,h=>by simp[lh] at h
theorem af5:∀(l:List fp) (cs:List Value) (r:List ag) (hS:List Value),Ip l cs=some (r,hS)->cs=ag.gL r++hS
 | [],cs,r,hS,h=>by
  simp only[Ip] at h;obtain⟨rfl,rfl⟩:=aEp (aDX h);rfl
 | t::l,cs,r,hS,h=>by
  simp only[Ip] at h;split at h
  .rename_i iD ha aa
   split at h
   .rename_i rs aS ad
    obtain⟨rfl,rfl⟩:=aEp (aDX h);rw[TT t cs iD ha aa,af5 l ha rs _ ad];simp[ag.gL]
   .cases h
  .cases h
end
def Ie (t:fp)(x:Value):ag :=
 match x with
 | .agg cs=>match lh t cs.toList with
  | some (.ws n c,[])=> .ws n c
  | some (.dz l,[])=> .dz l
  | _=> .v (.agg cs)
 | x=>vt x
theorem Ty (t:fp)(x:Value):(Ie t x).val=x:=by
 unfold Ie;split
 .rename_i cs
  split
  .rename_i n c h
   have:=TT _ _ _ _ h;simp only[ag.val,aD5,ag.cells] at this ⊢;congr 1;apply aD6.1;rw[this];simp[Vector.toList]
  .rename_i l h
   have:=TT _ _ _ _ h;simp only[ag.val,aD5,ag.cells] at this ⊢;congr 1;apply aD6.1;rw[this]
  .rfl
 .exact MI _
section
variable (P:Program) (n:Nat)
def ie (e:Env)(x:Operand)(K:ag->Prop):Prop :=
 match x with
 | .tmp t=>match (if t<n then e t else none) with|some s=>K s|none=>False
 | .const v=>K (vt v)
 | .global g=>K (.p ⟨g,0⟩)
 | .func f=>K (.f f [])
variable {P n}
theorem kj {e:Env}{x:Operand}{K:ag->Prop}(h:ie n e x K):∃s,K s/\∀a,Good n e a->a.eval x=s.val:=by
 cases x with
 | tmp t =>
  simp only[ie] at h;split at h
  .rename_i s aV
   split at aV
   .rename_i bG
    exact⟨s,h,λa g=>g.has t s bG aV⟩
   .cases aV
  .exact h.elim
 | const v=>exact⟨_,h,λa _=>(MI v).symm⟩
 | global g=>exact⟨_,h,λa _=>rfl⟩
 | func f=>exact⟨_,h,λa _=>rfl⟩
end
def qf (n:Nat)(ty:fp)(e:Env)(x:Operand)(K:ag->Prop):Prop :=
 match x with
 | .const v=>K (Ie ty v)
 | x=>ie n e x K
theorem zd {n:Nat}{ty:fp}{e:Env}{x:Operand}{K:ag->Prop}(h:qf n ty e x K):∃s,K s/\∀a,Good n e a->a.eval x=s.val:=by
 cases x with
 | const v=>exact⟨_,h,λa _=>(Ty ty v).symm⟩
 | tmp t=>exact kj h
 | global g=>exact kj h
 | func f=>exact kj h
def mh (P:Program):Nat->TypeId->fp
 | 0,_=> .v
 | f+1,T =>
  match P.underlying T with
  | some .bool=> .b
  | some (.int .u64)=> .u
  | some (.int k)=> .i k
  | some .string=> .str
  | some (.pointer _)=> .ic
  | some (.slice _)=> .s
  | some (.func _ _ _)=> .v
  | some (.map _ _)=> .m
  | some (.array k e)=>match mh P f e with| .u=> .ws k|t=> .dz (List.replicate k t)
  | some (.struct gq)=> .dz (gq.toList.map λd=>mh P f d.type)
  | some (.tuple jz)=> .jC (jz.toList.map λt=>mh P f t)
  | _=> .v
def uh (x:aE)(c:Nat):aE:=cX ((x.toNat:Int)*2 ^ (min c 64))
def dX (x:aE)(c:Nat):aE:=UInt64.ofNat (x.toNat/2 ^ (min c 64))
def oF (op:BinOp)(k:IntKind)(a b:Int):Int :=
 match op with
 | .and=>((BitVec.ofInt k.bits a &&& BitVec.ofInt k.bits b).toNat:Int)
 | .or=>((BitVec.ofInt k.bits a ||| BitVec.ofInt k.bits b).toNat:Int)
 | .xor=>((BitVec.ofInt k.bits a ^^^ BitVec.ofInt k.bits b).toNat:Int)
 | _=>((BitVec.ofInt k.bits a &&& ~~~ BitVec.ofInt k.bits b).toNat:Int)
def isNil (x:Value)(K:ag->Prop):Prop:=(x= .nilIface/\K (.b true))∨(∃t v,x= .iface t v/\K (.b false))
def TH (op:BinOp)(k:IntKind)(a b:Int)(K:ag->Prop):Prop :=
 match op with
 | .add=>K (q5 k (a+b))
 | .sub=>K (q5 k (a-b))
 | .mul=>K (q5 k (a*b))
 | .quo=>b≠0/\K (q5 k (a.tdiv b))
 | .rem=>b≠0/\K (.i k (a.tmod b))
 | .and=>K (q5 k (oF .and k a b))
 | .or=>K (q5 k (oF .or k a b))
 | .xor=>K (q5 k (oF .xor k a b))
 | .andNot=>K (q5 k (oF .andNot k a b))
 | .eql=>K (.b (decide (a=b)))
 | .neq=>K (.b (!decide (a=b)))
 | .lss=>K (.b (decide (a<b)))
 | .leq=>K (.b (decide (a<=b)))
 | .gtr=>K (.b (decide (b<a)))
 | .geq=>K (.b (decide (b<=a)))
 | _=>False
def TI (op:BinOp)(x y:aE)(K:ag->Prop):Prop :=
 match op with
 | .add=>K (.u (x+y))
 | .sub=>K (.u (x-y))
 | .mul=>K (.u (x*y))
 | .quo=>y≠0/\K (.u (x/y))
 | .rem=>y≠0/\K (.u (x%y))
 | .and=>K (.u (x &&& y))
 | .or=>K (.u (x ||| y))
 | .xor=>K (.u (x ^^^ y))
 | .andNot=>K (.u (x &&& ~~~ y))
 | .eql=>K (.b (decide (x=y)))
 | .neq=>K (.b (!decide (x=y)))
 | .lss=>K (.b (decide (x<y)))
 | .leq=>K (.b (decide (x<=y)))
 | .gtr=>K (.b (decide (y<x)))
 | .geq=>K (.b (decide (y<=x)))
 | .shl=>K (.u (uh x y.toNat))
 | .shr=>K (.u (dX x y.toNat))
def zl:BinOp->Bool
 | .shl| .shr=>true
 | _=>false
def Io (op:BinOp)(k:IntKind)(a:Int)(c:Nat)(K:ag->Prop):Prop :=
 match op with
 | .shl=>K (q5 k (a*2 ^ (min c k.bits)))
 | .shr=>K (.i k (a.fdiv (2 ^ (min c k.bits))))
 | _=>False
def TJ (op:BinOp)(x:aE)(c:Nat)(K:ag->Prop):Prop :=
 match op with
 | .shl=>K (.u (uh x c))
 | .shr=>K (.u (dX x c))
 | _=>False
def Bx (P:Program)(T:TypeId)(x y:ag)(K:Bool->Prop):Prop :=
 match P.underlying T,x,y with
 | some .bool,.b a,.b b=>K (a==b)
 | some .string,.str a,.str b=>K (a.toList==b.toList)
 | some (.pointer _),.ic a,.ic none=>K a.isNone
 | some (.pointer _),.p _,.ic none=>K false
 | some (.slice _),.s a,.s ⟨none,_,_,_⟩=>K a.p.isNone
 | some (.interface _),.v a,.v .nilIface=>(a= .nilIface/\K true)∨(∃t v,a= .iface t v/\K false)
 | _,_,_=>False
def Ez (P:Program)(op:BinOp)(T:TypeId)(x y:ag)(K:ag->Prop):Prop :=
 match x,y with
 | .i k a,.i h_ b=>if zl op=true then 0<=b/\Io op k a b.toNat K else if k=h_ then TH op k a b K else False
 | .u a,.u b=>TI op a b K
 | .i k a,.u b=>Io op k a b.toNat K
 | .u a,.i _ b=>0<=b/\TJ op a b.toNat K
 | .str a,.str b =>
  match op with
  | .add=>((a.size+b.size:Nat):Int)<=9223372036854775807/\K (.str (a++b))
  | .eql=>K (.b (a.toList==b.toList))
  | .neq=>K (.b (!(a.toList==b.toList)))
  | _=>False
 | x,y =>
  match op with
  | .eql=>Bx P T x y λr=>K (.b r)
  | .neq=>Bx P T x y λr=>K (.b (!r))
  | _=>False
def Ik (op:UnOp)(x:ag)(K:ag->Prop):Prop :=
 match op,x with
 | .neg,.i k a=>K (q5 k (0-a))
 | .neg,.u a=>K (.u (0-a))
 | .xor,.u a=>K (.u (~~~ a))
 | .not,.b a=>K (.b (!a))
 | _,_=>False
def Il (P:Program)(src dst:TypeId)(x:ag)(K:ag->Prop):Prop :=
 match P.underlying src,P.underlying dst,x with
 | some _,some (.int .u64),.u a=>K (.u a)
 | some _,some (.int k),.i _ a=>K (q5 k a)
 | some _,some (.int k),.u a=>K (q5 k (a.toNat:Int))
 | some (.string),some .string,.str a=>K (.str a)
 | _,_,_=>False
theorem az4 (x y:aE):ab (x+y)= .int .u64 (IntKind.u64.wrap (x.toNat+y.toNat)):=by
 unfold ab;rw[Bz,aEt];congr 1
theorem az5 (x y:aE):ab (x*y)= .int .u64 (IntKind.u64.wrap (x.toNat*y.toNat)):=by
 unfold ab;rw[Bz,UInt64.toNat_mul];congr 1
theorem af6 (x y:aE):ab (x-y)= .int .u64 (IntKind.u64.wrap (x.toNat-y.toNat)):=by
 unfold ab;rw[Bz,aE5];have aa:=x.toNat_lt;have ad:=y.toNat_lt;congr 1;omega
theorem Iq (x:aE):BitVec.ofInt (IntKind.bits .u64) (x.toNat:Int)=x.toBitVec:=by
 apply BitVec.eq_of_toNat_eq;have:=x.toNat_lt;simp[IntKind.bits]
theorem Ir (z:aE)(r:BitVec (IntKind.bits .u64))(h:z.toBitVec=r) :
 ab z= .int .u64 (IntKind.u64.wrap (r.toNat:Int)):=by
 subst h;unfold ab;rw[Bz];have:=z.toNat_lt;congr 1;show(z.toNat:Int)=(z.toNat:Int)%_;omega
theorem az6 (x y:aE):((x%y).toNat:Int)=(x.toNat:Int).tmod y.toNat:=by
 rw[aFo];rfl
theorem az7 (x y:aE):ab (x/y)= .int .u64 (IntKind.u64.wrap ((x.toNat:Int).tdiv y.toNat)):=by
 unfold ab;rw[Bz,UInt64.toNat_div];have aa:=x.toNat_lt;have ad:x.toNat/y.toNat<=x.toNat:=aEY _ _;rw[<-Int.ofNat_tdiv];congr 1;generalize x.toNat/y.toNat=d at *;omega
theorem af7 (x:aE)(c:Nat):(((dX x c).toNat:Nat):Int)=(x.toNat:Int).fdiv (2 ^ (min c 64)):=by
 unfold dX;have h0:=x.toNat_lt;have aa:x.toNat/2 ^ min c 64<=x.toNat:=aEY _ _;have e:(2:Int) ^ (min c 64)=((2 ^ (min c 64):Nat):Int):=by simp
 rw[e,Int.fdiv_eq_ediv_of_nonneg _ (Int.natCast_nonneg _),<-Int.natCast_ediv,aDw];generalize x.toNat/2 ^ min c 64=d at *;congr 1;omega
def Comes (P:Program)(s:Sem Value)(K:ag->Prop):Prop:=∃r,K r/\∀w,s.run P w= .ok r.val w
theorem Ey (a b:Int):(a==b)=decide (a=b):=by
 by_cases h:a=b<;>simp[h]
theorem az8 {P:Program}{op:BinOp}{k:IntKind}{a b:Int}{K:ag->Prop}(aV:zl op=false)(h:TH op k a b K) :
 Comes P (binOp op 0 (.int k a) (.int k b)) K/\∀T,binOp op T (.int k a) (.int k b)=binOp op 0 (.int k a) (.int k b):=by
 have gf:∀T,binOp op T (.int k a) (.int k b)=binOp op 0 (.int k a) (.int k b):=by
  intro T;cases op<;>first|rfl|simp[zl] at aV
 refine⟨?_,gf⟩;cases op
 case add=>refine⟨_,h,λw=>?_⟩;rw[sK];simp[binOp,Op.intArith]
 case sub=>refine⟨_,h,λw=>?_⟩;rw[sK];simp[binOp,Op.intArith]
 case mul=>refine⟨_,h,λw=>?_⟩;rw[sK];simp[binOp,Op.intArith]
 case quo=>refine⟨_,h.2,λw=>?_⟩;rw[sK];simp[binOp,Op.intDiv,h.1]
 case rem=>refine⟨_,h.2,λw=>?_⟩;simp[binOp,Op.intDiv,h.1,ag.val]
 case and=>refine⟨_,h,λw=>?_⟩;rw[sK];simp[binOp];rfl
 case or=>refine⟨_,h,λw=>?_⟩;rw[sK];simp[binOp];rfl
 case xor=>refine⟨_,h,λw=>?_⟩;rw[sK];simp[binOp];rfl
 case andNot=>refine⟨_,h,λw=>?_⟩;rw[sK];simp[binOp];rfl
 case shl=>simp[zl] at aV
 case shr=>simp[zl] at aV
 all_goals first
  | exact h.elim
  | (refine⟨_,h,λw=>?_⟩;simp[binOp,Op.intCmp,ag.val,Ey,bne];done)
theorem az9 {P:Program}{op:BinOp}{a b:aE}{K:ag->Prop}(h:TI op a b K):∀T,Comes P (binOp op T (ab a) (ab b)) K:=by
 intro T;cases op
 case add=>refine⟨_,h,λw=>?_⟩;rw[ag.val,az4];rfl
 case sub=>refine⟨_,h,λw=>?_⟩;rw[ag.val,af6];rfl
 case mul=>refine⟨_,h,λw=>?_⟩;rw[ag.val,az5];rfl
 case quo =>
  refine⟨_,h.2,λw=>?_⟩;have ar:(b.toNat:Int)≠0:=by intro e;exact h.1 (aDE.1 (by simpa using e))
  rw[ag.val,az7];simp only[ab,binOp,Op.intDiv,ar,aEc,ne_eq,not_true];rfl
 case rem =>
  refine⟨_,h.2,λw=>?_⟩;have ar:(b.toNat:Int)≠0:=by intro e;exact h.1 (aDE.1 (by simpa using e))
  rw[ag.val];simp only[ab,az6,binOp,Op.intDiv,ar,aEc,ne_eq,not_true];rfl
 case and=>refine⟨_,h,λw=>?_⟩;rw[ag.val,Ir (a &&& b) _ rfl];simp only[ab,binOp,ne_eq,not_true,aEc,Op.intBits,Iq];rfl
 case or=>refine⟨_,h,λw=>?_⟩;rw[ag.val,Ir (a ||| b) _ rfl];simp only[ab,binOp,ne_eq,not_true,aEc,Op.intBits,Iq];rfl
 case xor=>refine⟨_,h,λw=>?_⟩;rw[ag.val,Ir (a ^^^ b) _ rfl];simp only[ab,binOp,ne_eq,not_true,aEc,Op.intBits,Iq];rfl
 case andNot=>refine⟨_,h,λw=>?_⟩;rw[ag.val,Ir (a &&& ~~~ b) _ rfl];simp only[ab,binOp,ne_eq,not_true,aEc,Op.intBits,Iq];rfl
 case shl =>
  refine⟨_,h,λw=>?_⟩;have ar:¬((b.toNat:Int)<0):=by omega
  simp only[ag.val,uh,TR];simp[ab,binOp,Op.shift,IntKind.bits,ar]
 case shr =>
  refine⟨_,h,λw=>?_⟩;have ar:¬((b.toNat:Int)<0):=by omega
  simp only[ag.val];simp[ab,binOp,Op.shift,IntKind.bits,ar,af7]
 case eql =>
  refine⟨_,h,λw=>?_⟩;simp[ab,binOp,Op.intCmp,ag.val,Ey,<-aDE,aFN]
 case neq =>
  refine⟨_,h,λw=>?_⟩;simp[ab,binOp,Op.intCmp,ag.val,Ey,bne,<-aDE,aFN]
 case lss =>
  refine⟨_,h,λw=>?_⟩;simp[ab,binOp,Op.intCmp,ag.val,aEn]
 case leq =>
  refine⟨_,h,λw=>?_⟩;simp[ab,binOp,Op.intCmp,ag.val,aEN]
 case gtr =>
  refine⟨_,h,λw=>?_⟩;simp[ab,binOp,Op.intCmp,ag.val,aEn]
 case geq =>
  refine⟨_,h,λw=>?_⟩;simp[ab,binOp,Op.intCmp,ag.val,aEN]
theorem af8 {P:Program}{op:BinOp}{k yk:IntKind}{a:Int}{c:Int}{K:ag->Prop}(a1:0<=c)(h:Io op k a c.toNat K)(ah:zl op=true) :
 ∀T,Comes P (binOp op T (.int k a) (.int yk c)) K:=by
 intro T;have aK:¬c<0:=by omega
 cases op
 case shl=>refine⟨_,h,λw=>?_⟩;rw[sK];simp[binOp,Op.shift,aK]
 case shr=>refine⟨_,h,λw=>?_⟩;simp[binOp,Op.shift,aK,ag.val]
 all_goals simp[zl] at ah
theorem az_ {P:Program}{op:BinOp}{yk:IntKind}{a:aE}{c:Int}{K:ag->Prop}(a1:0<=c)(h:TJ op a c.toNat K) :
 ∀T,Comes P (binOp op T (ab a) (.int yk c)) K:=by
 intro T;have aK:¬c<0:=by omega
 cases op
 case shl =>
  refine⟨_,h,λw=>?_⟩;simp only[ag.val,uh,TR];simp[ab,binOp,Op.shift,aK,IntKind.bits]
 case shr =>
  refine⟨_,h,λw=>?_⟩;simp only[ag.val];simp[ab,binOp,Op.shift,aK,IntKind.bits,af7]
 all_goals exact h.elim
theorem aAa {op:BinOp}{k:IntKind}{a:Int}{c:Nat}{K:ag->Prop}(h:Io op k a c K):zl op=true:=by
 cases op<;>first|rfl|exact h.elim
def MK:Value->Value->Bool
 | .int _ _,.int _ _| .string _,.string _| .bool _,.bool _| .pointer _,.pointer _| .slice _ _ _,.slice _ _ _| .iface _ _,.nilIface=>true
 | _,_=>false
theorem afS {P:Program}{op:BinOp}{T:TypeId}{x y:Operand}{a b:Value}(w:World)(h:MK a b=true) :
 (eqGuard op T x y a b).run P w= .ok () w:=by
 unfold MK at h;split at h<;>first|(cases op<;>rfl)|cases h
theorem azo {P:Program}{op:BinOp}{T:TypeId}{x:Operand}{v:Value}(w:World) :
 (eqGuard op T x (.const v) .nilIface .nilIface).run P w= .ok () w:=by
 cases op<;>(cases x<;>rfl)
section
variable {P:Program} {T:TypeId} (w:World) (d:Nat)
theorem aAb (h:P.underlying T=some .bool)(a b:Bool):(Op.equalIn (d+1) T (.bool a) (.bool b)).run P w= .ok (a==b) w:=by
 simp[Op.equalIn,aDB h]
theorem af9 {e:TypeId}(h:P.underlying T=some (.pointer e))(a:Option Addr):(Op.equalIn (d+1) T (.pointer a) (.pointer none)).run P w= .ok a.isNone w:=by
 cases a<;>simp[Op.equalIn,aDB h]
theorem aAc {e:TypeId}(h:P.underlying T=some (.slice e))(a:Option Addr)(n c jh cr:Nat) :
 (Op.equalIn (d+1) T (.slice a n c) (.slice none jh cr)).run P w= .ok a.isNone w:=by
 cases a<;>simp[Op.equalIn,aDB h]
theorem aAd {ms:Array (String×TypeId)}(h:P.underlying T=some (.interface ms)):(Op.equalIn (d+1) T .nilIface .nilIface).run P w= .ok true w:=by
 simp[Op.equalIn,aDB h]
theorem aAe {ms:Array (String×TypeId)}(h:P.underlying T=some (.interface ms))(t:TypeId)(v:Value) :
 (Op.equalIn (d+1) T (.iface t v) .nilIface).run P w= .ok false w:=by
 simp[Op.equalIn,aDB h]
end
theorem EC {P:Program}{T:TypeId}{a b:Value}{r:Bool}{w:World}(h:(Op.equal T a b).run P w= .ok r w)
 (aa:binOp .eql T a b=do pure (.bool (<-Op.equal T a b))) (ad:binOp .neq T a b=do pure (.bool (!(<-Op.equal T a b)))) :
 (binOp .eql T a b).run P w= .ok (.bool r) w/\(binOp .neq T a b).run P w= .ok (.bool (!r)) w:=by
 rw[aa,ad];simp[h]
theorem af_ {P:Program}{T:TypeId}{x y:ag}{K:Bool->Prop}(h:Bx P T x y K) :
 ∃r,K r/\(∀w,(binOp .eql T x.val y.val).run P w= .ok (.bool r) w/\(binOp .neq T x.val y.val).run P w= .ok (.bool (!r)) w) /\
  (MK x.val y.val=true∨(x.val= .nilIface/\y.val= .nilIface)):=by
 unfold Bx at h;split at h
 .rename_i a b bG
  exact⟨_,h,λw=>EC (aAb w 9999 bG _ _) rfl rfl,.inl rfl⟩
 .rename_i a b bG
  exact⟨_,h,λw=>by simp[ag.val,binOp,Op.stringOp],.inl rfl⟩
 .rename_i e a bG
  refine⟨_,h,λw=>EC ?_ rfl rfl,.inl rfl⟩;have:=af9 w 9999 bG (a.map aF.addr);rw[Option.isNone_map] at this;exact this
 .rename_i e q bG
  refine⟨_,h,λw=>EC ?_ rfl rfl,.inl rfl⟩;exact af9 w 9999 bG (some q.addr)
 .rename_i e a n c z bG
  refine⟨_,h,λw=>EC ?_ rfl rfl,.inl rfl⟩;have:=aAc w 9999 bG a.addr a.len a.cap n c;rw[ao.addr,Option.isNone_map] at this;exact this
 .rename_i ms a bG
  rcases h with ⟨rfl,h⟩|⟨t,v,rfl,h⟩
  .exact⟨_,h,λw=>EC (aAd w 9999 bG) rfl rfl,.inr ⟨rfl,rfl⟩⟩
  .exact⟨_,h,λw=>EC (aAe w 9999 bG t v) rfl rfl,.inl rfl⟩
 .exact h.elim
theorem afR {P:Program}{op:BinOp}{T:TypeId}{x y:ag}{K:ag->Prop}(h:Ez P op T x y K) :
 Comes P (binOp op T x.val y.val) K/\(MK x.val y.val=true∨(x.val= .nilIface/\y.val= .nilIface)):=by
 unfold Ez at h;split at h
 .rename_i k a h_ b
  refine⟨?_,.inl rfl⟩;split at h
  .rename_i aV
   exact af8 h.1 h.2 aV T
  .rename_i aV
   split at h
   .rename_i ah
    subst ah;have:=az8 (P:=P) (by simpa using aV) h;simp only[ag.val];rw[this.2 T];exact this.1
   .exact h.elim
 .exact⟨az9 h T,.inl rfl⟩
 .rename_i k a b
  refine⟨?_,.inl rfl⟩;have:=af8 (P:=P) (yk:= .u64) (c:=(b.toNat:Int)) (by omega) (by simpa using h) (aAa h) T;exact this
 .exact⟨az_ h.1 h.2 T,.inl rfl⟩
 .rename_i a b
  refine⟨?_,.inl rfl⟩;cases op
  case add =>
   refine⟨_,h.2,λw=>?_⟩;have aa:=h.1;simp only[ag.val,binOp,Op.stringOp];rw[aDq]
   .simp
   .simp[IntKind.max,IntKind.signed,IntKind.bits];omega
  case eql=>exact⟨_,h,λw=>by simp[ag.val,binOp,Op.stringOp]⟩
  case neq=>exact⟨_,h,λw=>by simp[ag.val,binOp,Op.stringOp]⟩
  all_goals exact h.elim
 .cases op
  case eql =>
   obtain⟨r,aQ,hw,he⟩:=af_ h;exact⟨⟨_,aQ,λw=>(hw w).1⟩,he⟩
  case neq =>
   obtain⟨r,aQ,hw,he⟩:=af_ h;exact⟨⟨_,aQ,λw=>(hw w).2⟩,he⟩
  all_goals exact h.elim
theorem azq {P:Program}{op:UnOp}{x:ag}{K:ag->Prop}(h:Ik op x K):Comes P (Op.unary op x.val) K:=by
 unfold Ik at h;split at h
 .exact⟨_,h,λw=>by rw[sK];simp[ag.val,Op.unary,Op.intArith]⟩
 .rename_i a
  refine⟨_,h,λw=>?_⟩;simp only[ag.val,af6];simp[ab,Op.unary,Op.intArith]
 .rename_i a
  refine⟨_,h,λw=>?_⟩;have dM:BitVec.ofInt 64 18446744073709551615=BitVec.allOnes 64:=by decide
  have e:(~~~ a).toBitVec=(BitVec.ofInt (IntKind.bits .u64) (IntKind.max .u64) ^^^ BitVec.ofInt (IntKind.bits .u64) (a.toNat:Int)):=by
   rw[Iq];show ~~~ a.toBitVec=BitVec.ofInt 64 18446744073709551615 ^^^ a.toBitVec;rw[dM,BitVec.not_def]
  simp only[ag.val];rw[Ir (~~~ a) _ e];rfl
 .exact⟨_,h,λw=>by simp[ag.val,Op.unary]⟩
 .exact h.elim
theorem azr {P:Program}{src dst:TypeId}{x:ag}{K:ag->Prop}(h:Il P src dst x K):Comes P (convert src dst x.val) K:=by
 unfold Il at h;split at h
 .rename_i d0 a aa ad
  refine⟨_,h,λw=>?_⟩;have aa:P.underlying src=some d0:=by assumption
  simp only[convert,aDv,aDB aa,aDB ad,aDu,ag.val,ab,Conv.intToInt];have:=a.toNat_lt;simp[Bz];omega
 .rename_i a aa ad
  refine⟨_,h,λw=>?_⟩;rw[sK];simp only[convert,aDv,aDB aa,aDB ad,aDu,ag.val,Conv.intToInt];simp
 .rename_i aa ad
  refine⟨_,h,λw=>?_⟩;rw[sK];simp only[convert,aDv,aDB aa,aDB ad,aDu,ag.val,ab,Conv.intToInt];simp
 .rename_i a aa ad
  refine⟨_,h,λw=>?_⟩;simp only[convert,aDv,aDB aa,aDB ad,aDu,ag.val];simp
 .exact h.elim

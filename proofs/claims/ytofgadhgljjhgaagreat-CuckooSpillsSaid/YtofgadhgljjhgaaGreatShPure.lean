/- Operations that neither read nor change memory, each read as a statement over typed values; sound for the model. -/
import Derived.Test.YtofgadhgljjhgaaGreatSh
import Derived.Laws.Entries
namespace Go.Sh
open Go Go.RowKit
/-! ## Slots -/
abbrev Env:=Nat→Option SV
def put (e:Env) (t:Nat) (s:SV):Env:=fun x=>if x=t then some s else e x
def putO (e:Env) (t:Option Nat) (s:SV):Env:=match t with|some t=>put e t s|none=>e
def emp:Env:=fun _=>none
structure Good (n:Nat) (e:Env) (a:Act):Prop where
 size:a.tmps.size=n
 has:∀t s,t<n→e t=some s→a.tmps.getD t undef=s.val
theorem put_comm (e:Env) {t u:Nat} (h:t≠u) (x y:SV):put (put e t x) u y=put (put e u y) t x:=by
 funext z;unfold put;by_cases h1:z=t<;>by_cases h2:z=u<;>simp_all
theorem Good.put {n:Nat} {e:Env} {a:Act} (g:Good n e a) (d:Option Nat) (s:SV):Good n (putO e d s) (a.put d s.val):=by
 cases d with
 | none=>exact g
 | some d =>
   refine⟨by simp[Act.put,g.size],?_⟩
   intro t x ht hx
   simp only[putO,Go.Sh.put] at hx
   simp only[Act.put]
   by_cases h:t=d
   · subst h
     simp at hx
     subst hx
     simp[Array.getD,g.size,ht]
   · rw[if_neg h] at hx
     have:=g.has t x ht hx
     simp[Array.getD,g.size,ht] at this ⊢
     rw[Array.getElem_setIfInBounds]
     rw[if_neg (by omega)]
     exact this
def uok (n:Int):Bool:=decide (0≤n∧n<18446744073709551616)
def toU (n:Int):UInt64:=UInt64.ofNat (n%18446744073709551616).toNat
theorem toU_toNat (n:Int):((toU n).toNat:Int)=n%18446744073709551616:=by
 unfold toU
 have h1:0≤n%18446744073709551616:=Int.emod_nonneg _ (by decide)
 have h2:n%18446744073709551616<18446744073709551616:=Int.emod_lt_of_pos _ (by decide)
 rw[UInt64.toNat_ofNat']
 omega
theorem toU_ok {n:Int} (h:uok n=true):((toU n).toNat:Int)=n:=by
 rw[toU_toNat];unfold uok at h;simp at h;omega
theorem wrap_u64 (n:Int):IntKind.u64.wrap n=n%18446744073709551616:=by
 simp[IntKind.wrap,IntKind.signed,IntKind.bits]
theorem vu_toU (n:Int):vu (toU n)= .int .u64 (IntKind.u64.wrap n):=by unfold vu;rw[toU_toNat,wrap_u64]
noncomputable def w64 (n:Int):Int:=Classical.choose (⟨wrap64 n,rfl⟩:∃m,m=wrap64 n)
theorem w64_eq (n:Int):w64 n=wrap64 n:=Classical.choose_spec (⟨wrap64 n,rfl⟩:∃m,m=wrap64 n)
noncomputable def mkI (k:IntKind) (n:Int):SV :=
 match k with
 | .u64=> .u (toU n)
 | .i64=> .i .i64 (w64 n)
 | k=> .i k (k.wrap n)
theorem mkI_val (k:IntKind) (n:Int):(mkI k n).val= .int k (k.wrap n):=by
 cases k<;>simp only[mkI,SV.val,vu_toU,w64_eq]
 rw[IntWalk.i64_left]
def ofV:Value→SV
 | .int .u64 n=>if uok n=true then .u (toU n) else .v (.int .u64 n)
 | .int k n=> .i k n
 | .bool b=> .b b
 | .pointer none=> .pn none
 | .slice none 0 0=> .s ⟨none,0,0,none⟩
 | .string s=> .str s
 | .map none=> .m none
 | x=> .v x
theorem ofV_val (x:Value):(ofV x).val=x:=by
 unfold ofV
 split<;>try rfl
 split
 · rename_i h;simp only[SV.val,vu,toU_ok h]
 · rfl
def isZ:Value→Bool
 | .int .u64 n=>decide (n=0)
 | _=>false
theorem isZ_eq {v:Value} (h:isZ v=true):v=vu 0:=by
 unfold isZ at h
 split at h
 · simp at h;subst h;rfl
 · cases h
mutual
def ofC:Ty→List Value→Option (SV×List Value)
 | .ws n,cs=>if (cs.take n).all isZ&&(cs.take n).length==n then some (.ws n (Vector.replicate n 0),cs.drop n) else none
 | .ag l,cs=>match ofCs l cs with|some (r,c)=>some (.ag r,c)|none=>none
 | .tup _,_=>none
 | _,c::cs=>some (ofV c,cs)
 | _,[]=>none
def ofCs:List Ty→List Value→Option (List SV×List Value)
 | [],cs=>some ([],cs)
 | t::l,cs =>
   match ofC t cs with
   | some (r,c)=>match ofCs l c with|some (rs,c')=>some (r::rs,c')|none=>none
   | none=>none
end
theorem ofV_cells (x:Value):(ofV x).cells=[x]:=by
 have h:=ofV_val x
 unfold ofV at h ⊢
 split<;>try rfl
 split
 · rename_i h2;simp only[SV.cells,vu,toU_ok h2]
 · rfl
theorem ofC_v (c:Value) (cs:List Value) (r:SV) (cs':List Value) (h:some (ofV c,cs)=some (r,cs')):c::cs=r.cells++cs':=by
 obtain⟨rfl,rfl⟩:=Prod.mk.inj (Option.some.inj h);simp[ofV_cells]
mutual
theorem ofC_cells:∀(t:Ty) (cs:List Value) (r:SV) (cs':List Value),ofC t cs=some (r,cs')→cs=r.cells++cs'
 | .ws n,cs,r,cs',h=>by
     simp only[ofC] at h
     split at h
     · rename_i h2
       simp only[Bool.and_eq_true,List.all_eq_true,beq_iff_eq] at h2
       obtain⟨rfl,rfl⟩:=Prod.mk.inj (Option.some.inj h)
       have e:cs.take n=List.replicate n (vu 0):=List.eq_replicate_iff.2 ⟨h2.2,fun v hv=>isZ_eq (h2.1 v hv)⟩
       conv=>lhs;rw[←List.take_append_drop n cs,e]
       simp[SV.cells]
     · cases h
 | .ag l,cs,r,cs',h=>by
     simp only[ofC] at h
     split at h
     · rename_i r0 c0 h2
       obtain⟨rfl,rfl⟩:=Prod.mk.inj (Option.some.inj h)
       exact ofCs_cells l cs r0 _ h2
     · cases h
 | .tup _,cs,r,cs',h=>by simp[ofC] at h
 | .i _,c::cs,r,cs',h=>ofC_v c cs r cs' (by simpa only[ofC] using h)
 | .u,c::cs,r,cs',h=>ofC_v c cs r cs' (by simpa only[ofC] using h)
 | .b,c::cs,r,cs',h=>ofC_v c cs r cs' (by simpa only[ofC] using h)
 | .p,c::cs,r,cs',h=>ofC_v c cs r cs' (by simpa only[ofC] using h)
 | .f,c::cs,r,cs',h=>ofC_v c cs r cs' (by simpa only[ofC] using h)
 | .pn,c::cs,r,cs',h=>ofC_v c cs r cs' (by simpa only[ofC] using h)
 | .s,c::cs,r,cs',h=>ofC_v c cs r cs' (by simpa only[ofC] using h)
 | .str,c::cs,r,cs',h=>ofC_v c cs r cs' (by simpa only[ofC] using h)
 | .m,c::cs,r,cs',h=>ofC_v c cs r cs' (by simpa only[ofC] using h)
 | .v,c::cs,r,cs',h=>ofC_v c cs r cs' (by simpa only[ofC] using h)
 | .i _,[],r,cs',h=>by simp[ofC] at h
 | .u,[],r,cs',h=>by simp[ofC] at h
 | .b,[],r,cs',h=>by simp[ofC] at h
 | .p,[],r,cs',h=>by simp[ofC] at h
 | .f,[],r,cs',h=>by simp[ofC] at h
 | .pn,[],r,cs',h=>by simp[ofC] at h
 | .s,[],r,cs',h=>by simp[ofC] at h
 | .str,[],r,cs',h=>by simp[ofC] at h
 | .m,[],r,cs',h=>by simp[ofC] at h
 | .v,[],r,cs',h=>by simp[ofC] at h
theorem ofCs_cells:∀(l:List Ty) (cs:List Value) (r:List SV) (cs':List Value),ofCs l cs=some (r,cs')→cs=SV.cellsL r++cs'
 | [],cs,r,cs',h=>by
     simp only[ofCs] at h
     obtain⟨rfl,rfl⟩:=Prod.mk.inj (Option.some.inj h);rfl
 | t::l,cs,r,cs',h=>by
    simp only[ofCs] at h
    split at h
    · rename_i r0 c0 h1
      split at h
      · rename_i rs c1 h2
        obtain⟨rfl,rfl⟩:=Prod.mk.inj (Option.some.inj h)
        rw[ofC_cells t cs r0 c0 h1,ofCs_cells l c0 rs _ h2]
        simp[SV.cellsL]
      · cases h
    · cases h
end
def ofVT (t:Ty) (x:Value):SV :=
 match x with
 | .agg cs=>match ofC t cs.toList with
   | some (.ws n c,[])=> .ws n c
   | some (.ag l,[])=> .ag l
   | _=> .v (.agg cs)
 | x=>ofV x
theorem ofVT_val (t:Ty) (x:Value):(ofVT t x).val=x:=by
 unfold ofVT
 split
 · rename_i cs
   split
   · rename_i n c h
     have:=ofC_cells _ _ _ _ h
     simp only[SV.val,List.append_nil,SV.cells] at this ⊢
     congr 1
     apply Array.toList_inj.1
     rw[this];simp[Vector.toList]
   · rename_i l h
     have:=ofC_cells _ _ _ _ h
     simp only[SV.val,List.append_nil,SV.cells] at this ⊢
     congr 1
     apply Array.toList_inj.1
     rw[this]
   · rfl
 · exact ofV_val _
section
variable (P:Program) (n:Nat)
def evK (e:Env) (x:Operand) (K:SV→Prop):Prop :=
 match x with
 | .tmp t=>match (if t<n then e t else none) with|some s=>K s|none=>False
 | .const v=>K (ofV v)
 | .global g=>K (.p ⟨g,0⟩)
 | .func f=>K (.f f [])
variable {P n}
theorem evK_elim {e:Env} {x:Operand} {K:SV→Prop} (h:evK n e x K):∃s,K s∧∀a,Good n e a→a.eval x=s.val:=by
 cases x with
 | tmp t =>
   simp only[evK] at h
   split at h
   · rename_i s hs
     split at hs
     · rename_i ht
       exact⟨s,h,fun a g=>g.has t s ht hs⟩
     · cases hs
   · exact h.elim
 | const v=>exact⟨_,h,fun a _=>(ofV_val v).symm⟩
 | global g=>exact⟨_,h,fun a _=>rfl⟩
 | func f=>exact⟨_,h,fun a _=>rfl⟩
end
def evT (n:Nat) (ty:Ty) (e:Env) (x:Operand) (K:SV→Prop):Prop :=
 match x with
 | .const v=>K (ofVT ty v)
 | x=>evK n e x K
theorem evT_elim {n:Nat} {ty:Ty} {e:Env} {x:Operand} {K:SV→Prop} (h:evT n ty e x K):∃s,K s∧∀a,Good n e a→a.eval x=s.val:=by
 cases x with
 | const v=>exact⟨_,h,fun a _=>(ofVT_val ty v).symm⟩
 | tmp t=>exact evK_elim h
 | global g=>exact evK_elim h
 | func f=>exact evK_elim h
/-! ## Types -/
def tyOf (P:Program):Nat→TypeId→Ty
 | 0,_=> .v
 | f+1,T =>
   match P.underlying T with
   | some .bool=> .b
   | some (.int .u64)=> .u
   | some (.int k)=> .i k
   | some .string=> .str
   | some (.pointer _)=> .pn
   | some (.slice _)=> .s
   | some (.func _ _ _)=> .v
   | some (.map _ _)=> .m
   | some (.array k e)=>match tyOf P f e with| .u=> .ws k|t=> .ag (List.replicate k t)
   | some (.struct fs)=> .ag (fs.toList.map fun d=>tyOf P f d.type)
   | some (.tuple ts)=> .tup (ts.toList.map fun t=>tyOf P f t)
   | _=> .v
/-! ## Arithmetic -/
def ushl (x:UInt64) (c:Nat):UInt64:=toU ((x.toNat:Int)*2 ^ (min c 64))
def ushr (x:UInt64) (c:Nat):UInt64:=UInt64.ofNat (x.toNat/2 ^ (min c 64))
def ibit (op:BinOp) (k:IntKind) (a b:Int):Int :=
 match op with
 | .and=>((BitVec.ofInt k.bits a &&& BitVec.ofInt k.bits b).toNat:Int)
 | .or=>((BitVec.ofInt k.bits a ||| BitVec.ofInt k.bits b).toNat:Int)
 | .xor=>((BitVec.ofInt k.bits a ^^^ BitVec.ofInt k.bits b).toNat:Int)
 | _=>((BitVec.ofInt k.bits a &&& ~~~ BitVec.ofInt k.bits b).toNat:Int)
def isNil (x:Value) (K:SV→Prop):Prop:=(x= .nilIface∧K (.b true))∨(∃t v,x= .iface t v∧K (.b false))
def arI (op:BinOp) (k:IntKind) (a b:Int) (K:SV→Prop):Prop :=
 match op with
 | .add=>K (mkI k (a+b))
 | .sub=>K (mkI k (a-b))
 | .mul=>K (mkI k (a*b))
 | .quo=>b≠0∧K (mkI k (a.tdiv b))
 | .rem=>b≠0∧K (.i k (a.tmod b))
 | .and=>K (mkI k (ibit .and k a b))
 | .or=>K (mkI k (ibit .or k a b))
 | .xor=>K (mkI k (ibit .xor k a b))
 | .andNot=>K (mkI k (ibit .andNot k a b))
 | .eql=>K (.b (decide (a=b)))
 | .neq=>K (.b (!decide (a=b)))
 | .lss=>K (.b (decide (a<b)))
 | .leq=>K (.b (decide (a≤b)))
 | .gtr=>K (.b (decide (b<a)))
 | .geq=>K (.b (decide (b≤a)))
 | _=>False
def arU (op:BinOp) (x y:UInt64) (K:SV→Prop):Prop :=
 match op with
 | .add=>K (.u (x+y))
 | .sub=>K (.u (x-y))
 | .mul=>K (.u (x*y))
 | .quo=>y≠0∧K (.u (x/y))
 | .rem=>y≠0∧K (.u (x%y))
 | .and=>K (.u (x &&& y))
 | .or=>K (.u (x ||| y))
 | .xor=>K (.u (x ^^^ y))
 | .andNot=>K (.u (x &&& ~~~ y))
 | .eql=>K (.b (decide (x=y)))
 | .neq=>K (.b (!decide (x=y)))
 | .lss=>K (.b (decide (x<y)))
 | .leq=>K (.b (decide (x≤y)))
 | .gtr=>K (.b (decide (y<x)))
 | .geq=>K (.b (decide (y≤x)))
 | .shl=>K (.u (ushl x y.toNat))
 | .shr=>K (.u (ushr x y.toNat))
def isSh:BinOp→Bool
 | .shl| .shr=>true
 | _=>false
def shK (op:BinOp) (k:IntKind) (a:Int) (c:Nat) (K:SV→Prop):Prop :=
 match op with
 | .shl=>K (mkI k (a*2 ^ (min c k.bits)))
 | .shr=>K (.i k (a.fdiv (2 ^ (min c k.bits))))
 | _=>False
def shU (op:BinOp) (x:UInt64) (c:Nat) (K:SV→Prop):Prop :=
 match op with
 | .shl=>K (.u (ushl x c))
 | .shr=>K (.u (ushr x c))
 | _=>False
def eqK (P:Program) (T:TypeId) (x y:SV) (K:Bool→Prop):Prop :=
 match P.underlying T,x,y with
 | some .bool,.b a,.b b=>K (a==b)
 | some .string,.str a,.str b=>K (a.toList==b.toList)
 | some (.pointer _),.pn a,.pn none=>K a.isNone
 | some (.pointer _),.p _,.pn none=>K false
 | some (.slice _),.s a,.s ⟨none,_,_,_⟩=>K a.p.isNone
 | some (.interface _),.v a,.v .nilIface=>(a= .nilIface∧K true)∨(∃t v,a= .iface t v∧K false)
 | _,_,_=>False
def binK (P:Program) (op:BinOp) (T:TypeId) (x y:SV) (K:SV→Prop):Prop :=
 match x,y with
 | .i k a,.i k' b=>if isSh op=true then 0≤b∧shK op k a b.toNat K else if k=k' then arI op k a b K else False
 | .u a,.u b=>arU op a b K
 | .i k a,.u b=>shK op k a b.toNat K
 | .u a,.i _ b=>0≤b∧shU op a b.toNat K
 | .str a,.str b =>
   match op with
   | .add=>((a.size+b.size:Nat):Int)≤9223372036854775807∧K (.str (a++b))
   | .eql=>K (.b (a.toList==b.toList))
   | .neq=>K (.b (!(a.toList==b.toList)))
   | _=>False
 | x,y =>
   match op with
   | .eql=>eqK P T x y fun r=>K (.b r)
   | .neq=>eqK P T x y fun r=>K (.b (!r))
   | _=>False
def unK (op:UnOp) (x:SV) (K:SV→Prop):Prop :=
 match op,x with
 | .neg,.i k a=>K (mkI k (0-a))
 | .neg,.u a=>K (.u (0-a))
 | .xor,.u a=>K (.u (~~~ a))
 | .not,.b a=>K (.b (!a))
 | _,_=>False
def convK (P:Program) (src dst:TypeId) (x:SV) (K:SV→Prop):Prop :=
 match P.underlying src,P.underlying dst,x with
 | some _,some (.int .u64),.u a=>K (.u a)
 | some _,some (.int k),.i _ a=>K (mkI k a)
 | some _,some (.int k),.u a=>K (mkI k (a.toNat:Int))
 | some (.string),some .string,.str a=>K (.str a)
 | _,_,_=>False
/-! ## They are what the model's operations do -/
theorem vu_add (x y:UInt64):vu (x+y)= .int .u64 (IntKind.u64.wrap (x.toNat+y.toNat)):=by
 unfold vu;rw[wrap_u64,UInt64.toNat_add];congr 1
theorem vu_mul (x y:UInt64):vu (x*y)= .int .u64 (IntKind.u64.wrap (x.toNat*y.toNat)):=by
 unfold vu;rw[wrap_u64,UInt64.toNat_mul];congr 1
theorem vu_sub (x y:UInt64):vu (x-y)= .int .u64 (IntKind.u64.wrap (x.toNat-y.toNat)):=by
 unfold vu;rw[wrap_u64,UInt64.toNat_sub]
 have h1:=x.toNat_lt;have h2:=y.toNat_lt
 congr 1;omega
theorem ofInt_u (x:UInt64):BitVec.ofInt (IntKind.bits .u64) (x.toNat:Int)=x.toBitVec:=by
 apply BitVec.eq_of_toNat_eq
 have:=x.toNat_lt
 simp[IntKind.bits]
theorem vu_bits (z:UInt64) (r:BitVec (IntKind.bits .u64)) (h:z.toBitVec=r) :
   vu z= .int .u64 (IntKind.u64.wrap (r.toNat:Int)):=by
 subst h
 unfold vu;rw[wrap_u64]
 have:=z.toNat_lt
 congr 1
 show(z.toNat:Int)=(z.toNat:Int)%_
 omega
theorem tmod_u (x y:UInt64):((x%y).toNat:Int)=(x.toNat:Int).tmod y.toNat:=by
 rw[UInt64.toNat_mod];rfl
theorem tdiv_u (x y:UInt64):vu (x/y)= .int .u64 (IntKind.u64.wrap ((x.toNat:Int).tdiv y.toNat)):=by
 unfold vu;rw[wrap_u64,UInt64.toNat_div]
 have h1:=x.toNat_lt
 have h2:x.toNat/y.toNat≤x.toNat:=Nat.div_le_self _ _
 rw[←Int.ofNat_tdiv]
 congr 1
 generalize x.toNat/y.toNat=d at *
 omega
theorem ushr_toNat (x:UInt64) (c:Nat):(((ushr x c).toNat:Nat):Int)=(x.toNat:Int).fdiv (2 ^ (min c 64)):=by
 unfold ushr
 have h0:=x.toNat_lt
 have h1:x.toNat/2 ^ min c 64≤x.toNat:=Nat.div_le_self _ _
 have e:(2:Int) ^ (min c 64)=((2 ^ (min c 64):Nat):Int):=by simp
 rw[e,Int.fdiv_eq_ediv_of_nonneg _ (Int.natCast_nonneg _),←Int.natCast_ediv,UInt64.toNat_ofNat']
 generalize x.toNat/2 ^ min c 64=d at *
 congr 1
 omega
def Comes (P:Program) (s:Sem Value) (K:SV→Prop):Prop:=∃r,K r∧∀w,s.run P w= .ok r.val w
theorem beq_decide_int (a b:Int):(a==b)=decide (a=b):=by
 by_cases h:a=b<;>simp[h]
theorem arI_comes {P:Program} {op:BinOp} {k:IntKind} {a b:Int} {K:SV→Prop} (hs:isSh op=false) (h:arI op k a b K) :
   Comes P (binOp op 0 (.int k a) (.int k b)) K∧∀T,binOp op T (.int k a) (.int k b)=binOp op 0 (.int k a) (.int k b):=by
 have hT:∀T,binOp op T (.int k a) (.int k b)=binOp op 0 (.int k a) (.int k b):=by
   intro T;cases op<;>first|rfl|simp[isSh] at hs
 refine⟨?_,hT⟩
 cases op
 case add=>refine⟨_,h,fun w=>?_⟩;rw[mkI_val];simp[binOp,Op.intArith]
 case sub=>refine⟨_,h,fun w=>?_⟩;rw[mkI_val];simp[binOp,Op.intArith]
 case mul=>refine⟨_,h,fun w=>?_⟩;rw[mkI_val];simp[binOp,Op.intArith]
 case quo=>refine⟨_,h.2,fun w=>?_⟩;rw[mkI_val];simp[binOp,Op.intDiv,h.1]
 case rem=>refine⟨_,h.2,fun w=>?_⟩;simp[binOp,Op.intDiv,h.1,SV.val]
 case and=>refine⟨_,h,fun w=>?_⟩;rw[mkI_val];simp[binOp];rfl
 case or=>refine⟨_,h,fun w=>?_⟩;rw[mkI_val];simp[binOp];rfl
 case xor=>refine⟨_,h,fun w=>?_⟩;rw[mkI_val];simp[binOp];rfl
 case andNot=>refine⟨_,h,fun w=>?_⟩;rw[mkI_val];simp[binOp];rfl
 case shl=>simp[isSh] at hs
 case shr=>simp[isSh] at hs
 all_goals first
   | exact h.elim
   | (refine⟨_,h,fun w=>?_⟩;simp[binOp,Op.intCmp,SV.val,beq_decide_int,bne];done)
theorem arU_comes {P:Program} {op:BinOp} {a b:UInt64} {K:SV→Prop} (h:arU op a b K):∀T,Comes P (binOp op T (vu a) (vu b)) K:=by
 intro T
 cases op
 case add=>refine⟨_,h,fun w=>?_⟩;rw[SV.val,vu_add];rfl
 case sub=>refine⟨_,h,fun w=>?_⟩;rw[SV.val,vu_sub];rfl
 case mul=>refine⟨_,h,fun w=>?_⟩;rw[SV.val,vu_mul];rfl
 case quo =>
   refine⟨_,h.2,fun w=>?_⟩
   have hb:(b.toNat:Int)≠0:=by intro e;exact h.1 (UInt64.toNat_inj.1 (by simpa using e))
   rw[SV.val,tdiv_u];simp only[vu,binOp,Op.intDiv,hb,if_false,ne_eq,not_true];rfl
 case rem =>
   refine⟨_,h.2,fun w=>?_⟩
   have hb:(b.toNat:Int)≠0:=by intro e;exact h.1 (UInt64.toNat_inj.1 (by simpa using e))
   rw[SV.val];simp only[vu,tmod_u,binOp,Op.intDiv,hb,if_false,ne_eq,not_true];rfl
 case and=>refine⟨_,h,fun w=>?_⟩;rw[SV.val,vu_bits (a &&& b) _ rfl];simp only[vu,binOp,ne_eq,not_true,if_false,Op.intBits,ofInt_u];rfl
 case or=>refine⟨_,h,fun w=>?_⟩;rw[SV.val,vu_bits (a ||| b) _ rfl];simp only[vu,binOp,ne_eq,not_true,if_false,Op.intBits,ofInt_u];rfl
 case xor=>refine⟨_,h,fun w=>?_⟩;rw[SV.val,vu_bits (a ^^^ b) _ rfl];simp only[vu,binOp,ne_eq,not_true,if_false,Op.intBits,ofInt_u];rfl
 case andNot=>refine⟨_,h,fun w=>?_⟩;rw[SV.val,vu_bits (a &&& ~~~ b) _ rfl];simp only[vu,binOp,ne_eq,not_true,if_false,Op.intBits,ofInt_u];rfl
 case shl =>
   refine⟨_,h,fun w=>?_⟩
   have hb:¬((b.toNat:Int)<0):=by omega
   simp only[SV.val,ushl,vu_toU]
   simp[vu,binOp,Op.shift,IntKind.bits,hb]
 case shr =>
   refine⟨_,h,fun w=>?_⟩
   have hb:¬((b.toNat:Int)<0):=by omega
   simp only[SV.val]
   simp[vu,binOp,Op.shift,IntKind.bits,hb,ushr_toNat]
 case eql =>
   refine⟨_,h,fun w=>?_⟩
   simp[vu,binOp,Op.intCmp,SV.val,beq_decide_int,←UInt64.toNat_inj,Int.natCast_inj]
 case neq =>
   refine⟨_,h,fun w=>?_⟩
   simp[vu,binOp,Op.intCmp,SV.val,beq_decide_int,bne,←UInt64.toNat_inj,Int.natCast_inj]
 case lss =>
   refine⟨_,h,fun w=>?_⟩
   simp[vu,binOp,Op.intCmp,SV.val,UInt64.lt_iff_toNat_lt]
 case leq =>
   refine⟨_,h,fun w=>?_⟩
   simp[vu,binOp,Op.intCmp,SV.val,UInt64.le_iff_toNat_le]
 case gtr =>
   refine⟨_,h,fun w=>?_⟩
   simp[vu,binOp,Op.intCmp,SV.val,UInt64.lt_iff_toNat_lt]
 case geq =>
   refine⟨_,h,fun w=>?_⟩
   simp[vu,binOp,Op.intCmp,SV.val,UInt64.le_iff_toNat_le]
theorem shK_comes {P:Program} {op:BinOp} {k yk:IntKind} {a:Int} {c:Int} {K:SV→Prop} (hc:0≤c) (h:shK op k a c.toNat K) (hk:isSh op=true) :
   ∀T,Comes P (binOp op T (.int k a) (.int yk c)) K:=by
 intro T
 have hn:¬c<0:=by omega
 cases op
 case shl=>refine⟨_,h,fun w=>?_⟩;rw[mkI_val];simp[binOp,Op.shift,hn]
 case shr=>refine⟨_,h,fun w=>?_⟩;simp[binOp,Op.shift,hn,SV.val]
 all_goals simp[isSh] at hk
theorem shU_comes {P:Program} {op:BinOp} {yk:IntKind} {a:UInt64} {c:Int} {K:SV→Prop} (hc:0≤c) (h:shU op a c.toNat K) :
   ∀T,Comes P (binOp op T (vu a) (.int yk c)) K:=by
 intro T
 have hn:¬c<0:=by omega
 cases op
 case shl =>
   refine⟨_,h,fun w=>?_⟩
   simp only[SV.val,ushl,vu_toU]
   simp[vu,binOp,Op.shift,hn,IntKind.bits]
 case shr =>
   refine⟨_,h,fun w=>?_⟩
   simp only[SV.val]
   simp[vu,binOp,Op.shift,hn,IntKind.bits,ushr_toNat]
 all_goals exact h.elim
theorem shK_isSh {op:BinOp} {k:IntKind} {a:Int} {c:Nat} {K:SV→Prop} (h:shK op k a c K):isSh op=true:=by
 cases op<;>first|rfl|exact h.elim
def easy:Value→Value→Bool
 | .int _ _,.int _ _| .string _,.string _| .bool _,.bool _| .pointer _,.pointer _| .slice _ _ _,.slice _ _ _| .iface _ _,.nilIface=>true
 | _,_=>false
theorem eqGuard_easy {P:Program} {op:BinOp} {T:TypeId} {x y:Operand} {a b:Value} (w:World) (h:easy a b=true) :
   (eqGuard op T x y a b).run P w= .ok () w:=by
 unfold easy at h
 split at h<;>first|(cases op<;>rfl)|cases h
theorem eqGuard_nil {P:Program} {op:BinOp} {T:TypeId} {x:Operand} {v:Value} (w:World) :
   (eqGuard op T x (.const v) .nilIface .nilIface).run P w= .ok () w:=by
 cases op<;>(cases x<;>rfl)
section
variable {P:Program} {T:TypeId} (w:World) (d:Nat)
theorem eqI_bool (h:P.underlying T=some .bool) (a b:Bool):(Op.equalIn (d+1) T (.bool a) (.bool b)).run P w= .ok (a==b) w:=by
 simp[Op.equalIn,run_underlying h]
theorem eqI_ptr {e:TypeId} (h:P.underlying T=some (.pointer e)) (a:Option Addr):(Op.equalIn (d+1) T (.pointer a) (.pointer none)).run P w= .ok a.isNone w:=by
 cases a<;>simp[Op.equalIn,run_underlying h]
theorem eqI_slice {e:TypeId} (h:P.underlying T=some (.slice e)) (a:Option Addr) (n c n' c':Nat) :
   (Op.equalIn (d+1) T (.slice a n c) (.slice none n' c')).run P w= .ok a.isNone w:=by
 cases a<;>simp[Op.equalIn,run_underlying h]
theorem eqI_nil {ms:Array (String×TypeId)} (h:P.underlying T=some (.interface ms)):(Op.equalIn (d+1) T .nilIface .nilIface).run P w= .ok true w:=by
 simp[Op.equalIn,run_underlying h]
theorem eqI_held {ms:Array (String×TypeId)} (h:P.underlying T=some (.interface ms)) (t:TypeId) (v:Value) :
   (Op.equalIn (d+1) T (.iface t v) .nilIface).run P w= .ok false w:=by
 simp[Op.equalIn,run_underlying h]
end
theorem binOp_eql_of {P:Program} {T:TypeId} {a b:Value} {r:Bool} {w:World} (h:(Op.equal T a b).run P w= .ok r w)
   (h1:binOp .eql T a b=do pure (.bool (←Op.equal T a b))) (h2:binOp .neq T a b=do pure (.bool (!(←Op.equal T a b)))) :
   (binOp .eql T a b).run P w= .ok (.bool r) w∧(binOp .neq T a b).run P w= .ok (.bool (!r)) w:=by
 rw[h1,h2];simp[h]
theorem eqK_elim {P:Program} {T:TypeId} {x y:SV} {K:Bool→Prop} (h:eqK P T x y K) :
   ∃r,K r∧(∀w,(binOp .eql T x.val y.val).run P w= .ok (.bool r) w∧(binOp .neq T x.val y.val).run P w= .ok (.bool (!r)) w) ∧
    (easy x.val y.val=true∨(x.val= .nilIface∧y.val= .nilIface)):=by
 unfold eqK at h
 split at h
 · rename_i a b ht
   exact⟨_,h,fun w=>binOp_eql_of (eqI_bool w 9999 ht _ _) rfl rfl,.inl rfl⟩
 · rename_i a b ht
   exact⟨_,h,fun w=>by simp[SV.val,binOp,Op.stringOp],.inl rfl⟩
 · rename_i e a ht
   refine⟨_,h,fun w=>binOp_eql_of ?_ rfl rfl,.inl rfl⟩
   have:=eqI_ptr w 9999 ht (a.map Pt.addr)
   rw[Option.isNone_map] at this
   exact this
 · rename_i e q ht
   refine⟨_,h,fun w=>binOp_eql_of ?_ rfl rfl,.inl rfl⟩
   exact eqI_ptr w 9999 ht (some q.addr)
 · rename_i e a n c z ht
   refine⟨_,h,fun w=>binOp_eql_of ?_ rfl rfl,.inl rfl⟩
   have:=eqI_slice w 9999 ht a.addr a.len a.cap n c
   rw[Sl.addr,Option.isNone_map] at this
   exact this
 · rename_i ms a ht
   rcases h with ⟨rfl,h⟩|⟨t,v,rfl,h⟩
   · exact⟨_,h,fun w=>binOp_eql_of (eqI_nil w 9999 ht) rfl rfl,.inr ⟨rfl,rfl⟩⟩
   · exact⟨_,h,fun w=>binOp_eql_of (eqI_held w 9999 ht t v) rfl rfl,.inl rfl⟩
 · exact h.elim
theorem binK_elim {P:Program} {op:BinOp} {T:TypeId} {x y:SV} {K:SV→Prop} (h:binK P op T x y K) :
   Comes P (binOp op T x.val y.val) K∧(easy x.val y.val=true∨(x.val= .nilIface∧y.val= .nilIface)):=by
 unfold binK at h
 split at h
 · rename_i k a k' b
   refine⟨?_,.inl rfl⟩
   split at h
   · rename_i hs
     exact shK_comes h.1 h.2 hs T
   · rename_i hs
     split at h
     · rename_i hk
       subst hk
       have:=arI_comes (P:=P) (by simpa using hs) h
       simp only[SV.val]
       rw[this.2 T];exact this.1
     · exact h.elim
 · exact⟨arU_comes h T,.inl rfl⟩
 · rename_i k a b
   refine⟨?_,.inl rfl⟩
   have:=shK_comes (P:=P) (yk:= .u64) (c:=(b.toNat:Int)) (by omega) (by simpa using h) (shK_isSh h) T
   exact this
 · exact⟨shU_comes h.1 h.2 T,.inl rfl⟩
 · rename_i a b
   refine⟨?_,.inl rfl⟩
   cases op
   case add =>
     refine⟨_,h.2,fun w=>?_⟩
     have h1:=h.1
     simp only[SV.val,binOp,Op.stringOp]
     rw[if_neg]
     · simp
     · simp[IntKind.max,IntKind.signed,IntKind.bits];omega
   case eql=>exact⟨_,h,fun w=>by simp[SV.val,binOp,Op.stringOp]⟩
   case neq=>exact⟨_,h,fun w=>by simp[SV.val,binOp,Op.stringOp]⟩
   all_goals exact h.elim
 · cases op
   case eql =>
     obtain⟨r,hr,hw,he⟩:=eqK_elim h
     exact⟨⟨_,hr,fun w=>(hw w).1⟩,he⟩
   case neq =>
     obtain⟨r,hr,hw,he⟩:=eqK_elim h
     exact⟨⟨_,hr,fun w=>(hw w).2⟩,he⟩
   all_goals exact h.elim
theorem unK_elim {P:Program} {op:UnOp} {x:SV} {K:SV→Prop} (h:unK op x K):Comes P (Op.unary op x.val) K:=by
 unfold unK at h
 split at h
 · exact⟨_,h,fun w=>by rw[mkI_val];simp[SV.val,Op.unary,Op.intArith]⟩
 · rename_i a
   refine⟨_,h,fun w=>?_⟩
   simp only[SV.val,vu_sub];simp[vu,Op.unary,Op.intArith]
 · rename_i a
   refine⟨_,h,fun w=>?_⟩
   have e0:BitVec.ofInt 64 18446744073709551615=BitVec.allOnes 64:=by decide
   have e:(~~~ a).toBitVec=(BitVec.ofInt (IntKind.bits .u64) (IntKind.max .u64) ^^^ BitVec.ofInt (IntKind.bits .u64) (a.toNat:Int)):=by
     rw[ofInt_u]
     show ~~~ a.toBitVec=BitVec.ofInt 64 18446744073709551615 ^^^ a.toBitVec
     rw[e0,BitVec.not_def]
   simp only[SV.val]
   rw[vu_bits (~~~ a) _ e]
   rfl
 · exact⟨_,h,fun w=>by simp[SV.val,Op.unary]⟩
 · exact h.elim
theorem convK_elim {P:Program} {src dst:TypeId} {x:SV} {K:SV→Prop} (h:convK P src dst x K):Comes P (convert src dst x.val) K:=by
 unfold convK at h
 split at h
 · rename_i d0 a h1 h2
   refine⟨_,h,fun w=>?_⟩
   have h1:P.underlying src=some d0:=by assumption
   simp only[convert,Sem.run_bind,run_underlying h1,run_underlying h2,Result.andThen_ok,SV.val,vu,Conv.intToInt]
   have:=a.toNat_lt
   simp[wrap_u64];omega
 · rename_i a h1 h2
   refine⟨_,h,fun w=>?_⟩
   rw[mkI_val]
   simp only[convert,Sem.run_bind,run_underlying h1,run_underlying h2,Result.andThen_ok,SV.val,Conv.intToInt]
   simp
 · rename_i h1 h2
   refine⟨_,h,fun w=>?_⟩
   rw[mkI_val]
   simp only[convert,Sem.run_bind,run_underlying h1,run_underlying h2,Result.andThen_ok,SV.val,vu,Conv.intToInt]
   simp
 · rename_i a h1 h2
   refine⟨_,h,fun w=>?_⟩
   simp only[convert,Sem.run_bind,run_underlying h1,run_underlying h2,Result.andThen_ok,SV.val]
   simp
 · exact h.elim
end Go.Sh

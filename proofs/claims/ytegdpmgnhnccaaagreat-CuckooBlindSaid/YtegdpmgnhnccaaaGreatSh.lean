import Derived.Tactics
import Derived.RowKit
import Derived.IntWalk
abbrev aDq:=@if_neg
abbrev aDr:=@if_pos
abbrev aDs:=@List.length_append
abbrev aDt:=@Nat.le_refl
abbrev aDu:=@Go.Result.andThen_ok
abbrev aDv:=@Go.Sem.run_bind
abbrev aDw:=@UInt64.toNat_ofNat'
abbrev aDx:=@List.getElem?_eq_getElem
abbrev aDy:=@Nat.pow_le_pow_right
abbrev aDz:=@decide_eq_false
abbrev aDA:=@decide_eq_true
abbrev aDB:=@Go.run_underlying
abbrev aDC:=@Ne.symm
abbrev aDD:=@List.append_assoc
abbrev aDE:=@UInt64.toNat_inj
abbrev aDF:=@List.length_map
abbrev aDG:=@Go.Sem.run_pure
abbrev aDH:=@List.mem_cons_self
abbrev aDI:=@List.mem_cons_of_mem
abbrev aDJ:=@List.getElem?_cons_succ
abbrev aDK:=@List.getElem?_cons_zero
abbrev aDL:=@List.length_range
abbrev aDM:=@Nat.zero_le
abbrev aDN:=@of_decide_eq_true
abbrev aDO:=@List.mem_append
abbrev aDP:=@Nat.mul_le_mul
abbrev aDQ:=@List.range_succ
abbrev aDR:=@List.getElem_mem
abbrev aDS:=@List.length_singleton
abbrev aDT:=@List.mem_range
abbrev aDU:=@List.map_congr_left
abbrev aDV:=@Bool.eq_iff_iff
abbrev aDW:=@Nat.mul_comm
abbrev aDX:=@Option.some.inj
abbrev aDY:=@List.length_drop
abbrev aDZ:=@Nat.lt_or_ge
abbrev aD0:=@List.getElem?_append_left
abbrev aD1:=@List.getElem?_toArray
abbrev aD2:=@List.mem_map
abbrev aD3:=@of_decide_eq_false
abbrev aD4:=@List.map_append
abbrev aD5:=@List.append_nil
abbrev aD6:=@Array.toList_inj
abbrev aD7:=@Iff.rfl
abbrev aD8:=@Nat.pow_pos
abbrev aD9:=@List.length_eq_zero_iff
abbrev aD_:=@Nat.pow_succ
abbrev aEa:=@Vector.getElem_set
abbrev aEb:=@Bool.false_eq_true
abbrev aEc:=@if_false
abbrev aEd:=@List.take_of_length_le
abbrev aEe:=@Nat.add_zero
abbrev aEf:=@Nat.one_le_two_pow
abbrev aEg:=@List.getD_eq_getElem?_getD
abbrev aEh:=@List.getElem_of_mem
abbrev aEi:=@Bool.and_eq_true
abbrev aEj:=@Option.some.injEq
abbrev aEk:=@Nat.mod_lt
abbrev aEl:=@List.take_add_one
abbrev aEm:=@Nat.mul_le_mul_right
abbrev aEn:=@UInt64.lt_iff_toNat_lt
abbrev aEo:=@Nat.div_div_eq_div_mul
abbrev aEp:=@Prod.mk.inj
abbrev aEq:=@Nat.min_eq_left
abbrev aEr:=@List.mem_cons
abbrev aEs:=@List.map_cons
abbrev aEt:=@UInt64.toNat_add
abbrev aEu:=@List.getElem?_eq_none
abbrev aEv:=@if_true
abbrev aEw:=@List.mem_singleton
abbrev aEx:=@Option.map_some
abbrev aEy:=@List.length_take
abbrev aEz:=@List.take_append_drop
abbrev aEA:=@Int.natCast_mul
abbrev aEB:=@List.flatMap_append
abbrev aEC:=@Nat.div_lt_iff_lt_mul
abbrev aED:=@cond_true
abbrev aEE:=@Nat.div_eq_of_lt
abbrev aEF:=@Nat.mod_eq_of_lt
abbrev aEG:=@List.ext_getElem
abbrev aEH:=@List.map_map
abbrev aEI:=@Array.getElem?_setIfInBounds
abbrev aEJ:=@decide_eq_true_eq
abbrev aEK:=@Nat.min_le_left
abbrev aEL:=@List.nodup_cons
abbrev aEM:=@Nat.add_mul
abbrev aEN:=@UInt64.le_iff_toNat_le
abbrev aEO:=@Vector.ext
abbrev aEP:=@Nat.lt_of_lt_of_le
abbrev aEQ:=@List.length_filter_le
abbrev aER:=@Vector.getElem_set_ne
abbrev aES:=@List.getElem?_eq_some_iff
abbrev aET:=@List.drop_eq_getElem_cons
abbrev aEU:=@Nat.mul_add
abbrev aEV:=@Nat.mul_one
abbrev aEW:=@List.length_nil
abbrev aEX:=@Nat.zero_add
abbrev aEY:=@Nat.div_le_self
abbrev aEZ:=@cond_false
abbrev aE0:=@List.Nodup.mem_erase_iff
abbrev aE1:=@Nat.add_sub_cancel_left
abbrev aE2:=@Int.eq_ofNat_of_zero_le
abbrev aE3:=@List.length_reverse
abbrev aE4:=@List.getD_cons_succ
abbrev aE5:=@UInt64.toNat_sub
abbrev aE6:=@List.length_cons
abbrev aE7:=@List.nodup_nil
abbrev aE8:=@List.all_eq_true
abbrev aE9:=@Nat.dvd_of_mod_eq_zero
abbrev aE_:=@Nat.le_trans
abbrev aFa:=@decide_eq_true_iff
abbrev aFb:=@Nat.lt_of_le_of_lt
abbrev aFc:=@Nat.add_sub_cancel
abbrev aFd:=@List.mem_filter
abbrev aFe:=@List.getElem?_append_right
abbrev aFf:=@Array.getElem?_eq_some_iff
abbrev aFg:=@List.nodup_append
abbrev aFh:=@Nat.dvd_add_right
abbrev aFi:=@beq_iff_eq
abbrev aFj:=@Bool.or_eq_false_iff
abbrev aFk:=@List.pairwise_iff_getElem
abbrev aFl:=@List.getElem_map
abbrev aFm:=@Nat.sub_zero
abbrev aFn:=@Prod.ext
abbrev aFo:=@UInt64.toNat_mod
abbrev aFp:=@UInt64.toNat_shiftRight
abbrev aFq:=@Nat.eq_zero_or_pos
abbrev aFr:=@Nat.div_add_mod
abbrev aFs:=@List.getElem_range
abbrev aFt:=@Nat.and_two_pow_sub_one_eq_mod
abbrev aFu:=@List.filter_append
abbrev aFv:=@List.drop_append_of_le_length
abbrev aFw:=@List.mem_range'_1
abbrev aFx:=@List.drop_drop
abbrev aFy:=@Bool.false_xor
abbrev aFz:=@Nat.min_le_right
abbrev aFA:=@Nat.pow_lt_pow_right
abbrev aFB:=@BitVec.ofInt_natCast
abbrev aFC:=@List.perm_cons_erase
abbrev aFD:=@List.mem_of_getElem?
abbrev aFE:=@Option.getD_some
abbrev aFF:=@Nat.mul_assoc
abbrev aFG:=@Array.getElem?_append_left
abbrev aFH:=@Nat.pow_add
abbrev aFI:=@Vector.getElem_ofFn
abbrev aFJ:=@Nat.mul_add_div
abbrev aFK:=@List.mem_take_iff_getElem
abbrev aFL:=@List.getElem_append_right
abbrev aFM:=@Array.getElem?_eq_getElem
abbrev aFN:=@Int.natCast_inj
abbrev aFO:=@Array.ext_getElem?
abbrev aFP:=@Nat.succ_mul
abbrev aFQ:=@BitVec.toNat_ofNat
abbrev aFR:=@List.drop_left
namespace Go.cR
open Go Go.RowKit
abbrev bo:=Vector UInt64
abbrev aE:=UInt64
abbrev ak:=Nat->Option Obj
structure aF where
 b:Nat
 o:Nat
 deriving DecidableEq
def aF.addr (q:aF):Addr:=⟨q.b,q.o,none⟩
structure ao where
 p:Option aF
 len:Nat
 cap:Nat
 z:Option Nat:=none
 deriving DecidableEq
def ao.addr (x:ao):Option Addr:=x.p.map λq=>⟨q.b,q.o,x.z⟩
def ao.q (x:ao):Option aF:=match x.z with|none=>x.p|some _=>none
theorem ao.HU {x:ao}{q:aF}(h:x.q=some q):x.addr=some q.addr:=by
 obtain⟨p,n,c,z⟩:=x;cases z with
 | some z=>cases h
 | none=>simp only[ao.q] at h;subst h;rfl
theorem ao.zW {x:ao}{q:aF}(h:x.q=some q):x.p=some q:=by
 obtain⟨p,n,c,z⟩:=x;cases z with
 | some z=>cases h
 | none=>exact h
def ab (x:aE):Value:= .int .u64 (x.toNat:Int)
def aC8 (n:Int):Value:= .int .i64 n
abbrev gD:Array Value:=#[.int .u64 0,.int .u64 0,.int .u64 0,.int .u64 0,.int .u64 0,.int .u64 0,.int .u64 0,.int .u64 0,.int .u64 0,.int .u64 0,.int .u64 0,.int .u64 0]
abbrev zH:Array Value:=#[.int .u64 0,.int .u64 0,.int .u64 0,.int .u64 0,.int .u64 0,.int .u64 0,.int .u64 0,.int .u64 0,.int .u64 0]
abbrev la:Array Value:=#[.int .u64 0,.int .u64 0,.int .u64 0,.int .u64 0,.int .u64 0,.int .u64 0,.int .u64 0,.int .u64 0]
abbrev Ra:Array Value:=#[.int .u64 0,.int .u64 0,.int .u64 0,.int .u64 0]
abbrev HL (b:Bool):Bool:=bif false then true else b
abbrev aC9 (b:Bool):Bool:=bif true then b else false
abbrev wf (ws:List UInt64)(p:Nat):UInt64:=ws.getD p 0
theorem cS {c:Prop}[Decidable c]{α:Sort _}{t e:α}(h:¬c:=by omega):ite c t e=e:=aDq h
theorem eY {c:Prop}[Decidable c]{α:Sort _}{t e:α}(h:c:=by omega):ite c t e=t:=aDr h
theorem gT {c:Prop}[Decidable c](h:¬c:=by omega):decide c=false:=aDz h
theorem pa {c:Prop}[Decidable c](h:c:=by omega):decide c=true:=aDA h
abbrev U (n:Int):Value:= .int .i64 n
abbrev b_ {n:Nat}(c:bo n):Value:= .agg (Array.map ab c.toArray)
def bm (q:aF):Value:= .pointer (some q.addr)
def a7 (q:Option aF):Value:= .pointer (q.map aF.addr)
def aZ (x:ao):Value:= .slice x.addr x.len x.cap
inductive ag where
 | i (k:IntKind) (n:Int)
 | u (x:aE)
 | b (x:Bool)
 | p (q:aF)
 | ic (q:Option aF)
 | s (x:ao)
 | str (x:ByteArray)
 | m (r:Option Nat)
 | f (g:FuncId) (c:List ag)
 | ws (n:Nat) (c:bo n)
 | dz (l:List ag)
 | jC (l:List ag)
 | v (x:Value)
 | no
mutual
def ag.val:ag->Value
 | .i k n=> .int k n
 | .u x=>ab x
 | .b x=> .bool x
 | .p q=>bm q
 | .ic q=>a7 q
 | .s x=>aZ x
 | .str x=> .string x
 | .m r=> .map r
 | .f g c=> .func (.func g) #[] (ag.bJ c).toArray
 | .ws _ c=> .agg (c.toArray.map ab)
 | .dz l=> .agg (ag.gL l).toArray
 | .jC l=> .tuple (ag.bJ l).toArray
 | .v x=>x
 | .no=>undef
def ag.bJ:List ag->List Value
 | []=>[]
 | a::l=>ag.val a::ag.bJ l
def ag.cells:ag->List Value
 | .i k n=>[.int k n]
 | .u x=>[ab x]
 | .b x=>[.bool x]
 | .p q=>[bm q]
 | .ic q=>[a7 q]
 | .s x=>[aZ x]
 | .str x=>[.string x]
 | .m r=>[.map r]
 | .f g c=>[.func (.func g) #[] (ag.bJ c).toArray]
 | .ws _ c=>c.toList.map ab
 | .dz l=>ag.gL l
 | .jC l=>[.tuple (ag.bJ l).toArray]
 | .v x=>[x]
 | .no=>[undef]
def ag.gL:List ag->List Value
 | []=>[]
 | a::l=>ag.cells a++ag.gL l
end
mutual
def ag.flat:ag->Bool
 | .jC _=>false
 | .v x=>x.oneCell'
 | .no=>false
 | .dz l=>ag.xc l
 | _=>true
def ag.xc:List ag->Bool
 | []=>true
 | a::l=>ag.flat a&&ag.xc l
end
mutual
def ag.size:ag->Nat
 | .ws n _=>n
 | .dz l=>ag.rY l
 | _=>1
def ag.rY:List ag->Nat
 | []=>0
 | a::l=>ag.size a+ag.rY l
end
mutual
def m6:ag->Prop->Prop
 | .v x,X=>x.oneCell'=true/\X
 | .dz l,X=>HV l X
 | .jC _,_=>False
 | .no,_=>False
 | _,X=>X
def HV:List ag->Prop->Prop
 | [],X=>X
 | a::l,X=>m6 a (HV l X)
end
mutual
theorem SN:∀(r:ag) (X:Prop),m6 r X↔ag.flat r=true/\X
 | .v x,X=>by simp[m6,ag.flat]
 | .dz l,X=>by simp only[m6,ag.flat];exact aeV l X
 | .jC l,X=>by simp[m6,ag.flat]
 | .no,X=>by simp[m6,ag.flat]
 | .i k n,X=>by simp[m6,ag.flat]
 | .u x,X=>by simp[m6,ag.flat]
 | .b x,X=>by simp[m6,ag.flat]
 | .p q,X=>by simp[m6,ag.flat]
 | .ic q,X=>by simp[m6,ag.flat]
 | .s x,X=>by simp[m6,ag.flat]
 | .str x,X=>by simp[m6,ag.flat]
 | .m r,X=>by simp[m6,ag.flat]
 | .f g c,X=>by simp[m6,ag.flat]
 | .ws n c,X=>by simp[m6,ag.flat]
theorem aeV:∀(l:List ag) (X:Prop),HV l X↔ag.xc l=true/\X
 | [],X=>by simp[HV,ag.xc]
 | a::l,X=>by
  simp only[HV,ag.xc,aEi];rw[SN a,aeV l,and_assoc]
end
theorem y0 {r:ag}{X:Prop}(h:m6 r X):ag.flat r=true/\X:=(SN r X).1 h
theorem SO {r:ag}{X:Prop}(bc:ag.flat r=true)(h:X):m6 r X:=(SN r X).2 ⟨bc,h⟩
def bl (b:Bool)(x y:Prop):Prop:=@Bool.rec (λ_=>Prop) y x b
abbrev bI (p:Prop)[Decidable p](x y:Prop):Prop:=bl (decide p) x y
abbrev ev (x:Array Value)(t:TypeId):Option Obj:=some (.cells x t (0,0))
theorem axc (x y:Prop):bl true x y=x:=rfl
theorem axd (x y:Prop):bl false x y=y:=rfl
def bx (h:ak)(b o:Nat):Option Value :=
 match h b with
 | some (.cells c _ _)=>c[o]?
 | _=>none
abbrev au (h:ak)(b o:Nat)(n:Int):Prop:=bx h b o=some (.int .i64 n)
abbrev bs (h:ak)(b o:Nat)(n:aE):Prop:=bx h b o=some (ab n)
abbrev bE (h:ak)(b o:Nat)(n:Option aF):Prop:=bx h b o=some (a7 n)
abbrev eu (h:ak)(b o:Nat)(n:ao):Prop:=bx h b o=some (aZ n)
abbrev gV (h:ak)(b o:Nat)(n:Bool):Prop:=bx h b o=some (.bool n)
def e8 (h:ak)(w:World):Prop:=∀b o,h b=some o->w.heap[b]? =some o
theorem e8.cell {h:ak}{w:World}(a1:e8 h w){b o:Nat}{v:Value}(b0:bx h b o=some v):w.cell? ⟨b,o,none⟩=some v:=by
 unfold bx at b0;split at b0
 .rename_i c e f ar
  simp[World.cell?,a1 _ _ ar,b0]
 .cases b0
theorem xd (q:aF)(n:Nat):q.addr.add n=aF.addr ⟨q.b,q.o+n⟩:=by
 unfold Addr.add aF.addr;split
 .rename_i h;subst h;rfl
 .rfl
def fW (h:ak)(b:Nat):Nat->List Value->Prop
 | _,[]=>True
 | o,v::l=>bx h b o=some v/\fW h b (o+1) l
theorem SP (h:ak)(b:Nat)(l fw:List Value):∀o,fW h b o (l++fw)↔fW h b o l/\fW h b (o+l.length) fw:=by
 induction l with
 | nil=>intro o;simp[fW]
 | cons v l dI=>intro o;simp[fW,dI,and_assoc,Nat.add_comm 1,Nat.add_assoc]
theorem pJ (h:ak)(b:Nat)(l:List Value):∀o,fW h b o l↔∀i (hi:i<l.length),bx h b (o+i)=some l[i]:=by
 induction l with
 | nil=>intro o;simp[fW]
 | cons v l dI =>
  intro o;simp only[fW,dI];constructor
  .rintro⟨h0,aa⟩ i hi;cases i with
   | zero=>simpa using h0
   | succ i =>
    have:=aa i (by simpa using hi);rw[show o+(i+1)=o+1+i by omega];simpa using this
  .intro b2
   refine⟨b2 0 (by simp),λi hi=>?_⟩;have:=b2 (i+1) (by simpa using hi);rw[show o+(i+1)=o+1+i by omega] at this;simpa using this
inductive fp where
 | i (k:IntKind)
 | u
 | b
 | p
 | f
 | ic
 | s
 | str
 | m
 | ws (n:Nat)
 | dz (l:List fp)
 | jC (l:List fp)
 | v
mutual
def fp.size:fp->Nat
 | .ws n=>n
 | .dz l=>fp.rY l
 | _=>1
def fp.rY:List fp->Nat
 | []=>0
 | t::l=>fp.size t+fp.rY l
end
def b5 (h:ak)(b o:Nat){n:Nat}(c:bo n):Prop:=∀i (_:i<n),bx h b (o+i)=some (ab c[i])
mutual
def Bf:fp->(ag->Prop)->Prop
 | .i k,K=>∃n:Int,K (.i k n)
 | .u,K=>∃x:aE,K (.u x)
 | .b,K=>∃x:Bool,K (.b x)
 | .p,K=>∃x:aF,K (.p x)
 | .f,K=>∃(g:FuncId) (c:List ag),K (.f g c)
 | .ic,K=>∃x:Option aF,K (.ic x)
 | .s,K=>∃x:ao,K (.s x)
 | .str,K=>∃x:ByteArray,K (.str x)
 | .m,K=>∃x:Option Nat,K (.m x)
 | .ws n,K=>∃c:bo n,K (.ws n c)
 | .dz l,K=>Ef l λr=>K (.dz r)
 | .jC l,K=>Ef l λr=>K (.jC r)
 | .v,K=>∃x:Value,K (.v x)
def Ef:List fp->(List ag->Prop)->Prop
 | [],K=>K []
 | t::l,K=>Bf t λr=>Ef l λrs=>K (r::rs)
end
mutual
def Eg (h:ak)(b:Nat):fp->Nat->(ag->Prop)->Prop
 | .i k,o,K=>∃n:Int,bx h b o=some (.int k n)/\K (.i k n)
 | .u,o,K=>∃x:aE,bx h b o=some (ab x)/\K (.u x)
 | .b,o,K=>∃x:Bool,bx h b o=some (.bool x)/\K (.b x)
 | .p,o,K=>∃x:aF,bx h b o=some (bm x)/\K (.p x)
 | .f,o,K=>∃(g:FuncId) (c:List ag),bx h b o=some (.func (.func g) #[] (ag.bJ c).toArray)/\K (.f g c)
 | .ic,o,K=>∃x:Option aF,bx h b o=some (a7 x)/\K (.ic x)
 | .s,o,K=>∃x:ao,bx h b o=some (aZ x)/\K (.s x)
 | .str,o,K=>∃x:ByteArray,bx h b o=some (.string x)/\K (.str x)
 | .m,o,K=>∃x:Option Nat,bx h b o=some (.map x)/\K (.m x)
 | .ws n,o,K=>∃c:bo n,b5 h b o c/\K (.ws n c)
 | .dz l,o,K=>HW h b l o λr=>K (.dz r)
 | .jC _,_,_=>False
 | .v,o,K=>∃x:Value,bx h b o=some x/\x.oneCell'=true/\K (.v x)
def HW (h:ak)(b:Nat):List fp->Nat->(List ag->Prop)->Prop
 | [],_,K=>K []
 | t::l,o,K=>Eg h b t o λr=>HW h b l (o+t.size) λrs=>K (r::rs)
end
mutual
theorem aeW (h:ak)(b:Nat):∀(t:fp) (o:Nat) (K:ag->Prop),Eg h b t o K ->
 ∃r,K r/\fW h b o (ag.cells r)/\(ag.cells r).length=t.size/\ag.flat r=true
 | .i k,o,K,⟨n,aK,ah⟩=>⟨_,ah,by simp[ag.cells,fW,aK],rfl,rfl⟩
 | .u,o,K,⟨n,aK,ah⟩=>⟨_,ah,by simp[ag.cells,fW,aK],rfl,rfl⟩
 | .b,o,K,⟨n,aK,ah⟩=>⟨_,ah,by simp[ag.cells,fW,aK],rfl,rfl⟩
 | .p,o,K,⟨n,aK,ah⟩=>⟨_,ah,by simp[ag.cells,fW,aK],rfl,rfl⟩
 | .f,o,K,⟨g,c,aK,ah⟩=>⟨_,ah,by simp[ag.cells,fW,aK],rfl,rfl⟩
 | .ic,o,K,⟨n,aK,ah⟩=>⟨_,ah,by simp[ag.cells,fW,aK],rfl,rfl⟩
 | .s,o,K,⟨n,aK,ah⟩=>⟨_,ah,by simp[ag.cells,fW,aK],rfl,rfl⟩
 | .str,o,K,⟨n,aK,ah⟩=>⟨_,ah,by simp[ag.cells,fW,aK],rfl,rfl⟩
 | .m,o,K,⟨n,aK,ah⟩=>⟨_,ah,by simp[ag.cells,fW,aK],rfl,rfl⟩
 | .ws n,o,K,⟨c,a1,ah⟩=>⟨_,ah,by
  rw[pJ];intro i hi;have cb:i<n:=by simpa [ag.cells] using hi
  rw[a1 i cb];simp[ag.cells],by simp[ag.cells,fp.size],rfl⟩
 | .dz l,o,K,aT=>by
  obtain⟨r,ah,aQ,aK,bc⟩:=SQ h b l o _ aT;exact⟨_,ah,aQ,aK,bc⟩
 | .jC _,_,_,aT=>aT.elim
 | .v,o,K,⟨x,ai,wv,ah⟩=>⟨_,ah,by simp[ag.cells,fW,ai],rfl,wv⟩
theorem SQ (h:ak)(b:Nat):∀(l:List fp) (o:Nat) (K:List ag->Prop),HW h b l o K ->
 ∃r,K r/\fW h b o (ag.gL r)/\(ag.gL r).length=fp.rY l/\ag.xc r=true
 | [],o,K,ah=>⟨[],ah,trivial,rfl,rfl⟩
 | t::l,o,K,ah=>by
  obtain⟨r,kO,aQ,aK,bc⟩:=aeW h b t o _ ah;obtain⟨rs,ki,HX,Hw,xS⟩:=SQ h b l _ _ kO;refine⟨r::rs,ki,?_,by simp[ag.gL,fp.rY,aK,Hw],by simp[ag.xc,bc,xS]⟩;show fW h b o (ag.cells r++ag.gL rs);rw[SP,aK];exact⟨aQ,HX⟩
end
mutual
theorem HY:∀(t:fp) (K:ag->Prop),Bf t K->∃r,K r
 | .i k,K,⟨n,ah⟩=>⟨_,ah⟩
 | .u,K,⟨n,ah⟩=>⟨_,ah⟩
 | .b,K,⟨n,ah⟩=>⟨_,ah⟩
 | .p,K,⟨n,ah⟩=>⟨_,ah⟩
 | .f,K,⟨_,_,ah⟩=>⟨_,ah⟩
 | .ic,K,⟨n,ah⟩=>⟨_,ah⟩
 | .s,K,⟨n,ah⟩=>⟨_,ah⟩
 | .str,K,⟨n,ah⟩=>⟨_,ah⟩
 | .m,K,⟨n,ah⟩=>⟨_,ah⟩
 | .ws n,K,⟨c,ah⟩=>⟨_,ah⟩
 | .dz l,K,aT=>by
  obtain⟨r,ah⟩:=SR l _ aT;exact⟨_,ah⟩
 | .jC l,K,aT=>by
  obtain⟨r,ah⟩:=SR l _ aT;exact⟨_,ah⟩
 | .v,K,⟨x,ah⟩=>⟨_,ah⟩
theorem SR:∀(l:List fp) (K:List ag->Prop),Ef l K->∃r,K r
 | [],K,ah=>⟨[],ah⟩
 | t::l,K,ah=>by
  obtain⟨r,kO⟩:=HY t _ ah;obtain⟨rs,ki⟩:=SR l _ kO;exact⟨_,ki⟩
end
mutual
theorem ag.Ml:∀(s:ag),ag.flat s=true->(ag.val s).cells=(ag.cells s).toArray
 | .i k n,_=>rfl
 | .u x,_=>rfl
 | .b x,_=>rfl
 | .p q,_=>rfl
 | .ic q,_=>rfl
 | .s x,_=>rfl
 | .str x,_=>rfl
 | .m r,_=>rfl
 | .f g c,_=>rfl
 | .ws n c,_=>by
  simp only[ag.val,ag.cells,Value.cells];rw[<-aD6];simp[Vector.toList]
 | .dz l,_=>rfl
 | .jC l,bc=>by simp[ag.flat] at bc
 | .no,bc=>by simp[ag.flat] at bc
 | .v x,bc=>by
  simp only[ag.flat] at bc;cases x<;>first|rfl|simp[Value.oneCell'] at bc
end
theorem axe {v:Value}(h:v.oneCell'=true):v.cells=#[v]:=by
 cases v<;>first|rfl|simp[Value.oneCell'] at h
mutual
theorem ag.aeX:∀(s:ag),ag.flat s=true->∀v∈ag.cells s,v.oneCell'=true
 | .i k n,_=>by simp[ag.cells,Value.oneCell']
 | .u x,_=>by simp[ag.cells,ab,Value.oneCell']
 | .b x,_=>by simp[ag.cells,Value.oneCell']
 | .p q,_=>by simp[ag.cells,bm,Value.oneCell']
 | .ic q,_=>by simp[ag.cells,a7,Value.oneCell']
 | .s x,_=>by simp[ag.cells,aZ,Value.oneCell']
 | .str x,_=>by simp[ag.cells,Value.oneCell']
 | .m r,_=>by simp[ag.cells,Value.oneCell']
 | .f g c,_=>by simp[ag.cells,Value.oneCell']
 | .ws n c,_=>by
  intro v b0;simp only[ag.cells,aD2] at b0;obtain⟨x,_,rfl⟩:=b0;rfl
 | .dz l,bc=>ag.aeY l (by simpa [ag.flat] using bc)
 | .jC l,bc=>by simp[ag.flat] at bc
 | .v x,bc=>by simpa [ag.cells,ag.flat] using bc
 | .no,bc=>by simp[ag.flat] at bc
theorem ag.aeY:∀(l:List ag),ag.xc l=true->∀v∈ag.gL l,v.oneCell'=true
 | [],_=>by simp[ag.gL]
 | a::l,bc=>by
  simp only[ag.xc,aEi] at bc;intro v b0;simp only[ag.gL,aDO] at b0;rcases b0 with b0|b0
  .exact ag.aeX a bc.1 v b0
  .exact ag.aeY l bc.2 v b0
end
mutual
theorem ag.xe:∀(s:ag),(ag.cells s).length=ag.size s
 | .i k n=>rfl
 | .u x=>rfl
 | .b x=>rfl
 | .p q=>rfl
 | .ic q=>rfl
 | .s x=>rfl
 | .str x=>rfl
 | .m r=>rfl
 | .f g c=>rfl
 | .ws n c=>by simp[ag.cells,ag.size]
 | .dz l=>by simp[ag.cells,ag.size,ag.Mm l]
 | .jC l=>rfl
 | .v x=>rfl
 | .no=>rfl
theorem ag.Mm:∀(l:List ag),(ag.gL l).length=ag.rY l
 | []=>rfl
 | a::l=>by simp[ag.gL,ag.rY,ag.xe a,ag.Mm l]
end

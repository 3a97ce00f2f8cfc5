import Derived.Tactics
import Derived.RowKit
import Derived.IntWalk
abbrev as7:=@if_neg
abbrev as8:=@if_pos
abbrev as9:=@List.length_append
abbrev as_:=@Nat.le_refl
abbrev ata:=@Go.Result.andThen_ok
abbrev atb:=@Go.Sem.run_bind
abbrev atc:=@List.getElem?_eq_getElem
abbrev atd:=@Go.run_underlying
abbrev ate:=@UInt64.toNat_ofNat'
abbrev atf:=@Ne.symm
abbrev atg:=@Nat.pow_le_pow_right
abbrev ath:=@List.length_map
abbrev ati:=@decide_eq_false
abbrev atj:=@List.length_range
abbrev atk:=@Go.Sem.run_pure
abbrev atl:=@decide_eq_true
abbrev atm:=@List.mem_cons_self
abbrev atn:=@List.mem_cons_of_mem
abbrev ato:=@List.range_succ
abbrev atp:=@List.getElem?_cons_zero
abbrev atq:=@List.mem_range
abbrev atr:=@List.append_assoc
abbrev att:=@UInt64.toNat_inj
abbrev atu:=@List.getElem?_cons_succ
abbrev atv:=@List.map_congr_left
abbrev atw:=@List.mem_append
abbrev atx:=@Nat.zero_le
abbrev aty:=@List.getElem_mem
abbrev atz:=@Bool.eq_iff_iff
abbrev atA:=@List.length_singleton
abbrev atB:=@List.getElem?_append_left
abbrev atC:=@of_decide_eq_true
abbrev atD:=@List.map_append
abbrev atE:=@List.mem_map
abbrev atF:=@Nat.lt_or_ge
abbrev atG:=@Array.toList_inj
abbrev atH:=@Option.some.inj
abbrev atI:=@Nat.mul_le_mul
abbrev atJ:=@Iff.rfl
abbrev atK:=@Nat.mul_comm
abbrev atL:=@Vector.getElem_set
abbrev atM:=@List.length_eq_zero_iff
abbrev atN:=@Bool.false_eq_true
abbrev atO:=@List.getElem?_toArray
abbrev atP:=@Nat.pow_succ
abbrev atQ:=@Nat.add_zero
abbrev atS:=@if_false
abbrev atT:=@List.getElem_of_mem
abbrev atU:=@List.append_nil
abbrev atV:=@List.take_add_one
abbrev atW:=@of_decide_eq_false
abbrev atX:=@Option.some.injEq
abbrev atY:=@UInt64.lt_iff_toNat_lt
abbrev atZ:=@Nat.div_div_eq_div_mul
abbrev at0:=@Prod.mk.inj
abbrev at1:=@List.map_cons
abbrev at2:=@if_true
abbrev at3:=@List.mem_cons
abbrev at4:=@Nat.min_eq_left
abbrev at5:=@Nat.pow_pos
abbrev at6:=@Bool.and_eq_true
abbrev at7:=@List.getD_eq_getElem?_getD
abbrev at8:=@List.take_of_length_le
abbrev at9:=@UInt64.le_iff_toNat_le
abbrev aua:=@Option.map_some
abbrev aub:=@Vector.ext
abbrev auc:=@Nat.div_lt_iff_lt_mul
abbrev aud:=@cond_true
abbrev aue:=@List.ext_getElem
abbrev auf:=@List.map_map
abbrev aug:=@Nat.mul_le_mul_right
abbrev auh:=@Array.getElem?_setIfInBounds
abbrev aui:=@decide_eq_true_eq
abbrev auj:=@Nat.min_le_left
abbrev auk:=@List.nodup_cons
abbrev aul:=@Nat.add_mul
abbrev aum:=@Nat.mod_lt
abbrev aun:=@Nat.mod_eq_of_lt
abbrev auo:=@Nat.div_eq_of_lt
abbrev aup:=@Nat.lt_of_lt_of_le
abbrev auq:=@List.length_filter_le
abbrev aur:=@List.take_append_drop
abbrev aus:=@List.mem_singleton
abbrev aut:=@Vector.getElem_set_ne
abbrev auu:=@List.getElem?_eq_some_iff
abbrev auv:=@List.drop_eq_getElem_cons
abbrev auw:=@Nat.mul_one
abbrev auy:=@Nat.div_le_self
abbrev auz:=@Nat.sub_zero
abbrev auA:=@cond_false
abbrev auB:=@List.Nodup.mem_erase_iff
abbrev auC:=@List.getD_cons_succ
abbrev auD:=@Vector.getElem_ofFn
abbrev auE:=@List.flatMap_append
abbrev auF:=@List.length_drop
abbrev auG:=@List.nodup_nil
abbrev auH:=@List.all_eq_true
abbrev auI:=@Nat.dvd_of_mod_eq_zero
abbrev auJ:=@Nat.one_le_two_pow
abbrev auK:=@Nat.add_sub_cancel
abbrev auL:=@List.mem_filter
abbrev auM:=@List.getElem?_eq_none
abbrev auN:=@List.getElem?_append_right
abbrev auO:=@Array.getElem?_eq_some_iff
abbrev auP:=@List.nodup_append
abbrev auQ:=@Nat.dvd_add_right
abbrev auR:=@List.pairwise_iff_getElem
abbrev auS:=@Prod.ext
abbrev auT:=@UInt64.toNat_shiftRight
abbrev auU:=@Int.eq_ofNat_of_zero_le
abbrev auV:=@Nat.eq_zero_or_pos
abbrev auW:=@Nat.div_add_mod
abbrev auX:=@List.getElem_range
abbrev auY:=@List.filter_append
abbrev auZ:=@List.mem_range'_1
abbrev au0:=@Nat.le_trans
abbrev au1:=@Bool.false_xor
abbrev au2:=@List.getElem_map
abbrev au3:=@Nat.min_le_right
abbrev au4:=@BitVec.ofInt_natCast
abbrev au5:=@List.perm_cons_erase
abbrev au6:=@List.mem_of_getElem?
abbrev au7:=@Option.getD_some
abbrev au8:=@UInt64.toNat_add
abbrev au9:=@UInt64.toNat_mod
abbrev au_:=@Array.getElem?_append_left
abbrev ava:=@Int.natCast_mul
abbrev avb:=@List.mem_take_iff_getElem
abbrev avc:=@List.length_nil
abbrev avd:=@Array.getElem?_eq_getElem
abbrev ave:=@Int.natCast_inj
abbrev avf:=@BitVec.toNat_ofNat
abbrev avg:=@Nat.lt_of_le_of_lt
abbrev avh:=@decide_eq_true_iff
namespace Go.cQ
open Go Go.RowKit
abbrev bk:=Vector UInt64
abbrev a8:=UInt64
abbrev ai:=Nat->Option Obj
structure aG where
 b:Nat
 o:Nat
 deriving DecidableEq
def aG.addr (q:aG):Addr:=⟨q.b,q.o,none⟩
structure an where
 p:Option aG
 len:Nat
 cap:Nat
 z:Option Nat:=none
 deriving DecidableEq
def an.addr (x:an):Option Addr:=x.p.map λq=>⟨q.b,q.o,x.z⟩
def an.q (x:an):Option aG:=match x.z with|none=>x.p|some _=>none
theorem an.Dl {x:an}{q:aG}(h:x.q=some q):x.addr=some q.addr:=by
 obtain⟨p,n,c,z⟩:=x;cases z with
 | some z=>cases h
 | none=>simp only[an.q] at h;subst h;rfl
theorem an.A_ {x:an}{q:aG}(h:x.q=some q):x.p=some q:=by
 obtain⟨p,n,c,z⟩:=x;cases z with
 | some z=>cases h
 | none=>exact h
def ak (x:a8):Value:= .int .u64 (x.toNat:Int)
def asL (n:Int):Value:= .int .i64 n
abbrev gC:Array Value:=#[.int .u64 0,.int .u64 0,.int .u64 0,.int .u64 0,.int .u64 0,.int .u64 0,.int .u64 0,.int .u64 0,.int .u64 0,.int .u64 0,.int .u64 0,.int .u64 0]
abbrev jz:Array Value:=#[.int .u64 0,.int .u64 0,.int .u64 0,.int .u64 0,.int .u64 0,.int .u64 0,.int .u64 0,.int .u64 0]
abbrev Dc (b:Bool):Bool:=bif false then true else b
abbrev asM (b:Bool):Bool:=bif true then b else false
abbrev wf (ws:List UInt64)(p:Nat):UInt64:=ws.getD p 0
theorem cS {c:Prop}[Decidable c]{α:Sort _}{t e:α}(h:¬c:=by omega):ite c t e=e:=as7 h
theorem d_ {c:Prop}[Decidable c]{α:Sort _}{t e:α}(h:c:=by omega):ite c t e=t:=as8 h
theorem hv {c:Prop}[Decidable c](h:¬c:=by omega):decide c=false:=ati h
theorem pS {c:Prop}[Decidable c](h:c:=by omega):decide c=true:=atl h
abbrev U (n:Int):Value:= .int .i64 n
abbrev bW {n:Nat}(c:bk n):Value:= .agg (Array.map ak c.toArray)
def bu (q:aG):Value:= .pointer (some q.addr)
def bZ (q:Option aG):Value:= .pointer (q.map aG.addr)
def aU (x:an):Value:= .slice x.addr x.len x.cap
inductive ae where
 | i (k:IntKind) (n:Int)
 | u (x:a8)
 | b (x:Bool)
 | p (q:aG)
 | fw (q:Option aG)
 | s (x:an)
 | str (x:ByteArray)
 | m (r:Option Nat)
 | f (g:FuncId) (c:List ae)
 | ws (n:Nat) (c:bk n)
 | c_ (l:List ae)
 | h5 (l:List ae)
 | v (x:Value)
 | no
mutual
def ae.val:ae->Value
 | .i k n=> .int k n
 | .u x=>ak x
 | .b x=> .bool x
 | .p q=>bu q
 | .fw q=>bZ q
 | .s x=>aU x
 | .str x=> .string x
 | .m r=> .map r
 | .f g c=> .func (.func g) #[] (ae.bw c).toArray
 | .ws _ c=> .agg (c.toArray.map ak)
 | .c_ l=> .agg (ae.fm l).toArray
 | .h5 l=> .tuple (ae.bw l).toArray
 | .v x=>x
 | .no=>undef
def ae.bw:List ae->List Value
 | []=>[]
 | a::l=>ae.val a::ae.bw l
def ae.cells:ae->List Value
 | .i k n=>[.int k n]
 | .u x=>[ak x]
 | .b x=>[.bool x]
 | .p q=>[bu q]
 | .fw q=>[bZ q]
 | .s x=>[aU x]
 | .str x=>[.string x]
 | .m r=>[.map r]
 | .f g c=>[.func (.func g) #[] (ae.bw c).toArray]
 | .ws _ c=>c.toList.map ak
 | .c_ l=>ae.fm l
 | .h5 l=>[.tuple (ae.bw l).toArray]
 | .v x=>[x]
 | .no=>[undef]
def ae.fm:List ae->List Value
 | []=>[]
 | a::l=>ae.cells a++ae.fm l
end
mutual
def ae.flat:ae->Bool
 | .h5 _=>false
 | .v x=>x.oneCell'
 | .no=>false
 | .c_ l=>ae.tV l
 | _=>true
def ae.tV:List ae->Bool
 | []=>true
 | a::l=>ae.flat a&&ae.tV l
end
mutual
def ae.size:ae->Nat
 | .ws n _=>n
 | .c_ l=>ae.pG l
 | _=>1
def ae.pG:List ae->Nat
 | []=>0
 | a::l=>ae.size a+ae.pG l
end
mutual
def k_:ae->Prop->Prop
 | .v x,X=>x.oneCell'=true/\X
 | .c_ l,X=>Dm l X
 | .h5 _,_=>False
 | .no,_=>False
 | _,X=>X
def Dm:List ae->Prop->Prop
 | [],X=>X
 | a::l,X=>k_ a (Dm l X)
end
mutual
theorem MO:∀(r:ae) (X:Prop),k_ r X↔ae.flat r=true/\X
 | .v x,X=>by simp[k_,ae.flat]
 | .c_ l,X=>by simp only[k_,ae.flat];exact XI l X
 | .h5 l,X=>by simp[k_,ae.flat]
 | .no,X=>by simp[k_,ae.flat]
 | .i k n,X=>by simp[k_,ae.flat]
 | .u x,X=>by simp[k_,ae.flat]
 | .b x,X=>by simp[k_,ae.flat]
 | .p q,X=>by simp[k_,ae.flat]
 | .fw q,X=>by simp[k_,ae.flat]
 | .s x,X=>by simp[k_,ae.flat]
 | .str x,X=>by simp[k_,ae.flat]
 | .m r,X=>by simp[k_,ae.flat]
 | .f g c,X=>by simp[k_,ae.flat]
 | .ws n c,X=>by simp[k_,ae.flat]
theorem XI:∀(l:List ae) (X:Prop),Dm l X↔ae.tV l=true/\X
 | [],X=>by simp[Dm,ae.tV]
 | a::l,X=>by
  simp only[Dm,ae.tV,at6];rw[MO a,XI l,and_assoc]
end
theorem vJ {r:ae}{X:Prop}(h:k_ r X):ae.flat r=true/\X:=(MO r X).1 h
theorem MP {r:ae}{X:Prop}(bf:ae.flat r=true)(h:X):k_ r X:=(MO r X).2 ⟨bf,h⟩
def bp (b:Bool)(x y:Prop):Prop:=@Bool.rec (λ_=>Prop) y x b
abbrev bF (p:Prop)[Decidable p](x y:Prop):Prop:=bp (decide p) x y
abbrev dB (x:Array Value)(t:TypeId):Option Obj:=some (.cells x t (0,0))
theorem amV (x y:Prop):bp true x y=x:=rfl
theorem amW (x y:Prop):bp false x y=y:=rfl
def bR (h:ai)(b o:Nat):Option Value :=
 match h b with
 | some (.cells c _ _)=>c[o]?
 | _=>none
abbrev av (h:ai)(b o:Nat)(n:Int):Prop:=bR h b o=some (.int .i64 n)
abbrev cF (h:ai)(b o:Nat)(n:a8):Prop:=bR h b o=some (ak n)
abbrev cd (h:ai)(b o:Nat)(n:Option aG):Prop:=bR h b o=some (bZ n)
abbrev dH (h:ai)(b o:Nat)(n:an):Prop:=bR h b o=some (aU n)
abbrev ig (h:ai)(b o:Nat)(n:Bool):Prop:=bR h b o=some (.bool n)
def dU (h:ai)(w:World):Prop:=∀b o,h b=some o->w.heap[b]? =some o
theorem dU.cell {h:ai}{w:World}(aT:dU h w){b o:Nat}{v:Value}(bH:bR h b o=some v):w.cell? ⟨b,o,none⟩=some v:=by
 unfold bR at bH;split at bH
 .rename_i c e f au
  simp[World.cell?,aT _ _ au,bH]
 .cases bH
theorem tW (q:aG)(n:Nat):q.addr.add n=aG.addr ⟨q.b,q.o+n⟩:=by
 unfold Addr.add aG.addr;split
 .rename_i h;subst h;rfl
 .rfl
def fb (h:ai)(b:Nat):Nat->List Value->Prop
 | _,[]=>True
 | o,v::l=>bR h b o=some v/\fb h b (o+1) l
theorem MQ (h:ai)(b:Nat)(l eF:List Value):∀o,fb h b o (l++eF)↔fb h b o l/\fb h b (o+l.length) eF:=by
 induction l with
 | nil=>intro o;simp[fb]
 | cons v l c6=>intro o;simp[fb,c6,and_assoc,Nat.add_comm 1,Nat.add_assoc]
theorem qh (h:ai)(b:Nat)(l:List Value):∀o,fb h b o l↔∀i (hi:i<l.length),bR h b (o+i)=some l[i]:=by
 induction l with
 | nil=>intro o;simp[fb]
 | cons v l c6 =>
  intro o;simp only[fb,c6];constructor
  .rintro⟨h0,aa⟩ i hi;cases i with
   | zero=>simpa using h0
   | succ i =>
    have:=aa i (by simpa using hi);rw[show o+(i+1)=o+1+i by omega];simpa using this
  .intro bT
   refine⟨bT 0 (by simp),λi hi=>?_⟩;have:=bT (i+1) (by simpa using hi);rw[show o+(i+1)=o+1+i by omega] at this;simpa using this
inductive eo where
 | i (k:IntKind)
 | u
 | b
 | p
 | f
 | fw
 | s
 | str
 | m
 | ws (n:Nat)
 | c_ (l:List eo)
 | h5 (l:List eo)
 | v
mutual
def eo.size:eo->Nat
 | .ws n=>n
 | .c_ l=>eo.pG l
 | _=>1
def eo.pG:List eo->Nat
 | []=>0
 | t::l=>eo.size t+eo.pG l
end
def bP (h:ai)(b o:Nat){n:Nat}(c:bk n):Prop:=∀i (_:i<n),bR h b (o+i)=some (ak c[i])
mutual
def xQ:eo->(ae->Prop)->Prop
 | .i k,K=>∃n:Int,K (.i k n)
 | .u,K=>∃x:a8,K (.u x)
 | .b,K=>∃x:Bool,K (.b x)
 | .p,K=>∃x:aG,K (.p x)
 | .f,K=>∃(g:FuncId) (c:List ae),K (.f g c)
 | .fw,K=>∃x:Option aG,K (.fw x)
 | .s,K=>∃x:an,K (.s x)
 | .str,K=>∃x:ByteArray,K (.str x)
 | .m,K=>∃x:Option Nat,K (.m x)
 | .ws n,K=>∃c:bk n,K (.ws n c)
 | .c_ l,K=>AB l λr=>K (.c_ r)
 | .h5 l,K=>AB l λr=>K (.h5 r)
 | .v,K=>∃x:Value,K (.v x)
def AB:List eo->(List ae->Prop)->Prop
 | [],K=>K []
 | t::l,K=>xQ t λr=>AB l λrs=>K (r::rs)
end
mutual
def AD (h:ai)(b:Nat):eo->Nat->(ae->Prop)->Prop
 | .i k,o,K=>∃n:Int,bR h b o=some (.int k n)/\K (.i k n)
 | .u,o,K=>∃x:a8,bR h b o=some (ak x)/\K (.u x)
 | .b,o,K=>∃x:Bool,bR h b o=some (.bool x)/\K (.b x)
 | .p,o,K=>∃x:aG,bR h b o=some (bu x)/\K (.p x)
 | .f,o,K=>∃(g:FuncId) (c:List ae),bR h b o=some (.func (.func g) #[] (ae.bw c).toArray)/\K (.f g c)
 | .fw,o,K=>∃x:Option aG,bR h b o=some (bZ x)/\K (.fw x)
 | .s,o,K=>∃x:an,bR h b o=some (aU x)/\K (.s x)
 | .str,o,K=>∃x:ByteArray,bR h b o=some (.string x)/\K (.str x)
 | .m,o,K=>∃x:Option Nat,bR h b o=some (.map x)/\K (.m x)
 | .ws n,o,K=>∃c:bk n,bP h b o c/\K (.ws n c)
 | .c_ l,o,K=>Dn h b l o λr=>K (.c_ r)
 | .h5 _,_,_=>False
 | .v,o,K=>∃x:Value,bR h b o=some x/\x.oneCell'=true/\K (.v x)
def Dn (h:ai)(b:Nat):List eo->Nat->(List ae->Prop)->Prop
 | [],_,K=>K []
 | t::l,o,K=>AD h b t o λr=>Dn h b l (o+t.size) λrs=>K (r::rs)
end
mutual
theorem XJ (h:ai)(b:Nat):∀(t:eo) (o:Nat) (K:ae->Prop),AD h b t o K ->
 ∃r,K r/\fb h b o (ae.cells r)/\(ae.cells r).length=t.size/\ae.flat r=true
 | .i k,o,K,⟨n,aH,ab⟩=>⟨_,ab,by simp[ae.cells,fb,aH],rfl,rfl⟩
 | .u,o,K,⟨n,aH,ab⟩=>⟨_,ab,by simp[ae.cells,fb,aH],rfl,rfl⟩
 | .b,o,K,⟨n,aH,ab⟩=>⟨_,ab,by simp[ae.cells,fb,aH],rfl,rfl⟩
 | .p,o,K,⟨n,aH,ab⟩=>⟨_,ab,by simp[ae.cells,fb,aH],rfl,rfl⟩
 | .f,o,K,⟨g,c,aH,ab⟩=>⟨_,ab,by simp[ae.cells,fb,aH],rfl,rfl⟩
 | .fw,o,K,⟨n,aH,ab⟩=>⟨_,ab,by simp[ae.cells,fb,aH],rfl,rfl⟩
 | .s,o,K,⟨n,aH,ab⟩=>⟨_,ab,by simp[ae.cells,fb,aH],rfl,rfl⟩
 | .str,o,K,⟨n,aH,ab⟩=>⟨_,ab,by simp[ae.cells,fb,aH],rfl,rfl⟩
 | .m,o,K,⟨n,aH,ab⟩=>⟨_,ab,by simp[ae.cells,fb,aH],rfl,rfl⟩
 | .ws n,o,K,⟨c,aT,ab⟩=>⟨_,ab,by
  rw[qh];intro i hi;have bN:i<n:=by simpa [ae.cells] using hi
  rw[aT i bN];simp[ae.cells],by simp[ae.cells,eo.size],rfl⟩
 | .c_ l,o,K,aO=>by
  obtain⟨r,ab,aK,aH,bf⟩:=MR h b l o _ aO;exact⟨_,ab,aK,aH,bf⟩
 | .h5 _,_,_,aO=>aO.elim
 | .v,o,K,⟨x,af,tf,ab⟩=>⟨_,ab,by simp[ae.cells,fb,af],rfl,tf⟩
theorem MR (h:ai)(b:Nat):∀(l:List eo) (o:Nat) (K:List ae->Prop),Dn h b l o K ->
 ∃r,K r/\fb h b o (ae.fm r)/\(ae.fm r).length=eo.pG l/\ae.tV r=true
 | [],o,K,ab=>⟨[],ab,trivial,rfl,rfl⟩
 | t::l,o,K,ab=>by
  obtain⟨r,jF,aK,aH,bf⟩:=XJ h b t o _ ab;obtain⟨rs,iw,Dp,CR,AE⟩:=MR h b l _ _ jF;refine⟨r::rs,iw,?_,by simp[ae.fm,eo.pG,aH,CR],by simp[ae.tV,bf,AE]⟩;show fb h b o (ae.cells r++ae.fm rs);rw[MQ,aH];exact⟨aK,Dp⟩
end
mutual
theorem Dq:∀(t:eo) (K:ae->Prop),xQ t K->∃r,K r
 | .i k,K,⟨n,ab⟩=>⟨_,ab⟩
 | .u,K,⟨n,ab⟩=>⟨_,ab⟩
 | .b,K,⟨n,ab⟩=>⟨_,ab⟩
 | .p,K,⟨n,ab⟩=>⟨_,ab⟩
 | .f,K,⟨_,_,ab⟩=>⟨_,ab⟩
 | .fw,K,⟨n,ab⟩=>⟨_,ab⟩
 | .s,K,⟨n,ab⟩=>⟨_,ab⟩
 | .str,K,⟨n,ab⟩=>⟨_,ab⟩
 | .m,K,⟨n,ab⟩=>⟨_,ab⟩
 | .ws n,K,⟨c,ab⟩=>⟨_,ab⟩
 | .c_ l,K,aO=>by
  obtain⟨r,ab⟩:=MS l _ aO;exact⟨_,ab⟩
 | .h5 l,K,aO=>by
  obtain⟨r,ab⟩:=MS l _ aO;exact⟨_,ab⟩
 | .v,K,⟨x,ab⟩=>⟨_,ab⟩
theorem MS:∀(l:List eo) (K:List ae->Prop),AB l K->∃r,K r
 | [],K,ab=>⟨[],ab⟩
 | t::l,K,ab=>by
  obtain⟨r,jF⟩:=Dq t _ ab;obtain⟨rs,iw⟩:=MS l _ jF;exact⟨_,iw⟩
end
mutual
theorem ae.G7:∀(s:ae),ae.flat s=true->(ae.val s).cells=(ae.cells s).toArray
 | .i k n,_=>rfl
 | .u x,_=>rfl
 | .b x,_=>rfl
 | .p q,_=>rfl
 | .fw q,_=>rfl
 | .s x,_=>rfl
 | .str x,_=>rfl
 | .m r,_=>rfl
 | .f g c,_=>rfl
 | .ws n c,_=>by
  simp only[ae.val,ae.cells,Value.cells];rw[<-atG];simp[Vector.toList]
 | .c_ l,_=>rfl
 | .h5 l,bf=>by simp[ae.flat] at bf
 | .no,bf=>by simp[ae.flat] at bf
 | .v x,bf=>by
  simp only[ae.flat] at bf;cases x<;>first|rfl|simp[Value.oneCell'] at bf
end
theorem amX {v:Value}(h:v.oneCell'=true):v.cells=#[v]:=by
 cases v<;>first|rfl|simp[Value.oneCell'] at h
mutual
theorem ae.XK:∀(s:ae),ae.flat s=true->∀v∈ae.cells s,v.oneCell'=true
 | .i k n,_=>by simp[ae.cells,Value.oneCell']
 | .u x,_=>by simp[ae.cells,ak,Value.oneCell']
 | .b x,_=>by simp[ae.cells,Value.oneCell']
 | .p q,_=>by simp[ae.cells,bu,Value.oneCell']
 | .fw q,_=>by simp[ae.cells,bZ,Value.oneCell']
 | .s x,_=>by simp[ae.cells,aU,Value.oneCell']
 | .str x,_=>by simp[ae.cells,Value.oneCell']
 | .m r,_=>by simp[ae.cells,Value.oneCell']
 | .f g c,_=>by simp[ae.cells,Value.oneCell']
 | .ws n c,_=>by
  intro v bH;simp only[ae.cells,atE] at bH;obtain⟨x,_,rfl⟩:=bH;rfl
 | .c_ l,bf=>ae.XL l (by simpa [ae.flat] using bf)
 | .h5 l,bf=>by simp[ae.flat] at bf
 | .v x,bf=>by simpa [ae.cells,ae.flat] using bf
 | .no,bf=>by simp[ae.flat] at bf
theorem ae.XL:∀(l:List ae),ae.tV l=true->∀v∈ae.fm l,v.oneCell'=true
 | [],_=>by simp[ae.fm]
 | a::l,bf=>by
  simp only[ae.tV,at6] at bf;intro v bH;simp only[ae.fm,atw] at bH;rcases bH with bH|bH
  .exact ae.XK a bf.1 v bH
  .exact ae.XL l bf.2 v bH
end
mutual
theorem ae.tX:∀(s:ae),(ae.cells s).length=ae.size s
 | .i k n=>rfl
 | .u x=>rfl
 | .b x=>rfl
 | .p q=>rfl
 | .fw q=>rfl
 | .s x=>rfl
 | .str x=>rfl
 | .m r=>rfl
 | .f g c=>rfl
 | .ws n c=>by simp[ae.cells,ae.size]
 | .c_ l=>by simp[ae.cells,ae.size,ae.G8 l]
 | .h5 l=>rfl
 | .v x=>rfl
 | .no=>rfl
theorem ae.G8:∀(l:List ae),(ae.fm l).length=ae.pG l
 | []=>rfl
 | a::l=>by simp[ae.fm,ae.pG,ae.tX a,ae.G8 l]
end

/- A walk by computation: a function's body is read as a statement over the heap alone ('codeK'), proved sound once ('calls_of_codeK'). -/
import Derived.Tactics
import Derived.RowKit
import Derived.IntWalk
namespace Go.Sh
open Go Go.RowKit
abbrev Hp:=Nat→Option Obj
structure Pt where
 b:Nat
 o:Nat
 deriving DecidableEq
def Pt.addr (q:Pt):Addr:=⟨q.b,q.o,none⟩
structure Sl where
 p:Option Pt
 len:Nat
 cap:Nat
 z:Option Nat:=none
 deriving DecidableEq
def Sl.addr (x:Sl):Option Addr:=x.p.map fun q=>⟨q.b,q.o,x.z⟩
def Sl.q (x:Sl):Option Pt:=match x.z with|none=>x.p|some _=>none
theorem Sl.addr_q {x:Sl} {q:Pt} (h:x.q=some q):x.addr=some q.addr:=by
 obtain⟨p,n,c,z⟩:=x
 cases z with
 | some z=>cases h
 | none=>simp only[Sl.q] at h;subst h;rfl
theorem Sl.q_p {x:Sl} {q:Pt} (h:x.q=some q):x.p=some q:=by
 obtain⟨p,n,c,z⟩:=x
 cases z with
 | some z=>cases h
 | none=>exact h
def vu (x:UInt64):Value:= .int .u64 (x.toNat:Int)
def vi (n:Int):Value:= .int .i64 n
def vp (q:Pt):Value:= .pointer (some q.addr)
def vpn (q:Option Pt):Value:= .pointer (q.map Pt.addr)
def vs (x:Sl):Value:= .slice x.addr x.len x.cap
inductive SV where
 | i (k:IntKind) (n:Int)
 | u (x:UInt64)
 | b (x:Bool)
 | p (q:Pt)
 | pn (q:Option Pt)
 | s (x:Sl)
 | str (x:ByteArray)
 | m (r:Option Nat)
 | f (g:FuncId) (c:List SV)
 | ws (n:Nat) (c:Vector UInt64 n)
 | ag (l:List SV)
 | tup (l:List SV)
 | v (x:Value)
 | no
mutual
def SV.val:SV→Value
 | .i k n=> .int k n
 | .u x=>vu x
 | .b x=> .bool x
 | .p q=>vp q
 | .pn q=>vpn q
 | .s x=>vs x
 | .str x=> .string x
 | .m r=> .map r
 | .f g c=> .func (.func g) #[] (SV.vals c).toArray
 | .ws _ c=> .agg (c.toArray.map vu)
 | .ag l=> .agg (SV.cellsL l).toArray
 | .tup l=> .tuple (SV.vals l).toArray
 | .v x=>x
 | .no=>undef
def SV.vals:List SV→List Value
 | []=>[]
 | a::l=>SV.val a::SV.vals l
def SV.cells:SV→List Value
 | .i k n=>[.int k n]
 | .u x=>[vu x]
 | .b x=>[.bool x]
 | .p q=>[vp q]
 | .pn q=>[vpn q]
 | .s x=>[vs x]
 | .str x=>[.string x]
 | .m r=>[.map r]
 | .f g c=>[.func (.func g) #[] (SV.vals c).toArray]
 | .ws _ c=>c.toList.map vu
 | .ag l=>SV.cellsL l
 | .tup l=>[.tuple (SV.vals l).toArray]
 | .v x=>[x]
 | .no=>[undef]
def SV.cellsL:List SV→List Value
 | []=>[]
 | a::l=>SV.cells a++SV.cellsL l
end
mutual
def SV.flat:SV→Bool
 | .tup _=>false
 | .v x=>x.oneCell'
 | .no=>false
 | .ag l=>SV.flatL l
 | _=>true
def SV.flatL:List SV→Bool
 | []=>true
 | a::l=>SV.flat a&&SV.flatL l
end
mutual
def SV.size:SV→Nat
 | .ws n _=>n
 | .ag l=>SV.sizeL l
 | _=>1
def SV.sizeL:List SV→Nat
 | []=>0
 | a::l=>SV.size a+SV.sizeL l
end
mutual
def flatK:SV→Prop→Prop
 | .v x,X=>x.oneCell'=true∧X
 | .ag l,X=>flatLK l X
 | .tup _,_=>False
 | .no,_=>False
 | _,X=>X
def flatLK:List SV→Prop→Prop
 | [],X=>X
 | a::l,X=>flatK a (flatLK l X)
end
mutual
theorem flatK_iff:∀(r:SV) (X:Prop),flatK r X↔SV.flat r=true∧X
 | .v x,X=>by simp[flatK,SV.flat]
 | .ag l,X=>by simp only[flatK,SV.flat];exact flatLK_iff l X
 | .tup l,X=>by simp[flatK,SV.flat]
 | .no,X=>by simp[flatK,SV.flat]
 | .i k n,X=>by simp[flatK,SV.flat]
 | .u x,X=>by simp[flatK,SV.flat]
 | .b x,X=>by simp[flatK,SV.flat]
 | .p q,X=>by simp[flatK,SV.flat]
 | .pn q,X=>by simp[flatK,SV.flat]
 | .s x,X=>by simp[flatK,SV.flat]
 | .str x,X=>by simp[flatK,SV.flat]
 | .m r,X=>by simp[flatK,SV.flat]
 | .f g c,X=>by simp[flatK,SV.flat]
 | .ws n c,X=>by simp[flatK,SV.flat]
theorem flatLK_iff:∀(l:List SV) (X:Prop),flatLK l X↔SV.flatL l=true∧X
 | [],X=>by simp[flatLK,SV.flatL]
 | a::l,X=>by
    simp only[flatLK,SV.flatL,Bool.and_eq_true]
    rw[flatK_iff a,flatLK_iff l,and_assoc]
end
theorem flatK_elim {r:SV} {X:Prop} (h:flatK r X):SV.flat r=true∧X:=(flatK_iff r X).1 h
theorem flatK_intro {r:SV} {X:Prop} (hf:SV.flat r=true) (h:X):flatK r X:=(flatK_iff r X).2 ⟨hf,h⟩
def ifB (b:Bool) (x y:Prop):Prop:=@Bool.rec (fun _=>Prop) y x b
theorem ifB_true (x y:Prop):ifB true x y=x:=rfl
theorem ifB_false (x y:Prop):ifB false x y=y:=rfl
/-! ## Reading -/
def hcell (h:Hp) (b o:Nat):Option Value :=
 match h b with
 | some (.cells c _ _)=>c[o]?
 | _=>none
def Cov (h:Hp) (w:World):Prop:=∀b o,h b=some o→w.heap[b]? =some o
theorem Cov.cell {h:Hp} {w:World} (hc:Cov h w) {b o:Nat} {v:Value} (hv:hcell h b o=some v):w.cell? ⟨b,o,none⟩=some v:=by
 unfold hcell at hv
 split at hv
 · rename_i c e f hb
   simp[World.cell?,hc _ _ hb,hv]
 · cases hv
theorem addr_add (q:Pt) (n:Nat):q.addr.add n=Pt.addr ⟨q.b,q.o+n⟩:=by
 unfold Addr.add Pt.addr;split
 · rename_i h;subst h;rfl
 · rfl
def rdL (h:Hp) (b:Nat):Nat→List Value→Prop
 | _,[]=>True
 | o,v::l=>hcell h b o=some v∧rdL h b (o+1) l
theorem rdL_append (h:Hp) (b:Nat) (l l':List Value):∀o,rdL h b o (l++l')↔rdL h b o l∧rdL h b (o+l.length) l':=by
 induction l with
 | nil=>intro o;simp[rdL]
 | cons v l ih=>intro o;simp[rdL,ih,and_assoc,Nat.add_comm 1,Nat.add_assoc]
theorem rdL_iff (h:Hp) (b:Nat) (l:List Value):∀o,rdL h b o l↔∀i (hi:i<l.length),hcell h b (o+i)=some l[i]:=by
 induction l with
 | nil=>intro o;simp[rdL]
 | cons v l ih =>
   intro o
   simp only[rdL,ih]
   constructor
   · rintro⟨h0,h1⟩ i hi
     cases i with
     | zero=>simpa using h0
     | succ i =>
       have:=h1 i (by simpa using hi)
       rw[show o+(i+1)=o+1+i by omega]
       simpa using this
   · intro hh
     refine⟨hh 0 (by simp),fun i hi=>?_⟩
     have:=hh (i+1) (by simpa using hi)
     rw[show o+(i+1)=o+1+i by omega] at this
     simpa using this
inductive Ty where
 | i (k:IntKind)
 | u
 | b
 | p
 | f
 | pn
 | s
 | str
 | m
 | ws (n:Nat)
 | ag (l:List Ty)
 | tup (l:List Ty)
 | v
mutual
def Ty.size:Ty→Nat
 | .ws n=>n
 | .ag l=>Ty.sizeL l
 | _=>1
def Ty.sizeL:List Ty→Nat
 | []=>0
 | t::l=>Ty.size t+Ty.sizeL l
end
def rdW (h:Hp) (b o:Nat) {n:Nat} (c:Vector UInt64 n):Prop:=∀i (_:i<n),hcell h b (o+i)=some (vu c[i])
mutual
def exT:Ty→(SV→Prop)→Prop
 | .i k,K=>∃n:Int,K (.i k n)
 | .u,K=>∃x:UInt64,K (.u x)
 | .b,K=>∃x:Bool,K (.b x)
 | .p,K=>∃x:Pt,K (.p x)
 | .f,K=>∃(g:FuncId) (c:List SV),K (.f g c)
 | .pn,K=>∃x:Option Pt,K (.pn x)
 | .s,K=>∃x:Sl,K (.s x)
 | .str,K=>∃x:ByteArray,K (.str x)
 | .m,K=>∃x:Option Nat,K (.m x)
 | .ws n,K=>∃c:Vector UInt64 n,K (.ws n c)
 | .ag l,K=>exTL l fun r=>K (.ag r)
 | .tup l,K=>exTL l fun r=>K (.tup r)
 | .v,K=>∃x:Value,K (.v x)
def exTL:List Ty→(List SV→Prop)→Prop
 | [],K=>K []
 | t::l,K=>exT t fun r=>exTL l fun rs=>K (r::rs)
end
mutual
def loadK (h:Hp) (b:Nat):Ty→Nat→(SV→Prop)→Prop
 | .i k,o,K=>∃n:Int,hcell h b o=some (.int k n)∧K (.i k n)
 | .u,o,K=>∃x:UInt64,hcell h b o=some (vu x)∧K (.u x)
 | .b,o,K=>∃x:Bool,hcell h b o=some (.bool x)∧K (.b x)
 | .p,o,K=>∃x:Pt,hcell h b o=some (vp x)∧K (.p x)
 | .f,o,K=>∃(g:FuncId) (c:List SV),hcell h b o=some (.func (.func g) #[] (SV.vals c).toArray)∧K (.f g c)
 | .pn,o,K=>∃x:Option Pt,hcell h b o=some (vpn x)∧K (.pn x)
 | .s,o,K=>∃x:Sl,hcell h b o=some (vs x)∧K (.s x)
 | .str,o,K=>∃x:ByteArray,hcell h b o=some (.string x)∧K (.str x)
 | .m,o,K=>∃x:Option Nat,hcell h b o=some (.map x)∧K (.m x)
 | .ws n,o,K=>∃c:Vector UInt64 n,rdW h b o c∧K (.ws n c)
 | .ag l,o,K=>loadKL h b l o fun r=>K (.ag r)
 | .tup _,_,_=>False
 | .v,o,K=>∃x:Value,hcell h b o=some x∧x.oneCell'=true∧K (.v x)
def loadKL (h:Hp) (b:Nat):List Ty→Nat→(List SV→Prop)→Prop
 | [],_,K=>K []
 | t::l,o,K=>loadK h b t o fun r=>loadKL h b l (o+t.size) fun rs=>K (r::rs)
end
mutual
theorem loadK_elim (h:Hp) (b:Nat):∀(t:Ty) (o:Nat) (K:SV→Prop),loadK h b t o K →
   ∃r,K r∧rdL h b o (SV.cells r)∧(SV.cells r).length=t.size∧SV.flat r=true
 | .i k,o,K,⟨n,hn,hk⟩=>⟨_,hk,by simp[SV.cells,rdL,hn],rfl,rfl⟩
 | .u,o,K,⟨n,hn,hk⟩=>⟨_,hk,by simp[SV.cells,rdL,hn],rfl,rfl⟩
 | .b,o,K,⟨n,hn,hk⟩=>⟨_,hk,by simp[SV.cells,rdL,hn],rfl,rfl⟩
 | .p,o,K,⟨n,hn,hk⟩=>⟨_,hk,by simp[SV.cells,rdL,hn],rfl,rfl⟩
 | .f,o,K,⟨g,c,hn,hk⟩=>⟨_,hk,by simp[SV.cells,rdL,hn],rfl,rfl⟩
 | .pn,o,K,⟨n,hn,hk⟩=>⟨_,hk,by simp[SV.cells,rdL,hn],rfl,rfl⟩
 | .s,o,K,⟨n,hn,hk⟩=>⟨_,hk,by simp[SV.cells,rdL,hn],rfl,rfl⟩
 | .str,o,K,⟨n,hn,hk⟩=>⟨_,hk,by simp[SV.cells,rdL,hn],rfl,rfl⟩
 | .m,o,K,⟨n,hn,hk⟩=>⟨_,hk,by simp[SV.cells,rdL,hn],rfl,rfl⟩
 | .ws n,o,K,⟨c,hc,hk⟩=>⟨_,hk,by
     rw[rdL_iff];intro i hi
     have hi':i<n:=by simpa [SV.cells] using hi
     rw[hc i hi'];simp[SV.cells],by simp[SV.cells,Ty.size],rfl⟩
 | .ag l,o,K,hl=>by
     obtain⟨r,hk,hr,hn,hf⟩:=loadKL_elim h b l o _ hl
     exact⟨_,hk,hr,hn,hf⟩
 | .tup _,_,_,hl=>hl.elim
 | .v,o,K,⟨x,hx,hone,hk⟩=>⟨_,hk,by simp[SV.cells,rdL,hx],rfl,hone⟩
theorem loadKL_elim (h:Hp) (b:Nat):∀(l:List Ty) (o:Nat) (K:List SV→Prop),loadKL h b l o K →
   ∃r,K r∧rdL h b o (SV.cellsL r)∧(SV.cellsL r).length=Ty.sizeL l∧SV.flatL r=true
 | [],o,K,hk=>⟨[],hk,trivial,rfl,rfl⟩
 | t::l,o,K,hk=>by
    obtain⟨r,hk1,hr,hn,hf⟩:=loadK_elim h b t o _ hk
    obtain⟨rs,hk2,hrs,hns,hfs⟩:=loadKL_elim h b l _ _ hk1
    refine⟨r::rs,hk2,?_,by simp[SV.cellsL,Ty.sizeL,hn,hns],by simp[SV.flatL,hf,hfs]⟩
    show rdL h b o (SV.cells r++SV.cellsL rs)
    rw[rdL_append,hn]
    exact⟨hr,hrs⟩
end
mutual
theorem exT_elim:∀(t:Ty) (K:SV→Prop),exT t K→∃r,K r
 | .i k,K,⟨n,hk⟩=>⟨_,hk⟩
 | .u,K,⟨n,hk⟩=>⟨_,hk⟩
 | .b,K,⟨n,hk⟩=>⟨_,hk⟩
 | .p,K,⟨n,hk⟩=>⟨_,hk⟩
 | .f,K,⟨_,_,hk⟩=>⟨_,hk⟩
 | .pn,K,⟨n,hk⟩=>⟨_,hk⟩
 | .s,K,⟨n,hk⟩=>⟨_,hk⟩
 | .str,K,⟨n,hk⟩=>⟨_,hk⟩
 | .m,K,⟨n,hk⟩=>⟨_,hk⟩
 | .ws n,K,⟨c,hk⟩=>⟨_,hk⟩
 | .ag l,K,hl=>by
     obtain⟨r,hk⟩:=exTL_elim l _ hl
     exact⟨_,hk⟩
 | .tup l,K,hl=>by
     obtain⟨r,hk⟩:=exTL_elim l _ hl
     exact⟨_,hk⟩
 | .v,K,⟨x,hk⟩=>⟨_,hk⟩
theorem exTL_elim:∀(l:List Ty) (K:List SV→Prop),exTL l K→∃r,K r
 | [],K,hk=>⟨[],hk⟩
 | t::l,K,hk=>by
    obtain⟨r,hk1⟩:=exT_elim t _ hk
    obtain⟨rs,hk2⟩:=exTL_elim l _ hk1
    exact⟨_,hk2⟩
end
/-! ## Values and their cells -/
mutual
theorem SV.cells_val:∀(s:SV),SV.flat s=true→(SV.val s).cells=(SV.cells s).toArray
 | .i k n,_=>rfl
 | .u x,_=>rfl
 | .b x,_=>rfl
 | .p q,_=>rfl
 | .pn q,_=>rfl
 | .s x,_=>rfl
 | .str x,_=>rfl
 | .m r,_=>rfl
 | .f g c,_=>rfl
 | .ws n c,_=>by
     simp only[SV.val,SV.cells,Value.cells]
     rw[←Array.toList_inj];simp[Vector.toList]
 | .ag l,_=>rfl
 | .tup l,hf=>by simp[SV.flat] at hf
 | .no,hf=>by simp[SV.flat] at hf
 | .v x,hf=>by
     simp only[SV.flat] at hf
     cases x<;>first|rfl|simp[Value.oneCell'] at hf
end
theorem oneCell_cells {v:Value} (h:v.oneCell'=true):v.cells=#[v]:=by
 cases v<;>first|rfl|simp[Value.oneCell'] at h
mutual
theorem SV.cells_one:∀(s:SV),SV.flat s=true→∀v∈SV.cells s,v.oneCell'=true
 | .i k n,_=>by simp[SV.cells,Value.oneCell']
 | .u x,_=>by simp[SV.cells,vu,Value.oneCell']
 | .b x,_=>by simp[SV.cells,Value.oneCell']
 | .p q,_=>by simp[SV.cells,vp,Value.oneCell']
 | .pn q,_=>by simp[SV.cells,vpn,Value.oneCell']
 | .s x,_=>by simp[SV.cells,vs,Value.oneCell']
 | .str x,_=>by simp[SV.cells,Value.oneCell']
 | .m r,_=>by simp[SV.cells,Value.oneCell']
 | .f g c,_=>by simp[SV.cells,Value.oneCell']
 | .ws n c,_=>by
     intro v hv
     simp only[SV.cells,List.mem_map] at hv
     obtain⟨x,_,rfl⟩:=hv
     rfl
 | .ag l,hf=>SV.cellsL_one l (by simpa [SV.flat] using hf)
 | .tup l,hf=>by simp[SV.flat] at hf
 | .v x,hf=>by simpa [SV.cells,SV.flat] using hf
 | .no,hf=>by simp[SV.flat] at hf
theorem SV.cellsL_one:∀(l:List SV),SV.flatL l=true→∀v∈SV.cellsL l,v.oneCell'=true
 | [],_=>by simp[SV.cellsL]
 | a::l,hf=>by
    simp only[SV.flatL,Bool.and_eq_true] at hf
    intro v hv
    simp only[SV.cellsL,List.mem_append] at hv
    rcases hv with hv|hv
    · exact SV.cells_one a hf.1 v hv
    · exact SV.cellsL_one l hf.2 v hv
end
mutual
theorem SV.cells_size:∀(s:SV),(SV.cells s).length=SV.size s
 | .i k n=>rfl
 | .u x=>rfl
 | .b x=>rfl
 | .p q=>rfl
 | .pn q=>rfl
 | .s x=>rfl
 | .str x=>rfl
 | .m r=>rfl
 | .f g c=>rfl
 | .ws n c=>by simp[SV.cells,SV.size]
 | .ag l=>by simp[SV.cells,SV.size,SV.cellsL_size l]
 | .tup l=>rfl
 | .v x=>rfl
 | .no=>rfl
theorem SV.cellsL_size:∀(l:List SV),(SV.cellsL l).length=SV.sizeL l
 | []=>rfl
 | a::l=>by simp[SV.cellsL,SV.sizeL,SV.cells_size a,SV.cellsL_size l]
end
end Go.Sh

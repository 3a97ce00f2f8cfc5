import Derived.Tactics
import Derived.RowKit
import Derived.IntWalk
namespace Go.cD
open Go Go.RowKit
abbrev ak:=Nat->Option Obj
structure aD where
 b:Nat
 o:Nat
 deriving DecidableEq
def aD.addr (q:aD):Addr:=⟨q.b,q.o,none⟩
structure ar where
 p:Option aD
 len:Nat
 cap:Nat
 z:Option Nat:=none
 deriving DecidableEq
def ar.addr (x:ar):Option Addr:=x.p.map λq=>⟨q.b,q.o,x.z⟩
def ar.q (x:ar):Option aD:=match x.z with|none=>x.p|some _=>none
theorem ar.GG {x:ar}{q:aD}(h:x.q=some q):x.addr=some q.addr:=by
 obtain⟨p,n,c,z⟩:=x
 cases z with
 | some z=>cases h
 | none=>simp only[ar.q] at h;subst h;rfl
theorem ar.Et {x:ar}{q:aD}(h:x.q=some q):x.p=some q:=by
 obtain⟨p,n,c,z⟩:=x
 cases z with
 | some z=>cases h
 | none=>exact h
def ab (x:UInt64):Value:= .int .u64 (x.toNat:Int)
def azZ (n:Int):Value:= .int .i64 n
abbrev U (n:Int):Value:= .int .i64 n
abbrev bY {n:Nat}(c:Vector UInt64 n):Value:= .agg (Array.map ab c.toArray)
def bg (q:aD):Value:= .pointer (some q.addr)
def a1 (q:Option aD):Value:= .pointer (q.map aD.addr)
def bb (x:ar):Value:= .slice x.addr x.len x.cap
inductive af where
 | i (k:IntKind) (n:Int)
 | u (x:UInt64)
 | b (x:Bool)
 | p (q:aD)
 | hM (q:Option aD)
 | s (x:ar)
 | str (x:ByteArray)
 | m (r:Option Nat)
 | f (g:FuncId) (c:List af)
 | ws (n:Nat) (c:Vector UInt64 n)
 | dt (l:List af)
 | ja (l:List af)
 | v (x:Value)
 | no
mutual
def af.val:af->Value
 | .i k n=> .int k n
 | .u x=>ab x
 | .b x=> .bool x
 | .p q=>bg q
 | .hM q=>a1 q
 | .s x=>bb x
 | .str x=> .string x
 | .m r=> .map r
 | .f g c=> .func (.func g) #[] (af.bB c).toArray
 | .ws _ c=> .agg (c.toArray.map ab)
 | .dt l=> .agg (af.gn l).toArray
 | .ja l=> .tuple (af.bB l).toArray
 | .v x=>x
 | .no=>undef
def af.bB:List af->List Value
 | []=>[]
 | a::l=>af.val a::af.bB l
def af.cells:af->List Value
 | .i k n=>[.int k n]
 | .u x=>[ab x]
 | .b x=>[.bool x]
 | .p q=>[bg q]
 | .hM q=>[a1 q]
 | .s x=>[bb x]
 | .str x=>[.string x]
 | .m r=>[.map r]
 | .f g c=>[.func (.func g) #[] (af.bB c).toArray]
 | .ws _ c=>c.toList.map ab
 | .dt l=>af.gn l
 | .ja l=>[.tuple (af.bB l).toArray]
 | .v x=>[x]
 | .no=>[undef]
def af.gn:List af->List Value
 | []=>[]
 | a::l=>af.cells a++af.gn l
end
mutual
def af.flat:af->Bool
 | .ja _=>false
 | .v x=>x.oneCell'
 | .no=>false
 | .dt l=>af.vZ l
 | _=>true
def af.vZ:List af->Bool
 | []=>true
 | a::l=>af.flat a&&af.vZ l
end
mutual
def af.size:af->Nat
 | .ws n _=>n
 | .dt l=>af.q8 l
 | _=>1
def af.q8:List af->Nat
 | []=>0
 | a::l=>af.size a+af.q8 l
end
mutual
def mC:af->Prop->Prop
 | .v x,X=>x.oneCell'=true/\X
 | .dt l,X=>GH l X
 | .ja _,_=>False
 | .no,_=>False
 | _,X=>X
def GH:List af->Prop->Prop
 | [],X=>X
 | a::l,X=>mC a (GH l X)
end
mutual
theorem Q3:∀(r:af) (X:Prop),mC r X↔af.flat r=true/\X
 | .v x,X=>by simp[mC,af.flat]
 | .dt l,X=>by simp only[mC,af.flat];exact acE l X
 | .ja l,X=>by simp[mC,af.flat]
 | .no,X=>by simp[mC,af.flat]
 | .i k n,X=>by simp[mC,af.flat]
 | .u x,X=>by simp[mC,af.flat]
 | .b x,X=>by simp[mC,af.flat]
 | .p q,X=>by simp[mC,af.flat]
 | .hM q,X=>by simp[mC,af.flat]
 | .s x,X=>by simp[mC,af.flat]
 | .str x,X=>by simp[mC,af.flat]
 | .m r,X=>by simp[mC,af.flat]
 | .f g c,X=>by simp[mC,af.flat]
 | .ws n c,X=>by simp[mC,af.flat]
theorem acE:∀(l:List af) (X:Prop),GH l X↔af.vZ l=true/\X
 | [],X=>by simp[GH,af.vZ]
 | a::l,X=>by
  simp only[GH,af.vZ,Bool.and_eq_true]
  rw[Q3 a,acE l,and_assoc]
end
theorem x2 {r:af}{X:Prop}(h:mC r X):af.flat r=true/\X:=(Q3 r X).1 h
theorem Q4 {r:af}{X:Prop}(a_:af.flat r=true)(h:X):mC r X:=(Q3 r X).2 ⟨a_,h⟩
def aG (b:Bool)(x y:Prop):Prop:=@Bool.rec (λ_=>Prop) y x b
theorem aug (x y:Prop):aG true x y=x:=rfl
theorem auh (x y:Prop):aG false x y=y:=rfl
def br (h:ak)(b o:Nat):Option Value :=
 match h b with
 | some (.cells c _ _)=>c[o]?
 | _=>none
abbrev ax (h:ak)(b o:Nat)(n:Int):Prop:=br h b o=some (.int .i64 n)
abbrev bn (h:ak)(b o:Nat)(n:UInt64):Prop:=br h b o=some (ab n)
abbrev bs (h:ak)(b o:Nat)(n:Option aD):Prop:=br h b o=some (a1 n)
abbrev e8 (h:ak)(b o:Nat)(n:ar):Prop:=br h b o=some (bb n)
abbrev gP (h:ak)(b o:Nat)(n:Bool):Prop:=br h b o=some (.bool n)
def eQ (h:ak)(w:World):Prop:=∀b o,h b=some o->w.heap[b]? =some o
theorem eQ.cell {h:ak}{w:World}(aZ:eQ h w){b o:Nat}{v:Value}(bQ:br h b o=some v):w.cell? ⟨b,o,none⟩=some v:=by
 unfold br at bQ
 split at bQ
 .rename_i c e f au
  simp[World.cell?,aZ _ _ au,bQ]
 .cases bQ
theorem v7 (q:aD)(n:Nat):q.addr.add n=aD.addr ⟨q.b,q.o+n⟩:=by
 unfold Addr.add aD.addr;split
 .rename_i h;subst h;rfl
 .rfl
def fQ (h:ak)(b:Nat):Nat->List Value->Prop
 | _,[]=>True
 | o,v::l=>br h b o=some v/\fQ h b (o+1) l
theorem Q5 (h:ak)(b:Nat)(l fx:List Value):∀o,fQ h b o (l++fx)↔fQ h b o l/\fQ h b (o+l.length) fx:=by
 induction l with
 | nil=>intro o;simp[fQ]
 | cons v l dK=>intro o;simp[fQ,dK,and_assoc,Nat.add_comm 1,Nat.add_assoc]
theorem pN (h:ak)(b:Nat)(l:List Value):∀o,fQ h b o l↔∀i (hi:i<l.length),br h b (o+i)=some l[i]:=by
 induction l with
 | nil=>intro o;simp[fQ]
 | cons v l dK =>
  intro o
  simp only[fQ,dK]
  constructor
  .rintro⟨h0,aa⟩ i hi
   cases i with
   | zero=>simpa using h0
   | succ i =>
    have:=aa i (by simpa using hi)
    rw[show o+(i+1)=o+1+i by omega]
    simpa using this
  .intro bR
   refine⟨bR 0 (by simp),λi hi=>?_⟩
   have:=bR (i+1) (by simpa using hi)
   rw[show o+(i+1)=o+1+i by omega] at this
   simpa using this
inductive ff where
 | i (k:IntKind)
 | u
 | b
 | p
 | f
 | hM
 | s
 | str
 | m
 | ws (n:Nat)
 | dt (l:List ff)
 | ja (l:List ff)
 | v
mutual
def ff.size:ff->Nat
 | .ws n=>n
 | .dt l=>ff.q8 l
 | _=>1
def ff.q8:List ff->Nat
 | []=>0
 | t::l=>ff.size t+ff.q8 l
end
def bU (h:ak)(b o:Nat){n:Nat}(c:Vector UInt64 n):Prop:=∀i (_:i<n),br h b (o+i)=some (ab c[i])
mutual
def Ab:ff->(af->Prop)->Prop
 | .i k,K=>∃n:Int,K (.i k n)
 | .u,K=>∃x:UInt64,K (.u x)
 | .b,K=>∃x:Bool,K (.b x)
 | .p,K=>∃x:aD,K (.p x)
 | .f,K=>∃(g:FuncId) (c:List af),K (.f g c)
 | .hM,K=>∃x:Option aD,K (.hM x)
 | .s,K=>∃x:ar,K (.s x)
 | .str,K=>∃x:ByteArray,K (.str x)
 | .m,K=>∃x:Option Nat,K (.m x)
 | .ws n,K=>∃c:Vector UInt64 n,K (.ws n c)
 | .dt l,K=>C_ l λr=>K (.dt r)
 | .ja l,K=>C_ l λr=>K (.ja r)
 | .v,K=>∃x:Value,K (.v x)
def C_:List ff->(List af->Prop)->Prop
 | [],K=>K []
 | t::l,K=>Ab t λr=>C_ l λrs=>K (r::rs)
end
mutual
def Da (h:ak)(b:Nat):ff->Nat->(af->Prop)->Prop
 | .i k,o,K=>∃n:Int,br h b o=some (.int k n)/\K (.i k n)
 | .u,o,K=>∃x:UInt64,br h b o=some (ab x)/\K (.u x)
 | .b,o,K=>∃x:Bool,br h b o=some (.bool x)/\K (.b x)
 | .p,o,K=>∃x:aD,br h b o=some (bg x)/\K (.p x)
 | .f,o,K=>∃(g:FuncId) (c:List af),br h b o=some (.func (.func g) #[] (af.bB c).toArray)/\K (.f g c)
 | .hM,o,K=>∃x:Option aD,br h b o=some (a1 x)/\K (.hM x)
 | .s,o,K=>∃x:ar,br h b o=some (bb x)/\K (.s x)
 | .str,o,K=>∃x:ByteArray,br h b o=some (.string x)/\K (.str x)
 | .m,o,K=>∃x:Option Nat,br h b o=some (.map x)/\K (.m x)
 | .ws n,o,K=>∃c:Vector UInt64 n,bU h b o c/\K (.ws n c)
 | .dt l,o,K=>GI h b l o λr=>K (.dt r)
 | .ja _,_,_=>False
 | .v,o,K=>∃x:Value,br h b o=some x/\x.oneCell'=true/\K (.v x)
def GI (h:ak)(b:Nat):List ff->Nat->(List af->Prop)->Prop
 | [],_,K=>K []
 | t::l,o,K=>Da h b t o λr=>GI h b l (o+t.size) λrs=>K (r::rs)
end
mutual
theorem acF (h:ak)(b:Nat):∀(t:ff) (o:Nat) (K:af->Prop),Da h b t o K ->
 ∃r,K r/\fQ h b o (af.cells r)/\(af.cells r).length=t.size/\af.flat r=true
 | .i k,o,K,⟨n,aH,ag⟩=>⟨_,ag,by simp[af.cells,fQ,aH],rfl,rfl⟩
 | .u,o,K,⟨n,aH,ag⟩=>⟨_,ag,by simp[af.cells,fQ,aH],rfl,rfl⟩
 | .b,o,K,⟨n,aH,ag⟩=>⟨_,ag,by simp[af.cells,fQ,aH],rfl,rfl⟩
 | .p,o,K,⟨n,aH,ag⟩=>⟨_,ag,by simp[af.cells,fQ,aH],rfl,rfl⟩
 | .f,o,K,⟨g,c,aH,ag⟩=>⟨_,ag,by simp[af.cells,fQ,aH],rfl,rfl⟩
 | .hM,o,K,⟨n,aH,ag⟩=>⟨_,ag,by simp[af.cells,fQ,aH],rfl,rfl⟩
 | .s,o,K,⟨n,aH,ag⟩=>⟨_,ag,by simp[af.cells,fQ,aH],rfl,rfl⟩
 | .str,o,K,⟨n,aH,ag⟩=>⟨_,ag,by simp[af.cells,fQ,aH],rfl,rfl⟩
 | .m,o,K,⟨n,aH,ag⟩=>⟨_,ag,by simp[af.cells,fQ,aH],rfl,rfl⟩
 | .ws n,o,K,⟨c,aZ,ag⟩=>⟨_,ag,by
  rw[pN];intro i hi
  have b5:i<n:=by simpa [af.cells] using hi
  rw[aZ i b5];simp[af.cells],by simp[af.cells,ff.size],rfl⟩
 | .dt l,o,K,aT=>by
  obtain⟨r,ag,aP,aH,a_⟩:=Q6 h b l o _ aT
  exact⟨_,ag,aP,aH,a_⟩
 | .ja _,_,_,aT=>aT.elim
 | .v,o,K,⟨x,ai,vg,ag⟩=>⟨_,ag,by simp[af.cells,fQ,ai],rfl,vg⟩
theorem Q6 (h:ak)(b:Nat):∀(l:List ff) (o:Nat) (K:List af->Prop),GI h b l o K ->
 ∃r,K r/\fQ h b o (af.gn r)/\(af.gn r).length=ff.q8 l/\af.vZ r=true
 | [],o,K,ag=>⟨[],ag,trivial,rfl,rfl⟩
 | t::l,o,K,ag=>by
  obtain⟨r,kl,aP,aH,a_⟩:=acF h b t o _ ag
  obtain⟨rs,jO,GJ,Gg,wW⟩:=Q6 h b l _ _ kl
  refine⟨r::rs,jO,?_,by simp[af.gn,ff.q8,aH,Gg],by simp[af.vZ,a_,wW]⟩
  show fQ h b o (af.cells r++af.gn rs)
  rw[Q5,aH]
  exact⟨aP,GJ⟩
end
mutual
theorem GK:∀(t:ff) (K:af->Prop),Ab t K->∃r,K r
 | .i k,K,⟨n,ag⟩=>⟨_,ag⟩
 | .u,K,⟨n,ag⟩=>⟨_,ag⟩
 | .b,K,⟨n,ag⟩=>⟨_,ag⟩
 | .p,K,⟨n,ag⟩=>⟨_,ag⟩
 | .f,K,⟨_,_,ag⟩=>⟨_,ag⟩
 | .hM,K,⟨n,ag⟩=>⟨_,ag⟩
 | .s,K,⟨n,ag⟩=>⟨_,ag⟩
 | .str,K,⟨n,ag⟩=>⟨_,ag⟩
 | .m,K,⟨n,ag⟩=>⟨_,ag⟩
 | .ws n,K,⟨c,ag⟩=>⟨_,ag⟩
 | .dt l,K,aT=>by
  obtain⟨r,ag⟩:=Q7 l _ aT
  exact⟨_,ag⟩
 | .ja l,K,aT=>by
  obtain⟨r,ag⟩:=Q7 l _ aT
  exact⟨_,ag⟩
 | .v,K,⟨x,ag⟩=>⟨_,ag⟩
theorem Q7:∀(l:List ff) (K:List af->Prop),C_ l K->∃r,K r
 | [],K,ag=>⟨[],ag⟩
 | t::l,K,ag=>by
  obtain⟨r,kl⟩:=GK t _ ag
  obtain⟨rs,jO⟩:=Q7 l _ kl
  exact⟨_,jO⟩
end
mutual
theorem af.KO:∀(s:af),af.flat s=true->(af.val s).cells=(af.cells s).toArray
 | .i k n,_=>rfl
 | .u x,_=>rfl
 | .b x,_=>rfl
 | .p q,_=>rfl
 | .hM q,_=>rfl
 | .s x,_=>rfl
 | .str x,_=>rfl
 | .m r,_=>rfl
 | .f g c,_=>rfl
 | .ws n c,_=>by
  simp only[af.val,af.cells,Value.cells]
  rw[<-Array.toList_inj];simp[Vector.toList]
 | .dt l,_=>rfl
 | .ja l,a_=>by simp[af.flat] at a_
 | .no,a_=>by simp[af.flat] at a_
 | .v x,a_=>by
  simp only[af.flat] at a_
  cases x<;>first|rfl|simp[Value.oneCell'] at a_
end
theorem aui {v:Value}(h:v.oneCell'=true):v.cells=#[v]:=by
 cases v<;>first|rfl|simp[Value.oneCell'] at h
mutual
theorem af.acG:∀(s:af),af.flat s=true->∀v∈af.cells s,v.oneCell'=true
 | .i k n,_=>by simp[af.cells,Value.oneCell']
 | .u x,_=>by simp[af.cells,ab,Value.oneCell']
 | .b x,_=>by simp[af.cells,Value.oneCell']
 | .p q,_=>by simp[af.cells,bg,Value.oneCell']
 | .hM q,_=>by simp[af.cells,a1,Value.oneCell']
 | .s x,_=>by simp[af.cells,bb,Value.oneCell']
 | .str x,_=>by simp[af.cells,Value.oneCell']
 | .m r,_=>by simp[af.cells,Value.oneCell']
 | .f g c,_=>by simp[af.cells,Value.oneCell']
 | .ws n c,_=>by
  intro v bQ
  simp only[af.cells,List.mem_map] at bQ
  obtain⟨x,_,rfl⟩:=bQ
  rfl
 | .dt l,a_=>af.acH l (by simpa [af.flat] using a_)
 | .ja l,a_=>by simp[af.flat] at a_
 | .v x,a_=>by simpa [af.cells,af.flat] using a_
 | .no,a_=>by simp[af.flat] at a_
theorem af.acH:∀(l:List af),af.vZ l=true->∀v∈af.gn l,v.oneCell'=true
 | [],_=>by simp[af.gn]
 | a::l,a_=>by
  simp only[af.vZ,Bool.and_eq_true] at a_
  intro v bQ
  simp only[af.gn,List.mem_append] at bQ
  rcases bQ with bQ|bQ
  .exact af.acG a a_.1 v bQ
  .exact af.acH l a_.2 v bQ
end
mutual
theorem af.v8:∀(s:af),(af.cells s).length=af.size s
 | .i k n=>rfl
 | .u x=>rfl
 | .b x=>rfl
 | .p q=>rfl
 | .hM q=>rfl
 | .s x=>rfl
 | .str x=>rfl
 | .m r=>rfl
 | .f g c=>rfl
 | .ws n c=>by simp[af.cells,af.size]
 | .dt l=>by simp[af.cells,af.size,af.KP l]
 | .ja l=>rfl
 | .v x=>rfl
 | .no=>rfl
theorem af.KP:∀(l:List af),(af.gn l).length=af.q8 l
 | []=>rfl
 | a::l=>by simp[af.gn,af.q8,af.v8 a,af.KP l]
end

/- Runs of a store, whatever law speaks of them. -/
import Derived.Test.YtofgadhgljjhgaaGreatStoN
import Derived.Test.YtofgadhgljjhgaaGreatStoL
import Derived.Test.YtofgadhgljjhgaaGreatPla
namespace Go.Sh
def pickN (c:Int) (n:Nat):Nat:=(if c<0 then -(c+1) else c).toNat%n
theorem pickN_lt (c:Int) {n:Nat} (h:0<n):pickN c n<n:=Nat.mod_lt _ h
end Go.Sh
namespace Go.Proofs.Tryz
open Go Go.Sh Go.RowKit
set_option maxRecDepth 8000
end Go.Proofs.Tryz
/- Chapter 11's laws: a store that is made for them. -/
namespace Go.Proofs.Tryz
open Go Go.Sh Go.RowKit
set_option maxRecDepth 8000
def mkG (m s t L:Nat):SP:=⟨m,L,s,t,fun h=>roundE (plc (m-2*h) s t),1⟩
theorem mkG_ok {m s t L:Nat} (hm:m≤10) (hs:1≤s∧s≤8) (ht:1≤t∧t≤64) (hL:1≤L∧L≤4):(mkG m s t L).Ok:=by
 refine⟨hm,hL,fun h=>?_⟩
 have lo:LevOk (m-2*h) (s:Int) (t:Int):=⟨by omega,by omega,by omega⟩
 have hb:=lo.plcB
 have htb:=lo.tblB
 refine⟨(show m-2*h≤10 by omega),hs,ht,?_,?_⟩
 · show roundE (plc (m-2*h) s t)≤8
   exact roundE_le (by omega) (by simp;omega)
 · have e:tbl (m-2*h) s t=2 ^ roundE (plc (m-2*h) s t):=roundI_E _
   have e2:plc (m-2*h) s t=(((mkG m s t L).lp h).n:Nat):=plc_n ((mkG m s t L).lp h)
   show((mkG m s t L).lp h).n≤2 ^ roundE (plc (m-2*h) s t)
   have e3:((2 ^ roundE (plc (m-2*h) s t):Nat):Int)=2 ^ roundE (plc (m-2*h) s t):=by simp
   refine Int.ofNat_le.1 ?_
   rw[e3,←e2,←e];exact htb.1
theorem tdiv_in {n k:Int} (hk:2≤k) (h1: -9223372036854775808≤n) (h2:n≤9223372036854775807): -9223372036854775808≤n.tdiv k∧n.tdiv k≤9223372036854775807:=by
 have h:(n.tdiv k).natAbs=n.natAbs/k.natAbs:=Int.natAbs_tdiv n k
 have h3:n.natAbs/k.natAbs≤n.natAbs/2:=Nat.div_le_div_left (by omega) (by decide)
 omega
def levN (m s t h:Nat):List Nat:=[s*(2 ^ (m-2*h+1)-1),t,2 ^ roundE (plc (m-2*h) s t)]
def sizesN (p m s t L n:Nat):List Nat:=p::2 ^ (m-2*(L-1))::(List.range n).flatMap (levN m s t)
theorem sizesN_succ (p m s t L n:Nat):sizesN p m s t L (n+1)=sizesN p m s t L n++levN m s t n:=by simp[sizesN,List.range_succ]
theorem sizesN_length (p m s t L n:Nat):(sizesN p m s t L n).length=3*n+2:=by
 induction n with
 | zero=>rfl
 | succ n ih=>rw[sizesN_succ,List.length_append,ih];simp[levN];omega
theorem sizesN_get (p m s t L:Nat):∀n h j,h<n→j<3→(sizesN p m s t L n).getD (2+3*h+j) 0=(levN m s t h).getD j 0
 | 0,h,j,hh,_=>by omega
 | n+1,h,j,hh,hj=>by
   rw[sizesN_succ]
   have hl:=sizesN_length p m s t L n
   by_cases c:h<n
   · have:(sizesN p m s t L n++levN m s t n).getD (2+3*h+j) 0=(sizesN p m s t L n).getD (2+3*h+j) 0:=by
       simp only[List.getD];rw[List.getElem?_append_left (by omega)]
     rw[this];exact sizesN_get p m s t L n h j c hj
   · have:h=n:=by omega
     subst this
     simp only[List.getD]
     rw[List.getElem?_append_right (by omega),hl,show 2+3*h+j-(3*h+2)=j by omega]
theorem levN_cast {m s t:Nat} (h:Nat):levL m s t h=(levN m s t h).map fun n:Nat=>(n:Int):=by
 have hp:1≤2 ^ (m-2*h):=Nat.one_le_two_pow
 have e:tbl (m-2*h) s t=2 ^ roundE (plc (m-2*h) s t):=roundI_E _
 unfold levL levN
 rw[e]
 simp only[List.map_cons,List.map_nil]
 rw[Nat.pow_succ,Int.natCast_mul,Int.natCast_sub (by omega)]
 simp[Int.mul_comm]
theorem sizesN_cast (p m s t L:Nat):∀n,(p:Int)::sizesL m s t L n=(sizesN p m s t L n).map fun n:Nat=>(n:Int)
 | 0=>by simp[sizesL,sizesN]
 | n+1=>by rw[sizesL_succ,sizesN_succ,List.map_append,←sizesN_cast p m s t L n,levN_cast];rfl
end Go.Proofs.Tryz
/- Chapter 11's laws: what is made for them. -/
namespace Go.Proofs.Tryz
open Go Go.Sh Go.RowKit
set_option maxRecDepth 8000
def S00:SSt:=⟨fun _ _=>cel0,0,fun _=>false,fun _=>[],[]⟩
abbrev nilS:Sl:=⟨none,0,0,none⟩
end Go.Proofs.Tryz
/- Chapter 11's laws: a run of accesses. -/
namespace Go.Sh
end Go.Sh
namespace Go.Proofs.Tryz
open Go Go.Sh Go.RowKit
set_option maxRecDepth 8000
structure SRun (G:SP) (ws:List UInt64) (B:StB) (a:Nat) (S:SSt) (ev:List Ev) (es gs:Sl) (h:Hp):Prop where
 r:StR G ws B S ev es gs h
 ai:AI G (fun p=>ws.getD p 0) 0 S.used S
 us:S.used=0+2*G.L*a
 gl:S.gone.length=G.L*a
 ev:ev=storeEv G.m G.s G.t G.L G.f (S.gone.map fun y=>(y.1:Int)) a
section
variable {G:SP} {ws:List UInt64} {B:StB} {a:Nat} {S:SSt} {ev:List Ev} {es gs:Sl} {h h':Hp}
end
end Go.Proofs.Tryz
/- Chapter 11's laws: the example at the head. -/
namespace Go.Sh
end Go.Sh
namespace Go.Proofs.Tryz
open Go Go.Sh Go.RowKit
set_option maxRecDepth 8000
end Go.Proofs.Tryz
/- Chapter 11's laws: what a run of accesses comes to, step by step. -/
namespace Go.Sh
theorem goDn_mono {G:SP} {w:Nat→UInt64} (op:LOp) (u x:Nat):∀h v p S h',(goDn G w u op x h v p S).1.over h'=false→S.over h'=false
 | 0,v,p,S,h',hf=>by
   by_cases c:h'=0
   · have hf:(if h'=0 then S.over 0||_ else S.over h')=false:=hf
     rw[if_pos c,Bool.or_eq_false_iff] at hf
     rw[c];exact hf.1
   · have hf:(if h'=0 then S.over 0||_ else S.over h')=false:=hf
     rw[if_neg c] at hf;exact hf
 | h+1,v,p,S,h',hf=>by
   let S1:SSt:={ S with gone:=S.gone++[way v p (G.leaf w (h+1) (G.fp u (h+1)+1),G.fp u (h+1)+1)] }
   let o1:LOp:= .part (2*(x/4 ^ h%4)) (UInt64.ofNat (G.leaf w h (G.fp u h)+1)) (UInt64.ofNat (G.fp u h))
   let S2:=G.acc (h+1) o1 (bid x (h+1)) (way v p (G.leaf w (h+1) (G.fp u (h+1)+1),G.fp u (h+1)+1)).1 (G.leaf w (h+1) (G.fp u (h+1))) S1
   let ol:=(G.old (h+1) (bid x (h+1)) (way v p (G.leaf w (h+1) (G.fp u (h+1)+1),G.fp u (h+1)+1)).1 S1).1
   have h2:S2.over h'=false:=goDn_mono op u x h (dget ol (2*(x/4 ^ h%4))) (dget ol (2*(x/4 ^ h%4)+1)) S2 h' hf
   by_cases c:h'=h+1
   · have h2:(if h'=h+1 then S.over (h+1)||_ else S.over h')=false:=h2
     rw[if_pos c,Bool.or_eq_false_iff] at h2
     rw[c];exact h2.1
   · have h2:(if h'=h+1 then S.over (h+1)||_ else S.over h')=false:=h2
     rw[if_neg c] at h2;exact h2
theorem stAcc_mono {G:SP} {w:Nat→UInt64} (op:LOp) (x:Nat) (S:SSt) (h':Nat):(stAcc G w op x S).1.over h'=false→S.over h'=false:=goDn_mono op _ x _ _ _ _ h'
def opOf (k:Int) (d:Dat):LOp:=if k=0 then .look else if k=1 then .put d else .drop
def Live (G:SP) (S:SSt) (A:UInt64→Option Dat):Prop:=∃Bs K,NI G S Bs K A
def updA (A:UInt64→Option Dat) (op:LOp) (x:UInt64):UInt64→Option Dat:=fun id=>if id=x then op.now (outA A id).1 (outA A id).2 else A id
theorem updA_ne {A:UInt64→Option Dat} {op:LOp} {x id:UInt64} (h:id≠x):updA A op x id=A id:=if_neg h
theorem updA_eq {A:UInt64→Option Dat} {op:LOp} {x:UInt64}:updA A op x x=op.now (outA A x).1 (outA A x).2:=if_pos rfl
theorem bid_zero (x:Nat):bid x 0=UInt64.ofNat x:=by unfold bid;simp
end Go.Sh
namespace Go.Proofs.Tryz
open Go Go.Sh Go.RowKit
set_option maxRecDepth 8000
section
variable {G:SP} {ws:List UInt64} {B:StB} {a:Nat} {S:SSt} {ev:List Ev} {es gs:Sl} {h:Hp}
end
end Go.Proofs.Tryz

import Derived.Test.YtofgadhgljjhgaaGreatEvC
namespace Go.Proofs.Tryz
open Go Go.cD Go.RowKit
set_option maxRecDepth 8000
def w5 (m L:Nat):Nat:=2 ^ (m-2*(L-1))
def oc (m:Nat)(s t:Int)(L:Nat)(first:Int)(ls:List Int)(n:Nat):List de:=(List.range n).flatMap λi=>ob (m-2*(L-1-i)) s t (first+1+3*((L-1-i:Nat):Int)) (ls.getD i 0).toNat
theorem BD (m:Nat)(s t:Int)(L:Nat)(first:Int)(ls:List Int)(n:Nat):oc m s t L first ls (n+1)=oc m s t L first ls n++ob (m-2*(L-1-n)) s t (first+1+3*((L-1-n:Nat):Int)) (ls.getD n 0).toNat:=by simp[oc,List.range_succ]
def qw (m:Nat)(s t:Int)(L:Nat)(first:Int)(ls:List Int):List de:=reads first (w5 m L)++writes first (w5 m L)++oc m s t L first ls L
def ajb (m:Nat)(s t:Int)(L:Nat)(first:Int)(b2:List Int)(n:Nat):List de:=(List.range n).flatMap λc=>qw m s t L first (b2.drop (c*L))
theorem ajc {k:Nat}{s t:Int}(o:lR k s t)(first:Int)(leaf:Nat):(ob k s t first leaf).length<=1000000:=by
 have aS:=o.AM
 have jJ:lb (iw k s t)<=8:=VU (by omega) (by simp;omega)
 have fW:2 ^ lb (iw k s t)<=256:=Nat.pow_le_pow_right (n:=2) (by decide) jJ
 have kt:=aiF o first leaf
 have aa:=Nt first (gM k s t first leaf) (2 ^ lb (iw k s t))
 have ad:=Nv first (gM k s t first leaf) (gM k s t first leaf).length
 have Nw:=EN (K:=lb (iw k s t)) (by omega)
 have ajd:(w4 (first+2) (lb (iw k s t))).length=4*(gT (lb (iw k s t))).length:=IG _ _
 simp only[ob,iO,List.length_append,ru,ajd]
 omega
theorem Nx {m:Nat}{s t:Int}{L:Nat}(o:o7 m s t L)(first:Int)(ls:List Int)(n:Nat):(oc m s t L first ls n).length<=1000000*n:=by
 induction n with
 | zero=>simp[oc]
 | succ n dK=>rw[BD,List.length_append];have:=ajc (o.gy (L-1-n)) (first+1+3*((L-1-n:Nat):Int)) (ls.getD n 0).toNat;omega
theorem aje {m:Nat}{s t:Int}{L:Nat}(o:o7 m s t L):1<=w5 m L/\w5 m L<=1024/\((w5 m L:Nat):Int)=2 ^ (m-2*(L-1)):=by
 have aa:2 ^ (m-2*(L-1))<=2 ^ 10:=Nat.pow_le_pow_right (by decide) (by have:=o.m;omega)
 have ad:0<2 ^ (m-2*(L-1)):=Nat.pow_pos (by decide)
 exact⟨ad,aa,by simp[w5]⟩
theorem af2 {m:Nat}{s t:Int}{L:Nat}(o:o7 m s t L)(first:Int)(ls:List Int):(qw m s t L first ls).length<=5000000:=by
 have aa:=Nx o first ls L
 have ad:=aje o
 have:=o.L
 simp only[qw,List.length_append,wG,ru];omega

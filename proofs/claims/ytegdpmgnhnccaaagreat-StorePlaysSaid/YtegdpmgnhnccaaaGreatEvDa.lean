import Derived.Test.YtegdpmgnhnccaaaGreatEvC
namespace Go.Proofs.Tryz
open Go Go.cQ Go.RowKit
set_option maxRecDepth 8000
def uB (m L:Nat):Nat:=2 ^ (m-2*(L-1))
def mJ (m:Nat)(s t:Int)(L:Nat)(first:Int)(ls:List Int)(n:Nat):List dt:=(List.range n).flatMap λi=>mI (m-2*(L-1-i)) s t (first+1+3*((L-1-i:Nat):Int)) (ls.getD i 0).toNat
theorem yJ (m:Nat)(s t:Int)(L:Nat)(first:Int)(ls:List Int)(n:Nat):mJ m s t L first ls (n+1)=mJ m s t L first ls n++mI (m-2*(L-1-n)) s t (first+1+3*((L-1-n:Nat):Int)) (ls.getD n 0).toNat:=by simp[mJ,ato]
def qM (m:Nat)(s t:Int)(L:Nat)(first:Int)(ls:List Int):List dt:=reads first (uB m L)++writes first (uB m L)++mJ m s t L first ls L
def s0 (m:Nat)(s t:Int)(L:Nat)(first:Int)(bS:List Int)(n:Nat):List dt:=(List.range n).flatMap λc=>qM m s t L first (bS.drop (c*L))
theorem BD (m:Nat)(s t:Int)(L:Nat)(first:Int)(bS:List Int)(n:Nat):s0 m s t L first bS (n+1)=s0 m s t L first bS n++qM m s t L first (bS.drop (n*L)):=by simp[s0,ato]
theorem abP {k:Nat}{s t:Int}(o:kv k s t)(first:Int)(leaf:Nat):(mI k s t first leaf).length<=1000000:=by
 have aM:=o.ys;have h7:j1 (ht k s t)<=8:=PW (by omega) (by simp;omega);have iR:2 ^ j1 (ht k s t)<=256:=atg (n:=2) (by decide) h7;have jd:=abh o first leaf
 have aa:=IF first (fV k s t first leaf) (2 ^ j1 (ht k s t))
 have ad:=IH first (fV k s t first leaf) (fV k s t first leaf).length
 have II:=Bu (K:=j1 (ht k s t)) (by omega);have abQ:(uA (first+2) (j1 (ht k s t))).length=4*(fX (j1 (ht k s t))).length:=EE _ _;simp only[mI,hI,as9,rH,abQ];omega
theorem IJ {m:Nat}{s t:Int}{L:Nat}(o:mK m s t L)(first:Int)(ls:List Int)(n:Nat):(mJ m s t L first ls n).length<=1000000*n:=by
 induction n with
 | zero=>simp[mJ]
 | succ n c6=>rw[yJ,as9];have:=abP (o.fu (L-1-n)) (first+1+3*((L-1-n:Nat):Int)) (ls.getD n 0).toNat;omega
theorem abR {m:Nat}{s t:Int}{L:Nat}(o:mK m s t L):1<=uB m L/\uB m L<=1024/\((uB m L:Nat):Int)=2 ^ (m-2*(L-1)):=by
 have aa:2 ^ (m-2*(L-1))<=2 ^ 10:=atg (by decide) (by have:=o.m;omega);have ad:0<2 ^ (m-2*(L-1)):=at5 (by decide);exact⟨ad,aa,by simp[uB]⟩
theorem abS {m:Nat}{s t:Int}{L:Nat}(o:mK m s t L)(first:Int)(ls:List Int):(qM m s t L first ls).length<=5000000:=by
 have aa:=IJ o first ls L
 have ad:=abR o;have:=o.L;simp only[qM,as9,Bo,rH];omega
theorem IK {m:Nat}{s t:Int}{L:Nat}(o:mK m s t L)(first:Int)(bS:List Int)(n:Nat):(s0 m s t L first bS n).length<=5000000*n:=by
 induction n with
 | zero=>simp[s0]
 | succ n c6=>rw[BD,as9];have:=abS o first (bS.drop (n*L));omega

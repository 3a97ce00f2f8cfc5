/- Stores: how accesses look at cells. -/
import Derived.Test.YtofgadhgljjhgaaGreatEvC
namespace Go.Proofs.Tryz
open Go Go.Sh Go.RowKit
set_option maxRecDepth 8000
def topN (m L:Nat):Nat:=2 ^ (m-2*(L-1))
def oneEv (m:Nat) (s t:Int) (L:Nat) (first:Int) (ls:List Int) (n:Nat):List Ev:=(List.range n).flatMap fun i=>levEv (m-2*(L-1-i)) s t (first+1+3*((L-1-i:Nat):Int)) (ls.getD i 0).toNat
theorem oneEv_succ (m:Nat) (s t:Int) (L:Nat) (first:Int) (ls:List Int) (n:Nat):oneEv m s t L first ls (n+1)=oneEv m s t L first ls n++levEv (m-2*(L-1-n)) s t (first+1+3*((L-1-n:Nat):Int)) (ls.getD n 0).toNat:=by simp[oneEv,List.range_succ]
def accEv (m:Nat) (s t:Int) (L:Nat) (first:Int) (ls:List Int):List Ev:=reads first (topN m L)++writes first (topN m L)++oneEv m s t L first ls L
def storeEv (m:Nat) (s t:Int) (L:Nat) (first:Int) (lv:List Int) (n:Nat):List Ev:=(List.range n).flatMap fun c=>accEv m s t L first (lv.drop (c*L))
theorem levEv_length {k:Nat} {s t:Int} (o:LevOk k s t) (first:Int) (leaf:Nat):(levEv k s t first leaf).length≤1000000:=by
 have hp:=o.plcB
 have hE:roundE (plc k s t)≤8:=roundE_le (by omega) (by simp;omega)
 have hT:2 ^ roundE (plc k s t)≤256:=Nat.pow_le_pow_right (n:=2) (by decide) hE
 have hsl:=spotsL_length o first leaf
 have h1:=fillEv_length first (spotsL k s t first leaf) (2 ^ roundE (plc k s t))
 have h2:=backEv_length first (spotsL k s t first leaf) (spotsL k s t first leaf).length
 have hso:=pairsL_length (K:=roundE (plc k s t)) (by omega)
 have hsl4:(sortEv (first+2) (roundE (plc k s t))).length=4*(pairsL (roundE (plc k s t))).length:=sort4_length _ _
 simp only[levEv,turnEv,List.length_append,writes_length,hsl4]
 omega
theorem oneEv_length {m:Nat} {s t:Int} {L:Nat} (o:StOk m s t L) (first:Int) (ls:List Int) (n:Nat):(oneEv m s t L first ls n).length≤1000000*n:=by
 induction n with
 | zero=>simp[oneEv]
 | succ n ih=>rw[oneEv_succ,List.length_append];have:=levEv_length (o.lev (L-1-n)) (first+1+3*((L-1-n:Nat):Int)) (ls.getD n 0).toNat;omega
theorem topN_le {m:Nat} {s t:Int} {L:Nat} (o:StOk m s t L):1≤topN m L∧topN m L≤1024∧((topN m L:Nat):Int)=2 ^ (m-2*(L-1)):=by
 have h1:2 ^ (m-2*(L-1))≤2 ^ 10:=Nat.pow_le_pow_right (by decide) (by have:=o.m;omega)
 have h2:0<2 ^ (m-2*(L-1)):=Nat.pow_pos (by decide)
 exact⟨h2,h1,by simp[topN]⟩
theorem accEv_length {m:Nat} {s t:Int} {L:Nat} (o:StOk m s t L) (first:Int) (ls:List Int):(accEv m s t L first ls).length≤5000000:=by
 have h1:=oneEv_length o first ls L
 have h2:=topN_le o
 have:=o.L
 simp only[accEv,List.length_append,reads_length,writes_length];omega
end Go.Proofs.Tryz

/- Blocks: how many entries a map has: walked by the kit's own tactics. -/
import Derived.Test.YtofgadhgljjhgaaGreatLevG
import Derived.Lib.Walk
import Derived.Lib.Small
namespace Go.Proofs.Tryz
open Go Go.Sh Go.RowKit
set_option maxHeartbeats 4000000 in
set_option maxRecDepth 100000 in
theorem level_over {h:Hp} {lb:Nat} {c:Array Value} {t:TypeId} {b:Bool} (e:h lb=some (.cells c t (0,0))) (h2:c[5]? =some (.bool b)) :
   callK prog 49 [vp ⟨lb,0⟩] h fun v h'=>v= .bool b∧h'=h:=by
 refine c49 _ ?_
 unfold G49
 exact⟨_,rd1 e h2,rfl,rfl⟩
section
variable {T:TypeId} {m:MS} {R:Regs} {ev:List Ev} {es:Sl} {h:Hp}
theorem level_new {P:LP} {f:Nat} (o:P.Ok) (L:LvM m P f) (M:MemR T m R ev es h) :
   callK prog 74 [vp ⟨m.b,0⟩,.int .i64 f,.agg #[.int .i64 (2 ^ P.k),.int .i64 P.s,.int .i64 P.t]] h fun v h'=>∃(lb mp:Nat),v= .tuple #[vp ⟨lb,0⟩,.int .i64 0]∧h' lb=some (.cells (lvc P m.b f false mp) 193 (0,0))∧MapI h' mp []∧h lb=none∧h mp=none∧lb≠mp∧Keep h h':=by
 have ol:=o.lev
 have hf:=L.hf
 have hnr:=L.nr
 refine c74 _ _ _ _ _ ?_
 unfold G74
 refine newC fun b1 h1 f1 e1 k1=>rd3 e1 ?_
 refine(level_sizes ol).to fun h2 k2=>⟨_,_,_,rfl,rd3 (k2.get e1) ?_⟩
 refine(level_right ol).to fun h3 k3=>⟨_,rfl,ifB_neg rfl ?_⟩
 have k03:=(k1.trans k2).trans k3
 have e13:=(k2.trans k3).get e1
 have M3:=M.keep k03
 have eT:((2 ^ P.k:Nat):Int)=2 ^ P.k:=by simp
 have s0:((P.s*(2 ^ (P.k+1)-1):Nat):Int)=P.s*(2*2 ^ P.k-1):=by
   have hp:1≤2 ^ P.k:=Nat.one_le_two_pow
   rw[Nat.pow_succ,Int.natCast_mul,Int.natCast_sub (by omega)];simp[Int.mul_comm]
 refine(mem_size M3 (r:=f) (by omega)).mono ?_
 rintro _ _ ⟨rfl,rfl⟩
 refine⟨_,rfl,ifB_neg ?_ ?_⟩
 · show decide (((m.rn f:Nat):Int)<_)=false
   rw[L.r0,s0];exact decide_eq_false (by omega)
 rw[show w64 ((f:Int)+1)=((f+1:Nat):Int) by rw[w64_id (by omega) (by omega)];omega,show w64 ((f:Int)+2)=((f+2:Nat):Int) by rw[w64_id (by omega) (by omega)];omega]
 refine(mem_size M3 (r:=f+1) (by omega)).mono ?_
 rintro _ _ ⟨rfl,rfl⟩
 refine⟨_,rfl,ifB_neg ?_ ?_⟩
 · show decide (((m.rn (f+1):Nat):Int)<_)=false
   rw[L.r1];exact decide_eq_false (by omega)
 refine(mem_size M3 (r:=f+2) (by omega)).mono ?_
 rintro _ _ ⟨rfl,rfl⟩
 refine⟨_,rfl,ifB_neg ?_ ?_⟩
 · show decide (((m.rn (f+2):Nat):Int)<_)=false
   rw[L.r2,L.tbl];simp
 refine rd3 e13 (newC fun b2 h4 f4 e4 k4=>newC fun b3 h5 f5 e5 k5=>?_)
 have n32:b2≠b3:=fun e=>by rw[←e,e4] at f5;cases f5
 exact⟨b3,b2,rfl,e5,⟨[],0,k5.get e4,rfl⟩,(k03.trans k4).free f5,k03.free f4,Ne.symm n32,(k03.trans k4).trans k5⟩
end
end Go.Proofs.Tryz

/- Chapter 11's laws over steps: what holds of each step; the meaning of a step's raw numbers. -/
import Derived.Test.YtolgmdbjomlcjaaGreatLaw
import Derived.Test.YtolgmdbjomlcjaaGreatShRec
namespace Go.Sh
theorem meets_ge {op : LOp} {id : UInt64} {l : List UInt64} : l.length ≤ (meets op id l).length := by
  cases op <;> simp only [meets]
  · omega
  · split <;> simp
  · split <;> simp
  · omega
theorem goDn_grows {G : SP} {w : Nat → UInt64} (op : LOp) (u x : Nat) : ∀ h v p S h', (S.ids h').length ≤ ((goDn G w u op x h v p S).1.ids h').length
  | 0, v, p, S, h' => by
    by_cases c : h' = 0
    · show _ ≤ (if h' = 0 then meets op (bid x 0) (S.ids 0) else S.ids h').length
      rw [if_pos c, c]; exact meets_ge
    · show _ ≤ (if h' = 0 then meets op (bid x 0) (S.ids 0) else S.ids h').length
      rw [if_neg c]; omega
  | h + 1, v, p, S, h' => by
    let S1 : SSt := { S with gone := S.gone ++ [way v p (G.leaf w (h + 1) (G.fp u (h + 1) + 1), G.fp u (h + 1) + 1)] }
    let o1 : LOp := .part (2 * (x / 4 ^ h % 4)) (UInt64.ofNat (G.leaf w h (G.fp u h) + 1)) (UInt64.ofNat (G.fp u h))
    let S2 := G.acc (h + 1) o1 (bid x (h + 1)) (way v p (G.leaf w (h + 1) (G.fp u (h + 1) + 1), G.fp u (h + 1) + 1)).1 (G.leaf w (h + 1) (G.fp u (h + 1))) S1
    let ol := (G.old (h + 1) (bid x (h + 1)) (way v p (G.leaf w (h + 1) (G.fp u (h + 1) + 1), G.fp u (h + 1) + 1)).1 S1).1
    have h2 := goDn_grows (G := G) (w := w) op u x h (dget ol (2 * (x / 4 ^ h % 4))) (dget ol (2 * (x / 4 ^ h % 4) + 1)) S2 h'
    show _ ≤ ((goDn G w u op x h (dget ol (2 * (x / 4 ^ h % 4))) (dget ol (2 * (x / 4 ^ h % 4) + 1)) S2).1.ids h').length
    refine Nat.le_trans ?_ h2
    show _ ≤ (if h' = h + 1 then meets o1 (bid x (h + 1)) (S.ids (h + 1)) else S.ids h').length
    by_cases c : h' = h + 1
    · rw [if_pos c, c]; exact meets_ge
    · rw [if_neg c]; omega
theorem stAcc_grows {G : SP} {w : Nat → UInt64} (op : LOp) (x : Nat) (S : SSt) (h' : Nat) : (S.ids h').length ≤ ((stAcc G w op x S).1.ids h').length := goDn_grows (G := G) (w := w) op S.used x (G.L - 1) (S.R G.f (x / 4 ^ (G.L - 1)))[0] (S.R G.f (x / 4 ^ (G.L - 1)))[1] (G.begin w (x / 4 ^ (G.L - 1)) S) h'
theorem goDn_ids0 {G : SP} {w : Nat → UInt64} (op : LOp) (u x : Nat) : ∀ h v p S, (goDn G w u op x h v p S).1.ids 0 = meets op (bid x 0) (S.ids 0)
  | 0, v, p, S => by show (if (0 : Nat) = 0 then meets op (bid x 0) (S.ids 0) else S.ids 0) = _; rw [if_pos rfl]
  | h + 1, v, p, S => by
    let S1 : SSt := { S with gone := S.gone ++ [way v p (G.leaf w (h + 1) (G.fp u (h + 1) + 1), G.fp u (h + 1) + 1)] }
    let o1 : LOp := .part (2 * (x / 4 ^ h % 4)) (UInt64.ofNat (G.leaf w h (G.fp u h) + 1)) (UInt64.ofNat (G.fp u h))
    let S2 := G.acc (h + 1) o1 (bid x (h + 1)) (way v p (G.leaf w (h + 1) (G.fp u (h + 1) + 1), G.fp u (h + 1) + 1)).1 (G.leaf w (h + 1) (G.fp u (h + 1))) S1
    let ol := (G.old (h + 1) (bid x (h + 1)) (way v p (G.leaf w (h + 1) (G.fp u (h + 1) + 1), G.fp u (h + 1) + 1)).1 S1).1
    have h2 := goDn_ids0 (G := G) (w := w) op u x h (dget ol (2 * (x / 4 ^ h % 4))) (dget ol (2 * (x / 4 ^ h % 4) + 1)) S2
    show (goDn G w u op x h (dget ol (2 * (x / 4 ^ h % 4))) (dget ol (2 * (x / 4 ^ h % 4) + 1)) S2).1.ids 0 = _
    rw [h2]
    show meets op (bid x 0) (if 0 = h + 1 then meets o1 (bid x (h + 1)) (S.ids (h + 1)) else S.ids 0) = _
    rw [if_neg (by omega)]
theorem stAcc_ids0 {G : SP} {w : Nat → UInt64} (op : LOp) (x : Nat) (S : SSt) : (stAcc G w op x S).1.ids 0 = meets op (bid x 0) (S.ids 0) := goDn_ids0 (G := G) (w := w) op S.used x (G.L - 1) (S.R G.f (x / 4 ^ (G.L - 1)))[0] (S.R G.f (x / 4 ^ (G.L - 1)))[1] (G.begin w (x / 4 ^ (G.L - 1)) S)
/-- a step, of a store of so many blocks -/
def StepV.o (x : StepV) : LOp := opOf (opN x.op) (dataV x.n)
def StepV.x (m : Nat) (x : StepV) : Nat := x.id.toNat % 2 ^ m
theorem StepV.x_lt (m : Nat) (x : StepV) : x.x m < 2 ^ m := Nat.mod_lt _ (Nat.pow_pos (by decide))
end Go.Sh
namespace Go.Proofs.Tryz
open Go Go.Sh Go.RowKit
set_option maxRecDepth 8000
theorem law_start {h : Hp} {n : Int} (n1 : -9223372036854775808 ≤ n) (n2 : n ≤ 9223372036854775807) {sw : Sl} {ws : List UInt64} (rw_ : RdS vu h sw ws) (hlw : ws.length * 8 ≤ 140737488355328) {K : Nat → Value → Hp → Prop}
    (hk : ∀ b1 h4 h5 (B : StB), Keep h h4 → h4 b1 = some (.cells #[.int .i64 (2 ^ (cfgG n).m), .int .i64 ((cfgG n).s : Int), .int .i64 ((cfgG n).t : Int), .int .i64 ((cfgG n).L : Int)] 26 (0, 0)) → Keep h4 h5 → StR (cfgG n) ws B S00 [] nilS nilS h5 → StM (cfgG n) B → (∀ x, SFo (cfgG n) B nilS nilS x → h4 x = none) → K b1 (.tuple #[vp ⟨B.m.b, 0⟩, vp ⟨B.tb, 0⟩, vp ⟨B.sb, 0⟩]) h5) :
    callK prog 13 [Value.int IntKind.i64 n] h fun (v2 : Value) (h2 : Hp) => ∃ (n1 : Int), ∃ (n2 : Int), ∃ (n3 : Int), ∃ (n4 : Int), v2 = Value.agg #[Value.int IntKind.i64 n1, Value.int IntKind.i64 n2, Value.int IntKind.i64 n3, Value.int IntKind.i64 n4] ∧ newK h2 (Obj.cells #[Value.int IntKind.i64 0, Value.int IntKind.i64 0, Value.int IntKind.i64 0, Value.int IntKind.i64 0] 26) fun (b1 : Nat) (h3 : Hp) => storeK h3 { b := b1, o := 0 } [Value.int IntKind.i64 n1, Value.int IntKind.i64 n2, Value.int IntKind.i64 n3, Value.int IntKind.i64 n4] fun (h4 : Hp) => ∃ (n5 : Int), hcell h4 b1 0 = some (Value.int IntKind.i64 n5) ∧ ∃ (n6 : Int), hcell h4 b1 (0 + 1) = some (Value.int IntKind.i64 n6) ∧ ∃ (n7 : Int), hcell h4 b1 (0 + 1 + 1) = some (Value.int IntKind.i64 n7) ∧ ∃ (n8 : Int), hcell h4 b1 (0 + 1 + 1 + 1) = some (Value.int IntKind.i64 n8) ∧ callK prog 14 [Value.agg #[Value.int IntKind.i64 n5, Value.int IntKind.i64 n6, Value.int IntKind.i64 n7, Value.int IntKind.i64 n8], vs sw] h4 fun v3 h5 => K b1 v3 h5 := by
  have p1 := pickN_lt n (n := 6) (by decide)
  have p2 := pickN_lt (n.tdiv 6) (n := 3) (by decide)
  have p3 := pickN_lt (n.tdiv 18) (n := 8) (by decide)
  have p4 := pickN_lt (n.tdiv 144) (n := 3) (by decide)
  refine (law_config n1 n2).to fun h2 k2 => ⟨_, _, _, _, rfl, newC fun b1 h3 f3 e3 k3 => ?_⟩
  refine stW (k2.trans k3) (k2.free f3) e3 rfl fun h4 k4 e4 _ => ⟨_, rd1 e4 rfl, _, rd1 e4 rfl, _, rd1 e4 rfl, _, rd1 e4 rfl, ?_⟩
  refine (law_made (m := pickN n 6) (s := 1 + pickN (n.tdiv 6) 3) (t := 1 + pickN (n.tdiv 18) 8) (L := 1 + pickN (n.tdiv 144) 3) (by omega) (by omega) (by omega) (by omega) (rw_.keep k4) hlw).mono ?_
  rintro _ h5 ⟨B, rfl, RS, st, fB, k5⟩
  exact hk b1 h4 h5 B k4 e4 k5 RS st fB
section
variable {G : SP} {ws : List UInt64} {B : StB} {a : Nat} {S : SSt} {ev : List Ev} {es gs : Sl} {h : Hp}
theorem step_do (o : G.Ok) (st : StM G B) (R : SRun G ws B a S ev es gs h) (ha : a ≤ 1000) {sl : Sl} {l : List StepV} (rl : RdM stepv h sl l) {i : Nat} (hi : i < l.length) {b1 : Nat} (eb : hcell h b1 0 = some (.int .i64 (2 ^ G.m))) {K : Value → Hp → Prop}
    (hk : ∀ ev' es' gs' h2 g, Keep h h2 → SRun G ws B (a + 1) (stAcc G (fun p => ws.getD p 0) l[i].o (l[i].x G.m) S).1 ev' es' gs' g → Mv (SFo G B es gs) h2 (SFo G B es' gs') g →
      K (.tuple #[wv (stAcc G (fun p => ws.getD p 0) l[i].o (l[i].x G.m) S).2.1, .bool (stAcc G (fun p => ws.getD p 0) l[i].o (l[i].x G.m) S).2.2]) g) :
    ∃ (q2 : Pt), Sl.q sl = some q2 ∧ 0 ≤ (i : Int) ∧ (i : Int) + 1 ≤ (sl.len : Int) ∧ ∃ (n10 : Int), hcell h q2.b (q2.o + Int.toNat (i : Int) * 3) = some (Value.int IntKind.i64 n10) ∧ ∃ (q3 : Pt), Sl.q sl = some q3 ∧ 0 ≤ (i : Int) ∧ (i : Int) + 1 ≤ (sl.len : Int) ∧ ∃ (x1 : UInt64), hcell h q3.b (q3.o + Int.toNat (i : Int) * 3 + 1) = some (vu x1) ∧ ∃ (n11 : Int), hcell h b1 0 = some (Value.int IntKind.i64 n11) ∧ (toU n11 = 0 → False) ∧ ∃ (q4 : Pt), Sl.q sl = some q4 ∧ 0 ≤ (i : Int) ∧ (i : Int) + 1 ≤ (sl.len : Int) ∧ ∃ (x2 : UInt64), hcell h q4.b (q4.o + Int.toNat (i : Int) * 3 + 2) = some (vu x2) ∧
      callK prog 15 [Value.int IntKind.i64 n10] h fun (v4 : Value) (h7 : Hp) => ∃ (n12 : Int), v4 = Value.int IntKind.i64 n12 ∧ (hcell h7 q4.b (q4.o + Int.toNat (i : Int) * 3 + 2) = some (vu x2) ∧ True) ∧ (hcell h7 b1 0 = some (Value.int IntKind.i64 n11) ∧ True) ∧ (hcell h7 q3.b (q3.o + Int.toNat (i : Int) * 3 + 1) = some (vu x1) ∧ True) ∧
      callK prog 17 [vu x2] h7 fun (v5 : Value) (h8 : Hp) => ∃ (c1 : Vector UInt64 8), v5 = Value.agg (Array.map vu c1.toArray) ∧ (hcell h8 b1 0 = some (Value.int IntKind.i64 n11) ∧ True) ∧ (hcell h8 q3.b (q3.o + Int.toNat (i : Int) * 3 + 1) = some (vu x1) ∧ True) ∧
      callK prog 16 [vpn (some ⟨B.sb, 0⟩), Value.int IntKind.i64 n12, vu (x1 % toU n11), Value.agg (Array.map vu c1.toArray)] h8 fun v6 h9 => K v6 h9 := by
  have hs := rl.len
  obtain ⟨q, hq⟩ := rl.ptr (by omega)
  obtain ⟨c0, c1, c2, _⟩ := flat_at stepv_length (rl.rd q hq) hi
  obtain ⟨ex, hx, hz⟩ := idx_mod (y := l[i].id) o.m
  refine ⟨q, hq, by omega, by omega, _, c0, q, hq, by omega, by omega, _, c1, _, eb, hz, q, hq, by omega, by omega, _, c2, ?_⟩
  refine (law_op l[i].lo l[i].hi).to fun h1 k1 => ⟨_, rfl, ⟨k1.cell c2, trivial⟩, ⟨k1.cell eb, trivial⟩, ⟨k1.cell c1, trivial⟩, ?_⟩
  refine (law_data l[i].n).to fun h2 k2 => ⟨_, rfl, ⟨k2.cell (k1.cell eb), trivial⟩, ⟨k2.cell (k1.cell c1), trivial⟩, ?_⟩
  rw [ex]
  have hop := opN_ok l[i].op
  refine (run_access o st (R.keep o (k1.trans k2)) ha (opOf_is hop (dataV l[i].n)) hop hx).mono ?_
  rintro _ g ⟨ev3, es3, gs3, rfl, R3, v3⟩
  exact hk ev3 es3 gs3 h2 g (k1.trans k2) R3 v3
end
end Go.Proofs.Tryz
namespace Go.Proofs.Tryz
open Go Go.Sh Go.RowKit
section
variable {G : SP} {ws : List UInt64} {B : StB} {a : Nat} {S : SSt} {ev : List Ev} {es gs : Sl} {h : Hp}
/-- a store stays what it is, while something else is moved -/
theorem SRun.other (o : G.Ok) (R : SRun G ws B a S ev es gs h) {F F' : Nat → Prop} {h' : Hp} (v : Mv F h F' h') (d : ∀ x, SFo G B es gs x → ¬ F x) : SRun G ws B a S ev es gs h' ∧ ∀ x, SFo G B es gs x → ¬ F' x :=
  ⟨⟨R.r.same fun z hz => v.2.1 z (R.r.fdom o hz) (d z hz), R.ai, R.us, R.gl, R.ev⟩, fun x hx => v.out (R.r.fdom o hx) (d x hx)⟩
theorem SRun.loc (o : G.Ok) (R : SRun G ws B a S ev es gs h) {b : Nat} {h1 h2 : Hp} (f : h b = none) (k : Keep h h1) (o5 : ∀ y, y ≠ b → h2 y = h1 y) : SRun G ws B a S ev es gs h2 :=
  ⟨R.r.same fun z hz => by rw [o5 z fun e => R.r.out o f (e ▸ hz), k z (R.r.fdom o hz)], R.ai, R.us, R.gl, R.ev⟩
end
end Go.Proofs.Tryz

/- CuckooRoom. -/
import Derived.Test.YtofgadhgljjhgaaGreatRdL
import Derived.Test.YtofgadhgljjhgaaGreatCukS
namespace Go.Proofs.Tryz
open Go Go.Sh Go.RowKit
set_option maxRecDepth 8000
def bothC (B : StB) (x : IxS) (pk pu py : Pt) : List Value := [vpn (some ⟨B.m.b, 0⟩), vpn (some ⟨B.sb, 0⟩), vpn (some ⟨x.xb, 0⟩), vpn (some pk), vpn (some pu), vpn (some py)]
theorem law_croom {h : Hp} {n : Int} (n1 : -9223372036854775808 ≤ n) (n2 : n ≤ 9223372036854775807) {sw : Sl} {ws : List UInt64} (rw_ : RdS vu h sw ws) (hlw : ws.length * 8 ≤ 140737488355328) {sl : Sl} {l : List StepC} (rl : RdM stepc h sl l) (_ : l.length * 32 ≤ 140737488355328) :
   callK prog 6 [.int .i64 n, vs sw, vs sl] h fun v h' => v = .bool true ∧ Keep h h' := by
 refine c6 _ _ _ ?_
 unfold G6
 refine law_shown.to fun h1 k1 => ⟨_, rfl, ifB_neg rfl (ifB_intro (fun _ => ⟨rfl, k1⟩) fun hl16 => ifB_intro (fun _ => ⟨rfl, k1⟩) fun _ => ?_)⟩
 have hlen : l.length ≤ 16 := by
   have : ¬ (16 : Int) < (sl.len : Int) := of_decide_eq_false hl16
   have := rl.len; omega
 refine (law_made n1 n2 (rw_.keep k1) hlw).mono ?_
 rintro _ h2 ⟨B, x, pk, pu, py, rfl, F, R, fB, k2⟩
 refine ⟨some _, some _, some _, some _, some _, some _, _, rfl, newC fun b1 h3 f3 e3 k3 => ?_⟩
 have f10 : h1 b1 = none := k2.free f3
 refine stW (k2.trans k3) f10 e3 rfl fun h4 k4 e4 o4 => ifB_neg rfl ?_
 have R4 := R.loc F f3 k3 o4
 have nb1 : ¬ SFo (cG n) B nilS nilS b1 := R.r.out F.c.o f3
 have fB1 : ∀ y, SFo (cG n) B nilS nilS y → h1 y = none := fun y hy => fB y (.inl hy)
 have ig0 : IGood (cG n) (xP n x) S00 (fun _ => none) := IGood.zero F.c fun _ _ => rfl
 have hspE : (xP n x).sp = 1 + pickN (n.tdiv 16) 4 := rfl
 have hsl := rl.len
 have hK := F.K
 generalize cG n = G at *
 generalize hX : xP n x = X at *
 refine ⟨fun m1 s1 q1 n2' n3 g kk => n = m1 ∧ sl = s1 ∧ (⟨b1, 0⟩ : Pt) = q1 ∧ ∃ (i a e : Nat) (S : SSt) (ev : List Ev) (es gs : Sl) (M : UInt64 → Option UInt64), n3 = i ∧ i ≤ l.length ∧ kk = l.length - i ∧ a ≤ 100 * i ∧ e ≤ 100 * i ∧ n2' = ((keysL M i).length : Int) ∧ (keysL M i).length ≤ i ∧ IRun G ws B X x a e S ev es gs g ∧ IGood G X S M ∧ (∀ k c, M k = some c → ∃ j, j < i ∧ k = UInt64.ofNat j) ∧ ¬ SFo G B es gs b1 ∧ g b1 = some (.cells (bothC B x pk pu py).toArray 32 (0, 0)) ∧ Keep h1 g ∧ (∀ y, SFo G B es gs y → h1 y = none),
   ⟨l.length, rfl, rfl, rfl, 0, 0, 0, _, [], nilS, nilS, fun _ => none, rfl, by omega, rfl, by omega, by omega, rfl, by simp [keysL], R4, ig0, (fun _ _ h => by cases h), nb1, e4, k4, fB1⟩, ?_⟩
 rintro m1 s1 q1 n2' n3 g kk ⟨rfl, rfl, rfl, i, a, e, S, ev, es, gs, M, rfl, hi, rfl, ha, he, rfl, hmi, Rg, ig, hM, n1g, e1g, kg, Fg⟩
 refine ifD (fun hlt => ?_) fun _ => ⟨rfl, k1.trans kg⟩
 have hi' : i < l.length := by omega
 refine ⟨some ⟨B.m.b, 0⟩, rd1 e1g rfl, (irun_count F Rg (by omega) (key := 0) (by decide) 0).mono ?_⟩
 rintro _ g2 ⟨ev2, es2, rfl, R2, v2⟩
 have e12 := v2.get e1g n1g
 have n12 := v2.out (by rw [e1g]; simp) n1g
 obtain ⟨K2, F2⟩ := v2.keep kg Fg
 have rl2 := rl.keep stepc_length (k1.trans K2)
 obtain ⟨q, hq⟩ := rl2.ptr (by omega)
 obtain ⟨_, _, c2, _⟩ := flat_at stepc_length (rl2.rd q hq) hi'
 refine ⟨_, rfl, some ⟨x.xb, 0⟩, rd1 e12 rfl, q, hq, by omega, by omega, _, c2, ?_⟩
 rw [toU_eq (by omega)]
 have hkey : UInt64.ofNat i + 1 ≠ 0 := fun e => by
   have := congrArg UInt64.toNat e
   rw [UInt64.toNat_add, UInt64.toNat_ofNat'] at this; simp at this; omega
 have hMi : M (UInt64.ofNat i) = none := by
   cases hc : M (UInt64.ofNat i) with
   | none => rfl
   | some c =>
     obtain ⟨j, hj, he'⟩ := hM _ _ hc
     exact absurd he' (ofNat_ne (by omega) (by omega) (by omega))
 refine (cuk_insert F R2 (by omega) (by omega) (UInt64.ofNat i) l[i].cell true).mono ?_
 rintro _ g3 ⟨ev3, es3, gs3, rfl, R3, v3⟩
 have e13 := v3.get e12 n12
 have n13 := v3.out (by rw [e12]; simp) n12
 obtain ⟨K3, F3⟩ := v3.keep K2 F2
 obtain ⟨ig3, iq3⟩ := ig_ins (key := UInt64.ofNat i) (cell := l[i].cell) (on := true) F.c R2.p (by omega) ig (fun _ => hMi)
 have hfb : Fine G (insS G (fun p => ws.getD p 0) X (UInt64.ofNat i) l[i].cell true S).1 → Fine G S := ins_fine
 rw [Bool.true_and] at ig3
 generalize (insS G (fun p => ws.getD p 0) X (UInt64.ofNat i) l[i].cell true S).1 = S3 at *
 generalize (insS G (fun p => ws.getD p 0) X (UInt64.ofNat i) l[i].cell true S).2 = dn at *
 refine ⟨_, rfl, some ⟨B.sb, 0⟩, rd1 e13 rfl, (store_over F.c.o R3.r).mono ?_⟩
 rintro _ g4 ⟨rfl, rfl⟩
 refine ⟨_, rfl, ifB_intro (fun _ => ⟨rfl, k1.trans K3⟩) fun hno => ?_⟩
 have fine3 : Fine G S3 := fun z hz => by
   have := List.any_eq_false.1 hno z (List.mem_range.2 hz)
   simpa using this
 have rl3 := rl.keep stepc_length (k1.trans K3)
 cases dn with
 | false =>
   have hnone := (iq3 fine3).2 rfl
   have hmany : X.sp ≤ (keysL M i).length := by
     obtain ⟨A, _, r, w⟩ := ig (hfb fine3)
     exact full_many r w hnone (by omega) hM
   refine ifB_pos rfl (ifB_neg (by rw [cntS_none hnone]; rfl) ?_)
   refine (law_shape n1 n2).to fun g5 k5 => ⟨_, _, _, rfl, ifB_neg ?_ (ifB_neg rfl (ifB_neg rfl ?_))⟩
   · show decide (((keysL M i).length : Int) < ((1 + pickN (n.tdiv 16) 4 : Nat) : Int)) = false
     exact decide_eq_false (by omega)
   have hk : keysL M (i + 1) = keysL M i := by rw [keysL_succ, hMi]; simp
   refine ⟨l.length - (i + 1), by omega, rfl, rfl, rfl, i + 1, _, _, S3, ev3, es3, gs3, M, w64_id (by omega) (by omega), by omega, rfl, by omega, ?_, by rw [hk], by rw [hk]; omega, R3.keep F k5, ?_, fun k c hc => (hM k c hc).imp fun j hj => ⟨by omega, hj.2⟩, n13, k5.get e13, K3.trans k5, F3⟩
   · show e + 1 + 2 * X.K + 2 ≤ 100 * (i + 1); omega
   · exact ig3
 | true =>
   have ig3 : IGood G X S3 (fun y => if y = UInt64.ofNat i then some l[i].cell else M y) := ig3
   have hk1 : (keysL (fun y => if y = UInt64.ofNat i then some l[i].cell else M y) (i + 1)).length = (keysL M i).length + 1 := by
     rw [keysL_succ, keysL_congr (M := M) (fun j hj => if_neg (ofNat_ne (by omega) (by omega) (by omega)))]
     simp
   refine ifB_neg rfl (ifB_pos rfl (ifB_pos rfl ?_))
   obtain ⟨q', hq'⟩ := rl3.ptr (by omega)
   obtain ⟨c0, _⟩ := flat_at stepc_length (rl3.rd q' hq') hi'
   refine ⟨q', hq', by omega, by omega, _, c0, (law_pick l[i].lo l[i].hi (n := 7) (by decide)).to fun g5 k5 => ⟨_, rfl, ?_⟩⟩
   have R5 := R3.keep F k5
   have e15 := k5.get e13
   refine ifB_intro (fun _ => ?_) fun _ => ?_
   · refine ⟨some ⟨x.xb, 0⟩, rd1 e15 rfl, some ⟨x.xb, 0⟩, rd1 e15 rfl, ?_⟩
     refine (cuk_find F R5 (by omega) (by omega) (UInt64.ofNat i)).mono ?_
     rintro _ g6 ⟨ev6, es6, gs6, rfl, R6, v6⟩
     obtain ⟨K6, F6⟩ := v6.keep (K3.trans k5) F3
     have e16 := v6.get e15 n13
     have n16 := v6.out (by rw [e15]; simp) n13
     refine ⟨_, _, _, rfl, ⟨rd1 e16 rfl, trivial⟩, (cuk_remove F R6 (by omega) (by omega) (UInt64.ofNat i) _ _ _ true).mono ?_⟩
     rintro _ g7 ⟨ev7, es7, gs7, rfl, R7, v7⟩
     obtain ⟨K7, F7⟩ := v7.keep K6 F6
     have e17 := v7.get e16 n16
     have n17 := v7.out (by rw [e16]; simp) n16
     have ig7 := ig_rem F.c R5.p (by omega) ig3 hkey true
     have ig7 : IGood G X (remS G (fun p => ws.getD p 0) X (UInt64.ofNat i) (findS G (fun p => ws.getD p 0) X (UInt64.ofNat i) S3).2.1 (findS G (fun p => ws.getD p 0) X (UInt64.ofNat i) S3).2.2.1 true (findS G (fun p => ws.getD p 0) X (UInt64.ofNat i) S3).1) M := by
       have : (fun y => if y = UInt64.ofNat i then none else if y = UInt64.ofNat i then some l[i].cell else M y) = M := by
         funext y
         by_cases c : y = UInt64.ofNat i
         · rw [if_pos c, c, hMi]
         · rw [if_neg c, if_neg c]
       rw [← this]; exact ig7
     have hk : keysL M (i + 1) = keysL M i := by rw [keysL_succ, hMi]; simp
     refine ⟨rfl, l.length - (i + 1), by omega, rfl, rfl, rfl, i + 1, _, _, _, ev7, es7, gs7, M, w64_id (by omega) (by omega), by omega, rfl, ?_, ?_, ?_, by rw [hk]; omega, R7, ig7, fun k c hc => (hM k c hc).imp fun j hj => ⟨by omega, hj.2⟩, n17, e17, K7, F7⟩
     · show a + 2 * X.K + 2 + 1 ≤ 100 * (i + 1); omega
     · show e + 1 + 2 * X.K + 2 + 3 + 2 ≤ 100 * (i + 1); omega
     · rw [hk, w64_id (n := ((keysL M i).length : Int) + 1) (by omega) (by omega), w64_id (by omega) (by omega)]; omega
   · refine ⟨l.length - (i + 1), by omega, rfl, rfl, rfl, i + 1, _, _, S3, ev3, es3, gs3, (fun y => if y = UInt64.ofNat i then some l[i].cell else M y), w64_id (by omega) (by omega), by omega, rfl, by omega, ?_, ?_, by rw [hk1]; omega, R5, ig3, fun k c hc => ?_, n13, e15, K3.trans k5, F3⟩
     · show e + 1 + 2 * X.K + 2 ≤ 100 * (i + 1); omega
     · rw [hk1, w64_id (by omega) (by omega)]; rfl
     · have hc : (if k = UInt64.ofNat i then some l[i].cell else M k) = some c := hc
       split at hc
       · rename_i h; exact ⟨i, by omega, h⟩
       · exact (hM k c hc).imp fun j hj => ⟨by omega, hj.2⟩
end Go.Proofs.Tryz

/- CuckooOff. -/
import Derived.Test.YtofgadhgljjhgaaGreatRdL
import Derived.Test.YtofgadhgljjhgaaGreatCukS
namespace Go.Proofs.Tryz
open Go Go.Sh Go.RowKit
set_option maxRecDepth 8000
def sp3 (s : Spt) : List Value := [.int .i64 s.1, vu s.2.1, vu s.2.2]
theorem sp3_len (s : Spt) : (sp3 s).length = 3 := rfl
theorem sp3_one (s : Spt) : ∀ v ∈ sp3 s, v.oneCell' = true := by simp [sp3, Value.oneCell', vu]
theorem rt3 : RowM prog 63 40 3 (.agg #[.int .i64 0, .int .u64 0, .int .u64 0]) 24 := ⟨by kernel_rfl, by kernel_rfl, by kernel_rfl, by kernel_rfl, rfl⟩
theorem lt8 {j : Nat} (hj : j ≤ 8) : UInt64.ofNat j < 8 ↔ j < 8 := by
 have : j = 0 ∨ j = 1 ∨ j = 2 ∨ j = 3 ∨ j = 4 ∨ j = 5 ∨ j = 6 ∨ j = 7 ∨ j = 8 := by omega
 rcases this with rfl | rfl | rfl | rfl | rfl | rfl | rfl | rfl | rfl <;> decide
theorem add8 {j : Nat} (hj : j < 8) : UInt64.ofNat j + 1 = UInt64.ofNat (j + 1) := by
 have : j = 0 ∨ j = 1 ∨ j = 2 ∨ j = 3 ∨ j = 4 ∨ j = 5 ∨ j = 6 ∨ j = 7 := by omega
 rcases this with rfl | rfl | rfl | rfl | rfl | rfl | rfl | rfl <;> decide
theorem law_need2 {n : Int} (n1 : -9223372036854775808 ≤ n) (n2 : n ≤ 9223372036854775807) (y z : UInt64) : PureC prog 28 [.int .i64 n, .agg #[.int .i64 2, vu y, vu z, .bool false]] (.int .i64 ((2 * (1 + pickN (n.tdiv 4) 4) * (cG n).L : Nat) : Int)) := by
 intro h
 refine c28 _ _ _ _ _ ?_
 unfold G28
 refine newC fun b1 h1 f1 e1 k1 => (law_shape n1 n2).to fun h2 k2 => ⟨_, _, _, rfl, (law_config n1 n2).to fun h3 k3 => ⟨_, _, _, _, rfl, ?_⟩⟩
 refine ⟨_, rd1 ((k2.trans k3).get e1) rfl, (law_pick (c := 2) (by decide) (by decide) (n := 7) (by decide)).to fun h4 k4 => ⟨_, rfl, ifB_neg rfl (ifB_neg rfl ((law_shape n1 n2).to fun h5 k5 => ⟨_, _, _, rfl, ?_, k1.trans ((k2.trans k3).trans (k4.trans k5))⟩))⟩⟩
 have hp := pickN_lt (n.tdiv 4) (n := 4) (by decide)
 have hL := (cG_ok n).L
 generalize (cG n).L = L at *
 generalize pickN (n.tdiv 4) 4 = K at *
 have : (1 + K) * L ≤ 16 := Nat.le_trans (Nat.mul_le_mul (show 1 + K ≤ 4 by omega) hL.2) (by decide)
 rw [w64_id (n := 2 * ((1 + K : Nat) : Int)) (by omega) (by omega)]
 have e : (2 * ((1 + K : Nat) : Int)) * (L : Int) = ((2 * (1 + K) * L : Nat) : Int) := by simp
 rw [e, w64_id (by rw [Nat.mul_assoc]; omega) (by rw [Nat.mul_assoc]; omega)]
section
variable {G : SP} {ws : List UInt64} {B : StB} {X : XP} {x : IxS} {a e : Nat} {S : SSt} {ev : List Ev} {es gs : Sl} {h : Hp}
theorem ig_sg {M : UInt64 → Option UInt64} (g : IGood G X S M) : ∃ F, SG G X S F (S.R 0) := by
 by_cases f : Fine G S
 · obtain ⟨A, l, _⟩ := g f
   exact ⟨EA A, fun _ => ⟨⟨A, l, fun _ _ => rfl⟩, rfl⟩⟩
 · exact ⟨fun _ => none, fun h => absurd h f⟩
end
abbrev bO (B : StB) (x : IxS) (pk pu py : Pt) : Option Obj := some (.cells #[vpn (some ⟨B.m.b, 0⟩), vpn (some ⟨B.sb, 0⟩), vpn (some ⟨x.xb, 0⟩), vpn (some pk), vpn (some pu), vpn (some py)] 32 (0, 0))
abbrev sO (X : XP) (F0 : Nat → Option KC) (f0 : Nat → Cel) (i : Nat) : Spt := X.spot (UInt64.ofNat i) (F0 (X.blk 0 (UInt64.ofNat i))) (F0 (X.blk 1 (UInt64.ofNat i))) f0
theorem law_coff {h : Hp} {n : Int} (n1 : -9223372036854775808 ≤ n) (n2 : n ≤ 9223372036854775807) {sw : Sl} {ws : List UInt64} (rw_ : RdS vu h sw ws) (hlw : ws.length * 8 ≤ 140737488355328) {sl : Sl} {l : List StepC} (rl : RdM stepc h sl l) (_ : l.length * 32 ≤ 140737488355328) (y : UInt64) :
   callK prog 8 [.int .i64 n, vs sw, vs sl, vu y] h fun v h' => v = .bool true ∧ Keep h h' := by
 refine c8 _ _ _ _ ?_
 unfold G8
 refine law_shown.to fun h1 k1 => ⟨_, rfl, ifB_neg rfl (ifB_intro (fun _ => ⟨rfl, k1⟩) fun hl16 => ifB_intro (fun _ => ⟨rfl, k1⟩) fun _ => ?_)⟩
 have hlen : l.length ≤ 8 := by
   have : ¬ (8 : Int) < (sl.len : Int) := of_decide_eq_false hl16
   have := rl.len; omega
 refine (law_made n1 n2 (rw_.keep k1) hlw).mono ?_
 rintro _ h2 ⟨B, x, pk, pu, py, rfl, F, R, fB, k2⟩
 refine ⟨some _, some _, some _, some _, some _, some _, _, rfl, newC fun b1 h3 f3 e3 k3 => ?_⟩
 have f10 : h1 b1 = none := k2.free f3
 refine stW (k2.trans k3) f10 e3 rfl fun h4 k4 e4 o4 => ifB_neg rfl ?_
 have R4 := R.loc F f3 k3 o4
 have nb1 : ¬ SFo (cG n) B nilS nilS b1 := R.r.out F.c.o f3
 have fB1 : ∀ y, SFo (cG n) B nilS nilS y → h1 y = none := fun y hy => fB y (.inl hy)
 have ig0 : IGood (cG n) (xP n x) S00 (fun _ => none) := IGood.zero F.c fun _ _ => rfl
 have hKE : (xP n x).K = 1 + pickN (n.tdiv 4) 4 := rfl
 have hneed := law_need2 n1 n2 0 0
 have hcfg := law_config n1 n2 (b := ((1 + pickN (n.tdiv 4) 4 : Nat) : Int)) (c := ((1 + pickN (n.tdiv 16) 4 : Nat) : Int))
 have hsl := rl.len
 have hK : (xP n x).K ≤ 16 := F.K
 rw [← hKE] at hneed
 have hL := F.c.o.L
 generalize cG n = G at *
 generalize xP n x = X at *
 have hkey8 : (y % 8).toNat < 8 := by rw [UInt64.toNat_mod]; exact Nat.mod_lt _ (by decide)
 have tn : ∀ {j : Nat}, j ≤ 8 → (UInt64.ofNat j).toNat = j := fun {j} hj => by rw [UInt64.toNat_ofNat']; omega
 refine ⟨fun m1 s1 y1 q1 n2' g kk => n = m1 ∧ sl = s1 ∧ y = y1 ∧ (⟨b1, 0⟩ : Pt) = q1 ∧ ∃ (i a e : Nat) (S : SSt) (ev : List Ev) (es gs : Sl) (M : UInt64 → Option UInt64), n2' = i ∧ i ≤ l.length ∧ kk = l.length - i ∧ a ≤ 100 * i ∧ e ≤ 100 * i ∧ IRun G ws B X x a e S ev es gs g ∧ IGood G X S M ∧ (∀ k c, M k = some c → ∃ j, j < i ∧ k = UInt64.ofNat j) ∧ ¬ SFo G B es gs b1 ∧ g b1 = bO B x pk pu py ∧ Keep h1 g ∧ (∀ y, SFo G B es gs y → h1 y = none),
   ⟨l.length, rfl, rfl, rfl, rfl, 0, 0, 0, _, [], nilS, nilS, fun _ => none, rfl, by omega, rfl, by omega, by omega, R4, ig0, (fun _ _ h => by cases h), nb1, e4, k4, fB1⟩, ?_⟩
 rintro m1 s1 y1 q1 n2' g kk ⟨rfl, rfl, rfl, rfl, i, a, e, S, ev, es, gs, M, rfl, hi, rfl, ha, he, Rg, ig, hM, n1g, e1g, kg, Fg⟩
 have hKa : 2 * X.K ≤ 32 := by omega
 refine ifD (fun hlt => ifB_intro (fun h6 => ?_) fun _ => ?_) fun _ => ?_
 · have hi' : i < l.length := by omega
   have h6' : i < 6 := by
     have : decide ((i : Int) < 6) = true := h6
     have := of_decide_eq_true this; omega
   have rl2 := rl.keep stepc_length (k1.trans kg)
   obtain ⟨q, hq⟩ := rl2.ptr (by omega)
   obtain ⟨_, _, c2, c3, _⟩ := flat_at stepc_length (rl2.rd q hq) hi'
   refine ⟨some ⟨x.xb, 0⟩, rd1 e1g rfl, q, hq, by omega, by omega, _, c2, q, hq, by omega, by omega, _, c3, ?_⟩
   rw [toU_eq (by omega)]
   have hMi : M (UInt64.ofNat i) = none := by
     cases hc : M (UInt64.ofNat i) with
     | none => rfl
     | some c =>
       obtain ⟨j, hj, he'⟩ := hM _ _ hc
       exact absurd he' (ofNat_ne (by omega) (by omega) (by omega))
   refine (cuk_insert F Rg (by omega) (by omega) (UInt64.ofNat i) l[i].cell l[i].on).mono ?_
   rintro _ g3 ⟨ev3, es3, gs3, rfl, R3, v3⟩
   have e13 := v3.get e1g n1g
   have n13 := v3.out (by rw [e1g]; simp) n1g
   obtain ⟨K3, F3⟩ := v3.keep kg Fg
   obtain ⟨ig3, _⟩ := ig_ins (key := UInt64.ofNat i) (cell := l[i].cell) (on := l[i].on) F.c Rg.p (by omega) ig (fun _ => hMi)
   refine ⟨_, rfl, l.length - (i + 1), by omega, rfl, rfl, rfl, rfl, i + 1, _, _, _, ev3, es3, gs3, _, w64_id (by omega) (by omega), by omega, rfl, ?_, ?_, R3, ig3, fun k c hc => ?_, n13, e13, K3, F3⟩
   · omega
   · omega
   · split at hc
     · have hc : (if k = UInt64.ofNat i then some l[i].cell else M k) = some c := hc
       by_cases hk : k = UInt64.ofNat i
       · exact ⟨i, by omega, hk⟩
       · rw [if_neg hk] at hc; exact (hM k c hc).imp fun j hj => ⟨by omega, hj.2⟩
     · exact (hM k c hc).imp fun j hj => ⟨by omega, hj.2⟩
 all_goals
   obtain ⟨F0, sg⟩ := ig_sg ig
   obtain ⟨f0, hf0⟩ : ∃ f, S.R 0 = f := ⟨_, rfl⟩
   rw [hf0] at sg
   clear ig hM
   refine ⟨by decide, fun m2 y2 q2 s2 u2 g2 kk2 => n = m2 ∧ y % 8 = y2 ∧ (⟨b1, 0⟩ : Pt) = q2 ∧ ∃ (j a e : Nat) (S : SSt) (ev : List Ev) (es gs : Sl) (L : List Spt), u2 = UInt64.ofNat j ∧ j ≤ 8 ∧ kk2 = 8 - j ∧ a ≤ 1000 + 2 * j ∧ e ≤ 1000 + 3 * j ∧ IRun G ws B X x a e S ev es gs g2 ∧ SG G X S F0 f0 ∧ S.R 0 = f0 ∧ L.length = j ∧ OwnM 3 sp3 h1 g2 s2 L ∧ (Fine G S → ∀ i (hi : i < L.length), L[i] = sO X F0 f0 i) ∧ ¬ SFo G B es gs b1 ∧ g2 b1 = bO B x pk pu py ∧ Keep h1 g2 ∧ (∀ y, SFo G B es gs y → h1 y = none) ∧ (∀ q, s2.q = some q → ¬ (SFo G B es gs q.b ∨ q.b = x.xb) ∧ q.b ≠ b1),
     ⟨8, rfl, rfl, rfl, 0, a, e, S, ev, es, gs, [], rfl, by omega, rfl, by omega, by omega, Rg, sg, hf0, rfl, OwnM.nilS .., (fun _ i hi => absurd hi (by simp)), n1g, e1g, kg, Fg, fun q hq => by cases hq⟩, ?_⟩
   clear Rg sg hf0 n1g e1g kg Fg
   rintro m2 y2 q2 s2 u2 g2 kk2 ⟨rfl, rfl, rfl, j, a, e, S, ev, es, gs, L, rfl, hj, rfl, ha, he, Rg, sg, hf0, hLl, ow, hLs, n1g, e1g, kg, Fg, sep⟩
   refine ifD (fun hlt => ?_) fun hge => ?_
   · have hj' : j < 8 := (lt8 hj).1 hlt
     refine ⟨some ⟨x.xb, 0⟩, rd1 e1g rfl, (cuk_find F Rg (by omega) (by omega) (UInt64.ofNat j)).mono ?_⟩
     rintro _ g3 ⟨ev3, es3, gs3, rfl, R3, v3⟩
     have e13 := v3.get e1g n1g
     have n13 := v3.out (by rw [e1g]; simp) n1g
     obtain ⟨K3, F3⟩ := v3.keep kg Fg
     obtain ⟨sg3, sq3⟩ := sg_find F.c Rg.p (by omega) sg (UInt64.ofNat j)
     have hf3 := (find_pi F.c.o F.c.xo F.c.m F.c.f Rg.p (by omega) (UInt64.ofNat j)).2.trans hf0
     have hback : Fine G (findS G (fun p => ws.getD p 0) X (UInt64.ofNat j) S).1 → Fine G S := find_fine
     have ow3 : OwnM 3 sp3 h1 g3 s2 L := ow.move fun q hq => v3.2.1 _ (ow.blk hq).2 fun hf => (sep q hq).1 (.inl hf)
     have sep3 : ∀ q, s2.q = some q → ¬ (SFo G B es3 gs3 q.b ∨ q.b = x.xb) ∧ q.b ≠ b1 := fun q hq => ⟨fun hh => hh.elim (fun hf => v3.out (ow.blk hq).2 (fun hf => (sep q hq).1 (.inl hf)) hf) fun hx => (sep q hq).1 (.inr hx), (sep q hq).2⟩
     generalize (findS G (fun p => ws.getD p 0) X (UInt64.ofNat j) S).1 = S3 at *
     generalize (findS G (fun p => ws.getD p 0) X (UInt64.ofNat j) S).2 = s at *
     refine ⟨_, _, _, rfl, ?_⟩
     refine OwnM.push rt3 sp3_len sp3_one ow3 [s] rfl rfl (fun b hb => K3.free hb) (by simp; omega) (by decide) ?_
     intro s' h5 o5 f5 w5 fr5
     have keepB : ∀ y, SFo G B es3 gs3 y ∨ y = x.xb → h5 y = g3 y := fun y hy => f5 y (R3.dom F hy) fun q hq e => (sep3 q hq).1 (e ▸ hy)
     have hb1 : h5 b1 = g3 b1 := f5 b1 (by rw [e13]; simp) fun q hq e => (sep3 q hq).2 e.symm
     refine ⟨8 - (j + 1), by omega, rfl, rfl, rfl, j + 1, _, _, S3, ev3, es3, gs3, L ++ [s], add8 hj', by omega, rfl, ?_, ?_, R3.same keepB, sg3, hf3, by simp [hLl], o5, fun fin i hi => ?_, n13, hb1.trans e13, keep_app ow3 K3 f5, F3, fun q hq => ?_⟩
     · omega
     · omega
     · by_cases hij : i < L.length
       · rw [List.getElem_append_left hij]; exact hLs (hback fin) i hij
       · have : i = j := by simp at hi; omega
         subst this
         rw [List.getElem_append_right (by omega)]
         simp only [hLl, Nat.sub_self, List.getElem_cons_zero]
         exact sq3 fin
     · rcases w5 q hq with ⟨q', hq', hb⟩ | hb
       · rw [hb]; exact sep3 q' hq'
       · refine ⟨fun hh => R3.dom F hh hb, fun e => ?_⟩
         rw [e, e13] at hb; cases hb
   · have hj8 : j = 8 := by have : ¬ j < 8 := fun h => hge ((lt8 hj).2 h); omega
     subst hj8
     refine ⟨some ⟨B.m.b, 0⟩, rd1 e1g rfl, (irun_count F Rg (by omega) (key := 0) (by decide) 0).mono ?_⟩
     rintro _ g3 ⟨ev3, es3, rfl, R3, v3⟩
     have e13 := v3.get e1g n1g
     have n13 := v3.out (by rw [e1g]; simp) n1g
     obtain ⟨K3, F3⟩ := v3.keep kg Fg
     have ow3 : OwnM 3 sp3 h1 g3 s2 L := ow.move fun q hq => v3.2.1 _ (ow.blk hq).2 fun hf => (sep q hq).1 (.inl hf)
     have sep3 : ∀ q, s2.q = some q → ¬ SFo G B es3 gs q.b ∧ q.b ≠ b1 := fun q hq => ⟨fun hf => v3.out (ow.blk hq).2 (fun hf => (sep q hq).1 (.inl hf)) hf, (sep q hq).2⟩
     clear v3 e1g n1g kg Fg ow sep Rg
     refine ⟨_, rfl, some ⟨B.sb, 0⟩, rd1 e13 rfl, (store_leaves F.c.o R3.r (by
       rw [R3.p.gl]; exact Nat.lt_of_le_of_lt (Nat.mul_le_mul hL.2 (show a ≤ 2000 by omega)) (by decide))).mono ?_⟩
     rintro _ g4 ⟨s4, rfl, ow4, k4⟩
     have len4 : (s4.len : Int) = ((G.L * a : Nat) : Int) := by rw [ow4.rd.len, List.length_map, R3.p.gl]
     have R4 := R3.keep F k4
     refine ⟨_, rfl, some ⟨x.xb, 0⟩, rd1 (k4.get e13) rfl, (cuk_insert F R4 (by omega) (by omega) (y % 8) 5 false).mono ?_⟩
     rintro _ g5 ⟨ev5, es5, gs5, rfl, R5, v5⟩
     obtain ⟨sg5, it5, hf5⟩ := sg_ins F.c R4.p (by omega) sg (y % 8) 5
     have hf5 := hf5.trans hf0
     have fb5 : Fine G (insS G (fun p => ws.getD p 0) X (y % 8) 5 false S).1 → Fine G S := ins_fine
     rw [it5]
     have e15 := v5.get (k4.get e13) n13
     have n15 := v5.out (by rw [k4.get e13]; simp) n13
     obtain ⟨K5, F5⟩ := v5.keep (K3.trans k4) F3
     have ow5 : OwnM 3 sp3 h1 g5 s2 L := (ow3.keep k4).move fun q hq => v5.2.1 _ ((ow3.keep k4).blk hq).2 (sep3 q hq).1
     have sep5 : ∀ q, s2.q = some q → ¬ SFo G B es5 gs5 q.b ∧ q.b ≠ b1 := fun q hq => ⟨fun hf => v5.out ((ow3.keep k4).blk hq).2 (sep3 q hq).1 hf, (sep3 q hq).2⟩
     clear v5 e13 n13 F3 sep3 R3 R4 it5
     generalize (insS G (fun p => ws.getD p 0) X (y % 8) 5 false S).1 = S5 at *
     obtain ⟨q5, hq5⟩ := ow5.rd.ptr (by omega)
     have hyl : (y % 8).toNat < L.length := by omega
     obtain ⟨d0, d1, d2, _⟩ := flat_at sp3_len (ow5.rd.rd q5 hq5) hyl
     have hl5 := ow5.rd.len
     refine ⟨_, rfl, some ⟨x.xb, 0⟩, rd1 e15 rfl, q5, hq5, by omega, by omega, _, d0, _, d1, _, d2, ?_⟩
     refine (cuk_remove F R5 (by omega) (by omega) (y % 8) _ _ _ false).mono ?_
     rintro _ g6 ⟨ev6, es6, gs6, rfl, R6, v6⟩
     obtain ⟨sg6, hf6⟩ := sg_rem F.c R5.p (by omega) sg5 (y % 8) (L[(y % 8).toNat]).1 (L[(y % 8).toNat]).2.1
     have hf6 := hf6.trans hf5
     have fb6 : Fine G (remS G (fun p => ws.getD p 0) X (y % 8) (L[(y % 8).toNat]).1 (L[(y % 8).toNat]).2.1 false S5) → Fine G S := fun f => fb5 (rem_fine f)
     have e16 := v6.get e15 n15
     have n16 := v6.out (by rw [e15]; simp) n15
     obtain ⟨K6, F6⟩ := v6.keep K5 F5
     have ow6 : OwnM 3 sp3 h1 g6 s2 L := ow5.move fun q hq => v6.2.1 _ (ow5.blk hq).2 (sep5 q hq).1
     have sep6 : ∀ q, s2.q = some q → ¬ SFo G B es6 gs6 q.b ∧ q.b ≠ b1 := fun q hq => ⟨fun hf => v6.out (ow5.blk hq).2 (sep5 q hq).1 hf, (sep5 q hq).2⟩
     clear v6 e15 n15 F5 sep5 sg5 hf5 fb5
     generalize remS G (fun p => ws.getD p 0) X (y % 8) (L[(y % 8).toNat]).1 (L[(y % 8).toNat]).2.1 false S5 = S6 at *
     refine ⟨rfl, some ⟨B.sb, 0⟩, rd1 e16 rfl, (store_leaves F.c.o R6.r (by
       rw [R6.p.gl]; exact Nat.lt_of_le_of_lt (Nat.mul_le_mul hL.2 (show a + 2 * X.K + 1 ≤ 3000 by omega)) (by decide))).mono ?_⟩
     rintro _ g7 ⟨s7, rfl, ow7, k7⟩
     have len7 : (s7.len : Int) = ((G.L * (a + 2 * X.K + 1) : Nat) : Int) := by rw [ow7.rd.len, List.length_map, R6.p.gl]
     refine ⟨_, rfl, hneed.to fun g8 k8 => ⟨_, rfl, (law_shape n1 n2).to fun g9 k9 => ⟨_, _, _, rfl, hcfg.to fun g10 k10 => ⟨_, _, _, _, rfl, ?_⟩⟩⟩⟩
     have kk : Keep g6 g10 := (k7.trans k8).trans (k9.trans k10)
     refine ifB_neg ?_ (ifB_neg rfl ?_)
     · rw [len4, len7]
       have h1' : G.L * a ≤ 4 * 2000 := Nat.mul_le_mul hL.2 (by omega)
       have h2' : 2 * X.K * G.L ≤ 32 * 4 := Nat.mul_le_mul hKa hL.2
       have e1' : G.L * (a + 2 * X.K + 1) = G.L * a + 2 * X.K * G.L + G.L := by rw [Nat.mul_add, Nat.mul_add, Nat.mul_one, Nat.mul_comm G.L (2 * X.K)]
       rw [e1']
       generalize G.L * a = A1 at *
       generalize 2 * X.K * G.L = A2 at *
       rw [w64_id (n := ((A1 : Nat) : Int) + ((A2 : Nat) : Int)) (by omega) (by omega), w64_id (by omega) (by omega)]
       simp
     have R7 := R6.keep F kk
     have ow8 := ow6.keep kk
     refine ⟨fun q3 s3 c3 u3 g kk3 => (⟨b1, 0⟩ : Pt) = q3 ∧ s2 = s3 ∧ ((cntS (fun i => (S.R 0 i)[0] == 0) X.sp : Nat) : Int) = c3 ∧ ∃ (j a e : Nat) (S : SSt) (ev : List Ev) (es gs : Sl), u3 = UInt64.ofNat j ∧ j ≤ 8 ∧ kk3 = 8 - j ∧ a ≤ 3000 + 2 * j ∧ e ≤ 3000 + 3 * j ∧ IRun G ws B X x a e S ev es gs g ∧ SG G X S F0 f0 ∧ S.R 0 = f0 ∧ OwnM 3 sp3 h1 g s2 L ∧ (Fine G S → ∀ i (hi : i < L.length), L[i] = sO X F0 f0 i) ∧ ¬ SFo G B es gs b1 ∧ g b1 = bO B x pk pu py ∧ Keep h1 g ∧ (∀ y, SFo G B es gs y → h1 y = none) ∧ (∀ q, s2.q = some q → ¬ SFo G B es gs q.b ∧ q.b ≠ b1),
       ⟨8, rfl, rfl, rfl, 0, _, _, S6, ev6, es6, gs6, rfl, by omega, rfl, by omega, by omega, R7, sg6, hf6, ow8, (fun fin => hLs (fb6 fin)), n16, kk.get e16, K6.trans kk, F6, sep6⟩, ?_⟩
     have hcnt : (cntS (fun i => (S.R 0 i)[0] == 0) X.sp : Nat) = cntS (fun i => (f0 i)[0] == 0) X.sp := by rw [hf0]
     rw [hcnt]
     clear R7 ow8 sg6 hf6 e16 n16 K6 F6 sep6 R6 ow6 ow5 hLs fb6 kk k7 k8 k9 k10 ow7 ow4 sg hcnt
     rintro q3 s3 c3 u3 g kk3 ⟨rfl, rfl, rfl, j, a, e, S, ev, es, gs, rfl, hj, rfl, ha, he, Rg, sg, hfS, ow, hLs, n1g, e1g, kg, Fg, sep⟩
     refine ifD (fun hlt => ?_) fun hge => ?_
     · have hj' : j < 8 := (lt8 hj).1 hlt
       refine ⟨some ⟨x.xb, 0⟩, rd1 e1g rfl, (cuk_find F Rg (by omega) (by omega) (UInt64.ofNat j)).mono ?_⟩
       rintro _ g3 ⟨ev3, es3, gs3, rfl, R3, v3⟩
       have e13 := v3.get e1g n1g
       have n13 := v3.out (by rw [e1g]; simp) n1g
       obtain ⟨K3, F3⟩ := v3.keep kg Fg
       obtain ⟨sg3, sq3⟩ := sg_find F.c Rg.p (by omega) sg (UInt64.ofNat j)
       have hf3 := (find_pi F.c.o F.c.xo F.c.m F.c.f Rg.p (by omega) (UInt64.ofNat j)).2.trans hfS
       have hback : Fine G (findS G (fun p => ws.getD p 0) X (UInt64.ofNat j) S).1 → Fine G S := find_fine
       have ow3 : OwnM 3 sp3 h1 g3 s2 L := ow.move fun q hq => v3.2.1 _ (ow.blk hq).2 (sep q hq).1
       have sep3 : ∀ q, s2.q = some q → ¬ SFo G B es3 gs3 q.b ∧ q.b ≠ b1 := fun q hq => ⟨fun hf => v3.out (ow.blk hq).2 (sep q hq).1 hf, (sep q hq).2⟩
       clear v3 sep ow
       generalize (findS G (fun p => ws.getD p 0) X (UInt64.ofNat j) S).1 = S3 at *
       generalize (findS G (fun p => ws.getD p 0) X (UInt64.ofNat j) S).2 = s at *
       refine ⟨_, _, _, rfl, newC fun b3 g4 f4 e4 k4 => ?_⟩
       refine stW (K3.trans k4) (K3.free f4) e4 rfl fun g5 k5 e5 o5 => ?_
       have R5 := R3.loc F f4 k4 o5
       have e15 : g5 b1 = _ := (o5 b1 (fun e => by rw [← e, e13] at f4; cases f4)).trans (k4.get e13)
       have ow5 : OwnM 3 sp3 h1 g5 s2 L := (ow3.keep k4).move fun q hq => o5 _ fun e => (ow3.blk hq).2 (e ▸ f4)
       refine ⟨some ⟨B.sb, 0⟩, rd1 e15 rfl, (store_over F.c.o R5.r).mono ?_⟩
       rintro _ g6 ⟨rfl, rfl⟩
       have nx : ∃ k9, k9 < 8 - j ∧ ((⟨b1, 0⟩ : Pt) = ⟨b1, 0⟩ ∧ s2 = s2 ∧ ((cntS (fun i => (f0 i)[0] == 0) X.sp : Nat) : Int) = ((cntS (fun i => (f0 i)[0] == 0) X.sp : Nat) : Int) ∧ ∃ (j2 a e : Nat) (S : SSt) (ev : List Ev) (es gs : Sl), UInt64.ofNat j + 1 = UInt64.ofNat j2 ∧ j2 ≤ 8 ∧ k9 = 8 - j2 ∧ a ≤ 3000 + 2 * j2 ∧ e ≤ 3000 + 3 * j2 ∧ IRun G ws B X x a e S ev es gs g6 ∧ SG G X S F0 f0 ∧ S.R 0 = f0 ∧ OwnM 3 sp3 h1 g6 s2 L ∧ (Fine G S → ∀ i (hi : i < L.length), L[i] = sO X F0 f0 i) ∧ ¬ SFo G B es gs b1 ∧ g6 b1 = bO B x pk pu py ∧ Keep h1 g6 ∧ (∀ y, SFo G B es gs y → h1 y = none) ∧ (∀ q, s2.q = some q → ¬ SFo G B es gs q.b ∧ q.b ≠ b1)) := by
         refine ⟨8 - (j + 1), by omega, rfl, rfl, rfl, j + 1, _, _, S3, ev3, es3, gs3, add8 hj', by omega, rfl, ?_, ?_, R5, sg3, hf3, ow5, fun fin => hLs (hback fin), n13, e15, k5, F3, sep3⟩ <;> omega
       refine ⟨_, rfl, ifB_intro (fun hov => ?_) fun _ => nx⟩
       have fin : Fine G S3 := fun z hz => by
         have h9 : (List.range G.L).any S3.over = false := by
           cases hh : (List.range G.L).any S3.over with
           | false => rfl
           | true => rw [hh] at hov; cases hov
         have := List.any_eq_false.1 h9 z (List.mem_range.2 hz)
         simpa using this
       have hjl : j < L.length := by omega
       have hs : L[j] = s := (hLs (hback fin) j hjl).trans (sq3 fin).symm
       obtain ⟨q7, hq7⟩ := ow5.rd.ptr (by omega)
       obtain ⟨d0, d1, d2, _⟩ := flat_at sp3_len (ow5.rd.rd q7 hq7) hjl
       have hl7 := ow5.rd.len
       have hLl' : L.length = 8 := hLl
       rw [tn hj]
       refine ⟨_, rd1 e5 rfl, _, rd1 e5 rfl, _, rd1 e5 rfl, q7, hq7, by omega, by omega, _, d0, _, d1, _, d2, ifB_neg ?_ nx⟩
       rw [hs]; simp
     · refine ⟨some ⟨B.m.b, 0⟩, rd1 e1g rfl, (irun_count F Rg (by omega) (key := 0) (by decide) 0).mono ?_⟩
       rintro _ g3 ⟨ev3, es3, rfl, R3, v3⟩
       obtain ⟨K3, F3⟩ := v3.keep kg Fg
       refine ⟨_, rfl, ?_, k1.trans K3⟩
       rw [hfS]; simp
end Go.Proofs.Tryz

/- StoreLevels. -/
import Derived.Test.YtolgmdbjomlcjaaGreatRdL
import Derived.Test.YtolgmdbjomlcjaaGreatLawS
namespace Go.Proofs.Tryz
open Go Go.Sh Go.RowKit
set_option maxRecDepth 8000
theorem law_levels {h : Hp} {n more : Int} (n1 : -9223372036854775808 ≤ n) (n2 : n ≤ 9223372036854775807) (m1 : -9223372036854775808 ≤ more) (m2 : more ≤ 9223372036854775807) {sw : Sl} {ws : List UInt64} (rw_ : RdS vu h sw ws) (hlw : ws.length * 8 ≤ 140737488355328) {sw' : Sl} {ws' : List UInt64} (rw_' : RdS vu h sw' ws') (hlw' : ws'.length * 8 ≤ 140737488355328) {sl : Sl} {l : List StepV} (rl : RdM stepv h sl l) (_ : l.length * 24 ≤ 140737488355328) :
    callK prog 6 [.int .i64 n, .int .i64 more, vs sw, vs sw', vs sl] h fun v h' => v = .bool true ∧ Keep h h' := by
  refine c6 _ _ _ _ _ ?_
  unfold G6
  refine law_shown.to fun h1 k1 => ⟨_, rfl, ifB_neg rfl (ifB_intro (fun _ => ⟨rfl, k1⟩) fun hl24 => ifB_intro (fun _ => ⟨rfl, k1⟩) fun _ => ifB_intro (fun _ => ⟨rfl, k1⟩) fun _ => ?_)⟩
  have hlen : l.length ≤ 14 := by
    have : ¬ (14 : Int) < (sl.len : Int) := of_decide_eq_false hl24
    have := rl.len; omega
  have p1 := pickN_lt n (n := 6) (by decide)
  have p2 := pickN_lt (n.tdiv 6) (n := 3) (by decide)
  have p3 := pickN_lt (n.tdiv 18) (n := 8) (by decide)
  have p4 := pickN_lt (n.tdiv 144) (n := 3) (by decide)
  have p5 := pickN_lt more (n := 3) (by decide)
  refine (law_config n1 n2).to fun h2 k2 => ⟨_, _, _, _, rfl, newC fun b1 h3 f3 e3 k3 => ?_⟩
  refine stW ((k1.trans k2).trans k3) ((k1.trans k2).free f3) e3 rfl fun h4 k4 e4 _ => ⟨_, rd1 e4 rfl, _, rd1 e4 rfl, _, rd1 e4 rfl, _, rd1 e4 rfl, newC fun b2 h5 f5 e5 k5 => ?_⟩
  refine stW k5 f5 e5 rfl fun h6 k6 e6 _ => ?_
  refine (law_pick m1 m2 (n := 3) (by decide)).to fun h7 k7 => ⟨_, rfl, ?_⟩
  refine stN (k6.trans k7) f5 (k7.get e6) (by simp) fun h8 k8 e8 _ => ?_
  rw [w64_id (by omega) (by omega)] at e8
  have e8 : h8 b2 = some (.cells #[.int .i64 (2 ^ pickN n 6), .int .i64 ((1 + pickN (n.tdiv 6) 3 : Nat) : Int), .int .i64 ((1 + pickN (n.tdiv 18) 8 : Nat) : Int), .int .i64 (1 + (pickN more 3 : Nat))] 26 (0, 0)) := e8
  have e18 := k8.get e4
  refine ⟨_, rd1 e18 rfl, _, rd1 e18 rfl, _, rd1 e18 rfl, _, rd1 e18 rfl, ?_⟩
  have K8 := k4.trans k8
  refine (law_made (m := pickN n 6) (s := 1 + pickN (n.tdiv 6) 3) (t := 1 + pickN (n.tdiv 18) 8) (L := 1 + pickN (n.tdiv 144) 3) (by omega) (by omega) (by omega) (by omega) (rw_.keep K8) hlw).mono ?_
  rintro _ h9 ⟨B, rfl, RS, st, fB, k9⟩
  have e29 := k9.get e8
  refine ⟨some ⟨B.m.b, 0⟩, some ⟨B.tb, 0⟩, some ⟨B.sb, 0⟩, rfl, _, rd1 e29 rfl, _, rd1 e29 rfl, _, rd1 e29 rfl, _, rd1 e29 rfl, ?_⟩
  rw [show (1 + (pickN more 3 : Nat) : Int) = ((1 + pickN more 3 : Nat) : Int) by simp]
  rw [show (1 + (pickN more 3 : Nat) : Int) = ((1 + pickN more 3 : Nat) : Int) by simp] at e8
  refine (law_made (m := pickN n 6) (s := 1 + pickN (n.tdiv 6) 3) (t := 1 + pickN (n.tdiv 18) 8) (L := 1 + pickN more 3) (by omega) (by omega) (by omega) (by omega) (rw_'.keep (K8.trans k9)) hlw').mono ?_
  rintro _ h10 ⟨B', rfl, RS', st', fB', k10⟩
  have o := cfgG_ok n
  have o' := mkG_ok (m := pickN n 6) (s := 1 + pickN (n.tdiv 6) 3) (t := 1 + pickN (n.tdiv 18) 8) (L := 1 + pickN more 3) (by omega) (by omega) (by omega) (by omega)
  have hmm : (mkG (pickN n 6) (1 + pickN (n.tdiv 6) 3) (1 + pickN (n.tdiv 18) 8) (1 + pickN more 3)).m = (cfgG n).m := rfl
  have RS : StR (cfgG n) ws B S00 [] nilS nilS h9 := RS
  have st : StM (cfgG n) B := st
  have fB : ∀ x, SFo (cfgG n) B nilS nilS x → h8 x = none := fB
  have e18 : h8 b1 = some (.cells #[.int .i64 (2 ^ (cfgG n).m), .int .i64 ((cfgG n).s : Int), .int .i64 ((cfgG n).t : Int), .int .i64 ((cfgG n).L : Int)] 26 (0, 0)) := e18
  have eL : h8 b2 = some (.cells #[.int .i64 (2 ^ pickN n 6), .int .i64 ((1 + pickN (n.tdiv 6) 3 : Nat) : Int), .int .i64 ((1 + pickN (n.tdiv 18) 8 : Nat) : Int), .int .i64 ((mkG (pickN n 6) (1 + pickN (n.tdiv 6) 3) (1 + pickN (n.tdiv 18) 8) (1 + pickN more 3)).L : Nat)] 26 (0, 0)) := e8
  generalize mkG (pickN n 6) (1 + pickN (n.tdiv 6) 3) (1 + pickN (n.tdiv 18) 8) (1 + pickN more 3) = G' at *
  generalize cfgG n = G at *
  have fB'' : ∀ x, SFo G' B' nilS nilS x → h8 x = none := fun x hx => k9.free (fB' x hx)
  have R0 := (SRun.zero RS).keep o k10
  have R0' := SRun.zero RS'
  have dis : ∀ x, SFo G B nilS nilS x → ¬ SFo G' B' nilS nilS x := fun x hx hx' => RS.fdom o hx (fB' x hx')
  refine ⟨some ⟨B'.m.b, 0⟩, some ⟨B'.tb, 0⟩, some ⟨B'.sb, 0⟩, rfl, ifB_neg rfl (ifB_neg rfl ?_)⟩
  refine ⟨fun s1 q1 q2 o7 o8 n18 g kk => sl = s1 ∧ (⟨b1, 0⟩ : Pt) = q1 ∧ (⟨b2, 0⟩ : Pt) = q2 ∧ some ⟨B.sb, 0⟩ = o7 ∧ some ⟨B'.sb, 0⟩ = o8 ∧ ∃ (i : Nat) (S S' : SSt) (ev ev' : List Ev) (es gs es' gs' : Sl) (A : UInt64 → Option Dat), n18 = i ∧ i ≤ l.length ∧ kk = l.length - i ∧ SRun G ws B i S ev es gs g ∧ SRun G' ws' B' i S' ev' es' gs' g ∧ Live G S A ∧ Live G' S' A ∧ S.ids 0 = S'.ids 0 ∧ Keep h8 g ∧ (∀ x, SFo G B es gs x → h8 x = none) ∧ (∀ x, SFo G' B' es' gs' x → h8 x = none) ∧ ∀ x, SFo G B es gs x → ¬ SFo G' B' es' gs' x,
    ⟨l.length, rfl, rfl, rfl, rfl, rfl, 0, _, _, [], [], nilS, nilS, nilS, nilS, _, rfl, by omega, rfl, R0, R0', ⟨_, _, NI.zero (fun _ _ => rfl)⟩, ⟨_, _, NI.zero (fun _ _ => rfl)⟩, rfl, k9.trans k10, fB, fB'', dis⟩, ?_⟩
  rintro s1 q1 q2 o7 o8 n18 g kk ⟨rfl, rfl, rfl, rfl, rfl, i, S, S', ev, ev', es, gs, es', gs', A, rfl, hi, rfl, Rg, Rg', lv, lv', hids, kg, Fg, Fg', dg⟩
  have hsl := rl.len
  have rlg := rl.keep stepv_length (K8.trans kg)
  have eg := kg.get e18
  have eg2 := kg.get eL
  refine ifD (fun hlt => ?_) fun hge => ?_
  · have hi' : i < l.length := by omega
    have hx := StepV.x_lt G.m l[i]
    refine step_do o st Rg (by omega) rlg hi' (rd1 eg rfl) fun ev2 es2 gs2 g1 g2 kk1 R2 v2 => ⟨_, _, rfl, newC fun b3 g3 f3' e3' k3' => ?_⟩
    obtain ⟨K2, F2⟩ := v2.keep (kg.trans kk1) Fg
    obtain ⟨R2', d2⟩ := (Rg'.keep o' kk1).other o' v2 fun x hx' hx => dg x hx hx'
    refine wbMW (n := 8) (mvK (K2.trans k3') (fun _ => False)) (K2.free f3') e3' rfl fun g4 v4 e4' o4 => ?_
    have K4 : Keep h8 g4 := fun z hz => v4.2.1 z hz id
    have R4 := R2.loc o f3' k3' o4
    have R4' := R2'.loc o' f3' k3' o4
    have eg4 := K4.get e18
    have rl4 := rl.keep stepv_length (K8.trans K4)
    have n3 : ¬ SFo G' B' es' gs' b3 := R2'.r.out o' f3'
    refine step_do o' st' R4' (by omega) rl4 hi' (by rw [hmm]; exact rd1 eg4 rfl) fun ev5 es5 gs5 g5' g5 kk5 R5' v5 => ⟨_, _, rfl, newC fun b4 g6 f6 e6' k6' => ?_⟩
    have hx' : l[i].x G'.m = l[i].x G.m := by rw [hmm]
    rw [hx'] at R5' ⊢
    obtain ⟨K5, F5⟩ := v5.keep (K4.trans kk5) Fg'
    obtain ⟨R5, d5⟩ := (R4.keep o kk5).other o v5 fun x hx hx' => d2 x hx' hx
    have e35 := v5.get (kk5.get e4') n3
    refine wbMW (n := 8) (mvK (K5.trans k6') (fun _ => False)) (K5.free f6) e6' rfl fun g7 v7 e7' o7 => ?_
    have K7 : Keep h8 g7 := fun z hz => v7.2.1 z hz id
    have R7 := R5.loc o f6 k6' o7
    have R7' := R5'.loc o' f6 k6' o7
    have n34 : b3 ≠ b4 := fun e => by rw [← e, e35] at f6; cases f6
    have e37 : g7 b3 = _ := (o7 b3 n34).trans (k6'.get e35)
    refine (store_over o R7.r).mono ?_
    rintro _ g8 ⟨rfl, rfl⟩
    refine ⟨_, rfl, ifB_intro (fun _ => ⟨rfl, K8.trans K7⟩) fun hno => ?_⟩
    refine (store_over o' R7'.r).mono ?_
    rintro _ g9 ⟨rfl, rfl⟩
    refine ⟨_, rfl, ifB_intro (fun _ => ⟨rfl, K8.trans K7⟩) fun hno' => ?_⟩
    have hov : ∀ z, z < G.L → (stAcc G (fun p => ws.getD p 0) l[i].o (l[i].x G.m) S).1.over z = false := fun z hz => by
      have := List.any_eq_false.1 hno z (List.mem_range.2 hz)
      simpa using this
    have hov' : ∀ z, z < G'.L → (stAcc G' (fun p => ws'.getD p 0) l[i].o (l[i].x G.m) S').1.over z = false := fun z hz => by
      have := List.any_eq_false.1 hno' z (List.mem_range.2 hz)
      simpa using this
    obtain ⟨l2, ho, _⟩ := live_step o Rg (by omega) hx lv (.inl hov)
    obtain ⟨l2', ho', _⟩ := live_step o' Rg' (by omega) (by rw [hmm]; exact hx) lv' (.inl hov')
    have hid : (stAcc G (fun p => ws.getD p 0) l[i].o (l[i].x G.m) S).1.ids 0 = (stAcc G' (fun p => ws'.getD p 0) l[i].o (l[i].x G.m) S').1.ids 0 := by
      rw [stAcc_ids0, stAcc_ids0, hids]
    rw [ho] at e37 ⊢
    rw [ho'] at e7' ⊢
    refine ⟨_, wb_rd e37, _, wb_rd e7', ifB_neg (by simp) (ifB_neg (by simp) ⟨l.length - (i + 1), by omega, rfl, rfl, rfl, rfl, rfl, i + 1, _, _, _, _, es2, gs2, es5, gs5, _, w64_id (by omega) (by omega), by omega, rfl, R7, R7', l2, l2', hid, K7, F2, F5, d5⟩)⟩
  · refine (store_counts o Rg.r).mono ?_
    rintro _ g2 ⟨s2, rfl, o2, k2'⟩
    refine ⟨s2, rfl, (store_counts o' (Rg'.keep o' k2').r).mono ?_⟩
    rintro _ g3 ⟨s3, rfl, o3, k3'⟩
    have k23 := k2'.trans k3'
    have e1 := k23.get eg
    have e2 := k23.get eg2
    have c2 := o2.rd.len
    have c3 := o3.rd.len
    rw [List.length_map, List.length_range] at c2 c3
    have hL := o.L
    have hL' := o'.L
    have r2 := (o2.keep k3').rd
    obtain ⟨q9, hq9, x9⟩ := r2.at (i := 0) (by simp; omega)
    obtain ⟨q10, hq10, x10⟩ := o3.rd.at (i := 0) (by simp; omega)
    refine ⟨s3, rfl, _, rd1 e1 rfl, ifB_pos (decide_eq_true (by omega)) ⟨_, rd1 e2 rfl, ifB_pos (by rw [c3]; exact decide_eq_true rfl) ⟨q9, hq9, Int.NonNeg.mk 0, by omega, _, x9, q10, hq10, Int.NonNeg.mk 0, by omega, _, x10, ?_, (K8.trans kg).trans k23⟩⟩⟩
    simp [hids]
end Go.Proofs.Tryz

/- StoreOthers. -/
import Derived.Test.YtolgmdbjomlcjaaGreatRdL
import Derived.Test.YtolgmdbjomlcjaaGreatLaw
namespace Go.Proofs.Tryz
open Go Go.Sh Go.RowKit
set_option maxRecDepth 8000
theorem law_others {h : Hp} {n : Int} (n1 : -9223372036854775808 ≤ n) (n2 : n ≤ 9223372036854775807) {sw : Sl} {ws : List UInt64} (rw_ : RdS vu h sw ws) (hlw : ws.length * 8 ≤ 140737488355328) (x y : UInt64) {sl : Sl} {l : List UInt64} (rl : RdS vu h sl l) (_ : l.length * 8 ≤ 140737488355328) :
    callK prog 4 [.int .i64 n, vs sw, vu x, vu y, vs sl] h fun v h' => v = .bool true ∧ Keep h h' := by
  refine c4 _ _ _ _ _ ?_
  unfold G4
  refine law_shown.to fun h1 k1 => ⟨_, rfl, ifB_neg rfl (ifB_intro (fun _ => ⟨rfl, k1⟩) fun hl12 => ifB_intro (fun _ => ⟨rfl, k1⟩) fun _ => ?_)⟩
  have hlen : l.length ≤ 12 := by
    have : ¬ (12 : Int) < (sl.len : Int) := of_decide_eq_false hl12
    have := rl.len; omega
  have p1 := pickN_lt n (n := 6) (by decide)
  have p2 := pickN_lt (n.tdiv 6) (n := 3) (by decide)
  have p3 := pickN_lt (n.tdiv 18) (n := 8) (by decide)
  have p4 := pickN_lt (n.tdiv 144) (n := 3) (by decide)
  refine (law_config n1 n2).to fun h2 k2 => ⟨_, _, _, _, rfl, newC fun b1 h3 f3 e3 k3 => ?_⟩
  refine stW ((k1.trans k2).trans k3) (k1.free (k2.free f3)) e3 rfl fun h4 k4 e4 _ => ⟨_, rd1 e4 rfl, _, rd1 e4 rfl, _, rd1 e4 rfl, _, rd1 e4 rfl, ?_⟩
  refine (law_made (m := pickN n 6) (s := 1 + pickN (n.tdiv 6) 3) (t := 1 + pickN (n.tdiv 18) 8) (L := 1 + pickN (n.tdiv 144) 3) (by omega) (by omega) (by omega) (by omega) (rw_.keep k4) hlw).mono ?_
  rintro _ h5 ⟨B, rfl, RS, st, fB, k5⟩
  have o := cfgG_ok n
  have RS : StR (cfgG n) ws B S00 [] nilS nilS h5 := RS
  have st : StM (cfgG n) B := st
  have fB : ∀ x, SFo (cfgG n) B nilS nilS x → h4 x = none := fB
  have hGm : (cfgG n).m = pickN n 6 := rfl
  generalize cfgG n = G at *
  have R0 := SRun.zero RS
  have F0 : ∀ x, SFo G B nilS nilS x → h x = none := fun x hx => k4.free (fB x hx)
  have K5 := k4.trans k5
  have e5 := k5.get e4
  have hm10 := o.m
  obtain ⟨ex, hx, hz⟩ := idx_mod (y := x) hm10
  obtain ⟨ey, hy, _⟩ := idx_mod (y := y) hm10
  refine ⟨some ⟨B.m.b, 0⟩, some ⟨B.tb, 0⟩, some ⟨B.sb, 0⟩, rfl, ifB_neg rfl ⟨_, rd1 e5 rfl, hz, _, rd1 e5 rfl, hz, ifD (fun _ => ⟨rfl, K5⟩) fun hne => ?_⟩⟩
  rw [ex, ey] at hne ⊢
  generalize x.toNat % 2 ^ G.m = xa at *
  generalize y.toNat % 2 ^ G.m = ya at *
  refine (law_data 7).to fun h6 k6 => ⟨_, rfl, ?_⟩
  refine (run_access o st (R0.keep o k6) (by omega) (op := .put (dataV 7)) (k := 1) (d := dataV 7) ⟨rfl, rfl⟩ (.inr (.inl rfl)) hx).mono ?_
  rintro _ h7 ⟨ev7, es7, gs7, rfl, R7, v7⟩
  obtain ⟨K7, F7⟩ := v7.keep (K5.trans k6) F0
  let Good : SSt → Prop := fun S => (∃ z, z < G.L ∧ S.over z = true) ∨ ((∀ z, z < G.L → S.over z = false) ∧ ∃ A, Live G S A ∧ A (UInt64.ofNat xa) = some (dataV 7))
  have step : ∀ {a : Nat} {S : SSt} {ev es gs g} (R : SRun G ws B a S ev es gs g) (_ : a ≤ 1000) (op : LOp) {z : Nat} (_ : z < 2 ^ G.m) (A : UInt64 → Option Dat), Live G S A → (updA A op (UInt64.ofNat z)) (UInt64.ofNat xa) = some (dataV 7) → Good (stAcc G (fun p => ws.getD p 0) op z S).1 := fun {a S ev es gs g} R ha op {z} hz A lv hA => by
    by_cases c : ∀ z', z' < G.L → (stAcc G (fun p => ws.getD p 0) op z S).1.over z' = false
    · obtain ⟨l', _, c'⟩ := live_step o R ha hz lv (.inl c)
      exact .inr ⟨c', _, l', hA⟩
    · have := Classical.not_forall.1 c
      obtain ⟨z', hz'⟩ := this
      obtain ⟨hl, hf⟩ := Classical.not_imp.1 hz'
      exact .inl ⟨z', hl, by simpa using hf⟩
  have good7 : Good (stAcc G (fun p => ws.getD p 0) (.put (dataV 7)) xa S00).1 := step R0 (by omega) (.put (dataV 7)) hx (fun _ => none) ⟨_, _, NI.zero (fun _ _ => rfl)⟩ (by rw [updA_eq]; rfl)
  refine ⟨_, _, rfl, ?_⟩
  refine ⟨fun x1 x2 s1 o4 n11 g kk => UInt64.ofNat xa = x1 ∧ UInt64.ofNat ya = x2 ∧ sl = s1 ∧ o4 = some ⟨B.sb, 0⟩ ∧ ∃ (i : Nat) (S : SSt) (ev : List Ev) (es gs : Sl), n11 = i ∧ i ≤ l.length ∧ kk = l.length - i ∧ SRun G ws B (i + 1) S ev es gs g ∧ Good S ∧ Keep h g ∧ (∀ x, SFo G B es gs x → h x = none),
    ⟨l.length, rfl, rfl, rfl, rfl, 0, _, ev7, es7, gs7, rfl, by omega, rfl, R7, good7, K7, F7⟩, ?_⟩
  rintro x1 x2 s1 o4 n11 g kk ⟨rfl, rfl, rfl, rfl, i, S, ev, es, gs, rfl, hi, rfl, Rg, gd, kg, Fg⟩
  have hsl := rl.len
  refine ifD (fun hlt => ?_) fun hge => ?_
  · have hi' : i < l.length := by omega
    refine (rl.keep kg).ix hi' fun q hq hc => ⟨_, hc, q, hq, by omega, by omega, _, hc, ?_⟩
    have hand : (l[i] &&& 1023).toNat < 1024 := by
      rw [UInt64.toNat_and]
      exact Nat.lt_of_le_of_lt Nat.and_le_right (by decide)
    rw [w64_id (by omega) (by omega)]
    refine (law_op (c := ((l[i] &&& 1023).toNat : Nat)) (by omega) (by omega)).to fun g1 l1 => ⟨_, rfl, ⟨l1.cell hc, trivial⟩, ?_⟩
    refine (law_data l[i]).to fun g2 l2 => ⟨_, rfl, ?_⟩
    have hop := opN_ok ((l[i] &&& 1023).toNat : Nat)
    generalize opN ((l[i] &&& 1023).toNat : Nat) = k at *
    have R2 := Rg.keep o (l1.trans l2)
    refine (run_access o st R2 (by omega) (opOf_is hop (dataV l[i])) hop hy).mono ?_
    rintro _ g3 ⟨ev3, es3, gs3, rfl, R3, v3⟩
    obtain ⟨K3, F3⟩ := v3.keep (kg.trans (l1.trans l2)) Fg
    refine ⟨_, _, rfl, l.length - (i + 1), by omega, rfl, rfl, rfl, rfl, i + 1, _, ev3, es3, gs3, w64_id (by omega) (by omega), by omega, rfl, R3, ?_, K3, F3⟩
    rcases gd with ⟨z, hz1, hz2⟩ | ⟨_, A, lv, hA⟩
    · refine .inl ⟨z, hz1, ?_⟩
      cases e : (stAcc G (fun p => ws.getD p 0) (opOf k (dataV l[i])) ya S).1.over z with
      | true => rfl
      | false => rw [stAcc_mono _ _ _ _ e] at hz2; cases hz2
    · exact step R2 (by omega) _ hy A lv (by rw [updA_ne hne]; exact hA)
  · have hi' : i = l.length := by omega
    subst hi'
    refine (run_access o st Rg (by omega) (op := .look) (k := 0) (d := dat0) rfl (.inl rfl) hx).mono ?_
    rintro _ g3 ⟨ev3, es3, gs3, rfl, R3, v3⟩
    obtain ⟨K3, F3⟩ := v3.keep kg Fg
    refine ⟨_, _, rfl, newC fun b2 g4 f4 e4 k4' => ?_⟩
    refine wbMW (n := 8) (mvK (K3.trans k4') (fun _ => False)) (K3.free f4) e4 rfl fun g5 v5 e5' o5 => ?_
    have K6 : Keep h g5 := fun z hz => v5.2.1 z hz id
    have R5 : StR G ws B _ ev3 es3 gs3 g5 := R3.r.same fun z hz => by rw [o5 z fun e => R3.r.out o f4 (e ▸ hz), k4' z (R3.r.fdom o hz)]
    refine (store_over o R5).mono ?_
    rintro _ _ ⟨rfl, rfl⟩
    refine ⟨_, rfl, ifB_intro (fun _ => ⟨rfl, K6⟩) fun hno => ?_⟩
    have hov : ∀ z, z < G.L → (stAcc G (fun p => ws.getD p 0) .look xa S).1.over z = false := fun z hz => by
      have := List.any_eq_false.1 hno z (List.mem_range.2 hz)
      simpa using this
    rcases gd with ⟨z, hz1, hz2⟩ | ⟨_, A, lv, hA⟩
    · rw [stAcc_mono _ _ _ _ (hov z hz1)] at hz2; cases hz2
    · obtain ⟨_, ho, _⟩ := live_step o Rg (by omega) hx lv (.inl hov)
      have : outA A (UInt64.ofNat xa) = (dataV 7, true) := (outA_of hA).trans rfl
      rw [this] at ho
      rw [ho] at e5' ⊢
      refine ifB_pos rfl ⟨_, wb_rd e5', ?_⟩
      refine (law_data 7).to fun g7 k7 => ⟨_, rfl, wb_rd (k7.get e5'), ?_, K6.trans k7⟩
      simp
end Go.Proofs.Tryz

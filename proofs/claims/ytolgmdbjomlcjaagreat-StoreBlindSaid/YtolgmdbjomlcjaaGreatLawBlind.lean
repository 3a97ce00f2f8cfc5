/- StoreBlind. -/
import Derived.Test.YtolgmdbjomlcjaaGreatRdL
import Derived.Test.YtolgmdbjomlcjaaGreatLawS
import Derived.Test.YtolgmdbjomlcjaaGreatEvD
namespace Go.Proofs.Tryz
open Go Go.Sh Go.RowKit
set_option maxRecDepth 8000
theorem evc_rd {h : Hp} {b o : Nat} {e : Ev} (r : rdL h b o (evc e)) : hcell h b o = some (.int .i64 e.r) ∧ hcell h b (o + 1) = some (.int .i64 e.a) ∧ hcell h b (o + 1 + 1) = some (.bool e.w) := ⟨r.1, r.2.1, r.2.2.1⟩
theorem law_same {h : Hp} {s1 s2 : Sl} {l : List Ev} (r1 : RdM evc h s1 l) (r2 : RdM evc h s2 l) (hl : l.length ≤ 1000000000000) : callK prog 36 [vs s1, vs s2] h fun v h' => v = .bool true ∧ Keep h h' := by
  have l1 := r1.len; have l2 := r2.len
  refine c36 s1 s2 ?_
  unfold G36
  refine ifN (fun hne => absurd (by omega) hne) fun _ => ?_
  refine ⟨fun a b i h1 k => s1 = a ∧ s2 = b ∧ h = h1 ∧ ∃ j : Nat, i = j ∧ k = l.length - j, ⟨_, rfl, rfl, rfl, 0, rfl, rfl⟩, ?_⟩
  rintro a b i h1 k ⟨rfl, rfl, rfl, j, rfl, rfl⟩
  refine ifD (fun hlt => ?_) fun hge => ⟨rfl, Keep.refl _⟩
  have hj : j < l.length := by omega
  refine r1.ix evc3 hj fun q1 _ g1 => ?_
  have g1 := evc_rd g1
  refine ⟨_, g1.1, _, g1.2.1, _, g1.2.2, ?_⟩
  refine r2.ix evc3 hj fun q2 _ g2 => ?_
  have g2 := evc_rd g2
  refine ⟨_, g2.1, _, g2.2.1, _, g2.2.2, ifB_neg (by simp) ⟨_, ?_, rfl, rfl, rfl, j + 1, w64_id (by omega) (by omega), rfl⟩⟩
  omega
/-- two rows of one's own, apart -/
structure Own2 (h0 h : Hp) (s1 s2 : Sl) (l1 l2 : List Int) : Prop where
  a : OwnS iv h0 h s1 l1
  b : OwnS iv h0 h s2 l2
  d : ∀ p q, s1.q = some p → s2.q = some q → p.b ≠ q.b
theorem ways_ok {G : SP} {w : Nat → UInt64} {u : Nat} {g : List (Nat × Nat)} (go : GoneOk G w 0 u g) : WaysOk G.m G.L (g.map fun y => (y.1 : Int)) := by
  intro i hi
  have hi' : i < g.length := by simpa using hi
  have hv := go.val i g[i] (List.getElem?_eq_getElem hi')
  rw [List.getElem_map]
  have hp : (2 : Int) ^ (G.m - 2 * (G.L - 1 - i % G.L)) = ((2 ^ (G.m - 2 * (G.L - 1 - i % G.L)) : Nat) : Int) := by simp
  rw [hp]
  have hlt : g[i].1 < 2 ^ (G.m - 2 * (G.L - 1 - i % G.L)) := by rw [hv]; exact Nat.mod_lt _ (Nat.pow_pos (by decide))
  exact ⟨by omega, Int.ofNat_lt.2 hlt⟩
theorem law_blind {h : Hp} {n : Int} (n1 : -9223372036854775808 ≤ n) (n2 : n ≤ 9223372036854775807) {sw : Sl} {ws : List UInt64} (rw_ : RdS vu h sw ws) (hlw : ws.length * 8 ≤ 140737488355328) {sl : Sl} {l : List StepV} (rl : RdM stepv h sl l) (_ : l.length * 24 ≤ 140737488355328) :
    callK prog 11 [.int .i64 n, vs sw, vs sl] h fun v h' => v = .bool true ∧ Keep h h' := by
  refine c11 _ _ _ ?_
  unfold G11
  refine law_shown.to fun h1 k1 => ⟨_, rfl, ifB_neg rfl (ifB_intro (fun _ => ⟨rfl, k1⟩) fun hl24 => ifB_intro (fun _ => ⟨rfl, k1⟩) fun _ => ?_)⟩
  have hlen : l.length ≤ 16 := by
    have : ¬ (16 : Int) < (sl.len : Int) := of_decide_eq_false hl24
    have := rl.len; omega
  refine law_start n1 n2 (rw_.keep k1) hlw fun b1 h4 h5 B k4 e4 k5 RS st fB => ?_
  have o := cfgG_ok n
  have hGf : (cfgG n).f = 1 := rfl
  generalize cfgG n = G at *
  have K4 := k1.trans k4
  have R0 := SRun.zero RS
  refine ⟨some ⟨B.m.b, 0⟩, some ⟨B.tb, 0⟩, some ⟨B.sb, 0⟩, rfl, ifB_neg rfl (ifB_neg rfl ?_)⟩
  refine ⟨fun s1 q1 o4 o5 o6 n9 g kk => sl = s1 ∧ (⟨b1, 0⟩ : Pt) = q1 ∧ o4 = some ⟨B.m.b, 0⟩ ∧ o5 = some ⟨B.tb, 0⟩ ∧ o6 = some ⟨B.sb, 0⟩ ∧ ∃ (i : Nat) (S : SSt) (ev : List Ev) (es gs : Sl), n9 = i ∧ i ≤ l.length ∧ kk = l.length - i ∧ SRun G ws B i S ev es gs g ∧ Keep h4 g ∧ (∀ x, SFo G B es gs x → h4 x = none),
    ⟨l.length, rfl, rfl, rfl, rfl, rfl, 0, _, [], nilS, nilS, rfl, by omega, rfl, R0, k5, fB⟩, ?_⟩
  rintro s1 q1 o4 o5 o6 n9 g kk ⟨rfl, rfl, rfl, rfl, rfl, i, S, ev, es, gs, rfl, hi, rfl, Rg, kg, Fg⟩
  have hsl := rl.len
  refine ifD (fun hlt => ?_) fun hge => ?_
  · have hi' : i < l.length := by omega
    have e5 := kg.get e4
    refine step_do o st Rg (by omega) (rl.keep stepv_length (K4.trans kg)) hi' (rd1 e5 rfl) fun ev' es' gs' h2 g2 k2 R2 v2 => ⟨_, _, rfl, ?_⟩
    obtain ⟨K2, F2⟩ := v2.keep (kg.trans k2) Fg
    exact ⟨l.length - (i + 1), by omega, rfl, rfl, rfl, rfl, rfl, i + 1, _, ev', es', gs', w64_id (by omega) (by omega), by omega, rfl, R2, K2, F2⟩
  · have hi' : i = l.length := by omega
    have hL := o.L
    have hgl := Rg.gl
    have h1 : G.L * i ≤ 4 * 16 := Nat.mul_le_mul (by omega) (by omega)
    have hil : ((i : Int) * (G.L : Int)) = ((G.L * i : Nat) : Int) := by rw [Int.natCast_mul, Int.mul_comm]
    have h2 : 2 * G.L * i = 2 * (G.L * i) := Nat.mul_assoc _ _ _
    have hil2 : ((i : Int) * ((2 * G.L : Nat) : Int)) = ((2 * G.L * i : Nat) : Int) := by rw [Int.natCast_mul (2 * G.L) i, Int.mul_comm]
    have hel := storeEv_length o.st (G.f : Int) (S.gone.map fun y => (y.1 : Int)) i
    rw [← Rg.ev] at hel
    refine (store_leaves o Rg.r (by omega)).mono ?_
    rintro _ g2 ⟨s2, rfl, o2, k2⟩
    have K2 := kg.trans k2
    have hs2 := o2.rd.len
    rw [List.length_map, hgl] at hs2
    have e2 := K2.get e4
    rw [hsl, ← hi']
    refine ⟨s2, rfl, _, rd1 e2 rfl, ifB_pos ?_ ⟨_, rd1 e2 rfl, _, rd1 e2 rfl, _, rd1 e2 rfl, _, rd1 e2 rfl, ?_⟩⟩
    · rw [w64_id (by omega) (by omega), hil, hs2]; exact decide_eq_true rfl
    have R2 := Rg.keep o k2
    refine (tape_used R2.r.tap).mono ?_
    rintro _ g3 ⟨rfl, rfl⟩
    refine ⟨_, rfl, ⟨rd1 e2 rfl, rd1 e2 rfl, rd1 e2 rfl, rd1 e2 rfl, trivial⟩, ?_⟩
    refine (store_Words o).to fun g4 k4' => ⟨_, rfl, ifB_pos ?_ ?_⟩
    · have hus := Rg.us
      rw [w64_id (by omega) (by omega), hil2, hus, Nat.zero_add]
      simp
    have e4' := k4'.get e2
    refine ⟨_, rd1 e4' rfl, _, rd1 e4' rfl, _, rd1 e4' rfl, _, rd1 e4' rfl, ?_⟩
    have R4 := R2.keep o k4'
    refine (mem_trace R4.r.mem (by omega)).mono ?_
    rintro _ g5 ⟨s3, rfl, o3, k5'⟩
    have e5' := k5'.get e4'
    refine ⟨s3, rfl, ⟨rd1 e5' rfl, rd1 e5' rfl, rd1 e5' rfl, rd1 e5' rfl, trivial⟩, ?_⟩
    refine (store_events o.st 1 (by omega) ((o2.keep (k4'.trans k5')).rd) (n := i) (by rw [List.length_map, hgl, Nat.mul_comm]) (ways_ok Rg.ai.gone) (by omega)).mono ?_
    rintro _ g6 ⟨s4, rfl, o4, k6⟩
    have o3' := o3.keep k6
    have hev : ev = storeEv G.m G.s G.t G.L 1 (S.gone.map fun y => (y.1 : Int)) i := by rw [Rg.ev, hGf]; rfl
    rw [← hev] at o4
    refine ⟨s4, rfl, (law_same o3'.rd o4.rd (by omega)).mono ?_⟩
    rintro _ g7 ⟨rfl, k7⟩
    exact ⟨true, rfl, rfl, ((((K4.trans K2).trans k4').trans k5').trans k6).trans k7⟩
end Go.Proofs.Tryz

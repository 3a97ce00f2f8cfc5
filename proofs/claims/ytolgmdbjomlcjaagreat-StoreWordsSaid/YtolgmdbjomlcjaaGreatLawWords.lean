/- StoreWords. -/
import Derived.Test.YtolgmdbjomlcjaaGreatRdL
import Derived.Test.YtolgmdbjomlcjaaGreatLawS
namespace Go.Sh
open Go Go.RowKit
theorem down4 (k : Nat) : max ((2 ^ k : Nat) / 4) 1 = 2 ^ (k - 2) := by
  rcases Nat.lt_or_ge k 2 with h | h
  · have : k = 0 ∨ k = 1 := by omega
    rcases this with rfl | rfl <;> rfl
  · obtain ⟨j, rfl⟩ := Nat.exists_eq_add_of_le h
    have : 1 ≤ 2 ^ j := Nat.one_le_two_pow
    rw [Nat.pow_add, Nat.add_sub_cancel_left]; omega
theorem zRow_get1I {v : Value} {n i : Nat} (hi : i < n) : (zRow (if n = 0 then #[] else #[v]) n)[i]? = some v := by
  rw [if_neg (by omega)]
  unfold zRow
  rw [Array.getElem?_map, Array.getElem?_range, if_pos hi]
  simp [Nat.mod_one]
theorem nodup_new {l : List Nat} (hn : l.Nodup) {j : Nat} (hj : j < l.length) : l[j] ∉ l.take j := by
  intro hm
  obtain ⟨i, hi, e⟩ := List.mem_take_iff_getElem.1 hm
  have := (List.nodup_iff_pairwise_ne.1 hn)
  have h2 := List.pairwise_iff_getElem.1 this i j (by omega) hj (by omega)
  exact h2 e
end Go.Sh
namespace Go.Proofs.Tryz
open Go Go.Sh Go.RowKit
set_option maxRecDepth 8000
theorem law_as (a b c d : Int) : PureC prog 26 [.agg #[.int .i64 a, .int .i64 b, .int .i64 c, .int .i64 d]] (.agg #[.int .i64 a, .int .i64 b, .int .i64 c, .int .i64 d]) := by
  intro h
  refine c26 _ _ _ _ ?_
  unfold G26
  refine newC fun b1 h1 f1 e1 k1 => newC fun b2 h2 f2 e2 k2 => ?_
  have e1' := k2.get e1
  refine ⟨_, rd1 e1' rfl, _, rd1 e1' rfl, _, rd1 e1' rfl, _, rd1 e1' rfl, ?_⟩
  refine stW (k1.trans k2) (k1.free f2) e2 rfl fun h3 k3 e3 _ => ⟨_, rd1 e3 rfl, _, rd1 e3 rfl, _, rd1 e3 rfl, _, rd1 e3 rfl, rfl, k3⟩
theorem ref_blocks {m : Nat} (hm : m ≤ 10) (b c d : Int) {x : Nat} (hx : x ≤ 4) : PureC prog 25 [.agg #[.int .i64 (2 ^ m), .int .i64 b, .int .i64 c, .int .i64 d], .int .i64 x] (.int .i64 ((2 ^ (m - 2 * x) : Nat) : Int)) := by
  intro h
  refine c25 _ _ _ _ _ ?_
  unfold G25
  refine newC fun b1 h1 f1 e1 k1 => ⟨_, rd1 e1 rfl, ?_⟩
  refine ⟨fun n2 n3 n4 g kk => (x : Int) = n2 ∧ h1 = g ∧ ∃ i : Nat, n4 = i ∧ i ≤ x ∧ kk = x - i ∧ n3 = ((2 ^ (m - 2 * i) : Nat) : Int), ⟨x, rfl, rfl, 0, rfl, by omega, rfl, by simp⟩, ?_⟩
  rintro n2 n3 n4 g kk ⟨rfl, rfl, i, rfl, hi, rfl, rfl⟩
  refine ifD (fun hlt => ?_) fun hge => ?_
  · refine ⟨by decide, x - (i + 1), by omega, rfl, rfl, i + 1, w64_id (by omega) (by omega), by omega, rfl, ?_⟩
    have hp : 2 ^ (m - 2 * i) ≤ 2 ^ 10 := Nat.pow_le_pow_right (by decide) (by omega)
    have e : Int.tdiv ((2 ^ (m - 2 * i) : Nat) : Int) 4 = (((2 ^ (m - 2 * i) : Nat) / 4 : Nat) : Int) := rfl
    have d := down4 (m - 2 * i)
    rw [show m - 2 * i - 2 = m - 2 * (i + 1) by omega] at d
    rw [e, ← d]
    generalize 2 ^ (m - 2 * i) = z at *
    rw [w64_id (by omega) (by omega)]
    omega
  · have : i = x := by omega
    subst this
    exact ⟨rfl, k1⟩
theorem law_words {h : Hp} {n : Int} (n1 : -9223372036854775808 ≤ n) (n2 : n ≤ 9223372036854775807) {sw : Sl} {ws : List UInt64} (rw_ : RdS vu h sw ws) (hlw : ws.length * 8 ≤ 140737488355328) {sl : Sl} {l : List StepV} (rl : RdM stepv h sl l) (_ : l.length * 24 ≤ 140737488355328) :
    callK prog 8 [.int .i64 n, vs sw, vs sl] h fun v h' => v = .bool true ∧ Keep h h' := by
  refine c8 _ _ _ ?_
  unfold G8
  refine law_shown.to fun h1 k1 => ⟨_, rfl, ifB_neg rfl (ifB_intro (fun _ => ⟨rfl, k1⟩) fun hl24 => ifB_intro (fun _ => ⟨rfl, k1⟩) fun _ => ?_)⟩
  have hlen : l.length ≤ 16 := by
    have : ¬ (16 : Int) < (sl.len : Int) := of_decide_eq_false hl24
    have := rl.len; omega
  refine law_start n1 n2 (rw_.keep k1) hlw fun b1 h4 h5 B k4 e4 k5 RS st fB => ?_
  have o := cfgG_ok n
  generalize cfgG n = G at *
  have K4 := k1.trans k4
  have R0 := SRun.zero RS
  refine ⟨some ⟨B.m.b, 0⟩, some ⟨B.tb, 0⟩, some ⟨B.sb, 0⟩, rfl, ifB_neg rfl (ifB_neg rfl ?_)⟩
  refine ⟨fun s1 s2 q1 o4 o5 n9 g kk => sw = s1 ∧ sl = s2 ∧ (⟨b1, 0⟩ : Pt) = q1 ∧ o4 = some ⟨B.tb, 0⟩ ∧ o5 = some ⟨B.sb, 0⟩ ∧ ∃ (i : Nat) (S : SSt) (ev : List Ev) (es gs : Sl), n9 = i ∧ i ≤ l.length ∧ kk = l.length - i ∧ SRun G ws B i S ev es gs g ∧ Keep h4 g ∧ (∀ x, SFo G B es gs x → h4 x = none),
    ⟨l.length, rfl, rfl, rfl, rfl, rfl, 0, _, [], nilS, nilS, rfl, by omega, rfl, R0, k5, fB⟩, ?_⟩
  rintro s1 s2 q1 o4 o5 n9 g kk ⟨rfl, rfl, rfl, rfl, rfl, i, S, ev, es, gs, rfl, hi, rfl, Rg, kg, Fg⟩
  have hsl := rl.len
  refine ifD (fun hlt => ?_) fun hge => ?_
  · have hi' : i < l.length := by omega
    have e5 := kg.get e4
    refine step_do o st Rg (by omega) (rl.keep stepv_length (K4.trans kg)) hi' (rd1 e5 rfl) fun ev' es' gs' h2 g2 k2 R2 v2 => ⟨_, _, rfl, ?_⟩
    obtain ⟨K2, F2⟩ := v2.keep (kg.trans k2) Fg
    exact ⟨l.length - (i + 1), by omega, rfl, rfl, rfl, rfl, rfl, i + 1, _, ev', es', gs', w64_id (by omega) (by omega), by omega, rfl, R2, K2, F2⟩
  · have hi' : i = l.length := by omega
    have hL := o.L
    have hm10 := o.m
    have hgl := Rg.gl
    have hus := Rg.us
    have go := Rg.ai.gone
    have h1 : G.L * i ≤ 4 * 16 := Nat.mul_le_mul (by omega) (by omega)
    have h2 : 2 * G.L * i = 2 * (G.L * i) := Nat.mul_assoc _ _ _
    refine (store_sources o Rg.r (by omega)).mono ?_
    rintro _ g2 ⟨s3, rfl, o3, k2⟩
    refine ⟨s3, rfl, (store_leaves o (Rg.r.keep o k2) (by omega)).mono ?_⟩
    rintro _ g3 ⟨s4, rfl, o4, k3⟩
    have hs3 := o3.rd.len
    have hs4 := o4.rd.len
    rw [List.length_map] at hs3 hs4
    refine ⟨s4, rfl, ifB_neg (by rw [hs3, hs4]; simp) ?_⟩
    have R3 := (Rg.keep o k2).keep o k3
    refine (tape_used R3.r.tap).mono ?_
    rintro _ g4 ⟨rfl, rfl⟩
    have K3 := (kg.trans k2).trans k3
    have r3 := (o3.keep k3).rd
    have r4 := o4.rd
    have rws := rw_.keep ((K4.trans kg).trans (k2.trans k3))
    have eu : w64 ((S.used : Int) + 1) = ((S.used + 1 : Nat) : Int) := by rw [w64_id (by omega) (by omega)]; rfl
    have ec := K3.get e4
    refine ⟨_, rfl, ?_⟩
    rw [eu]
    refine ⟨by omega, by omega, by omega, by omega, newC fun b2 h12 f2 e2 k12 => ?_⟩
    rw [Int.toNat_natCast] at e2 ⊢
    have K12 := K3.trans k12
    have R12 := R3.keep o k12
    have r3' := r3.keep k12
    have r4' := r4.keep k12
    have rw12 := rws.keep k12
    have ec12 := k12.get ec
    refine ⟨fun s5 q5 o6 s6 s7 s8 n14 g kk => sw = s5 ∧ (⟨b1, 0⟩ : Pt) = q5 ∧ some ⟨B.tb, 0⟩ = o6 ∧ s3 = s6 ∧ s4 = s7 ∧ (⟨some ⟨b2, 0⟩, S.used + 1, S.used + 1, none⟩ : Sl) = s8 ∧ ∃ j : Nat, n14 = j ∧ j ≤ S.gone.length ∧ kk = S.gone.length - j ∧ Keep g4 g ∧ (∀ y, y ≠ b2 → h12 y ≠ none → g y = h12 y) ∧ ∃ c T, g b2 = some (.cells c T (0, 0)) ∧ c.size = S.used + 1 ∧ ∀ x, x ≤ S.used → c[x]? = some (.int .i64 (if x ∈ (S.gone.map (·.2)).take j then 1 else 0)),
      ⟨S.gone.length, rfl, rfl, rfl, rfl, rfl, rfl, 0, rfl, by omega, rfl, k12, fun _ _ _ => rfl, _, _, e2, by rw [zRow_size]; omega, fun x hx => ?_⟩, ?_⟩
    · have z := zRow_get1I (v := .int .i64 0) (n := S.used + 1) (i := x) (by omega)
      show (zRow (if (S.used + 1) * 1 = 0 then #[] else #[.int .i64 0]) ((S.used + 1) * 1))[x]? = _
      rw [Nat.mul_one, z, List.take_zero]; simp
    rintro s5 q5 o6 s6 s7 s8 n14 g kk ⟨rfl, rfl, rfl, rfl, rfl, rfl, j, rfl, hj, rfl, k4g, og, c, T, eg, hc, hcx⟩
    refine ifD (fun hlt => ?_) fun _ => ⟨rfl, (K4.trans K3).trans k4g⟩
    have hj' : j < S.gone.length := by omega
    have ne2 : ∀ {y : Nat} {ob : Obj}, g4 y = some ob → y ≠ b2 := fun e e' => by rw [e', f2] at e; cases e
    have ecg := k4g.get ec
    have rs3 := r3.keep k4g
    have rs4 := r4.keep k4g
    have rwg := rws.keep k4g
    have Rgg := R3.keep o k4g
    generalize hxg : S.gone[j] = xg
    have hxj : S.gone[j]? = some xg := by rw [List.getElem?_eq_getElem hj', hxg]
    have hlt' := go.lt xg (hxg ▸ List.getElem_mem hj')
    have hval := go.val j xg hxj
    obtain ⟨a, e, ha, he, hkind⟩ := go.kind j xg hxj
    have hmod : j % G.L < G.L := Nat.mod_lt _ (by omega)
    have hkind' : xg.2 = 2 * G.L * a + (2 * (j % G.L) + e) := by
      rw [hkind]; unfold SP.fp; omega
    have hmodp : xg.2 % (2 * G.L) = 2 * (j % G.L) + e := by
      rw [hkind', Nat.mul_add_mod, Nat.mod_eq_of_lt (by omega)]
    have hdivp : xg.2 / (2 * G.L) = a := by
      rw [hkind', Nat.mul_add_div (by omega), Nat.div_eq_of_lt (by omega), Nat.add_zero]
    have p3 : ∀ (g' : Hp), RdS iv g' s3 (S.gone.map fun y => (y.2 : Int)) → ∃ q, s3.q = some q ∧ hcell g' q.b (q.o + Int.toNat (j : Int) * 1) = some (.int .i64 (xg.2 : Int)) := fun g' r => by
      obtain ⟨q, hq, hcl⟩ := r.at (i := j) (by simpa using hj')
      refine ⟨q, hq, ?_⟩
      rw [show q.o + Int.toNat (j : Int) * 1 = q.o + j by simp, hcl]
      simp [hxg, iv]
    have p4 : ∀ (g' : Hp), RdS iv g' s4 (S.gone.map fun y => (y.1 : Int)) → ∃ q, s4.q = some q ∧ hcell g' q.b (q.o + Int.toNat (j : Int) * 1) = some (.int .i64 (xg.1 : Int)) := fun g' r => by
      obtain ⟨q, hq, hcl⟩ := r.at (i := j) (by simpa using hj')
      refine ⟨q, hq, ?_⟩
      rw [show q.o + Int.toNat (j : Int) * 1 = q.o + j by simp, hcl]
      simp [hxg, iv]
    obtain ⟨q6, hq6, c6⟩ := p3 g rs3
    have j0 : (0 : Int) ≤ (j : Int) := by omega
    have j3 : (j : Int) + 1 ≤ (s3.len : Int) := by omega
    have j4 : (j : Int) + 1 ≤ (s4.len : Int) := by omega
    refine ⟨_, rd1 ecg rfl, _, rd1 ecg rfl, (show (G.L : Int) = 0 → False by omega), q6, hq6, j0, j3, _, c6, ifB_neg (decide_eq_false (by omega)) ⟨q6, hq6, j0, j3, _, c6, ?_⟩⟩
    refine (tape_used Rgg.r.tap).mono ?_
    rintro _ g5 ⟨rfl, rfl⟩
    refine ⟨_, rfl, ⟨c6, trivial⟩, ifB_neg (show decide ((S.used : Int) ≤ (xg.2 : Int)) = false from decide_eq_false (by omega)) ?_⟩
    have hnew : xg.2 ∉ (S.gone.map (·.2)).take j := by
      have := nodup_new go.nodup (j := j) (by simpa using hj')
      simpa [hxg] using this
    have x0 : (0 : Int) ≤ (xg.2 : Int) := by omega
    have x1 : (xg.2 : Int) + 1 ≤ ((S.used + 1 : Nat) : Int) := by omega
    have cx := hcx xg.2 (by omega)
    rw [if_neg hnew] at cx
    have cx' : hcell g5 b2 (0 + Int.toNat (xg.2 : Int) * 1) = some (.int .i64 0) := by
      rw [show 0 + Int.toNat (xg.2 : Int) * 1 = xg.2 by simp]; exact rd1 eg cx
    refine ⟨q6, hq6, j0, j3, _, c6, ⟨b2, 0⟩, rfl, x0, x1, _, cx', ifB_neg rfl ⟨q6, hq6, j0, j3, _, c6, ⟨b2, 0⟩, rfl, x0, x1, ?_⟩⟩
    refine stN k4g f2 eg (by simp; omega) fun g6 k6 e6 o6 => ?_
    have ec6 := k6.get ec
    have rs3 := r3.keep k6
    have rs4 := r4.keep k6
    have rwg := rws.keep k6
    have Rg6 := R3.keep o k6
    have etm : Int.tmod (j : Int) (G.L : Int) = ((j % G.L : Nat) : Int) := rfl
    have etd : Int.tdiv (j : Int) (G.L : Int) = ((j / G.L : Nat) : Int) := rfl
    have ehh : w64 (w64 ((G.L : Int) - 1) - Int.tmod (j : Int) (G.L : Int)) = ((G.L - 1 - j % G.L : Nat) : Int) := by
      rw [etm, w64_id (n := (G.L : Int) - 1) (by omega) (by omega), w64_id (by omega) (by omega)]; omega
    rw [ehh]
    refine ⟨fun s9 q15 o7 s10 s11 s12 n25 n26 x4 g' => sw = s9 ∧ (⟨b1, 0⟩ : Pt) = q15 ∧ some ⟨B.tb, 0⟩ = o7 ∧ s3 = s10 ∧ s4 = s11 ∧ (⟨some ⟨b2, 0⟩, S.used + 1, S.used + 1, none⟩ : Sl) = s12 ∧ (j : Int) = n25 ∧ n26 = ((G.L - 1 - j % G.L : Nat) : Int) ∧ x4 = ws.getD xg.2 0 ∧ g6 = g', ?_, ?_⟩
    · obtain ⟨q12, hq12, c12⟩ := p3 g6 rs3
      refine ⟨q12, hq12, j0, j3, _, c12, ifD (fun hlw' => ?_) fun hge' => ?_⟩
      · have hwl := rwg.len
        have hpl : xg.2 < ws.length := by omega
        refine ⟨q12, hq12, j0, j3, _, c12, rwg.ix hpl fun q hq hcl => ⟨_, hcl, rfl, rfl, rfl, rfl, rfl, rfl, rfl, rfl, ?_, rfl⟩⟩
        rw [List.getD_eq_getElem?_getD, List.getElem?_eq_getElem hpl]; rfl
      · have hwl := rwg.len
        refine ⟨rfl, rfl, rfl, rfl, rfl, rfl, rfl, rfl, ?_, rfl⟩
        rw [List.getD_eq_getElem?_getD, List.getElem?_eq_none (by omega)]; rfl
    rintro s9 q15 o7 s10 s11 s12 n25 n26 x4 g' ⟨rfl, rfl, rfl, rfl, rfl, rfl, rfl, rfl, rfl, rfl⟩
    obtain ⟨q16, hq16, c16⟩ := p4 g6 rs4
    refine ⟨q16, hq16, j0, j4, _, c16, _, rd1 ec6 rfl, _, rd1 ec6 rfl, _, rd1 ec6 rfl, _, rd1 ec6 rfl, ?_⟩
    refine (law_as _ _ _ _).to fun g7 k7 => ⟨_, _, _, _, rfl, ⟨k7.cell c16, trivial⟩, ?_⟩
    refine (ref_blocks hm10 _ _ _ (x := G.L - 1 - j % G.L) (by omega)).to fun g8 k8 => ⟨_, rfl, ⟨(k7.trans k8).cell c16, trivial⟩, ?_⟩
    have hpw : 2 ^ (G.m - 2 * (G.L - 1 - j % G.L)) ≤ 2 ^ 10 := Nat.pow_le_pow_right (by decide) (by omega)
    have hpw1 : 1 ≤ 2 ^ (G.m - 2 * (G.L - 1 - j % G.L)) := Nat.one_le_two_pow
    have etu : (toU ((2 ^ (G.m - 2 * (G.L - 1 - j % G.L)) : Nat) : Int)).toNat = 2 ^ (G.m - 2 * (G.L - 1 - j % G.L)) := by
      rw [toU_eq (by omega), UInt64.toNat_ofNat']; omega
    have hleaf : xg.1 = (ws.getD xg.2 0).toNat % 2 ^ (G.m - 2 * (G.L - 1 - j % G.L)) := hval
    have hml : (ws.getD xg.2 0).toNat % 2 ^ (G.m - 2 * (G.L - 1 - j % G.L)) < 2 ^ (G.m - 2 * (G.L - 1 - j % G.L)) := Nat.mod_lt _ hpw1
    refine ⟨fun e => ?_, ifB_neg ?_ ?_⟩
    · rw [e] at etu; simp at etu; omega
    · rw [UInt64.toNat_mod, etu, w64_id (by omega) (by omega), hleaf]; simp
    have k68 := k7.trans k8
    have ec8 := k68.get ec6
    obtain ⟨q17, hq17, c17⟩ := p3 g8 (rs3.keep k68)
    refine ⟨q17, hq17, j0, j3, _, c17, _, rd1 ec8 rfl, _, rd1 ec8 rfl, _, rd1 ec8 rfl, _, rd1 ec8 rfl, _, rd1 ec8 rfl, ?_⟩
    refine (store_Words o).to fun g9 k9 => ⟨_, rfl, ⟨rd1 (k9.get ec8) rfl, trivial⟩, ⟨k9.cell c17, trivial⟩, (by omega), by decide, ifB_neg ?_ ?_⟩
    · have e1 : Int.tdiv (Int.tmod (xg.2 : Int) ((2 * G.L : Nat) : Int)) 2 = ((xg.2 % (2 * G.L) / 2 : Nat) : Int) := rfl
      show (!decide (w64 (Int.tdiv (Int.tmod (xg.2 : Int) ((2 * G.L : Nat) : Int)) 2) = w64 (w64 ((G.L : Int) - 1) - ((G.L - 1 - j % G.L : Nat) : Int)))) = false
      rw [e1, hmodp, w64_id (n := (G.L : Int) - 1) (by omega) (by omega), w64_id (by omega) (by omega), w64_id (by omega) (by omega), decide_eq_true (by omega)]; rfl
    have ec9 := k9.get ec8
    have k69 := k68.trans k9
    obtain ⟨q18, hq18, c18⟩ := p3 g9 (rs3.keep k69)
    refine ⟨q18, hq18, j0, j3, _, c18, _, rd1 ec9 rfl, _, rd1 ec9 rfl, _, rd1 ec9 rfl, _, rd1 ec9 rfl, _, rd1 ec9 rfl, (show (G.L : Int) = 0 → False by omega), ?_⟩
    refine (store_Words o).to fun g10 k10 => ⟨_, rfl, ⟨rd1 (k10.get ec9) rfl, trivial⟩, ⟨k10.cell c18, trivial⟩, (by omega), ifB_neg ?_ ?_⟩
    · have e1 : Int.tdiv (xg.2 : Int) ((2 * G.L : Nat) : Int) = ((xg.2 / (2 * G.L) : Nat) : Int) := rfl
      have hjl : j / G.L ≤ j := Nat.div_le_self _ _
      show decide (w64 (Int.tdiv (j : Int) (G.L : Int)) < w64 (Int.tdiv (xg.2 : Int) ((2 * G.L : Nat) : Int))) = false
      rw [etd, e1, hdivp, w64_id (by omega) (by omega), w64_id (by omega) (by omega)]
      exact decide_eq_false (by omega)
    have k610 := k69.trans k10
    refine ⟨S.gone.length - (j + 1), by omega, rfl, rfl, rfl, rfl, rfl, rfl, j + 1, w64_id (by omega) (by omega), by omega, rfl, k6.trans k610, fun y hy hn => ?_, _, _, k610.get e6, by rw [hwr_size]; exact hc, fun x hx => ?_⟩
    · rw [k610 y (by rw [o6 y hy, og y hy hn]; exact hn), o6 y hy, og y hy hn]
    · have htk : (S.gone.map (·.2)).take (j + 1) = (S.gone.map (·.2)).take j ++ [xg.2] := by
        rw [List.take_add_one, List.getElem?_map, hxj]; rfl
      rw [hwr_get, htk]
      by_cases ex : x = xg.2
      · subst ex
        rw [if_pos (by simp; omega), if_pos (by simp)]; simp
      · rw [if_neg (by simp; omega), hcx x hx]
        congr 2
        simp [ex]
end Go.Proofs.Tryz

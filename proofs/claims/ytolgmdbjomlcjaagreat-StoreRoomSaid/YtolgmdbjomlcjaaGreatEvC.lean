/- Networks, sorts, levels: how they look at cells. -/
import Derived.Test.YtolgmdbjomlcjaaGreatEvB
namespace Go.Proofs.Tryz
open Go Go.Sh Go.RowKit
set_option maxRecDepth 8000

def roundE (n : Int) : Nat := if n < 1 then 0 else min (Lib.bitLen (n - 1).toNat) 62
theorem roundI_E (n : Int) : roundI n = 2 ^ roundE n := by unfold roundI roundE; split <;> rfl
theorem roundE_le {n : Int} {k : Nat} (hk : k ≤ 62) (h : n ≤ 2 ^ k) : roundE n ≤ k := by
  unfold roundE
  split
  · omega
  · have e' : ((2 ^ k : Nat) : Int) = 2 ^ k := by simp
    have := Lib.bitLen_le (n - 1).toNat k (by omega) (by omega)
    omega

theorem pow_succ_int2 (j : Nat) : (2 : Int) * 2 ^ j = 2 ^ (j + 1) := by rw [Int.pow_succ]; omega
/-! ## networks -/
theorem ibit_and {i b : Nat} (hi : i < 2 ^ 63) (hb : b < 63) : ibit .and .i64 (i : Int) ((2 : Int) ^ b) = ((i &&& 2 ^ b : Nat) : Int) := by
  have e : ((2 : Int) ^ b) = ((2 ^ b : Nat) : Int) := by simp
  have h1 : 2 ^ b < 2 ^ 64 := Nat.pow_lt_pow_right (by decide) (by omega)
  rw [e]
  show (((BitVec.ofInt 64 (i : Int) &&& BitVec.ofInt 64 ((2 ^ b : Nat) : Int)).toNat : Nat) : Int) = _
  rw [BitVec.toNat_and, BitVec.ofInt_natCast, BitVec.ofInt_natCast, BitVec.toNat_ofNat, BitVec.toNat_ofNat, Nat.mod_eq_of_lt (by omega), Nat.mod_eq_of_lt h1]
theorem ibit_or {i b : Nat} (hi : i < 2 ^ 63) (hb : b < 63) : ibit .or .i64 (i : Int) ((2 : Int) ^ b) = ((i ||| 2 ^ b : Nat) : Int) := by
  have e : ((2 : Int) ^ b) = ((2 ^ b : Nat) : Int) := by simp
  have h1 : 2 ^ b < 2 ^ 64 := Nat.pow_lt_pow_right (by decide) (by omega)
  rw [e]
  show (((BitVec.ofInt 64 (i : Int) ||| BitVec.ofInt 64 ((2 ^ b : Nat) : Int)).toNat : Nat) : Int) = _
  rw [BitVec.toNat_or, BitVec.ofInt_natCast, BitVec.ofInt_natCast, BitVec.toNat_ofNat, BitVec.toNat_ofNat, Nat.mod_eq_of_lt (by omega), Nat.mod_eq_of_lt h1]
theorem and_pow0 : ∀ i : Fin 1024, ∀ b : Fin 11, decide (i.val &&& 2 ^ b.val = 0) = decide (i.val / 2 ^ b.val % 2 = 0) := by decide +kernel
theorem or_pow : ∀ i : Fin 1024, ∀ b : Fin 10, i.val / 2 ^ b.val % 2 = 0 → i.val ||| 2 ^ b.val = i.val + 2 ^ b.val := by decide +kernel
theorem and_bd (i b : Nat) : i &&& 2 ^ b ≤ i := Nat.and_le_left

def ipairs (k j n : Nat) : List Pr := ((List.range n).filter fun i => decide (i / j % 2 = 0)).map fun (i : Nat) => (⟨(i : Int), ((i + j : Nat) : Int), decide (i / k % 2 = 0)⟩ : Pr)
theorem ipairs_succ (k j n : Nat) : ipairs k j (n + 1) = ipairs k j n ++ (if n / j % 2 = 0 then [(⟨(n : Int), ((n + j : Nat) : Int), decide (n / k % 2 = 0)⟩ : Pr)] else []) := by
  unfold ipairs
  rw [List.range_succ, List.filter_append, List.map_append]
  congr 1
  by_cases h : n / j % 2 = 0 <;> simp [h]
theorem ipairs_length (k j n : Nat) : (ipairs k j n).length ≤ n := by
  unfold ipairs
  rw [List.length_map]
  exact Nat.le_trans (List.length_filter_le _ _) (by simp)
def jl (n a : Nat) : Nat → List Pr
  | 0 => []
  | b + 1 => ipairs (2 ^ (a + 1)) (2 ^ b) n ++ jl n a b
theorem jl_length (n a b : Nat) : (jl n a b).length ≤ b * n := by
  induction b with
  | zero => simp [jl]
  | succ b ih => simp only [jl, List.length_append]; have := ipairs_length (2 ^ (a + 1)) (2 ^ b) n; rw [Nat.succ_mul]; omega
def kl (n a : Nat) : List Pr := (List.range a).flatMap fun a => jl n a (a + 1)
theorem kl_succ (n a : Nat) : kl n (a + 1) = kl n a ++ jl n a (a + 1) := by simp [kl, List.range_succ]
theorem kl_length (n a : Nat) : (kl n a).length ≤ a * a * n := by
  induction a with
  | zero => simp [kl]
  | succ a ih =>
    rw [kl_succ, List.length_append]
    have h1 := jl_length n a (a + 1)
    have h2 : (a + 1) * (a + 1) * n = a * a * n + a * n + (a + 1) * n := by
      have e : (a + 1) * (a + 1) = a * a + a + (a + 1) := by rw [Nat.mul_add, Nat.add_mul]; omega
      rw [e, Nat.add_mul, Nat.add_mul]
    omega
def pairsL (K : Nat) : List Pr := kl (2 ^ K) K
theorem pairsL_length {K : Nat} (hK : K ≤ 10) : (pairsL K).length ≤ 102400 := by
  have h1 := kl_length (2 ^ K) K
  have h2 : 2 ^ K ≤ 2 ^ 10 := Nat.pow_le_pow_right (by decide) hK
  have h3 : K * K ≤ 10 * 10 := Nat.mul_le_mul hK hK
  have h4 : K * K * 2 ^ K ≤ 100 * 1024 := Nat.mul_le_mul h3 h2
  unfold pairsL; omega

def hv (c : Nat) : Int := if c = 0 then 0 else 2 ^ (c - 1)
theorem hv_succ (c : Nat) : hv (c + 1) = 2 ^ c := by simp [hv]
theorem hv_half {c : Nat} (hc : c ≤ 10) : w64 (((2 : Int) ^ c).tdiv 2) = hv c := by
  cases c with
  | zero => rw [show ((2 : Int) ^ 0).tdiv 2 = 0 from rfl, w64_id (by omega) (by omega)]; rfl
  | succ c =>
    have hb := pow_bds (k := c) (by omega)
    rw [hv_succ, ← pow_succ_int2]
    have : (2 * (2 : Int) ^ c).tdiv 2 = 2 ^ c := by rw [Int.tdiv_eq_ediv_of_nonneg (by omega)]; omega
    rw [this, w64_id (by omega) (by omega)]
theorem net_pairs1 {K : Nat} (hK : K ≤ 10) {y : Value} {S : List Pr → (Nat → Prop) → Hp → Prop} (sk : Sink y (fun x => .agg (prc x).toArray) S 1000000000000) {F : Nat → Prop} {h : Hp} {b : Nat}
    (s0 : S [] F h) (hc : hcell h b 0 = some (.int .i64 (2 ^ K))) (hb : ¬ F b) :
    callK prog 173 [y, vp ⟨b, 0⟩] h fun _ h2 => ∃ F', S (pairsL K) F' h2 ∧ Mv F h F' h2 := by
  have hn : h b ≠ none := hcell_some hc
  have cell : ∀ {F' h'}, Mv F h F' h' → hcell h' b 0 = some (.int .i64 (2 ^ K)) ∧ ¬ F' b := fun m => ⟨by rw [hcell_same (m.2.1 b hn hb), hc], m.out hn hb⟩
  have hKb := pow_bds hK
  have hKn : 2 ^ K ≤ 1024 := Nat.pow_le_pow_right (n := 2) (by decide) hK
  have eK : ((2 ^ K : Nat) : Int) = 2 ^ K := by simp
  refine c173 y ⟨b, 0⟩ ?_
  unfold G173
  refine ⟨fun v q n h1 m => v = y ∧ q = ⟨b, 0⟩ ∧ ∃ a : Nat, n = 2 ^ (a + 1) ∧ a ≤ K ∧ (∃ F', S (kl (2 ^ K) a) F' h1 ∧ Mv F h F' h1) ∧ m = K - a, ⟨_, rfl, rfl, 0, rfl, Nat.zero_le _, ⟨F, s0, Mv.refl _ _⟩, rfl⟩, ?_⟩
  rintro v q n h1 m ⟨rfl, rfl, a, hna, ha, ⟨F1, s1, m1⟩, rfl⟩
  refine ⟨_, (cell m1).1, ifD (fun hle => ?_) fun hgt => ?_⟩
  · have haK : a < K := by
      rcases Nat.lt_or_ge a K with h | h
      · exact h
      · have : a = K := by omega
        subst this; rw [← pow_succ_int2] at hna; omega
    have hap := pow_bds (k := a + 1) (by omega)
    have hap0 := pow_bds (k := a) (by omega)
    rw [hna, hv_half (c := a + 1) (by omega)]
    refine ⟨by decide, fun v2 q2 n2 j h2 m => v2 = v ∧ q2 = ⟨b, 0⟩ ∧ n2 = 2 ^ (a + 1) ∧ ∃ c : Nat, j = hv c ∧ c ≤ a + 1 ∧ (∃ F' l, S l F' h2 ∧ Mv F h F' h2 ∧ l ++ jl (2 ^ K) a c = kl (2 ^ K) (a + 1)) ∧ c = m,
      ⟨_, rfl, rfl, rfl, a + 1, rfl, Nat.le_refl _, ⟨F1, _, s1, m1, (kl_succ _ _).symm⟩, rfl⟩, ?_⟩
    rintro v2 q2 n2 j h2 m ⟨rfl, rfl, hn2, c, hj, hca, ⟨F2, l, s2, m2, hl⟩, rfl⟩
    refine ifD (fun hpos => ?_) fun hnpos => ?_
    · cases c with
      | zero => rw [hj] at hpos; simp [hv] at hpos
      | succ c =>
        rw [hv_succ] at hj
        have hcb := pow_bds (k := c) (by omega)
        refine ⟨_, (cell m2).1, ?_⟩
        refine ⟨fun v3 q3 n6 n7 n8 i h3 m => v3 = v2 ∧ q3 = ⟨b, 0⟩ ∧ n6 = 2 ^ (a + 1) ∧ n7 = 2 ^ c ∧ n8 = 2 ^ K ∧ ∃ u : Nat, i = u ∧ u ≤ 2 ^ K ∧ (∃ F', S (l ++ ipairs (2 ^ (a + 1)) (2 ^ c) u) F' h3 ∧ Mv F h F' h3) ∧ m = 2 ^ K - u,
          ⟨_, rfl, rfl, hn2, hj, rfl, 0, rfl, Nat.zero_le _, ⟨F2, by simpa [ipairs] using s2, m2⟩, rfl⟩, ?_⟩
        rintro v3 q3 n6 n7 n8 i h3 m ⟨rfl, rfl, hn6, hn7, hn8, u, rfl, hu, ⟨F3, s3, m3⟩, rfl⟩
        refine ifD (fun hlt => ?_) fun hge => ?_
        · have hu2 : u < 2 ^ K := by omega
          have hu3 : u < 2 ^ 63 := by omega
          have ea := ibit_and (i := u) (b := c) hu3 (by omega)
          have eb := ibit_and (i := u) (b := a + 1) hu3 (by omega)
          have eo := ibit_or (i := u) (b := c) hu3 (by omega)
          have la := and_bd u c; have lb := and_bd u (a + 1)
          have d1 := and_pow0 ⟨u, by omega⟩ ⟨c, by omega⟩
          have d2 := and_pow0 ⟨u, by omega⟩ ⟨a + 1, by omega⟩
          simp only at d1 d2
          rw [hn6, hn7, ea, eb, eo, w64_id (n := ((u &&& 2 ^ c : Nat) : Int)) (by omega) (by omega), w64_id (n := ((u &&& 2 ^ (a + 1) : Nat) : Int)) (by omega) (by omega)]
          have nx : ∀ {h4 F4}, S (l ++ ipairs (2 ^ (a + 1)) (2 ^ c) (u + 1)) F4 h4 → Mv F h F4 h4 → ∃ k3, k3 < 2 ^ K - u ∧ v3 = v3 ∧ (⟨b, 0⟩ : Pt) = ⟨b, 0⟩ ∧ (2 : Int) ^ (a + 1) = 2 ^ (a + 1) ∧ (2 : Int) ^ c = 2 ^ c ∧ n8 = 2 ^ K ∧ ∃ u' : Nat, w64 ((u : Int) + 1) = u' ∧ u' ≤ 2 ^ K ∧ (∃ F', S (l ++ ipairs (2 ^ (a + 1)) (2 ^ c) u') F' h4 ∧ Mv F h F' h4) ∧ k3 = 2 ^ K - u' :=
            fun g1 g2 => ⟨_, by omega, rfl, rfl, rfl, rfl, hn8, u + 1, w64_id (by omega) (by omega), by omega, ⟨_, g1, g2⟩, rfl⟩
          refine ifD (fun hz => ?_) fun hz => ?_
          · have hz0 : u / 2 ^ c % 2 = 0 := by
              have : decide (u &&& 2 ^ c = 0) = true := decide_eq_true (by omega)
              rw [d1] at this; exact of_decide_eq_true this
            have ho := or_pow ⟨u, by omega⟩ ⟨c, by omega⟩ hz0
            simp only at ho
            have hcN : 2 ^ c ≤ 1024 := Nat.pow_le_pow_right (n := 2) (by decide) (show c ≤ 10 by omega)
            rw [ho, w64_id (n := ((u + 2 ^ c : Nat) : Int)) (by omega) (by omega)]
            have e3 : decide (((u &&& 2 ^ (a + 1) : Nat) : Int) = 0) = decide (u / 2 ^ (a + 1) % 2 = 0) := by rw [← d2]; congr 1; simp
            rw [e3]
            have hlen : (l ++ ipairs (2 ^ (a + 1)) (2 ^ c) u).length < 1000000000000 := by
              have h1 := congrArg List.length hl
              rw [List.length_append] at h1
              have h2 := kl_length (2 ^ K) (a + 1)
              have h3 := ipairs_length (2 ^ (a + 1)) (2 ^ c) u
              have h4 : (a + 1) * (a + 1) * 2 ^ K ≤ 10 * 10 * 1024 := Nat.mul_le_mul (Nat.mul_le_mul (by omega) (by omega)) hKn
              rw [List.length_append]; omega
            refine (sk.put _ _ _ ⟨(u : Int), ((u + 2 ^ c : Nat) : Int), decide (u / 2 ^ (a + 1) % 2 = 0)⟩ s3 hlen).mono ?_
            rintro _ h4 ⟨rfl, F4, s4, m4⟩
            exact ⟨_, rfl, ifB_neg rfl (nx (by rw [ipairs_succ, if_pos hz0, ← List.append_assoc]; exact s4) (m3.trans m4))⟩
          · have hz0 : ¬ u / 2 ^ c % 2 = 0 := fun e => by
              have : decide (u / 2 ^ c % 2 = 0) = true := decide_eq_true e
              rw [← d1] at this
              have := of_decide_eq_true this
              omega
            exact nx (by rw [ipairs_succ, if_neg hz0, List.append_nil]; exact s3) m3
        · have : u = 2 ^ K := by omega
          rw [hn7, hv_half (by omega)]
          refine ⟨by decide, _, by omega, rfl, rfl, hn6, c, rfl, by omega, ⟨F3, _, s3, m3, ?_⟩, rfl⟩
          rw [this, List.append_assoc]; exact hl
    · have : c = 0 := by
        cases c with
        | zero => rfl
        | succ c => rw [hj, hv_succ] at hnpos; have := pow_bds (k := c) (by omega); omega
      subst this
      simp only [jl, List.append_nil] at hl
      rw [hn2, Int.mul_comm, pow_succ_int2]
      have hp2 := pow_le_pow (show a + 1 + 1 ≤ 11 by omega)
      rw [w64_id (by have := pow_le_pow (Nat.zero_le (a + 1 + 1)); simp at this; omega) (by simp at hp2; omega)]
      exact ⟨_, by omega, rfl, rfl, a + 1, rfl, by omega, ⟨F2, by rw [← hl]; exact s2, m2⟩, rfl⟩
  · have haK : a = K := by
      rcases Nat.lt_or_ge a K with h | h
      · have := pow_le_pow (show a + 1 ≤ K by omega); omega
      · omega
    subst haK
    exact ⟨F1, s1, m1⟩
theorem net_right {k : Nat} (hk : k ≤ 10) : PureC prog 157 [.int .i64 (2 ^ k)] (.bool true) := by
  intro h
  have hb := pow_bds hk
  refine c157 _ ?_
  unfold G157
  refine ifD (fun _ => ifB_pos (by simp; omega) ⟨?_, Keep.refl _⟩) fun e => absurd hb.1 e
  rw [w64_id (n := 2 ^ k - 1) (by omega) (by omega), pow_and k hk, w64_id (by decide) (by decide)]
  rfl
theorem net_pairs {K : Nat} (hK : K ≤ 10) (h : Hp) : callK prog 140 [.int .i64 (2 ^ K)] h fun v h' => ∃ s, v = vs s ∧ OwnM 3 prc h h' s (pairsL K) ∧ Keep h h' := by
  refine c140 _ ?_
  unfold G140
  refine (net_right hK).to fun h1 k1 => ⟨_, rfl, ifB_neg rfl ?_⟩
  refine c159 _ ?_
  unfold G159
  refine newC fun b h2 f2 e2 k2 => ⟨_, rfl, ?_⟩
  have hL := pairsL_length hK
  refine (collect_pr (g := 173) (caps := [vp ⟨b, 0⟩]) (L := pairsL K) (h := h2) (by omega) fun y S sk F h3 k3 s0 f0 => ?_).mono ?_
  · exact net_pairs1 hK sk s0 (rd1 (k3.get e2) rfl) fun hF => by rw [f0 b hF] at e2; cases e2
  · rintro _ h3 ⟨s, rfl, o, k⟩
    exact ⟨_, rfl, _, rfl, o.baseK (k1.trans k2), (k1.trans k2).trans k⟩

/-! ## sorts -/
def sort4 (reg : Int) (p : Pr) : List Ev := [⟨reg, p.i, false⟩, ⟨reg, p.j, false⟩, ⟨reg, p.i, true⟩, ⟨reg, p.j, true⟩]
def sortEv (reg : Int) (K : Nat) : List Ev := (pairsL K).flatMap (sort4 reg)
theorem sort4_length (reg : Int) (l : List Pr) : (l.flatMap (sort4 reg)).length = 4 * l.length := by
  induction l with
  | nil => rfl
  | cons p l ih => simp [sort4, ih]; omega
theorem sort_events (reg : Int) {K : Nat} (hK : K ≤ 10) (h : Hp) : callK prog 124 [.int .i64 reg, .int .i64 (2 ^ K)] h fun v h' => ∃ s, v = vs s ∧ OwnM 3 evc h h' s (sortEv reg K) ∧ Keep h h' := by
  refine c124 _ _ ?_
  unfold G124
  have hL := pairsL_length hK
  refine (net_pairs hK h).mono ?_
  rintro _ h1 ⟨s1, rfl, o1, k1⟩
  have r1 := o1.rd
  have l1 := r1.len
  refine ⟨_, rfl, fun r s x l i h2 k => reg = r ∧ s1 = x ∧ l = s1.len ∧ ∃ j : Nat, i = j ∧ j ≤ s1.len ∧ OwnM 3 evc h1 h2 s (((pairsL K).take j).flatMap (sort4 reg)) ∧ Keep h1 h2 ∧ k = s1.len - j, ⟨_, rfl, rfl, rfl, 0, rfl, Nat.zero_le _, OwnM.nilS _ _ _ _, Keep.refl h1, rfl⟩, ?_⟩
  rintro r s x l i h2 k ⟨rfl, rfl, rfl, j, rfl, hj, oj, k2, rfl⟩
  refine ifD (fun hlt => ?_) fun hge => ?_
  · have hj' : j < (pairsL K).length := by omega
    refine (r1.keep prc3 k2).ix prc3 hj' fun q _ hr => ?_
    obtain ⟨p, hp⟩ : ∃ p, p = (pairsL K)[j] := ⟨_, rfl⟩
    rw [← hp] at hr
    have htk : (pairsL K).take (j + 1) = (pairsL K).take j ++ [p] := by rw [hp, List.take_append_getElem hj']
    obtain ⟨pi, pj, pu⟩ := p
    obtain ⟨g1, g2, g3, _⟩ := hr
    refine ⟨_, g1, _, g2, _, g3, newC fun b1 h3 f3 e3 k3 => stW k3 f3 e3 rfl fun h4 k4 e4 _ => newC fun b2 h5 f5 e5 k5 => ?_⟩
    have k45 := k4.trans k5
    have rb : RdS Value.bool h5 ⟨some ⟨b2, 0⟩, 2, 2, none⟩ [false, true] := (OwnS.newE (f := Value.bool) (h0 := h4) (l := [false, true]) f5 e5 rfl rfl).rd
    have ne0 : ∀ p, s.q = some p → p.b ≠ b1 ∧ p.b ≠ b2 := fun p hp =>
      ⟨fun e => (oj.blk hp).2 (e ▸ f3), fun e => by
        have := f5
        rw [← e, k4 _ (oj.blk hp).2] at this
        exact (oj.blk hp).2 this⟩
    let base := ((pairsL K).take j).flatMap (sort4 reg)
    let mid : Nat → List Ev := fun u => if u = 0 then [] else if u = 1 then [⟨reg, pi, false⟩, ⟨reg, pj, false⟩] else sort4 reg ⟨pi, pj, pu⟩
    refine ⟨fun r s q y a b z n v h6 m => reg = r ∧ q = ⟨b1, 0⟩ ∧ s1 = y ∧ a = s1.len ∧ b = j ∧ z = ⟨some ⟨b2, 0⟩, 2, 2, none⟩ ∧ n = 2 ∧ ∃ u : Nat, v = u ∧ u ≤ 2 ∧ OwnM 3 evc h1 h6 s (base ++ mid u) ∧ (∀ p, s.q = some p → p.b ≠ b1 ∧ p.b ≠ b2) ∧ h6 b1 = h5 b1 ∧ h6 b2 = h5 b2 ∧ Keep h1 h6 ∧ m = 2 - u,
      ⟨_, rfl, rfl, rfl, rfl, rfl, rfl, rfl, 0, rfl, by omega, by simpa [mid, base] using oj.keep (k4.trans k5), ne0, rfl, rfl, k2.trans (k4.trans k5), rfl⟩, ?_⟩
    rintro r s q y a b z n v h6 m ⟨rfl, rfl, rfl, rfl, rfl, rfl, rfl, u, rfl, hu, ou, ne6, eb1, eb2, k6, rfl⟩
    have blen : base.length ≤ 409600 := by
      show (((pairsL K).take j).flatMap (sort4 reg)).length ≤ 409600
      rw [sort4_length, List.length_take]; omega
    refine ifD (fun hlt2 => ?_) fun hge2 => ?_
    · have hu' : u = 0 ∨ u = 1 := by omega
      have e6 : h6 b1 = some (.cells #[.int .i64 pi, .int .i64 pj, .bool pu] 207 (0, 0)) := by rw [eb1]; exact k5.get e4
      have e7 : h6 b2 = some (.cells #[.bool false, .bool true] 4 (0, 0)) := by rw [eb2]; exact e5
      have mlen : (mid u).length ≤ 2 := by rcases hu' with rfl | rfl <;> simp [mid]
      refine (rb.move fun q hq _ => by cases hq; exact eb2).ix (by simp; omega) fun q _ hcb => ⟨[false, true][u]'(by simp; omega), hcb, _, rd1 e6 rfl, _, rd1 e6 rfl, ?_⟩
      refine OwnM.push rtE evc3 evc_one ou [⟨reg, pi, [false, true][u]'(by simp; omega)⟩, ⟨reg, pj, [false, true][u]'(by simp; omega)⟩] rfl rfl (fun b hb => k6.free hb) (by simp only [List.length_append, List.length_cons, List.length_nil]; omega) (by decide) ?_
      intro s' h7 o7 f7 w7 _
      refine ⟨_, by omega, rfl, rfl, rfl, rfl, rfl, rfl, rfl, u + 1, w64_id (by omega) (by omega), by omega, ?_, fun p hp => ?_, ?_, ?_, keep_app ou k6 f7, rfl⟩
      · have : base ++ mid (u + 1) = base ++ mid u ++ [⟨reg, pi, [false, true][u]'(by simp; omega)⟩, ⟨reg, pj, [false, true][u]'(by simp; omega)⟩] := by
          rcases hu' with rfl | rfl <;> simp [mid, sort4]
        rw [this]; exact o7
      · rcases w7 p hp with ⟨q, hq, h⟩ | h
        · rw [h]; exact ne6 q hq
        · exact ⟨(fun e => by rw [e, e6] at h; cases h), (fun e => by rw [e, e7] at h; cases h)⟩
      · rw [f7 b1 (by rw [e6]; simp) fun q hq e => (ne6 q hq).1 e.symm, eb1]
      · rw [f7 b2 (by rw [e7]; simp) fun q hq e => (ne6 q hq).2 e.symm, eb2]
    · have : u = 2 := by omega
      subst this
      exact ⟨_, by omega, rfl, rfl, rfl, j + 1, w64_id (by omega) (by omega), by omega, by rw [htk, List.flatMap_append]; simpa [mid, base] using ou, k6, rfl⟩
  · have : j = (pairsL K).length := by omega
    subst this
    rw [List.take_length] at oj
    exact ⟨_, rfl, oj.baseK k1, k1.trans k2⟩

/-! ## levels -/
/-- the places of a level's table, and its way's and stash's cells in turn -/
def fillEv (first : Int) (sp : List Sp) (n : Nat) : List Ev := (List.range n).flatMap fun (i : Nat) => (if i < sp.length then [(⟨(sp.getD i ⟨0, 0⟩).r, (sp.getD i ⟨0, 0⟩).a, false⟩ : Ev)] else []) ++ [⟨first + 2, i, true⟩]
theorem fillEv_succ (first : Int) (sp : List Sp) (n : Nat) : fillEv first sp (n + 1) = fillEv first sp n ++ ((if n < sp.length then [(⟨(sp.getD n ⟨0, 0⟩).r, (sp.getD n ⟨0, 0⟩).a, false⟩ : Ev)] else []) ++ [⟨first + 2, n, true⟩]) := by simp [fillEv, List.range_succ]
theorem fillEv_length (first : Int) (sp : List Sp) (n : Nat) : (fillEv first sp n).length ≤ 2 * n := by
  induction n with
  | zero => simp [fillEv]
  | succ n ih => rw [fillEv_succ, List.length_append]; split <;> simp <;> omega
def backEv (first : Int) (sp : List Sp) (n : Nat) : List Ev := (List.range n).flatMap fun (i : Nat) => [(⟨first + 2, i, false⟩ : Ev), ⟨(sp.getD i ⟨0, 0⟩).r, (sp.getD i ⟨0, 0⟩).a, true⟩]
theorem backEv_succ (first : Int) (sp : List Sp) (n : Nat) : backEv first sp (n + 1) = backEv first sp n ++ [(⟨first + 2, n, false⟩ : Ev), ⟨(sp.getD n ⟨0, 0⟩).r, (sp.getD n ⟨0, 0⟩).a, true⟩] := by simp [backEv, List.range_succ]
theorem backEv_length (first : Int) (sp : List Sp) (n : Nat) : (backEv first sp n).length = 2 * n := by
  induction n with
  | zero => rfl
  | succ n ih => rw [backEv_succ, List.length_append, ih]; simp; omega
def turnEv (first : Int) (E : Nat) : List Ev := writes (first + 2) (2 ^ E) ++ sortEv (first + 2) E
def levEv (k : Nat) (s t : Int) (first : Int) (leaf : Nat) : List Ev :=
  fillEv first (spotsL k s t first leaf) (2 ^ roundE (plc k s t)) ++ turnEv first (roundE (plc k s t)) ++ turnEv first (roundE (plc k s t)) ++ backEv first (spotsL k s t first leaf) (spotsL k s t first leaf).length
theorem level_look {h : Hp} {b : Nat} {s : Sl} {l : List Ev} (B : BoxS 3 evc 69 h b s l) (r a : Int) (w : Bool) (hl : l.length ≤ 10000000) {K : Value → Hp → Prop}
    (hk : ∀ s' h', BoxS 3 evc 69 h' b s' (l ++ [⟨r, a, w⟩]) → Mv (Fp b s) h (Fp b s') h' → K (.tuple #[]) h') :
    callV prog (.func (.func 122) #[] #[vp ⟨b, 0⟩]) [.int .i64 r, .int .i64 a, .bool w] h K := by
  refine ⟨rfl, ?_⟩
  refine c122 r a w ⟨b, 0⟩ ?_
  unfold G122
  exact ⟨s, rd1 B.cell rfl, BoxS.push rtE evc3 evc_one B [⟨r, a, w⟩] rfl rfl (by simp; omega) (by decide) fun s' h' B' m' => hk s' h' B' m'⟩
theorem level_events {k : Nat} {s t : Int} (o : LevOk k s t) (first : Int) (hf : 0 ≤ first ∧ first ≤ 100) {leaf : Nat} (hl : leaf < 2 ^ k) (h : Hp) :
    callK prog 82 [.int .i64 first, .agg #[.int .i64 (2 ^ k), .int .i64 s, .int .i64 t], .int .i64 leaf] h fun v h' => ∃ x, v = vs x ∧ OwnM 3 evc h h' x (levEv k s t first leaf) ∧ Keep h h' := by
  have hp := o.plcB
  have eK : ((2 ^ k : Nat) : Int) = 2 ^ k := by simp
  have hE : roundE (plc k s t) ≤ 8 := roundE_le (by omega) (by simp; omega)
  have etb : tbl k s t = 2 ^ roundE (plc k s t) := roundI_E _
  have eT : ((2 ^ roundE (plc k s t) : Nat) : Int) = 2 ^ roundE (plc k s t) := by simp
  have hT : 2 ^ roundE (plc k s t) ≤ 256 := Nat.pow_le_pow_right (n := 2) (by decide) hE
  have hsl := spotsL_length o first leaf
  have htb := o.tblB
  refine c82 _ _ _ _ _ ?_
  unfold G82
  refine newC fun b1 h1 f1 e1 k1 => rd3 e1 ?_
  refine (level_right o).to fun h2 k2 => ⟨_, rfl, ifB_neg rfl (ifB_neg (by simp) (rdI (k2.get e1) rfl (ifB_neg (by simp; omega) (newC fun b2 h3 f3 e3 k3 => ?_))))⟩
  have e13 := (k2.trans k3).get e1
  refine rd3 e13 (rd3 e13 ?_)
  refine (level_spots o first (by omega) hl h3).mono ?_
  rintro _ h4 ⟨sp, rfl, osp, k4⟩
  have e14 := k4.get e13
  refine ⟨_, rfl, ⟨rd1 e14 rfl, rd1 e14 rfl, rd1 e14 rfl, trivial⟩, ?_⟩
  refine (level_table o).to fun h5 k5 => ⟨_, rfl, ?_⟩
  have k05 := (k1.trans (k2.trans k3)).trans (k4.trans k5)
  have rsp : RdM spc h5 sp (spotsL k s t first leaf) := (osp.keep k5).rd
  have lsp := rsp.len
  generalize hsp : spotsL k s t first leaf = SP at rsp lsp hsl
  rw [etb]
  generalize hEE : roundE (plc k s t) = E at hE etb eT hT
  have hn5 : h5 b2 = some (.cells #[vs ⟨none, 0, 0, none⟩] 69 (0, 0)) := (k4.trans k5).get e3
  have hb2 : h b2 = none := k1.free (k2.free f3)
  have B0 : BoxS 3 evc 69 h5 b2 ⟨none, 0, 0, none⟩ [] := ⟨hn5, OwnM.nilS _ _ _ _, fun p hp => by cases hp⟩
  let F0 := Fp b2 ⟨none, 0, 0, none⟩
  have F0n : ∀ b, F0 b → h b = none := by
    rintro b (rfl | ⟨p, hp, _⟩)
    · exact hb2
    · cases hp
  have spF : ∀ q, sp.q = some q → ¬ F0 q.b := by
    rintro q hq (e | ⟨p, hp, _⟩)
    · have := (osp.blk hq).1
      rw [e, e3] at this; cases this
    · cases hp
  -- the spots stand, whatever the box becomes
  have rdsp : ∀ {F' h'}, Mv F0 h5 F' h' → RdM spc h' sp SP := fun m => rsp.move fun q hq hpos => m.2.1 _ (rsp.there spc2 hq hpos) (spF q hq)
  let vl : Value := .func (.func 122) #[] #[vp ⟨b2, 0⟩]
  refine ⟨fun n12 q v x n13 n14 i h6 m => n12 = first ∧ q = ⟨b2, 0⟩ ∧ v = vl ∧ sp = x ∧ n13 = 2 ^ E ∧ n14 = 2 ^ E ∧ ∃ u : Nat, i = u ∧ u ≤ 2 ^ E ∧ (∃ bs, BoxS 3 evc 69 h6 b2 bs (fillEv first SP u) ∧ Mv F0 h5 (Fp b2 bs) h6) ∧ m = 2 ^ E - u,
    ⟨_, rfl, rfl, rfl, rfl, rfl, rfl, 0, rfl, Nat.zero_le _, ⟨_, by simpa [fillEv] using B0, Mv.refl _ _⟩, rfl⟩, ?_⟩
  rintro n12 q v x n13 n14 i h6 m ⟨hn12, rfl, rfl, rfl, hn13, hn14, u, rfl, hu, ⟨bs, B, mv⟩, rfl⟩
  subst hn12
  have e2 : w64 (n12 + 2) = n12 + 2 := w64_id (by omega) (by omega)
  refine ifD (fun hlt => ?_) fun hge => ?_
  · have r6 := rdsp mv
    have fl := fillEv_length n12 SP u
    have nx : ∀ {bs2 h7}, BoxS 3 evc 69 h7 b2 bs2 (fillEv n12 SP (u + 1)) → Mv F0 h5 (Fp b2 bs2) h7 → ∃ k3, k3 < 2 ^ E - u ∧ n12 = n12 ∧ (⟨b2, 0⟩ : Pt) = ⟨b2, 0⟩ ∧ vl = vl ∧ sp = sp ∧ n13 = 2 ^ E ∧ n14 = 2 ^ E ∧ ∃ u' : Nat, w64 ((u : Int) + 1) = u' ∧ u' ≤ 2 ^ E ∧ (∃ bs, BoxS 3 evc 69 h7 b2 bs (fillEv n12 SP u') ∧ Mv F0 h5 (Fp b2 bs) h7) ∧ k3 = 2 ^ E - u' :=
      fun g1 g2 => ⟨_, by omega, rfl, rfl, rfl, rfl, hn13, hn14, u + 1, w64_id (by omega) (by omega), by omega, ⟨_, g1, g2⟩, rfl⟩
    refine ifD (fun hin => ?_) fun hout => ?_
    · have hui : u < SP.length := by omega
      refine r6.ix spc2 hui fun q hq hr => ?_
      obtain ⟨g1, g2, _⟩ := hr
      have hgd : SP.getD u ⟨0, 0⟩ = SP[u] := by simp [List.getD_eq_getElem?_getD, hui]
      refine ⟨_, g1, q, hq, by omega, by omega, _, g2, ?_⟩
      refine level_look B _ _ _ (by omega) fun s7 h7 B7 m7 => ⟨rfl, ?_⟩
      rw [e2]
      refine level_look B7 _ _ _ (by simp; omega) fun s8 h8 B8 m8 => ⟨rfl, nx ?_ (mv.trans (m7.trans m8))⟩
      rw [fillEv_succ, if_pos hui, hgd, ← List.append_assoc]; exact B8
    · have hui : ¬ u < SP.length := by omega
      rw [e2]
      refine level_look B _ _ _ (by omega) fun s7 h7 B7 m7 => ⟨rfl, nx ?_ (mv.trans m7)⟩
      rw [fillEv_succ, if_neg hui, List.nil_append]; exact B7
  · have : u = 2 ^ E := by omega
    subst this
    have fl := fillEv_length n12 SP (2 ^ E)
    have hso := pairsL_length (K := E) (by omega)
    have hsl4 : (sortEv (n12 + 2) E).length = 4 * (pairsL E).length := sort4_length _ _
    have tl : (turnEv n12 E).length ≤ 500000 := by unfold turnEv; rw [List.length_append, writes_length, hsl4]; omega
    let part : Nat → List Ev := fun c => fillEv n12 SP (2 ^ E) ++ (if c = 0 then [] else if c = 1 then turnEv n12 E else turnEv n12 E ++ turnEv n12 E)
    have partl : ∀ c, (part c).length ≤ 1100000 := fun c => by
      simp only [part, List.length_append]; split
      · simp; omega
      · split <;> (try simp only [List.length_append]) <;> omega
    refine ⟨fun n18 q v x n19 i h7 m => n18 = n12 ∧ q = ⟨b2, 0⟩ ∧ v = vl ∧ sp = x ∧ n19 = 2 ^ E ∧ ∃ c : Nat, i = c ∧ c ≤ 2 ∧ (∃ bs, BoxS 3 evc 69 h7 b2 bs (part c) ∧ Mv F0 h5 (Fp b2 bs) h7) ∧ m = 2 - c,
      ⟨_, rfl, rfl, rfl, rfl, hn13, 0, rfl, by omega, ⟨_, by simpa [part] using B, mv⟩, rfl⟩, ?_⟩
    rintro n18 q v x n19 i h7 m ⟨rfl, rfl, rfl, rfl, hn19, c, rfl, hc, ⟨bs2, B2, mv2⟩, rfl⟩
    refine ifD (fun hlt2 => ?_) fun hge2 => ?_
    · have hpl := partl c
      refine ⟨fun n21 q v x n22 n23 n24 i h8 m => n21 = n18 ∧ q = ⟨b2, 0⟩ ∧ v = vl ∧ sp = x ∧ n22 = 2 ^ E ∧ n23 = c ∧ n24 = 2 ^ E ∧ ∃ u : Nat, i = u ∧ u ≤ 2 ^ E ∧ (∃ bs, BoxS 3 evc 69 h8 b2 bs (part c ++ writes (n18 + 2) u) ∧ Mv F0 h5 (Fp b2 bs) h8) ∧ m = 2 ^ E - u,
        ⟨_, rfl, rfl, rfl, rfl, hn19, rfl, hn19, 0, rfl, Nat.zero_le _, ⟨_, by simpa [writes] using B2, mv2⟩, rfl⟩, ?_⟩
      rintro n21 q v x n22 n23 n24 i h8 m ⟨rfl, rfl, rfl, rfl, hn22, rfl, hn24, u, rfl, hu, ⟨bs3, B3, mv3⟩, rfl⟩
      have wl := writes_length (n21 + 2) u
      refine ifD (fun hlt3 => ?_) fun hge3 => ?_
      · rw [e2]
        refine level_look B3 _ _ _ (by rw [List.length_append, wl]; omega) fun s9 h9 B9 m9 => ⟨rfl, ?_⟩
        refine level_look B9 _ _ _ (by simp only [List.length_append, wl, List.length_cons, List.length_nil]; omega) fun s10 h10 B10 m10 => ⟨rfl, ?_⟩
        refine ⟨_, by omega, rfl, rfl, rfl, rfl, hn22, rfl, hn24, u + 1, w64_id (by omega) (by omega), by omega, ⟨_, ?_, mv3.trans (m9.trans m10)⟩, rfl⟩
        rw [writes_succ]
        simpa using B10
      · have : u = 2 ^ E := by omega
        subst this
        refine ⟨bs3, rd1 B3.cell rfl, ?_⟩
        rw [e2, hn22]
        refine (sort_events (n21 + 2) (K := E) (by omega) h8).mono ?_
        rintro _ h9 ⟨x, rfl, ox, k9⟩
        have B4 := B3.keep k9
        refine ⟨_, rfl, ⟨rd1 B4.cell rfl, trivial⟩, ?_⟩
        refine BoxS.app rtE evc3 evc_one B4 ox.rd (by rw [List.length_append, wl, hsl4]; omega) (by decide) fun s10 h10 B10 m10 => ?_
        refine ⟨_, by omega, rfl, rfl, rfl, rfl, rfl, c + 1, w64_id (by omega) (by omega), by omega, ⟨_, ?_, mv3.trans ((mvK k9 _).trans m10)⟩, rfl⟩
        have : part (c + 1) = part c ++ writes (n21 + 2) (2 ^ E) ++ sortEv (n21 + 2) E := by
          have hc2 : c = 0 ∨ c = 1 := by omega
          rcases hc2 with rfl | rfl <;> simp [part, turnEv]
        rw [this]; exact B10
    · have : c = 2 := by omega
      subst this
      have hpl := partl 2
      refine ⟨fun n26 q v x n27 i h8 m => n26 = n18 ∧ q = ⟨b2, 0⟩ ∧ v = vl ∧ sp = x ∧ n27 = sp.len ∧ ∃ u : Nat, i = u ∧ u ≤ SP.length ∧ (∃ bs, BoxS 3 evc 69 h8 b2 bs (part 2 ++ backEv n18 SP u) ∧ Mv F0 h5 (Fp b2 bs) h8) ∧ m = SP.length - u,
        ⟨_, rfl, rfl, rfl, rfl, rfl, 0, rfl, Nat.zero_le _, ⟨_, by simpa [backEv] using B2, mv2⟩, rfl⟩, ?_⟩
      rintro n26 q v x n27 i h8 m ⟨rfl, rfl, rfl, rfl, hn27, u, rfl, hu, ⟨bs3, B3, mv3⟩, rfl⟩
      have bl := backEv_length n26 SP u
      refine ifD (fun hlt3 => ?_) fun hge3 => ?_
      · have hui : u < SP.length := by omega
        refine (rdsp mv3).ix spc2 hui fun q hq hr => ?_
        obtain ⟨g1, g2, _⟩ := hr
        have hgd : SP.getD u ⟨0, 0⟩ = SP[u] := by simp [List.getD_eq_getElem?_getD, hui]
        refine ⟨_, g1, _, g2, newC fun b3 h9 f9 e9 k9 => stW k9 f9 e9 rfl fun h10 k10 e10 _ => ?_⟩
        rw [e2]
        have B4 := B3.keep k10
        have nb3 : ¬ Fp b2 bs3 b3 := fun hx => (B3.dom hx) f9
        refine level_look B4 _ _ _ (by rw [List.length_append, bl]; omega) fun s11 h11 B11 m11 => ⟨rfl, ?_⟩
        have e11 := m11.get e10 nb3
        refine ⟨_, rd1 e11 rfl, _, rd1 e11 rfl, ?_⟩
        refine level_look B11 _ _ _ (by simp only [List.length_append, bl, List.length_cons, List.length_nil]; omega) fun s12 h12 B12 m12 => ⟨rfl, ?_⟩
        refine ⟨_, by omega, rfl, rfl, rfl, rfl, hn27, u + 1, w64_id (by omega) (by omega), by omega, ⟨_, ?_, mv3.trans ((mvK k10 _).trans (m11.trans m12))⟩, rfl⟩
        rw [backEv_succ, hgd]
        simpa using B12
      · have : u = SP.length := by omega
        subst this
        obtain ⟨kk, ff⟩ := mv3.keep k05 F0n
        refine ⟨bs3, rd1 B3.cell rfl, _, rfl, ?_, kk⟩
        have : levEv k s t n26 leaf = part 2 ++ backEv n26 SP SP.length := by
          simp [levEv, part, hsp, hEE]
        rw [this]
        exact own_rebase B3.own fun p hp => ff _ (.inr ⟨p, hp, rfl⟩)
end Go.Proofs.Tryz

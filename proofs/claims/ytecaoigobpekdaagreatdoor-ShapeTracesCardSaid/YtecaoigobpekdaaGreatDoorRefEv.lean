/- The document's answers as far as looks go: reads, writes, sorts, ways, levels, stores. -/
import Derived.Test.YtecaoigobpekdaaGreatDoorRefC
import Derived.Test.YtecaoigobpekdaaGreatDoorEvD
namespace Go.Proofs.Tryz
open Go Go.Sh Go.RowKit
set_option maxRecDepth 8000
set_option maxHeartbeats 2000000

theorem ref_reads (reg : Int) (n : Nat) (hn : n ≤ 1000000) (h : Hp) : callK prog 60 [.int .i64 reg, .int .i64 n] h fun v h' => ∃ s, v = vs s ∧ OwnM 3 evc h h' s (reads reg n) ∧ Keep h h' := by
  refine c60 reg n ?_
  unfold G60
  refine ⟨fun r l s i h1 k => r = reg ∧ l = n ∧ ∃ j : Nat, i = j ∧ j ≤ n ∧ OwnM 3 evc h h1 s (reads reg j) ∧ Keep h h1 ∧ k = n - j, ⟨_, rfl, rfl, 0, rfl, Nat.zero_le _, OwnM.nilS _ _ _ _, Keep.refl h, rfl⟩, ?_⟩
  rintro r l s i h1 k ⟨rfl, rfl, j, rfl, hj, oj, k1, rfl⟩
  refine ifD (fun hlt => ?_) fun hge => ?_
  · refine OwnM.push rtE evc3 evc_one oj [⟨r, j, false⟩] rfl rfl (fun b hb => k1.free hb) (by rw [reads_length]; simp; omega) (by decide) ?_
    intro s' h2 o2 f2 _ _
    exact ⟨_, by omega, rfl, rfl, j + 1, w64_id (by omega) (by omega), by omega, by rw [reads_succ]; exact o2, keep_app oj k1 f2, rfl⟩
  · have : j = n := by omega
    subst this; exact ⟨_, rfl, oj, k1⟩
theorem ref_writes (reg : Int) (n : Nat) (hn : n ≤ 1000000) (h : Hp) : callK prog 61 [.int .i64 reg, .int .i64 n] h fun v h' => ∃ s, v = vs s ∧ OwnM 3 evc h h' s (writes reg n) ∧ Keep h h' := by
  refine c61 reg n ?_
  unfold G61
  refine ⟨fun r l s i h1 k => r = reg ∧ l = n ∧ ∃ j : Nat, i = j ∧ j ≤ n ∧ OwnM 3 evc h h1 s (writes reg j) ∧ Keep h h1 ∧ k = n - j, ⟨_, rfl, rfl, 0, rfl, Nat.zero_le _, OwnM.nilS _ _ _ _, Keep.refl h, rfl⟩, ?_⟩
  rintro r l s i h1 k ⟨rfl, rfl, j, rfl, hj, oj, k1, rfl⟩
  refine ifD (fun hlt => ?_) fun hge => ?_
  · refine OwnM.push rtE evc3 evc_one oj [⟨r, j, false⟩, ⟨r, j, true⟩] rfl rfl (fun b hb => k1.free hb) (by rw [writes_length]; simp; omega) (by decide) ?_
    intro s' h2 o2 f2 _ _
    exact ⟨_, by omega, rfl, rfl, j + 1, w64_id (by omega) (by omega), by omega, by rw [writes_succ]; exact o2, keep_app oj k1 f2, rfl⟩
  · have : j = n := by omega
    subst this; exact ⟨_, rfl, oj, k1⟩
theorem ref_net_right {k : Nat} (hk : k ≤ 10) : PureC prog 108 [.int .i64 (2 ^ k)] (.bool true) := by
  intro h
  refine c108 _ ?_
  unfold G108
  refine ⟨fun a x h1 n => a = 2 ^ k ∧ ∃ j : Nat, x = 2 ^ j ∧ j ≤ k ∧ h1 = h ∧ n = k - j, ⟨_, rfl, 0, rfl, by omega, rfl, rfl⟩, ?_⟩
  rintro a x h1 n ⟨rfl, j, rfl, hj, rfl, rfl⟩
  have hb := pow_bds hk
  have h0 := pow_pos_int j
  have eq : ¬ ((2 : Int) ^ j < 2 ^ k) → j = k := fun e => by
    rcases Nat.lt_or_ge j k with h | h
    · have := pow_le_pow (show j + 1 ≤ k by omega)
      rw [← pow_succ_int] at this; omega
    · omega
  refine ifD (fun hlt => ifB_pos (by simp; omega) ?_) fun hge => ⟨by rw [eq hge]; simp, Keep.refl _⟩
  have hlt' : j < k := by
    rcases Nat.lt_or_ge j k with h | h
    · exact h
    · have : j = k := by omega
      subst this; omega
  have hp := pow_le_pow (show j + 1 ≤ 10 by omega)
  rw [w64_id (by omega) (by rw [pow_succ_int]; simp at hp; omega), pow_succ_int]
  exact ⟨_, by omega, rfl, j + 1, rfl, by omega, rfl, rfl⟩
theorem rtRP : RowM prog 118 121 3 (.agg #[.int .i64 0, .int .i64 0, .bool false]) 24 := ⟨by kernel_rfl, by kernel_rfl, by kernel_rfl, by kernel_rfl, rfl⟩
theorem w64_nat {n : Nat} (h : n ≤ 9223372036854775807) : w64 (n : Int) = n := w64_id (by omega) (by omega)
theorem nat_tdiv (a b : Nat) : (a : Int).tdiv (b : Int) = ((a / b : Nat) : Int) := rfl
theorem nat_tmod (a b : Nat) : (a : Int).tmod (b : Int) = ((a % b : Nat) : Int) := rfl
theorem ref_pairs {K : Nat} (hK : K ≤ 10) (h : Hp) : callK prog 88 [.int .i64 (2 ^ K)] h fun v h' => ∃ s, v = vs s ∧ OwnM 3 prc h h' s (pairsL K) ∧ Keep h h' := by
  have hKb := pow_bds hK
  have hKn : 2 ^ K ≤ 1024 := Nat.pow_le_pow_right (n := 2) (by decide) hK
  have eK : ((2 ^ K : Nat) : Int) = 2 ^ K := by simp
  refine c88 _ ?_
  unfold G88
  refine (ref_net_right hK).to fun h1 k1 => ⟨_, rfl, ifB_neg rfl ?_⟩
  refine ⟨fun x s n h2 m => x = 2 ^ K ∧ ∃ a : Nat, n = 2 ^ (a + 1) ∧ a ≤ K ∧ OwnM 3 prc h h2 s (kl (2 ^ K) a) ∧ Keep h h2 ∧ m = K - a, ⟨_, rfl, 0, rfl, Nat.zero_le _, OwnM.nilS _ _ _ _, k1, rfl⟩, ?_⟩
  rintro x s n h2 m ⟨rfl, a, hna, ha, s1, m1, rfl⟩
  refine ifD (fun hle => ?_) fun hgt => ?_
  · have haK : a < K := by
      rcases Nat.lt_or_ge a K with h | h
      · exact h
      · have : a = K := by omega
        subst this; rw [← pow_succ_int2] at hna; omega
    have hap := pow_bds (k := a + 1) (by omega)
    rw [hna, hv_half (c := a + 1) (by omega)]
    refine ⟨by decide, fun x s n2 j h3 m => x = 2 ^ K ∧ n2 = 2 ^ (a + 1) ∧ ∃ c : Nat, j = hv c ∧ c ≤ a + 1 ∧ (∃ l, OwnM 3 prc h h3 s l ∧ Keep h h3 ∧ l ++ jl (2 ^ K) a c = kl (2 ^ K) (a + 1)) ∧ c = m,
      ⟨_, rfl, rfl, a + 1, rfl, Nat.le_refl _, ⟨_, s1, m1, (kl_succ _ _).symm⟩, rfl⟩, ?_⟩
    rintro x s n2 j h3 m ⟨rfl, hn2, c, hj, hca, ⟨l, s2, m2, hl⟩, rfl⟩
    refine ifD (fun hpos => ?_) fun hnpos => ?_
    · cases c with
      | zero => rw [hj] at hpos; simp [hv] at hpos
      | succ c =>
        rw [hv_succ] at hj
        have hcb := pow_bds (k := c) (by omega)
        refine ⟨fun x s n7 n8 i h4 m => x = 2 ^ K ∧ n7 = 2 ^ (a + 1) ∧ n8 = 2 ^ c ∧ ∃ u : Nat, i = u ∧ u ≤ 2 ^ K ∧ OwnM 3 prc h h4 s (l ++ ipairs (2 ^ (a + 1)) (2 ^ c) u) ∧ Keep h h4 ∧ m = 2 ^ K - u,
          ⟨_, rfl, hn2, hj, 0, rfl, Nat.zero_le _, by simpa [ipairs] using s2, m2, rfl⟩, ?_⟩
        rintro x s n7 n8 i h4 m ⟨rfl, hn7, hn8, u, rfl, hu, s3, m3, rfl⟩
        have ec : ((2 ^ c : Nat) : Int) = 2 ^ c := by simp
        have ea : ((2 ^ (a + 1) : Nat) : Int) = 2 ^ (a + 1) := by simp
        refine ifD (fun hlt => ?_) fun hge => ?_
        · have hu2 : u < 2 ^ K := by omega
          rw [hn7, hn8]
          have nx : ∀ {s4 h5}, OwnM 3 prc h h5 s4 (l ++ ipairs (2 ^ (a + 1)) (2 ^ c) (u + 1)) → Keep h h5 → ∃ k3, k3 < 2 ^ K - u ∧ (2 : Int) ^ K = 2 ^ K ∧ (2 : Int) ^ (a + 1) = 2 ^ (a + 1) ∧ (2 : Int) ^ c = 2 ^ c ∧ ∃ u' : Nat, w64 ((u : Int) + 1) = u' ∧ u' ≤ 2 ^ K ∧ OwnM 3 prc h h5 s4 (l ++ ipairs (2 ^ (a + 1)) (2 ^ c) u') ∧ Keep h h5 ∧ k3 = 2 ^ K - u' :=
            fun g1 g2 => ⟨_, by omega, rfl, rfl, rfl, u + 1, w64_id (by omega) (by omega), by omega, g1, g2, rfl⟩
          have ud := Nat.div_le_self u (2 ^ c); have ud2 := Nat.div_le_self u (2 ^ (a + 1))
          have q1 : w64 ((u : Int).tdiv (2 ^ c)) = ((u / 2 ^ c : Nat) : Int) := by rw [← ec, nat_tdiv, w64_nat (by omega)]
          have q2 : w64 ((u : Int).tdiv (2 ^ (a + 1))) = ((u / 2 ^ (a + 1) : Nat) : Int) := by rw [← ea, nat_tdiv, w64_nat (by omega)]
          have r1 : ∀ z : Nat, (z : Int).tmod 2 = ((z % 2 : Nat) : Int) := fun z => rfl
          rw [q1, q2, r1, r1]
          refine ⟨by omega, by decide, ifD (fun hz => ⟨by omega, by decide, ?_⟩) fun hz => ?_⟩
          · have hz0 : u / 2 ^ c % 2 = 0 := by omega
            have e3 : decide (((u / 2 ^ (a + 1) % 2 : Nat) : Int) = 0) = decide (u / 2 ^ (a + 1) % 2 = 0) := by
              generalize u / 2 ^ (a + 1) % 2 = z
              exact decide_eq_decide.2 ⟨fun h => by omega, fun h => by omega⟩
            rw [e3, w64_id (n := (u : Int) + 2 ^ c) (by omega) (by omega)]
            have hlen : (l ++ ipairs (2 ^ (a + 1)) (2 ^ c) u).length < 1000000000 := by
              have h1 := congrArg List.length hl
              rw [List.length_append] at h1
              have h2 := kl_length (2 ^ K) (a + 1)
              have h3 := ipairs_length (2 ^ (a + 1)) (2 ^ c) u
              have h4 : (a + 1) * (a + 1) * 2 ^ K ≤ 10 * 10 * 1024 := Nat.mul_le_mul (Nat.mul_le_mul (by omega) (by omega)) hKn
              rw [List.length_append]; omega
            refine OwnM.push rtRP prc3 prc_one s3 [⟨(u : Int), ((u + 2 ^ c : Nat) : Int), decide (u / 2 ^ (a + 1) % 2 = 0)⟩] ?_ rfl (fun b hb => m3.free hb) (by simp only [List.length_cons, List.length_nil]; omega) (by decide) ?_
            · simp [prc]
            intro s' h5 o5 f5 _ _
            exact nx (by rw [ipairs_succ, if_pos hz0, ← List.append_assoc]; exact o5) (keep_app s3 m3 f5)
          · have hz0 : ¬ u / 2 ^ c % 2 = 0 := by omega
            exact nx (by rw [ipairs_succ, if_neg hz0, List.append_nil]; exact s3) m3
        · have : u = 2 ^ K := by omega
          rw [hn8, hv_half (by omega)]
          refine ⟨by decide, _, by omega, rfl, hn7, c, rfl, by omega, ⟨_, s3, m3, ?_⟩, rfl⟩
          rw [this, List.append_assoc]; exact hl
    · have : c = 0 := by
        cases c with
        | zero => rfl
        | succ c => rw [hj, hv_succ] at hnpos; have := pow_bds (k := c) (by omega); omega
      subst this
      simp only [jl, List.append_nil] at hl
      rw [hn2, pow_succ_int2]
      have hp2 := pow_le_pow (show a + 1 + 1 ≤ 11 by omega)
      rw [w64_id (by have := pow_le_pow (Nat.zero_le (a + 1 + 1)); simp at this; omega) (by simp at hp2; omega)]
      exact ⟨_, by omega, rfl, a + 1, rfl, by omega, by rw [← hl]; exact s2, m2, rfl⟩
  · have haK : a = K := by
      rcases Nat.lt_or_ge a K with h | h
      · have := pow_le_pow (show a + 1 ≤ K by omega); omega
      · omega
    subst haK
    exact ⟨_, rfl, s1, m1⟩
theorem ref_sort (reg : Int) {K : Nat} (hK : K ≤ 10) (h : Hp) : callK prog 63 [.int .i64 reg, .int .i64 (2 ^ K)] h fun v h' => ∃ s, v = vs s ∧ OwnM 3 evc h h' s (sortEv reg K) ∧ Keep h h' := by
  refine c63 reg _ ?_
  unfold G63
  refine (ref_pairs hK h).mono ?_
  rintro _ h1 ⟨s1, rfl, o1, k1⟩
  have r1 := o1.rd
  have l1 := r1.len
  have hlen := pairsL_length hK
  refine ⟨_, rfl, fun r s2 s i h2 k => r = reg ∧ s1 = s2 ∧ ∃ j : Nat, i = j ∧ j ≤ (pairsL K).length ∧ OwnM 3 evc h1 h2 s (((pairsL K).take j).flatMap (sort4 reg)) ∧ Keep h1 h2 ∧ k = (pairsL K).length - j, ⟨_, rfl, rfl, 0, rfl, Nat.zero_le _, by simpa using OwnM.nilS _ _ _ _, Keep.refl h1, rfl⟩, ?_⟩
  rintro r s2 s i h2 k ⟨rfl, rfl, j, rfl, hj, oj, k2, rfl⟩
  have r2 := r1.keep prc3 k2
  refine ifD (fun hlt => ?_) fun hge => ?_
  · have hj' : j < (pairsL K).length := by omega
    refine r2.ix prc3 hj' fun q1 _ g1 => ⟨_, g1.1, ?_⟩
    refine r2.ix prc3 hj' fun q2 _ g2 => ⟨_, g2.2.1, ?_⟩
    refine r2.ix prc3 hj' fun q3 _ g3 => ⟨_, g3.1, ?_⟩
    refine r2.ix prc3 hj' fun q4 _ g4 => ⟨_, g4.2.1, ?_⟩
    have hsl : (((pairsL K).take j).flatMap (sort4 r)).length = 4 * j := by rw [sort4_length, List.length_take, Nat.min_eq_left hj]
    refine OwnM.push rtE evc3 evc_one oj (sort4 r (pairsL K)[j]) rfl rfl (fun b hb => k2.free hb) (by rw [hsl, show (sort4 r (pairsL K)[j]).length = 4 from rfl]; omega) (by decide) ?_
    intro s' h3 o3 f3 _ _
    refine ⟨_, by omega, rfl, rfl, j + 1, w64_id (by omega) (by omega), by omega, ?_, keep_app oj k2 f3, rfl⟩
    rw [← List.take_append_getElem hj', List.flatMap_append, List.flatMap_cons, List.flatMap_nil, List.append_nil]; exact o3
  · have : j = (pairsL K).length := by omega
    subst this
    rw [List.take_length] at oj
    exact ⟨_, rfl, oj.baseK k1, k1.trans k2⟩
theorem node_up {k leaf d : Nat} (hd : d < k) : (nodeN k leaf (d + 1) - 1) / 2 = nodeN k leaf d ∧ 0 < nodeN k leaf (d + 1) := by
  have e : leaf / 2 ^ (k - d) = leaf / 2 ^ (k - (d + 1)) / 2 := by
    rw [Nat.div_div_eq_div_mul, ← Nat.pow_succ, show (k - (d + 1)).succ = k - d by omega]
  have hp : 0 < 2 ^ d := Nat.pow_pos (by decide)
  unfold nodeN
  rw [e, Nat.pow_succ]
  generalize leaf / 2 ^ (k - (d + 1)) = q
  generalize 2 ^ d = P at hp ⊢
  omega
theorem node_top {k leaf : Nat} (hl : leaf < 2 ^ k) : nodeN k leaf 0 = 0 := by unfold nodeN; rw [Nat.sub_zero, Nat.div_eq_of_lt hl]
theorem node_leaf {k leaf : Nat} : nodeN k leaf k = 2 ^ k - 1 + leaf := by unfold nodeN; rw [Nat.sub_self]; simp
def upL (k leaf d : Nat) : List Int := (List.range (k + 1 - d)).map fun i => (nodeN k leaf (d + i) : Int)
theorem upL_cons {k leaf d : Nat} (hd : d < k) : upL k leaf d = (nodeN k leaf d : Int) :: upL k leaf (d + 1) := by
  unfold upL
  rw [show k + 1 - d = (k + 1 - (d + 1)) + 1 by omega, List.range_succ_eq_map, List.map_cons, List.map_map]
  refine List.cons_eq_cons.2 ⟨rfl, List.map_congr_left fun i _ => ?_⟩
  simp only [Function.comp]
  rw [show d + i.succ = d + 1 + i by omega]
theorem upL_zero {k leaf : Nat} : upL k leaf 0 = pathL k leaf (k + 1) := by unfold upL pathL; simp
theorem ref_path {k leaf : Nat} (hk : k ≤ 10) (hl : leaf < 2 ^ k) (h : Hp) : callK prog 131 [.int .i64 (2 ^ k), .int .i64 leaf] h fun v h' => ∃ s, v = vs s ∧ OwnS iv h h' s (pathL k leaf (k + 1)) ∧ Keep h h' := by
  have hb := pow_bds hk
  have eK : ((2 ^ k : Nat) : Int) = 2 ^ k := by simp
  have hn : 2 ^ k ≤ 1024 := Nat.pow_le_pow_right (n := 2) (by decide) hk
  have hp : 0 < 2 ^ k := Nat.pow_pos (by decide)
  refine c131 _ _ ?_
  unfold G131
  refine (ref_path_right hk).to fun h1 k1 => ⟨_, rfl, ifB_neg rfl (ifB_neg (by simp) (ifB_neg (by simp; omega) (newC fun b1 h2 f2 e2 k2 => ?_)))⟩
  have hbd : ∀ d, d ≤ k → nodeN k leaf d ≤ 2047 := fun d hd => nodeN_le hk hl hd
  have e0 : w64 (w64 (2 ^ k - 1) + (leaf : Int)) = (nodeN k leaf k : Int) := by
    rw [w64_id (n := (2 : Int) ^ k - 1) (by omega) (by omega), w64_id (by omega) (by omega), node_leaf]; omega
  rw [e0] at e2 ⊢
  have o0 : OwnS iv h h2 ⟨some ⟨b1, 0⟩, 1, 1, none⟩ (upL k leaf k) := OwnS.newE (k1.free f2) e2 (by unfold upL; rw [show k + 1 - k = 1 by omega]; rfl) (by simp [upL])
  refine ⟨fun n s h3 m => ∃ d : Nat, d ≤ k ∧ n = (nodeN k leaf d : Int) ∧ OwnS iv h h3 s (upL k leaf d) ∧ Keep h h3 ∧ d = m, ⟨_, k, Nat.le_refl _, rfl, o0, k1.trans k2, rfl⟩, ?_⟩
  rintro n s h3 m ⟨d, hd, rfl, os, k3, rfl⟩
  refine ifD (fun hlt => ?_) fun hge => ?_
  · have hd0 : 0 < d := by
      rcases Nat.eq_zero_or_pos d with h | h
      · subst h; rw [node_top hl] at hlt; simp at hlt
      · exact h
    obtain ⟨d', rfl⟩ := Nat.exists_eq_succ_of_ne_zero (Nat.ne_of_gt hd0)
    have hu := node_up (k := k) (leaf := leaf) (d := d') (by omega)
    have hb1 := hbd (d' + 1) hd; have hb2 := hbd d' (by omega)
    have e1 : w64 ((w64 ((nodeN k leaf (d' + 1) : Int) - 1)).tdiv 2) = (nodeN k leaf d' : Int) := by
      rw [w64_id (n := (nodeN k leaf (d' + 1) : Int) - 1) (by omega) (by omega), show (nodeN k leaf (d' + 1) : Int) - 1 = ((nodeN k leaf (d' + 1) - 1 : Nat) : Int) by omega]
      have : (((nodeN k leaf (d' + 1) - 1 : Nat) : Int)).tdiv 2 = (((nodeN k leaf (d' + 1) - 1) / 2 : Nat) : Int) := rfl
      rw [this, hu.1, w64_id (by omega) (by omega)]
    rw [e1]
    refine ⟨by decide, newC fun b2 h4 f4 e4 k4 => ?_⟩
    have o2 : OwnS iv h h4 ⟨some ⟨b2, 0⟩, 1, 1, none⟩ [(nodeN k leaf d' : Int)] := OwnS.newE (k3.free f4) e4 rfl rfl
    have k34 := k3.trans k4
    refine OwnS.app rtI iv_one o2 (os.keep k4).rd (fun b hb => k34.free hb) (by simp [upL]; omega) (by decide) ?_
    intro s' h5 o5 f5 _ _
    exact ⟨d', by omega, d', by omega, rfl, by rw [upL_cons (k := k) (leaf := leaf) (d := d') (by omega)]; exact o5, keep_appS o2 k34 f5, rfl⟩
  · have hd0 : d = 0 := by
      rcases Nat.eq_zero_or_pos d with h | h
      · exact h
      · obtain ⟨d', rfl⟩ := Nat.exists_eq_succ_of_ne_zero (Nat.ne_of_gt h)
        have := (node_up (k := k) (leaf := leaf) (d := d') (by omega)).2
        exact absurd (show (0 : Int) < ((nodeN k leaf (d' + 1) : Nat) : Int) by omega) hge
    subst hd0
    rw [upL_zero] at os
    exact ⟨_, rfl, os, k3⟩
theorem rtPl : RowM prog 181 184 2 (.agg #[.int .i64 0, .int .i64 0]) 16 := ⟨by kernel_rfl, by kernel_rfl, by kernel_rfl, by kernel_rfl, rfl⟩
theorem bktL_length (f : Int) (x : Nat) (s : Int) (n : Nat) : (bktL f x s n).length = n := by simp [bktL]
theorem stashL_length (f : Int) (n : Nat) : (stashL f n).length = n := by simp [stashL]
theorem ref_spots {k : Nat} {s t : Int} (o : LevOk k s t) (first : Int) (hf : 0 ≤ first ∧ first ≤ 1000) {leaf : Nat} (hl : leaf < 2 ^ k) (h : Hp) :
    callK prog 126 [.int .i64 first, .agg #[.int .i64 (2 ^ k), .int .i64 s, .int .i64 t], .int .i64 leaf] h fun v h' => ∃ x, v = vs x ∧ OwnM 2 spc h h' x (spotsL k s t first leaf) ∧ Keep h h' := by
  have hk := o.k; have hs := o.s; have ht := o.t
  refine c126 _ _ s t leaf ?_
  unfold G126
  refine newC fun b1 h1 f1 e1 k1 => rdI e1 rfl ?_
  refine (ref_path hk hl h1).mono ?_
  rintro _ h2 ⟨s1, rfl, o1, k2⟩
  have r1 := o1.rd
  have l1 := r1.len
  rw [pathL_length] at l1
  have k02 := k1.trans k2
  have tll := treeL_length k s first leaf
  refine ⟨_, rfl, fun n q s2 s3 i h3 m => n = first ∧ q = ⟨b1, 0⟩ ∧ s1 = s3 ∧ ∃ d : Nat, i = d ∧ d ≤ k + 1 ∧ OwnM 2 spc h2 h3 s2 (treeL k s first leaf d) ∧ Keep h2 h3 ∧ m = k + 1 - d, ⟨_, rfl, rfl, rfl, 0, rfl, Nat.zero_le _, OwnM.nilS _ _ _ _, Keep.refl _, rfl⟩, ?_⟩
  rintro n q s2 s3 i h3 m ⟨rfl, rfl, rfl, d, rfl, hd, od, k3, rfl⟩
  refine ifD (fun hlt => ?_) fun hge => ?_
  · have hdk : d < k + 1 := by omega
    have hdd : d < (pathL k leaf (k + 1)).length := by rw [pathL_length]; exact hdk
    have hnd := nodeN_le hk hl (show d ≤ k by omega)
    refine ⟨fun a q s4 s5 i j h4 m => a = n ∧ q = ⟨b1, 0⟩ ∧ s1 = s5 ∧ i = d ∧ ∃ u : Nat, j = u ∧ u ≤ s.toNat ∧ OwnM 2 spc h2 h4 s4 (treeL k s n leaf d ++ bktL n (nodeN k leaf d) s u) ∧ Keep h2 h4 ∧ m = s.toNat - u, ⟨_, rfl, rfl, rfl, rfl, 0, rfl, Nat.zero_le _, by simpa [bktL] using od, k3, rfl⟩, ?_⟩
    rintro a q s4 s5 i j h4 m ⟨rfl, rfl, rfl, rfl, u, rfl, hu, ou, k4, rfl⟩
    have e4 := (k2.trans k4).get e1
    refine rdI e4 rfl (ifD (fun hlt2 => ?_) fun hge2 => ?_)
    · refine (r1.keep k4).ix hdd fun q3 _ hc => ⟨_, hc, rdI e4 rfl ?_⟩
      have hg : (pathL k leaf (k + 1))[d] = (nodeN k leaf d : Int) := by simp [pathL]
      rw [hg]
      have hm : (0 : Int) ≤ (nodeN k leaf d : Int) * s ∧ (nodeN k leaf d : Int) * s ≤ 2047 * 8 := mul_nn (by omega) (by omega) (by omega) (by omega)
      rw [w64_id (n := (nodeN k leaf d : Int) * s) (by omega) (by omega), w64_id (n := (nodeN k leaf d : Int) * s + (u : Int)) (by omega) (by omega)]
      have hlen : d * s.toNat ≤ 11 * 8 := Nat.mul_le_mul (by omega) (by omega)
      refine OwnM.push rtPl spc2 spc_one ou [⟨a, (nodeN k leaf d : Int) * s + u⟩] rfl rfl (fun b hb => k4.free hb) (by rw [List.length_append, tll, bktL_length]; simp; omega) (by decide) ?_
      intro s' h5 o5 f5 _ _
      exact ⟨_, by omega, rfl, rfl, rfl, rfl, u + 1, w64_id (by omega) (by omega), by omega, by rw [bktL_succ, ← List.append_assoc]; exact o5, keep_app ou k4 f5, rfl⟩
    · have : u = s.toNat := by omega
      subst this
      exact ⟨_, by omega, rfl, rfl, rfl, d + 1, w64_id (by omega) (by omega), by omega, by rw [treeL_succ]; exact ou, k4, rfl⟩
  · have : d = k + 1 := by omega
    subst this
    have hlen : (k + 1) * s.toNat ≤ 11 * 8 := Nat.mul_le_mul (by omega) (by omega)
    refine ⟨fun a q x i h4 m => a = n ∧ q = ⟨b1, 0⟩ ∧ ∃ u : Nat, i = u ∧ u ≤ t.toNat ∧ OwnM 2 spc h2 h4 x (treeL k s n leaf (k + 1) ++ stashL n u) ∧ Keep h2 h4 ∧ m = t.toNat - u, ⟨_, rfl, rfl, 0, rfl, Nat.zero_le _, by simpa [stashL] using od, k3, rfl⟩, ?_⟩
    rintro a q x i h4 m ⟨rfl, rfl, u, rfl, hu, ou, k4, rfl⟩
    refine rdI ((k2.trans k4).get e1) rfl (ifD (fun hlt2 => ?_) fun hge2 => ?_)
    · rw [w64_id (n := a + 1) (by omega) (by omega)]
      refine OwnM.push rtPl spc2 spc_one ou [⟨a + 1, u⟩] rfl rfl (fun b hb => k4.free hb) (by rw [List.length_append, tll, stashL_length]; simp; omega) (by decide) ?_
      intro s' h5 o5 f5 _ _
      exact ⟨_, by omega, rfl, rfl, u + 1, w64_id (by omega) (by omega), by omega, by rw [stashL_succ, ← List.append_assoc]; exact o5, keep_app ou k4 f5, rfl⟩
    · have : u = t.toNat := by omega
      subst this
      exact ⟨_, rfl, ou.baseK k02, k02.trans k4⟩
theorem spc_rd {h : Hp} {b o : Nat} {e : Sp} (r : rdL h b o (spc e)) : hcell h b o = some (.int .i64 e.r) ∧ hcell h b (o + 1) = some (.int .i64 e.a) := ⟨r.1, r.2.1⟩
theorem ref_level_events {k : Nat} {s t : Int} (o : LevOk k s t) (first : Int) (hf : 0 ≤ first ∧ first ≤ 100) {leaf : Nat} (hl : leaf < 2 ^ k) (h : Hp) :
    callK prog 107 [.int .i64 first, .agg #[.int .i64 (2 ^ k), .int .i64 s, .int .i64 t], .int .i64 leaf] h fun v h' => ∃ x, v = vs x ∧ OwnM 3 evc h h' x (levEv k s t first leaf) ∧ Keep h h' := by
  have hp := o.plcB
  have eK : ((2 ^ k : Nat) : Int) = 2 ^ k := by simp
  have hE : roundE (plc k s t) ≤ 8 := roundE_le (by omega) (by simp; omega)
  have hT : 2 ^ roundE (plc k s t) ≤ 256 := Nat.pow_le_pow_right (n := 2) (by decide) hE
  have hsl := spotsL_length o first leaf
  refine c107 _ _ s t leaf ?_
  unfold G107
  refine newC fun b1 h1 f1 e1 k1 => rd3 e1 ?_
  refine (ref_level_right o).to fun h2 k2 => ⟨_, rfl, ifB_neg rfl (ifB_neg (by simp) (rdI (k2.get e1) rfl (ifB_neg (by simp; omega) (rd3 (k2.get e1) ?_))))⟩
  refine (ref_spots o first (by omega) hl h2).mono ?_
  rintro _ h3 ⟨sp, rfl, os, k3⟩
  refine ⟨_, rfl, rd3 ((k2.trans k3).get e1) ?_⟩
  refine (ref_level_sizes o).to fun h4 k4 => ⟨_, _, _, rfl, ?_⟩
  have k04 := (k1.trans k2).trans (k3.trans k4)
  have rs := (os.keep k4).rd
  have ls := rs.len
  have htb : tbl k s t = 2 ^ roundE (plc k s t) := by unfold tbl; rw [roundI_E]
  have eT : ((2 ^ roundE (plc k s t) : Nat) : Int) = 2 ^ roundE (plc k s t) := by simp
  rw [htb]
  generalize hEE : roundE (plc k s t) = E at hE hT htb eT
  generalize hS : spotsL k s t first leaf = S at rs ls hsl
  have hSl : S.length ≤ 152 := by omega
  have wfirst : w64 (first + 2) = first + 2 := w64_id (by omega) (by omega)
  have hspec : levEv k s t first leaf = fillEv first S (2 ^ E) ++ turnEv first E ++ turnEv first E ++ backEv first S S.length := by unfold levEv; rw [hEE, hS]
  rw [hspec]
  have fl := fun n => fillEv_length first S n
  have bl := fun n => backEv_length first S n
  have hpl := pairsL_length (K := E) (by omega)
  have tl : (turnEv first E).length ≤ 420000 := by
    unfold turnEv
    rw [List.length_append, writes_length, sortEv, sort4_length]; omega
  refine ⟨fun a x n y i h5 m => a = first ∧ sp = x ∧ n = 2 ^ E ∧ ∃ j : Nat, i = j ∧ j ≤ 2 ^ E ∧ OwnM 3 evc h4 h5 y (fillEv first S j) ∧ Keep h4 h5 ∧ m = 2 ^ E - j, ⟨_, rfl, rfl, rfl, 0, rfl, Nat.zero_le _, OwnM.nilS _ _ _ _, Keep.refl _, rfl⟩, ?_⟩
  rintro a x n y i h5 m ⟨rfl, rfl, hn, j, rfl, hj, oj, k5, rfl⟩
  have flj := fl j
  refine ifD (fun hlt => ?_) fun hge => ?_
  · have hj2 : j < 2 ^ E := by omega
    rw [wfirst]
    refine ifD (fun hin => ?_) fun hout => ?_
    · have hjs : j < S.length := by omega
      have hgd : S.getD j ⟨0, 0⟩ = S[j] := by simp [List.getD_eq_getElem?_getD, hjs]
      refine (rs.keep spc2 k5).ix spc2 hjs fun q1 _ g1 => ⟨_, (spc_rd g1).1, ?_⟩
      refine (rs.keep spc2 k5).ix spc2 hjs fun q2 _ g2 => ⟨_, (spc_rd g2).2, ?_⟩
      refine OwnM.push rtE evc3 evc_one oj [⟨S[j].r, S[j].a, false⟩] rfl rfl (fun b hb => k5.free hb) (by simp; omega) (by decide) ?_
      intro y1 h6 o6 f6 _ _
      have k6 := keep_app oj k5 f6
      refine OwnM.push rtE evc3 evc_one o6 [⟨a + 2, j, true⟩] rfl rfl (fun b hb => k6.free hb) (by simp; omega) (by decide) ?_
      intro y2 h7 o7 f7 _ _
      exact ⟨_, by omega, rfl, rfl, hn, j + 1, w64_id (by omega) (by omega), by omega, by rw [fillEv_succ, if_pos hjs, hgd, ← List.append_assoc]; exact o7, keep_app o6 k6 f7, rfl⟩
    · have hjs : ¬ j < S.length := by omega
      refine OwnM.push rtE evc3 evc_one oj [⟨a + 2, j, true⟩] rfl rfl (fun b hb => k5.free hb) (by simp; omega) (by decide) ?_
      intro y2 h7 o7 f7 _ _
      exact ⟨_, by omega, rfl, rfl, hn, j + 1, w64_id (by omega) (by omega), by omega, by rw [fillEv_succ, if_neg hjs, List.nil_append]; exact o7, keep_app oj k5 f7, rfl⟩
  · have hj2 : j = 2 ^ E := by omega
    rw [hj2] at oj flj
    let T : Nat → List Ev := fun u => fillEv a S (2 ^ E) ++ (List.range u).flatMap fun _ => turnEv a E
    have T_succ : ∀ u, T (u + 1) = T u ++ turnEv a E := fun u => by simp [T, List.range_succ]
    have Tl : ∀ u, u ≤ 2 → (T u).length ≤ 1000 + u * 420000 := fun u hu => by
      induction u with
      | zero => simp [T]; omega
      | succ u ih => rw [T_succ, List.length_append]; have := ih (by omega); omega
    refine ⟨fun c x n y i h6 m => c = a ∧ sp = x ∧ n = 2 ^ E ∧ ∃ u : Nat, i = u ∧ u ≤ 2 ∧ OwnM 3 evc h4 h6 y (T u) ∧ Keep h4 h6 ∧ m = 2 - u, ⟨_, rfl, rfl, hn, 0, rfl, Nat.zero_le _, by simpa [T] using oj, k5, rfl⟩, ?_⟩
    rintro c x n y i h6 m ⟨rfl, rfl, hn, u, rfl, hu, ou, k6, rfl⟩
    have Tlu := Tl u hu
    refine ifD (fun hlt => ?_) fun hge => ?_
    · have wl := fun n => writes_length (c + 2) n
      refine ⟨fun d x n y i j h7 m => d = c ∧ sp = x ∧ n = 2 ^ E ∧ i = u ∧ ∃ v : Nat, j = v ∧ v ≤ 2 ^ E ∧ OwnM 3 evc h4 h7 y (T u ++ writes (c + 2) v) ∧ Keep h4 h7 ∧ m = 2 ^ E - v, ⟨_, rfl, rfl, hn, rfl, 0, rfl, Nat.zero_le _, by simpa [writes] using ou, k6, rfl⟩, ?_⟩
      rintro d x n y i j h7 m ⟨rfl, rfl, hn, rfl, v, rfl, hv, ov, k7, rfl⟩
      have wlv := wl v
      rw [wfirst]
      refine ifD (fun hlt2 => ?_) fun hge2 => ?_
      · refine OwnM.push rtE evc3 evc_one ov [⟨d + 2, v, false⟩, ⟨d + 2, v, true⟩] rfl rfl (fun b hb => k7.free hb) (by rw [List.length_append]; simp; omega) (by decide) ?_
        intro y2 h8 o8 f8 _ _
        exact ⟨_, by omega, rfl, rfl, hn, rfl, v + 1, w64_id (by omega) (by omega), by omega, by rw [writes_succ, ← List.append_assoc]; exact o8, keep_app ov k7 f8, rfl⟩
      · have hv2 : v = 2 ^ E := by omega
        rw [hv2] at ov wlv
        rw [hn]
        refine (ref_sort (d + 2) (K := E) (by omega) h7).mono ?_
        rintro _ h8 ⟨z, rfl, oz, k8⟩
        have sl : (sortEv (d + 2) E).length = 4 * (pairsL E).length := sort4_length _ _
        have k78 := k7.trans k8
        refine ⟨_, rfl, OwnM.app rtE evc3 evc_one (ov.keep k8) oz.rd (fun b hb => k78.free hb) (by rw [List.length_append, sl]; omega) (by decide) ?_⟩
        intro y3 h9 o9 f9 _ _
        exact ⟨_, by omega, rfl, rfl, rfl, u + 1, w64_id (by omega) (by omega), by omega, by rw [T_succ, turnEv, ← List.append_assoc]; exact o9, keep_app (ov.keep k8) k78 f9, rfl⟩
    · have hu2 : u = 2 := by omega
      subst hu2
      have hT2 : T 2 = fillEv c S (2 ^ E) ++ turnEv c E ++ turnEv c E := by simp [T, List.range_succ]
      refine ⟨fun d x y i h7 m => d = c ∧ sp = x ∧ ∃ v : Nat, i = v ∧ v ≤ S.length ∧ OwnM 3 evc h4 h7 y (T 2 ++ backEv c S v) ∧ Keep h4 h7 ∧ m = S.length - v, ⟨_, rfl, rfl, 0, rfl, Nat.zero_le _, by simpa [backEv] using ou, k6, rfl⟩, ?_⟩
      rintro d x y i h7 m ⟨rfl, rfl, v, rfl, hv, ov, k7, rfl⟩
      have blv := bl v
      refine ifD (fun hlt2 => ?_) fun hge2 => ?_
      · have hvs : v < S.length := by omega
        have hgd : S.getD v ⟨0, 0⟩ = S[v] := by simp [List.getD_eq_getElem?_getD, hvs]
        refine (rs.keep spc2 k7).ix spc2 hvs fun q1 _ g1 => ⟨_, (spc_rd g1).1, ?_⟩
        refine (rs.keep spc2 k7).ix spc2 hvs fun q2 _ g2 => ⟨_, (spc_rd g2).2, ?_⟩
        rw [wfirst]
        refine OwnM.push rtE evc3 evc_one ov [⟨d + 2, v, false⟩, ⟨S[v].r, S[v].a, true⟩] rfl rfl (fun b hb => k7.free hb) (by rw [List.length_append]; simp; omega) (by decide) ?_
        intro y2 h8 o8 f8 _ _
        exact ⟨_, by omega, rfl, rfl, v + 1, w64_id (by omega) (by omega), by omega, by rw [backEv_succ, hgd, ← List.append_assoc]; exact o8, keep_app ov k7 f8, rfl⟩
      · have : v = S.length := by omega
        subst this
        rw [hT2] at ov
        exact ⟨_, rfl, ov.baseK k04, k04.trans k7⟩
theorem ways_drop {m L : Nat} {lv : List Int} (w : WaysOk m L lv) (n : Nat) : WaysOk m L (lv.drop (n * L)) := fun i hi => by
  rw [List.length_drop] at hi
  have h := w (n * L + i) (by omega)
  have : (n * L + i) % L = i % L := by rw [Nat.mul_comm, Nat.mul_add_mod]
  rw [this] at h
  rw [List.getElem_drop]; exact h
theorem ref_store_events {m : Nat} {s0 t : Int} {L : Nat} (o : StOk m s0 t L) (first : Int) (hf : 0 ≤ first ∧ first ≤ 10) {h : Hp} {x : Sl} {lv : List Int} (rx : RdS iv h x lv) {n : Nat} (hn : lv.length = n * L) (hw : WaysOk m L lv) (hn2 : n ≤ 10000) :
    callK prog 87 [.int .i64 first, v4 m s0 t L, vs x] h fun v h' => ∃ y, v = vs y ∧ OwnM 3 evc h h' y (storeEv m s0 t L first lv n) ∧ Keep h h' := by
  have hL := o.L
  have htop := topN_le o
  have lx := rx.len
  refine c87 _ _ s0 t L x ?_
  unfold G87
  refine newC fun b1 h1 f1 e1 k1 => rd4 e1 ?_
  refine (ref_right o).to fun h2 k2 => ⟨_, rfl, ifB_neg rfl (rd4 (k2.get e1) (rdI (k2.get e1) rfl ?_))⟩
  have ew : w64 ((L : Int) - 1) = ((L - 1 : Nat) : Int) := by rw [w64_id (by omega) (by omega)]; omega
  rw [ew]
  refine (ref_blocks o (L - 1) (by omega)).to fun h3 k3 => ⟨_, rfl, ?_⟩
  have e3 := (k2.trans k3).get e1
  have k03 := k1.trans (k2.trans k3)
  have rx3 := rx.keep k03
  refine ⟨fun a y q d z i h4 k => a = first ∧ x = y ∧ q = ⟨b1, 0⟩ ∧ d = 2 ^ (m - 2 * (L - 1)) ∧ ∃ c : Nat, i = ((c * L : Nat) : Int) ∧ c ≤ n ∧ OwnM 3 evc h3 h4 z (storeEv m s0 t L first lv c) ∧ Keep h3 h4 ∧ k = n - c, ⟨_, rfl, rfl, rfl, rfl, 0, by simp, Nat.zero_le _, OwnM.nilS _ _ _ _, Keep.refl _, rfl⟩, ?_⟩
  rintro a y q d z i h4 k ⟨rfl, rfl, rfl, hd, c, rfl, hc, oc, k4, rfl⟩
  have e4 := k4.get e3
  have hcL : c * L ≤ n * L := Nat.mul_le_mul_right L hc
  have hnL : n * L ≤ 10000 * 4 := Nat.mul_le_mul hn2 hL.2
  have sl := storeEv_length o a lv c
  refine rdI e4 rfl ?_
  rw [w64_id (n := ((c * L : Nat) : Int) + (L : Int)) (by omega) (by omega)]
  refine ifD (fun hle => ?_) fun hgt => ?_
  · have hcn : c < n := by
      rcases Nat.lt_or_ge c n with h | h
      · exact h
      · have : c = n := by omega
        subst this; omega
    have hcL1 : c * L + L ≤ n * L := by
      have := Nat.mul_le_mul_right L (show c + 1 ≤ n by omega)
      rwa [Nat.succ_mul] at this
    have hwc := ways_drop hw c
    have rdl := reads_length a (topN m L)
    have wrl := writes_length a (topN m L)
    rw [hd, ← htop.2.2]
    refine (ref_reads a (topN m L) (by omega) h4).mono ?_
    rintro _ h5 ⟨s4, rfl, o4, k5⟩
    have k45 := k4.trans k5
    refine ⟨_, rfl, OwnM.app rtE evc3 evc_one (oc.keep k5) o4.rd (fun b hb => k45.free hb) (by omega) (by decide) ?_⟩
    intro s5 h6 o6 f6 _ _
    have k6 := keep_app (oc.keep k5) k45 f6
    refine (ref_writes a (topN m L) (by omega) h6).mono ?_
    rintro _ h7 ⟨s7, rfl, o7, k7⟩
    have k67 := k6.trans k7
    refine ⟨_, rfl, OwnM.app rtE evc3 evc_one (o6.keep k7) o7.rd (fun b hb => k67.free hb) (by rw [List.length_append]; omega) (by decide) ?_⟩
    intro s8 h8 o8 f8 _ _
    have k8 := keep_app (o6.keep k7) k67 f8
    let acc := storeEv m s0 t L a lv c ++ reads a (topN m L) ++ writes a (topN m L)
    have al : acc.length ≤ 5000000 * c + 4000 := by
      show (storeEv m s0 t L a lv c ++ reads a (topN m L) ++ writes a (topN m L)).length ≤ _
      simp only [List.length_append]; omega
    refine ⟨fun f y q d z i j h9 k => f = a ∧ x = y ∧ q = ⟨b1, 0⟩ ∧ d = ((topN m L : Nat) : Int) ∧ i = ((c * L : Nat) : Int) ∧ ∃ u : Nat, j = u ∧ u ≤ L ∧ OwnM 3 evc h3 h9 z (acc ++ oneEv m s0 t L a (lv.drop (c * L)) u) ∧ Keep h3 h9 ∧ k = L - u, ⟨_, rfl, rfl, rfl, rfl, rfl, 0, rfl, Nat.zero_le _, by simpa [oneEv, acc] using o8, k8, rfl⟩, ?_⟩
    rintro f y q d z i j h9 k ⟨rfl, rfl, rfl, hd2, rfl, u, rfl, hu, ou, k9, rfl⟩
    have e9 := k9.get e3
    have ol := oneEv_length o f (lv.drop (c * L)) u
    refine rdI e9 rfl (ifD (fun hlt => ?_) fun hge => ?_)
    · have huL : u < L := by omega
      have hcu : c * L + u < lv.length := by omega
      have ecu : w64 (((c * L : Nat) : Int) + (u : Int)) = ((c * L + u : Nat) : Int) := by rw [w64_id (by omega) (by omega)]; simp
      have elv : w64 (w64 ((L : Int) - 1) - (u : Int)) = ((L - 1 - u : Nat) : Int) := by rw [ew, w64_id (by omega) (by omega)]; omega
      have efi : w64 (w64 (f + 1) + w64 (3 * ((L - 1 - u : Nat) : Int))) = f + 1 + 3 * ((L - 1 - u : Nat) : Int) := by
        rw [w64_id (n := f + 1) (by omega) (by omega), w64_id (n := 3 * ((L - 1 - u : Nat) : Int)) (by omega) (by omega), w64_id (by omega) (by omega)]
      have hwu := hwc u (by rw [List.length_drop]; omega)
      have hgu : (lv.drop (c * L))[u]'(by rw [List.length_drop]; omega) = lv[c * L + u] := by simp
      rw [hgu, Nat.mod_eq_of_lt huL] at hwu
      obtain ⟨leaf, hleaf⟩ := Int.eq_ofNat_of_zero_le hwu.1
      refine rdI e9 rfl (rd4 e9 ?_)
      rw [ecu, elv]
      refine (rx3.keep k9).ix hcu fun q3 _ hcell => ⟨_, hcell, ?_⟩
      refine (ref_level o (L - 1 - u) (by omega)).to fun h10 k10 => ⟨_, _, _, rfl, ⟨by rw [hcell_same (k10 _ (hcell_some hcell))]; exact hcell, trivial⟩, ?_⟩
      rw [efi, hleaf]
      have elf : ((2 ^ (m - 2 * (L - 1 - u)) : Nat) : Int) = 2 ^ (m - 2 * (L - 1 - u)) := by simp
      refine (ref_level_events (o.lev (L - 1 - u)) (f + 1 + 3 * ((L - 1 - u : Nat) : Int)) (by omega) (leaf := leaf) (by omega) h10).mono ?_
      rintro _ h11 ⟨s9, rfl, o11, k11⟩
      have l9 := o11.len
      have lp := levEv_pos (k := m - 2 * (L - 1 - u)) (s := s0) (t := t) (f + 1 + 3 * ((L - 1 - u : Nat) : Int)) leaf
      have ll := levEv_length (o.lev (L - 1 - u)) (f + 1 + 3 * ((L - 1 - u : Nat) : Int)) leaf
      have k911 := k9.trans (k10.trans k11)
      refine ⟨_, rfl, ifD (fun h0 => absurd h0 (by omega)) fun _ => OwnM.app rtE evc3 evc_one (ou.keep (k10.trans k11)) o11.rd (fun b hb => k911.free hb) (by rw [List.length_append]; omega) (by decide) ?_⟩
      intro s10 h12 o12 f12 _ _
      have hgd : ((lv.drop (c * L)).getD u 0).toNat = leaf := by
        have : (lv.drop (c * L)).getD u 0 = lv[c * L + u] := by simp [List.getD_eq_getElem?_getD, hcu]
        rw [this, hleaf]; rfl
      exact ⟨_, by omega, rfl, rfl, rfl, hd2, rfl, u + 1, w64_id (by omega) (by omega), by omega, by rw [oneEv_succ, hgd, ← List.append_assoc]; exact o12, keep_app (ou.keep (k10.trans k11)) k911 f12, rfl⟩
    · have huL : u = L := by omega
      rw [huL] at ou
      refine rdI e9 rfl ⟨_, ?_, rfl, rfl, rfl, by rw [hd2, htop.2.2], c + 1, ?_, by omega, ?_, k9, rfl⟩
      · omega
      · rw [w64_id (by omega) (by omega), Nat.succ_mul]; simp
      · rw [storeEv_succ]; simpa [acc, accEv, List.append_assoc] using ou
  · have hcn : c = n := by
      rcases Nat.lt_or_ge c n with h | h
      · have := Nat.mul_le_mul_right L (show c + 1 ≤ n by omega)
        rw [Nat.succ_mul] at this; omega
      · omega
    subst hcn
    exact ⟨_, rfl, oc.baseK k03, k03.trans k4⟩
end Go.Proofs.Tryz

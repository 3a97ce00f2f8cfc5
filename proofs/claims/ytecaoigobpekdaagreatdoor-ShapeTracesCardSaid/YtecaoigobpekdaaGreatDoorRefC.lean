/- The document's answers as far as sizes go. -/
import Derived.Test.YtecaoigobpekdaaGreatDoorConf
namespace Go.Proofs.Tryz
open Go Go.Sh Go.RowKit
set_option maxRecDepth 8000

theorem pow_succ_int (j : Nat) : (2 : Int) * 2 ^ j = 2 ^ (j + 1) := by rw [Int.pow_succ]; omega
theorem pow_pos_int (j : Nat) : (1 : Int) ≤ 2 ^ j := by have := pow_le_pow (Nat.zero_le j); simpa using this
theorem roundI_of {n : Int} {j : Nat} (hj : j ≤ 62) (h1 : n ≤ 2 ^ j) (h2 : j = 0 ∨ 2 ^ (j - 1) < n) : roundI n = 2 ^ j := by
  rcases h2 with rfl | h2
  · simp at h1
    by_cases e : n < 1
    · rw [roundI, if_pos e]; rfl
    · have : n = 1 := by omega
      subst this; rfl
  · cases j with
    | zero =>
      simp at h1 h2
      omega
    | succ j => exact roundI_pow (by omega) (by simpa using h2) h1
def Q0 (a x : Int) : Prop := Value.int .i64 x = .int .i64 (roundI a)
theorem ref_round {n : Int} (hn : n ≤ 4611686018427387904) : PureC prog 51 [.int .i64 n] (.int .i64 (roundI n)) := by
  intro h
  refine c51 n ?_
  unfold G51
  refine ⟨fun a x h1 k => a = n ∧ ∃ j : Nat, x = 2 ^ j ∧ j ≤ 62 ∧ (j = 0 ∨ 2 ^ (j - 1) < n) ∧ h1 = h ∧ k = 62 - j, ⟨_, rfl, 0, rfl, by omega, .inl rfl, rfl, rfl⟩, ?_⟩
  rintro a x h1 k ⟨rfl, j, hx, hj, hr, rfl, rfl⟩
  have h62 : j = 62 → x = 4611686018427387904 := fun e => by rw [hx, e]; simp
  have h0 : 1 ≤ x := by rw [hx]; exact pow_pos_int j
  have hs : j < 62 → 2 * x = 2 ^ (j + 1) ∧ 2 * x ≤ 4611686018427387904 := fun e => by
    have hp := pow_le_pow (show j + 1 ≤ 62 by omega)
    rw [hx, pow_succ_int]; simp at hp; exact ⟨rfl, hp⟩
  have hb : j < 62 → x ≤ 2305843009213693952 := fun e => by have := (hs e).2; omega
  have done : ¬ x < a → Q0 a x := fun hge => by
    show Value.int .i64 x = .int .i64 (roundI a)
    rw [roundI_of hj (by rw [← hx]; omega) hr, hx]
  refine ifD (fun hlt => ifD (fun hlt2 => ?_) fun hge => ⟨?_, Keep.refl _⟩) fun hge => ⟨done hge, Keep.refl _⟩
  · have hj2 : j < 62 := by
      rcases Nat.lt_or_ge j 62 with h | h
      · exact h
      · have := h62 (by omega); omega
    obtain ⟨e1, e2⟩ := hs hj2
    rw [w64_id (by omega) (by omega)]
    exact ⟨_, by omega, rfl, j + 1, e1, by omega, .inr (by simp only [Nat.add_sub_cancel]; rw [← hx]; exact hlt), rfl, rfl⟩
  · exfalso
    have : j = 62 := by
      rcases Nat.lt_or_ge j 62 with h | h
      · have := hb h; omega
      · omega
    have := h62 this
    omega
theorem ref_path_right {k : Nat} (hk : k ≤ 10) : PureC prog 119 [.int .i64 (2 ^ k)] (.bool true) := by
  intro h
  refine c119 _ ?_
  unfold G119
  refine ⟨fun a x h1 n => a = 2 ^ k ∧ ∃ j : Nat, x = 2 ^ j ∧ j ≤ k ∧ h1 = h ∧ n = k - j, ⟨_, rfl, 0, rfl, by omega, rfl, rfl⟩, ?_⟩
  rintro a x h1 n ⟨rfl, j, rfl, hj, rfl, rfl⟩
  have hb := pow_bds hk
  have h0 := pow_pos_int j
  have eq : ¬ ((2 : Int) ^ j < 2 ^ k) → j = k := fun e => by
    rcases Nat.lt_or_ge j k with h | h
    · have := pow_le_pow (show j + 1 ≤ k by omega)
      rw [← pow_succ_int] at this; omega
    · omega
  refine ifD (fun hlt => ifB_pos (by simp; omega) ?_) fun hge => ⟨by rw [eq hge]; simp, Keep.refl _⟩
  have hlt' : j < k := by
    rcases Nat.lt_or_ge j k with h | h
    · exact h
    · have : j = k := by omega
      subst this; omega
  have hp := pow_le_pow (show j + 1 ≤ 10 by omega)
  rw [w64_id (by omega) (by rw [pow_succ_int]; simp at hp; omega), pow_succ_int]
  exact ⟨_, by omega, rfl, j + 1, rfl, by omega, rfl, rfl⟩
theorem ref_depth {k : Nat} (hk : k ≤ 10) : PureC prog 130 [.int .i64 (2 ^ k)] (.int .i64 k) := by
  intro h
  refine c130 _ ?_
  unfold G130
  refine (ref_path_right hk).to fun h1 k1 => ⟨_, rfl, ifB_neg rfl ?_⟩
  refine ⟨fun x n h2 m => ∃ j : Nat, x = 2 ^ (k - j) ∧ n = j ∧ j ≤ k ∧ Keep h h2 ∧ m = k - j, ⟨_, 0, rfl, rfl, by omega, k1, rfl⟩, ?_⟩
  rintro x n h2 m ⟨j, rfl, rfl, hj, k2, rfl⟩
  refine ifD (fun hlt => ⟨by decide, ?_⟩) fun hge => ⟨?_, k2⟩
  · have hlt' : j < k := by
      rcases Nat.lt_or_ge j k with h | h
      · exact h
      · rw [show k - j = 0 by omega] at hlt; simp at hlt
    have e : (2 : Int) ^ (k - j) = 2 * 2 ^ (k - (j + 1)) := by rw [pow_succ_int]; congr 1; omega
    have hb := pow_bds (k := k - (j + 1)) (by omega)
    obtain ⟨z, hz⟩ : ∃ z, z = (2 : Int) ^ (k - (j + 1)) := ⟨_, rfl⟩
    rw [← hz] at e hb
    rw [e]
    have : (2 * z).tdiv 2 = z := by rw [Int.tdiv_eq_ediv_of_nonneg (by omega)]; omega
    rw [this, w64_id (by omega) (by omega), w64_id (by omega) (by omega)]
    exact ⟨_, by omega, j + 1, hz, by omega, by omega, k2, rfl⟩
  · rcases Nat.lt_or_ge j k with h | h
    · have := pow_le_pow (show 1 ≤ k - j by omega); simp at this; omega
    · congr 1; omega
theorem ref_nodes {k : Nat} (hk : k ≤ 10) : PureC prog 123 [.int .i64 (2 ^ k)] (.int .i64 (2 * 2 ^ k - 1)) := by
  intro h
  have hb := pow_bds hk
  refine c123 _ ?_
  unfold G123
  refine (ref_path_right hk).to fun h1 k1 => ⟨_, rfl, ifB_neg rfl ⟨?_, k1⟩⟩
  rw [w64_id (n := 2 * 2 ^ k) (by omega) (by omega), w64_id (by omega) (by omega)]
theorem ref_deal_right {d s t : Int} (o : DealOk d s t) : PureC prog 120 [.agg #[.int .i64 d, .int .i64 s, .int .i64 t]] (.bool true) := by
  intro h
  have := o.d; have := o.s; have := o.t
  refine c120 d s t ?_
  unfold G120
  refine newC fun b1 h1 _ e1 k1 => rdI e1 rfl (ifB_pos (by simp; omega) (rdI e1 rfl (ifB_pos (by simp; omega) (rdI e1 rfl (ifB_pos (by simp; omega) (rdI e1 rfl (ifB_pos (by simp; omega) (rdI e1 rfl (ifB_pos (by simp; omega) (rdI e1 rfl ⟨?_, k1⟩))))))))))
  rw [cond_true, decide_eq_true (by omega)]
theorem ref_places {d s t : Int} (o : DealOk d s t) : PureC prog 122 [.agg #[.int .i64 d, .int .i64 s, .int .i64 t]] (.int .i64 (s * (d + 1) + t + 1)) := by
  intro h
  have hb := mul_bds o.s.1 o.s.2 o.d.1 o.d.2
  have ht := o.t; have hd := o.d
  refine c122 d s t ?_
  unfold G122
  refine newC fun b1 h1 _ e1 k1 => rd3 e1 ?_
  refine (ref_deal_right o).to fun h2 k2 => ⟨_, rfl, ifB_neg rfl (rdI (k2.get e1) rfl (rdI (k2.get e1) rfl (rdI (k2.get e1) rfl ⟨?_, k1.trans k2⟩)))⟩
  rw [w64_id (n := d + 1) (by omega) (by omega), w64_id (n := s * (d + 1)) (by omega) (by omega), w64_id (n := s * (d + 1) + t) (by omega) (by omega), w64_id (by omega) (by omega)]
theorem ref_shape {k : Nat} {s t : Int} (o : LevOk k s t) : PureC prog 121 [.agg #[.int .i64 (2 ^ k), .int .i64 s, .int .i64 t]] (.agg #[.int .i64 k, .int .i64 s, .int .i64 t]) := by
  intro h
  refine c121 _ s t ?_
  unfold G121
  refine newC fun b1 h1 _ e1 k1 => newC fun b2 h2 f2 e2 k2 => rdI (k2.get e1) rfl (rdI (k2.get e1) rfl (rdI (k2.get e1) rfl ?_))
  refine (ref_depth o.k).to fun h3 k3 => ⟨_, rfl, ⟨rd1 ((k2.trans k3).get e1) rfl, trivial⟩, ⟨rd1 ((k2.trans k3).get e1) rfl, trivial⟩, ?_⟩
  refine stN ((k1.trans k2).trans k3) (k1.free f2) (k3.get e2) (by simp) fun h4 k4 e4 _ => rd3 e4 ⟨rfl, k4⟩
theorem ref_level_right {k : Nat} {s t : Int} (o : LevOk k s t) : PureC prog 98 [.agg #[.int .i64 (2 ^ k), .int .i64 s, .int .i64 t]] (.bool true) := by
  intro h
  refine c98 _ s t ?_
  unfold G98
  refine newC fun b1 h1 _ e1 k1 => rdI e1 rfl ?_
  refine (ref_path_right o.k).to fun h2 k2 => ⟨_, rfl, ifB_pos rfl (rd3 (k2.get e1) ?_)⟩
  refine (ref_shape o).to fun h3 k3 => ⟨_, _, _, rfl, ?_⟩
  refine (ref_deal_right o.deal).to fun h4 k4 => ⟨_, rfl, ifB_pos rfl (rd3 ((k2.trans (k3.trans k4)).get e1) ?_)⟩
  refine (ref_shape o).to fun h5 k5 => ⟨_, _, _, rfl, ?_⟩
  refine (ref_places o.deal).to fun h6 k6 => ⟨_, rfl, ?_⟩
  have := o.plcB; have := o.tblB
  refine (ref_round (n := plc k s t) (by omega)).to fun h7 k7 => ⟨_, rfl, ?_, (k1.trans k2).trans ((k3.trans k4).trans (k5.trans (k6.trans k7)))⟩
  rw [cond_true, decide_eq_true (show roundI (plc k s t) ≤ 1024 by show tbl k s t ≤ 1024; omega)]
theorem ref_level_sizes {k : Nat} {s t : Int} (o : LevOk k s t) : PureC prog 100 [.agg #[.int .i64 (2 ^ k), .int .i64 s, .int .i64 t]] (.tuple #[.int .i64 (s * (2 * 2 ^ k - 1)), .int .i64 t, .int .i64 (tbl k s t)]) := by
  intro h
  have hb := pow_bds o.k; have := o.plcB
  refine c100 _ s t ?_
  unfold G100
  refine newC fun b1 h1 _ e1 k1 => rd3 e1 ?_
  refine (ref_level_right o).to fun h2 k2 => ⟨_, rfl, ifB_neg rfl (rdI (k2.get e1) rfl (rdI (k2.get e1) rfl (rdI (k2.get e1) rfl (rd3 (k2.get e1) ?_))))⟩
  refine (ref_nodes o.k).to fun h3 k3 => ⟨_, rfl, ?_⟩
  have e3 := (k2.trans k3).get e1
  refine ⟨⟨rd1 e3 rfl, rd1 e3 rfl, rd1 e3 rfl, trivial⟩, ⟨rd1 e3 rfl, trivial⟩, ⟨rd1 e3 rfl, trivial⟩, ?_⟩
  refine (ref_shape o).to fun h4 k4 => ⟨_, _, _, rfl, ?_⟩
  have e4 := k4.get e3
  refine ⟨⟨rd1 e4 rfl, trivial⟩, ⟨rd1 e4 rfl, trivial⟩, ?_⟩
  refine (ref_places o.deal).to fun h5 k5 => ⟨_, rfl, ?_⟩
  have e5 := k5.get e4
  refine ⟨⟨rd1 e5 rfl, trivial⟩, ⟨rd1 e5 rfl, trivial⟩, ?_⟩
  refine (ref_round (n := plc k s t) (by omega)).to fun h6 k6 => ⟨_, rfl, ?_⟩
  have e6 := k6.get e5
  refine ⟨⟨rd1 e6 rfl, trivial⟩, ⟨rd1 e6 rfl, trivial⟩, ?_, (k1.trans k2).trans ((k3.trans k4).trans (k5.trans k6))⟩
  rw [w64_id]
  · rfl
  · have := o.s
    have h1 : 0 ≤ s * (2 * 2 ^ k - 1) := Int.mul_nonneg (by omega) (by omega)
    omega
  · have h1 : s * (2 * 2 ^ k - 1) ≤ 8 * 2047 := Int.mul_le_mul o.s.2 (by omega) (by omega) (by omega)
    omega
theorem ref_blocks {m : Nat} {s t : Int} {L : Nat} (o : StOk m s t L) (n : Nat) (hn : n ≤ 100) : PureC prog 13 [v4 m s t L, .int .i64 n] (.int .i64 (2 ^ (m - 2 * n))) := by
  intro h
  refine c13 _ s t L n ?_
  unfold G13
  refine newC fun b1 h1 _ e1 k1 => rdI e1 rfl ?_
  refine ⟨fun l x i h2 k => l = n ∧ ∃ j : Nat, i = j ∧ j ≤ n ∧ x = 2 ^ (m - 2 * j) ∧ Keep h h2 ∧ k = n - j, ⟨_, rfl, 0, rfl, Nat.zero_le _, rfl, k1, rfl⟩, ?_⟩
  rintro l x i h2 k ⟨rfl, j, rfl, hj, rfl, k2, rfl⟩
  refine ifD (fun hlt => ⟨by decide, _, ?_, rfl, j + 1, w64_id (by omega) (by omega), by omega, ?_, k2, rfl⟩) fun hge => ?_
  · omega
  · rw [step4 (by have := o.m; omega)]; rfl
  · have : j = n := by omega
    subst this; exact ⟨rfl, k2⟩
theorem ref_level {m : Nat} {s t : Int} {L : Nat} (o : StOk m s t L) (n : Nat) (hn : n ≤ 100) : PureC prog 99 [v4 m s t L, .int .i64 n] (.agg #[.int .i64 (2 ^ (m - 2 * n)), .int .i64 s, .int .i64 t]) := by
  intro h
  refine c99 _ s t L n ?_
  unfold G99
  refine newC fun b1 h1 _ e1 k1 => newC fun b2 h2 f2 e2 k2 => rd4 (k2.get e1) (rdI (k2.get e1) rfl (rdI (k2.get e1) rfl ?_))
  refine (ref_blocks o n hn).to fun h3 k3 => ⟨_, rfl, ⟨rd1 ((k2.trans k3).get e1) rfl, trivial⟩, ⟨rd1 ((k2.trans k3).get e1) rfl, trivial⟩, ?_⟩
  exact stN ((k1.trans k2).trans k3) (k1.free f2) (k3.get e2) (by simp) fun h4 k4 e4 _ => rd3 e4 ⟨rfl, k4⟩
theorem ref_right {m : Nat} {s t : Int} {L : Nat} (o : StOk m s t L) : PureC prog 76 [v4 m s t L] (.bool true) := by
  intro h
  have hL := o.L
  refine c76 _ s t L ?_
  unfold G76
  refine newC fun b1 h1 f1 e1 k1 => rdI e1 rfl (ifD (fun e => absurd e (by omega)) fun _ => rdI e1 rfl (ifB_neg (by simp; omega) ?_))
  refine ⟨fun q i h2 k => q = ⟨b1, 0⟩ ∧ ∃ j : Nat, i = j ∧ j ≤ L ∧ Keep h1 h2 ∧ k = L - j, ⟨_, rfl, 0, rfl, Nat.zero_le _, Keep.refl _, rfl⟩, ?_⟩
  rintro q i h2 k ⟨rfl, j, rfl, hj, k2, rfl⟩
  refine rdI (k2.get e1) rfl (ifD (fun hlt => rd4 (k2.get e1) ?_) fun _ => ⟨rfl, k1.trans k2⟩)
  refine (ref_level o j (by omega)).to fun h3 k3 => ⟨_, _, _, rfl, ?_⟩
  refine (ref_level_right (o.lev j)).to fun h4 k4 => ⟨_, rfl, ifB_neg rfl ⟨_, by omega, rfl, j + 1, w64_id (by omega) (by omega), by omega, k2.trans (k3.trans k4), rfl⟩⟩
theorem ref_sizes {m : Nat} {s t : Int} {L : Nat} (o : StOk m s t L) (h : Hp) : callK prog 77 [v4 m s t L] h fun v h' => ∃ x, v = vs x ∧ OwnS iv h h' x (sizesL m s t L L) ∧ Keep h h' := by
  have hL := o.L
  refine c77 _ s t L ?_
  unfold G77
  refine newC fun b1 h1 f1 e1 k1 => rd4 e1 ?_
  refine (ref_right o).to fun h2 k2 => ⟨_, rfl, ifB_neg rfl (rd4 (k2.get e1) (rdI (k2.get e1) rfl ?_))⟩
  rw [w64_id (by omega) (by omega), show (L : Int) - 1 = ((L - 1 : Nat) : Int) by omega]
  refine (ref_blocks o (L - 1) (by omega)).to fun h3 k3 => ⟨_, rfl, fun b2 hb2 => ?_⟩
  have k03 := (k1.trans k2).trans k3
  have k4 : Keep h3 (upd h3 b2 (.cells #[.int .i64 (2 ^ (m - 2 * (L - 1)))] 3)) := (Keep.refl h3).upd hb2 _
  have o1 : OwnS iv h (upd h3 b2 (.cells #[.int .i64 (2 ^ (m - 2 * (L - 1)))] 3)) ⟨some ⟨b2, 0⟩, 1, 1, none⟩ (sizesL m s t L 0) := OwnS.new (f := iv) (l := [2 ^ (m - 2 * (L - 1))]) (k03.free hb2) 1 rfl
  have e4 := (k2.trans (k3.trans k4)).get e1
  have e13 := (k2.trans k3).get e1
  have b10 : ∀ p, Sl.q ⟨some ⟨b2, 0⟩, 1, 1, none⟩ = some p → b1 ≠ p.b := by
    intro p hp e
    cases hp
    rw [show b1 = b2 from e, hb2] at e13; cases e13
  refine ⟨fun q x i h5 k => q = ⟨b1, 0⟩ ∧ ∃ j : Nat, i = j ∧ j ≤ L ∧ OwnS iv h h5 x (sizesL m s t L j) ∧ (∀ p, x.q = some p → b1 ≠ p.b) ∧ h5 b1 = some (.cells #[.int .i64 (2 ^ m), .int .i64 s, .int .i64 t, .int .i64 L] 33 (0, 0)) ∧ Keep h h5 ∧ k = L - j,
    ⟨_, rfl, 0, rfl, Nat.zero_le _, o1, b10, e4, k03.trans k4, rfl⟩, ?_⟩
  rintro q x i h5 k ⟨rfl, j, rfl, hj, oj, b1n, e5, k5, rfl⟩
  refine rdI e5 rfl (ifD (fun hlt => ?_) fun hge => ?_)
  · refine rd4 e5 ?_
    refine (ref_level o j (by omega)).to fun h6 k6 => ⟨_, _, _, rfl, ?_⟩
    refine (ref_level_sizes (o.lev j)).to fun h7 k7 => ⟨_, _, _, rfl, newC fun b3 h8 hb3 e8 k8 => ?_⟩
    have k57 := k6.trans k7
    have y : OwnS iv h h8 ⟨some ⟨b3, 0⟩, 3, 3, none⟩ (levL m s t j) := OwnS.newE (f := iv) (l := levL m s t j) (k5.free (k57.free hb3)) e8 rfl rfl
    have o5 := (oj.keep k57).keep k8
    have room : ((sizesL m s t L j).length + (levL m s t j).length) * 8 ≤ 140737488355328 := by rw [sizesL_length, show (levL m s t j).length = 3 from rfl]; omega
    refine OwnS.app rtI iv_one o5 y.rd (fun c hc => k5.free (k57.free (k8.free hc))) room (by decide) ?_
    intro x' h9 o9 f9 w9 fr9
    refine ⟨_, by omega, rfl, j + 1, w64_id (by omega) (by omega), by omega, by rw [sizesL_succ]; exact o9, fun p' hp' e => ?_, ?_, ?_, rfl⟩
    · rcases w9 p' hp' with ⟨p, hp, h⟩ | h
      · exact b1n p hp (e.trans h)
      · rw [← e, (k57.trans k8).get e5] at h; cases h
    · rw [f9 b1 (by rw [(k57.trans k8).get e5]; simp) b1n, (k57.trans k8).get e5]
    · intro c hc
      have h1 : h5 c ≠ none := by rw [k5 c hc]; exact hc
      have h2 : h8 c = h5 c := (k57.trans k8) c h1
      rw [f9 c (by rw [h2]; exact h1) (fun p hp e => hc (e ▸ (oj.blk hp).1)), h2, k5 c hc]
  · have : j = L := by omega
    subst this; exact ⟨_, rfl, oj, k5⟩

theorem ref_out {n a b : Int} (h1 : a ≤ n) (h2 : n ≤ b) : PureC prog 74 [.int .i64 n, .int .i64 a, .int .i64 b] (.bool false) := by
  intro h
  refine c74 n a b ?_
  unfold G74
  exact ifD (fun e => absurd e (by omega)) fun _ => ⟨by simp; omega, Keep.refl _⟩
theorem ref_store' {c : Cfg} {t L : Nat} (o : c.Ok t L) : PureC prog 28 [c.v] (v4 (t + 2) c.slo c.sta L) := by
  intro h
  have := o.cap; have := o.bat; have := o.pow; have := o.fit; have := o.tab
  refine c28 _ _ _ _ _ _ _ _ _ ?_
  unfold G28
  refine newC fun b1 h1 _ e1 k1 => newC fun b2 h2 f2 e2 k2 => ?_
  have e := k2.get e1
  refine rdI e rfl (rdI e rfl (rdI e rfl (rdI e rfl (rdI e rfl (rdI e rfl ?_)))))
  rw [w64_id (n := 2 * c.tab) (by omega) (by omega), w64_id (n := 2 * c.tab + c.cap) (by omega) (by omega), w64_id (by omega) (by omega)]
  refine (ref_round (by omega)).to fun h4 k4 => ⟨_, rfl, ?_⟩
  have e4 := k4.get e
  refine ⟨⟨rd1 e4 rfl, trivial⟩, ⟨rd1 e4 rfl, trivial⟩, ⟨rd1 e4 rfl, trivial⟩, ?_⟩
  refine stN ((k1.trans k2).trans k4) (k1.free f2) (k4.get e2) (by simp) fun h5 k5 e5 _ => rd4 e5 ⟨?_, k5⟩
  rw [show 2 * c.tab + c.cap + c.bat = 2 * c.tab + (c.cap + c.bat) by omega, o.blocks, o.lev]
theorem ref_table {c : Cfg} {t L : Nat} (o : c.Ok t L) : PureC prog 75 [c.v] (.int .i64 0) := by
  intro h
  have := o.cap; have := o.bat; have := o.pow; have := o.fit; have := o.tab
  refine c75 _ _ _ _ _ _ _ _ _ ?_
  unfold G75
  refine newC fun b1 h1 _ e1 k1 => rdI e1 rfl ?_
  refine (ref_out (n := c.tab) (by omega) (by omega)).to fun h2 k2 => ⟨_, rfl, ifB_neg rfl ?_⟩
  have e2 := k2.get e1
  refine rdI e2 rfl (rdI e2 rfl ?_)
  refine (ref_round (by omega)).to fun h3 k3 => ⟨_, rfl, ⟨rd1 (k3.get e2) rfl, trivial⟩, ?_⟩
  have e3 := k3.get e2
  refine ifN (fun e => absurd (by rw [o.tab, round_pow (by have := o.ht; omega)]) e) fun _ => rdI e3 rfl (rdI e3 rfl (rdI e3 rfl ?_))
  rw [w64_id (by omega) (by omega)]
  exact ifD (fun e => absurd e (by omega)) fun _ => ⟨rfl, (k1.trans k2).trans k3⟩
theorem ref_why {c : Cfg} {t L : Nat} (o : c.Ok t L) (h : Hp) : callK prog 50 [c.v] h fun v h' => (∃ y, v = .tuple #[.string y, .int .i64 0]) ∧ Keep h h' := by
  have hL := o.L
  refine c50 _ _ _ _ _ _ _ _ _ ?_
  unfold G50
  refine newC fun b1 h1 f1 e1 k1 => rdI e1 rfl ?_
  refine (ref_out o.cap.1 o.cap.2).to fun h2 k2 => ⟨_, rfl, ifB_neg rfl (rdI (k2.get e1) rfl ?_)⟩
  refine (ref_out o.bat.1 o.bat.2).to fun h3 k3 => ⟨_, rfl, ifB_neg rfl (rdI ((k2.trans k3).get e1) rfl ?_)⟩
  have k13 := k2.trans k3
  refine (ref_out o.kic.1 o.kic.2).to fun h4 k4 => ⟨_, rfl, ifB_neg rfl (rdI ((k13.trans k4).get e1) rfl ?_)⟩
  have k14 := k13.trans k4
  refine (ref_out o.spi.1 o.spi.2).to fun h5 k5 => ⟨_, rfl, ifB_neg rfl (rdI ((k14.trans k5).get e1) rfl ?_)⟩
  have k15 := k14.trans k5
  refine (ref_out o.pol.1 o.pol.2).to fun h6 k6 => ⟨_, rfl, ifB_neg rfl (rd9 ((k15.trans k6).get e1) ?_)⟩
  have k16 := k15.trans k6
  refine (ref_table o).to fun h7 k7 => ⟨_, rfl, ifN (fun e => absurd rfl e) fun _ => rd9 ((k16.trans k7).get e1) ?_⟩
  have k17 := k16.trans k7
  refine (ref_store' o).to fun h8 k8 => ⟨_, _, _, _, rfl, ?_⟩
  refine (ref_right o.st).to fun h9 k9 => ⟨_, rfl, ifB_neg rfl (rd9 (((k17.trans k8).trans k9).get e1) ?_)⟩
  have k19 := (k17.trans k8).trans k9
  refine (ref_store' o).to fun h10 k10 => ⟨_, _, _, _, rfl, ?_⟩
  refine (ref_sizes o.st h10).mono ?_
  rintro _ h11 ⟨x, rfl, ox, k11⟩
  have kk := (k1.trans k19).trans (k10.trans k11)
  refine ⟨_, rfl, fun s i h12 k => s = x ∧ h12 = h11 ∧ ∃ j : Nat, i = j ∧ k = x.len - j, ⟨_, rfl, rfl, 0, rfl, rfl⟩, ?_⟩
  rintro s i h12 k ⟨rfl, rfl, j, rfl, rfl⟩
  have r := ox.rd
  have hl := r.len
  rw [sizesL_length] at hl
  refine ifD (fun hlt => ?_) fun _ => ⟨⟨_, rfl⟩, kk⟩
  have hj : j < (sizesL (t + 2) c.slo c.sta L L).length := by rw [sizesL_length]; omega
  refine r.ix hj fun q _ hc => ⟨_, hc, ifD (fun e => absurd (o.sizes (List.getElem_mem hj)).2 (by omega)) fun _ => ⟨_, ?_, rfl, rfl, j + 1, w64_id (by omega) (by omega), rfl⟩⟩
  omega
theorem ref_cright {c : Cfg} {t L : Nat} (o : c.Ok t L) : PureC prog 26 [c.v] (.bool true) := by
  intro h
  refine c26 _ _ _ _ _ _ _ _ _ ?_
  unfold G26
  refine newC fun b1 h1 f1 e1 k1 => rd9 e1 ?_
  refine (ref_why o h1).mono ?_
  rintro _ h2 ⟨⟨y, rfl⟩, k2⟩
  exact ⟨_, _, rfl, rfl, k1.trans k2⟩
theorem ref_store {c : Cfg} {t L : Nat} (o : c.Ok t L) : PureC prog 14 [c.v] (v4 (t + 2) c.slo c.sta L) := by
  intro h
  refine c14 _ _ _ _ _ _ _ _ _ ?_
  unfold G14
  refine newC fun b1 h1 f1 e1 k1 => newC fun b2 h2 f2 e2 k2 => rd9 (k2.get e1) ?_
  refine (ref_cright o).to fun h3 k3 => ⟨_, rfl, ifB_neg rfl (rd9 ((k2.trans k3).get e1) ?_)⟩
  refine (ref_store' o).to fun h4 k4 => ⟨_, _, _, _, rfl, ?_⟩
  exact stN ((k1.trans k2).trans (k3.trans k4)) (k1.free f2) ((k3.trans k4).get e2) (by simp) fun h5 k5 e5 _ => rd4 e5 ⟨rfl, k5⟩
end Go.Proofs.Tryz

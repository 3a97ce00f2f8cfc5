/- Chapter 20's drawn configs. -/
import Derived.Test.YtecaoigobpekdaaGreatDoorRefC
namespace Go.Proofs.Tryz
open Go Go.Sh Go.RowKit
set_option maxRecDepth 8000

def i64 (n : Int) : Prop := -9223372036854775808 ≤ n ∧ n ≤ 9223372036854775807
def pk (c n : Int) : Int := if c < 0 then (-(c + 1)).tmod n else c.tmod n
theorem pk_bds {c n : Int} (hn : 1 ≤ n) : 0 ≤ pk c n ∧ pk c n < n := by
  unfold pk
  split
  · exact ⟨Int.tmod_nonneg _ (by omega), Int.tmod_lt_of_pos _ (by omega)⟩
  · exact ⟨Int.tmod_nonneg _ (by omega), Int.tmod_lt_of_pos _ (by omega)⟩
theorem law_pick {c n : Int} (hc : i64 c) (hn : 1 ≤ n) : PureC prog 12 [.int .i64 c, .int .i64 n] (.int .i64 (pk c n)) := by
  intro h
  have := hc.1; have := hc.2
  refine c12 c n ?_
  unfold G12
  refine ifD (fun hlt => ⟨by omega, ?_, Keep.refl _⟩) fun hge => ⟨by omega, ?_, Keep.refl _⟩
  · rw [w64_id (n := c + 1) (by omega) (by omega), w64_id (by omega) (by omega), pk, if_pos hlt, show (0 : Int) - (c + 1) = -(c + 1) by omega]
  · rw [pk, if_neg hge]
theorem tdiv_i64 {n k : Int} (hn : i64 n) (hk : 2 ≤ k) : i64 (n.tdiv k) := by
  have h1 := hn.1; have h2 := hn.2
  obtain ⟨m, rfl⟩ := Int.eq_ofNat_of_zero_le (show 0 ≤ k by omega)
  rcases Int.lt_or_le n 0 with h | h
  · obtain ⟨a, ha⟩ := Int.eq_ofNat_of_zero_le (show 0 ≤ -n by omega)
    have e : n = -(a : Int) := by omega
    subst e
    rw [Int.neg_tdiv, ← Int.ofNat_tdiv]
    have := Nat.div_le_self a m
    generalize a / m = d at *
    constructor <;> omega
  · obtain ⟨a, rfl⟩ := Int.eq_ofNat_of_zero_le h
    rw [← Int.ofNat_tdiv]
    have := Nat.div_le_self a m
    generalize a / m = d at *
    constructor <;> omega
def madeC (n : Int) : Cfg := ⟨1 + pk n 4, 1 + pk (n.tdiv 4) 3, 1 + pk (n.tdiv 12) 3, 1 + pk (n.tdiv 36) 4, 8, 1 + pk (n.tdiv 144) 3, 3 + pk (n.tdiv 432) 22, 1 + pk (n.tdiv 9504) 2, pk (n.tdiv 19008) 3⟩
def madeL (n : Int) : Nat := (1 + pk (n.tdiv 9504) 2).toNat
theorem madeL_bds (n : Int) : 1 ≤ madeL n ∧ madeL n ≤ 2 := by
  have := pk_bds (c := n.tdiv 9504) (n := 2) (by omega); unfold madeL; omega
theorem madeC_ok (n : Int) : (madeC n).Ok 3 (madeL n) := by
  have h1 := pk_bds (c := n) (n := 4) (by omega)
  have h2 := pk_bds (c := n.tdiv 4) (n := 3) (by omega)
  have h3 := pk_bds (c := n.tdiv 12) (n := 3) (by omega)
  have h4 := pk_bds (c := n.tdiv 36) (n := 4) (by omega)
  have h5 := pk_bds (c := n.tdiv 144) (n := 3) (by omega)
  have h6 := pk_bds (c := n.tdiv 432) (n := 22) (by omega)
  have h7 := pk_bds (c := n.tdiv 9504) (n := 2) (by omega)
  have h8 := pk_bds (c := n.tdiv 19008) (n := 3) (by omega)
  have hl := madeL_bds n
  refine ⟨by omega, rfl, ?_, by omega, ?_, ?_, ?_, ?_, ?_, ?_, ?_, ?_, ?_⟩
  · show 1 + pk (n.tdiv 9504) 2 = ((1 + pk (n.tdiv 9504) 2).toNat : Int); omega
  all_goals first | (simp only [madeC]; omega) | (simp only [madeC]; simp; omega)
theorem law_made {n : Int} (hn : i64 n) : PureC prog 9 [.int .i64 n] (madeC n).v := by
  intro h
  have h1 := pk_bds (c := n) (n := 4) (by omega)
  have h2 := pk_bds (c := n.tdiv 4) (n := 3) (by omega)
  have h3 := pk_bds (c := n.tdiv 12) (n := 3) (by omega)
  have h4 := pk_bds (c := n.tdiv 36) (n := 4) (by omega)
  have h5 := pk_bds (c := n.tdiv 144) (n := 3) (by omega)
  have h6 := pk_bds (c := n.tdiv 432) (n := 22) (by omega)
  have h7 := pk_bds (c := n.tdiv 9504) (n := 2) (by omega)
  have t4 := tdiv_i64 (k := 4) hn (by omega); have t12 := tdiv_i64 (k := 12) hn (by omega); have t36 := tdiv_i64 (k := 36) hn (by omega); have t144 := tdiv_i64 (k := 144) hn (by omega)
  have t432 := tdiv_i64 (k := 432) hn (by omega); have t9504 := tdiv_i64 (k := 9504) hn (by omega); have t19008 := tdiv_i64 (k := 19008) hn (by omega)
  refine c9 n ?_
  unfold G9
  rw [w64_id t4.1 t4.2, w64_id t12.1 t12.2, w64_id t36.1 t36.2, w64_id t144.1 t144.2, w64_id t432.1 t432.2, w64_id t9504.1 t9504.2, w64_id t19008.1 t19008.2]
  refine newC fun b1 g1 f1 e1 k1 => ?_
  refine (law_pick hn (by omega)).to fun g2 k2 => ⟨_, rfl, by decide, ?_⟩
  refine (law_pick t4 (by omega)).to fun g3 k3 => ⟨_, rfl, by decide, ?_⟩
  refine (law_pick t12 (by omega)).to fun g4 k4 => ⟨_, rfl, by decide, ?_⟩
  refine (law_pick t36 (by omega)).to fun g5 k5 => ⟨_, rfl, by decide, ?_⟩
  refine (law_pick t144 (by omega)).to fun g6 k6 => ⟨_, rfl, by decide, ?_⟩
  refine (law_pick t432 (by omega)).to fun g7 k7 => ⟨_, rfl, by decide, ?_⟩
  refine (law_pick t9504 (by omega)).to fun g8 k8 => ⟨_, rfl, by decide, ?_⟩
  refine (law_pick t19008 (by omega)).to fun g9 k9 => ⟨_, rfl, ?_⟩
  have k29 := (k2.trans (k3.trans (k4.trans k5))).trans (k6.trans (k7.trans (k8.trans k9)))
  rw [w64_id (n := 1 + pk n 4) (by omega) (by omega), w64_id (n := 1 + pk (n.tdiv 4) 3) (by omega) (by omega), w64_id (n := 1 + pk (n.tdiv 12) 3) (by omega) (by omega), w64_id (n := 1 + pk (n.tdiv 36) 4) (by omega) (by omega),
    w64_id (n := 1 + pk (n.tdiv 144) 3) (by omega) (by omega), w64_id (n := 3 + pk (n.tdiv 432) 22) (by omega) (by omega), w64_id (n := 1 + pk (n.tdiv 9504) 2) (by omega) (by omega)]
  exact stW (k1.trans k29) f1 (k29.get e1) rfl fun g10 k10 e10 _ => rd9 e10 ⟨by simp only [madeC], k10⟩
theorem law_as (c : Cfg) : PureC prog 11 [c.v] c.v := by
  intro h
  refine c11 _ _ _ _ _ _ _ _ _ ?_
  unfold G11
  refine newC fun b1 h1 f1 e1 k1 => newC fun b2 h2 f2 e2 k2 => ?_
  have e := k2.get e1
  refine rdI e rfl (rdI e rfl (rdI e rfl (rdI e rfl (rdI e rfl (rdI e rfl (rdI e rfl (rdI e rfl (rdI e rfl ?_))))))))
  exact stW (k1.trans k2) (k1.free f2) e2 rfl fun h3 k3 e3 _ => rd9 e3 ⟨rfl, k3⟩
def cfg0 : Cfg := ⟨2, 1, 1, 1, 4, 1, 1, 1, 0⟩
theorem cfg0_ok : cfg0.Ok 2 1 := by refine ⟨?_, ?_, ?_, ?_, ?_, ?_, ?_, ?_, ?_, ?_, ?_, ?_, ?_⟩ <;> simp [cfg0]
theorem law_shown : PureC prog 8 [] (.bool true) := by
  intro h
  refine c8 ?_
  unfold G8
  refine (shape_ways cfg0_ok 1).to fun h1 k1 => ⟨_, rfl, ?_, k1⟩
  have : waysI cfg0 1 = 14 := by decide
  rw [this]; rfl
end Go.Proofs.Tryz

/- Chapter 20: the leaves of words; and the law on them. -/
import Derived.Test.YtecaoigobpekdaaDoorRefC
namespace Go.Proofs.Tryd
open Go Go.Sh Go.RowKit
set_option maxRecDepth 8000

/-- the level's exponent for a way -/
def lfE (t L i : Nat) : Nat := t + 2 - 2 * (L - 1 - i % L)
theorem shape_leaves {c : Cfg} {t L : Nat} (o : c.Ok t L) (i : Nat) (hi : i ≤ 1000000) : PureC prog 13 [c.v, .int .i64 i] (.int .i64 (2 ^ lfE t L i)) := by
  intro h
  have hL := o.L; have hlev := o.lev
  have hm := Nat.mod_lt i (show L > 0 by omega)
  refine c13 _ _ _ _ _ _ _ _ _ i ?_
  unfold G13
  refine newC fun b1 h1 f1 e1 k1 => rd9 e1 ?_
  refine (config_store o).to fun h2 k2 => ⟨_, _, _, _, rfl, rdI (k2.get e1) rfl (rdI (k2.get e1) rfl ⟨by omega, ?_⟩)⟩
  have et : (i : Int).tmod c.lev = ((i % L : Nat) : Int) := by rw [hlev]; rfl
  have e0 : w64 (w64 (c.lev - 1) - (i : Int).tmod c.lev) = ((L - 1 - i % L : Nat) : Int) := by
    rw [et, hlev, w64_id (n := (L : Int) - 1) (by omega) (by omega), w64_id (by omega) (by omega)]; omega
  rw [e0]
  refine ⟨fun x l n h3 k => l = ((L - 1 - i % L : Nat) : Int) ∧ ∃ j : Nat, n = j ∧ j ≤ L - 1 - i % L ∧ x = 2 ^ (t + 2 - 2 * j) ∧ Keep h h3 ∧ k = (L - 1 - i % L) - j, ⟨_, rfl, 0, rfl, Nat.zero_le _, rfl, k1.trans k2, rfl⟩, ?_⟩
  rintro x l n h3 k ⟨rfl, j, rfl, hj, rfl, k3, rfl⟩
  refine ifD (fun hlt => ⟨by decide, _, ?_, rfl, j + 1, w64_id (by omega) (by omega), by omega, ?_, k3, rfl⟩) fun hge => ?_
  · omega
  · rw [step4 (by have := o.ht; omega)]; rfl
  · have : j = L - 1 - i % L := by omega
    subst this; exact ⟨rfl, k3⟩

/-- a word's leaf -/
def lwI (x : UInt64) (e : Nat) : Int := ((x.toNat % 2 ^ e : Nat) : Int)
theorem lwI_is (x : UInt64) {e : Nat} (he : e ≤ 10) : w64 (((x % toU (2 ^ e)).toNat : Nat) : Int) = lwI x e ∧ (toU (2 ^ e) = 0 → False) := by
  have hb := pow_bds he
  have e1 : ((toU (2 ^ e)).toNat : Int) = 2 ^ e := toU_ok (by simp [uok]; omega)
  have e2 : ((2 ^ e : Nat) : Int) = 2 ^ e := by simp
  have e3 : (toU (2 ^ e)).toNat = 2 ^ e := by omega
  have hp : 0 < 2 ^ e := Nat.pow_pos (by decide)
  constructor
  · rw [UInt64.toNat_mod, e3]
    have := Nat.mod_lt x.toNat hp
    rw [w64_id (by omega) (by omega)]; rfl
  · intro hz
    rw [hz] at e3
    simp at e3
    omega
def leavesL (ws : List UInt64) (t L : Nat) (ats : List Int) (n : Nat) : List Int := (List.range n).map fun i => lwI (ws.getD (ats.getD i 0).toNat 0) (lfE t L i)
theorem leavesL_length (ws : List UInt64) (t L : Nat) (ats : List Int) (n : Nat) : (leavesL ws t L ats n).length = n := by simp [leavesL]
theorem leavesL_succ (ws : List UInt64) (t L : Nat) (ats : List Int) (n : Nat) : leavesL ws t L ats (n + 1) = leavesL ws t L ats n ++ [lwI (ws.getD (ats.getD n 0).toNat 0) (lfE t L n)] := by simp [leavesL, List.range_succ]
theorem lfE_le {t L i : Nat} (ht : t ≤ 7) : lfE t L i ≤ 10 := by unfold lfE; omega

/-- what of places: the leaves, or none where a place is below 0 -/
theorem shape_Leaves {c : Cfg} {t L : Nat} (o : c.Ok t L) {h : Hp} {x y : Sl} {ws : List UInt64} {ats : List Int} (rx : RdS vu h x ws) (ry : RdS iv h y ats) (hn : ats.length ≤ 1000) :
    callK prog 7 [c.v, vs x, vs y] h fun v h' => ∃ s, v = vs s ∧ Keep h h' ∧ ((∀ a ∈ ats, 0 ≤ a) → OwnS iv h h' s (leavesL ws t L ats ats.length)) ∧ ((∃ a ∈ ats, a < 0) → s.len = 0) := by
  refine c7 _ _ _ _ _ _ _ _ _ x y ?_
  unfold G7
  refine newC fun b1 h1 f1 e1 k1 => rd9 e1 ?_
  refine (shape_right o).to fun h2 k2 => ⟨_, rfl, ifB_neg rfl ?_⟩
  have ly := ry.len
  refine ⟨fun s1 q s2 s3 l n h3 k => s1 = x ∧ q = ⟨b1, 0⟩ ∧ s3 = y ∧ l = y.len ∧ ∃ j : Nat, n = j ∧ j ≤ y.len ∧ (∀ i, i < j → 0 ≤ ats.getD i 0) ∧ OwnS iv h h3 s2 (leavesL ws t L ats j) ∧ (∀ p, s2.q = some p → b1 ≠ p.b) ∧ h3 b1 = h2 b1 ∧ Keep h h3 ∧ k = y.len - j,
    ⟨_, rfl, rfl, rfl, rfl, 0, rfl, Nat.zero_le _, fun i hi => by omega, OwnS.nilS _ _ _, (fun p hp => by cases hp), rfl, k1.trans k2, rfl⟩, ?_⟩
  rintro s1 q s2 s3 l n h3 k ⟨rfl, rfl, rfl, rfl, j, rfl, hj, hall, oj, bn, eb, k3, rfl⟩
  have e3 : h3 b1 = some (.cells #[.int .i64 c.cap, .int .i64 c.bat, .int .i64 c.kic, .int .i64 c.spi, .int .i64 c.tab, .int .i64 c.slo, .int .i64 c.sta, .int .i64 c.lev, .int .i64 c.pol] 26 (0, 0)) := by rw [eb, k2.get e1]
  refine ifD (fun hlt => ?_) fun hge => ?_
  · have hj' : j < ats.length := by omega
    have hg : ats.getD j 0 = ats[j] := by simp [List.getD_eq_getElem?_getD, hj']
    refine (ry.keep k3).ix hj' fun p _ hc => ⟨_, hc, ifD (fun hneg => ?_) fun hpos => ?_⟩
    · exact ⟨_, rfl, k3, fun H => absurd (H _ (List.getElem_mem hj')) (by omega), fun _ => rfl⟩
    · have go : ∀ (w : UInt64), ws.getD (ats.getD j 0).toNat 0 = w → ∀ {K : Sl → Hp → Prop}, (∀ s4 h6, OwnS iv h h6 s4 (leavesL ws t L ats (j + 1)) → (∀ p, s4.q = some p → b1 ≠ p.b) → h6 b1 = h2 b1 → Keep h h6 → K s4 h6) →
          ∀ h4, Keep h3 h4 → newK h4 (.cells #[.int .i64 (lwI w (lfE t L j))] 3) fun b2 h5 => appK prog 23 s2 (.s ⟨some ⟨b2, 0⟩, 1, 1, none⟩) h5 K := by
        intro w hw K hK h4 k4
        have o4 := oj.keep k4
        refine OwnS.push' rtI iv_one o4 (lwI w (lfE t L j)) (fun b hb => k3.free (k4.free hb)) (by rw [leavesL_length]; omega) (by decide) ?_
        intro s' h6 o6 f6 w6 fr6
        refine hK s' h6 (by rw [leavesL_succ, hw]; exact o6) (fun p hp e => ?_) ?_ fun b hb => ?_
        · rcases w6 p hp with ⟨p0, hp0, h⟩ | h
          · exact bn p0 hp0 (e.trans h)
          · rw [← e, k4.get e3] at h; cases h
        · rw [f6 b1 (by rw [k4.get e3]; simp) (fun p hp => bn p hp), k4 b1 (by rw [e3]; simp), eb]
        · have hb3 : h3 b ≠ none := by rw [k3 b hb]; exact hb
          rw [f6 b (by rw [k4 b hb3]; exact hb3) (fun p hp e => hb (e ▸ (oj.blk hp).1)), k4 b hb3, k3 b hb]
      have nx : ∀ s4 h6, OwnS iv h h6 s4 (leavesL ws t L ats (j + 1)) → (∀ p, s4.q = some p → b1 ≠ p.b) → h6 b1 = h2 b1 → Keep h h6 →
          ∃ k3, k3 < s3.len - j ∧ s1 = s1 ∧ (⟨b1, 0⟩ : Pt) = ⟨b1, 0⟩ ∧ s3 = s3 ∧ (s3.len : Int) = s3.len ∧ ∃ j' : Nat, w64 ((j : Int) + 1) = j' ∧ j' ≤ s3.len ∧ (∀ i, i < j' → 0 ≤ ats.getD i 0) ∧ OwnS iv h h6 s4 (leavesL ws t L ats j') ∧ (∀ p, s4.q = some p → b1 ≠ p.b) ∧ h6 b1 = h2 b1 ∧ Keep h h6 ∧ k3 = s3.len - j' := by
        intro s4 h6 g1 g2 g3 g4
        refine ⟨_, ?_, rfl, rfl, rfl, rfl, j + 1, w64_id (by omega) (by omega), by omega, fun i hi => ?_, g1, g2, g3, g4, rfl⟩
        · omega
        · rcases Nat.lt_or_ge i j with h | h
          · exact hall i h
          · have : i = j := by omega
            subst this; rw [hg]; omega
      refine ifD (fun hw => ?_) fun hw => ?_
      · have hwl : ats[j].toNat < ws.length := by have := rx.len; omega
        refine (rx.keep k3).ixI (by omega) hwl fun p _ hcw => ⟨_, hcw, rd9 (b := b1) e3 ?_⟩
        refine (shape_leaves o j (by omega)).to fun h4 k4 => ⟨_, rfl, (lwI_is ws[ats[j].toNat] (lfE_le o.ht)).2, ?_⟩
        rw [(lwI_is ws[ats[j].toNat] (lfE_le o.ht)).1]
        exact go _ (by rw [hg]; simp [List.getD_eq_getElem?_getD, hwl]) nx h4 k4
      · refine rd9 (b := b1) e3 ?_
        refine (shape_leaves o j (by omega)).to fun h4 k4 => ⟨_, rfl, (lwI_is 0 (lfE_le o.ht)).2, ?_⟩
        rw [(lwI_is 0 (lfE_le o.ht)).1]
        exact go _ (by rw [hg, List.getD_eq_getElem?_getD, List.getElem?_eq_none (by have := rx.len; omega)]; rfl) nx h4 k4
  · have : j = ats.length := by omega
    subst this
    refine ⟨_, rfl, k3, fun _ => oj, fun ⟨a, ha, hn⟩ => ?_⟩
    obtain ⟨i, hi, rfl⟩ := List.getElem_of_mem ha
    have := hall i hi
    simp [List.getD_eq_getElem?_getD, hi] at this
    omega
end Go.Proofs.Tryd

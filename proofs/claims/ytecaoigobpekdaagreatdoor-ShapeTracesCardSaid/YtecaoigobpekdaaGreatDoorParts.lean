/- ShapeParts: whole batches are one like the other. -/
import Derived.Test.YtecaoigobpekdaaGreatDoorCounts
namespace Go.Proofs.Tryz
open Go Go.Sh Go.RowKit
set_option maxRecDepth 8000
set_option maxHeartbeats 2000000

/-! ## ways that are all the first one -/
def Zs (ws : List Int) : Prop := ∀ i, ws.getD i 0 = 0
theorem Zs.drop {ws : List Int} (z : Zs ws) (n : Nat) : Zs (ws.drop n) := fun i => by
  have := z (n + i)
  simpa [List.getD_eq_getElem?_getD, List.getElem?_drop] using this
theorem Zs.nil : Zs [] := fun i => by simp
theorem Zs.zeros (c : Cfg) (L n : Nat) : Zs (zerosL c L n) := fun i => by
  simp only [zerosL, List.getD_eq_getElem?_getD, List.getElem?_replicate]
  split <;> rfl
theorem one_z {m : Nat} {s t : Int} {L : Nat} {f : Int} {a b : List Int} (za : Zs a) (zb : Zs b) (n : Nat) : oneEv m s t L f a n = oneEv m s t L f b n := by
  unfold oneEv; simp only [za _, zb _]
theorem acc_z {m : Nat} {s t : Int} {L : Nat} {f : Int} {a b : List Int} (za : Zs a) (zb : Zs b) : accEv m s t L f a = accEv m s t L f b := by
  unfold accEv; rw [one_z za zb]
theorem store_z {m : Nat} {s t : Int} {L : Nat} {f : Int} {a b : List Int} (za : Zs a) (zb : Zs b) (n : Nat) : storeEv m s t L f a n = storeEv m s t L f b n := by
  unfold storeEv
  congr 1; funext c
  exact acc_z (za.drop _) (zb.drop _)
theorem Zs.dr {ws : List Int} (z : Zs ws) (L k : Nat) : Zs (dr L k ws) := z.drop _
theorem dr_nil (L k : Nat) : dr L k ([] : List Int) = [] := by simp [Go.Proofs.Tryz.dr]
section
variable {c : Cfg} {t L : Nat}
theorem s_z {a b : List Int} (za : Zs a) (zb : Zs b) (n : Nat) : sEv c t L a n = sEv c t L b n := store_z za zb n
theorem find_z {a b : List Int} (za : Zs a) (zb : Zs b) : findEv c t L a = findEv c t L b := by unfold findEv; rw [s_z za zb]
theorem rem_z {a b : List Int} (za : Zs a) (zb : Zs b) : remEv c t L a = remEv c t L b := by unfold remEv; rw [s_z za zb]
theorem put_z {a b : List Int} (za : Zs a) (zb : Zs b) : putEv c t L a = putEv c t L b := by unfold putEv; rw [s_z za zb, s_z (za.dr _ _) (zb.dr _ _)]
theorem op_z {a b : List Int} (za : Zs a) (zb : Zs b) : opEv c t L a = opEv c t L b := by
  have d : ∀ k, Zs (dr L k a) ∧ Zs (dr L k b) := fun k => ⟨za.dr _ _, zb.dr _ _⟩
  unfold opEv
  rw [find_z za zb, s_z (d 2).1 (d 2).2, put_z (d 3).1 (d 3).2, rem_z (d _).1 (d _).2, s_z (d (4 + 2 * c.K)).1 (d _).2]
theorem tab_z {a b : List Int} (za : Zs a) (zb : Zs b) (n : Nat) : tabEv c t L a n = tabEv c t L b n := by
  have d : ∀ k m, sEv c t L (dr L k a) m = sEv c t L (dr L k b) m := fun k m => s_z (za.dr _ _) (zb.dr _ _) m
  unfold tabEv; simp only [d]
theorem go_z {a b : List Int} (za : Zs a) (zb : Zs b) (n : Nat) : goEv c t L a n = goEv c t L b n := by
  have d : ∀ k m, sEv c t L (dr L k a) m = sEv c t L (dr L k b) m := fun k m => s_z (za.dr _ _) (zb.dr _ _) m
  have f : ∀ k, findEv c t L (dr L k a) = findEv c t L (dr L k b) := fun k => find_z (za.dr _ _) (zb.dr _ _)
  have r : ∀ k, remEv c t L (dr L k a) = remEv c t L (dr L k b) := fun k => rem_z (za.dr _ _) (zb.dr _ _)
  unfold goEv; simp only [d, f, r]
theorem pass_z {a b : List Int} (za : Zs a) (zb : Zs b) : passEv c t L a = passEv c t L b := by
  unfold passEv; rw [tab_z za zb, go_z (za.dr _ _) (zb.dr _ _)]
theorem tr_z {a b : List Int} (za : Zs a) (zb : Zs b) (n : Nat) : trEv c t L a n = trEv c t L b n := by
  induction n with
  | zero => rfl
  | succ n ih => simp only [trEv]; rw [ih, op_z (za.dr _ _) (zb.dr _ _), pass_z (za.dr _ _) (zb.dr _ _)]

theorem shape_add (hB : 0 < c.B) (k j : Nat) (hj : j ≤ c.B) : shapeL c t L (k * c.B + j) = shapeL c t L (k * c.B) ++ shapeL c t L j := by
  unfold shapeL
  rw [tr_z (Zs.zeros c L (k * c.B + j)) Zs.nil, tr_z (Zs.zeros c L (k * c.B)) Zs.nil, tr_z (Zs.zeros c L j) Zs.nil, ← List.map_append]
  congr 1
  induction j with
  | zero => simp [trEv]
  | succ j ih =>
    have e1 : (k * c.B + j + 1) % c.B = (j + 1) % c.B := by rw [Nat.add_assoc, Nat.mul_comm, Nat.mul_add_mod]
    rw [← Nat.add_assoc]
    simp only [trEv]
    rw [ih (by omega), e1]
    simp only [dr_nil, List.append_assoc]
theorem shape_batch (hB : 0 < c.B) (k : Nat) : shapeL c t L ((k + 1) * c.B) = shapeL c t L (k * c.B) ++ shapeL c t L c.B := by
  rw [Nat.succ_mul]; exact shape_add hB k c.B (Nat.le_refl _)
theorem shape_zero : shapeL c t L 0 = [] := by simp [shapeL, trEv]
theorem shape_len (hB : 0 < c.B) (k : Nat) : (shapeL c t L (k * c.B)).length = k * (shapeL c t L c.B).length := by
  induction k with
  | zero => simp [shape_zero]
  | succ k ih => rw [shape_batch hB, List.length_append, ih, Nat.succ_mul]
theorem shape_at (hB : 0 < c.B) (k i : Nat) (hi : i < (shapeL c t L (k * c.B)).length) (hm : i % (shapeL c t L c.B).length < (shapeL c t L c.B).length) : (shapeL c t L (k * c.B))[i] = (shapeL c t L c.B)[i % (shapeL c t L c.B).length] := by
  induction k with
  | zero => simp [shape_zero] at hi
  | succ k ih =>
    have hl := shape_len (t := t) (L := L) hB k
    have hl1 := shape_len (t := t) (L := L) hB (k + 1)
    have hl2 := Nat.add_mul k 1 (shapeL c t L c.B).length
    have he : (shapeL c t L ((k + 1) * c.B))[i] = (shapeL c t L (k * c.B) ++ shapeL c t L c.B)[i]'(by rw [← shape_batch hB]; exact hi) := by
      congr 1; exact shape_batch hB k
    rw [he]
    by_cases h : i < (shapeL c t L (k * c.B)).length
    · rw [List.getElem_append_left h, ih h]
    · rw [List.getElem_append_right (by omega)]
      congr 1
      have h0 : i - k * (shapeL c t L c.B).length < (shapeL c t L c.B).length := by omega
      rw [hl]
      have h1 : i % (shapeL c t L c.B).length = (i - k * (shapeL c t L c.B).length + k * (shapeL c t L c.B).length) % (shapeL c t L c.B).length := by rw [Nat.sub_add_cancel (by omega)]
      rw [h1, Nat.add_mul_mod_self_right, Nat.mod_eq_of_lt h0]
theorem shape_pos (o : c.Ok t L) {n : Nat} (hn : 0 < n) : 0 < (shapeL c t L n).length := by
  obtain ⟨m, rfl⟩ := Nat.exists_eq_succ_of_ne_zero (Nat.ne_of_gt hn)
  unfold shapeL
  rw [List.length_map]
  simp only [trEv, List.length_append, op_count o]; omega
theorem used_mul (hB : 0 < c.B) (k : Nat) : usedN c (k * c.B) = k * usedN c c.B := by
  unfold usedN
  rw [Nat.mul_div_cancel _ hB, Nat.div_self hB, Nat.mul_assoc k, Nat.one_mul, ← Nat.mul_add k]
end

theorem ifB_nif {x y : Prop} {b : Bool} (h : b = true) (hy : y) : ifB (bif false then true else !b) x y := ifB_neg (by rw [h]; rfl) hy
theorem evc_rd {h : Hp} {b o : Nat} {e : Ev} (r : rdL h b o (evc e)) : hcell h b o = some (.int .i64 e.r) ∧ hcell h b (o + 1) = some (.int .i64 e.a) ∧ hcell h b (o + 1 + 1) = some (.bool e.w) := ⟨r.1, r.2.1, r.2.2.1⟩
theorem shapeParts_law {h : Hp} {n m : Int} (hn : i64 n) (hm : i64 m) : callK prog 4 [.int .i64 n, .int .i64 m] h fun v h' => v = .bool true ∧ Keep h h' := by
  refine c4 n m ?_
  unfold G4
  refine law_shown.to fun h1 k1 => ⟨_, rfl, ?_⟩
  refine (law_made hn).to fun h2 k2 => ⟨_, _, _, _, _, _, _, _, _, rfl, newC fun b1 h3 f3 e3 k3 => ?_⟩
  have k03 := (k1.trans k2).trans k3
  have f0 : h b1 = none := k1.free (k2.free f3)
  refine stW k03 f0 e3 rfl fun h4 k4 e4 _ => ?_
  have hp := pk_bds (c := m) (n := 2) (by omega)
  refine (law_pick hm (by omega)).to fun h5 k5 => ⟨_, rfl, ?_⟩
  obtain ⟨p, hpp⟩ := Int.eq_ofNat_of_zero_le hp.1
  rw [hpp] at hp ⊢
  have hL := madeL_bds n
  have o := madeC_ok n
  have hN := o.nats
  obtain ⟨c, hc⟩ : ∃ c : Cfg, c = madeC n := ⟨_, rfl⟩
  have ec4 : h4 b1 = some (.cells #[.int .i64 c.cap, .int .i64 c.bat, .int .i64 c.kic, .int .i64 c.spi, .int .i64 c.tab, .int .i64 c.slo, .int .i64 c.sta, .int .i64 c.lev, .int .i64 c.pol] 25 (0, 0)) := by
    rw [e4, hc]
  rw [← hc] at o hN
  generalize madeL n = L at o hL
  have hB : 0 < c.B := by omega
  have e5 := k5.get ec4
  have hb16 : (p + 2) * c.B ≤ 48 := by
    have := Nat.mul_le_mul (show p + 2 ≤ 3 by omega) (show c.B ≤ 16 by omega)
    omega
  have hb1 : (p + 1) * c.B ≤ (p + 2) * c.B := Nat.mul_le_mul_right _ (by omega)
  have ep1 : w64 (w64 (1 + (p : Int)) * c.bat) = (((p + 1) * c.B : Nat) : Int) := by
    rw [w64_id (n := 1 + (p : Int)) (by omega) (by omega), ← hN.2.2.1, show (1 : Int) + p = ((p + 1 : Nat) : Int) by omega]
    have : (((p + 1 : Nat) : Int) * (c.B : Nat)) = (((p + 1) * c.B : Nat) : Int) := by simp
    rw [this, w64_id (by omega) (by omega)]
  have ep2 : w64 (w64 (w64 (1 + (p : Int)) + 1) * c.bat) = (((p + 2) * c.B : Nat) : Int) := by
    rw [w64_id (n := 1 + (p : Int)) (by omega) (by omega), w64_id (n := 1 + (p : Int) + 1) (by omega) (by omega), ← hN.2.2.1, show (1 : Int) + p + 1 = ((p + 2 : Nat) : Int) by omega]
    have : (((p + 2 : Nat) : Int) * (c.B : Nat)) = (((p + 2) * c.B : Nat) : Int) := by simp
    rw [this, w64_id (by omega) (by omega)]
  refine rd9 e5 (rdI e5 rfl ?_)
  rw [ep1]
  refine (shape_shape o (n := (p + 1) * c.B) (by omega) h5).mono ?_
  rintro _ h6 ⟨s1, rfl, o1, k6⟩
  have e6 := k6.get e5
  refine ⟨_, rfl, rd9 e6 (rdI e6 rfl ?_)⟩
  rw [ep2]
  refine (shape_shape o (n := (p + 2) * c.B) (by omega) h6).mono ?_
  rintro _ h7 ⟨s2, rfl, o2, k7⟩
  have e7 := k7.get e6
  refine ⟨_, rfl, rd9 e7 (rdI e7 rfl ?_)⟩
  have sB := shape_shape o (n := c.B) (by omega) h7
  rw [hN.2.2.1] at sB
  refine sB.mono ?_
  rintro _ h8 ⟨s3, rfl, o3, k8⟩
  have e8 := k8.get e7
  have l1 := o1.len; have l2 := o2.len; have l3 := o3.len
  have hl1 := shape_len (t := 3) (L := L) hB (p + 1)
  have hl2 := shape_len (t := 3) (L := L) hB (p + 2)
  have hl3 := shape_pos o hB
  have hl4 : (shapeL c 3 L c.B).length ≤ 1200000000 * c.B := by unfold shapeL; rw [List.length_map]; exact tr_len o _ _
  have r1 := (o1.rd.keep evc3 k7).keep evc3 k8
  have r2 := o2.rd.keep evc3 k8
  have r3 := o3.rd
  generalize hone : (shapeL c 3 L c.B).length = one at l3 hl1 hl2 hl3 hl4
  have hm1 : (p + 1) * one ≤ 2 * one := Nat.mul_le_mul_right _ (by omega)
  have hm2 : (p + 2) * one ≤ 3 * one := Nat.mul_le_mul_right _ (by omega)
  have hm3 : (p + 1) * one ≤ (p + 2) * one := Nat.mul_le_mul_right _ (by omega)
  have w1 : w64 (1 + (p : Int)) = ((p + 1 : Nat) : Int) := by rw [w64_id (by omega) (by omega)]; omega
  have w2 : w64 (w64 (1 + (p : Int)) + 1) = ((p + 2 : Nat) : Int) := by rw [w1, w64_id (by omega) (by omega)]; omega
  have w3 : w64 (w64 (1 + (p : Int)) * (s3.len : Int)) = (((p + 1) * one : Nat) : Int) := by
    rw [w1, l3]
    have : (((p + 1 : Nat) : Int) * (one : Nat)) = (((p + 1) * one : Nat) : Int) := by simp
    rw [this, w64_id (by omega) (by omega)]
  have w4 : w64 (w64 (w64 (1 + (p : Int)) + 1) * (s3.len : Int)) = (((p + 2) * one : Nat) : Int) := by
    rw [w2, l3]
    have : (((p + 2 : Nat) : Int) * (one : Nat)) = (((p + 2) * one : Nat) : Int) := by simp
    rw [this, w64_id (by omega) (by omega)]
  refine ⟨_, rfl, ifB_neg rfl ?_⟩
  rw [w3, w4]
  refine (ifB_nif (decide_eq_true (by omega)) (ifB_nif (decide_eq_true (by omega)) (ifB_neg (by rw [cond_false, decide_eq_false (by omega)]) ?_)))
  have k08 := (k4.trans k5).trans (k6.trans (k7.trans k8))
  refine ⟨fun q x a b d i h9 k => q = ⟨b1, 0⟩ ∧ x = ((p + 1 : Nat) : Int) ∧ s1 = a ∧ s2 = b ∧ s3 = d ∧ h8 = h9 ∧ ∃ j : Nat, i = j ∧ j ≤ (p + 2) * one ∧ k = (p + 2) * one - j, ⟨_, rfl, w1, rfl, rfl, rfl, rfl, 0, rfl, Nat.zero_le _, rfl⟩, ?_⟩
  rintro q x a b d i h9 k ⟨rfl, rfl, rfl, rfl, rfl, rfl, j, rfl, hj, rfl⟩
  have hmodj := Nat.mod_lt j hl3
  have em : (j : Int).tmod (s3.len : Int) = ((j % one : Nat) : Int) := by rw [l3]; rfl
  have h3e : j % one < (shapeL c 3 L c.B).length := by omega
  refine ifD (fun hlt => ?_) fun hge => ?_
  · have h2e : j < (shapeL c 3 L ((p + 2) * c.B)).length := by omega
    have v2 := shape_at (t := 3) (L := L) hB (p + 2) j h2e (by rw [hone]; exact hmodj)
    have step : ∃ k3, k3 < (p + 2) * one - j ∧ (⟨b1, 0⟩ : Pt) = ⟨b1, 0⟩ ∧ ((p + 1 : Nat) : Int) = ((p + 1 : Nat) : Int) ∧ s1 = s1 ∧ s2 = s2 ∧ s3 = s3 ∧ h8 = h8 ∧ ∃ j' : Nat, w64 ((j : Int) + 1) = j' ∧ j' ≤ (p + 2) * one ∧ k3 = (p + 2) * one - j' :=
      ⟨_, by omega, rfl, rfl, rfl, rfl, rfl, rfl, j + 1, w64_id (by omega) (by omega), by omega, rfl⟩
    have last : ∃ q4, s2.q = some q4 ∧ (0 : Int) ≤ (j : Int) ∧ (j : Int) + 1 ≤ (s2.len : Int) ∧ (∃ n47, hcell h8 q4.b (q4.o + (j : Int).toNat * 3) = some (.int .i64 n47) ∧ ∃ n48, hcell h8 q4.b (q4.o + (j : Int).toNat * 3 + 1) = some (.int .i64 n48) ∧ ∃ t4, hcell h8 q4.b (q4.o + (j : Int).toNat * 3 + 1 + 1) = some (.bool t4) ∧ ((s3.len : Int) = 0 → False) ∧ ∃ q5, s3.q = some q5 ∧ 0 ≤ (j : Int).tmod (s3.len : Int) ∧ (j : Int).tmod (s3.len : Int) + 1 ≤ (s3.len : Int) ∧ ∃ n49, hcell h8 q5.b (q5.o + ((j : Int).tmod (s3.len : Int)).toNat * 3) = some (.int .i64 n49) ∧ ∃ n50, hcell h8 q5.b (q5.o + ((j : Int).tmod (s3.len : Int)).toNat * 3 + 1) = some (.int .i64 n50) ∧ ∃ t5, hcell h8 q5.b (q5.o + ((j : Int).tmod (s3.len : Int)).toNat * 3 + 1 + 1) = some (.bool t5) ∧ n47 = n49 ∧ n48 = n50 ∧ t4 = t5) := by
      refine r2.ix evc3 h2e fun q4 hq4 hr4 => ?_
      have g4 := evc_rd hr4
      refine ⟨_, g4.1, _, g4.2.1, _, g4.2.2, fun e => absurd e (by omega), ?_⟩
      rw [em]
      refine r3.ix evc3 h3e fun q5 hq5 hr5 => ?_
      have g5 := evc_rd hr5
      refine ⟨_, g5.1, _, g5.2.1, _, g5.2.2, ?_⟩
      rw [v2]
      simp only [hone]
      exact ⟨trivial, trivial, trivial⟩
    refine ifD (fun hin => ?_) fun hout => ?_
    · have h1e : j < (shapeL c 3 L ((p + 1) * c.B)).length := by omega
      have v1 := shape_at (t := 3) (L := L) hB (p + 1) j h1e (by rw [hone]; exact hmodj)
      refine r2.ix evc3 h2e fun q4 hq4 hr4 => ?_
      have g4 := evc_rd hr4
      refine ⟨_, g4.1, _, g4.2.1, _, g4.2.2, ?_⟩
      refine r1.ix evc3 h1e fun q5 hq5 hr5 => ?_
      have g5 := evc_rd hr5
      refine ⟨_, g5.1, _, g5.2.1, _, g5.2.2, ifB_neg ?_ ?_⟩
      · rw [v1, v2]; simp
      · obtain ⟨a1, a2, a3, a4, n1, a5, n2, a6, n3, a7, a8, a9, a10, a11, a12, n4, a13, n5, a14, n6, a15, rfl, rfl, rfl⟩ := last
        exact ⟨a1, a2, a3, a4, n1, a5, n2, a6, n3, a7, a8, a9, a10, a11, a12, _, a13, _, a14, _, a15, ifB_neg (by simp) step⟩
    · obtain ⟨a1, a2, a3, a4, n1, a5, n2, a6, n3, a7, a8, a9, a10, a11, a12, n4, a13, n5, a14, n6, a15, rfl, rfl, rfl⟩ := last
      exact ⟨a1, a2, a3, a4, n1, a5, n2, a6, n3, a7, a8, a9, a10, a11, a12, _, a13, _, a14, _, a15, ifB_neg (by simp) step⟩
  · refine rd9 e8 (rdI e8 rfl (rd9 e8 (rdI e8 rfl ?_)))
    have ep3 : w64 (((p + 1 : Nat) : Int) * c.bat) = (((p + 1) * c.B : Nat) : Int) := by rw [← ep1, w1]
    rw [ep3]
    refine (shape_ways o _).to fun h10 k10 => ⟨_, rfl, ?_⟩
    have e10 := k10.get e8
    refine ⟨⟨rd1 e10 rfl, trivial⟩, ⟨rd1 e10 rfl, rd1 e10 rfl, rd1 e10 rfl, rd1 e10 rfl, rd1 e10 rfl, rd1 e10 rfl, rd1 e10 rfl, rd1 e10 rfl, rd1 e10 rfl, trivial⟩, ?_⟩
    refine (shape_ways o _).to fun h11 k11 => ⟨_, rfl, ?_⟩
    have hu : usedN c c.B * L ≤ (16 * 37 + 16 * 144) * 4 := by
      refine Nat.mul_le_mul ?_ o.L.2
      unfold usedN
      exact Nat.add_le_add (Nat.mul_le_mul (by omega) (by omega)) (Nat.mul_le_mul (Nat.le_trans (Nat.div_le_self _ _) (by omega)) (by omega))
    have hu1 : (p + 1) * (usedN c c.B * L) ≤ 2 * ((16 * 37 + 16 * 144) * 4) := Nat.mul_le_mul (by omega) hu
    refine ifB_pos (decide_eq_true ?_) ?_
    · rw [waysI_is o (n := (p + 1) * c.B) (by omega), ← hN.2.2.1, waysI_is o (n := c.B) (by omega), used_mul hB]
      have : (((p + 1 : Nat) : Int) * ((usedN c c.B * L : Nat) : Int)) = (((p + 1) * (usedN c c.B * L) : Nat) : Int) := by simp
      rw [this, w64_id (by omega) (by omega), Nat.mul_assoc]
    · refine rd9 (k11.get e10) ?_
      refine (shape_shape o (n := 0) (by omega) h11).mono ?_
      rintro _ h12 ⟨s4, rfl, o4, k12⟩
      have l4 := o4.len
      rw [shape_zero] at l4
      refine ⟨_, rfl, ?_, k08.trans (k10.trans (k11.trans k12))⟩
      rw [cond_true, decide_eq_true (by simp at l4; omega)]
end Go.Proofs.Tryz

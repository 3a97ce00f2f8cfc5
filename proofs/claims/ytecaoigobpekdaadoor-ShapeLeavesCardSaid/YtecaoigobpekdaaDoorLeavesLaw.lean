/- ShapeLeaves: the leaves of words are within their levels, one level behind the other. -/
import Derived.Test.YtecaoigobpekdaaDoorLeaves
import Derived.Test.YtecaoigobpekdaaDoorMade
namespace Go.Proofs.Tryd
open Go Go.Sh Go.RowKit
set_option maxRecDepth 8000

theorem leavesL_get (ws : List UInt64) (t L : Nat) (ats : List Int) (n i : Nat) (h : i < (leavesL ws t L ats n).length) : (leavesL ws t L ats n)[i] = lwI (ws.getD (ats.getD i 0).toNat 0) (lfE t L i) := by simp [leavesL]
theorem lwI_bds (x : UInt64) (e : Nat) : 0 ≤ lwI x e ∧ lwI x e < 2 ^ e := by
  unfold lwI
  have := Nat.mod_lt x.toNat (Nat.pow_pos (n := e) (show 0 < 2 by decide))
  have e2 : ((2 ^ e : Nat) : Int) = 2 ^ e := by simp
  omega
theorem iv_is (n : Int) : iv n = .int .i64 n := rfl

theorem shapeLeaves_law {h : Hp} {n : Int} (hn : i64 n) {x y : Sl} {ws : List UInt64} {ats : List Int} (rx : RdS vu h x ws) (ry : RdS iv h y ats) (hy : ∀ a ∈ ats, i64 a) :
    callK prog 3 [.int .i64 n, vs x, vs y] h fun v h' => v = .bool true ∧ Keep h h' := by
  refine c3 n x y ?_
  unfold G3
  refine law_shown.to fun h1 k1 => ⟨_, rfl, ifB_neg rfl (ifB_intro (fun _ => ⟨rfl, k1⟩) fun hl => ifB_intro (fun _ => ⟨rfl, k1⟩) fun _ => ?_)⟩
  have ly := ry.len
  have hl60 : ats.length ≤ 60 := by simp at hl; omega
  have o := madeC_ok n
  have hLb := madeL_bds n
  generalize hL : madeL n = L at o hLb
  refine (law_made hn).to fun h2 k2 => ⟨_, _, _, _, _, _, _, _, _, rfl, newC fun b1 h3 f3 e3 k3 => ?_⟩
  generalize hc : madeC n = c at o
  have k03 := (k1.trans k2).trans k3
  have f0 : h b1 = none := k1.free (k2.free f3)
  refine stW k03 f0 e3 rfl fun h4 k4 e4 _ => ?_
  refine ⟨fun s1 s2 q s3 i h5 k => s1 = x ∧ s2 = y ∧ q = ⟨b1, 0⟩ ∧ ∃ j : Nat, i = j ∧ j ≤ y.len ∧ OwnS iv h h5 s3 ((ats.take j).map fun a => pk a 80) ∧ (∀ p, s3.q = some p → b1 ≠ p.b) ∧ h5 b1 = h4 b1 ∧ Keep h h5 ∧ k = y.len - j,
    ⟨_, rfl, rfl, rfl, 0, rfl, Nat.zero_le _, OwnS.nilS _ _ _, (fun p hp => by cases hp), rfl, k4, rfl⟩, ?_⟩
  rintro s1 s2 q s3 i h5 k ⟨rfl, rfl, rfl, j, rfl, hj, oj, bn, eb, k5, rfl⟩
  have e5 : h5 b1 = some (.cells #[.int .i64 c.cap, .int .i64 c.bat, .int .i64 c.kic, .int .i64 c.spi, .int .i64 c.tab, .int .i64 c.slo, .int .i64 c.sta, .int .i64 c.lev, .int .i64 c.pol] 26 (0, 0)) := by rw [eb, e4, ← hc]
  refine ifD (fun hlt => ?_) fun hge => ?_
  · have hj' : j < ats.length := by omega
    refine (ry.keep k5).ix hj' fun p _ hcj => ⟨_, hcj, ?_⟩
    refine (law_pick (hy _ (List.getElem_mem hj')) (by omega)).to fun h6 k6 => ⟨_, rfl, ?_⟩
    refine OwnS.push' rtI iv_one (oj.keep k6) (pk ats[j] 80) (fun b hb => k5.free (k6.free hb)) (by simp; omega) (by decide) ?_
    intro s' h7 o7 f7 w7 fr7
    refine ⟨_, ?_, rfl, rfl, rfl, j + 1, w64_id (by omega) (by omega), by omega, ?_, fun p hp e => ?_, ?_, fun b hb => ?_, rfl⟩
    · omega
    · have : ats.take (j + 1) = ats.take j ++ [ats[j]] := by rw [List.take_append_getElem hj']
      rw [this, List.map_append]; exact o7
    · rcases w7 p hp with ⟨p0, hp0, h⟩ | h
      · exact bn p0 hp0 (e.trans h)
      · rw [← e, k6.get e5] at h; cases h
    · rw [f7 b1 (by rw [k6.get e5]; simp) (fun p hp => bn p hp), k6 b1 (by rw [e5]; simp), eb]
    · have hb5 : h5 b ≠ none := by rw [k5 b hb]; exact hb
      rw [f7 b (by rw [k6 b hb5]; exact hb5) (fun p hp e => hb (e ▸ (oj.blk hp).1)), k6 b hb5, k5 b hb]
  · have hjl : j = ats.length := by omega
    subst hjl
    rw [List.take_length] at oj
    have rj := oj.rd
    have lj := rj.len
    simp only [List.length_map] at lj
    have hL0 : c.lev = L := o.lev
    have hL1 := o.L
    obtain ⟨m, hm⟩ : ∃ m : Nat, m = ats.length / L * L := ⟨_, rfl⟩
    have hml : m ≤ ats.length := by rw [hm]; exact Nat.div_mul_le_self _ _
    have hmL : m % L = 0 := by rw [hm]; exact Nat.mul_mod_left _ _
    have ew : w64 (w64 ((s3.len : Int).tdiv c.lev) * c.lev) = (m : Int) := by
      have h1 : ats.length / L ≤ ats.length := Nat.div_le_self _ _
      obtain ⟨d, hd⟩ : ∃ d, d = ats.length / L := ⟨_, rfl⟩
      have e1 : (s3.len : Int).tdiv c.lev = (d : Int) := by rw [hL0, lj, hd]; rfl
      rw [← hd] at h1 hm
      have e2 : (d : Int) * (L : Int) = (m : Int) := by rw [hm]; simp
      rw [e1, w64_id (n := (d : Int)) (by omega) (by omega), hL0, e2, w64_id (by omega) (by omega)]
    refine rdI e5 rfl ⟨by omega, rdI e5 rfl ?_⟩
    rw [ew]
    refine ⟨by omega, by have := rj.cap; omega, rd9 e5 ?_⟩
    simp only [Int.toNat_natCast]
    have rk := rj.takeS (n := m) (by simp; omega)
    have hkk : ∀ a ∈ (ats.map fun a => pk a 80).take m, 0 ≤ a := fun a ha => by
      obtain ⟨z, _, rfl⟩ := List.mem_map.1 (List.mem_of_mem_take ha)
      exact (pk_bds (by omega)).1
    have hkl : ((ats.map fun a => pk a 80).take m).length = m := by simp; omega
    generalize (ats.map fun a => pk a 80).take m = kk at rk hkk hkl
    generalize (⟨slPt s3.p 0 s3.cap 1, m - 0, s3.cap - 0, slZ s3.z 0 s3.cap 1⟩ : Sl) = sk at rk
    refine (shape_Leaves o (rx.keep k5) rk (by omega)).mono ?_
    rintro _ h6 ⟨s5, rfl, k6, ha, _⟩
    have oa := ha hkk
    have e6 := k6.get e5
    refine ⟨_, rfl, rd9 e6 ?_⟩
    refine OwnS.copy rtI iv_one (rk.keep k6) (by omega) (by decide) ?_
    intro s6 h7 o7 k7
    have e7 := k7.get e6
    refine ⟨⟨rd1 e7 rfl, rd1 e7 rfl, rd1 e7 rfl, rd1 e7 rfl, rd1 e7 rfl, rd1 e7 rfl, rd1 e7 rfl, rd1 e7 rfl, rd1 e7 rfl, trivial⟩, ?_⟩
    have k67 := k6.trans k7
    refine OwnS.app rtI iv_one o7 (rk.keep k67) (fun b hb => k7.free hb) (by omega) (by decide) ?_
    intro s7 h8 o8 f8 w8 fr8
    have k68 : Keep h6 h8 := fun b hb => by
      rw [f8 b (by rw [k7 b hb]; exact hb) (fun p hp e => hb (e ▸ (o7.blk hp).1)), k7 b hb]
    have e8 := k68.get e6
    refine ⟨⟨rd1 e8 rfl, rd1 e8 rfl, rd1 e8 rfl, rd1 e8 rfl, rd1 e8 rfl, rd1 e8 rfl, rd1 e8 rfl, rd1 e8 rfl, rd1 e8 rfl, trivial⟩, ?_⟩
    have k58 := k6.trans k68
    refine (shape_Leaves o (rx.keep (k5.trans k58)) o8.rd (by simp; omega)).mono ?_
    rintro _ h9 ⟨s8, rfl, k9, hb, _⟩
    have ob := hb (fun a ha => by rcases List.mem_append.1 ha with h | h <;> exact hkk a h)
    have k59 := k58.trans k9
    have ra : RdS iv h9 s5 (leavesL ws 3 L kk kk.length) := (oa.keep (k68.trans k9)).rd
    have rb : RdS iv h9 s8 (leavesL ws 3 L (kk ++ kk) (kk ++ kk).length) := ob.rd
    have la := ra.len; have lb := rb.len
    rw [leavesL_length] at la lb
    simp only [List.length_append] at lb
    have skl := rk.len
    refine ⟨_, rfl, ifN (fun e => absurd (by omega) e) fun _ => ifB_neg (by simp; rw [w64_id (by omega) (by omega)]; omega) ?_⟩
    have e9 := k59.get e5
    refine ⟨fun t1 q3 t2 t3 t4 i h10 k => t1 = s1 ∧ q3 = ⟨b1, 0⟩ ∧ t2 = sk ∧ t3 = s5 ∧ t4 = s8 ∧ ∃ j : Nat, i = j ∧ Keep h9 h10 ∧ k = s8.len - j, ⟨_, rfl, rfl, rfl, rfl, rfl, 0, rfl, Keep.refl _, rfl⟩, ?_⟩
    rintro t1 q3 t2 t3 t4 i h10 k ⟨rfl, rfl, rfl, rfl, rfl, j, rfl, k10, rfl⟩
    have e10 := k10.get e9
    refine ifD (fun hlt => ?_) fun _ => ?_
    · have hjb : j < (leavesL ws 3 L (kk ++ kk) (kk ++ kk).length).length := by rw [leavesL_length]; simp; omega
      have hm0 : 0 < m := by omega
      have hja : j % m < (leavesL ws 3 L kk kk.length).length := by rw [leavesL_length, hkl]; exact Nat.mod_lt _ hm0
      refine rd9 (b := b1) e10 (rdI (b := b1) e10 rfl (rdI (b := b1) e10 rfl ⟨by omega, ?_⟩))
      refine (law_as c).to fun h11 k11 => ⟨_, _, _, _, _, _, _, _, _, rfl, ?_⟩
      have e11 := k11.get e10
      refine ⟨⟨rd1 e11 rfl, trivial⟩, ⟨rd1 e11 rfl, trivial⟩, ?_⟩
      refine (ref_store o).to fun h12 k12 => ⟨_, _, _, _, rfl, ?_⟩
      have e12 := k12.get e11
      refine ⟨⟨rd1 e12 rfl, trivial⟩, ⟨rd1 e12 rfl, trivial⟩, ?_⟩
      have hmj := Nat.mod_lt j (show L > 0 by omega)
      have ei : w64 (w64 (c.lev - 1) - (j : Int).tmod c.lev) = ((L - 1 - j % L : Nat) : Int) := by
        have et : (j : Int).tmod c.lev = ((j % L : Nat) : Int) := by rw [hL0]; rfl
        rw [et, hL0, w64_id (n := (L : Int) - 1) (by omega) (by omega), w64_id (by omega) (by omega)]; omega
      rw [ei]
      refine (ref_blocks o.st (L - 1 - j % L) (by omega)).to fun h13 k13 => ⟨_, rfl, ?_⟩
      have kk13 := (k10.trans k11).trans (k12.trans k13)
      have rb' := rb.keep kk13
      have ra' := ra.keep kk13
      have gb := leavesL_get ws 3 L (kk ++ kk) (kk ++ kk).length j hjb
      have ga := leavesL_get ws 3 L kk kk.length (j % m) hja
      have hbd := lwI_bds (ws.getD ((kk ++ kk).getD j 0).toNat 0) (lfE 3 L j)
      have same : (leavesL ws 3 L (kk ++ kk) (kk ++ kk).length)[j] = (leavesL ws 3 L kk kk.length)[j % m] := by
        rw [gb, ga]
        have h1 : lfE 3 L j = lfE 3 L (j % m) := by
          unfold lfE
          rw [Nat.mod_mod_of_dvd _ (Nat.dvd_of_mod_eq_zero hmL)]
        have h2 : (kk ++ kk).getD j 0 = kk.getD (j % m) 0 := by
          have hj2 : j < m + m := by omega
          simp only [List.getD_eq_getElem?_getD]
          rcases Nat.lt_or_ge j m with h | h
          · rw [Nat.mod_eq_of_lt h, List.getElem?_append_left (by omega)]
          · rw [List.getElem?_append_right (by omega), hkl, Nat.mod_eq_sub_mod h, Nat.mod_eq_of_lt (by omega)]
        rw [h1, h2]
      rw [← gb] at hbd
      refine rb'.ix hjb fun p _ hc1 => ⟨_, hc1, ifD (fun e => absurd hbd.1 (by omega)) fun _ => ?_⟩
      refine rb'.ix hjb fun p _ hc2 => ⟨_, hc2, ifB_neg (show (bif false then true else decide _) = false from decide_eq_false (Int.not_le.2 hbd.2)) ?_⟩
      refine rb'.ix hjb fun p _ hc3 => ⟨_, hc3, by omega, ?_⟩
      have ej : (j : Int).tmod (t3.len : Int) = ((j % m : Nat) : Int) := by rw [la, hkl]; rfl
      rw [ej]
      refine ra'.ix hja fun p _ hc4 => ⟨_, hc4, ifB_neg (by show (!decide _) = false; rw [decide_eq_true same]; rfl) ⟨_, ?_, rfl, rfl, rfl, rfl, rfl, j + 1, w64_id (by omega) (by omega), kk13, rfl⟩⟩
      omega
    · refine rd9 (b := b1) e10 ?_
      have k5a := k59.trans k10
      refine OwnS.copy rtI iv_one (rk.keep k5a) (by omega) (by decide) ?_
      intro s13 h11 o11 k11
      have e11 := k11.get e10
      refine ⟨⟨rd1 e11 rfl, rd1 e11 rfl, rd1 e11 rfl, rd1 e11 rfl, rd1 e11 rfl, rd1 e11 rfl, rd1 e11 rfl, rd1 e11 rfl, rd1 e11 rfl, trivial⟩, ?_⟩
      refine OwnS.push' rtI iv_one o11 (-1) (fun b hb => k11.free hb) (by omega) (by decide) ?_
      intro s14 h12 o12 f12 w12 fr12
      have k12 : Keep h10 h12 := fun b hb => by
        rw [f12 b (by rw [k11 b hb]; exact hb) (fun p hp e => hb (e ▸ (o11.blk hp).1)), k11 b hb]
      have e12 := k12.get e10
      refine ⟨⟨rd1 e12 rfl, rd1 e12 rfl, rd1 e12 rfl, rd1 e12 rfl, rd1 e12 rfl, rd1 e12 rfl, rd1 e12 rfl, rd1 e12 rfl, rd1 e12 rfl, trivial⟩, ?_⟩
      refine (shape_Leaves o (rx.keep (k5.trans (k5a.trans k12))) o12.rd (by simp; omega)).mono ?_
      rintro _ h13 ⟨s15, rfl, k13, _, hz⟩
      have := hz ⟨-1, by simp, by omega⟩
      exact ⟨_, rfl, by rw [this]; rfl, k5.trans (k5a.trans (k12.trans k13))⟩
end Go.Proofs.Tryd

/- ShapeTraces: how many ways, all looks by the ways, and the shape, are as the chapter says. -/
import Derived.Test.YtecaoigobpekdaaGreatDoorRefTr
import Derived.Test.YtecaoigobpekdaaGreatDoorWithin
namespace Go.Proofs.Tryz
open Go Go.Sh Go.RowKit
set_option maxRecDepth 8000
set_option maxHeartbeats 4000000

theorem logN_one : logN 1 = 0 := by rfl
theorem logN_half {m : Nat} (h : 2 ≤ m) (hm : m < 2 ^ 64) : logN m = logN (m / 2) + 1 := by
  have h1 := Lib.bitLen_shift 1 m (by simpa using h) hm
  have h3 : 0 < m / 2 := by omega
  have h2 : 1 ≤ Lib.bitLen (m / 2) := by
    have := lt_bitLenAux 64 (m / 2) (by omega)
    have e : Lib.bitLen (m / 2) = Lib.bitLenAux 64 (m / 2) := rfl
    rw [e]
    rcases Nat.eq_zero_or_pos (Lib.bitLenAux 64 (m / 2)) with h | h
    · rw [h] at this; omega
    · exact h
  simp only [Nat.pow_one] at h1
  unfold logN
  omega
section
variable {c : Cfg} {t L : Nat}
theorem ref_erase (o : c.Ok t L) {h : Hp} {s : Sl} {l : List Ev} (r : RdM evc h s l) (hl : l.length ≤ 1000000000000) (hb : ∀ e ∈ l, EvB e) :
    callK prog 35 [c.v, vs s] h fun v h' => ∃ s', v = vs s' ∧ OwnM 3 evc h h' s' (l.map (erE c)) ∧ Keep h h' := by
  have hslo := o.slo; have hL := o.L; have hlev := o.lev
  refine c35 _ _ _ _ _ _ _ _ _ s ?_
  unfold G35
  refine newC fun b1 h1 f1 e1 k1 => newC fun b2 h2 f2 e2 k2 => ?_
  have o0 : OwnM 3 evc h1 h2 ⟨some ⟨b2, 0⟩, 0, 0, none⟩ [] := OwnM.newE evc3 f2 e2 rfl rfl
  refine OwnM.app rtE evc3 evc_one (l := []) o0 (r.keep evc3 (k1.trans k2)) (fun x hx => k2.free hx) (by simp; omega) (by decide) ?_
  intro s1 h3 o1 f3 _ _
  rw [List.nil_append] at o1
  have k3 : Keep h1 h3 := keep_app o0 k2 f3
  refine rd9 (k3.get e1) ?_
  refine (ref_cright o).to fun h3' k3' => ⟨_, rfl, ifB_neg rfl ?_⟩
  have l1 := o1.len
  have o3 := o1.keep k3'
  have e13 := (k3.trans k3').get e1
  have ne0 : ∀ p, s1.q = some p → p.b ≠ b1 := fun p hp e => by
    have := (o1.blk hp).1
    rw [e, e1] at this; cases this
  refine ⟨fun q s2 i h4 k => q = ⟨b1, 0⟩ ∧ s1 = s2 ∧ ∃ j : Nat, i = j ∧ j ≤ l.length ∧ OwnM 3 evc h1 h4 s1 ((l.take j).map (erE c) ++ l.drop j) ∧ h4 b1 = h3' b1 ∧ Keep h1 h4 ∧ k = l.length - j,
    ⟨_, rfl, rfl, 0, rfl, Nat.zero_le _, by simpa using o3, rfl, k3.trans k3', rfl⟩, ?_⟩
  rintro q s2 i h4 k ⟨rfl, rfl, j, rfl, hj, oj, eb, k4, rfl⟩
  have e4 : h4 b1 = some (.cells #[.int .i64 c.cap, .int .i64 c.bat, .int .i64 c.kic, .int .i64 c.spi, .int .i64 c.tab, .int .i64 c.slo, .int .i64 c.sta, .int .i64 c.lev, .int .i64 c.pol] 28 (0, 0)) := by rw [eb]; exact e13
  refine ifD (fun hlt => ?_) fun hge => ?_
  · have hj' : j < l.length := by omega
    have hjj : j < ((l.take j).map (erE c) ++ l.drop j).length := by simp; omega
    have hgj : ((l.take j).map (erE c) ++ l.drop j)[j] = l[j] := by
      rw [List.getElem_append_right (by simp; omega)]
      simp [Nat.min_eq_left hj]
    have hset : ∀ x, ((l.take j).map (erE c) ++ l.drop j).set j x = (l.take j).map (erE c) ++ x :: l.drop (j + 1) := fun x => by
      rw [List.set_append_right _ _ (by simp; omega)]
      simp only [List.length_map, List.length_take, Nat.min_eq_left hj, Nat.sub_self]
      rw [List.drop_eq_getElem_cons hj', List.set_cons_zero]
    have htk : ∀ x, x = erE c l[j] → (l.take (j + 1)).map (erE c) ++ l.drop (j + 1) = (l.take j).map (erE c) ++ x :: l.drop (j + 1) := fun x hx => by
      rw [← List.take_append_getElem hj', List.map_append, List.append_assoc, hx]; rfl
    have hev := hb _ (List.getElem_mem hj')
    have cell := fun {K : Pt → Prop} (hk : ∀ q : Pt, s1.q = some q → hcell h4 q.b (q.o + j * 3) = some (.int .i64 (((l.take j).map (erE c) ++ l.drop j)[j]).r) ∧ hcell h4 q.b (q.o + j * 3 + 1) = some (.int .i64 (((l.take j).map (erE c) ++ l.drop j)[j]).a) → K q) => oj.rd.ix evc3 hjj (K := K) fun q hq hr => hk q hq ⟨(evc_rd hr).1, (evc_rd hr).2.1⟩
    obtain ⟨e, he⟩ : ∃ e, e = l[j] := ⟨_, rfl⟩
    have hes : ((l.take j).map (erE c) ++ l.drop j)[j] = e := by rw [hgj, he]
    rw [hes] at cell
    rw [← he] at hev htk
    obtain ⟨er, ea, ew⟩ := e
    obtain ⟨v1, v2, v3, v4⟩ := hev
    simp only at v1 v2 v3 v4 cell
    have w1 : w64 (er - 4) = er - 4 := w64_id (by omega) (by omega)
    have skip : erE c ⟨er, ea, ew⟩ = ⟨er, ea, ew⟩ → ∃ k3, k3 < l.length - j ∧ (⟨b1, 0⟩ : Pt) = ⟨b1, 0⟩ ∧ s1 = s1 ∧ ∃ j' : Nat, w64 ((j : Int) + 1) = j' ∧ j' ≤ l.length ∧ OwnM 3 evc h1 h4 s1 ((l.take j').map (erE c) ++ l.drop j') ∧ h4 b1 = h3' b1 ∧ Keep h1 h4 ∧ k3 = l.length - j' := fun hsk => by
      refine ⟨_, ?_, rfl, rfl, j + 1, w64_id (by omega) (by omega), by omega, ?_, eb, k4, rfl⟩
      · omega
      · rw [htk _ hsk.symm]
        have : (l.take j).map (erE c) ++ (⟨er, ea, ew⟩ : Ev) :: l.drop (j + 1) = (l.take j).map (erE c) ++ l.drop j := by rw [List.drop_eq_getElem_cons hj', ← he]
        rw [this]; exact oj
    refine cell fun q _ g => ⟨_, g.1, ?_⟩
    rw [w1]
    refine ifD (fun h => skip (by simp only [erE]; rw [if_pos (.inl h)])) fun hc1 => ⟨by decide, ?_⟩
    have er3 : (er - 4).tdiv 3 = w64 ((er - 4).tdiv 3) := by
      have h2 := tdiv_bds (a := er - 4) (b := 3) (by omega) (by omega)
      rw [w64_id (by omega) (by omega)]
    have tm3 : 0 ≤ (er - 4).tmod 3 := Int.tmod_nonneg _ (by omega)
    refine ifB_intro (fun h => skip (by
      have h' : (er - 4).tmod 3 ≠ 0 := by simpa using h
      simp only [erE]; rw [if_pos (.inr (.inl (by omega)))])) fun hc2 => ⟨by decide, rdI e4 rfl (ifB_intro (fun h => skip (by
      have h' : c.lev ≤ (er - 4).tdiv 3 := by rw [er3]; simpa using h
      simp only [erE]; rw [if_pos (.inr (.inr (.inl h')))])) fun hc3 => ?_)⟩
    have hc2' : (er - 4).tmod 3 = 0 := by simpa using hc2
    have hc3' : ¬ c.lev ≤ (er - 4).tdiv 3 := by rw [er3]; simpa using hc3
    refine cell fun q3 _ g3 => ⟨_, g3.2, ifB_neg (by simp; omega) ?_⟩
    refine cell fun q4 _ g4 => ⟨_, g4.2, rdI e4 rfl ⟨by omega, ?_⟩⟩
    have td := tdiv_bds v3 hslo.1
    rw [w64_id (n := ea.tdiv c.slo) (by omega) (by omega)]
    have hx : (toU (ea.tdiv c.slo) + 1).toNat = (ea.tdiv c.slo).toNat + 1 := by
      have e1 : ((toU (ea.tdiv c.slo)).toNat : Int) = ea.tdiv c.slo := toU_ok (by simp [uok]; omega)
      rw [UInt64.toNat_add]
      have : (1 : UInt64).toNat = 1 := rfl
      rw [this]; omega
    obtain ⟨M, hM⟩ : ∃ M, M = (ea.tdiv c.slo).toNat + 1 := ⟨_, rfl⟩
    rw [← hM] at hx
    have lg := logN_le (m := M) (k := 21) (by decide) (by simp; omega)
    refine ⟨fun q5 s3 n16 n17 x1 h6 k => q5 = ⟨b1, 0⟩ ∧ s1 = s3 ∧ n16 = j ∧ h4 = h6 ∧ ∃ d : Nat, n17 = d ∧ logN M = d + logN x1.toNat ∧ 1 ≤ x1.toNat ∧ x1.toNat ≤ M ∧ k = x1.toNat, ⟨_, rfl, rfl, rfl, rfl, 0, rfl, by rw [hx]; omega, by rw [hx]; omega, by rw [hx]; omega, rfl⟩, ?_⟩
    rintro q5 s3 n16 n17 x1 h6 k ⟨rfl, rfl, rfl, rfl, d, rfl, hlog, hx1, hxM, rfl⟩
    refine ifD (fun hgt => ?_) fun hle => ?_
    · have h2 : 2 ≤ x1.toNat := by have := UInt64.lt_iff_toNat_lt.1 hgt; have e : (1 : UInt64).toNat = 1 := rfl; omega
      have hdiv : (x1 / 2).toNat = x1.toNat / 2 := by rw [UInt64.toNat_div]; rfl
      have hh := logN_half h2 x1.toNat_lt
      refine ⟨by decide, _, ?_, rfl, rfl, rfl, rfl, d + 1, w64_id (by omega) (by omega), by rw [hdiv]; omega, by rw [hdiv]; omega, by rw [hdiv]; omega, rfl⟩
      rw [hdiv]; omega
    · have h1 : x1.toNat = 1 := by
        have : ¬ (1 : UInt64).toNat < x1.toNat := fun h => hle (UInt64.lt_iff_toNat_lt.2 h)
        have e : (1 : UInt64).toNat = 1 := rfl
        omega
      have hd : d = logN M := by rw [hlog, h1, logN_one]; omega
      subst hd
      refine rdI e4 rfl (cell fun q6 _ g6 => ⟨_, g6.2, rdI e4 rfl ⟨by omega, ?_⟩⟩)
      obtain ⟨p, hp⟩ := oj.rd.ptr (by omega)
      refine ⟨p, hp, by omega, by have := oj.rd.lenI; simp at this; omega, ?_⟩
      have tm : 0 ≤ ea.tmod c.slo ∧ ea.tmod c.slo < c.slo := ⟨Int.tmod_nonneg _ v3, Int.tmod_lt_of_pos _ (by omega)⟩
      have ml : (0 : Int) ≤ (logN M : Int) * c.slo ∧ (logN M : Int) * c.slo ≤ 21 * 8 := mul_nn (by omega) (by omega) (by omega) (by omega)
      rw [w64_id (n := (logN M : Int) * c.slo) (by omega) (by omega), w64_id (n := (logN M : Int) * c.slo + ea.tmod c.slo) (by omega) (by omega)]
      refine set_cell oj hp hjj _ fun ob ox => ?_
      rw [hes, hset] at ox
      refine ⟨_, ?_, rfl, rfl, j + 1, w64_id (by omega) (by omega), by omega, ?_, ?_, ?_, rfl⟩
      · omega
      · rw [htk _ (by simp only [erE]; rw [if_neg (by omega), ← hM])]; exact ox
      · rw [upd_ne _ _ fun e => ne0 p hp e.symm, eb]
      · intro b hb
        have hbp : b ≠ p.b := fun e => hb (e ▸ (oj.blk hp).1)
        rw [upd_ne _ _ hbp, k4 b hb]
  · have : j = l.length := by omega
    subst this
    refine ⟨s1, rfl, ?_, k1.trans k4⟩
    simp only [List.take_length, List.drop_length, List.append_nil] at oj
    exact oj.baseK k1
def shapeSpec (c : Cfg) (t L : Nat) (many : Int) : List Ev := if many < 0 then [] else shapeL c t L many.toNat
theorem shapeSpec_len (o : c.Ok t L) {many : Int} (hm : many ≤ 4) : (shapeSpec c t L many).length ≤ 1200000000 * 4 := by
  unfold shapeSpec
  split
  · simp
  · unfold shapeL
    rw [List.length_map]
    have := tr_len o (zerosL c L many.toNat) many.toNat; omega
theorem shape_shape_all (o : c.Ok t L) {many : Int} (hm : many ≤ 4) (h : Hp) : callK prog 19 [c.v, .int .i64 many] h fun v h' => ∃ s, v = vs s ∧ OwnM 3 evc h h' s (shapeSpec c t L many) ∧ Keep h h' := by
  by_cases h1 : many < 0
  · rw [shapeSpec, if_pos h1]
    refine c19 _ _ _ _ _ _ _ _ _ many ?_
    unfold G19
    exact newC fun b1 h1' f1 e1 k1 => ifB_pos (decide_eq_true h1) ⟨_, rfl, OwnM.nilS _ _ _ _, k1⟩
  · obtain ⟨n, rfl⟩ := Int.eq_ofNat_of_zero_le (show 0 ≤ many by omega)
    rw [shapeSpec, if_neg h1]
    exact shape_shape o (n := n) (by omega) h
theorem ref_shapeAll (o : c.Ok t L) {many : Int} (hm : many ≤ 4) (h : Hp) : callK prog 20 [c.v, .int .i64 many] h fun v h' => ∃ s, v = vs s ∧ OwnM 3 evc h h' s (shapeSpec c t L many) ∧ Keep h h' := by
  have hL := o.L; have hN := o.nats
  refine c20 _ _ _ _ _ _ _ _ _ many ?_
  unfold G20
  refine newC fun b1 h1 f1 e1 k1 => rd9 e1 ?_
  refine (ref_cright o).to fun h2 k2 => ⟨_, rfl, ifB_neg rfl (ifB_intro (fun hlt => ?_) fun hnn => ifB_neg (by simp; omega) ?_)⟩
  · have := of_decide_eq_true (show decide (many < 0) = true from hlt)
    rw [shapeSpec, if_pos this]
    exact ⟨_, rfl, OwnM.nilS _ _ _ _, k1.trans k2⟩
  have hm0 : ¬ many < 0 := of_decide_eq_false (show decide (many < 0) = false from hnn)
  obtain ⟨n, rfl⟩ := Int.eq_ofNat_of_zero_le (show 0 ≤ many by omega)
  rw [shapeSpec, if_neg hm0, Int.toNat_natCast]
  have hus : usedN c n ≤ 4 * 37 + 4 * 144 := by
    unfold usedN
    exact Nat.add_le_add (Nat.mul_le_mul (by omega) (by omega)) (Nat.mul_le_mul (Nat.le_trans (Nat.div_le_self _ _) (by omega)) (by omega))
  have husL : usedN c n * L ≤ (4 * 37 + 4 * 144) * 4 := Nat.mul_le_mul hus hL.2
  have e2 := k2.get e1
  refine rd9 e2 (rd9 e2 (rd9 e2 ?_))
  refine (ref_ways o n).to fun h3 k3 => ⟨_, rfl, ?_⟩
  have e3 := k3.get e2
  refine ⟨⟨rd1 e3 rfl, rd1 e3 rfl, rd1 e3 rfl, rd1 e3 rfl, rd1 e3 rfl, rd1 e3 rfl, rd1 e3 rfl, rd1 e3 rfl, rd1 e3 rfl, trivial⟩, ⟨rd1 e3 rfl, rd1 e3 rfl, rd1 e3 rfl, rd1 e3 rfl, rd1 e3 rfl, rd1 e3 rfl, rd1 e3 rfl, rd1 e3 rfl, rd1 e3 rfl, trivial⟩, ?_⟩
  have hwi := waysI_is o (n := n) (by omega)
  rw [hwi]
  refine ⟨by omega, by omega, by omega, by omega, newC fun b2 h4 f4 e4 k4 => ?_⟩
  simp only [Int.toNat_natCast] at e4 ⊢
  have oz : OwnS iv h3 h4 ⟨some ⟨b2, 0⟩, usedN c n * L, usedN c n * L, none⟩ (zerosL c L n) := by
    refine OwnS.newE f4 e4 ?_ (by simp [zerosL])
    have := zRow_one (v := Value.int .i64 0) (usedN c n * L) (usedN c n * L) rfl
    simp only [Nat.mul_one]
    refine this.trans ?_
    simp [zerosL, iv]
  have hz := zeros_ok (t + 2) c L n
  have htr : trSpec c t L n (zerosL c L n) = trEv c t L (zerosL c L n) n := by
    rw [trSpec, if_neg hm0, if_neg (by rw [hwi]; simp [zerosL]), if_pos hz, Int.toNat_natCast]
  refine (ref_trace o hm oz.rd).mono ?_
  rintro _ h5 ⟨s, rfl, os, k5⟩
  rw [htr] at os
  have e5 := (k4.trans k5).get e3
  refine ⟨_, rfl, ⟨rd1 e5 rfl, rd1 e5 rfl, rd1 e5 rfl, rd1 e5 rfl, rd1 e5 rfl, rd1 e5 rfl, rd1 e5 rfl, rd1 e5 rfl, rd1 e5 rfl, trivial⟩, ?_⟩
  have tl := tr_len o (zerosL c L n) n
  refine (ref_erase o os.rd (by omega) (allB_tr o hz n (by simp [zerosL]))).mono ?_
  rintro _ h6 ⟨s', rfl, os', k6⟩
  have kk := (k1.trans k2).trans (k3.trans (k4.trans k5))
  exact ⟨_, rfl, s', rfl, os'.baseK kk, kk.trans k6⟩
end
theorem shapeTraces_law {h : Hp} {n many : Int} (hn : i64 n) (hmany : i64 many) {sa : Sl} {la : List Int} (ra : RdS iv h sa la) (hla : i64L la) (fit : Bool) :
    callK prog 3 [.int .i64 n, .int .i64 many, vs sa, .bool fit] h fun v h' => v = .bool true ∧ Keep h h' := by
  refine c3 n many sa fit ?_
  unfold G3
  refine law_shown.to fun h1 k1 => ⟨_, rfl, ifB_neg rfl (ifB_intro (fun _ => ⟨rfl, k1⟩) fun ha => ifB_intro (fun _ => ⟨rfl, k1⟩) fun hb => ?_)⟩
  rw [cond_false] at ha hb
  have hm4 := of_decide_eq_false ha; have hb := of_decide_eq_false hb
  have hm : many ≤ 4 := by omega
  refine (law_made hn).to fun h2 k2 => ⟨_, _, _, _, _, _, _, _, _, rfl, newC fun b1 h3 f3 e3 k3 => ?_⟩
  have k03 := (k1.trans k2).trans k3
  have f0 : h b1 = none := k1.free (k2.free f3)
  refine stW k03 f0 e3 rfl fun h4 k4 e4 _ => ?_
  have hL := madeL_bds n
  have o := madeC_ok n
  have hN := o.nats
  obtain ⟨c, hc⟩ : ∃ c : Cfg, c = madeC n := ⟨_, rfl⟩
  have ec4 : h4 b1 = some (.cells #[.int .i64 c.cap, .int .i64 c.bat, .int .i64 c.kic, .int .i64 c.spi, .int .i64 c.tab, .int .i64 c.slo, .int .i64 c.sta, .int .i64 c.lev, .int .i64 c.pol] 25 (0, 0)) := by
    rw [e4, hc]
  rw [← hc] at o hN
  generalize madeL n = L at o hL
  clear e4 hc
  have hlev := o.lev
  have la1 := ra.len
  -- the end, whichever the ways are
  have last : ∀ {q : Pt} {h6 : Hp} {s : Sl} {l : List Int}, q = ⟨b1, 0⟩ → Keep h4 h6 → RdS iv h6 s l → ∀ {X : Prop}, (X → X) → True := fun _ _ _ _ _ => trivial
  refine OwnS.copy rtI iv_one (ra.keep k4) (by omega) (by decide) fun s1 h6 o6 k6 => ?_
  have e6 := k6.get ec4
  cases fit with
  | false =>
    refine ifB_neg rfl (rd9 e6 (rd9 e6 ?_))
    refine (shape_ways o many).to fun h29 k29 => ⟨_, rfl, ?_⟩
    have e29 := k29.get e6
    refine ⟨⟨rd1 e29 rfl, rd1 e29 rfl, rd1 e29 rfl, rd1 e29 rfl, rd1 e29 rfl, rd1 e29 rfl, rd1 e29 rfl, rd1 e29 rfl, rd1 e29 rfl, trivial⟩, ?_⟩
    refine (law_as c).to fun h30 k30 => ⟨_, _, _, _, _, _, _, _, _, rfl, ?_⟩
    refine (ref_ways o many).to fun h31 k31 => ⟨_, rfl, ifB_pos (decide_eq_true rfl) ?_⟩
    have k631 := k29.trans (k30.trans k31)
    have e31 := k631.get e6
    refine rd9 e31 (rd9 e31 ?_)
    refine (shape_trace_all o hm (o6.rd.keep k631)).mono ?_
    rintro _ h32 ⟨s10, rfl, o10, k32⟩
    have e32 := k32.get e31
    refine ⟨_, rfl, ⟨rd1 e32 rfl, rd1 e32 rfl, rd1 e32 rfl, rd1 e32 rfl, rd1 e32 rfl, rd1 e32 rfl, rd1 e32 rfl, rd1 e32 rfl, rd1 e32 rfl, trivial⟩, ?_⟩
    refine (law_as c).to fun h33 k33 => ⟨_, _, _, _, _, _, _, _, _, rfl, ?_⟩
    refine (ref_trace o hm (o6.rd.keep (k631.trans (k32.trans k33)))).mono ?_
    rintro _ h34 ⟨s11, rfl, o11, k34⟩
    refine ⟨_, rfl, (law_same (o10.rd.keep evc3 (k33.trans k34)) o11.rd (by have := trSpec_len o hm la; omega)).mono ?_⟩
    rintro _ h35 ⟨rfl, k35⟩
    have k3235 := k33.trans (k34.trans k35)
    have e35 := k3235.get e32
    refine ⟨_, rfl, ifB_pos rfl (rd9 e35 (rd9 e35 ?_))⟩
    refine (shape_shape_all o hm h35).mono ?_
    rintro _ h36 ⟨s12, rfl, o12, k36⟩
    have e36 := k36.get e35
    refine ⟨_, rfl, ⟨rd1 e36 rfl, rd1 e36 rfl, rd1 e36 rfl, rd1 e36 rfl, rd1 e36 rfl, rd1 e36 rfl, rd1 e36 rfl, rd1 e36 rfl, rd1 e36 rfl, trivial⟩, ?_⟩
    refine (law_as c).to fun h37 k37 => ⟨_, _, _, _, _, _, _, _, _, rfl, ?_⟩
    refine (ref_shapeAll o hm h37).mono ?_
    rintro _ h38 ⟨s13, rfl, o13, k38⟩
    refine ⟨_, rfl, (law_same (o12.rd.keep evc3 (k37.trans k38)) o13.rd (by have := shapeSpec_len o hm; omega)).mono ?_⟩
    rintro _ h39 ⟨rfl, k39⟩
    exact ⟨_, rfl, rfl, (k4.trans (k6.trans k631)).trans ((k32.trans k3235).trans (k36.trans (k37.trans (k38.trans k39))))⟩
  | true =>
    refine ifB_pos rfl ?_
    have hU : 0 ≤ waysI c many ∧ waysI c many ≤ 2960 := by
      by_cases h0 : many < 0
      · have e : waysI c many = 0 := by unfold waysI; rw [show max 0 (min many 4096) = 0 by omega]; simp
        omega
      · obtain ⟨m, rfl⟩ := Int.eq_ofNat_of_zero_le (show 0 ≤ many by omega)
        rw [waysI_is o (by omega)]
        have hus : usedN c m ≤ 4 * 37 + 4 * 144 := by
          unfold usedN
          exact Nat.add_le_add (Nat.mul_le_mul (by omega) (by omega)) (Nat.mul_le_mul (Nat.le_trans (Nat.div_le_self _ _) (by omega)) (by omega))
        have husL : usedN c m * L ≤ (4 * 37 + 4 * 144) * 4 := Nat.mul_le_mul hus o.L.2
        omega
    obtain ⟨U, hUU⟩ := Int.eq_ofNat_of_zero_le hU.1
    refine ⟨fun m s2 q1 s3 n11 h7 k => m = many ∧ sa = s2 ∧ q1 = ⟨b1, 0⟩ ∧ ∃ i : Nat, n11 = i ∧ i ≤ U ∧ (∃ lv, OwnS iv h6 h7 s3 lv ∧ lv.length = i ∧ WaysOk (3 + 2) L lv) ∧ Keep h6 h7 ∧ k = U - i, ⟨_, rfl, rfl, rfl, 0, rfl, Nat.zero_le _, ⟨[], OwnS.nilS _ _ _, rfl, fun i hi => by simp at hi⟩, Keep.refl _, rfl⟩, ?_⟩
    rintro m s2 q1 s3 n11 h7 k ⟨rfl, rfl, rfl, i, rfl, hi, ⟨lv, ov, hlv, wv⟩, k7, rfl⟩
    have e7 := k7.get e6
    refine rd9 e7 ?_
    refine (law_as c).to fun h8 k8 => ⟨_, _, _, _, _, _, _, _, _, rfl, ?_⟩
    refine (ref_ways o m).to fun h9 k9 => ⟨_, rfl, ?_⟩
    have k69 := k7.trans (k8.trans k9)
    have e9 := k69.get e6
    have ov9 := ov.keep (k8.trans k9)
    rw [hUU]
    have p2 := pow_le_pow (Nat.zero_le (3 + 2 - 2 * (L - 1 - i % L)))
    have p2' : (0 : Int) < 2 ^ (3 + 2 - 2 * (L - 1 - i % L)) := Int.lt_of_lt_of_le (by decide) p2
    have fin : ∀ {x : Int} {h' : Hp}, Keep h9 h' → i < U → 0 ≤ x → x < 2 ^ (3 + 2 - 2 * (L - 1 - i % L)) →
        newK h' (.cells #[.int .i64 x] 3) fun b h' => appK prog 22 s3 (.s ⟨some ⟨b, 0⟩, 1, 1, none⟩) h' fun s4 h4 => ∃ k3, k3 < U - i ∧ m = m ∧ sa = sa ∧ (⟨b1, 0⟩ : Pt) = ⟨b1, 0⟩ ∧ ∃ i' : Nat, w64 ((i : Int) + 1) = i' ∧ i' ≤ U ∧ (∃ lv, OwnS iv h6 h4 s4 lv ∧ lv.length = i' ∧ WaysOk (3 + 2) L lv) ∧ Keep h6 h4 ∧ k3 = U - i' := fun {x h'} kk hiU hx1 hx2 => by
      have kk6 := k69.trans kk
      refine OwnS.push rtI iv_one (ov9.keep kk) x (fun b hb => kk6.free hb) (by omega) (by decide) ?_
      intro s4 h4' o4 f4 _
      exact ⟨_, by omega, rfl, rfl, rfl, i + 1, w64_id (by omega) (by omega), by omega, ⟨_, o4, by simp [hlv], wv.snoc (by rw [hlv]; exact ⟨hx1, hx2⟩)⟩, keep_appS (ov9.keep kk) kk6 f4, rfl⟩
    refine ifD (fun hlt => ?_) fun hge => ?_
    · have hiU : i < U := by omega
      refine ifD (fun h1 => ?_) fun h1 => fin (Keep.refl _) hiU (by omega) p2'
      have hpos : 0 < la.length := by omega
      have em : (i : Int).tmod (sa.len : Int) = ((i % la.length : Nat) : Int) := by rw [la1]; rfl
      have hmm := Nat.mod_lt i hpos
      refine ⟨fun e => by omega, ?_⟩
      rw [em]
      have ra9 := ra.keep (k4.trans (k6.trans k69))
      refine ra9.ix hmm fun q _ hcq => ⟨_, hcq, rd9 e9 (rdI e9 rfl (rdI e9 rfl ⟨by omega, ?_⟩))⟩
      have cq : ∀ {h'}, Keep h9 h' → hcell h' q.b (q.o + ((i % la.length : Nat) : Int).toNat * 1) = some (.int .i64 la[i % la.length]) ∧ True := fun kk => ⟨by rw [hcell_same (kk _ (hcell_some hcq))]; exact hcq, trivial⟩
      refine (law_as c).to fun h10 k10 => ⟨_, _, _, _, _, _, _, _, _, rfl, ⟨rd1 (k10.get e9) rfl, trivial⟩, ⟨rd1 (k10.get e9) rfl, trivial⟩, cq k10, ?_⟩
      have e10 := k10.get e9
      refine (ref_store o).to fun h11 k11 => ⟨_, _, _, _, rfl, ⟨rd1 (k11.get e10) rfl, trivial⟩, ⟨rd1 (k11.get e10) rfl, trivial⟩, cq (k10.trans k11), ?_⟩
      have ew : w64 (w64 (c.lev - 1) - (i : Int).tmod c.lev) = ((L - 1 - i % L : Nat) : Int) := by
        have et : (i : Int).tmod c.lev = ((i % L : Nat) : Int) := by rw [hlev]; rfl
        have hm := Nat.mod_lt i (show L > 0 by omega)
        rw [et, hlev, w64_id (n := (L : Int) - 1) (by omega) (by omega), w64_id (by omega) (by omega)]; omega
      rw [ew]
      refine (ref_blocks o.st (L - 1 - i % L) (by omega)).to fun h12 k12 => ⟨_, rfl, cq (k10.trans (k11.trans k12)), ?_⟩
      have hpk := pk_bds (c := la[i % la.length]) (n := 2 ^ (3 + 2 - 2 * (L - 1 - i % L))) (by omega)
      refine (law_pick (hla _ (List.getElem_mem hmm)) (by omega)).to fun h13 k13 => ⟨_, rfl, fin (k10.trans (k11.trans (k12.trans k13))) hiU hpk.1 hpk.2⟩
    · have hiU : i = U := by omega
      subst hiU
      refine rd9 e9 (rd9 e9 ?_)
      refine (shape_ways o m).to fun h29 k29 => ⟨_, rfl, ?_⟩
      have e29 := k29.get e9
      refine ⟨⟨rd1 e29 rfl, rd1 e29 rfl, rd1 e29 rfl, rd1 e29 rfl, rd1 e29 rfl, rd1 e29 rfl, rd1 e29 rfl, rd1 e29 rfl, rd1 e29 rfl, trivial⟩, ?_⟩
      refine (law_as c).to fun h30 k30 => ⟨_, _, _, _, _, _, _, _, _, rfl, ?_⟩
      refine (ref_ways o m).to fun h31 k31 => ⟨_, rfl, ifB_pos (decide_eq_true rfl) ?_⟩
      have k631 := k29.trans (k30.trans k31)
      have e31 := k631.get e9
      refine rd9 e31 (rd9 e31 ?_)
      refine (shape_trace_all o hm (ov9.rd.keep k631)).mono ?_
      rintro _ h32 ⟨s10, rfl, o10, k32⟩
      have e32 := k32.get e31
      refine ⟨_, rfl, ⟨rd1 e32 rfl, rd1 e32 rfl, rd1 e32 rfl, rd1 e32 rfl, rd1 e32 rfl, rd1 e32 rfl, rd1 e32 rfl, rd1 e32 rfl, rd1 e32 rfl, trivial⟩, ?_⟩
      refine (law_as c).to fun h33 k33 => ⟨_, _, _, _, _, _, _, _, _, rfl, ?_⟩
      refine (ref_trace o hm (ov9.rd.keep (k631.trans (k32.trans k33)))).mono ?_
      rintro _ h34 ⟨s11, rfl, o11, k34⟩
      refine ⟨_, rfl, (law_same (o10.rd.keep evc3 (k33.trans k34)) o11.rd (by have := trSpec_len o hm lv; omega)).mono ?_⟩
      rintro _ h35 ⟨rfl, k35⟩
      have k3235 := k33.trans (k34.trans k35)
      have e35 := k3235.get e32
      refine ⟨_, rfl, ifB_pos rfl (rd9 e35 (rd9 e35 ?_))⟩
      refine (shape_shape_all o hm h35).mono ?_
      rintro _ h36 ⟨s12, rfl, o12, k36⟩
      have e36 := k36.get e35
      refine ⟨_, rfl, ⟨rd1 e36 rfl, rd1 e36 rfl, rd1 e36 rfl, rd1 e36 rfl, rd1 e36 rfl, rd1 e36 rfl, rd1 e36 rfl, rd1 e36 rfl, rd1 e36 rfl, trivial⟩, ?_⟩
      refine (law_as c).to fun h37 k37 => ⟨_, _, _, _, _, _, _, _, _, rfl, ?_⟩
      refine (ref_shapeAll o hm h37).mono ?_
      rintro _ h38 ⟨s13, rfl, o13, k38⟩
      refine ⟨_, rfl, (law_same (o12.rd.keep evc3 (k37.trans k38)) o13.rd (by have := shapeSpec_len o hm; omega)).mono ?_⟩
      rintro _ h39 ⟨rfl, k39⟩
      exact ⟨_, rfl, rfl, ((k4.trans k6).trans (k69.trans k631)).trans ((k32.trans k3235).trans (k36.trans (k37.trans (k38.trans k39))))⟩
end Go.Proofs.Tryz

/- ShapeNodes: with leaves left out a cell of a tree is that of a depth: as many of each depth are read as written. -/
import Derived.Test.YtecaoigobpekdaaGreatDoorErased
namespace Go.Proofs.Tryz
open Go Go.Sh Go.RowKit
set_option maxRecDepth 8000
set_option maxHeartbeats 2000000

def cntL (l : List Ev) (r : Int) (w : Bool) (N : Nat) : List Int := (List.range N).map fun (a : Nat) => ((l.count ⟨r, (a : Int), w⟩ : Nat) : Int)
theorem cntL_length (l : List Ev) (r : Int) (w : Bool) (N : Nat) : (cntL l r w N).length = N := by simp [cntL]
theorem cntL_get (l : List Ev) (r : Int) (w : Bool) (N : Nat) {a : Nat} (h : a < (cntL l r w N).length) : (cntL l r w N)[a] = ((l.count ⟨r, (a : Int), w⟩ : Nat) : Int) := by simp [cntL]
theorem cntL_nil (r : Int) (w : Bool) (N : Nat) : cntL [] r w N = List.replicate N 0 := by
  refine List.ext_getElem (by simp [cntL]) fun i h1 h2 => by simp [cntL]
theorem cnt_snoc (l : List Ev) (e x : Ev) : (l ++ [e]).count x = l.count x + if e = x then 1 else 0 := by
  rw [List.count_append, List.count_cons, List.count_nil]
  by_cases h : e = x
  · rw [if_pos h, if_pos (by simp [h])]
  · rw [if_neg h, if_neg (by simp [h])]
theorem cntL_skip {l : List Ev} {e : Ev} {r : Int} {w : Bool} (N : Nat) (h : e.r ≠ r ∨ e.w ≠ w) : cntL (l ++ [e]) r w N = cntL l r w N := by
  unfold cntL
  refine List.map_congr_left fun a _ => ?_
  rw [cnt_snoc, if_neg (fun he => by subst he; rcases h with h | h <;> exact h rfl)]; rfl
theorem cntL_hit {l : List Ev} {r : Int} {w : Bool} (N a : Nat) (ha : a < N) : cntL (l ++ [⟨r, (a : Int), w⟩]) r w N = (cntL l r w N).set a (((l.count ⟨r, (a : Int), w⟩ : Nat) : Int) + 1) := by
  refine List.ext_getElem (by simp [cntL]) fun i h1 h2 => ?_
  rw [cntL_get, cnt_snoc, List.getElem_set]
  by_cases e : a = i
  · subst e; simp
  · rw [if_neg e, if_neg (fun h => e (by injection h with _ h2; omega)), cntL_get]; rfl
theorem pow_gt1 {k : Nat} (h : ¬ (1 : Int) < 2 ^ k) : k = 0 := by
  cases k with
  | zero => rfl
  | succ k => exact absurd (by have := pow_le_pow (Nat.zero_le k); rw [Int.pow_succ]; simp at this; omega) h
theorem shape_one {c : Cfg} {t L : Nat} (o : c.Ok t L) (hB : 1 < c.B) : shapeL c t L 1 = opZ c t L := by
  have hu : usedN c 1 = 5 + 2 * c.K := by
    unfold usedN
    rw [Nat.div_eq_of_lt hB, Nat.one_mul, Nat.zero_mul, Nat.add_zero (5 + 2 * c.K)]
  have hm : (0 + 1) % c.B = 1 := Nat.mod_eq_of_lt hB
  have e : trEv c t L (zerosL c L 1) 1 = opEv c t L (zerosL c L 1) := by
    simp only [trEv]
    rw [hm, if_neg (by decide), List.append_nil, List.nil_append]
    simp [usedN, dr_zero]
  rw [shapeL, e, er_op o (zeros_ok _ _ _ _) (by simp [zerosL, hu])]

/-- a count goes up -/
theorem bump {h0 h : Hp} {s : Sl} {l : List Int} (r : OwnS iv h0 h s l) {a : Nat} (ha : a < l.length) (hb : 0 ≤ l[a] ∧ l[a] ≤ 1000000000000) {K : Hp → Prop} (hk : ∀ q ob, s.q = some q → OwnS iv h0 (upd h q.b ob) s (l.set a (l[a] + 1)) → K (upd h q.b ob)) :
    ∃ q, s.q = some q ∧ (0 : Int) ≤ (a : Int) ∧ (a : Int) + 1 ≤ (s.len : Int) ∧ ∃ n, hcell h q.b (q.o + a * 1) = some (.int .i64 n) ∧ ∃ q', s.q = some q' ∧ (0 : Int) ≤ (a : Int) ∧ (a : Int) + 1 ≤ (s.len : Int) ∧ storeK h ⟨q'.b, q'.o + a * 1⟩ [.int .i64 (w64 (n + 1))] K := by
  refine r.rd.ix ha fun q hq hc => ⟨_, hc, q, hq, by omega, by have := r.len; omega, ?_⟩
  rw [w64_id (by omega) (by omega)]
  exact r.store hq ha (l[a] + 1) fun ob o => hk q ob hq o

theorem shapeNodes_law {h : Hp} {n : Int} (hn : i64 n) : callK prog 5 [.int .i64 n] h fun v h' => v = .bool true ∧ Keep h h' := by
  refine c5 n ?_
  unfold G5
  refine law_shown.to fun h1 k1 => ⟨_, rfl, ?_⟩
  refine (law_made hn).to fun h2 k2 => ⟨_, _, _, _, _, _, _, _, _, rfl, newC fun b1 h3 f3 e3 k3 => ?_⟩
  have k03 := (k1.trans k2).trans k3
  have f0 : h b1 = none := k1.free (k2.free f3)
  refine stW k03 f0 e3 rfl fun h4 k4 e4 _ => ?_
  have hL := madeL_bds n
  have o0 := madeC_ok n
  refine rd9 e4 ?_
  refine (config_accesses o0).to fun h4' k4' => ⟨_, _, rfl, ?_⟩
  have e4' := k4'.get e4
  refine stN (k4.trans k4') f0 e4' (by simp) fun h5 k5 e5 _ => stN k5 f0 e5 (by rw [hwr_size]; simp) fun h6 k6 e6 _ => ?_
  obtain ⟨c, hc⟩ : ∃ c : Cfg, c = ⟨1, 7, (madeC n).kic, (madeC n).spi, (madeC n).tab, (madeC n).slo, (madeC n).sta, (madeC n).lev, (madeC n).pol⟩ := ⟨_, rfl⟩
  have o : c.Ok 3 (madeL n) := by
    subst hc
    exact ⟨o0.ht, o0.tab, o0.lev, o0.L, by simp, by simp, o0.kic, o0.spi, o0.pol, by simp, o0.slo, o0.sta, o0.cells⟩
  have ec6 : h6 b1 = some (.cells #[.int .i64 c.cap, .int .i64 c.bat, .int .i64 c.kic, .int .i64 c.spi, .int .i64 c.tab, .int .i64 c.slo, .int .i64 c.sta, .int .i64 c.lev, .int .i64 c.pol] 25 (0, 0)) := by
    rw [e6, hc]; rfl
  have hkic : (madeC n).kic = c.kic := by rw [hc]
  rw [hkic]
  generalize madeL n = L at o hL
  have hN := o.nats
  have hB7 : c.B = 7 := by rw [hc]; rfl
  refine rd9 ec6 ?_
  refine (shape_shape o (n := 1) (by omega) h6).mono ?_
  rintro _ h7 ⟨s1, rfl, o1, k7⟩
  have e7 := k7.get ec6
  have l1 := o1.len
  have hpos := shape_pos o (n := 1) (by omega)
  refine ⟨_, rfl, ifB_neg rfl (ifB_neg (by rw [cond_false, decide_eq_false (by omega)]) (rd9 e7 ?_))⟩
  have hsl : (shapeL c 3 L 1).length ≤ 1200000000 := by unfold shapeL; rw [List.length_map]; exact tr_len o _ 1
  have hS := shape_one o (by omega)
  rw [hS] at o1 l1 hpos hsl
  refine (config_store o).to fun h8 k8 => ⟨_, _, _, _, rfl, newC fun b2 h9 f9 e9 k9 => ?_⟩
  refine stW k9 f9 e9 rfl fun h11 k11 e11 _ => ?_
  have e111 := (k8.trans k11).get e7
  have k0 : Keep h h11 := k6.trans (k7.trans (k8.trans k11))
  have r11 : RdM evc h11 s1 (opZ c 3 L) := (o1.rd.keep evc3 k8).keep evc3 k11
  obtain ⟨l, hl⟩ : ∃ l, l = opZ c 3 L := ⟨_, rfl⟩
  rw [← hl] at r11 hsl l1
  have hcount : ∀ (hh a : Nat), hh < L → a < (3 + 2 - 2 * hh + 1) * c.slo.toNat → ∀ w, l.count ⟨4 + 3 * (hh : Int), a, w⟩ = 5 + 2 * c.K := fun hh a h1 h2 w => by rw [hl]; exact cnt_op o h1 h2 w
  have hmem : ∀ (hh : Nat) (e : Ev), e ∈ l → e.r = 4 + 3 * (hh : Int) → 0 ≤ e.a ∧ e.a < (((3 + 2 - 2 * hh + 1) * c.slo.toNat : Nat) : Int) := fun hh e he hr => by rw [hl] at he; exact mem_op o he hr
  clear o1 hpos hS
  have hslo := o.slo; have hlev := o.lev
  have ekic : 2 * c.kic + 5 = ((5 + 2 * c.K : Nat) : Int) := by omega
  refine ⟨fun q1 m s2 q2 n44 h12 k => q1 = ⟨b1, 0⟩ ∧ m = 2 * c.kic + 5 ∧ s1 = s2 ∧ q2 = ⟨b2, 0⟩ ∧ ∃ hh : Nat, n44 = hh ∧ hh ≤ L ∧ Keep h11 h12 ∧ k = L - hh, ⟨_, rfl, rfl, rfl, rfl, 0, rfl, Nat.zero_le _, Keep.refl _, rfl⟩, ?_⟩
  rintro q1 m s2 q2 n44 h12 k ⟨rfl, rfl, rfl, rfl, hh, rfl, hhL, k12, rfl⟩
  have e12 := k12.get e111
  refine rdI e12 rfl (ifD (fun hlt => ?_) fun hge => ?_)
  · have hhl : hh < L := by omega
    refine rd9 e12 ?_
    refine (law_as c).to fun h13 k13 => ⟨_, _, _, _, _, _, _, _, _, rfl, ?_⟩
    refine (ref_store o).to fun h14 k14 => ⟨_, _, _, _, rfl, ?_⟩
    refine (ref_blocks o.st hh (by omega)).to fun h15 k15 => ⟨_, rfl, ?_⟩
    have k115 : Keep h11 h15 := k12.trans (k13.trans (k14.trans k15))
    obtain ⟨K0, hK0⟩ : ∃ K0, K0 = 3 + 2 - 2 * hh := ⟨_, rfl⟩
    refine ⟨fun q3 m s3 q4 n70 n71 n72 h16 k => q3 = ⟨b1, 0⟩ ∧ m = 2 * c.kic + 5 ∧ s1 = s3 ∧ q4 = ⟨b2, 0⟩ ∧ n70 = hh ∧ h15 = h16 ∧ ∃ d : Nat, n71 = d ∧ d ≤ K0 ∧ n72 = 2 ^ (K0 - d) ∧ k = K0 - d,
      ⟨_, rfl, rfl, rfl, rfl, rfl, rfl, 0, rfl, Nat.zero_le _, by rw [hK0]; rfl, rfl⟩, ?_⟩
    rintro q3 m s3 q4 n70 n71 n72 h16 k ⟨rfl, rfl, rfl, rfl, rfl, rfl, d, rfl, hd, rfl, rfl⟩
    refine ifD (fun h1 => ?_) fun h1 => ?_
    · have hdk : d < K0 := by
        rcases Nat.lt_or_ge d K0 with h | h
        · exact h
        · rw [show K0 - d = 0 by omega] at h1; simp at h1
      refine ⟨by decide, _, ?_, rfl, rfl, rfl, rfl, rfl, rfl, d + 1, w64_id (by omega) (by omega), by omega, ?_, rfl⟩
      · omega
      · rw [show K0 - d = (K0 - (d + 1)) + 1 by omega, hv_half (by omega), hv_succ]
    · have hdk : d = K0 := by have := pow_gt1 h1; omega
      subst hdk
      have e16 := k115.get e111
      obtain ⟨N, hNN⟩ : ∃ N, N = (d + 1) * c.slo.toNat := ⟨_, rfl⟩
      have hNb : N ≤ 6 * 8 := by rw [hNN]; exact Nat.mul_le_mul (by omega) (by omega)
      have eN : w64 (c.slo * w64 ((d : Int) + 1)) = (N : Int) := by
        rw [w64_id (n := (d : Int) + 1) (by omega) (by omega)]
        have h1 : c.slo * ((d : Int) + 1) = (N : Int) := by
          have h2 : c.slo = (c.slo.toNat : Int) := by omega
          rw [hNN, h2, Int.mul_comm]; simp
        rw [h1, w64_id (by omega) (by omega)]
      refine rdI e16 rfl ?_
      rw [eN]
      refine ⟨by omega, by omega, by omega, by omega, newC fun b3 h17 f17 e17 k17 => rdI (k17.get e16) rfl ?_⟩
      rw [eN]
      refine ⟨by omega, by omega, by omega, by omega, newC fun b4 h18 f18 e18 k18 => ?_⟩
      simp only [Int.toNat_natCast] at e17 e18 ⊢
      have d34 : b3 ≠ b4 := fun e => by rw [← e, e17] at f18; cases f18
      have zr : zRow (if N * 1 = 0 then #[] else (Value.int .i64 0).cells) (N * 1) = ((List.replicate N (0 : Int)).map iv).toArray := by
        have := zRow_one (v := Value.int .i64 0) N N rfl
        simp only [Nat.mul_one]
        refine this.trans ?_
        simp [iv]
      let S3 : Sl := ⟨some ⟨b3, 0⟩, N, N, none⟩
      let S4 : Sl := ⟨some ⟨b4, 0⟩, N, N, none⟩
      let R : Int := 4 + 3 * (hh : Int)
      have oR0 : OwnS iv h15 h18 S3 (cntL (l.take 0) R false N) := by
        rw [List.take_zero, cntL_nil]
        exact OwnS.newE f17 (k18.get e17) zr (by simp)
      have oW0 : OwnS iv h15 h18 S4 (cntL (l.take 0) R true N) := by
        rw [List.take_zero, cntL_nil]
        exact OwnS.newE (k17.free f18) e18 zr (by simp)
      refine ⟨fun q5 m s4 q6 n76 s5 s6 n77 h19 k => q5 = ⟨b1, 0⟩ ∧ m = 2 * c.kic + 5 ∧ s1 = s4 ∧ q6 = ⟨b2, 0⟩ ∧ n76 = hh ∧ S3 = s5 ∧ S4 = s6 ∧ ∃ j : Nat, n77 = j ∧ j ≤ l.length ∧ OwnS iv h15 h19 S3 (cntL (l.take j) R false N) ∧ OwnS iv h15 h19 S4 (cntL (l.take j) R true N) ∧ Keep h15 h19 ∧ k = l.length - j,
        ⟨_, rfl, rfl, rfl, rfl, rfl, rfl, rfl, 0, rfl, Nat.zero_le _, oR0, oW0, k17.trans k18, rfl⟩, ?_⟩
      rintro q5 m s4 q6 n76 s5 s6 n77 h19 k ⟨rfl, rfl, rfl, rfl, rfl, rfl, rfl, j, rfl, hj, oR, oW, k19, rfl⟩
      have r19 := (r11.keep evc3 k115).keep evc3 k19
      refine ifD (fun hlt2 => ?_) fun hge2 => ?_
      · have hj' : j < l.length := by omega
        have hgo : ∀ {h20 : Hp}, OwnS iv h15 h20 S3 (cntL (l.take j ++ [l[j]]) R false N) → OwnS iv h15 h20 S4 (cntL (l.take j ++ [l[j]]) R true N) → Keep h15 h20 →
            ∃ k8, k8 < l.length - j ∧ (⟨b1, 0⟩ : Pt) = ⟨b1, 0⟩ ∧ 2 * c.kic + 5 = 2 * c.kic + 5 ∧ s1 = s1 ∧ (⟨b2, 0⟩ : Pt) = ⟨b2, 0⟩ ∧ (hh : Int) = hh ∧ S3 = S3 ∧ S4 = S4 ∧ ∃ j' : Nat, w64 ((j : Int) + 1) = j' ∧ j' ≤ l.length ∧ OwnS iv h15 h20 S3 (cntL (l.take j') R false N) ∧ OwnS iv h15 h20 S4 (cntL (l.take j') R true N) ∧ Keep h15 h20 ∧ k8 = l.length - j' := fun g1 g2 g3 => by
          rw [List.take_append_getElem hj'] at g1 g2
          exact ⟨_, by omega, rfl, rfl, rfl, rfl, rfl, rfl, rfl, j + 1, w64_id (by omega) (by omega), by omega, g1, g2, g3, rfl⟩
        have hm0 : l[j] ∈ l := List.getElem_mem hj'
        have cell := fun {K : Pt → Prop} (hk : ∀ q : Pt, s1.q = some q → hcell h19 q.b (q.o + j * 3) = some (.int .i64 l[j].r) ∧ hcell h19 q.b (q.o + j * 3 + 1) = some (.int .i64 l[j].a) ∧ hcell h19 q.b (q.o + j * 3 + 1 + 1) = some (.bool l[j].w) → K q) => r19.ix evc3 hj' (K := K) fun q hq hr => hk q hq (evc_rd hr)
        obtain ⟨e, he⟩ : ∃ e, e = l[j] := ⟨_, rfl⟩
        rw [← he] at hm0 cell hgo
        obtain ⟨er, ea, ew⟩ := e
        refine cell fun q7 hq7 g7 => ⟨_, g7.1, ?_⟩
        have eR : w64 (4 + w64 (3 * (hh : Int))) = R := by rw [w64_id (n := 3 * (hh : Int)) (by omega) (by omega), w64_id (by omega) (by omega)]
        rw [eR]
        refine ifN (fun hne => hgo ?_ ?_ k19) fun heq => ?_
        · rw [cntL_skip N (.inl hne)]; exact oR
        · rw [cntL_skip N (.inl hne)]; exact oW
        · simp only at heq
          subst heq
          have hb := hmem hh _ hm0 rfl
          simp only at hb
          rw [← hK0, ← hNN] at hb
          obtain ⟨a, rfl⟩ := Int.eq_ofNat_of_zero_le hb.1
          have haN : a < N := by omega
          refine cell fun q8 hq8 g8 => ⟨_, g8.2.1, ifD (fun hneg => absurd hneg (by simp only; omega)) fun _ => ?_⟩
          refine cell fun q9 hq9 g9 => ⟨_, g9.2.1, ifB_neg (by rw [cond_false, decide_eq_false]; show ¬ ((N : Int) ≤ a); omega) ?_⟩
          refine cell fun q10 hq10 g10 => ⟨_, g10.2.2, ?_⟩
          have hcl : ∀ w, (l.take j).count ⟨R, (a : Int), w⟩ ≤ 1200000000 := fun w => by
            have h1 := List.count_le_length (a := (⟨R, (a : Int), w⟩ : Ev)) (l := l.take j)
            rw [List.length_take] at h1; omega
          refine ifB_intro (fun hw => ?_) fun hw => ?_
          · simp only at hw; subst hw
            refine cell fun q11 hq11 g11 => ⟨_, g11.2.1, ?_⟩
            have hal : a < (cntL (l.take j) R true N).length := by rw [cntL_length]; exact haN
            refine bump oW hal (by rw [cntL_get]; have := hcl true; omega) fun q ob hq oW' => hgo ?_ ?_ ?_
            · rw [cntL_skip N (.inr (by simp))]
              exact oR.move fun p hp => by cases hp; cases hq; exact upd_ne _ _ d34
            · rw [cntL_hit N a haN]; rw [cntL_get] at oW'; exact oW'
            · cases hq; exact k19.upd (k17.free f18) _
          · simp only at hw; subst hw
            refine cell fun q11 hq11 g11 => ⟨_, g11.2.1, ?_⟩
            have hal : a < (cntL (l.take j) R false N).length := by rw [cntL_length]; exact haN
            refine bump oR hal (by rw [cntL_get]; have := hcl false; omega) fun q ob hq oR' => hgo ?_ ?_ ?_
            · rw [cntL_hit N a haN]; rw [cntL_get] at oR'; exact oR'
            · rw [cntL_skip N (.inr (by simp))]
              exact oW.move fun p hp => by cases hp; cases hq; exact upd_ne _ _ (fun e => d34 e.symm)
            · cases hq; exact k19.upd f17 _
      · have hjl : j = l.length := by omega
        subst hjl
        rw [List.take_length] at oR oW
        have hcn : ∀ w (i : Nat) (hi : i < (cntL l R w N).length), (cntL l R w N)[i] = 2 * c.kic + 5 := fun w i hi => by
          rw [cntL_get, hcount hh i hhl (by rw [← hK0, ← hNN, ← cntL_length l R w N]; exact hi) w, ekic]
        refine ⟨fun q17 m s7 q18 n86 s8 s9 n87 h22 k => q17 = ⟨b1, 0⟩ ∧ m = 2 * c.kic + 5 ∧ s1 = s7 ∧ q18 = ⟨b2, 0⟩ ∧ n86 = hh ∧ S3 = s8 ∧ S4 = s9 ∧ h19 = h22 ∧ ∃ i : Nat, n87 = i ∧ i ≤ N ∧ k = N - i, ⟨_, rfl, rfl, rfl, rfl, rfl, rfl, rfl, rfl, 0, rfl, Nat.zero_le _, rfl⟩, ?_⟩
        rintro q17 m s7 q18 n86 s8 s9 n87 h22 k ⟨rfl, rfl, rfl, rfl, rfl, rfl, rfl, rfl, i, rfl, hi, rfl⟩
        refine ifD (fun hlt3 => ?_) fun hge3 => ?_
        · have hiN : i < N := by have : (i : Int) < (N : Int) := hlt3; omega
          refine oR.rd.ix (by rw [cntL_length]; exact hiN) fun q19 _ hc => ⟨_, hc, ifN (fun hne => absurd (hcn _ _ _) hne) fun _ => ?_⟩
          refine oW.rd.ix (by rw [cntL_length]; exact hiN) fun q20 _ hc => ⟨_, hc, ifB_neg ?_ ⟨_, by omega, rfl, rfl, rfl, rfl, rfl, rfl, rfl, rfl, i + 1, w64_id (by omega) (by omega), by omega, rfl⟩⟩
          rw [cond_false, decide_eq_true (hcn _ _ _)]; rfl
        · exact ⟨_, by omega, rfl, rfl, rfl, rfl, hh + 1, w64_id (by omega) (by omega), by omega, k115.trans k19, rfl⟩
  · refine rdI (k12.get e11) rfl (rdI e12 rfl ⟨?_, k0.trans k12⟩)
    rw [decide_eq_true o.lev.symm]
end Go.Proofs.Tryz

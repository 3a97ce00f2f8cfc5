/- Chapter 20: Trace, Erase, Shape. -/
import Derived.Test.YtecaoigobpekdaaGreatDoorTrace
namespace Go.Proofs.Tryz
open Go Go.Sh Go.RowKit
set_option maxRecDepth 8000

section
variable {c : Cfg} {t L : Nat}
def lfE (t L i : Nat) : Nat := t + 2 - 2 * (L - 1 - i % L)
theorem shape_leaves (o : c.Ok t L) (i : Nat) (hi : i ≤ 1000000) : PureC prog 30 [c.v, .int .i64 i] (.int .i64 (2 ^ lfE t L i)) := by
  intro h
  have hL := o.L; have hlev := o.lev
  have hm := Nat.mod_lt i (show L > 0 by omega)
  refine c30 _ _ _ _ _ _ _ _ _ i ?_
  unfold G30
  refine newC fun b1 h1 f1 e1 k1 => rd9 e1 ?_
  refine (config_store o).to fun h2 k2 => ⟨_, _, _, _, rfl, rdI (k2.get e1) rfl (rdI (k2.get e1) rfl ⟨by omega, ?_⟩)⟩
  have et : (i : Int).tmod c.lev = ((i % L : Nat) : Int) := by rw [hlev]; rfl
  have e0 : w64 (w64 (c.lev - 1) - (i : Int).tmod c.lev) = ((L - 1 - i % L : Nat) : Int) := by
    rw [et, hlev, w64_id (n := (L : Int) - 1) (by omega) (by omega), w64_id (by omega) (by omega)]; omega
  rw [e0]
  refine ⟨fun x l n h3 k => l = ((L - 1 - i % L : Nat) : Int) ∧ ∃ j : Nat, n = j ∧ j ≤ L - 1 - i % L ∧ x = 2 ^ (t + 2 - 2 * j) ∧ Keep h h3 ∧ k = (L - 1 - i % L) - j, ⟨_, rfl, 0, rfl, Nat.zero_le _, rfl, k1.trans k2, rfl⟩, ?_⟩
  rintro x l n h3 k ⟨rfl, j, rfl, hj, rfl, k3, rfl⟩
  refine ifD (fun hlt => ⟨by decide, _, ?_, rfl, j + 1, w64_id (by omega) (by omega), by omega, ?_, k3, rfl⟩) fun hge => ?_
  · omega
  · rw [step4 (by have := o.ht; omega)]; rfl
  · have : j = L - 1 - i % L := by omega
    subst this; exact ⟨rfl, k3⟩

theorem usedN_succ (n : Nat) : usedN c (n + 1) = usedN c n + (5 + 2 * c.K) + (if (n + 1) % c.B = 0 then c.C + 4 * c.B else 0) := by
  unfold usedN
  rw [Nat.succ_mul, Nat.succ_div]
  by_cases h : (n + 1) % c.B = 0
  · rw [if_pos (Nat.dvd_of_mod_eq_zero h), if_pos h, Nat.add_mul, Nat.one_mul]; omega
  · rw [if_neg (fun hd => h (Nat.mod_eq_zero_of_dvd hd)), if_neg h, Nat.add_zero (n / c.B)]; omega
theorem waysI_is (o : c.Ok t L) {n : Nat} (hn : n ≤ 4096) : waysI c n = ((usedN c n * L : Nat) : Int) := by
  have h := o.nats
  unfold waysI usedN
  have e1 : max 0 (min (n : Int) 4096) = n := by omega
  have e2 : (n : Int).tdiv c.bat = ((n / c.B : Nat) : Int) := by rw [← h.2.2.1]; rfl
  have e3 : 2 * c.kic + 5 = ((5 + 2 * c.K : Nat) : Int) := by omega
  have e4 : c.cap + 5 * c.bat = ((c.C + 4 * c.B : Nat) : Int) := by omega
  rw [e1, e2, e3, e4, o.lev, Int.mul_comm]
  simp

theorem events1 {y : Value} {S : List Ev → (Nat → Prop) → Hp → Prop} (sk : Sink y (fun e => .agg (evc e).toArray) S 1000000000000) (o : c.Ok t L) {F : Nat → Prop} {h : Hp} {b1 b2 b3 : Nat} {s : Sl} {ws : List Int} {n : Nat}
    (hn : n ≤ 100) (s0 : S [] F h) (e1 : h b1 = some (.cells #[.int .i64 c.cap, .int .i64 c.bat, .int .i64 c.kic, .int .i64 c.spi, .int .i64 c.tab, .int .i64 c.slo, .int .i64 c.sta, .int .i64 c.lev, .int .i64 c.pol] 25 (0, 0)))
    (e2 : h b2 = some (.cells #[vs s] 22 (0, 0))) (e3 : h b3 = some (.cells #[.int .i64 n] 3 (0, 0))) (r : RdS iv h s ws) (hlen : ws.length = usedN c n * L) (hw : WaysOk (t + 2) L ws) (hF1 : ¬ F b1) (hFs : ∀ q, s.q = some q → 0 < ws.length → ¬ F q.b) :
    callK prog 54 [y, vp ⟨b1, 0⟩, vp ⟨b2, 0⟩, vp ⟨b3, 0⟩] h fun _ h2 => ∃ F', S (trEv c t L ws n) F' h2 ∧ Mv F h F' h2 := by
  have hN := o.nats; have hL := o.L
  refine c54 y ⟨b1, 0⟩ ⟨b2, 0⟩ ⟨b3, 0⟩ ?_
  unfold G54
  refine rd9 e1 ⟨s, rd1 e2 rfl, sk.one, sk.one, newC fun b h1 f1 e4 k1 => rdI (k1.get e3) rfl ?_⟩
  have bF : ¬ F b := fun hF => (sk.dom _ _ _ _ s0 hF) f1
  -- from the walk's blocks back to the yield's
  have back : ∀ {F' h2}, Mv (fun x => x = b ∨ F x) h1 (fun x => x = b ∨ F' x) h2 → ¬ F' b → Mv F h F' h2 := fun {F' h2} m hb => by
    refine ⟨fun x hx => ?_, fun x hx hnF => ?_, fun x hx => k1.free (m.2.2 x hx)⟩
    · rcases m.1 x (.inr hx) with (h1 | h1) | h1
      · exact absurd (h1 ▸ hx) hb
      · exact .inl h1
      · exact .inr (k1.free h1)
    · have hxb : x ≠ b := fun e => hx (e ▸ f1)
      rw [m.2.1 x (by rw [k1 x hx]; exact hx) (fun h => by
        rcases h with h | h
        · exact hxb h
        · exact hnF h), k1 x hx]
  by_cases hn0 : n = 0
  · subst hn0
    refine ⟨fun q o n i h2 m => n = 0 ∧ i = 0 ∧ h2 = h1 ∧ m = 0, ⟨_, rfl, rfl, rfl, rfl⟩, ?_⟩
    rintro q o n i h2 m ⟨rfl, rfl, rfl, rfl⟩
    refine ifD (fun h => absurd h (by omega)) fun _ => ⟨F, sk.keep _ _ _ _ s0 fun x hx => k1 x (sk.dom _ _ _ _ s0 hx), mvK k1 F⟩
  have hpos : 0 < ws.length := by
    rw [hlen]
    refine Nat.mul_pos ?_ (by omega)
    unfold usedN
    have : 1 * 5 ≤ n * (5 + 2 * c.K) := Nat.mul_le_mul (by omega) (by omega)
    omega
  have w0 : Wk c t L y S (fun x => ∃ q, s.q = some q ∧ x = q.b) b [] (dr L (usedN c 0) ws) (fun x => x = b ∨ F x) h1 := by
    have hz : dr L (usedN c 0) ws = ws := by simp [usedN, dr_zero]
    rw [hz]
    refine ⟨⟨s, e4, r.keep k1, fun q hq => ⟨q, hq, rfl⟩⟩, ?_, ⟨F, rfl, bF, sk.keep _ _ _ _ s0 fun x hx => k1 x (sk.dom _ _ _ _ s0 hx)⟩, hw⟩
    rintro x ⟨q, hq, rfl⟩
    have hx := r.there hq hpos
    refine ⟨?_, by rw [k1 _ hx]; exact hx⟩
    rintro (h | h)
    · rw [h] at hx; exact hx f1
    · exact hFs q hq hpos h
  refine ⟨fun q p m i h2 k => q = ⟨b1, 0⟩ ∧ p = some ⟨b, 0⟩ ∧ m = n ∧ ∃ u : Nat, i = u ∧ u ≤ n ∧ (∃ F', Wk c t L y S (fun x => ∃ q, s.q = some q ∧ x = q.b) b (trEv c t L ws u) (dr L (usedN c u) ws) F' h2 ∧ Mv (fun x => x = b ∨ F x) h1 F' h2) ∧ k = n - u,
    ⟨_, rfl, rfl, rfl, 0, rfl, Nat.zero_le _, ⟨_, w0, Mv.refl _ _⟩, rfl⟩, ?_⟩
  rintro q p m i h2 k ⟨rfl, rfl, rfl, u, rfl, hu, ⟨F2, w2, m2⟩, rfl⟩
  have tl := tr_len o ws u
  refine ifD (fun hlt => ?_) fun hge => ?_
  · have hus := usedN_succ (c := c) u
    have hmono : usedN c (u + 1) ≤ usedN c n := by
      unfold usedN
      exact Nat.add_le_add (Nat.mul_le_mul_right _ (by omega)) (Nat.mul_le_mul_right _ (Nat.div_le_div_right (by omega)))
    have hmL := Nat.mul_le_mul_right L hmono
    have e51 : (usedN c u + (5 + 2 * c.K)) * L = usedN c u * L + (5 + 2 * c.K) * L := Nat.add_mul _ _ _
    have hle1 : (usedN c u + (5 + 2 * c.K)) * L ≤ usedN c (u + 1) * L := Nat.mul_le_mul_right L (by omega)
    refine (walk_op sk o w2 (by rw [dr_length, hlen]; omega) (by omega)).mono ?_
    rintro _ h3 ⟨rfl, F3, w3, m3⟩
    rw [dr_dr] at w3
    have ol := op_len o (dr L (usedN c u) ws)
    have e13 : h3 b1 = some (.cells #[.int .i64 c.cap, .int .i64 c.bat, .int .i64 c.kic, .int .i64 c.spi, .int .i64 c.tab, .int .i64 c.slo, .int .i64 c.sta, .int .i64 c.lev, .int .i64 c.pol] 25 (0, 0)) :=
      (m2.trans m3).get (k1.get e1) (fun h => by
        rcases h with h | h
        · rw [h, f1] at e1; cases e1
        · exact hF1 h)
    refine ⟨_, rfl, ifB_neg rfl (rdI e13 rfl ⟨by omega, ?_⟩)⟩
    have nx : ∀ {h4 F4}, Wk c t L y S (fun x => ∃ q, s.q = some q ∧ x = q.b) b (trEv c t L ws (u + 1)) (dr L (usedN c (u + 1)) ws) F4 h4 → Mv (fun x => x = b ∨ F x) h1 F4 h4 → ∃ k3, k3 < n - u ∧ (⟨b1, 0⟩ : Pt) = ⟨b1, 0⟩ ∧ some (⟨b, 0⟩ : Pt) = some ⟨b, 0⟩ ∧ (n : Int) = n ∧ ∃ u' : Nat, w64 ((u : Int) + 1) = u' ∧ u' ≤ n ∧ (∃ F', Wk c t L y S (fun x => ∃ q, s.q = some q ∧ x = q.b) b (trEv c t L ws u') (dr L (usedN c u') ws) F' h4 ∧ Mv (fun x => x = b ∨ F x) h1 F' h4) ∧ k3 = n - u' :=
      fun g1 g2 => ⟨_, by omega, rfl, rfl, rfl, u + 1, w64_id (by omega) (by omega), by omega, ⟨_, g1, g2⟩, rfl⟩
    have em : (w64 ((u : Int) + 1)).tmod c.bat = (((u + 1) % c.B : Nat) : Int) := by
      rw [w64_id (by omega) (by omega), ← hN.2.2.1]; rfl
    rw [em]
    refine ifD (fun hz => ?_) fun hz => ?_
    · have hz0 : (u + 1) % c.B = 0 := by omega
      rw [if_pos hz0] at hus
      have e52 : usedN c (u + 1) * L = (usedN c u + (5 + 2 * c.K)) * L + (c.C + 4 * c.B) * L := by rw [hus, Nat.add_mul]
      refine (walk_pass sk o w3 (by rw [dr_length, hlen]; omega) (by rw [List.length_append]; omega)).mono ?_
      rintro _ h4 ⟨rfl, F4, w4, m4⟩
      rw [dr_dr, ← hus] at w4
      exact ⟨_, rfl, ifB_neg rfl (nx (by rw [trEv, if_pos hz0]; exact w4) (m2.trans (m3.trans m4)))⟩
    · have hz0 : ¬ (u + 1) % c.B = 0 := by omega
      rw [if_neg hz0, Nat.add_zero (usedN c u + (5 + 2 * c.K))] at hus
      rw [← hus] at w3
      exact nx (by rw [trEv, if_neg hz0, List.append_nil]; exact w3) (m2.trans m3)
  · have : u = n := by omega
    subst this
    obtain ⟨F0, hF, hnb, hs⟩ := w2.foot
    subst hF
    exact ⟨F0, hs, back m2 hnb⟩

theorem shape_trace (o : c.Ok t L) {n : Nat} (hn : n ≤ 100) {h : Hp} {x : Sl} {ws : List Int} (r : RdS iv h x ws) (hlen : ws.length = usedN c n * L) (hw : WaysOk (t + 2) L ws) :
    callK prog 17 [c.v, .int .i64 n, vs x] h fun v h' => ∃ s, v = vs s ∧ OwnM 3 evc h h' s (trEv c t L ws n) ∧ Keep h h' := by
  have hN := o.nats; have hL := o.L
  have hus : usedN c n ≤ 100 * 37 + 100 * 144 := by
    unfold usedN
    exact Nat.add_le_add (Nat.mul_le_mul hn (by omega)) (Nat.mul_le_mul (Nat.le_trans (Nat.div_le_self _ _) hn) (by omega))
  have husL : usedN c n * L ≤ (100 * 37 + 100 * 144) * 4 := Nat.mul_le_mul hus hL.2
  refine c17 _ _ _ _ _ _ _ _ _ n x ?_
  unfold G17
  refine newC fun b1 h1 f1 e1 k1 => ifD (fun e => absurd e (by omega)) fun _ => ifB_neg (by simp; omega) (rd9 e1 ?_)
  refine (shape_right o).to fun h2 k2 => ⟨_, rfl, ifB_neg rfl (rd9 (k2.get e1) ?_)⟩
  refine (shape_ways o n).to fun h3 k3 => ⟨_, rfl, ?_⟩
  have lx := r.len
  refine ifB_neg (by rw [waysI_is o (by omega), lx, hlen]; simp) ?_
  have k03 := (k1.trans k2).trans k3
  refine ⟨fun m s1 q s2 l i h4 k => m = n ∧ x = s1 ∧ q = ⟨b1, 0⟩ ∧ x = s2 ∧ l = x.len ∧ ∃ j : Nat, i = j ∧ Keep h3 h4 ∧ k = x.len - j, ⟨_, rfl, rfl, rfl, rfl, rfl, 0, rfl, Keep.refl _, rfl⟩, ?_⟩
  rintro m s1 q s2 l i h4 k ⟨rfl, rfl, rfl, rfl, rfl, j, rfl, k4, rfl⟩
  have e4 := ((k2.trans k3).trans k4).get e1
  have k04 := k03.trans k4
  have r4 := r.keep k04
  refine ifD (fun hlt => ?_) fun hge => ?_
  · have hj : j < ws.length := by omega
    have hwj := hw j hj
    refine r4.ix hj fun q _ hc => ⟨_, hc, ifD (fun e => absurd hwj.1 (by omega)) fun _ => rd9 (b := b1) e4 ?_⟩
    refine (shape_leaves o j (by omega)).to fun h5 k5 => ⟨_, rfl, ifB_neg (show (bif false then true else decide _) = false from decide_eq_false (Int.not_le.2 hwj.2)) ⟨_, ?_, rfl, rfl, rfl, rfl, rfl, j + 1, w64_id (by omega) (by omega), k4.trans k5, rfl⟩⟩
    omega
  · refine rd9 (b := b1) e4 ?_
    refine c32 _ _ _ _ _ _ _ _ _ n x ?_
    unfold G32
    refine newC fun c1 h5 g1 a1 k5 => newC fun c2 h6 g2 a2 k6 => newC fun c3 h7 g3 a3 k7 => ⟨_, rfl, ?_⟩
    have k47 := (k5.trans k6).trans k7
    have tl := tr_len o ws n
    refine (collect_ev (g := 54) (caps := [vp ⟨c1, 0⟩, vp ⟨c3, 0⟩, vp ⟨c2, 0⟩]) (L := trEv c t L ws n) (h := h7) (by omega) fun y S sk F h8 k8 s0 f0 => ?_).mono ?_
    · have kk := k47.trans k8
      refine events1 sk o hn s0 (((k6.trans k7).trans k8).get a1) (k8.get a3) ((k7.trans k8).get a2) (r4.keep kk) hlen hw (fun hF => ?_) fun q hq hl hF => ?_
      · have := f0 _ hF
        rw [(k6.trans k7).get a1] at this; cases this
      · have h1 := r4.there hq hl
        have := f0 _ hF
        rw [k47 _ h1] at this; exact h1 this
    · rintro _ h8 ⟨s, rfl, ox, k8⟩
      exact ⟨_, rfl, s, rfl, ox.baseK (k04.trans k47), (k04.trans k47).trans k8⟩

/-! ## leaves left out -/
def logN (m : Nat) : Nat := Lib.bitLen m - 1
theorem word_logG (x : UInt64) : PureC prog 49 [vu x] (.int .i64 (logN x.toNat : Nat)) := by
  intro h
  refine c49 x ?_
  unfold G49
  refine (len64 _).to fun h2 k2 => ⟨_, rfl, ?_, k2⟩
  have := Lib.bitLen_le x.toNat 64 (by omega) x.toNat_lt
  unfold logN
  generalize Lib.bitLen x.toNat = z at *
  rw [w64_id (by omega) (by omega)]
  congr 1; omega
theorem logN_le {m k : Nat} (hk : k ≤ 64) (h : m < 2 ^ k) : logN m ≤ k := by
  have := Lib.bitLen_le m k hk h
  unfold logN; omega
def erE (c : Cfg) (e : Ev) : Ev :=
  if e.r - 4 < 0 ∨ 0 < (e.r - 4).tmod 3 ∨ c.lev ≤ (e.r - 4).tdiv 3 ∨ e.a < 0 then e else ⟨e.r, (logN ((e.a.tdiv c.slo).toNat + 1) : Int) * c.slo + e.a.tmod c.slo, e.w⟩
def EvB (e : Ev) : Prop := 0 ≤ e.r ∧ e.r ≤ 100 ∧ 0 ≤ e.a ∧ e.a ≤ 1000000

theorem clone_ev {h : Hp} {s : Sl} {l : List Ev} (r : RdM evc h s l) (hl : l.length ≤ 1000000000000) :
    callK prog 48 [vs s] h fun v h' => ∃ s', v = vs s' ∧ OwnM 3 evc h h' s' l ∧ Keep h h' := by
  refine c48 s ?_
  unfold G48
  refine ifB_intro (fun hn => ?_) (fun hn => ?_)
  · have hp : s.q = none := by
      cases e : s.q with
      | none => rfl
      | some q => rw [Sl.q_p e] at hn; cases hn
    have : l = [] := List.length_eq_zero_iff.1 (by have := r.nil hp; have := r.cap; have := r.len; omega)
    subst this
    exact ⟨_, rfl, OwnM.nilS _ _ _ _, Keep.refl h⟩
  · refine newC fun b h1 f1 e1 k1 => ?_
    have o0 : OwnM 3 evc h h1 ⟨some ⟨b, 0⟩, 0, 0, none⟩ [] := OwnM.newE evc3 f1 e1 rfl rfl
    refine OwnM.app rtE evc3 evc_one (l := []) o0 (r.keep evc3 k1) (fun x hx => k1.free hx) (by simp; omega) (by decide) ?_
    intro s' h' o hoff _ _
    exact ⟨s', rfl, by simpa using o, keep_app o0 k1 hoff⟩

theorem set_cell {h0 h : Hp} {s : Sl} {l : List Ev} (o : OwnM 3 evc h0 h s l) {q : Pt} (hq : s.q = some q) {i : Nat} (hi : i < l.length) (v : Int) {K : Hp → Prop}
    (hk : ∀ ob, OwnM 3 evc h0 (upd h q.b ob) s (l.set i ⟨l[i].r, v, l[i].w⟩) → K (upd h q.b ob)) : storeK h ⟨q.b, q.o + i * 3 + 1⟩ [.int .i64 v] K := by
  have ol := o.len; have oc := o.cap
  rcases o.own with ⟨h1, _⟩ | ⟨q', cc, ty, h1, h2, h3, h4, h5⟩
  · rw [hq] at h1; cases h1
  · rw [hq] at h1; cases h1
    refine ⟨cc, ty, h3, by simp; omega, hk _ ⟨by simp [ol], oc, .inr ⟨q, _, _, hq, h2, upd_same _ _ _, by rw [hwr_size]; exact h4, fun j hj => ?_⟩⟩⟩
    have fl := flat_length evc3 l
    have fl2 := flat_length evc3 (l.set i ⟨l[i].r, v, l[i].w⟩)
    rw [List.length_set] at fl2
    have hjl : j < l.length * 3 := by omega
    have hd : j = j / 3 * 3 + j % 3 := by omega
    have hdi : j / 3 < l.length := by omega
    have hmod : j % 3 < 3 := by omega
    have g1 := flat_get evc3 hdi hmod
    have g2 := flat_get evc3 (l := l.set i ⟨l[i].r, v, l[i].w⟩) (i := j / 3) (by rw [List.length_set]; exact hdi) hmod
    rw [← hd] at g1 g2
    rw [List.getElem?_eq_getElem (by omega)] at g1 g2
    have h5j := h5 j (by omega)
    have hsz : q.o + j < cc.size := by omega
    simp only [hwr_one, Array.getElem?_setIfInBounds]
    rw [g2]
    by_cases hi2 : j / 3 = i
    · subst hi2
      simp only [List.getElem_set_self]
      have m3 : j % 3 = 0 ∨ j % 3 = 1 ∨ j % 3 = 2 := by omega
      rcases m3 with m | m | m
      · rw [if_neg (by omega), h5j, g1, m]; rfl
      · rw [if_pos (by omega), if_pos (by omega), m]; rfl
      · rw [if_neg (by omega), h5j, g1, m]; rfl
    · rw [if_neg (by omega), h5j, g1, List.getElem_set_ne (fun e => hi2 e.symm)]
theorem shape_erase (o : c.Ok t L) {h : Hp} {s : Sl} {l : List Ev} (r : RdM evc h s l) (hl : l.length ≤ 1000000000000) (hb : ∀ e ∈ l, EvB e) :
    callK prog 25 [c.v, vs s] h fun v h' => ∃ s', v = vs s' ∧ OwnM 3 evc h h' s' (l.map (erE c)) ∧ Keep h h' := by
  have hslo := o.slo; have hL := o.L; have hlev := o.lev
  refine c25 _ _ _ _ _ _ _ _ _ s ?_
  unfold G25
  refine newC fun b1 h1 f1 e1 k1 => ?_
  refine (clone_ev (r.keep evc3 k1) hl).mono ?_
  rintro _ h2 ⟨s1, rfl, o1, k2⟩
  refine ⟨_, rfl, rd9 (k2.get e1) ?_⟩
  refine (shape_right o).to fun h3 k3 => ⟨_, rfl, ifB_neg rfl ?_⟩
  have l1 := o1.len
  have o3 := o1.keep k3
  have e13 := (k2.trans k3).get e1
  have ne0 : ∀ p, s1.q = some p → p.b ≠ b1 := fun p hp e => by
    have := (o1.blk hp).1
    rw [e, e1] at this; cases this
  refine ⟨fun s2 q s3 n i h4 k => s1 = s2 ∧ q = ⟨b1, 0⟩ ∧ s1 = s3 ∧ n = s1.len ∧ ∃ j : Nat, i = j ∧ j ≤ l.length ∧ OwnM 3 evc h1 h4 s1 ((l.take j).map (erE c) ++ l.drop j) ∧ h4 b1 = h3 b1 ∧ Keep h1 h4 ∧ k = l.length - j,
    ⟨_, rfl, rfl, rfl, rfl, 0, rfl, Nat.zero_le _, by simpa using o3, rfl, k2.trans k3, rfl⟩, ?_⟩
  rintro s2 q s3 n i h4 k ⟨rfl, rfl, rfl, rfl, j, rfl, hj, oj, eb, k4, rfl⟩
  have e4 : h4 b1 = some (.cells #[.int .i64 c.cap, .int .i64 c.bat, .int .i64 c.kic, .int .i64 c.spi, .int .i64 c.tab, .int .i64 c.slo, .int .i64 c.sta, .int .i64 c.lev, .int .i64 c.pol] 25 (0, 0)) := by rw [eb]; exact e13
  refine ifD (fun hlt => ?_) fun hge => ?_
  · have hj' : j < l.length := by omega
    have hjj : j < ((l.take j).map (erE c) ++ l.drop j).length := by simp; omega
    have hgj : ((l.take j).map (erE c) ++ l.drop j)[j] = l[j] := by
      rw [List.getElem_append_right (by simp; omega)]
      simp [Nat.min_eq_left hj]
    have hset : ∀ x, ((l.take j).map (erE c) ++ l.drop j).set j x = (l.take j).map (erE c) ++ x :: l.drop (j + 1) := fun x => by
      rw [List.set_append_right _ _ (by simp; omega)]
      simp only [List.length_map, List.length_take, Nat.min_eq_left hj, Nat.sub_self]
      rw [List.drop_eq_getElem_cons hj', List.set_cons_zero]
    have htk : ∀ x, x = erE c l[j] → (l.take (j + 1)).map (erE c) ++ l.drop (j + 1) = (l.take j).map (erE c) ++ x :: l.drop (j + 1) := fun x hx => by
      rw [← List.take_append_getElem hj', List.map_append, List.append_assoc, hx]; rfl
    have hev := hb _ (List.getElem_mem hj')
    refine oj.rd.ix evc3 hjj fun p hp hr => ?_
    rw [hgj] at hr
    obtain ⟨e, he⟩ : ∃ e, e = l[j] := ⟨_, rfl⟩
    rw [← he] at hr hev htk
    have hes : ((l.take j).map (erE c) ++ l.drop j)[j] = e := by rw [hgj, he]
    obtain ⟨er, ea, ew⟩ := e
    obtain ⟨g1, g2, g3, _⟩ := hr
    obtain ⟨v1, v2, v3, v4⟩ := hev
    simp only at v1 v2 v3 v4
    refine ⟨_, g1, _, g2, _, g3, newC fun b2 h5 f5 e5 k5 => stW k5 f5 e5 rfl fun h6 k6 e6 _ => rdI e6 rfl ?_⟩
    have w1 : w64 (w64 (er - 3) - 1) = er - 4 := by rw [w64_id (n := er - 3) (by omega) (by omega), w64_id (by omega) (by omega)]; omega
    rw [w1]
    have e46 := k6.get e4
    have skip : erE c ⟨er, ea, ew⟩ = ⟨er, ea, ew⟩ → ∃ k3, k3 < l.length - j ∧ s1 = s1 ∧ (⟨b1, 0⟩ : Pt) = ⟨b1, 0⟩ ∧ s1 = s1 ∧ (s1.len : Int) = s1.len ∧ ∃ j' : Nat, w64 ((j : Int) + 1) = j' ∧ j' ≤ l.length ∧ OwnM 3 evc h1 h6 s1 ((l.take j').map (erE c) ++ l.drop j') ∧ h6 b1 = h3 b1 ∧ Keep h1 h6 ∧ k3 = l.length - j' := fun hsk => by
      refine ⟨_, ?_, rfl, rfl, rfl, rfl, j + 1, w64_id (by omega) (by omega), by omega, ?_, by rw [k6 b1 (by rw [e4]; simp), eb], k4.trans k6, rfl⟩
      · omega
      · rw [htk _ hsk.symm]
        have : (l.take j).map (erE c) ++ (⟨er, ea, ew⟩ : Ev) :: l.drop (j + 1) = (l.take j).map (erE c) ++ l.drop j := by rw [List.drop_eq_getElem_cons hj', ← he]
        rw [this]; exact oj.keep k6
    have er3 : (er - 4).tdiv 3 = w64 ((er - 4).tdiv 3) := by
      have h1 := Int.mul_tdiv_add_tmod (er - 4) 3
      have h2 : -3 < (er - 4).tmod 3 ∧ (er - 4).tmod 3 < 3 := ⟨by have := Int.tmod_lt_of_pos (-(er - 4)) (b := 3) (by omega); rw [Int.neg_tmod] at this; omega, Int.tmod_lt_of_pos _ (by omega)⟩
      rw [w64_id (by omega) (by omega)]
    refine ifD (fun h => skip (by simp only [erE]; rw [if_pos (.inl h)])) fun hc1 => ⟨by decide, ifB_intro (fun h => skip (by
      have h' : 0 < (er - 4).tmod 3 := by simpa using h
      simp only [erE]; rw [if_pos (.inr (.inl h'))])) fun hc2 => ⟨by decide, rdI e46 rfl (ifB_intro (fun h => skip (by
      have h' : c.lev ≤ (er - 4).tdiv 3 := by rw [er3]; simpa using h
      simp only [erE]; rw [if_pos (.inr (.inr (.inl h')))])) fun hc3 => rdI e6 rfl (ifB_neg (by simp; omega) ?_))⟩⟩
    have hc2' : ¬ 0 < (er - 4).tmod 3 := by simpa using hc2
    have hc3' : ¬ c.lev ≤ (er - 4).tdiv 3 := by rw [er3]; simpa using hc3
    refine rdI e6 rfl (rdI e46 rfl ⟨by omega, ?_⟩)
    have td := tdiv_bds v3 hslo.1
    rw [w64_id (n := ea.tdiv c.slo) (by omega) (by omega)]
    have hx : (toU (ea.tdiv c.slo) + 1).toNat = (ea.tdiv c.slo).toNat + 1 := by
      have e1 : ((toU (ea.tdiv c.slo)).toNat : Int) = ea.tdiv c.slo := toU_ok (by simp [uok]; omega)
      rw [UInt64.toNat_add]
      have : (1 : UInt64).toNat = 1 := rfl
      rw [this]; omega
    refine (word_logG _).to fun h7 k7 => ⟨_, rfl, ?_⟩
    rw [hx]
    have e47 := k7.get e46
    refine rdI e47 rfl (rdI (k7.get e6) rfl (rdI e47 rfl ⟨by omega, p, hp, by omega, by have := oj.rd.lenI; simp at this; omega, ?_⟩))
    have lg := logN_le (m := (ea.tdiv c.slo).toNat + 1) (k := 21) (by decide) (by simp; omega)
    have tm : 0 ≤ ea.tmod c.slo ∧ ea.tmod c.slo < c.slo := ⟨Int.tmod_nonneg _ v3, Int.tmod_lt_of_pos _ (by omega)⟩
    have ml : (0 : Int) ≤ (logN ((ea.tdiv c.slo).toNat + 1) : Int) * c.slo ∧ (logN ((ea.tdiv c.slo).toNat + 1) : Int) * c.slo ≤ 21 * 8 := mul_nn (by omega) (by omega) (by omega) (by omega)
    rw [w64_id (n := (logN ((ea.tdiv c.slo).toNat + 1) : Int) * c.slo) (by omega) (by omega), w64_id (n := (logN ((ea.tdiv c.slo).toNat + 1) : Int) * c.slo + ea.tmod c.slo) (by omega) (by omega)]
    have k67 := k6.trans k7
    refine set_cell (oj.keep k67) hp hjj _ fun ob ox => ?_
    rw [hes, hset] at ox
    refine ⟨_, ?_, rfl, rfl, rfl, rfl, j + 1, w64_id (by omega) (by omega), by omega, ?_, ?_, ?_, rfl⟩
    · omega
    · rw [htk _ (by simp only [erE]; rw [if_neg (by omega)])]; exact ox
    · rw [upd_ne _ _ fun e => ne0 p hp e.symm, k67 b1 (by rw [e4]; simp), eb]
    · intro b hb
      have hbp : b ≠ p.b := fun e => hb (e ▸ (oj.blk hp).1)
      rw [upd_ne _ _ hbp, k67 b (by rw [k4 b hb]; exact hb), k4 b hb]
  · have : j = l.length := by omega
    subst this
    refine ⟨s1, rfl, ?_, k1.trans k4⟩
    have := oj.baseK k1
    simpa using this
end
end Go.Proofs.Tryz

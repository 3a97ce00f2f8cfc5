/- Chapters 11 and 13: stores' sizes, and configs that are right. -/
import Derived.Test.YtecaoigobpekdaaGreatDoorBase
namespace Go.Proofs.Tryz
open Go Go.Sh Go.RowKit
set_option maxRecDepth 8000

theorem rtI : RowT prog 22 3 (.int .i64 0) 8 := ⟨by kernel_rfl, by kernel_rfl, by kernel_rfl, by kernel_rfl, rfl⟩

structure StOk (m : Nat) (s t : Int) (L : Nat) : Prop where
  m : m ≤ 10
  s : 1 ≤ s ∧ s ≤ 8
  t : 1 ≤ t ∧ t ≤ 64
  L : 1 ≤ L ∧ L ≤ 4
theorem StOk.lev {m : Nat} {s t : Int} {L : Nat} (o : StOk m s t L) (h : Nat) : LevOk (m - 2 * h) s t := ⟨by have := o.m; omega, o.s, o.t⟩
abbrev v4 (m : Nat) (s t : Int) (L : Nat) : Value := .agg #[.int .i64 (2 ^ m), .int .i64 s, .int .i64 t, .int .i64 L]
theorem step4 {j : Nat} (hj : j ≤ 10) : max (w64 (((2 : Int) ^ j).tdiv 4)) 1 = 2 ^ (j - 2) := by
  have key : ∀ j : Fin 11, max (((2 : Int) ^ j.val).tdiv 4) 1 = 2 ^ (j.val - 2) ∧ 0 ≤ ((2 : Int) ^ j.val).tdiv 4 ∧ ((2 : Int) ^ j.val).tdiv 4 ≤ 1024 := by decide
  obtain ⟨h1, h2, h3⟩ := key ⟨j, by omega⟩
  simp only at h1 h2 h3
  rw [w64_id (by omega) (by omega), h1]

theorem store_blocks {m : Nat} {s t : Int} {L : Nat} (o : StOk m s t L) (n : Nat) (hn : n ≤ 100) : PureC prog 66 [v4 m s t L, .int .i64 n] (.int .i64 (2 ^ (m - 2 * n))) := by
  intro h
  refine c66 _ s t L n ?_
  unfold G66
  refine newC fun b1 h1 _ e1 k1 => rdI e1 rfl ?_
  refine ⟨fun x l i h2 k => l = n ∧ ∃ j : Nat, i = j ∧ j ≤ n ∧ x = 2 ^ (m - 2 * j) ∧ Keep h h2 ∧ k = n - j, ⟨_, rfl, 0, rfl, Nat.zero_le _, rfl, k1, rfl⟩, ?_⟩
  rintro x l i h2 k ⟨rfl, j, rfl, hj, rfl, k2, rfl⟩
  refine ifD (fun hlt => ⟨by decide, _, ?_, rfl, j + 1, w64_id (by omega) (by omega), by omega, ?_, k2, rfl⟩) fun hge => ?_
  · omega
  · rw [step4 (by have := o.m; omega)]; rfl
  · have : j = n := by omega
    subst this; exact ⟨rfl, k2⟩
theorem store_level {m : Nat} {s t : Int} {L : Nat} (o : StOk m s t L) (n : Nat) (hn : n ≤ 100) : PureC prog 45 [v4 m s t L, .int .i64 n] (.agg #[.int .i64 (2 ^ (m - 2 * n)), .int .i64 s, .int .i64 t]) := by
  intro h
  refine c45 _ s t L n ?_
  unfold G45
  refine newC fun b1 h1 _ e1 k1 => newC fun b2 h2 f2 e2 k2 => rd4 (k2.get e1) (rdI (k2.get e1) rfl (rdI (k2.get e1) rfl ?_))
  refine (store_blocks o n hn).to fun h3 k3 => ⟨_, rfl, ⟨rd1 ((k2.trans k3).get e1) rfl, trivial⟩, ⟨rd1 ((k2.trans k3).get e1) rfl, trivial⟩, ?_⟩
  exact stN ((k1.trans k2).trans k3) (k1.free f2) (k3.get e2) (by simp) fun h4 k4 e4 _ => rd3 e4 ⟨rfl, k4⟩
theorem store_top {m : Nat} {s t : Int} {L : Nat} (o : StOk m s t L) : PureC prog 41 [v4 m s t L] (.int .i64 (2 ^ (m - 2 * (L - 1)))) := by
  intro h
  have hL := o.L
  refine c41 _ s t L ?_
  unfold G41
  refine newC fun b1 h1 _ e1 k1 => rd4 e1 (rdI e1 rfl ?_)
  rw [w64_id (by omega) (by omega), show (L : Int) - 1 = ((L - 1 : Nat) : Int) by omega]
  exact (store_blocks o (L - 1) (by omega)).to fun h2 k2 => ⟨_, rfl, rfl, k1.trans k2⟩
theorem store_down {m : Nat} {s t : Int} {L : Nat} (h : Hp) : callK prog 43 [v4 m s t L] h fun v h' => ∃ b, v = .func (.func 67) #[] #[vp ⟨b, 0⟩] ∧ h b = none ∧
    h' b = some (.cells #[.int .i64 (2 ^ m), .int .i64 s, .int .i64 t, .int .i64 L] 48 (0, 0)) ∧ Keep h h' := by
  refine c43 _ s t L ?_
  unfold G43
  exact newC fun b1 h1 f1 e1 k1 => ⟨b1, rfl, f1, e1, k1⟩
theorem store_down1 {h : Hp} {q : Pt} {L : Nat} (hL : L ≤ 1000) {y : Value} (S : Nat → Hp → Prop) (h0 : S 0 h) (hc : hcell h q.b (q.o + 3) = some (.int .i64 L))
    (step : ∀ i h', i < L → S i h' → callV prog y [.int .i64 ((L : Int) - 1 - i)] h' fun v h'' => v = .bool true ∧ S (i + 1) h'') :
    callK prog 67 [y, vp q] h fun _ h' => S L h' := by
  refine c67 y q ?_
  unfold G67
  refine ⟨L, hc, fun v n h1 k => v = y ∧ ∃ i : Nat, n = (L : Int) - 1 - i ∧ i ≤ L ∧ S i h1 ∧ k = L - i, ⟨_, rfl, 0, by rw [w64_id (by omega) (by omega)]; simp, Nat.zero_le _, h0, rfl⟩, ?_⟩
  rintro v n h1 k ⟨rfl, i, rfl, hi, hs, rfl⟩
  refine ifD (fun hlt => ?_) fun hge => ?_
  · refine (step i h1 (by omega) hs).mono ?_
    rintro _ h2 ⟨rfl, hs2⟩
    exact ⟨_, rfl, ifB_pos rfl ⟨_, by omega, rfl, i + 1, by rw [w64_id (by omega) (by omega)]; omega, by omega, hs2, rfl⟩⟩
  · have : i = L := by omega
    subst this; exact hs

theorem store_right {m : Nat} {s t : Int} {L : Nat} (o : StOk m s t L) : PureC prog 39 [v4 m s t L] (.bool true) := by
  intro h
  have hL := o.L
  refine c39 _ s t L ?_
  unfold G39
  refine newC fun b1 h1 f1 e1 k1 => newC fun b2 h2 f2 e2 k2 => rdI (k2.get e1) rfl (ifD (fun e => absurd e (by omega)) fun _ => rdI (k2.get e1) rfl (ifD (fun e => absurd e (by omega)) fun _ => rd4 (k2.get e1) ?_))
  refine (store_down h2).mono ?_
  rintro _ h3 ⟨b, rfl, fb, eb, k3⟩
  refine ⟨_, rfl, trivial, fun z k hk hr => ⟨rfl, ?_⟩⟩
  have kz : Keep h3 (upd h3 k (rdyL z)) := (Keep.refl h3).upd hk _
  refine (store_down1 (L := L) (q := ⟨b, 0⟩) (y := yv k) (by omega) (fun i h' => h' k = some (rdyL z) ∧ Keep h3 h') ⟨upd_same _ _ _, kz⟩ (rd1 (kz.get eb) rfl) ?_).mono ?_
  · rintro i h' hi ⟨hz, kk⟩
    refine ⟨rfl, rfl, hr _ h' _ hz ⟨hz, ?_⟩⟩
    have kb : Keep h3 (upd h' k (busyL z)) := kk.upd hk _
    refine rd4 (((k2.trans k3).trans kb).get e1) ?_
    obtain ⟨j, hj⟩ : ∃ j : Nat, (L : Int) - 1 - i = j := ⟨L - 1 - i, by omega⟩
    rw [hj]
    refine (store_level o j (by omega)).to fun h5 k5 => ⟨_, _, _, rfl, ?_⟩
    refine (level_right (o.lev j)).to fun h6 k6 => ⟨_, rfl, ifB_neg rfl ⟨(k5.trans k6).get (upd_same _ _ _), rfl, upd_same _ _ _, ?_⟩⟩
    exact (kb.trans (k5.trans k6)).upd hk _
  · rintro _ h4 ⟨hz, kk⟩
    refine .inr ⟨hz, ?_⟩
    have kg : Keep h3 (upd h4 k (goneL z none)) := kk.upd hk _
    exact stN ((k1.trans k2).trans (k3.trans kg)) (k1.free f2) ((k3.trans kg).get e2) (by simp) fun h5 k5 e5 _ => ⟨_, rd1 e5 rfl, rfl, k5⟩

/-- how many cells the regions need -/
def levL (m : Nat) (s t : Int) (h : Nat) : List Int := [s * (2 * 2 ^ (m - 2 * h) - 1), t, tbl (m - 2 * h) s t]
def sizesL (m : Nat) (s t : Int) (L n : Nat) : List Int := (2 ^ (m - 2 * (L - 1)) : Int) :: (List.range n).flatMap (levL m s t)
theorem sizesL_succ (m : Nat) (s t : Int) (L n : Nat) : sizesL m s t L (n + 1) = sizesL m s t L n ++ levL m s t n := by
  simp [sizesL, List.range_succ]
theorem sizesL_length (m : Nat) (s t : Int) (L n : Nat) : (sizesL m s t L n).length = 3 * n + 1 := by
  induction n with
  | zero => rfl
  | succ n ih => rw [sizesL_succ, List.length_append, ih]; simp [levL]; omega
theorem store_sizes {m : Nat} {s t : Int} {L : Nat} (o : StOk m s t L) (h : Hp) : callK prog 47 [v4 m s t L] h fun v h' => ∃ x, v = vs x ∧ OwnS iv h h' x (sizesL m s t L L) ∧ Keep h h' := by
  have hL := o.L
  refine c47 _ s t L ?_
  unfold G47
  refine newC fun b1 h1 f1 e1 k1 => rd4 e1 ?_
  refine (store_right o).to fun h2 k2 => ⟨_, rfl, ifB_neg rfl (rd4 (k2.get e1) ?_)⟩
  refine (store_top o).to fun h3 k3 => ⟨_, rfl, fun b2 hb2 => ?_⟩
  have k03 := (k1.trans k2).trans k3
  have k4 : Keep h3 (upd h3 b2 (.cells #[.int .i64 (2 ^ (m - 2 * (L - 1)))] 3)) := (Keep.refl h3).upd hb2 _
  have o1 : OwnS iv h (upd h3 b2 (.cells #[.int .i64 (2 ^ (m - 2 * (L - 1)))] 3)) ⟨some ⟨b2, 0⟩, 1, 1, none⟩ (sizesL m s t L 0) := OwnS.new (f := iv) (l := [2 ^ (m - 2 * (L - 1))]) (k03.free hb2) 1 rfl
  have e4 := (k2.trans (k3.trans k4)).get e1
  have e13 := (k2.trans k3).get e1
  have b10 : ∀ p, Sl.q ⟨some ⟨b2, 0⟩, 1, 1, none⟩ = some p → b1 ≠ p.b := by
    intro p hp e
    cases hp
    rw [show b1 = b2 from e, hb2] at e13; cases e13
  refine rdI e4 rfl ?_
  refine ⟨fun q x l i h5 k => q = ⟨b1, 0⟩ ∧ l = L ∧ ∃ j : Nat, i = j ∧ j ≤ L ∧ OwnS iv h h5 x (sizesL m s t L j) ∧ (∀ p, x.q = some p → b1 ≠ p.b) ∧ h5 b1 = some (.cells #[.int .i64 (2 ^ m), .int .i64 s, .int .i64 t, .int .i64 L] 48 (0, 0)) ∧ Keep h h5 ∧ k = L - j,
    ⟨_, rfl, rfl, 0, rfl, Nat.zero_le _, o1, b10, e4, k03.trans k4, rfl⟩, ?_⟩
  rintro q x l i h5 k ⟨rfl, rfl, j, rfl, hj, oj, b1n, e5, k5, rfl⟩
  refine ifD (fun hlt => ?_) fun hge => ?_
  · refine rd4 e5 ?_
    refine (store_level o j (by omega)).to fun h6 k6 => ⟨_, _, _, rfl, ?_⟩
    refine (level_sizes (o.lev j)).to fun h7 k7 => ⟨_, _, _, rfl, newC fun b3 h8 hb3 e8 k8 => ?_⟩
    have k57 := k6.trans k7
    have y : OwnS iv h h8 ⟨some ⟨b3, 0⟩, 3, 3, none⟩ (levL m s t j) := OwnS.newE (f := iv) (l := levL m s t j) (k5.free (k57.free hb3)) e8 rfl rfl
    have o5 := (oj.keep k57).keep k8
    have room : ((sizesL m s t L j).length + (levL m s t j).length) * 8 ≤ 140737488355328 := by rw [sizesL_length, show (levL m s t j).length = 3 from rfl]; omega
    refine OwnS.app rtI iv_one o5 y.rd (fun c hc => k5.free (k57.free (k8.free hc))) room (by decide) ?_
    intro x' h9 o9 f9 w9 fr9
    refine ⟨_, by omega, rfl, rfl, j + 1, w64_id (by omega) (by omega), by omega, by rw [sizesL_succ]; exact o9, fun p' hp' e => ?_, ?_, ?_, rfl⟩
    · rcases w9 p' hp' with ⟨p, hp, h⟩ | h
      · exact b1n p hp (e.trans h)
      · rw [← e, (k57.trans k8).get e5] at h; cases h
    · rw [f9 b1 (by rw [(k57.trans k8).get e5]; simp) b1n, (k57.trans k8).get e5]
    · intro c hc
      have h1 : h5 c ≠ none := by rw [k5 c hc]; exact hc
      have h2 : h8 c = h5 c := (k57.trans k8) c h1
      rw [f9 c (by rw [h2]; exact h1) (fun p hp e => hc (e ▸ (oj.blk hp).1)), h2, k5 c hc]
  · have : j = L := by omega
    subst this; exact ⟨_, rfl, oj, k5⟩

/-! ## configs -/
structure Cfg where
  cap : Int
  bat : Int
  kic : Int
  spi : Int
  tab : Int
  slo : Int
  sta : Int
  lev : Int
  pol : Int
abbrev Cfg.v (c : Cfg) : Value := .agg #[.int .i64 c.cap, .int .i64 c.bat, .int .i64 c.kic, .int .i64 c.spi, .int .i64 c.tab, .int .i64 c.slo, .int .i64 c.sta, .int .i64 c.lev, .int .i64 c.pol]
structure Cfg.Ok (c : Cfg) (t L : Nat) : Prop where
  ht : t ≤ 7
  tab : c.tab = 2 ^ t
  lev : c.lev = L
  L : 1 ≤ L ∧ L ≤ 4
  cap : 1 ≤ c.cap ∧ c.cap ≤ 64
  bat : 1 ≤ c.bat ∧ c.bat ≤ 16
  kic : 1 ≤ c.kic ∧ c.kic ≤ 16
  spi : 1 ≤ c.spi ∧ c.spi ≤ 32
  pol : 0 ≤ c.pol ∧ c.pol ≤ 2
  fit : c.cap + c.bat ≤ 2 ^ t
  slo : 1 ≤ c.slo ∧ c.slo ≤ 8
  sta : 1 ≤ c.sta ∧ c.sta ≤ 64
  cells : c.slo * (2 * 2 ^ (t + 2) - 1) ≤ 4096
theorem Cfg.Ok.st {c : Cfg} {t L : Nat} (o : c.Ok t L) : StOk (t + 2) c.slo c.sta L := ⟨by have := o.ht; omega, o.slo, o.sta, o.L⟩
theorem Cfg.Ok.pow {c : Cfg} {t L : Nat} (o : c.Ok t L) : (1 : Int) ≤ 2 ^ t ∧ (2 : Int) ^ t ≤ 128 := by
  have h1 := pow_le_pow (Nat.zero_le t); have h2 := pow_le_pow o.ht; simp at h1 h2; omega
theorem round_pow {t : Nat} (ht : t ≤ 61) : roundI (2 ^ t) = 2 ^ t := by
  cases t with
  | zero => rfl
  | succ t =>
    refine roundI_pow (by omega) ?_ (Int.le_refl _)
    have := pow_le_pow (Nat.zero_le t); simp at this; rw [Int.pow_succ]; omega
theorem Cfg.Ok.blocks {c : Cfg} {t L : Nat} (o : c.Ok t L) : roundI (2 * c.tab + (c.cap + c.bat)) = 2 ^ (t + 2) := by
  have := o.pow; have := o.fit; have := o.cap; have := o.bat; have := o.tab
  have e1 : (2 : Int) ^ (t + 1) = 2 * 2 ^ t := by rw [Int.pow_succ]; omega
  have e2 : (2 : Int) ^ (t + 2) = 4 * 2 ^ t := by rw [Int.pow_succ, e1]; omega
  exact roundI_pow (k := t + 1) (by have := o.ht; omega) (by omega) (by show _ ≤ (2 : Int) ^ (t + 2); omega)

theorem config_cells {c : Cfg} {t L : Nat} (o : c.Ok t L) : PureC prog 37 [c.v] (.int .i64 (c.cap + c.bat)) := by
  intro h
  have := o.cap; have := o.bat
  refine c37 _ _ _ _ _ _ _ _ _ ?_
  unfold G37
  refine newC fun b1 h1 _ e1 k1 => rdI e1 rfl (rdI e1 rfl ⟨by rw [w64_id (by omega) (by omega)], k1⟩)
theorem config_store' {c : Cfg} {t L : Nat} (o : c.Ok t L) : PureC prog 38 [c.v] (v4 (t + 2) c.slo c.sta L) := by
  intro h
  have := o.cap; have := o.bat; have := o.pow; have := o.fit; have := o.tab
  refine c38 _ _ _ _ _ _ _ _ _ ?_
  unfold G38
  refine newC fun b1 h1 _ e1 k1 => newC fun b2 h2 f2 e2 k2 => ?_
  have e := k2.get e1
  refine rdI e rfl (rd9 e (rdI e rfl (rdI e rfl (rdI e rfl ?_))))
  refine (config_cells o).to fun h3 k3 => ⟨_, rfl, ?_⟩
  have e3 := k3.get e
  refine ⟨⟨rd1 e3 rfl, trivial⟩, ⟨rd1 e3 rfl, trivial⟩, ⟨rd1 e3 rfl, trivial⟩, ⟨rd1 e3 rfl, trivial⟩, ?_⟩
  rw [w64_id (n := 2 * c.tab) (by omega) (by omega), w64_id (by omega) (by omega)]
  refine (word_round _ (by omega)).to fun h4 k4 => ⟨_, rfl, ?_⟩
  have e4 := k4.get e3
  refine ⟨⟨rd1 e4 rfl, trivial⟩, ⟨rd1 e4 rfl, trivial⟩, ⟨rd1 e4 rfl, trivial⟩, ?_⟩
  refine stN (((k1.trans k2).trans k3).trans k4) (k1.free f2) ((k3.trans k4).get e2) (by simp) fun h5 k5 e5 _ => rd4 e5 ⟨?_, k5⟩
  rw [o.blocks, o.lev]
theorem config_table {c : Cfg} {t L : Nat} (o : c.Ok t L) : PureC prog 89 [c.v] (.int .i64 0) := by
  intro h
  have := o.cap; have := o.bat; have := o.pow; have := o.fit; have := o.tab
  refine c89 _ _ _ _ _ _ _ _ _ ?_
  unfold G89
  refine newC fun b1 h1 _ e1 k1 => rdI e1 rfl (ifD (fun e => absurd e (by omega)) fun _ => rdI e1 rfl (ifB_neg (by simp; omega) (rdI e1 rfl (rdI e1 rfl ?_))))
  refine (word_round _ (by omega)).to fun h2 k2 => ⟨_, rfl, ⟨rd1 (k2.get e1) rfl, trivial⟩, ?_⟩
  refine ifN (fun e => absurd (by rw [o.tab, round_pow (by have := o.ht; omega)]) e) fun _ => ?_
  have e2 := k2.get e1
  refine rdI e2 rfl (rd9 e2 ?_)
  refine (config_cells o).to fun h3 k3 => ⟨_, rfl, ⟨rd1 (k3.get e2) rfl, trivial⟩, ifD (fun e => absurd e (by omega)) fun _ => ⟨rfl, (k1.trans k2).trans k3⟩⟩
theorem config_large {n : Int} (hn : n ≤ 4096) : PureC prog 109 [iv n] (.bool false) := by
  intro h
  refine c109 n ?_
  exact ⟨by simp; omega, Keep.refl h⟩
theorem index_none {h : Hp} {s : Sl} {l : List Int} (r : RdS iv h s l) (hl : l.length ≤ 1000000) {g : FuncId} (hp : ∀ x ∈ l, PureC prog g [iv x] (.bool false)) :
    callK prog 127 [vs s, .func (.func g) #[] #[]] h fun v h' => v = .int .i64 (-1) ∧ Keep h h' := by
  refine c127 s _ ?_
  unfold G127
  refine ⟨fun s1 v n i h1 k => s1 = s ∧ v = .func (.func g) #[] #[] ∧ n = s.len ∧ ∃ j : Nat, i = j ∧ Keep h h1 ∧ k = s.len - j, ⟨_, rfl, rfl, rfl, 0, rfl, Keep.refl h, rfl⟩, ?_⟩
  rintro s1 v n i h1 k ⟨rfl, rfl, rfl, j, rfl, k1, rfl⟩
  have := r.len
  refine ifD (fun hlt => ?_) fun _ => ⟨rfl, k1⟩
  have hj : j < l.length := by omega
  refine (r.keep k1).ix hj fun q _ hc => ⟨_, hc, ?_⟩
  refine PureC.toV (cs := []) (hp _ (List.getElem_mem hj)) fun h2 k2 => ⟨_, rfl, ifB_neg rfl ⟨_, ?_, rfl, rfl, rfl, j + 1, w64_id (by omega) (by omega), k1.trans k2, rfl⟩⟩
  omega
theorem contains_none {h : Hp} {s : Sl} {l : List Int} (r : RdS iv h s l) (hl : l.length ≤ 1000000) {g : FuncId} (hp : ∀ x ∈ l, PureC prog g [iv x] (.bool false)) :
    callK prog 110 [vs s, .func (.func g) #[] #[]] h fun v h' => v = .bool false ∧ Keep h h' := by
  refine c110 s _ ?_
  refine (index_none r hl hp).mono ?_
  rintro _ h1 ⟨rfl, k1⟩
  exact ⟨_, rfl, rfl, k1⟩
theorem mul_le_r {s a b : Int} (hs : 1 ≤ s) (h : a ≤ b) : s * a ≤ s * b := Int.mul_le_mul_of_nonneg_left h (by omega)
theorem Cfg.Ok.sizes {c : Cfg} {t L : Nat} (o : c.Ok t L) {n : Nat} {x : Int} (hx : x ∈ sizesL (t + 2) c.slo c.sta L n) : 1 ≤ x ∧ x ≤ 4096 := by
  unfold sizesL at hx
  rcases List.mem_cons.1 hx with rfl | hx
  · have := pow_bds (k := t + 2 - 2 * (L - 1)) (by have := o.ht; omega); omega
  · obtain ⟨j, _, hj⟩ := List.mem_flatMap.1 hx
    have ho := o.st.lev j
    have ht := ho.tblB; have hp := ho.plcB; have hst := o.sta; have hb := pow_bds ho.k
    simp only [levL, List.mem_cons, List.not_mem_nil, or_false] at hj
    rcases hj with rfl | rfl | rfl
    · have h1 := mul_le_r (s := c.slo) (a := 2 * 2 ^ (t + 2 - 2 * j) - 1) (b := 2 * 2 ^ (t + 2) - 1) o.slo.1 (by have := pow_le_pow (a := t + 2 - 2 * j) (b := t + 2) (by omega); omega)
      have h2 := mul_le_r (s := c.slo) (a := 1) (b := 2 * 2 ^ (t + 2 - 2 * j) - 1) o.slo.1 (by omega)
      have := o.cells; have := o.slo
      omega
    · omega
    · omega
theorem config_levels {c : Cfg} {t L : Nat} (o : c.Ok t L) : PureC prog 90 [c.v] (.int .i64 0) := by
  intro h
  have hL := o.L
  refine c90 _ _ _ _ _ _ _ _ _ ?_
  unfold G90
  refine newC fun b1 h1 _ e1 k1 => rd9 e1 ?_
  refine (config_store' o).to fun h2 k2 => ⟨_, _, _, _, rfl, ?_⟩
  refine (store_right o.st).to fun h3 k3 => ⟨_, rfl, ifB_neg rfl (rd9 ((k2.trans k3).get e1) ?_)⟩
  refine (config_store' o).to fun h4 k4 => ⟨_, _, _, _, rfl, ?_⟩
  refine (store_sizes o.st h4).mono ?_
  rintro _ h5 ⟨x, rfl, ox, k5⟩
  refine ⟨_, rfl, ?_⟩
  refine (contains_none ox.rd (by rw [sizesL_length]; omega) fun n hn => config_large (o.sizes hn).2).mono ?_
  rintro _ h6 ⟨rfl, k6⟩
  exact ⟨_, rfl, ifB_neg rfl ⟨rfl, (k1.trans k2).trans ((k3.trans k4).trans (k5.trans k6))⟩⟩
theorem config_check {c : Cfg} {t L : Nat} (o : c.Ok t L) : PureC prog 64 [c.v] .nilIface := by
  intro h
  refine c64 _ _ _ _ _ _ _ _ _ ?_
  unfold G64
  refine newC fun b1 h1 f1 e1 k1 => rdI e1 rfl (rdI e1 rfl (rdI e1 rfl (rdI e1 rfl (rdI e1 rfl (newC fun b2 h2 f2 e2 k2 => ?_)))))
  refine ⟨fun q s n i h3 k => q = ⟨b1, 0⟩ ∧ s = ⟨some ⟨b2, 0⟩, 5, 5, none⟩ ∧ n = 5 ∧ ∃ j : Nat, i = j ∧ j ≤ 5 ∧ Keep h2 h3 ∧ k = 5 - j, ⟨_, rfl, rfl, rfl, 0, rfl, by omega, Keep.refl _, rfl⟩, ?_⟩
  rintro q s n i h3 k ⟨rfl, rfl, rfl, j, rfl, hj, k3, rfl⟩
  refine ifD (fun hlt => ?_) fun hge => ?_
  · have row : ∃ (y : ByteArray) (a l m : Int), hcell h3 b2 (0 + j * 4) = some (.string y) ∧ hcell h3 b2 (0 + j * 4 + 1) = some (.int .i64 a) ∧ hcell h3 b2 (0 + j * 4 + 1 + 1) = some (.int .i64 l) ∧ hcell h3 b2 (0 + j * 4 + 1 + 1 + 1) = some (.int .i64 m) ∧ l ≤ a ∧ a ≤ m := by
      have e := k3.get e2
      have h5 : j = 0 ∨ j = 1 ∨ j = 2 ∨ j = 3 ∨ j = 4 := by omega
      rcases h5 with rfl | rfl | rfl | rfl | rfl
      · exact ⟨_, _, _, _, rd1 e rfl, rd1 e rfl, rd1 e rfl, rd1 e rfl, o.cap.1, o.cap.2⟩
      · exact ⟨_, _, _, _, rd1 e rfl, rd1 e rfl, rd1 e rfl, rd1 e rfl, o.bat.1, o.bat.2⟩
      · exact ⟨_, _, _, _, rd1 e rfl, rd1 e rfl, rd1 e rfl, rd1 e rfl, o.kic.1, o.kic.2⟩
      · exact ⟨_, _, _, _, rd1 e rfl, rd1 e rfl, rd1 e rfl, rd1 e rfl, o.spi.1, o.spi.2⟩
      · exact ⟨_, _, _, _, rd1 e rfl, rd1 e rfl, rd1 e rfl, rd1 e rfl, o.pol.1, o.pol.2⟩
    obtain ⟨y, a, l, m, r1, r2, r3, r4, hl, hm⟩ := row
    refine ⟨⟨b2, 0⟩, rfl, by omega, by show (j : Int) + 1 ≤ ((5 : Nat) : Int); omega, y, r1, a, r2, l, r3, m, r4, newC fun b3 h4 f3 e3 k4 => ?_⟩
    refine stN k4 f3 e3 (by simp) fun h5 k5 e5 _ => rdI e5 rfl (rdI e5 rfl (ifD (fun e => absurd e (by omega)) fun _ => rdI e5 rfl (rdI e5 rfl (ifB_neg (by simp; omega) ?_))))
    exact ⟨_, by omega, rfl, rfl, rfl, j + 1, w64_id (by omega) (by omega), by omega, k3.trans k5, rfl⟩
  · have e3 := (k2.trans k3).get e1
    refine rd9 e3 ?_
    refine (config_table o).to fun h4 k4 => ⟨_, rfl, ifN (fun e => absurd rfl e) fun _ => rd9 (k4.get e3) ?_⟩
    refine (config_levels o).to fun h5 k5 => ⟨_, rfl, ifN (fun e => absurd rfl e) fun _ => ⟨rfl, ((k1.trans k2).trans k3).trans (k4.trans k5)⟩⟩
theorem errors_as (x : Value) : PureC prog 78 [.nilIface, x] (.bool false) := by
  intro h
  refine c78 .nilIface x ?_
  exact .inl ⟨rfl, rfl, Keep.refl h⟩
theorem config_why {c : Cfg} {t L : Nat} (o : c.Ok t L) (h : Hp) : callK prog 52 [c.v] h fun v h' => (∃ y, v = .tuple #[.string y, .int .i64 0]) ∧ Keep h h' := by
  refine c52 _ _ _ _ _ _ _ _ _ ?_
  unfold G52
  refine newC fun b1 h1 f1 e1 k1 => rd9 e1 ?_
  refine (config_check o).to fun h2 k2 => ⟨_, rfl, newC fun b2 h3 f3 e3 k3 => ?_⟩
  refine (errors_as _).to fun h4 k4 => ⟨_, rfl, ifB_pos rfl ⟨⟨_, rfl⟩, (k1.trans k2).trans (k3.trans k4)⟩⟩
theorem config_right {c : Cfg} {t L : Nat} (o : c.Ok t L) : PureC prog 36 [c.v] (.bool true) := by
  intro h
  refine c36 _ _ _ _ _ _ _ _ _ ?_
  unfold G36
  refine newC fun b1 h1 f1 e1 k1 => rd9 e1 ?_
  refine (config_check o).to fun h2 k2 => ⟨_, rfl, .inl ⟨rfl, rfl, k1.trans k2⟩⟩
theorem config_store {c : Cfg} {t L : Nat} (o : c.Ok t L) : PureC prog 22 [c.v] (v4 (t + 2) c.slo c.sta L) := by
  intro h
  refine c22 _ _ _ _ _ _ _ _ _ ?_
  unfold G22
  refine newC fun b1 h1 f1 e1 k1 => newC fun b2 h2 f2 e2 k2 => rd9 (k2.get e1) ?_
  refine (config_right o).to fun h3 k3 => ⟨_, rfl, ifB_neg rfl (rd9 ((k2.trans k3).get e1) ?_)⟩
  refine (config_store' o).to fun h4 k4 => ⟨_, _, _, _, rfl, ?_⟩
  exact stN ((k1.trans k2).trans (k3.trans k4)) (k1.free f2) ((k3.trans k4).get e2) (by simp) fun h5 k5 e5 _ => rd4 e5 ⟨rfl, k5⟩
theorem config_accesses {c : Cfg} {t L : Nat} (o : c.Ok t L) : PureC prog 21 [c.v] (.tuple #[.int .i64 (2 * c.kic + 5), .int .i64 (c.cap + 5 * c.bat)]) := by
  intro h
  have := o.cap; have := o.bat; have := o.kic
  refine c21 _ _ _ _ _ _ _ _ _ ?_
  unfold G21
  refine newC fun b1 h1 f1 e1 k1 => rd9 e1 ?_
  refine (config_right o).to fun h2 k2 => ⟨_, rfl, ifB_neg rfl ?_⟩
  have e2 := k2.get e1
  refine rdI e2 rfl (rd9 e2 (rdI e2 rfl ?_))
  refine (config_cells o).to fun h3 k3 => ⟨_, rfl, ⟨rd1 (k3.get e2) rfl, trivial⟩, ⟨rd1 (k3.get e2) rfl, trivial⟩, ?_, (k1.trans k2).trans k3⟩
  rw [w64_id (n := 2 * c.kic) (by omega) (by omega), w64_id (n := 4 * c.bat) (by omega) (by omega), w64_id (by omega) (by omega), w64_id (by omega) (by omega), show c.cap + c.bat + 4 * c.bat = c.cap + 5 * c.bat by omega]

/-! ## chapter 20: what there is to be seen: sizes -/
theorem shape_right {c : Cfg} {t L : Nat} (o : c.Ok t L) : PureC prog 29 [c.v] (.bool true) := by
  intro h
  refine c29 _ _ _ _ _ _ _ _ _ ?_
  unfold G29
  refine newC fun b1 h1 f1 e1 k1 => rd9 e1 ?_
  refine (config_why o h1).mono ?_
  rintro _ h2 ⟨⟨y, rfl⟩, k2⟩
  exact ⟨_, _, rfl, rfl, k1.trans k2⟩
/-- how many ways -/
def waysI (c : Cfg) (n : Int) : Int := c.lev * (max 0 (min n 4096) * (2 * c.kic + 5) + (max 0 (min n 4096)).tdiv c.bat * (c.cap + 5 * c.bat))
theorem tdiv_bds {a b : Int} (ha : 0 ≤ a) (hb : 1 ≤ b) : 0 ≤ a.tdiv b ∧ a.tdiv b ≤ a := by
  obtain ⟨n, rfl⟩ := Int.eq_ofNat_of_zero_le ha
  obtain ⟨m, rfl⟩ := Int.eq_ofNat_of_zero_le (show 0 ≤ b by omega)
  have := Nat.div_le_self n m
  rw [← Int.ofNat_tdiv]
  generalize n / m = d at *
  omega
theorem mul_nn {a b c d : Int} (h1 : 0 ≤ a) (h2 : a ≤ b) (h3 : 0 ≤ c) (h4 : c ≤ d) : 0 ≤ a * c ∧ a * c ≤ b * d :=
  ⟨Int.mul_nonneg h1 h3, Int.mul_le_mul h2 h4 h3 (by omega)⟩
theorem shape_ways {c : Cfg} {t L : Nat} (o : c.Ok t L) (n : Int) : PureC prog 15 [c.v, .int .i64 n] (.int .i64 (waysI c n)) := by
  intro h
  have h1 := o.cap; have h2 := o.bat; have h3 := o.kic; have h4 := o.lev; have h5 := o.L
  refine c15 _ _ _ _ _ _ _ _ _ n ?_
  unfold G15
  refine newC fun b1 h1 f1 e1 k1 => rd9 e1 ?_
  refine (shape_right o).to fun h2 k2 => ⟨_, rfl, ifB_neg rfl (rd9 (k2.get e1) ?_)⟩
  refine (config_accesses o).to fun h3 k3 => ⟨_, _, rfl, ?_⟩
  have e3 := (k2.trans k3).get e1
  refine rdI e3 rfl (rdI e3 rfl ⟨by omega, ?_, (k1.trans k2).trans k3⟩)
  unfold waysI
  generalize hx : max 0 (min n 4096) = x
  have hx0 : 0 ≤ x ∧ x ≤ 4096 := by omega
  have hd := tdiv_bds hx0.1 (show 1 ≤ c.bat by omega)
  have m1 := mul_nn hx0.1 hx0.2 (c := 2 * c.kic + 5) (d := 37) (by omega) (by omega)
  have m2 := mul_nn hd.1 (show x.tdiv c.bat ≤ 4096 by omega) (c := c.cap + 5 * c.bat) (d := 144) (by omega) (by omega)
  have m3 := mul_nn (a := c.lev) (b := 4) (by omega) (by omega) (c := x * (2 * c.kic + 5) + x.tdiv c.bat * (c.cap + 5 * c.bat)) (d := 4096 * 37 + 4096 * 144) (by omega) (by omega)
  rw [w64_id (n := x * (2 * c.kic + 5)) (by omega) (by omega), w64_id (n := x.tdiv c.bat) (by omega) (by omega), w64_id (n := x.tdiv c.bat * (c.cap + 5 * c.bat)) (by omega) (by omega), w64_id (n := x * (2 * c.kic + 5) + x.tdiv c.bat * (c.cap + 5 * c.bat)) (by omega) (by omega), w64_id (by omega) (by omega)]
end Go.Proofs.Tryz

/- Stores: how accesses look at cells. -/
import Derived.Test.YtolgmdbjomlcjaaGreatEvDa
namespace Go.Proofs.Tryz
open Go Go.Sh Go.RowKit
set_option maxRecDepth 8000

theorem app_box' {α : Type} {P : Program} {Ts el : TypeId} {k : Nat} {z : Value} {by_ : Nat} (rt : RowM P Ts el k z by_) {f : α → List Value} (hf : ∀ x, (f x).length = k) (one : ∀ x, ∀ v ∈ f x, v.oneCell' = true) {T : TypeId} {h : Hp} {b : Nat} {s y : Sl} {l m : List α}
    (B : BoxS k f T h b s l) (ry : RdM f h y m) (room : (l.length + m.length) * by_ ≤ 140737488355328) (hby : 0 < by_) {X : Hp → Prop} {K : Hp → Prop}
    (hX : ∀ h2, (∀ x, h x ≠ none → ¬ Fp b s x → h2 x = h x) → X h2)
    (hk : ∀ s' h', BoxS k f T h' b s' (l ++ m) → Mv (Fp b s) h (Fp b s') h' → K h') : appK P Ts s (.s y) h fun s2 h2 => X h2 ∧ storeK h2 ⟨b, 0⟩ [vs s2] K := by
  refine OwnM.app rt hf one B.own ry (fun _ _ => rfl) room hby ?_
  intro s' h2 o2 f2 w2 fr2
  have hb0 : h b ≠ none := by rw [B.cell]; simp
  have hb2 : h2 b = h b := f2 b hb0 fun q hq e => B.ne q hq e.symm
  have ne' : ∀ p, s'.q = some p → p.b ≠ b := fun p hp e => by
    rcases w2 p hp with ⟨q, hq, h⟩ | h
    · exact B.ne q hq (h ▸ e)
    · rw [e] at h; exact hb0 h
  refine ⟨hX h2 fun x hx hn => f2 x hx fun q hq e => hn (.inr ⟨q, hq, e⟩), _, _, by rw [hb2]; exact B.cell, by simp, hk s' _ ⟨by rw [upd_same]; rfl, o2.move fun p hp => upd_ne _ _ (ne' p hp), ne'⟩ ⟨?_, ?_, ?_⟩⟩
  · rintro x (rfl | ⟨p, hp, rfl⟩)
    · exact .inl (.inl rfl)
    · rcases w2 p hp with ⟨q, hq, h⟩ | h
      · exact .inl (.inr ⟨q, hq, h⟩)
      · exact .inr h
  · intro x hx hn
    have hxb : x ≠ b := fun e => hn (.inl e)
    rw [upd_ne _ _ hxb, f2 x hx fun q hq e => hn (.inr ⟨q, hq, e⟩)]
  · intro x hx
    by_cases e : x = b
    · rw [e, upd_same] at hx; cases hx
    · rw [upd_ne _ _ e] at hx; exact fr2 x hx
theorem levEv_pos {k : Nat} {s t : Int} (first : Int) (leaf : Nat) : 0 < (levEv k s t first leaf).length := by
  have h2 : 0 < 2 ^ roundE (plc k s t) := Nat.pow_pos (by decide)
  obtain ⟨n, hn⟩ : ∃ n, 2 ^ roundE (plc k s t) = n + 1 := ⟨_, (Nat.succ_pred_eq_of_pos h2).symm⟩
  simp only [levEv, List.length_append, hn, fillEv_succ]
  simp
  omega
/-- the ways are ways -/
def WaysOk (m L : Nat) (lv : List Int) : Prop := ∀ i (hi : i < lv.length), 0 ≤ lv[i] ∧ lv[i] < 2 ^ (m - 2 * (L - 1 - i % L))
theorem store_events {m : Nat} {s0 t : Int} {L : Nat} (o : StOk m s0 t L) (first : Int) (hf : 0 ≤ first ∧ first ≤ 10) {h : Hp} {x : Sl} {lv : List Int} (rx : RdS iv h x lv) {n : Nat} (hn : lv.length = n * L) (hw : WaysOk m L lv) (hn2 : n ≤ 10000) :
    callK prog 45 [.int .i64 first, v4 m s0 t L, vs x] h fun v h' => ∃ y, v = vs y ∧ OwnM 3 evc h h' y (storeEv m s0 t L first lv n) ∧ Keep h h' := by
  have hL := o.L
  have htop := topN_le o
  refine c45 _ _ _ _ _ x ?_
  unfold G45
  refine newC fun b1 h1 f1 e1 k1 => newC fun b2 h2 f2 e2 k2 => newC fun b3 h3 f3 e3 k3 => newC fun b4 h4 f4 e4 k4 => rd4 ((k3.trans k4).get e2) ?_
  refine (store_right o).to fun h5 k5 => ⟨_, rfl, ifB_neg rfl (newC fun b5 h7 f5 e5 k7 => ?_)⟩
  have e17 := ((k2.trans k3).trans (k4.trans (k5.trans k7))).get e1
  have e27 := (k3.trans (k4.trans (k5.trans k7))).get e2
  have e37 := (k4.trans (k5.trans k7)).get e3
  have e47 := (k5.trans k7).get e4
  have k07 : Keep h h7 := ((k1.trans k2).trans (k3.trans k4)).trans (k5.trans k7)
  have n1 : h b1 = none := f1
  have n2 : h b2 = none := k1.free f2
  have n3 : h b3 = none := (k1.trans k2).free f3
  have n4 : h b4 = none := ((k1.trans k2).trans k3).free f4
  have n5 : h b5 = none := (((k1.trans k2).trans (k3.trans k4)).trans k5).free f5
  have d12 : b1 ≠ b2 := fun e => by rw [← e, e1] at f2; cases f2
  have d13 : b1 ≠ b3 := fun e => by rw [← e, k2.get e1] at f3; cases f3
  have d14 : b1 ≠ b4 := fun e => by rw [← e, (k2.trans k3).get e1] at f4; cases f4
  have d15 : b1 ≠ b5 := fun e => by rw [← e, ((k2.trans k3).trans (k4.trans k5)).get e1] at f5; cases f5
  have d23 : b2 ≠ b3 := fun e => by rw [← e, e2] at f3; cases f3
  have d25 : b2 ≠ b5 := fun e => by rw [← e, (k3.trans (k4.trans k5)).get e2] at f5; cases f5
  have d34 : b4 ≠ b3 := fun e => by rw [e, e3] at f4; cases f4
  have d35 : b3 ≠ b5 := fun e => by rw [← e, (k4.trans k5).get e3] at f5; cases f5
  have d45 : b4 ≠ b5 := fun e => by rw [← e, k5.get e4] at f5; cases f5
  let FF : Sl → Nat → Prop := fun s x => x = b3 ∨ Fp b5 s x
  have F0n : ∀ b, FF ⟨none, 0, 0, none⟩ b → h b = none := by
    rintro b (rfl | rfl | ⟨p, hp, _⟩)
    · exact n3
    · exact n5
    · cases hp
  have nF : ∀ b, b ≠ b3 → b ≠ b5 → ¬ FF ⟨none, 0, 0, none⟩ b := by
    rintro b h1 h2 (h | h | ⟨p, hp, _⟩)
    · exact h1 h
    · exact h2 h
    · cases hp
  -- the state: c accesses, i ways of the next
  let St : List Ev → Nat → Sl → Sl → Hp → Prop := fun acc i s ls h' => BoxS 3 evc 69 h' b5 s acc ∧ h' b3 = some (.cells #[vs ls] 46 (0, 0)) ∧ RdS iv h' ls (lv.drop i) ∧ (∀ q, ls.q = some q → ∃ q0, x.q = some q0 ∧ q.b = q0.b) ∧ (∀ p, s.q = some p → p.b ≠ b3)
  have xF : ∀ q0, x.q = some q0 → 0 < lv.length → h q0.b ≠ none := fun q0 hq hl => rx.there hq hl
  refine ⟨fun q1 q2 q3 q4 q5 h8 k => q1 = ⟨b1, 0⟩ ∧ q2 = ⟨b2, 0⟩ ∧ q3 = ⟨b3, 0⟩ ∧ q4 = ⟨b4, 0⟩ ∧ q5 = ⟨b5, 0⟩ ∧ ∃ c : Nat, c ≤ n ∧ (∃ s ls, St (storeEv m s0 t L first lv c) (c * L) s ls h8 ∧ Mv (FF ⟨none, 0, 0, none⟩) h7 (FF s) h8) ∧ k = n - c,
    ⟨_, rfl, rfl, rfl, rfl, rfl, 0, Nat.zero_le _, ⟨⟨none, 0, 0, none⟩, x, ⟨⟨e5, OwnM.nilS _ _ _ _, fun p hp => by cases hp⟩, e37, by simpa using rx.keep k07, fun q hq => ⟨q, hq, rfl⟩, fun p hp => by cases hp⟩, Mv.refl _ _⟩, rfl⟩, ?_⟩
  rintro q1 q2 q3 q4 q5 h8 k ⟨rfl, rfl, rfl, rfl, rfl, c, hc, ⟨s, ls, ⟨B, el, rl, hlq, sne⟩, mv⟩, rfl⟩
  have g17 : h7 b1 ≠ none := by rw [e17]; simp
  have g27 : h7 b2 ≠ none := by rw [e27]; simp
  have g47 : h7 b4 ≠ none := by rw [e47]; simp
  have nb1 : ¬ FF s b1 := mv.out g17 (nF b1 d13 d15)
  have nb2 : ¬ FF s b2 := mv.out g27 (nF b2 d23 d25)
  have e18 := mv.get e17 (nF b1 d13 d15)
  have e28 := mv.get e27 (nF b2 d23 d25)
  have e48 := mv.get e47 (nF b4 d34 d45)
  have ll := rl.len
  rw [List.length_drop, hn] at ll
  have hcL : c * L ≤ n * L := Nat.mul_le_mul_right L hc
  refine ⟨ls, rd1 el rfl, rdI e28 rfl (ifD (fun hle => ?_) fun hgt => ?_)⟩
  · have hcn : c < n := by
      rcases Nat.lt_or_ge c n with h | h
      · exact h
      · have : c = n := by omega
        subst this; omega
    have hcL1 : c * L + L ≤ n * L := by
      have := Nat.mul_le_mul_right L (show c + 1 ≤ n by omega)
      rwa [Nat.succ_mul] at this
    have sl := storeEv_length o first lv c
    have rdl := reads_length first (topN m L)
    have wrl := writes_length first (topN m L)
    refine ⟨s, rd1 B.cell rfl, rdI e18 rfl (rd4 e28 ?_)⟩
    refine (store_top o).to fun h9 k9 => ⟨_, rfl, ⟨rd1 (k9.get e18) rfl, trivial⟩, ⟨rd1 (k9.get B.cell) rfl, trivial⟩, ?_⟩
    rw [← htop.2.2]
    refine (scan_reads first (topN m L) (by omega) h9).mono ?_
    rintro _ h10 ⟨s4, rfl, o4, k10⟩
    have B10 := (B.keep k9).keep k10
    refine ⟨_, rfl, ⟨rd1 B10.cell rfl, trivial⟩, BoxS.app rtE evc3 evc_one B10 o4.rd (by omega) (by decide) fun s5 h12 B12 m12 => ?_⟩
    have mv12 : Mv (FF s) h8 (FF s5) h12 := (mvK (k9.trans k10) _).trans (mv_more m12 (fun x => x = b3))
    have e112 := mv12.get e18 nb1
    have e212 := mv12.get e28 nb2
    refine ⟨s5, rd1 B12.cell rfl, rdI e112 rfl (rd4 e212 ?_)⟩
    refine (store_top o).to fun h13 k13 => ⟨_, rfl, ⟨rd1 (k13.get e112) rfl, trivial⟩, ⟨rd1 (k13.get B12.cell) rfl, trivial⟩, ?_⟩
    rw [← htop.2.2]
    refine (scan_writes first (topN m L) (by omega) h13).mono ?_
    rintro _ h14 ⟨s7, rfl, o7, k14⟩
    have B14 := (B12.keep k13).keep k14
    refine ⟨_, rfl, ⟨rd1 B14.cell rfl, trivial⟩, BoxS.app rtE evc3 evc_one B14 o7.rd (by simp only [List.length_append]; omega) (by decide) fun s8 h16 B16 m16 => ?_⟩
    have mv16 : Mv (FF s) h8 (FF s8) h16 := mv12.trans ((mvK (k13.trans k14) _).trans (mv_more m16 (fun x => x = b3)))
    have e116 := mv16.get e18 nb1
    have e216 := mv16.get e28 nb2
    -- b3 is none of the row's blocks
    have nb3 : ¬ Fp b5 s b3 := by
      rintro (h | ⟨p, hp, h⟩)
      · exact d35 h
      · exact sne p hp h.symm
    have nb3' : ¬ Fp b5 s5 b3 := m12.out (by rw [(k9.trans k10).get el]; simp) nb3
    have el12 := m12.get ((k9.trans k10).get el) nb3
    have el16 := m16.get ((k13.trans k14).get el12) nb3'
    have nb3s : ¬ Fp b5 s8 b3 := m16.out (by rw [(k13.trans k14).get el12]; simp) nb3'
    have k078 : Keep h h16 := ((mv.trans mv16).keep k07 F0n).1
    refine rd4 e216 ?_
    refine (store_down h16).mono ?_
    rintro _ h17 ⟨bd, rfl, fb, eb, k17⟩
    refine ⟨_, rfl, trivial, fun z k hk hr => ⟨rfl, ?_⟩⟩
    have mv17 : Mv (FF ⟨none, 0, 0, none⟩) h7 (FF s8) h17 := (mv.trans mv16).trans (mvK k17 _)
    have k0h : Keep h h17 := k078.trans k17
    have hk0 : h k = none := k0h.free hk
    have e117 := k17.get e116
    have e217 := k17.get e216
    have el17 := k17.get el16
    have B17 := B16.keep k17
    have nk : ∀ {b o}, h17 b = some o → b ≠ k := fun e e2 => by rw [e2, hk] at e; cases e
    have nb18 : ¬ FF s8 b1 := mv16.out (by rw [e18]; simp) nb1
    have nb28 : ¬ FF s8 b2 := mv16.out (by rw [e28]; simp) nb2
    let acc := storeEv m s0 t L first lv c ++ reads first (topN m L) ++ writes first (topN m L)
    have al : acc.length ≤ 5000000 * c + 4000 := by
      show (storeEv m s0 t L first lv c ++ reads first (topN m L) ++ writes first (topN m L)).length ≤ _
      simp only [List.length_append]; omega
    let Sq : Nat → Hp → Prop := fun i h' => h' k = some (rdyL z) ∧ ∃ s ls, St (acc ++ oneEv m s0 t L first (lv.drop (c * L)) i) (c * L + i) s ls h' ∧ Mv (fun x => x = k ∨ FF s8 x) (upd h17 k (rdyL z)) (fun x => x = k ∨ FF s x) h'
    have hlsk : ∀ {ls : Sl} {q : Pt}, (∀ q, ls.q = some q → ∃ q0, x.q = some q0 ∧ q.b = q0.b) → ls.q = some q → 0 < lv.length → h q.b ≠ none := fun hh hq hl => by
      obtain ⟨q0, h1, h2⟩ := hh _ hq
      rw [h2]; exact xF q0 h1 hl
    have rl17 : RdS iv h17 ls (lv.drop (c * L)) := rl.move fun q hq hl => by
      have hl0 : 0 < lv.length := by rw [List.length_drop] at hl; omega
      have hx := hlsk hlq hq hl0
      have nf : ¬ FF s q.b := mv.out (by rw [k07 _ hx]; exact hx) (fun hF => hx (F0n _ hF))
      have h8x : h8 q.b ≠ none := by rw [mv.2.1 _ (by rw [k07 _ hx]; exact hx) (fun hF => hx (F0n _ hF)), k07 _ hx]; exact hx
      rw [k17 _ (by rw [mv16.2.1 _ h8x nf]; exact h8x), mv16.2.1 _ h8x nf]
    have init : Sq 0 (upd h17 k (rdyL z)) := by
      refine ⟨upd_same _ _ _, s8, ls, ⟨?_, ?_, ?_, hlq, ?_⟩, Mv.refl _ _⟩
      · have : acc ++ oneEv m s0 t L first (lv.drop (c * L)) 0 = acc := by simp [oneEv]
        rw [this]
        exact B17.move fun y hy => upd_ne _ _ (by
          obtain ⟨c1, t1, fz, h1⟩ := B17.cells hy
          exact nk h1)
      · rw [upd_ne _ _ (nk el17)]; exact el17
      · exact rl17.move fun q hq hl => upd_ne _ _ fun e => by
          have := rl17.there hq hl
          rw [e, hk] at this; exact this rfl
      · exact fun p hp e => nb3s (.inr ⟨p, hp, e.symm⟩)
    refine (store_down1 (L := L) (q := ⟨bd, 0⟩) (y := yv k) (by omega) Sq init (by rw [hcell_upd_ne (nk eb)]; exact rd1 eb rfl) ?_).mono ?_
    · rintro i h' hi ⟨hz, s', ls', ⟨B', el', rl', hlq', sne'⟩, mvi⟩
      refine ⟨rfl, rfl, hr _ h' _ hz ⟨hz, ?_⟩⟩
      obtain ⟨j, hj⟩ : ∃ j : Nat, j = L - 1 - i := ⟨_, rfl⟩
      have hjI : (L : Int) - 1 - i = (j : Int) := by omega
      rw [hjI]
      have gt : ∀ {b o}, h17 b = some o → ¬ FF s8 b → h' b = some o := fun e hnf => mvi.get (by rw [upd_ne _ _ (nk e)]; exact e) (fun h => by
        rcases h with h | h
        · exact nk e h
        · exact hnf h)
      have e1' := gt e117 nb18
      have e2' := gt e217 nb28
      have k1' : b1 ≠ k := nk e117
      have k2' : b2 ≠ k := nk e217
      have k3' : b3 ≠ k := nk el17
      have eb1 : upd h' k (busyL z) b1 = some (.cells #[.int .i64 first] 3 (0, 0)) := by rw [upd_ne _ _ k1']; exact e1'
      have eb2 : upd h' k (busyL z) b2 = some (.cells #[.int .i64 (2 ^ m), .int .i64 s0, .int .i64 t, .int .i64 L] 26 (0, 0)) := by rw [upd_ne _ _ k2']; exact e2'
      have eb3 : upd h' k (busyL z) b3 = some (.cells #[vs ls'] 46 (0, 0)) := by rw [upd_ne _ _ k3']; exact el'
      have hlen : c * L + i < lv.length := by omega
      have ll' := rl'.len
      rw [List.length_drop] at ll'
      have rlb : RdS iv (upd h' k (busyL z)) ls' (lv.drop (c * L + i)) := rl'.move fun q hq _ => upd_ne _ _ fun e => hlsk hlq' hq (by omega) (e ▸ hk0)
      obtain ⟨q, hq, hcq⟩ := rlb.at (i := 0) (by rw [List.length_drop]; omega)
      have hg : (lv.drop (c * L + i))[0]'(by rw [List.length_drop]; omega) = lv[c * L + i] := by simp
      have hwi := hw (c * L + i) hlen
      have hmod : (c * L + i) % L = i := by rw [Nat.mul_comm, Nat.mul_add_mod, Nat.mod_eq_of_lt hi]
      rw [hmod, ← hj] at hwi
      obtain ⟨leaf, hleaf⟩ := Int.eq_ofNat_of_zero_le hwi.1
      have hlf : leaf < 2 ^ (m - 2 * j) := by
        have e : ((2 ^ (m - 2 * j) : Nat) : Int) = 2 ^ (m - 2 * j) := by simp
        omega
      rw [hg, hleaf] at hcq
      refine rdI eb1 rfl (rd4 eb2 ⟨ls', rd1 eb3 rfl, q, hq, .mk 0, by omega, leaf, by simpa [iv] using hcq, ?_⟩)
      refine (store_level o j (by omega)).to fun h19 k19 => ⟨_, _, _, rfl, ⟨k19.cell (by simpa [iv] using hcq), trivial⟩, ⟨rd1 (k19.get eb3) rfl, trivial⟩, ⟨rd1 (k19.get eb1) rfl, trivial⟩, ?_⟩
      rw [w64_id (n := first + 1) (by omega) (by omega), w64_id (n := 3 * (j : Int)) (by omega) (by omega), w64_id (n := first + 1 + 3 * (j : Int)) (by omega) (by omega)]
      refine (level_events (o.lev j) (first + 1 + 3 * (j : Int)) (by omega) hlf h19).mono ?_
      rintro _ h20 ⟨s10, rfl, o10, k20⟩
      have kb := k19.trans k20
      obtain ⟨q10, hq10⟩ := o10.rd.ptr (levEv_pos _ _)
      refine ⟨_, rfl, ifB_neg (by rw [Sl.q_p hq10]; rfl) ?_⟩
      have Bb : BoxS 3 evc 69 (upd h' k (busyL z)) b5 s' (acc ++ oneEv m s0 t L first (lv.drop (c * L)) i) := B'.move fun y hy => upd_ne _ _ (by
        obtain ⟨c1, t1, fz, h1⟩ := B'.cells hy
        intro e; rw [e, hz] at h1; cases h1)
      have B20 := Bb.keep kb
      have el20 := kb.get eb3
      have kz20 := kb.get (show upd h' k (busyL z) k = some (busyL z) from upd_same _ _ _)
      have nb3i : ¬ Fp b5 s' b3 := by
        rintro (h | ⟨p, hp, h⟩)
        · exact d35 h
        · exact sne' p hp h.symm
      have nki : ¬ Fp b5 s' k := fun h => by
        obtain ⟨c1, t1, fz, h1⟩ := B20.cells h
        rw [kz20] at h1; cases h1
      have ol := oneEv_length o first (lv.drop (c * L)) i
      have lvl := levEv_length (o.lev j) (first + 1 + 3 * (j : Int)) leaf
      refine ⟨s', rd1 B20.cell rfl, ls', rd1 el20 rfl, .mk 1, by omega, app_box' rtE evc3 evc_one B20 o10.rd (by rw [List.length_append]; omega) (by decide) (fun h22 f22 => ⟨by rw [hcell_same (f22 b3 (by rw [el20]; simp) nb3i)]; exact rd1 el20 rfl, trivial⟩) fun s13 h23 B23 m23 => ?_⟩
      have el23 := m23.get el20 nb3i
      have kz23 := m23.get kz20 nki
      have nb3j : ¬ Fp b5 s13 b3 := m23.out (by rw [el20]; simp) nb3i
      refine ⟨⟨rd1 el23 rfl, trivial⟩, _, _, el23, by simp, ?_⟩
      have k3k : k ≠ b3 := fun e => k3' e.symm
      refine ⟨by rw [upd_ne _ _ k3k]; exact kz23, rfl, upd_same _ _ _, s13, ⟨slPt ls'.p 1 ls'.cap 1, ls'.len - 1, ls'.cap - 1, slZ ls'.z 1 ls'.cap 1⟩, ⟨?_, ?_, ?_, ?_, fun p hp e => nb3j (.inr ⟨p, hp, e.symm⟩)⟩, ?_⟩
      · have he : acc ++ oneEv m s0 t L first (lv.drop (c * L)) (i + 1) = acc ++ oneEv m s0 t L first (lv.drop (c * L)) i ++ levEv (m - 2 * j) s0 t (first + 1 + 3 * (j : Int)) leaf := by
          have hgi : ((lv.drop (c * L)).getD i 0).toNat = leaf := by
            have : (lv.drop (c * L)).getD i 0 = lv[c * L + i] := by simp [List.getD_eq_getElem?_getD, hlen]
            rw [this, hleaf]; rfl
          rw [oneEv_succ, hgi, ← List.append_assoc, hj]
        rw [he]
        refine B23.move fun y hy => ?_
        have y3 : y ≠ b3 := fun e => nb3j (e ▸ hy)
        have yk : y ≠ k := fun e => by
          obtain ⟨c1, t1, fz, h1⟩ := B23.cells hy
          rw [e, kz23] at h1; cases h1
        rw [upd_ne _ _ yk, upd_ne _ _ y3]
      · rw [upd_ne _ _ k3', upd_same]; rfl
      · have hd := rl'.drop (n := 1) (by rw [List.length_drop]; omega)
        rw [List.drop_drop] at hd
        refine (show RdS iv h' _ (lv.drop (c * L + (i + 1))) by rw [← Nat.add_assoc]; exact hd).move fun q hq hl => ?_
        obtain ⟨q1, hq1, hb1⟩ := cut_q0 rl'.nil (by have := rl'.cap; omega) hq
        have hx := hlsk hlq' hq1 (by omega)
        rw [← hb1] at hx
        have hne3 : q.b ≠ b3 := fun e => hx (e ▸ n3)
        have hnek : q.b ≠ k := fun e => hx (e ▸ hk0)
        have hb : upd h' k (busyL z) q.b ≠ none := by
          rw [upd_ne _ _ hnek, hb1]
          exact rl'.there hq1 (by rw [List.length_drop]; omega)
        have h20b := kb _ hb
        have nfp : ¬ Fp b5 s' q.b := fun hF => by
          have h1 := mvi.1 q.b (.inr (.inr hF))
          have h17n : h17 q.b ≠ none := by rw [k0h _ hx]; exact hx
          rcases h1 with (h1 | h1) | h1
          · exact hnek h1
          · exact hx ((mv17.keep k07 F0n).2 _ h1)
          · rw [upd_ne _ _ hnek] at h1; exact h17n h1
        rw [upd_ne _ _ hnek, upd_ne _ _ hne3, m23.2.1 _ (by rw [h20b]; exact hb) nfp, h20b, upd_ne _ _ hnek]
      · intro q hq
        obtain ⟨q1, hq1, hb1⟩ := cut_q0 rl'.nil (by have := rl'.cap; omega) hq
        obtain ⟨q0, h1, h2⟩ := hlq' q1 hq1
        exact ⟨q0, h1, hb1.trans h2⟩
      · refine mvi.trans ?_
        have a1 : Mv (fun x => x = k ∨ FF s' x) h' (fun x => x = k ∨ FF s' x) (upd h' k (busyL z)) := mv_upd (.inl rfl) _
        have a2 : Mv (fun x => x = k ∨ FF s' x) (upd h' k (busyL z)) (fun x => x = k ∨ FF s13 x) h23 := (mvK kb _).trans (mv_more (mv_more m23 (fun x => x = b3)) (fun x => x = k))
        exact a1.trans (a2.trans ((mv_upd (.inr (.inl rfl)) _).trans (mv_upd (.inl rfl) _)))
    · rintro _ h26 ⟨hz, s', ls', ⟨B', el', rl', hlq', sne'⟩, mvi⟩
      have k3' : b3 ≠ k := nk el17
      refine .inr ⟨hz, _, ?_, rfl, rfl, rfl, rfl, rfl, c + 1, by omega, ⟨s', ls', ⟨?_, ?_, ?_, hlq', sne'⟩, mv17.trans (mv_loop hk mvi)⟩, rfl⟩
      · omega
      · have : storeEv m s0 t L first lv (c + 1) = acc ++ oneEv m s0 t L first (lv.drop (c * L)) L := by
          rw [storeEv_succ]; simp [acc, accEv, List.append_assoc]
        rw [this]
        exact B'.move fun y hy => upd_ne _ _ (by
          obtain ⟨c1, t1, fz, h1⟩ := B'.cells hy
          intro e; rw [e, hz] at h1; cases h1)
      · rw [upd_ne _ _ k3']; exact el'
      · rw [show (c + 1) * L = c * L + L by rw [Nat.succ_mul]]
        exact rl'.move fun q hq hl => upd_ne _ _ fun e => hlsk hlq' hq (by rw [List.length_drop] at hl; omega) (e ▸ hk0)
  · have hcn : c = n := by
      rcases Nat.lt_or_ge c n with h | h
      · have := Nat.mul_le_mul_right L (show c + 1 ≤ n by omega)
        rw [Nat.succ_mul] at this; omega
      · omega
    subst hcn
    obtain ⟨kk, ff⟩ := mv.keep k07 F0n
    refine ⟨s, rd1 B.cell rfl, ?_⟩
    refine stW kk n4 e48 rfl fun h9 k9 e9 f9 => ⟨s, rd1 e9 rfl, s, rfl, ?_, k9⟩
    have n4s : ¬ Fp b5 s b4 := fun h => mv.out g47 (nF b4 d34 d45) (.inr h)
    exact own_rebase (B.own.move fun p hp => f9 _ fun e => n4s (.inr ⟨p, hp, e.symm⟩)) fun p hp => ff _ (.inr (.inr ⟨p, hp, rfl⟩))
end Go.Proofs.Tryz

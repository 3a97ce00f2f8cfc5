/- ShapeWithin: all that there is to be seen is within the regions; with leaves left out it does not hang on the ways. -/
import Derived.Test.YtecaoigobpekdaaGreatDoorIn
namespace Go.Proofs.Tryz
open Go Go.Sh Go.RowKit
set_option maxRecDepth 8000
set_option maxHeartbeats 4000000

section
variable {c : Cfg} {t L : Nat}
theorem config_sizes (o : c.Ok t L) (h : Hp) : callK prog 24 [c.v] h fun v h' => ∃ s, v = vs s ∧ OwnS iv h h' s (allL c t L) ∧ Keep h h' := by
  refine c24 _ _ _ _ _ _ _ _ _ ?_
  unfold G24
  refine newC fun b1 h1 f1 e1 k1 => rd9 e1 ?_
  have hcap := o.cap; have hbat := o.bat; have hL := o.L
  refine (config_right o).to fun h2 k2 => ⟨_, rfl, ifB_neg rfl (rdI (k2.get e1) rfl (rd9 (k2.get e1) (rd9 (k2.get e1) ?_)))⟩
  have S : ∀ {h'}, Keep h1 h' → (hcell h' b1 0 = some (.int .i64 c.cap) ∧ hcell h' b1 (0 + 1) = some (.int .i64 c.bat) ∧ hcell h' b1 (0 + 1 + 1) = some (.int .i64 c.kic) ∧ hcell h' b1 (0 + 1 + 1 + 1) = some (.int .i64 c.spi) ∧ hcell h' b1 (0 + 1 + 1 + 1 + 1) = some (.int .i64 c.tab) ∧ hcell h' b1 (0 + 1 + 1 + 1 + 1 + 1) = some (.int .i64 c.slo) ∧ hcell h' b1 (0 + 1 + 1 + 1 + 1 + 1 + 1) = some (.int .i64 c.sta) ∧ hcell h' b1 (0 + 1 + 1 + 1 + 1 + 1 + 1 + 1) = some (.int .i64 c.lev) ∧ hcell h' b1 (0 + 1 + 1 + 1 + 1 + 1 + 1 + 1 + 1) = some (.int .i64 c.pol) ∧ True) ∧ (hcell h' b1 3 = some (.int .i64 c.spi) ∧ True) := fun k => by
    have e := k.get e1
    exact ⟨⟨rd1 e rfl, rd1 e rfl, rd1 e rfl, rd1 e rfl, rd1 e rfl, rd1 e rfl, rd1 e rfl, rd1 e rfl, rd1 e rfl, trivial⟩, rd1 e rfl, trivial⟩
  refine (config_cells o).to fun h3 k3 => ⟨_, rfl, (S (k2.trans k3)).1, (S (k2.trans k3)).2, ?_⟩
  refine (word_round (c.cap + c.bat) (by omega)).to fun h4 k4 => ⟨_, rfl, (S (k2.trans (k3.trans k4))).1, (S (k2.trans (k3.trans k4))).2, ?_⟩
  refine (config_store' o).to fun h5 k5 => ⟨_, _, _, _, rfl, (S (k2.trans (k3.trans (k4.trans k5)))).2, ?_⟩
  have k05 := k1.trans (k2.trans (k3.trans (k4.trans k5)))
  refine (store_sizes o.st h5).mono ?_
  rintro _ h6 ⟨x, rfl, ox, k6⟩
  refine ⟨_, rfl, (S (k2.trans (k3.trans (k4.trans (k5.trans k6))))).2, newC fun b2 h7 f7 e7 k7 => ?_⟩
  have k06 := k05.trans k6
  rw [roundI_E] at e7
  have o0 : OwnS iv h h7 ⟨some ⟨b2, 0⟩, 3, 3, none⟩ [1, c.spi, 2 ^ roundE (c.cap + c.bat)] := OwnS.newE (f := iv) (l := [1, c.spi, 2 ^ roundE (c.cap + c.bat)]) (k06.free f7) e7 (by simp [iv]) rfl
  have k07 := k06.trans k7
  have hl := sizesL_length (t + 2) c.slo c.sta L L
  refine OwnS.app rtI iv_one o0 ((ox.keep k7).rd) (fun b hb => k07.free hb) (by rw [hl]; simp; omega) (by decide) ?_
  intro s' h' os hoff _ _
  exact ⟨s', rfl, os, keep_appS o0 k07 hoff⟩
theorem law_same {h : Hp} {s1 s2 : Sl} {l : List Ev} (r1 : RdM evc h s1 l) (r2 : RdM evc h s2 l) (hl : l.length ≤ 1000000000000) : callK prog 16 [vs s1, vs s2] h fun v h' => v = .bool true ∧ Keep h h' := by
  have l1 := r1.len; have l2 := r2.len
  refine c16 s1 s2 ?_
  unfold G16
  refine ifN (fun hne => absurd (by omega) hne) fun _ => ?_
  refine ⟨fun a b i h1 k => s1 = a ∧ s2 = b ∧ h = h1 ∧ ∃ j : Nat, i = j ∧ k = l.length - j, ⟨_, rfl, rfl, rfl, 0, rfl, rfl⟩, ?_⟩
  rintro a b i h1 k ⟨rfl, rfl, rfl, j, rfl, rfl⟩
  refine ifD (fun hlt => ?_) fun hge => ⟨rfl, Keep.refl _⟩
  have hj : j < l.length := by omega
  refine r1.ix evc3 hj fun q1 _ g1 => ?_
  have g1 := evc_rd g1
  refine ⟨_, g1.1, _, g1.2.1, _, g1.2.2, ?_⟩
  refine r2.ix evc3 hj fun q2 _ g2 => ?_
  have g2 := evc_rd g2
  refine ⟨_, g2.1, _, g2.2.1, _, g2.2.2, ifB_neg (by simp) ⟨_, ?_, rfl, rfl, rfl, j + 1, w64_id (by omega) (by omega), rfl⟩⟩
  omega
end
/-- two rows of one's own, apart -/
structure Own2 (h0 h : Hp) (s1 s2 : Sl) (l1 l2 : List Int) : Prop where
  a : OwnS iv h0 h s1 l1
  b : OwnS iv h0 h s2 l2
  d : ∀ p q, s1.q = some p → s2.q = some q → p.b ≠ q.b
theorem Own2.swap {h0 h : Hp} {s1 s2 : Sl} {l1 l2 : List Int} (o : Own2 h0 h s1 s2 l1 l2) : Own2 h0 h s2 s1 l2 l1 := ⟨o.b, o.a, fun p q hp hq e => o.d q p hq hp e.symm⟩
theorem Own2.keep {h0 h h' : Hp} {s1 s2 : Sl} {l1 l2 : List Int} (o : Own2 h0 h s1 s2 l1 l2) (k : Keep h h') : Own2 h0 h' s1 s2 l1 l2 := ⟨o.a.keep k, o.b.keep k, o.d⟩
theorem Own2.push {h0 h : Hp} {s1 s2 : Sl} {l1 l2 : List Int} (o : Own2 h0 h s1 s2 l1 l2) (k0 : Keep h0 h) (x : Int) (hl : l1.length ≤ 1000000) {K : Sl → Hp → Prop} (hk : ∀ s' h', Own2 h0 h' s' s2 (l1 ++ [x]) l2 → Keep h0 h' → K s' h') :
    newK h (.cells #[iv x] 3) fun b h' => appK prog 22 s1 (.s ⟨some ⟨b, 0⟩, 1, 1, none⟩) h' K := by
  refine OwnS.push' rtI iv_one o.a x (fun b hb => k0.free hb) (by omega) (by decide) ?_
  intro s' h' o1 hoff hw hfr
  refine hk s' h' ⟨o1, o.b.move fun q hq => hoff _ (o.b.blk hq).2 fun p hp e => o.d p q hp hq e.symm, fun p q hp hq e => ?_⟩ (keep_appS o.a k0 hoff)
  rcases hw p hp with ⟨p0, hp0, e0⟩ | e0
  · exact o.d p0 q hp0 hq (e0 ▸ e)
  · exact (o.b.blk hq).2 (e ▸ e0)
theorem Own2.push2 {h0 h : Hp} {s1 s2 : Sl} {l1 l2 : List Int} (o : Own2 h0 h s1 s2 l1 l2) (k0 : Keep h0 h) (x y : Int) (hl1 : l1.length ≤ 1000000) (hl2 : l2.length ≤ 1000000) {K : Sl → Sl → Hp → Prop} (hk : ∀ s1' s2' h', Own2 h0 h' s1' s2' (l1 ++ [x]) (l2 ++ [y]) → Keep h0 h' → K s1' s2' h') :
    newK h (.cells #[.int .i64 x] 3) fun b h' => appK prog 22 s1 (.s ⟨some ⟨b, 0⟩, 1, 1, none⟩) h' fun s3 h3 => newK h3 (.cells #[.int .i64 y] 3) fun b h4 => appK prog 22 s2 (.s ⟨some ⟨b, 0⟩, 1, 1, none⟩) h4 fun s4 h5 => K s3 s4 h5 :=
  o.push k0 x hl1 fun s3 h3 o3 k3 => o3.swap.push k3 y hl2 fun s4 h5 o5 k5 => hk s3 s4 h5 o5.swap k5
theorem WaysOk.snoc {m L : Nat} {l : List Int} {x : Int} (w : WaysOk m L l) (hx : 0 ≤ x ∧ x < 2 ^ (m - 2 * (L - 1 - l.length % L))) : WaysOk m L (l ++ [x]) := fun i hi => by
  rw [List.length_append] at hi
  simp only [List.length_cons, List.length_nil] at hi
  by_cases h : i < l.length
  · rw [List.getElem_append_left h]; exact w i h
  · have : i = l.length := by omega
    subst this
    rw [List.getElem_append_right (by omega)]
    simpa using hx

def i64L (l : List Int) : Prop := ∀ n ∈ l, -9223372036854775808 ≤ n ∧ n ≤ 9223372036854775807
theorem shapeWithin_law {h : Hp} {n : Int} (hn : i64 n) {sa sb : Sl} {la lb : List Int} (ra : RdS iv h sa la) (hla : i64L la) (rb : RdS iv h sb lb) (hlb : i64L lb) :
    callK prog 7 [.int .i64 n, vs sa, vs sb] h fun v h' => v = .bool true ∧ Keep h h' := by
  refine c7 n sa sb ?_
  unfold G7
  refine law_shown.to fun h1 k1 => ⟨_, rfl, ifB_neg rfl (ifB_intro (fun _ => ⟨rfl, k1⟩) fun ha => ifB_intro (fun _ => ⟨rfl, k1⟩) fun hb => ?_)⟩
  rw [cond_false] at ha hb
  have ha := of_decide_eq_false ha; have hb := of_decide_eq_false hb
  refine (law_made hn).to fun h2 k2 => ⟨_, _, _, _, _, _, _, _, _, rfl, newC fun b1 h3 f3 e3 k3 => ?_⟩
  have k03 := (k1.trans k2).trans k3
  have f0 : h b1 = none := k1.free (k2.free f3)
  refine stW k03 f0 e3 rfl fun h4 k4 e4 _ => ?_
  have hL := madeL_bds n
  have o := madeC_ok n
  have hN := o.nats
  obtain ⟨c, hc⟩ : ∃ c : Cfg, c = madeC n := ⟨_, rfl⟩
  have ec4 : h4 b1 = some (.cells #[.int .i64 c.cap, .int .i64 c.bat, .int .i64 c.kic, .int .i64 c.spi, .int .i64 c.tab, .int .i64 c.slo, .int .i64 c.sta, .int .i64 c.lev, .int .i64 c.pol] 25 (0, 0)) := by
    rw [e4, hc]
  rw [← hc] at o hN
  generalize madeL n = L at o hL
  clear e4 hc
  have hlev := o.lev
  refine rd9 ec4 ?_
  refine (config_sizes o h4).mono ?_
  rintro _ h5 ⟨s1, rfl, o1, k5⟩
  have e5 := k5.get ec4
  have r1 := o1.rd
  refine ⟨_, rfl, rdI e5 rfl ?_⟩
  have ra5 := ra.keep (k4.trans k5); have rb5 := rb.keep (k4.trans k5)
  have hu : usedN c c.B * L ≤ (16 * 37 + 16 * 144) * 4 := by
    refine Nat.mul_le_mul ?_ o.L.2
    unfold usedN
    exact Nat.add_le_add (Nat.mul_le_mul (by omega) (by omega)) (Nat.mul_le_mul (Nat.le_trans (Nat.div_le_self _ _) (by omega)) (by omega))
  obtain ⟨U, hU⟩ : ∃ U, U = usedN c c.B * L := ⟨_, rfl⟩
  have hways : PureC prog 15 [c.v, .int .i64 c.bat] (.int .i64 (U : Int)) := by
    have := shape_ways o c.bat
    rwa [← hN.2.2.1, waysI_is o (n := c.B) (by omega), hN.2.2.1, ← hU] at this
  have la1 := ra.len; have lb1 := rb.len
  have pick_at : ∀ {s : Sl} {l : List Int}, RdS iv h5 s l → i64L l → 0 < l.length → ∀ {i m : Nat} {h'' : Hp}, Keep h5 h'' → ∀ {X : Int → Hp → Prop}, (∀ x h', 0 ≤ x → x < 2 ^ m → Keep h'' h' → X x h') →
      ((s.len : Int) = 0 → False) ∧ ∃ q, s.q = some q ∧ 0 ≤ (i : Int).tmod (s.len : Int) ∧ (i : Int).tmod (s.len : Int) + 1 ≤ (s.len : Int) ∧ ∃ n57, hcell h'' q.b (q.o + ((i : Int).tmod (s.len : Int)).toNat * 1) = some (.int .i64 n57) ∧ callK prog 12 [.int .i64 n57, .int .i64 (2 ^ m)] h'' fun v h' => ∃ x, v = .int .i64 x ∧ X x h' := by
    intro s l r hl hpos i m h'' k X hX
    have hlen := r.len
    have em : (i : Int).tmod (s.len : Int) = ((i % l.length : Nat) : Int) := by rw [hlen]; rfl
    have hm := Nat.mod_lt i hpos
    refine ⟨fun e => by omega, ?_⟩
    rw [em]
    refine (r.keep k).ix hm fun q _ hc => ⟨_, hc, ?_⟩
    have hp2 := pow_le_pow (Nat.zero_le m)
    have hpk := pk_bds (c := l[i % l.length]) (n := 2 ^ m) (by simpa using hp2)
    exact (law_pick (hl _ (List.getElem_mem hm)) (by simpa using hp2)).to fun h' k' => ⟨_, rfl, hX _ _ hpk.1 hpk.2 k'⟩
  let St : Nat → Sl → Sl → Hp → Prop := fun i s5 s6 h6 => ∃ lv lw, Own2 h5 h6 s5 s6 lv lw ∧ lv.length = i ∧ lw.length = i ∧ WaysOk (3 + 2) L lv ∧ WaysOk (3 + 2) L lw ∧ Keep h5 h6
  have W0 : WaysOk (3 + 2) L [] := fun i hi => by simp at hi
  refine ⟨fun s2 s3 q1 s4 n20 s5 s6 n21 h6 k => sa = s2 ∧ sb = s3 ∧ q1 = ⟨b1, 0⟩ ∧ s1 = s4 ∧ n20 = c.bat ∧ ∃ i : Nat, n21 = i ∧ i ≤ U ∧ St i s5 s6 h6 ∧ k = U - i,
    ⟨_, rfl, rfl, rfl, rfl, rfl, 0, rfl, Nat.zero_le _, ⟨[], [], ⟨OwnS.nilS _ _ _, OwnS.nilS _ _ _, fun p q hp => by cases hp⟩, rfl, rfl, W0, W0, Keep.refl _⟩, rfl⟩, ?_⟩
  rintro s2 s3 q1 s4 n20 s5 s6 n21 h6 k ⟨rfl, rfl, rfl, rfl, rfl, i, rfl, hi, ⟨lv, lw, o2, hlv, hlw, wv, ww, k6⟩, rfl⟩
  have e6 := k6.get e5
  refine rd9 e6 ?_
  refine hways.to fun h7 k7 => ⟨_, rfl, ?_⟩
  have e7 := k7.get e6
  refine ifD (fun hlt => ?_) fun hge => ?_
  · have hiU : i < U := by omega
    refine rd9 e7 (rdI e7 rfl (rdI e7 rfl ⟨by omega, ?_⟩))
    refine (law_as c).to fun h8 k8 => ⟨_, _, _, _, _, _, _, _, _, rfl, ⟨rd1 (k8.get e7) rfl, trivial⟩, ⟨rd1 (k8.get e7) rfl, trivial⟩, ?_⟩
    have e8 := k8.get e7
    refine (ref_store o).to fun h9 k9 => ⟨_, _, _, _, rfl, ⟨rd1 (k9.get e8) rfl, trivial⟩, ⟨rd1 (k9.get e8) rfl, trivial⟩, ?_⟩
    have hm := Nat.mod_lt i (show L > 0 by omega)
    have ew : w64 (w64 (c.lev - 1) - (i : Int).tmod c.lev) = ((L - 1 - i % L : Nat) : Int) := by
      have et : (i : Int).tmod c.lev = ((i % L : Nat) : Int) := by rw [hlev]; rfl
      rw [et, hlev, w64_id (n := (L : Int) - 1) (by omega) (by omega), w64_id (by omega) (by omega)]; omega
    rw [ew]
    refine (ref_blocks o.st (L - 1 - i % L) (by omega)).to fun h10 k10 => ⟨_, rfl, ?_⟩
    have k610 : Keep h6 h10 := k7.trans (k8.trans (k9.trans k10))
    have fin : ∀ {x y : Int} {h' : Hp} {B : Nat}, Keep h10 h' → 0 ≤ x → x < 2 ^ (3 + 2 - 2 * (L - 1 - i % L)) → 0 ≤ y → y < 2 ^ (3 + 2 - 2 * (L - 1 - i % L)) →
        newK h' (.cells #[.int .i64 x] 3) fun b h' => appK prog 22 s5 (.s ⟨some ⟨b, 0⟩, 1, 1, none⟩) h' fun s3 h3 => newK h3 (.cells #[.int .i64 y] 3) fun b h4 => appK prog 22 s6 (.s ⟨some ⟨b, 0⟩, 1, 1, none⟩) h4 fun s4 h5' =>
          ∃ k3, k3 < U - i ∧ sa = sa ∧ sb = sb ∧ (⟨b1, 0⟩ : Pt) = ⟨b1, 0⟩ ∧ s1 = s1 ∧ c.bat = c.bat ∧ ∃ i' : Nat, w64 ((i : Int) + 1) = i' ∧ i' ≤ U ∧ St i' s3 s4 h5' ∧ k3 = U - i' := fun {x y h' B} kk hx1 hx2 hy1 hy2 => by
      refine (o2.keep (k610.trans kk)).push2 (k6.trans (k610.trans kk)) x y (by omega) (by omega) fun s3 s4 h5' o5 k5' => ?_
      exact ⟨_, by omega, rfl, rfl, rfl, rfl, rfl, i + 1, w64_id (by omega) (by omega), by omega, ⟨_, _, o5, by simp [hlv], by simp [hlw], wv.snoc (by rw [hlv]; exact ⟨hx1, hx2⟩), ww.snoc (by rw [hlw]; exact ⟨hy1, hy2⟩), k5'⟩, rfl⟩
    have p2 := pow_le_pow (Nat.zero_le (3 + 2 - 2 * (L - 1 - i % L)))
    have p2' : (0 : Int) < 2 ^ (3 + 2 - 2 * (L - 1 - i % L)) := Int.lt_of_lt_of_le (by decide) p2
    refine ifD (fun h1 => ?_) fun h1 => ?_
    · refine pick_at ra5 hla (by omega) (k6.trans k610) fun x h11 hx1 hx2 k11 => ?_
      refine ifD (fun h2 => ?_) fun h2 => ?_
      · refine pick_at rb5 hlb (by omega) ((k6.trans k610).trans k11) fun y h12 hy1 hy2 k12 => ?_
        exact fin (B := 0) (k11.trans k12) hx1 hx2 hy1 hy2
      · exact fin (B := 0) k11 hx1 hx2 (by omega) p2'
    · refine ifD (fun h2 => ?_) fun h2 => ?_
      · refine pick_at rb5 hlb (by omega) (k6.trans k610) fun y h12 hy1 hy2 k12 => ?_
        exact fin (B := 0) k12 (by omega) p2' hy1 hy2
      · exact fin (B := 0) (Keep.refl _) (by omega) p2' (by omega) p2'
  · have hiU : i = U := by omega
    subst hiU
    have tB := shape_trace o (n := c.B) (by omega) (h := h7) ((o2.a.keep k7).rd) (by omega) wv
    rw [hN.2.2.1] at tB
    refine rd9 e7 (tB.mono ?_)
    rintro _ h8 ⟨x1, rfl, q1, k8⟩
    have e8 := k8.get e7
    have tB2 := shape_trace o (n := c.B) (by omega) (h := h8) ((o2.b.keep (k7.trans k8)).rd) (by omega) ww
    rw [hN.2.2.1] at tB2
    refine ⟨_, rfl, rd9 e8 (tB2.mono ?_)⟩
    rintro _ h9 ⟨x2, rfl, q2, k9⟩
    have e9 := k9.get e8
    have l1 := q1.len; have l2 := q2.len
    have two : Two 3 L lv lw := ⟨wv, ww, by omega⟩
    have htwo := two_tr o two c.B (by omega)
    have hz : Two 3 L lv (zerosL c L c.B) := ⟨wv, zeros_ok _ _ _ _, by rw [zerosL, List.length_replicate]; omega⟩
    have htz := two_tr o hz c.B (by omega)
    have tl1 := tr_len o lv c.B; have tl2 := tr_len o lw c.B
    have hlen : (trEv c 3 L lv c.B).length = (trEv c 3 L lw c.B).length := by
      have := congrArg List.length htwo; simpa using this
    have hpos : 0 < (trEv c 3 L lv c.B).length := by
      have h1 := shape_pos o (n := c.B) (by omega)
      have := congrArg List.length htz
      rw [List.length_map, List.length_map] at this
      rw [shapeL, List.length_map] at h1
      omega
    have hin := all_in o wv (n := c.B) (by omega)
    have a1 := allB_tr o wv c.B (by omega); have a2 := allB_tr o ww c.B (by omega)
    have r9 := r1.keep (k6.trans (k7.trans (k8.trans k9)))
    have g1 := q1.rd.keep evc3 k9
    have g2 := q2.rd
    have l9 := r9.len
    have kh9 : Keep h h9 := (k4.trans k5).trans ((k6.trans k7).trans (k8.trans k9))
    generalize trEv c 3 L lv c.B = T1 at *
    generalize trEv c 3 L lw c.B = T2 at *
    refine ⟨_, rfl, ?_⟩
    refine ⟨fun q5 s17 m s18 s19 n82 h32 k => q5 = ⟨b1, 0⟩ ∧ s1 = s17 ∧ m = c.bat ∧ x1 = s18 ∧ x2 = s19 ∧ h9 = h32 ∧ ∃ j : Nat, n82 = j ∧ k = T1.length - j, ⟨_, rfl, rfl, rfl, rfl, rfl, rfl, 0, rfl, rfl⟩, ?_⟩
    rintro q5 s17 m s18 s19 n82 h32 k ⟨rfl, rfl, rfl, rfl, rfl, rfl, j, rfl, rfl⟩
    refine ifD (fun hlt2 => ?_) fun hge2 => ?_
    · have hj : j < T1.length := by omega
      have cell := fun {K : Pt → Prop} (hk : ∀ q : Pt, x1.q = some q → hcell h9 q.b (q.o + j * 3) = some (.int .i64 T1[j].r) ∧ hcell h9 q.b (q.o + j * 3 + 1) = some (.int .i64 T1[j].a) ∧ hcell h9 q.b (q.o + j * 3 + 1 + 1) = some (.bool T1[j].w) → K q) => g1.ix evc3 hj (K := K) fun q hq hr => hk q hq (evc_rd hr)
      obtain ⟨i, hr, z, hz1, ha0, haz⟩ := hin _ (List.getElem_mem hj)
      generalize T1[j] = e at cell hr ha0 haz
      obtain ⟨er, ea, ew⟩ := e
      simp only at hr ha0 haz
      subst hr
      obtain ⟨hi2, hz2⟩ := List.getElem?_eq_some_iff.1 hz1
      refine cell fun q6 _ g6 => ⟨_, g6.1, ifD (fun hneg => absurd hneg (by simp only; omega)) fun _ => ?_⟩
      refine cell fun q7 _ g7 => ⟨_, g7.1, ifB_neg (by rw [cond_false]; exact decide_eq_false (by simp only; omega)) ?_⟩
      refine cell fun q8 _ g8 => ⟨_, g8.2.1, ifB_neg (by rw [cond_false]; exact decide_eq_false (by simp only; omega)) ?_⟩
      refine cell fun q9 _ g9 => ⟨_, g9.2.1, cell fun q10 _ g10 => ⟨_, g10.1, ?_⟩⟩
      refine r9.ix hi2 fun q11 _ hc => ⟨_, hc, ifB_neg (by rw [cond_false]; exact decide_eq_false (by rw [hz2]; simp only; omega)) ⟨_, ?_, rfl, rfl, rfl, rfl, rfl, rfl, j + 1, w64_id (by omega) (by omega), rfl⟩⟩
      omega
    · refine ifD (fun _ => ?_) fun hneg => absurd hneg (by omega)
      refine ifB_pos (decide_eq_true (by omega)) (rd9 e9 (rd9 e9 ?_))
      refine (shape_erase o g1 (by omega) a1).mono ?_
      rintro _ h10 ⟨y1, rfl, w1, k10⟩
      have e10 := k10.get e9
      refine ⟨_, rfl, ⟨rd1 e10 rfl, rd1 e10 rfl, rd1 e10 rfl, rd1 e10 rfl, rd1 e10 rfl, rd1 e10 rfl, rd1 e10 rfl, rd1 e10 rfl, rd1 e10 rfl, trivial⟩, ?_⟩
      refine (shape_erase o (g2.keep evc3 k10) (by omega) a2).mono ?_
      rintro _ h11 ⟨y2, rfl, w2, k11⟩
      refine ⟨_, rfl, (law_same (w1.rd.keep evc3 k11) (by rw [htwo]; exact w2.rd) (by rw [List.length_map]; omega)).mono ?_⟩
      rintro _ h12 ⟨rfl, k12⟩
      have e12 := (k11.trans k12).get e10
      refine ⟨_, rfl, ifB_pos rfl (rd9 e12 (rd9 e12 ?_))⟩
      have kk := k10.trans (k11.trans k12)
      refine (shape_erase o (g1.keep evc3 kk) (by omega) a1).mono ?_
      rintro _ h13 ⟨y3, rfl, w3, k13⟩
      have e13 := k13.get e12
      refine ⟨_, rfl, ⟨rd1 e13 rfl, rd1 e13 rfl, rd1 e13 rfl, rd1 e13 rfl, rd1 e13 rfl, rd1 e13 rfl, rd1 e13 rfl, rd1 e13 rfl, rd1 e13 rfl, trivial⟩, ?_⟩
      have sB := shape_shape o (n := c.B) (by omega) h13
      rw [hN.2.2.1] at sB
      refine sB.mono ?_
      rintro _ h14 ⟨y4, rfl, w4, k14⟩
      refine ⟨_, rfl, (law_same (w3.rd.keep evc3 k14) (by rw [htz]; exact w4.rd) (by rw [List.length_map]; omega)).mono ?_⟩
      rintro _ h15 ⟨rfl, k15⟩
      exact ⟨_, rfl, rfl, kh9.trans (kk.trans (k13.trans (k14.trans k15)))⟩
end Go.Proofs.Tryz

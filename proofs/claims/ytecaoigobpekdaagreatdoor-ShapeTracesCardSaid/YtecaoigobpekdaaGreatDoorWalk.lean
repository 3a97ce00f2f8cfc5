/- Chapter 20: the walk over what there is to be seen. -/
import Derived.Test.YtecaoigobpekdaaGreatDoorEvD
namespace Go.Proofs.Tryz
open Go Go.Sh Go.RowKit
set_option maxRecDepth 8000

theorem rd9w {h : Hp} {b : Nat} {t : TypeId} {f : Nat × Nat} {a1 a2 a3 a4 a5 a6 a7 a8 a9 : Int} {v1 v2 : Value} {K : Int → Int → Int → Int → Int → Int → Int → Int → Int → Prop}
    (e : h b = some (.cells #[.int .i64 a1, .int .i64 a2, .int .i64 a3, .int .i64 a4, .int .i64 a5, .int .i64 a6, .int .i64 a7, .int .i64 a8, .int .i64 a9, v1, v2] t f)) (hk : K a1 a2 a3 a4 a5 a6 a7 a8 a9) :
    ∃ n1 : Int, hcell h b 0 = some (.int .i64 n1) ∧ ∃ n2 : Int, hcell h b (0 + 1) = some (.int .i64 n2) ∧ ∃ n3 : Int, hcell h b (0 + 1 + 1) = some (.int .i64 n3) ∧ ∃ n4 : Int, hcell h b (0 + 1 + 1 + 1) = some (.int .i64 n4) ∧
    ∃ n5 : Int, hcell h b (0 + 1 + 1 + 1 + 1) = some (.int .i64 n5) ∧ ∃ n6 : Int, hcell h b (0 + 1 + 1 + 1 + 1 + 1) = some (.int .i64 n6) ∧ ∃ n7 : Int, hcell h b (0 + 1 + 1 + 1 + 1 + 1 + 1) = some (.int .i64 n7) ∧
    ∃ n8 : Int, hcell h b (0 + 1 + 1 + 1 + 1 + 1 + 1 + 1) = some (.int .i64 n8) ∧ ∃ n9 : Int, hcell h b (0 + 1 + 1 + 1 + 1 + 1 + 1 + 1 + 1) = some (.int .i64 n9) ∧ K n1 n2 n3 n4 n5 n6 n7 n8 n9 :=
  ⟨a1, rd1 e rfl, a2, rd1 e rfl, a3, rd1 e rfl, a4, rd1 e rfl, a5, rd1 e rfl, a6, rd1 e rfl, a7, rd1 e rfl, a8, rd1 e rfl, a9, rd1 e rfl, hk⟩
theorem config_Cells {c : Cfg} {t L : Nat} (o : c.Ok t L) : PureC prog 85 [c.v] (.int .i64 (c.cap + c.bat)) := by
  intro h
  refine c85 _ _ _ _ _ _ _ _ _ ?_
  unfold G85
  refine newC fun b1 h1 f1 e1 k1 => rd9 e1 ?_
  refine (config_right o).to fun h2 k2 => ⟨_, rfl, ifB_neg rfl (rd9 (k2.get e1) ?_)⟩
  exact (config_cells o).to fun h3 k3 => ⟨_, rfl, rfl, (k1.trans k2).trans k3⟩

/-- events at the store of a cache -/
abbrev sEv (c : Cfg) (t L : Nat) (ws : List Int) (n : Nat) : List Ev := storeEv (t + 2) c.slo c.sta L 3 ws n

section
variable {c : Cfg} {t L : Nat} {y : Value} {S : List Ev → (Nat → Prop) → Hp → Prop}
/-- the walk stands: what was handed on, the ways that are left -/
structure Wk (c : Cfg) (t L : Nat) (y : Value) (S : List Ev → (Nat → Prop) → Hp → Prop) (B : Nat → Prop) (b : Nat) (acc : List Ev) (ws : List Int) (F : Nat → Prop) (h : Hp) : Prop where
  cell : ∃ s, h b = some (.cells #[.int .i64 c.cap, .int .i64 c.bat, .int .i64 c.kic, .int .i64 c.spi, .int .i64 c.tab, .int .i64 c.slo, .int .i64 c.sta, .int .i64 c.lev, .int .i64 c.pol, vs s, y] 90 (0, 0)) ∧ RdS iv h s ws ∧ (∀ q, s.q = some q → B q.b)
  base : ∀ x, B x → ¬ F x ∧ h x ≠ none
  foot : ∃ F0, F = (fun x => x = b ∨ F0 x) ∧ ¬ F0 b ∧ S acc F0 h
  ways : WaysOk (t + 2) L ws

theorem Wk.keep (sk : Sink y (fun e => .agg (evc e).toArray) S 1000000000000) {B : Nat → Prop} {b : Nat} {acc : List Ev} {ws : List Int} {F : Nat → Prop} {h h' : Hp} (w : Wk c t L y S B b acc ws F h) (k : Keep h h') : Wk c t L y S B b acc ws F h' := by
  obtain ⟨s, e, r, hb⟩ := w.cell
  obtain ⟨F0, hF, hn, hs⟩ := w.foot
  exact ⟨⟨s, k.get e, r.keep k, hb⟩, fun x hx => ⟨(w.base x hx).1, by rw [k x (w.base x hx).2]; exact (w.base x hx).2⟩, ⟨F0, hF, hn, sk.keep _ _ _ _ hs fun x hx => k x (sk.dom _ _ _ _ hs hx)⟩, w.ways⟩

/-- one look handed on -/
theorem Wk.put (sk : Sink y (fun e => .agg (evc e).toArray) S 1000000000000) {B : Nat → Prop} {b : Nat} {acc : List Ev} {ws : List Int} {F : Nat → Prop} {h : Hp} (w : Wk c t L y S B b acc ws F h) (e : Ev) (hl : acc.length < 1000000000000) {K : Value → Hp → Prop}
    (hk : ∀ F' h', Wk c t L y S B b (acc ++ [e]) ws F' h' → Mv F h F' h' → K (.bool true) h') : callV prog y [.agg (evc e).toArray] h K := by
  obtain ⟨s, ec, r, hb⟩ := w.cell
  obtain ⟨F0, hF, hn, hs⟩ := w.foot
  subst hF
  refine (sk.put _ _ _ e hs hl).mono ?_
  rintro _ h' ⟨rfl, F', hs', m⟩
  have m2 : Mv (fun x => x = b ∨ F0 x) h (fun x => x = b ∨ F' x) h' := mv_more m (fun x => x = b)
  have hB : ∀ x, B x → h' x = h x ∧ ¬ (x = b ∨ F' x) := fun x hx => ⟨m2.2.1 x (w.base x hx).2 (w.base x hx).1, m2.out (w.base x hx).2 (w.base x hx).1⟩
  refine hk _ h' ⟨⟨s, m.get ec hn, r.move fun q hq _ => (hB _ (hb q hq)).1, hb⟩, fun x hx => ⟨(hB x hx).2, by rw [(hB x hx).1]; exact (w.base x hx).2⟩, ⟨F', rfl, m.out (by rw [ec]; simp) hn, hs'⟩, w.ways⟩ m2

theorem walk_look (sk : Sink y (fun e => .agg (evc e).toArray) S 1000000000000) {B : Nat → Prop} {b : Nat} {acc : List Ev} {ws : List Int} {F : Nat → Prop} {h : Hp} (w : Wk c t L y S B b acc ws F h) (r a : Int) (wr : Bool) (hl : acc.length < 1000000000000) :
    callK prog 80 [vp ⟨b, 0⟩, .int .i64 r, .int .i64 a, .bool wr] h fun v h' => v = .bool true ∧ ∃ F', Wk c t L y S B b (acc ++ [⟨r, a, wr⟩]) ws F' h' ∧ Mv F h F' h' := by
  obtain ⟨s, ec, _⟩ := w.cell
  refine c80 ⟨b, 0⟩ r a wr ?_
  unfold G80
  exact ⟨y, rd1 ec rfl, sk.one, w.put sk ⟨r, a, wr⟩ hl fun F' h' w' m' => ⟨_, rfl, rfl, F', w', m'⟩⟩
theorem walk_all (sk : Sink y (fun e => .agg (evc e).toArray) S 1000000000000) {B : Nat → Prop} {b : Nat} {acc : List Ev} {ws : List Int} {F : Nat → Prop} {h : Hp} (w : Wk c t L y S B b acc ws F h) {x : Sl} {l : List Ev} (rx : RdM evc h x l) (hx : ∀ q, x.q = some q → ¬ F q.b) (hl : acc.length + l.length < 1000000000000) :
    callK prog 86 [vp ⟨b, 0⟩, vs x] h fun v h' => v = .bool true ∧ ∃ F', Wk c t L y S B b (acc ++ l) ws F' h' ∧ Mv F h F' h' := by
  refine c86 ⟨b, 0⟩ x ?_
  unfold G86
  have lx := rx.len
  refine ⟨fun q z n i h1 m => q = ⟨b, 0⟩ ∧ x = z ∧ n = x.len ∧ ∃ j : Nat, i = j ∧ j ≤ l.length ∧ (∃ F', Wk c t L y S B b (acc ++ l.take j) ws F' h1 ∧ Mv F h F' h1) ∧ m = l.length - j, ⟨_, rfl, rfl, rfl, 0, rfl, Nat.zero_le _, ⟨F, by simpa using w, Mv.refl _ _⟩, rfl⟩, ?_⟩
  rintro q z n i h1 m ⟨rfl, rfl, rfl, j, rfl, hj, ⟨F1, w1, m1⟩, rfl⟩
  refine ifD (fun hlt => ?_) fun hge => ?_
  · have hj' : j < l.length := by omega
    have r1 : RdM evc h1 x l := rx.move fun q hq hp => m1.2.1 _ (rx.there evc3 hq hp) (hx q hq)
    refine r1.ix evc3 hj' fun q _ hr => ?_
    obtain ⟨p, hp⟩ : ∃ p, p = l[j] := ⟨_, rfl⟩
    rw [← hp] at hr
    have htk : l.take (j + 1) = l.take j ++ [p] := by rw [hp, List.take_append_getElem hj']
    obtain ⟨pr, pa, pw⟩ := p
    obtain ⟨g1, g2, g3, _⟩ := hr
    refine ⟨_, g1, _, g2, _, g3, newC fun b1 h2 f2 e2 k2 => stW k2 f2 e2 rfl fun h3 k3 e3 _ => ?_⟩
    have w3 := w1.keep sk k3
    obtain ⟨s, ec, _⟩ := w3.cell
    refine ⟨y, rd1 ec rfl, sk.one, _, rd1 e3 rfl, _, rd1 e3 rfl, _, rd1 e3 rfl, ?_⟩
    refine w3.put sk ⟨pr, pa, pw⟩ (by rw [List.length_append, List.length_take]; omega) fun F' h' w' m' => ⟨_, rfl, ifB_neg rfl ⟨_, by omega, rfl, rfl, rfl, j + 1, w64_id (by omega) (by omega), by omega, ⟨F', by rw [htk, ← List.append_assoc]; exact w', m1.trans ((mvK k3 _).trans m')⟩, rfl⟩⟩
  · have : j = l.length := by omega
    subst this
    rw [List.take_length] at w1
    exact ⟨rfl, F1, w1, m1⟩
/-- rows of one's own are none of the walk's blocks -/
theorem Wk.dom (sk : Sink y (fun e => .agg (evc e).toArray) S 1000000000000) {B : Nat → Prop} {b : Nat} {acc : List Ev} {ws : List Int} {F : Nat → Prop} {h : Hp} (w : Wk c t L y S B b acc ws F h) {x : Nat} (hx : F x) : h x ≠ none := by
  obtain ⟨s, ec, _⟩ := w.cell
  obtain ⟨F0, hF, hn, hs⟩ := w.foot
  rw [hF] at hx
  rcases hx with rfl | hx
  · rw [ec]; simp
  · exact sk.dom _ _ _ _ hs hx
theorem walk_own (sk : Sink y (fun e => .agg (evc e).toArray) S 1000000000000) {B : Nat → Prop} {b : Nat} {acc : List Ev} {ws : List Int} {F : Nat → Prop} {h h' : Hp} (w : Wk c t L y S B b acc ws F h) {x : Sl} {l : List Ev} (ox : OwnM 3 evc h h' x l) (k : Keep h h') (hl : acc.length + l.length < 1000000000000) :
    callK prog 86 [vp ⟨b, 0⟩, vs x] h' fun v h2 => v = .bool true ∧ ∃ F', Wk c t L y S B b (acc ++ l) ws F' h2 ∧ Mv F h F' h2 := by
  refine (walk_all sk (w.keep sk k) ox.rd (fun q hq hF => (w.dom sk hF) (ox.blk hq).1) hl).mono ?_
  rintro _ h2 ⟨rfl, F', w', m'⟩
  exact ⟨rfl, F', w', (mvK k F).trans m'⟩

theorem WaysOk.take {m L : Nat} {ws : List Int} (w : WaysOk m L ws) (n : Nat) : WaysOk m L (ws.take n) := fun i hi => by
  have h1 : i < ws.length := by rw [List.length_take] at hi; omega
  have := w i h1
  simpa using this
theorem WaysOk.drop {m L : Nat} {ws : List Int} (w : WaysOk m L ws) (n : Nat) : WaysOk m L (ws.drop (n * L)) := fun i hi => by
  have h1 : n * L + i < ws.length := by rw [List.length_drop] at hi; omega
  have := w (n * L + i) h1
  have e : (n * L + i) % L = i % L := by rw [Nat.mul_comm, Nat.mul_add_mod]
  rw [e] at this
  simpa using this
theorem drop_take_getD (ws : List Int) (a n i : Nat) (h : i + a < n) : ((ws.take n).drop a).getD i 0 = (ws.drop a).getD i 0 := by
  simp only [List.getD_eq_getElem?_getD, List.getElem?_drop, List.getElem?_take]
  rw [if_pos (by omega)]
theorem accEv_congr {m : Nat} {s t : Int} {L : Nat} {first : Int} {l l' : List Int} (hh : ∀ i, i < L → l.getD i 0 = l'.getD i 0) : accEv m s t L first l = accEv m s t L first l' := by
  unfold accEv
  congr 1
  have : ∀ n, n ≤ L → oneEv m s t L first l n = oneEv m s t L first l' n := fun n => by
    induction n with
    | zero => intro _; rfl
    | succ n ih => intro hn; rw [oneEv_succ, oneEv_succ, ih (by omega), hh n (by omega)]
  exact this L (Nat.le_refl _)
theorem storeEv_take {m : Nat} {s t : Int} {L : Nat} {first : Int} (ws : List Int) (N : Nat) : ∀ n, n ≤ N → storeEv m s t L first (ws.take (N * L)) n = storeEv m s t L first ws n := fun n => by
  induction n with
  | zero => intro _; rfl
  | succ n ih =>
    intro hn
    rw [storeEv_succ, storeEv_succ, ih (by omega)]
    congr 1
    refine accEv_congr fun i hi => drop_take_getD _ _ _ _ ?_
    have := Nat.mul_le_mul_right L hn
    rw [Nat.succ_mul] at this
    omega
theorem walk_access (sk : Sink y (fun e => .agg (evc e).toArray) S 1000000000000) (o : c.Ok t L) {B : Nat → Prop} {b : Nat} {acc : List Ev} {ws : List Int} {F : Nat → Prop} {h : Hp} (w : Wk c t L y S B b acc ws F h) (n : Nat) (hn : n ≤ 1000) (hws : n * L ≤ ws.length) (hl : acc.length + 5000000 * n < 1000000000000) :
    callK prog 82 [vp ⟨b, 0⟩, .int .i64 n] h fun v h' => v = .bool true ∧ ∃ F', Wk c t L y S B b (acc ++ sEv c t L ws n) (ws.drop (n * L)) F' h' ∧ Mv F h F' h' := by
  have hL := o.L; have hlev := o.lev
  obtain ⟨s, ec, rs, hb⟩ := w.cell
  have ls := rs.len
  have nF : ¬ B b := fun hB => by
    obtain ⟨F0, hF, _, _⟩ := w.foot
    exact (w.base b hB).1 (by rw [hF]; exact .inl rfl)
  refine c82 ⟨b, 0⟩ n ?_
  unfold G82
  refine rdI ec rfl (rd9w ec ⟨s, rd1 ec rfl, ?_⟩)
  have hnL : n * L ≤ 1000 * 4 := Nat.mul_le_mul hn hL.2
  have ew : w64 ((n : Int) * c.lev) = ((n * L : Nat) : Int) := by
    have : (n : Int) * c.lev = ((n * L : Nat) : Int) := by rw [hlev]; simp
    rw [this, w64_id (by omega) (by omega)]
  rw [ew]
  refine ⟨by omega, by have := rs.cap; omega, ?_⟩
  refine (config_store o).to fun h1 k1 => ⟨_, _, _, _, rfl, ⟨rd1 (k1.get ec) rfl, trivial⟩, ?_⟩
  simp only [Int.toNat_natCast]
  have rt := (rs.keep k1).takeS hws
  have hn1 : (ws.take (n * L)).length = n * L := by rw [List.length_take]; omega
  refine (store_events o.st 3 (by omega) rt hn1 (w.ways.take _) (by omega)).mono ?_
  rintro _ h2 ⟨x, rfl, ox, k2⟩
  have k12 := k1.trans k2
  have e2 := k12.get ec
  refine ⟨_, rfl, s, rd1 e2 rfl, by omega, by omega, ?_⟩
  refine ⟨_, _, e2, by simp, ?_⟩
  have w2 := w.keep sk k12
  obtain ⟨s2, e2', rs2, hb2⟩ := w2.cell
  obtain ⟨F0, hF, hnF, hs⟩ := w2.foot
  subst hF
  have rs2' : RdS iv h2 s ws := rs.keep k12
  have ox' : OwnM 3 evc h h2 x (storeEv (t + 2) c.slo c.sta L 3 (ws.take (n * L)) n) := ox.baseK k1
  have w3 : Wk c t L y S B b acc (ws.drop (n * L)) (fun x => x = b ∨ F0 x) (upd h2 b (.cells #[.int .i64 c.cap, .int .i64 c.bat, .int .i64 c.kic, .int .i64 c.spi, .int .i64 c.tab, .int .i64 c.slo, .int .i64 c.sta, .int .i64 c.lev, .int .i64 c.pol, vs ⟨slPt s.p (n * L) s.cap 1, s.len - n * L, s.cap - n * L, slZ s.z (n * L) s.cap 1⟩, y] 90 (0, 0))) := by
    refine ⟨⟨_, upd_same _ _ _, (rs2'.drop hws).move fun q hq _ => upd_ne _ _ fun e => ?_, fun q hq => ?_⟩, fun x hx => ⟨(w2.base x hx).1, ?_⟩, ⟨F0, rfl, hnF, sk.keep _ _ _ _ hs fun x hx => upd_ne _ _ fun e => hnF (e ▸ hx)⟩, w.ways.drop n⟩
    · obtain ⟨q0, h1, h2⟩ := cut_q0 rs.nil (by have := rs.cap; omega) hq
      exact nF (show B b from by rw [← e, h2]; exact hb q0 h1)
    · obtain ⟨q0, h1, h2⟩ := cut_q0 rs.nil (by have := rs.cap; omega) hq
      rw [h2]; exact hb q0 h1
    · have xb : x ≠ b := fun e => nF (by rw [← e]; exact hx)
      rw [upd_ne _ _ xb]; exact (w2.base x hx).2
  have xb : ∀ q, x.q = some q → q.b ≠ b := fun q hq e => by
    have := (ox'.blk hq).1
    rw [e, ec] at this; cases this
  have sl := storeEv_length o.st 3 (ws.take (n * L)) n
  refine (walk_all sk w3 (ox'.rd.move fun q hq _ => upd_ne _ _ (xb q hq)) (fun q hq hF => ?_) (by omega)).mono ?_
  · have h1 := (ox'.blk hq).1
    exact w.dom sk hF h1
  · rintro _ h4 ⟨rfl, F', w', m'⟩
    refine ⟨_, rfl, rfl, F', ?_, ?_⟩
    · rw [storeEv_take _ _ _ (Nat.le_refl _)] at w'; exact w'
    · exact (mvK k12 _).trans ((mv_upd (.inl rfl) _).trans m')
end
end Go.Proofs.Tryz

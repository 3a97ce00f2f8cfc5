/- StoreKeeps. -/
import Derived.Test.YtolgmdbjomlcjaaGreatRdL
import Derived.Test.YtolgmdbjomlcjaaGreatLawS
namespace Go.Sh
open Go Go.RowKit
/-- the law's own tables say what is in the store -/
def IsWas (m : Nat) (A : UInt64 → Option Dat) (g : Hp) (b2 b3 : Nat) : Prop :=
  (∃ c T, g b2 = some (.cells c T (0, 0)) ∧ c.size = 2 ^ m ∧ ∀ x, x < 2 ^ m → c[x]? = some (.bool (A (UInt64.ofNat x)).isSome)) ∧
  ∃ c T, g b3 = some (.cells c T (0, 0)) ∧ c.size = 2 ^ m * 8 ∧ ∀ x d, x < 2 ^ m → A (UInt64.ofNat x) = some d → ∀ k (hk : k < 8), c[x * 8 + k]? = some (vu d[k])
theorem IsWas.same {m : Nat} {A A' : UInt64 → Option Dat} {g g' : Hp} {b2 b3 : Nat} (w : IsWas m A g b2 b3) (e2 : g' b2 = g b2) (e3 : g' b3 = g b3) (hA : ∀ x, x < 2 ^ m → A' (UInt64.ofNat x) = A (UInt64.ofNat x)) : IsWas m A' g' b2 b3 := by
  obtain ⟨⟨c, T, h1, h2, h3⟩, c', T', h4, h5, h6⟩ := w
  exact ⟨⟨c, T, by rw [e2, h1], h2, fun x hx => by rw [hA x hx]; exact h3 x hx⟩, c', T', by rw [e3, h4], h5, fun x d hx hd => h6 x d hx (by rw [← hA x hx]; exact hd)⟩
theorem of_inj {m x y : Nat} (hm : m ≤ 10) (hx : x < 2 ^ m) (hy : y < 2 ^ m) (e : UInt64.ofNat x = UInt64.ofNat y) : x = y := by
  have hp : 2 ^ m ≤ 2 ^ 10 := Nat.pow_le_pow_right (by decide) hm
  have := congrArg UInt64.toNat e
  rw [UInt64.toNat_ofNat', UInt64.toNat_ofNat'] at this; omega
theorem zRow_get1 {v : Value} {n i : Nat} (hi : i < n) : (zRow (if n = 0 then #[] else #[v]) n)[i]? = some v := by
  rw [if_neg (by omega)]
  unfold zRow
  rw [Array.getElem?_map, Array.getElem?_range, if_pos hi]
  simp [Nat.mod_one]
end Go.Sh
namespace Go.Proofs.Tryz
open Go Go.Sh Go.RowKit
set_option maxRecDepth 8000
theorem keeps_tail {m : Nat} (hm : m ≤ 10) {A : UInt64 → Option Dat} {h0 g : Hp} {b2 b3 : Nat} (k0 : Keep h0 g) (f2 : h0 b2 = none) (f3 : h0 b3 = none) (hne : b2 ≠ b3) (w : IsWas m A g b2 b3) {sl : Sl} {l : List StepV} (rl : RdM stepv h0 sl l) {i : Nat} (hi : i < l.length)
    {x : Nat} (hx : x < 2 ^ m) {A1 K : Hp → Prop}
    (hk : ∀ g', Keep h0 g' → (∀ y, y ≠ b2 → y ≠ b3 → g y ≠ none → g' y = g y) → IsWas m (updA A l[i].o (UInt64.ofNat x)) g' b2 b3 → K g') :
    ifB (decide (opN l[i].op = 1)) (∃ (q7 : Pt), Sl.q ⟨some ⟨b2, 0⟩, 2 ^ m, 2 ^ m, none⟩ = some q7 ∧ 0 ≤ (x : Int) ∧ (x : Int) + 1 ≤ ((2 ^ m : Nat) : Int) ∧ storeK g { b := q7.b, o := q7.o + x * 1 } [.bool true] fun h15 => ∃ (q8 : Pt), Sl.q sl = some q8 ∧ 0 ≤ (i : Int) ∧ (i : Int) + 1 ≤ (sl.len : Int) ∧ ∃ x3 : UInt64, hcell h15 q8.b (q8.o + Int.toNat (i : Int) * 3 + 2) = some (vu x3) ∧ callK prog 17 [vu x3] h15 fun v8 h16 => ∃ (c6 : Vector UInt64 8), v8 = Value.agg (Array.map vu c6.toArray) ∧ ∃ (q9 : Pt), Sl.q ⟨some ⟨b3, 0⟩, 2 ^ m, 2 ^ m, none⟩ = some q9 ∧ 0 ≤ (x : Int) ∧ (x : Int) + 1 ≤ ((2 ^ m : Nat) : Int) ∧ storeK h16 { b := q9.b, o := q9.o + x * 8 } (SV.cells (SV.ws 8 c6)) fun h17 => ifB (decide (opN l[i].op = 3)) (A1 h17) (K h17))
      (ifB (decide (opN l[i].op = 3)) (∃ (q10 : Pt), Sl.q ⟨some ⟨b2, 0⟩, 2 ^ m, 2 ^ m, none⟩ = some q10 ∧ 0 ≤ (x : Int) ∧ (x : Int) + 1 ≤ ((2 ^ m : Nat) : Int) ∧ storeK g { b := q10.b, o := q10.o + x * 1 } [.bool false] fun h18 => K h18) (K g)) := by
  have hop := opN_ok l[i].op
  have hlen := rl.len
  obtain ⟨⟨c, T, e1, s1, g1⟩, c', T', e2, s2, g2⟩ := w
  have hxI : (x : Int) + 1 ≤ ((2 ^ m : Nat) : Int) := by omega
  have upn : ∀ y, y < 2 ^ m → y ≠ x → ∀ op, updA A op (UInt64.ofNat x) (UInt64.ofNat y) = A (UInt64.ofNat y) := fun y hy hn op => updA_ne fun e => hn (of_inj hm hy hx e)
  have oe : l[i].o = opOf (opN l[i].op) (dataV l[i].n) := rfl
  refine ifD (fun hp => ?_) fun hnp => ifD (fun hd => ?_) fun hnd => ?_
  · refine ⟨⟨b2, 0⟩, rfl, by omega, hxI, stN k0 f2 e1 (by simp; omega) fun h15 k15 e15 o15 => ?_⟩
    obtain ⟨q, hq⟩ := rl.ptr (by omega)
    obtain ⟨_, _, c2, _⟩ := flat_at stepv_length (rl.rd q hq) hi
    refine ⟨q, hq, by omega, by omega, _, k15.cell c2, ?_⟩
    refine (law_data l[i].n).to fun h16 k16 => ⟨_, rfl, ⟨b3, 0⟩, rfl, by omega, hxI, ?_⟩
    have e3 : h16 b3 = some (.cells c' T' (0, 0)) := k16.get ((o15 b3 (Ne.symm hne)).trans e2)
    refine stN (k15.trans k16) f3 e3 (by simp [SV.cells]; omega) fun h17 k17 e17 o17 => ?_
    refine ifB_neg (decide_eq_false (by omega)) ?_
    refine hk h17 k17 (fun y y2 y3 hy => by rw [o17 y y3, k16 y (by rw [o15 y y2]; exact hy), o15 y y2]) ?_
    have hup : updA A l[i].o (UInt64.ofNat x) (UInt64.ofNat x) = some (dataV l[i].n) := by rw [updA_eq, oe, hp]; rfl
    refine ⟨⟨_, _, (o17 b2 hne).trans (k16.get e15), by rw [hwr_size]; exact s1, fun y hy => ?_⟩, _, _, e17, by rw [hwr_size]; exact s2, fun y d hy hd k hk' => ?_⟩
    · rw [hwr_get]
      by_cases e : y = x
      · subst e; rw [if_pos (by simp; omega), hup]; simp
      · rw [if_neg (by simp; omega), g1 y hy, upn y hy e]
    · rw [hwr_get]
      by_cases e : y = x
      · subst e
        rw [hup] at hd; cases hd
        rw [if_pos (by simp [SV.cells]; omega)]
        simp [SV.cells, hk']
      · rw [upn y hy e] at hd
        have := g2 y d hy hd k hk'
        rw [if_neg (by simp [SV.cells]; omega)]; exact this
  · refine ⟨⟨b2, 0⟩, rfl, by omega, hxI, stN k0 f2 e1 (by simp; omega) fun h15 k15 e15 o15 => ?_⟩
    refine hk h15 k15 (fun y y2 y3 hy => o15 y y2) ?_
    have hup : updA A l[i].o (UInt64.ofNat x) (UInt64.ofNat x) = none := by rw [updA_eq, oe, hd]; rfl
    refine ⟨⟨_, _, e15, by rw [hwr_size]; exact s1, fun y hy => ?_⟩, _, _, (o15 b3 (Ne.symm hne)).trans e2, s2, fun y d hy hd' k hk' => ?_⟩
    · rw [hwr_get]
      by_cases e : y = x
      · subst e; rw [if_pos (by simp; omega), hup]; simp
      · rw [if_neg (by simp; omega), g1 y hy, upn y hy e]
    · by_cases e : y = x
      · subst e; rw [hup] at hd'; cases hd'
      · rw [upn y hy e] at hd'; exact g2 y d hy hd' k hk'
  · have h0 : opN l[i].op = 0 := by omega
    refine hk g k0 (fun _ _ _ _ => rfl) (IsWas.same ⟨⟨c, T, e1, s1, g1⟩, c', T', e2, s2, g2⟩ rfl rfl fun y hy => ?_)
    by_cases e : y = x
    · subst e
      rw [updA_eq, oe, h0]
      show LOp.look.now _ _ = _
      unfold outA
      cases A (UInt64.ofNat y) <;> rfl
    · exact upn y hy e _
theorem law_keeps {h : Hp} {n : Int} (n1 : -9223372036854775808 ≤ n) (n2 : n ≤ 9223372036854775807) {sw : Sl} {ws : List UInt64} (rw_ : RdS vu h sw ws) (hlw : ws.length * 8 ≤ 140737488355328) {sl : Sl} {l : List StepV} (rl : RdM stepv h sl l) (_ : l.length * 24 ≤ 140737488355328) :
    callK prog 3 [.int .i64 n, vs sw, vs sl] h fun v h' => v = .bool true ∧ Keep h h' := by
  refine c3 _ _ _ ?_
  unfold G3
  refine law_shown.to fun h1 k1 => ⟨_, rfl, ifB_neg rfl (ifB_intro (fun _ => ⟨rfl, k1⟩) fun hl24 => ifB_intro (fun _ => ⟨rfl, k1⟩) fun _ => ?_)⟩
  have hlen : l.length ≤ 24 := by
    have : ¬ (24 : Int) < (sl.len : Int) := of_decide_eq_false hl24
    have := rl.len; omega
  refine law_start n1 n2 (rw_.keep k1) hlw fun b1 h4 h5 B k4 e4 k5 RS st fB => ?_
  have o := cfgG_ok n
  generalize cfgG n = G at *
  have K4 := k1.trans k4
  have R0 := SRun.zero RS
  have e5 := k5.get e4
  have hm10 := o.m
  have hp1 : 1 ≤ 2 ^ G.m := Nat.one_le_two_pow
  have hp2 : 2 ^ G.m ≤ 2 ^ 10 := Nat.pow_le_pow_right (by decide) hm10
  have eI : (2 : Int) ^ G.m = ((2 ^ G.m : Nat) : Int) := by simp
  rw [eI] at e4 e5
  refine ⟨some ⟨B.m.b, 0⟩, some ⟨B.tb, 0⟩, some ⟨B.sb, 0⟩, rfl, ifB_neg rfl ⟨_, rd1 e5 rfl, by omega, by omega, by omega, by omega, newC fun b2 h6 f6 e6 k6 => ⟨_, rd1 (k6.get e5) rfl, by omega, by omega, by omega, by omega, newC fun b3 h7 f7 e7 k7 => ?_⟩⟩⟩
  rw [Int.toNat_natCast] at e6 e7 ⊢
  have n32 : b2 ≠ b3 := fun e => by rw [← e, e6] at f7; cases f7
  have K7 := (k5.trans k6).trans k7
  have f2 : h4 b2 = none := k5.free f6
  have f3 : h4 b3 = none := (k5.trans k6).free f7
  have R7 := R0.keep o (k6.trans k7)
  have w7 : IsWas G.m (fun _ => none) h7 b2 b3 := by
    refine ⟨⟨_, _, k7.get e6, by rw [zRow_size]; omega, fun x hx => ?_⟩, _, _, e7, by rw [zRow_size], fun x d hx hd => by cases hd⟩
    rw [Nat.mul_one]; exact zRow_get1 (by omega)
  refine ⟨fun s1 q1 o4 s2 s3 n9 g kk => sl = s1 ∧ (⟨b1, 0⟩ : Pt) = q1 ∧ o4 = some ⟨B.sb, 0⟩ ∧ s2 = ⟨some ⟨b2, 0⟩, 2 ^ G.m, 2 ^ G.m, none⟩ ∧ s3 = ⟨some ⟨b3, 0⟩, 2 ^ G.m, 2 ^ G.m, none⟩ ∧ ∃ (i : Nat) (S : SSt) (ev : List Ev) (es gs : Sl) (A : UInt64 → Option Dat), n9 = i ∧ i ≤ l.length ∧ kk = l.length - i ∧ SRun G ws B i S ev es gs g ∧ Live G S A ∧ IsWas G.m A g b2 b3 ∧ ¬ SFo G B es gs b2 ∧ ¬ SFo G B es gs b3 ∧ Keep h4 g ∧ (∀ x, SFo G B es gs x → h4 x = none),
    ⟨l.length, rfl, rfl, rfl, rfl, rfl, 0, _, [], nilS, nilS, _, rfl, by omega, rfl, R7, ⟨_, _, NI.zero (fun _ _ => rfl)⟩, w7, R0.r.out o f6, (R0.keep o k6).r.out o f7, K7, fB⟩, ?_⟩
  rintro s1 q1 o4 s2 s3 n9 g kk ⟨rfl, rfl, rfl, rfl, rfl, i, S, ev, es, gs, A, rfl, hi, rfl, Rg, lv, w, n2F, n3F, kg, Fg⟩
  have hsl := rl.len
  refine ifD (fun hlt => ?_) fun hge => ⟨rfl, K4.trans kg⟩
  have hi' : i < l.length := by omega
  have eg := kg.get e4
  have rl4 := rl.keep stepv_length K4
  have rlg := rl4.keep stepv_length kg
  obtain ⟨q, hq⟩ := rl.ptr (by omega)
  obtain ⟨c0, c1, c2, _⟩ := flat_at stepv_length (rlg.rd q hq) hi'
  obtain ⟨ex, hx, hz⟩ := idx_mod (y := l[i].id) hm10
  rw [eI] at ex hz
  refine ⟨q, hq, by omega, by omega, _, c1, _, rd1 eg rfl, hz, q, hq, by omega, by omega, _, c0, ?_⟩
  refine (law_op l[i].lo l[i].hi).to fun h9 k9 => ⟨_, rfl, q, hq, by omega, by omega, _, k9.cell c2, ?_⟩
  refine (law_data l[i].n).to fun h10 k10 => ⟨_, rfl, ?_⟩
  rw [ex]
  have hxN : l[i].x G.m < 2 ^ G.m := hx
  have hxe : l[i].id.toNat % 2 ^ G.m = l[i].x G.m := rfl
  rw [hxe] at hx ⊢
  have hop := opN_ok l[i].op
  have kk9 := k9.trans k10
  refine (run_access o st (Rg.keep o kk9) (by omega) (op := l[i].o) (opOf_is hop (dataV l[i].n)) hop hxN).mono ?_
  rintro _ g3 ⟨ev3, es3, gs3, rfl, R3, v3⟩
  obtain ⟨K3, F3⟩ := v3.keep (kg.trans kk9) Fg
  have hb2 : g b2 ≠ none := by obtain ⟨⟨_, _, e, _⟩, _⟩ := w; rw [e]; simp
  have hb3 : g b3 ≠ none := by obtain ⟨_, _, _, e, _⟩ := w; rw [e]; simp
  have hb2' : h10 b2 ≠ none := by rw [kk9 b2 hb2]; exact hb2
  have hb3' : h10 b3 ≠ none := by rw [kk9 b3 hb3]; exact hb3
  have w3 : IsWas G.m A g3 b2 b3 := w.same (by rw [v3.2.1 b2 hb2' n2F, kk9 b2 hb2]) (by rw [v3.2.1 b3 hb3' n3F, kk9 b3 hb3]) fun _ _ => rfl
  have n2F3 := v3.out hb2' n2F
  have n3F3 := v3.out hb3' n3F
  refine ⟨_, _, rfl, newC fun b4 g4 f4 e4' k4' => ?_⟩
  refine wbMW (n := 8) (mvK (K3.trans k4') (fun _ => False)) (K3.free f4) e4' rfl fun g5 v5 e5' o5 => ?_
  have K5 : Keep h4 g5 := fun z hz => v5.2.1 z hz id
  have hb2g : g3 b2 ≠ none := by obtain ⟨⟨_, _, e, _⟩, _⟩ := w3; rw [e]; simp
  have hb3g : g3 b3 ≠ none := by obtain ⟨_, _, _, e, _⟩ := w3; rw [e]; simp
  have n42 : b2 ≠ b4 := fun e => hb2g (by rw [e]; exact f4)
  have n43 : b3 ≠ b4 := fun e => hb3g (by rw [e]; exact f4)
  have R5 : SRun G ws B (i + 1) (stAcc G (fun p => ws.getD p 0) l[i].o (l[i].x G.m) S).1 ev3 es3 gs3 g5 := ⟨R3.r.same fun z hz => by rw [o5 z fun e => R3.r.out o f4 (e ▸ hz), k4' z (R3.r.fdom o hz)], R3.ai, R3.us, R3.gl, R3.ev⟩
  have w5 : IsWas G.m A g5 b2 b3 := w3.same (by rw [o5 b2 n42, k4' b2 hb2g]) (by rw [o5 b3 n43, k4' b3 hb3g]) fun _ _ => rfl
  refine (store_over o R5.r).mono ?_
  rintro _ g5 ⟨rfl, rfl⟩
  refine ⟨_, rfl, ifB_intro (fun _ => ⟨rfl, K4.trans K5⟩) fun hno => ?_⟩
  have hov : ∀ z, z < G.L → (stAcc G (fun p => ws.getD p 0) l[i].o (l[i].x G.m) S).1.over z = false := fun z hz => by
    have := List.any_eq_false.1 hno z (List.mem_range.2 hz)
    simpa using this
  obtain ⟨lv', ho, _⟩ := live_step o Rg (by omega) hxN lv (.inl hov)
  rw [ho] at e5' ⊢
  generalize (stAcc G (fun p => ws.getD p 0) l[i].o (l[i].x G.m) S).1 = S' at *
  have hxn : (UInt64.ofNat (l[i].x G.m)).toNat = l[i].x G.m := by rw [UInt64.toNat_ofNat']; omega
  rw [hxn]
  have hxI : (l[i].x G.m : Int) + 1 ≤ ((2 ^ G.m : Nat) : Int) := by omega
  have is5 : hcell g5 b2 (0 + l[i].x G.m * 1) = some (.bool (A (UInt64.ofNat (l[i].x G.m))).isSome) := by
    obtain ⟨⟨c, T, h1, _, h3⟩, _⟩ := w5
    rw [hcell_cells h1, Nat.zero_add, Nat.mul_one]; exact h3 _ hxN
  have was5 : ∀ d, A (UInt64.ofNat (l[i].x G.m)) = some d → rdW g5 b3 (0 + l[i].x G.m * 8) d := fun d hd k hk => by
    obtain ⟨_, c, T, h1, _, h3⟩ := w5
    rw [hcell_cells h1, Nat.zero_add]; exact h3 _ d hxN hd k hk
  have tail := @keeps_tail G.m hm10 A h4 g5 b2 b3 K5 f2 f3 n32 w5 sl l rl4 i hi' (l[i].x G.m) hxN
  refine ⟨⟨b2, 0⟩, rfl, by omega, hxI, _, is5, ?_⟩
  cases hA : A (UInt64.ofNat (l[i].x G.m)) with
  | none =>
    have e : outA A (UInt64.ofNat (l[i].x G.m)) = (dat0, false) := by unfold outA; rw [hA]
    rw [e] at e5' ⊢
    refine ifB_neg rfl (ifB_neg rfl (ifB_pos rfl ⟨_, wb_rd e5', ifB_neg ?_ (tail fun g' kg' og' wg' => ⟨l.length - (i + 1), by omega, rfl, rfl, rfl, rfl, rfl, i + 1, S', ev3, es3, gs3, _, w64_id (by omega) (by omega), by omega, rfl, ⟨R5.r.same fun z hz => og' z (fun e => n2F3 (e ▸ hz)) (fun e => n3F3 (e ▸ hz)) (R5.r.fdom o hz), R5.ai, R5.us, R5.gl, R5.ev⟩, lv', wg', n2F3, n3F3, kg', F3⟩)⟩))
    simp [dat0]
  | some d =>
    have e : outA A (UInt64.ofNat (l[i].x G.m)) = (d, true) := by unfold outA; rw [hA]
    rw [e] at e5' ⊢
    refine ifB_neg rfl (ifB_pos rfl ⟨_, wb_rd e5', ⟨b3, 0⟩, rfl, by omega, hxI, _, was5 d hA, ifB_neg ?_ (ifB_neg rfl (tail fun g' kg' og' wg' => ⟨l.length - (i + 1), by omega, rfl, rfl, rfl, rfl, rfl, i + 1, S', ev3, es3, gs3, _, w64_id (by omega) (by omega), by omega, rfl, ⟨R5.r.same fun z hz => og' z (fun e => n2F3 (e ▸ hz)) (fun e => n3F3 (e ▸ hz)) (R5.r.fdom o hz), R5.ai, R5.us, R5.gl, R5.ev⟩, lv', wg', n2F3, n3F3, kg', F3⟩))⟩)
    simp
end Go.Proofs.Tryz

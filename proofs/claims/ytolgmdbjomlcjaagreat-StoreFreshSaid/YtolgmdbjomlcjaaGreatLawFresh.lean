/- StoreFresh. -/
import Derived.Test.YtolgmdbjomlcjaaGreatRdL
import Derived.Test.YtolgmdbjomlcjaaGreatLawS
namespace Go.Proofs.Tryz
open Go Go.Sh Go.RowKit
set_option maxRecDepth 8000
theorem fresh_way {G : SP} {w : Nat → UInt64} (o : G.Ok) {u u0 x h : Nat} {K : Ways} (hu : u0 < 1000000) : (wayOf G w u x (kupd G w u0 x K 0) h).2 = G.fp u0 h := by
  have hL := o.L
  unfold wayOf
  rw [kupd_new (Nat.zero_le h)]
  have h1 := newWay_leaf (G := G) (w := w) o u0 h
  unfold way
  rw [if_neg (fun e => by rw [e] at h1; simp at h1)]
  show (UInt64.ofNat (G.fp u0 h)).toNat = _
  exact placeW_toNat (by unfold SP.fp; omega)
theorem law_fresh {h : Hp} {n : Int} (n1 : -9223372036854775808 ≤ n) (n2 : n ≤ 9223372036854775807) {sw : Sl} {ws : List UInt64} (rw_ : RdS vu h sw ws) (hlw : ws.length * 8 ≤ 140737488355328) {sl : Sl} {l : List StepV} (rl : RdM stepv h sl l) (_ : l.length * 24 ≤ 140737488355328) (id : UInt64) :
    callK prog 7 [.int .i64 n, vs sw, vs sl, vu id] h fun v h' => v = .bool true ∧ Keep h h' := by
  refine c7 _ _ _ _ ?_
  unfold G7
  refine law_shown.to fun h1 k1 => ⟨_, rfl, ifB_neg rfl (ifB_intro (fun _ => ⟨rfl, k1⟩) fun hl24 => ifB_intro (fun _ => ⟨rfl, k1⟩) fun _ => ?_)⟩
  have hlen : l.length ≤ 8 := by
    have : ¬ (8 : Int) < (sl.len : Int) := of_decide_eq_false hl24
    have := rl.len; omega
  have p1 := pickN_lt n (n := 6) (by decide)
  have p2 := pickN_lt (n.tdiv 6) (n := 3) (by decide)
  have p3 := pickN_lt (n.tdiv 18) (n := 8) (by decide)
  have p4 := pickN_lt (n.tdiv 144) (n := 3) (by decide)
  refine law_start n1 n2 (rw_.keep k1) hlw fun b1 h4 h5 B k4 e4 k5 RS st fB => ?_
  have K4 := k1.trans k4
  have e5 := k5.get e4
  refine ⟨some ⟨B.m.b, 0⟩, some ⟨B.tb, 0⟩, some ⟨B.sb, 0⟩, rfl, ifB_neg rfl (ifB_neg rfl ⟨_, rd1 e5 rfl, _, rd1 e5 rfl, _, rd1 e5 rfl, _, rd1 e5 rfl, ?_⟩)⟩
  refine (law_made (m := pickN n 6) (s := 1 + pickN (n.tdiv 6) 3) (t := 1 + pickN (n.tdiv 18) 8) (L := 1 + pickN (n.tdiv 144) 3) (by omega) (by omega) (by omega) (by omega) (rw_.keep (K4.trans k5)) hlw).mono ?_
  rintro _ h6 ⟨C, rfl, RC, stC, fC, k6⟩
  have o := cfgG_ok n
  have hG0 : (cfgG n).t = 1 + pickN (n.tdiv 18) 8 := rfl
  have RC : StR (cfgG n) ws C S00 [] nilS nilS h6 := RC
  have stC : StM (cfgG n) C := stC
  have fC : ∀ x, SFo (cfgG n) C nilS nilS x → h5 x = none := fC
  generalize cfgG n = G at *
  have hL := o.L
  have hGt : 1 ≤ G.t := by omega
  have R0 := (SRun.zero RS).keep o k6
  have C0 := SRun.zero RC
  have dis : ∀ x, SFo G B nilS nilS x → ¬ SFo G C nilS nilS x := fun x hx hx' => RS.fdom o hx (fC x hx')
  have e6 := k6.get e5
  obtain ⟨ex, hx, hz⟩ := idx_mod (y := id) o.m
  refine ⟨some ⟨C.m.b, 0⟩, some ⟨C.tb, 0⟩, some ⟨C.sb, 0⟩, rfl, ifB_neg rfl ⟨_, rd1 e6 rfl, hz, ?_⟩⟩
  rw [ex]
  generalize hX : id.toNat % 2 ^ G.m = X at *
  refine (run_access o stC C0 (by omega) (op := .look) (k := 0) (d := dat0) rfl (.inl rfl) hx).mono ?_
  rintro _ h7 ⟨ev7, es7, gs7, rfl, C7, v7⟩
  obtain ⟨_, _, _, hgC, _⟩ := run_out o C0 (op := .look) (x := X) (by omega) hx (NI.zero (fun _ _ => rfl)) (.inr fun y hy => ⟨rfl, by have := stAcc_ids (G := G) (w := fun p => ws.getD p 0) .look X S00 y; rw [show S00.ids y = [] from rfl, List.length_nil] at this; omega⟩)
  obtain ⟨R7, d7⟩ := R0.other o v7 dis
  obtain ⟨K7, F7⟩ := v7.keep (k5.trans k6) fun x hx => k5.free (fC x hx)
  refine ⟨_, _, rfl, ?_⟩
  generalize (stAcc G (fun p => ws.getD p 0) .look X S00).1 = SC at *
  have hgCl : SC.gone.length = G.L := by rw [hgC]; show ([] ++ _ : List (Nat × Nat)).length = _; simp
  refine (store_sources o C7.r (by omega)).mono ?_
  rintro _ h8 ⟨s1, rfl, o1, k8⟩
  have K8 := K7.trans k8
  have R8 := R7.keep o k8
  have hs1 := o1.rd.len
  rw [List.length_map, hgCl] at hs1
  have nf1 : ∀ q, s1.q = some q → ¬ SFo G B nilS nilS q.b := fun q hq hf => R7.r.fdom o hf (o1.blk hq).1
  refine ⟨s1, rfl, ?_⟩
  refine ⟨fun s2 x1 q1 o7 o8 s3 n14 g kk => sl = s2 ∧ id = x1 ∧ (⟨b1, 0⟩ : Pt) = q1 ∧ some ⟨B.tb, 0⟩ = o7 ∧ some ⟨B.sb, 0⟩ = o8 ∧ s1 = s3 ∧ ∃ (i : Nat) (S : SSt) (ev : List Ev) (es gs : Sl), n14 = i ∧ i ≤ l.length ∧ kk = l.length - i ∧ SRun G ws B i S ev es gs g ∧ ((∃ z, z < G.L ∧ S.over z = true) ∨ ∃ Bs K A, NI G S Bs K A) ∧ RdS iv g s1 (SC.gone.map fun y => (y.2 : Int)) ∧ (∀ q, s1.q = some q → ¬ SFo G B es gs q.b) ∧ Keep h4 g ∧ (∀ x, SFo G B es gs x → h4 x = none),
    ⟨l.length, rfl, rfl, rfl, rfl, rfl, rfl, 0, _, [], nilS, nilS, rfl, by omega, rfl, R8, .inr ⟨_, _, _, NI.zero (fun _ _ => rfl)⟩, o1.rd, nf1, K8, fB⟩, ?_⟩
  rintro s2 x1 q1 o7 o8 s3 n14 g kk ⟨rfl, rfl, rfl, rfl, rfl, rfl, i, S, ev, es, gs, rfl, hi, rfl, Rg, gd, r1, nf, kg, Fg⟩
  have hsl := rl.len
  have eg := kg.get e4
  have step : ∀ {a : Nat} {S : SSt} {ev : List Ev} {es gs : Sl} {g : Hp} (R : SRun G ws B a S ev es gs g) (_ : a ≤ 1000) (op : LOp) {z : Nat} (_ : z < 2 ^ G.m), ((∃ z, z < G.L ∧ S.over z = true) ∨ ∃ Bs K A, NI G S Bs K A) →
      ((∃ z', z' < G.L ∧ (stAcc G (fun p => ws.getD p 0) op z S).1.over z' = true) ∨ ∃ Bs K A, NI G (stAcc G (fun p => ws.getD p 0) op z S).1 Bs K A) := fun {a S ev es gs g} R ha op {z} hz gd => by
    by_cases c : ∀ z', z' < G.L → (stAcc G (fun p => ws.getD p 0) op z S).1.over z' = false
    · rcases gd with ⟨z', hz1, hz2⟩ | ⟨Bs, K, A, ni⟩
      · have := stAcc_mono (G := G) (w := fun p => ws.getD p 0) op z S z' (c z' hz1)
        rw [this] at hz2; cases hz2
      · obtain ⟨Bs', n', _⟩ := run_out o R ha hz ni (.inl c)
        exact .inr ⟨_, _, _, n'⟩
    · obtain ⟨z', hz'⟩ := Classical.not_forall.1 c
      obtain ⟨hl, hf⟩ := Classical.not_imp.1 hz'
      exact .inl ⟨z', hl, by simpa using hf⟩
  refine ifD (fun hlt => ?_) fun hge => ?_
  · have hi' : i < l.length := by omega
    refine step_do o st Rg (by omega) (rl.keep stepv_length (K4.trans kg)) hi' (rd1 eg rfl) fun ev' es' gs' h2 g2 k2 R2 v2 => ⟨_, _, rfl, ?_⟩
    obtain ⟨K2, F2⟩ := v2.keep (kg.trans k2) Fg
    have r12 := r1.keep k2
    have r13 : RdS iv g2 s1 (SC.gone.map fun y => (y.2 : Int)) := r12.move fun q hq hl => v2.2.1 _ (r12.there hq hl) (nf q hq)
    have hg1 : 0 < (SC.gone.map fun y => (y.2 : Int)).length := by rw [List.length_map]; omega
    exact ⟨l.length - (i + 1), by omega, rfl, rfl, rfl, rfl, rfl, rfl, i + 1, _, ev', es', gs', w64_id (by omega) (by omega), by omega, rfl, R2, step Rg (by omega) _ (StepV.x_lt G.m l[i]) gd, r13, fun q hq => v2.out (r12.there hq hg1) (nf q hq), K2, F2⟩
  · have hi' : i ≤ 8 := by omega
    have hm1 : G.L * i ≤ 4 * 8 := Nat.mul_le_mul (by omega) hi'
    have hm2 : 2 * G.L * i = 2 * (G.L * i) := Nat.mul_assoc _ _ _
    have hus := Rg.us
    have hgl := Rg.gl
    have hg1 : 0 < (SC.gone.map fun y => (y.2 : Int)).length := by rw [List.length_map]; omega
    refine ⟨_, rd1 eg rfl, hz, ?_⟩
    rw [ex]
    refine (run_access o st Rg (by omega) (op := .look) (k := 0) (d := dat0) rfl (.inl rfl) hx).mono ?_
    rintro _ g2 ⟨ev2, es2, gs2, rfl, R2, v2⟩
    obtain ⟨K2, F2⟩ := v2.keep kg Fg
    have r12 : RdS iv g2 s1 (SC.gone.map fun y => (y.2 : Int)) := r1.move fun q hq hl => v2.2.1 _ (r1.there hq hl) (nf q hq)
    have nf2 : ∀ q, s1.q = some q → ¬ SFo G B es2 gs2 q.b := fun q hq => v2.out (r1.there hq hg1) (nf q hq)
    refine ⟨_, _, rfl, (tape_used R2.r.tap).mono ?_⟩
    rintro _ g3 ⟨rfl, rfl⟩
    refine ⟨_, rfl, (run_access o st R2 (by omega) (op := .look) (k := 0) (d := dat0) rfl (.inl rfl) hx).mono ?_⟩
    rintro _ g4 ⟨ev4, es4, gs4, rfl, R4, v4⟩
    obtain ⟨K4', F4⟩ := v4.keep K2 F2
    have r14 : RdS iv g4 s1 (SC.gone.map fun y => (y.2 : Int)) := r12.move fun q hq hl => v4.2.1 _ (r12.there hq hl) (nf2 q hq)
    have hg4 := R4.gl
    have hm3 : G.L * (i + 1 + 1) ≤ 4 * 10 := Nat.mul_le_mul (by omega) (by omega)
    have hm4 : G.L * (i + 1 + 1) = G.L * i + G.L + G.L := by rw [Nat.mul_succ, Nat.mul_succ]
    have hus2 := R2.us
    have hm5 : 2 * G.L * (i + 1) = 2 * G.L * i + 2 * G.L := Nat.mul_succ _ _
    refine ⟨_, _, rfl, (store_sources o R4.r (by omega)).mono ?_⟩
    rintro _ g5 ⟨s4, rfl, o4, k5'⟩
    have hs4 := o4.rd.len
    rw [List.length_map, hg4] at hs4
    have r15 := r14.keep k5'
    have R5 := R4.keep o k5'
    refine ⟨s4, rfl, (store_over o R5.r).mono ?_⟩
    rintro _ g6 ⟨rfl, rfl⟩
    have K6 := K4'.trans k5'
    have e6 := K6.get e4
    refine ⟨_, rfl, ifB_intro (fun _ => ⟨rfl, K4.trans K6⟩) fun hno => ⟨_, rd1 e6 rfl, ifB_neg ?_ ⟨_, rd1 e6 rfl, ifB_neg ?_ ⟨_, rd1 e6 rfl, ?_⟩⟩⟩⟩
    · rw [hs1]; simp
    · exact decide_eq_false (by omega)
    have hov : ∀ z, z < G.L → (stAcc G (fun p => ws.getD p 0) .look X (stAcc G (fun p => ws.getD p 0) .look X S).1).1.over z = false := fun z hz => by
      have := List.any_eq_false.1 hno z (List.mem_range.2 hz)
      simpa using this
    have hov1 : ∀ z, z < G.L → (stAcc G (fun p => ws.getD p 0) .look X S).1.over z = false := fun z hz => stAcc_mono (G := G) (w := fun p => ws.getD p 0) .look X _ z (hov z hz)
    have hov0 : ∀ z, z < G.L → S.over z = false := fun z hz => stAcc_mono (G := G) (w := fun p => ws.getD p 0) .look X _ z (hov1 z hz)
    obtain ⟨Bs, K, A, ni⟩ : ∃ Bs K A, NI G S Bs K A := by
      rcases gd with ⟨z, hz1, hz2⟩ | g
      · rw [hov0 z hz1] at hz2; cases hz2
      · exact g
    obtain ⟨_, n1', _, _, _⟩ := run_out o Rg (op := .look) (x := X) (by omega) hx ni (.inl hov1)
    obtain ⟨_, _, _, hgo, _⟩ := run_out o R2 (op := .look) (x := X) (by omega) hx n1' (.inl hov)
    have hg2 := R2.gl
    generalize (stAcc G (fun p => ws.getD p 0) .look X S).1 = S2 at *
    generalize (stAcc G (fun p => ws.getD p 0) .look X S2).1 = S4 at *
    have hw : w64 ((s4.len : Int) - (G.L : Int)) = ((G.L * (i + 1) : Nat) : Int) := by
      rw [hs4, w64_id (by omega) (by omega), hm4, show G.L * (i + 1) = G.L * i + G.L from Nat.mul_succ _ _]; omega
    rw [hw]
    have hm6 : G.L * (i + 1) = G.L * i + G.L := Nat.mul_succ _ _
    refine ⟨by omega, by omega, ?_⟩
    rw [Int.toNat_natCast]
    have rp := o4.rd.drop (n := G.L * (i + 1)) (by rw [List.length_map, hg4]; omega)
    have hdl : ((S4.gone.map fun y => (y.2 : Int)).drop (G.L * (i + 1))) = (List.range G.L).map fun k => ((S.used + 2 * k : Nat) : Int) := by
      rw [hgo, List.map_append, ← hg2, show S2.gone.length = (S2.gone.map fun y => (y.2 : Int)).length by simp, List.drop_left, List.map_map]
      refine List.map_congr_left fun k hk => ?_
      have hk' := List.mem_range.1 hk
      show ((wayOf G _ S2.used X (kupd G _ S.used X K 0) (G.L - 1 - k)).2 : Int) = _
      rw [fresh_way o (by omega)]
      unfold SP.fp
      rw [show G.L - 1 - (G.L - 1 - k) = k by omega]
    have hfl : (SC.gone.map fun y => (y.2 : Int)) = (List.range G.L).map fun k => ((2 * k + 1 : Nat) : Int) := by
      rw [hgC]
      show (([] ++ (List.range G.L).map _ : List (Nat × Nat)).map fun y => (y.2 : Int)) = _
      rw [List.nil_append, List.map_map]
      refine List.map_congr_left fun k hk => ?_
      have hk' := List.mem_range.1 hk
      show ((G.fp 0 (G.L - 1 - k) + 1 : Nat) : Int) = _
      unfold SP.fp
      rw [show G.L - 1 - (G.L - 1 - k) = k by omega, Nat.zero_add]
    rw [hdl] at rp
    rw [hfl] at r15
    generalize hsp : ({ p := slPt s4.p (G.L * (i + 1)) s4.cap 1, len := s4.len - G.L * (i + 1), cap := s4.cap - G.L * (i + 1), z := slZ s4.z (G.L * (i + 1)) s4.cap 1 } : Sl) = sp at *
    refine ⟨fun q5 s5 n23 s6 n24 g' kk => (⟨b1, 0⟩ : Pt) = q5 ∧ s1 = s5 ∧ n23 = (S2.used : Int) ∧ sp = s6 ∧ ∃ k : Nat, n24 = k ∧ k ≤ G.L ∧ kk = G.L - k ∧ Keep g6 g', ⟨G.L, rfl, rfl, rfl, rfl, 0, rfl, by omega, rfl, Keep.refl _⟩, ?_⟩
    rintro q5 s5 n23 s6 n24 g' kk ⟨rfl, rfl, rfl, rfl, k, rfl, hk, rfl, kg'⟩
    have ek := kg'.get e6
    refine ⟨_, rd1 ek rfl, ifD (fun hkl => ?_) fun _ => ⟨rfl, (K4.trans K6).trans kg'⟩⟩
    have hk' : k < G.L := by omega
    refine (rp.keep kg').ix (i := k) (by simpa using hk') fun q hq hcl => ⟨_, hcl, _, rd1 ek rfl, _, rd1 ek rfl, _, rd1 ek rfl, _, rd1 ek rfl, ?_⟩
    refine (store_Words o).to fun g7 k7 => ⟨_, rfl, ⟨k7.cell hcl, trivial⟩, ifB_neg ?_ ?_⟩
    · simp only [List.getElem_map, List.getElem_range]
      rw [w64_id (n := (S2.used : Int) - _) (by omega) (by omega), w64_id (n := 2 * (k : Int)) (by omega) (by omega), w64_id (by omega) (by omega), decide_eq_true (by omega)]; rfl
    refine (r15.keep (kg'.trans k7)).ix (i := k) (by simpa using hk') fun q' hq' hcl' => ⟨_, hcl', ifB_neg ?_ ⟨G.L - (k + 1), by omega, rfl, rfl, rfl, rfl, k + 1, w64_id (by omega) (by omega), by omega, rfl, kg'.trans k7⟩⟩
    simp only [List.getElem_map, List.getElem_range]
    rw [w64_id (n := 2 * (k : Int)) (by omega) (by omega), w64_id (by omega) (by omega), decide_eq_true (by omega)]; rfl
end Go.Proofs.Tryz

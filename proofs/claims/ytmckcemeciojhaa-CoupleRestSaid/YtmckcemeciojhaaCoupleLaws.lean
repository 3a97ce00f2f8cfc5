/- Chapter 21's four laws on the turning alone: each returns true, and what was there stands. -/
import Derived.Test.YtmckcemeciojhaaCouple
namespace Go.Proofs.Try
open Go Go.Sh Go.RowKit Go.CPlain

theorem shown_turn : okT 3 [0] [2] = true ∧ turn [7, 8, 9] [0] [2] = [8, 9, 7] := by decide

/-- chapter 21's example -/
theorem couple_shown (h : Hp) : callK prog 19 [] h fun v h' => v = .bool true ∧ Keep h h' := by
  refine c19 ?_
  intro b1 hb1
  have o1 := (OwnS.new (f := vu) (h0 := h) (h := h) (l := [7, 8, 9]) (t := 30) hb1 3 rfl)
  have k1 : Keep h (upd h b1 (.cells #[vu 7, vu 8, vu 9] 30)) := (Keep.refl h).upd hb1 _
  have r1 : RdS vu (upd h b1 (.cells #[vu 7, vu 8, vu 9] 30)) ⟨some ⟨b1, 0⟩, 3, 3, none⟩ [7, 8, 9] := o1.rd
  generalize upd h b1 (.cells #[vu 7, vu 8, vu 9] 30) = h1 at k1 r1 ⊢
  intro b2 hb2
  have r2 : RdS iv (upd h1 b2 (.cells #[.int .i64 0] 3)) ⟨some ⟨b2, 0⟩, 1, 1, none⟩ [0] := (OwnS.new (f := iv) (h0 := h1) (h := h1) (l := [0]) (t := 3) hb2 1 rfl).rd
  have k2 : Keep h1 (upd h1 b2 (.cells #[.int .i64 0] 3)) := (Keep.refl h1).upd hb2 _
  generalize upd h1 b2 (.cells #[.int .i64 0] 3) = h2 at k2 r2 ⊢
  intro b3 hb3
  have r3 : RdS iv (upd h2 b3 (.cells #[.int .i64 2] 3)) ⟨some ⟨b3, 0⟩, 1, 1, none⟩ [2] := (OwnS.new (f := iv) (h0 := h2) (h := h2) (l := [2]) (t := 3) hb3 1 rfl).rd
  have k3 : Keep h2 (upd h2 b3 (.cells #[.int .i64 2] 3)) := (Keep.refl h2).upd hb3 _
  generalize upd h2 b3 (.cells #[.int .i64 2] 3) = h3 at k3 r3 ⊢
  refine (turn_c ((r1.keep k2).keep k3) (r2.keep k3) r3 (by decide) (by decide) (by decide)).mono ?_
  rintro v h4 ⟨k4, s', hv, o4⟩
  have e1 : okT [(7 : UInt64), 8, 9].length [0] [2] = true := shown_turn.1
  rw [if_pos e1] at hv o4
  rw [shown_turn.2] at o4
  subst hv
  refine ⟨_, _, rfl, fun b4 hb4 => ?_⟩
  have r5 : RdS vu (upd h4 b4 (.cells #[vu 8, vu 9, vu 7] 30)) ⟨some ⟨b4, 0⟩, 3, 3, none⟩ [8, 9, 7] := (OwnS.new (f := vu) (h0 := h4) (h := h4) (l := [8, 9, 7]) (t := 30) hb4 3 rfl).rd
  have k5 : Keep h4 (upd h4 b4 (.cells #[vu 8, vu 9, vu 7] 30)) := (Keep.refl h4).upd hb4 _
  refine (same_c (o4.rd.keep k5) r5 (by decide)).mono ?_
  rintro _ h6 ⟨rfl, rfl⟩
  exact ⟨_, rfl, ifB_pos rfl ⟨rfl, (((k1.trans k2).trans k3).trans k4).trans k5⟩⟩

variable {h : Hp} {sw sf st : Sl} {w : List UInt64} {f t : List Int}

theorem coupleTurns_law (rw_ : RdS vu h sw w) (_ : w.length * 8 ≤ 140737488355328) (rf : RdS iv h sf f) (_ : f.length * 8 ≤ 140737488355328) (rt : RdS iv h st t) (_ : t.length * 8 ≤ 140737488355328) :
    callK prog 7 [vs sw, vs sf, vs st] h fun v h' => v = .bool true ∧ Keep h h' := by
  refine c7 sw sf st ?_
  have lw := rw_.len; have lf := rf.len; have lt := rt.len
  refine (couple_shown h).mono ?_
  rintro _ h1 ⟨rfl, k1⟩
  refine ⟨_, rfl, ifB_neg rfl (ifD (fun _ => ⟨rfl, k1⟩) fun e1 => ifD (fun _ => ⟨rfl, k1⟩) fun e2 => ifD (fun _ => ⟨rfl, k1⟩) fun e3 => ?_)⟩
  refine (turn_c (rw_.keep k1) (rf.keep k1) (rt.keep k1) (by omega) (by omega) (by omega)).mono ?_
  rintro _ h2 ⟨k2, s1, rfl, o1⟩
  have k12 := k1.trans k2
  refine ⟨_, _, rfl, (rturn_c (rw_.keep k12) (rf.keep k12) (rt.keep k12) (by omega) (by omega) (by omega)).mono ?_⟩
  rintro _ h3 ⟨k3, s2, rfl, o2⟩
  refine ⟨_, _, rfl, (same_c (o1.rd.keep k3) o2.rd ?_).mono ?_⟩
  · split
    · rw [turn_length]; omega
    · simp
  rintro _ h4 ⟨rfl, rfl⟩
  exact ⟨_, rfl, ifB_pos (by simp) ⟨by simp, k12.trans k3⟩⟩

theorem okT_self {n : Nat} {l : List Int} : okT n l l = okb n l := by simp [okT]
theorem okT_iff {n : Nat} {f t : List Int} : okT n f t = true ↔ f.length = t.length ∧ okb n f = true ∧ okb n t = true := by
  simp [okT, and_assoc]

theorem coupleStill_law {sc : Sl} {c : List Int} (rw_ : RdS vu h sw w) (_ : w.length * 8 ≤ 140737488355328) (rf : RdS iv h sf f) (_ : f.length * 8 ≤ 140737488355328) (rt : RdS iv h st t) (_ : t.length * 8 ≤ 140737488355328)
    (rc : RdS iv h sc c) (_ : c.length * 8 ≤ 140737488355328) :
    callK prog 9 [vs sw, vs sf, vs st, vs sc] h fun v h' => v = .bool true ∧ Keep h h' := by
  refine c9 sw sf st sc ?_
  have lw := rw_.len; have lf := rf.len; have lt := rt.len; have lc := rc.len
  refine (couple_shown h).mono ?_
  rintro _ h1 ⟨rfl, k1⟩
  refine ⟨_, rfl, ifB_neg rfl (ifD (fun _ => ⟨rfl, k1⟩) fun e1 => ifD (fun _ => ⟨rfl, k1⟩) fun e2 => ifD (fun _ => ⟨rfl, k1⟩) fun e3 => ifD (fun _ => ⟨rfl, k1⟩) fun e4 => ?_)⟩
  refine (turn_c (rw_.keep k1) (rf.keep k1) (rf.keep k1) (by omega) (by omega) (by omega)).mono ?_
  rintro _ h2 ⟨k2, s1, rfl, o1⟩
  have k12 := k1.trans k2
  refine ⟨_, _, rfl, (turn_c (rw_.keep k12) (rf.keep k12) (rt.keep k12) (by omega) (by omega) (by omega)).mono ?_⟩
  rintro _ h3 ⟨k3, s2, rfl, o2⟩
  have k123 := k12.trans k3
  have o1' := o1.keep k3
  -- where something is wrong
  have wrong : ∀ h4, h4 = h3 → ifB (decide ((s1.len : Int) = 0)) ((Value.bool true) = .bool true ∧ Keep h h3) (callK prog 22 [vs s1, vs sw] h3 fun v4 h4 => ∃ t2 : Bool, v4 = .bool t2 ∧ (Value.bool t2) = .bool true ∧ Keep h h4) := by
    intro _ _
    refine ifD (fun _ => ⟨rfl, k123⟩) fun e => ?_
    by_cases hok : okT w.length f f = true
    · rw [if_pos hok, turn_self (by rw [okT_self] at hok; exact hok)] at o1'
      refine (same_c o1'.rd (rw_.keep k123) (by omega)).mono ?_
      rintro _ h4 ⟨rfl, rfl⟩
      exact ⟨_, rfl, by simp, k123⟩
    · rw [if_neg hok] at o1'
      exact absurd (by have := o1'.len; simp at this; omega) e
  refine ⟨_, _, rfl, ifN (fun _ => wrong _ rfl) fun g1 => ifN (fun _ => wrong _ rfl) fun g2 => ?_⟩
  have ok1 : okT w.length f f = true := by
    by_cases hh : okT w.length f f = true
    · exact hh
    · rw [if_neg hh] at g1; cases g1
  have ok2 : okT w.length f t = true := by
    by_cases hh : okT w.length f t = true
    · exact hh
    · rw [if_neg hh] at g2; cases g2
  obtain ⟨q1, q2, q3⟩ := okT_iff.1 ok2
  rw [if_pos ok1, turn_self q2] at o1'
  rw [if_pos ok2] at o2
  have hl2 := turn_length w f t
  refine (turn_c o2.rd (rt.keep k123) (rc.keep k123) (by omega) (by omega) (by omega)).mono ?_
  rintro _ h6 ⟨k6, s3, rfl, o3⟩
  have k16 := k123.trans k6
  refine ⟨_, _, rfl, (turn_c (rw_.keep k16) (rf.keep k16) (rc.keep k16) (by omega) (by omega) (by omega)).mono ?_⟩
  rintro _ h7 ⟨k7, s4, rfl, o4⟩
  have k17 := k16.trans k7
  have eok : okT (turn w f t).length t c = okT w.length f c := by
    rw [hl2, Bool.eq_iff_iff, okT_iff, okT_iff]
    simp [q1, q2, q3]
  rw [eok] at o3 ⊢
  refine ⟨_, _, rfl, ifN (fun e => absurd rfl e) fun _ => ?_⟩
  refine (same_c ((o1'.keep k6).keep k7).rd (rw_.keep k17) (by omega)).mono ?_
  rintro _ h7 ⟨rfl, rfl⟩
  refine ⟨_, rfl, ifB_neg (by simp) (ifN (fun _ => ⟨rfl, k17⟩) fun g3 => ?_)⟩
  have ok3 : okT w.length f c = true := by
    by_cases hh : okT w.length f c = true
    · exact hh
    · rw [if_neg hh] at g3; cases g3
  rw [if_pos ok3] at o3 o4
  rw [turn_two q3 (okT_iff.1 ok3).2.2] at o3
  refine (same_c (o3.keep k7).rd o4.rd (by rw [turn_length]; omega)).mono ?_
  rintro _ h7 ⟨rfl, rfl⟩
  exact ⟨_, rfl, by simp, k17⟩

theorem coupleBack_law (rw_ : RdS vu h sw w) (_ : w.length * 8 ≤ 140737488355328) (rf : RdS iv h sf f) (_ : f.length * 8 ≤ 140737488355328) (rt : RdS iv h st t) (_ : t.length * 8 ≤ 140737488355328) :
    callK prog 8 [vs sw, vs sf, vs st] h fun v h' => v = .bool true ∧ Keep h h' := by
  refine c8 sw sf st ?_
  have lw := rw_.len; have lf := rf.len; have lt := rt.len
  refine (couple_shown h).mono ?_
  rintro _ h1 ⟨rfl, k1⟩
  refine ⟨_, rfl, ifB_neg rfl (ifD (fun _ => ⟨rfl, k1⟩) fun e1 => ifD (fun _ => ⟨rfl, k1⟩) fun e2 => ifD (fun _ => ⟨rfl, k1⟩) fun e3 => ?_)⟩
  refine (turn_c (rw_.keep k1) (rf.keep k1) (rt.keep k1) (by omega) (by omega) (by omega)).mono ?_
  rintro _ h2 ⟨k2, s1, rfl, o1⟩
  have k12 := k1.trans k2
  refine ⟨_, _, rfl, ifN (fun g => ⟨?_, k12⟩) fun g => ?_⟩
  · have hno : ¬ okT w.length f t = true := fun hh => g (by rw [if_pos hh])
    rw [if_neg hno] at o1
    have := o1.len
    simp at this
    simp [this]
  have ok : okT w.length f t = true := by
    by_cases hh : okT w.length f t = true
    · exact hh
    · rw [if_neg hh] at g; cases g
  obtain ⟨q1, q2, q3⟩ := okT_iff.1 ok
  rw [if_pos ok] at o1
  have hl := turn_length w f t
  refine (turn_c o1.rd (rt.keep k12) (rf.keep k12) (by omega) (by omega) (by omega)).mono ?_
  rintro _ h3 ⟨k3, s2, rfl, o2⟩
  have ok' : okT (turn w f t).length t f = true := by rw [hl, okT_iff]; exact ⟨q1.symm, q3, q2⟩
  rw [if_pos ok', turn_back q2 q3] at o2
  have k123 := k12.trans k3
  have l1 := o1.len
  have ra := (o1.keep k3).rd
  have rw3 := rw_.keep k123
  rw [if_pos ok']
  refine ⟨_, _, rfl, fun s3 s4 s5 s6 s7 n3 x1 x2 n4 h4 k => s3 = sw ∧ s4 = sf ∧ s5 = st ∧ s6 = s1 ∧ s7 = s2 ∧ n3 = 0 ∧ h4 = h3 ∧ ∃ m : Nat, n4 = m ∧ m ≤ w.length ∧ x1 = sumU (fun x => x * x + x) (w.take m) ∧ x2 = sumU (fun x => x * x + x) ((turn w f t).take m) ∧ k = w.length - m,
    ⟨_, rfl, rfl, rfl, rfl, rfl, rfl, rfl, 0, rfl, Nat.zero_le _, by simp [sumU], by simp [sumU], rfl⟩, ?_⟩
  rintro s3 s4 s5 s6 s7 n3 x1 x2 n4 h4 k ⟨rfl, rfl, rfl, rfl, rfl, rfl, rfl, m, rfl, hm, rfl, rfl, rfl⟩
  refine ifD (fun hlt => ?_) (fun hge => ?_)
  · have g1 : m < w.length := by omega
    have g2 : m < (turn w f t).length := by omega
    refine rw3.ix g1 fun _ _ c1 => ⟨_, c1, rw3.ix g1 fun _ _ c2 => ⟨_, c2, rw3.ix g1 fun _ _ c3 => ⟨_, c3, ra.ix g2 fun _ _ c4 => ⟨_, c4, ra.ix g2 fun _ _ c5 => ⟨_, c5, ra.ix g2 fun _ _ c6 => ⟨_, c6, _, ?_, rfl, rfl, rfl, rfl, rfl, rfl, rfl, m + 1, by rw [wrap64_id (by omega) (by omega)]; rfl, by omega, ?_, ?_, rfl⟩⟩⟩⟩⟩⟩
    · omega
    · rw [sumU_succ _ _ _ g1, UInt64.add_assoc]
    · rw [sumU_succ _ _ _ g2, UInt64.add_assoc]
  have hmw : m = w.length := by omega
  subst hmw
  have hs : sumU (fun x => x * x + x) (w.take w.length) = sumU (fun x => x * x + x) ((turn w f t).take w.length) := by
    rw [List.take_length, List.take_of_length_le (by omega)]
    exact (sumU_perm _ (turn_perm q2 q3)).symm
  refine ⟨fun s8 s9 s10 s11 s12 n5 x9 x10 n6 h5 k => s8 = s3 ∧ s9 = s4 ∧ s10 = s5 ∧ s11 = s6 ∧ s12 = s7 ∧ n5 = 0 ∧ h5 = h4 ∧ x9 = x10 ∧ ∃ m : Nat, n6 = m ∧ k = f.length - m, ⟨_, rfl, rfl, rfl, rfl, rfl, rfl, rfl, hs, 0, rfl, rfl⟩, ?_⟩
  rintro s8 s9 s10 s11 s12 n5 x9 x10 n6 h5 k ⟨rfl, rfl, rfl, rfl, rfl, rfl, rfl, rfl, m, rfl, rfl⟩
  refine ifD (fun hlt => ?_) (fun hge => ?_)
  · have g1 : m < f.length := by omega
    have g2 : m < t.length := by omega
    have b1 := (okb_iff.1 q2).1 _ (List.getElem_mem g1)
    have b2 := (okb_iff.1 q3).1 _ (List.getElem_mem g2)
    have hm := turn_meant q2 q3 q1 g1
    rw [getD_get g1, getD_get g2, getD_getU (by omega), getD_getU (by omega)] at hm
    refine (rt.keep k123).ix g2 fun _ _ c1 => ⟨_, c1, ra.ixI b2.1 (by omega) fun _ _ c2 => ⟨_, c2, (rf.keep k123).ix g1 fun _ _ c3 => ⟨_, c3, rw3.ixI b1.1 (by omega) fun _ _ c4 => ⟨_, c4, ifN (fun e => absurd hm e) fun _ => ⟨_, ?_, rfl, rfl, rfl, rfl, rfl, rfl, rfl, rfl, m + 1, by rw [wrap64_id (by omega) (by omega)]; rfl, rfl⟩⟩⟩⟩⟩
    omega
  · refine ifB_pos rfl ?_
    refine (same_c o2.rd rw3 (by omega)).mono ?_
    rintro _ h6 ⟨rfl, rfl⟩
    refine ⟨_, rfl, ifB_pos (by simp) (ifB_pos (by simp) ⟨?_, k123⟩)⟩
    rw [l1, lw, hl]; simp

theorem coupleRest_law (rw_ : RdS vu h sw w) (_ : w.length * 8 ≤ 140737488355328) (rf : RdS iv h sf f) (_ : f.length * 8 ≤ 140737488355328) (rt : RdS iv h st t) (_ : t.length * 8 ≤ 140737488355328) :
    callK prog 10 [vs sw, vs sf, vs st] h fun v h' => v = .bool true ∧ Keep h h' := by
  refine c10 sw sf st ?_
  have lw := rw_.len; have lf := rf.len; have lt := rt.len
  refine (couple_shown h).mono ?_
  rintro _ h1 ⟨rfl, k1⟩
  refine ⟨_, rfl, ifB_neg rfl (ifD (fun _ => ⟨rfl, k1⟩) fun e1 => ifD (fun _ => ⟨rfl, k1⟩) fun e2 => ifD (fun _ => ⟨rfl, k1⟩) fun e3 => ?_)⟩
  refine (turn_c (rw_.keep k1) (rf.keep k1) (rt.keep k1) (by omega) (by omega) (by omega)).mono ?_
  rintro _ h2 ⟨k2, s1, rfl, o1⟩
  have k12 := k1.trans k2
  refine ⟨_, _, rfl, ifN (fun g => ⟨by simp [g], k12⟩) fun g => ?_⟩
  have ok : okT w.length f t = true := by
    by_cases hh : okT w.length f t = true
    · exact hh
    · rw [if_neg hh] at g; cases g
  obtain ⟨q1, q2, q3⟩ := okT_iff.1 ok
  rw [if_pos ok] at o1
  have hl := turn_length w f t
  have l1 := o1.len
  refine ifN (fun e => absurd (by omega) e) fun _ => ?_
  refine ⟨fun s2 s3 s4 s5 s6 s7 n2 h3 k => s2 = sw ∧ s3 = sf ∧ s4 = st ∧ s5 = s1 ∧ ∃ m : Nat, n2 = m ∧ m ≤ w.length ∧ OwnS vu h2 h3 s6 (leftN w f m) ∧ OwnS vu h2 h3 s7 (leftN (turn w f t) t m) ∧ (∀ p p', s6.q = some p → s7.q = some p' → p.b ≠ p'.b) ∧ Keep h2 h3 ∧ k = w.length - m,
    ⟨_, rfl, rfl, rfl, rfl, 0, rfl, Nat.zero_le _, OwnS.nilS _ _ _, OwnS.nilS _ _ _, (fun p p' hp => by cases hp), Keep.refl _, rfl⟩, ?_⟩
  rintro s2 s3 s4 s5 s6 s7 n2 h3 k ⟨rfl, rfl, rfl, rfl, m, rfl, hm, o6, o7, hne, k3, rfl⟩
  have len6 : (leftN w f m).length ≤ m := by simp only [leftN, List.length_map]; exact rest_length _ _
  have len7 : (leftN (turn w f t) t m).length ≤ m := by simp only [leftN, List.length_map]; exact rest_length _ _
  refine ifD (fun hlt => ?_) (fun hge => ?_)
  · have g1 : m < w.length := by omega
    have g2 : m < (turn w f t).length := by omega
    refine (in_c (rf.keep (k12.trans k3)) (m : Int) (by omega)).mono ?_
    rintro _ h3 ⟨rfl, rfl⟩
    have next : ∀ (s8 s9 : Sl) (h9 : Hp), OwnS vu h2 h9 s8 (leftN w f (m + 1)) → OwnS vu h2 h9 s9 (leftN (turn w f t) t (m + 1)) → (∀ p p', s8.q = some p → s9.q = some p' → p.b ≠ p'.b) → Keep h2 h9 →
        ∃ k3, k3 < w.length - m ∧ (s2 = s2 ∧ s3 = s3 ∧ s4 = s4 ∧ s5 = s5 ∧ ∃ m' : Nat, wrap64 ((m : Int) + 1) = m' ∧ m' ≤ w.length ∧ OwnS vu h2 h9 s8 (leftN w f m') ∧ OwnS vu h2 h9 s9 (leftN (turn w f t) t m') ∧ (∀ p p', s8.q = some p → s9.q = some p' → p.b ≠ p'.b) ∧ Keep h2 h9 ∧ k3 = w.length - m') :=
      fun s8 s9 h9 a b c d => ⟨_, by omega, rfl, rfl, rfl, rfl, m + 1, by rw [wrap64_id (by omega) (by omega)]; rfl, by omega, a, b, c, d, rfl⟩
    have tail : ∀ (s8 : Sl) (h6 : Hp), OwnS vu h2 h6 s8 (leftN w f (m + 1)) → OwnS vu h2 h6 s7 (leftN (turn w f t) t m) → (∀ p p', s8.q = some p → s7.q = some p' → p.b ≠ p'.b) → Keep h2 h6 →
        ∀ (J : Sl → Sl → Hp → Nat → Prop), (∀ s9 h9, OwnS vu h2 h9 s8 (leftN w f (m + 1)) → OwnS vu h2 h9 s9 (leftN (turn w f t) t (m + 1)) → (∀ p p', s8.q = some p → s9.q = some p' → p.b ≠ p'.b) → Keep h2 h9 → ∃ k3, k3 < w.length - m ∧ J s8 s9 h9 k3) →
        callK prog 23 [vs s4, iv m] h6 fun v4 h7 => ∃ t3 : Bool, v4 = .bool t3 ∧ ifB (!t3) (∃ q2, s5.q = some q2 ∧ 0 ≤ (m : Int) ∧ (m : Int) + 1 ≤ (s5.len : Int) ∧ ∃ x2 : UInt64, hcell h7 q2.b (q2.o + (m : Int).toNat * 1) = some (vu x2) ∧
          newK h7 (.cells #[vu x2] 30) fun b2 h8 => appK prog 22 s7 (.s ⟨some ⟨b2, 0⟩, 1, 1, none⟩) h8 fun s9 h9 => ∃ k3, k3 < w.length - m ∧ J s8 s9 h9 k3) (∃ k3, k3 < w.length - m ∧ J s8 s7 h7 k3) := by
      intro s8 h6 o8 o7 hne8 k6 J hJ
      refine (in_c ((rt.keep k12).keep k6) (m : Int) (by omega)).mono ?_
      rintro _ h6 ⟨rfl, rfl⟩
      refine ⟨_, rfl, ifN (fun hni => ?_) fun hni => ?_⟩
      · refine (o1.rd.keep k6).ix g2 fun p _ c1 => ⟨_, c1, ?_⟩
        refine OwnS.push' rtUc vu1 o7 _ (fun x hx => k6.free hx) (by omega) (by decide) ?_
        intro s9 h9 o9 hoff hw _
        refine hJ s9 h9 (o8.move fun p hp => hoff _ (o8.blk hp).2 fun p' hp' => hne8 p p' hp hp') ?_ ?_ ?_
        · rw [leftN_succ, if_neg hni, getD_getU g2]; exact o9
        · intro p p' hp hp' e
          rcases hw p' hp' with ⟨p0, e1, e2⟩ | e1
          · exact hne8 p p0 hp e1 (e.trans e2)
          · exact (o8.blk hp).2 (e ▸ e1)
        · exact k6.offOwn (D := fun y => ∃ p, s7.q = some p ∧ y = p.b) (fun y hy hn => hoff y hy fun p hp e => hn ⟨p, hp, e⟩) (by rintro y ⟨p, hp, rfl⟩; exact (o7.blk hp).1)
      · refine hJ s7 h6 o8 ?_ hne8 k6
        rw [leftN_succ, if_pos hni, List.append_nil]; exact o7
    refine ⟨_, rfl, ifN (fun hni => ?_) fun hni => ?_⟩
    · refine (rw_.keep (k12.trans k3)).ix g1 fun p _ c1 => ⟨_, c1, ?_⟩
      refine OwnS.push' rtUc vu1 o6 _ (fun x hx => k3.free hx) (by omega) (by decide) ?_
      intro s8 h6 o8 hoff hw _
      have o7' : OwnS vu h2 h6 s7 (leftN (turn w f t) t m) := o7.move fun p hp => hoff _ (o7.blk hp).2 fun p' hp' e => hne p' p hp' hp e.symm
      refine tail s8 h6 ?_ o7' ?_ ?_ (fun s8 s9 h9 k3 => s2 = s2 ∧ s3 = s3 ∧ s4 = s4 ∧ s5 = s5 ∧ ∃ m' : Nat, wrap64 ((m : Int) + 1) = m' ∧ m' ≤ w.length ∧ OwnS vu h2 h9 s8 (leftN w f m') ∧ OwnS vu h2 h9 s9 (leftN (turn w f t) t m') ∧ (∀ p p', s8.q = some p → s9.q = some p' → p.b ≠ p'.b) ∧ Keep h2 h9 ∧ k3 = w.length - m') fun s9 h9 a b c d => next s8 s9 h9 a b c d
      · rw [leftN_succ, if_neg hni, getD_getU g1]; exact o8
      · intro p p' hp hp' e
        rcases hw p hp with ⟨p0, e1, e2⟩ | e1
        · exact hne p0 p' e1 hp' (e2.symm.trans e)
        · exact (o7.blk hp').2 (e ▸ e1)
      · exact k3.offOwn (D := fun y => ∃ p, s6.q = some p ∧ y = p.b) (fun y hy hn => hoff y hy fun p hp e => hn ⟨p, hp, e⟩) (by rintro y ⟨p, hp, rfl⟩; exact (o6.blk hp).1)
    · refine tail s6 h3 ?_ o7 hne k3 (fun s8 s9 h9 k3 => s2 = s2 ∧ s3 = s3 ∧ s4 = s4 ∧ s5 = s5 ∧ ∃ m' : Nat, wrap64 ((m : Int) + 1) = m' ∧ m' ≤ w.length ∧ OwnS vu h2 h9 s8 (leftN w f m') ∧ OwnS vu h2 h9 s9 (leftN (turn w f t) t m') ∧ (∀ p p', s8.q = some p → s9.q = some p' → p.b ≠ p'.b) ∧ Keep h2 h9 ∧ k3 = w.length - m') fun s9 h9 a b c d => next s6 s9 h9 a b c d
      rw [leftN_succ, if_pos hni, List.append_nil]; exact o6
  · have hmw : m = w.length := by omega
    subst hmw
    have e : leftN (turn w f t) t w.length = leftN w f w.length := by
      have := turn_left q2 q3 q1
      unfold left at this
      rw [hl] at this
      exact this
    rw [e] at o7
    refine (same_c o6.rd o7.rd (by omega)).mono ?_
    rintro _ h13 ⟨rfl, rfl⟩
    exact ⟨_, rfl, by simp, k12.trans k3⟩

end Go.Proofs.Try

/- Chapter 2's laws: each returns true, and what was there stands. -/
import Derived.Test.YtmckcemeciojhaaTape
namespace Go.Proofs.Try
open Go Go.Sh Go.RowKit

theorem tk_append (l : List UInt64) (a b : Nat) : tk l a ++ tk (l.drop a) b = tk l (a + b) := by
  apply List.ext_getElem
  · simp [tk]
  · intro i h1 h2
    simp only [List.length_append, tk_length] at h1
    by_cases e : i < a
    · rw [List.getElem_append_left (by rw [tk_length]; exact e), tk_get, tk_get]
    · rw [List.getElem_append_right (by rw [tk_length]; omega), tk_get, tk_get, tk_length]
      simp only [List.getD_eq_getElem?_getD, List.getElem?_drop]
      rw [show a + (i - a) = i by omega]

theorem Off.free {D : Nat → Prop} {h h' : Hp} (k : Off D h h') (hd : ∀ b, D b → h' b ≠ none) {b : Nat} (hb : h' b = none) : h b = none := by
  cases e : h b with
  | none => rfl
  | some o =>
    by_cases hD : D b
    · exact absurd hb (hd b hD)
    · rw [k b (by rw [e]; simp) hD, e] at hb; cases hb

theorem tapeSplit_law {h : Hp} {s : Sl} {l : List UInt64} (r : RdS vu h s l) (hl : l.length * 8 ≤ 140737488355328) (a b : Int) :
    callK prog 6 [vs s, .int .i64 a, .int .i64 b] h fun v h' => v = .bool true ∧ Keep h h' := by
  refine c6 s a b ?_
  refine (tape_shown h).mono ?_
  rintro _ h1 ⟨rfl, k1⟩
  refine ⟨_, rfl, (tape_new (r.keep k1) hl).mono ?_⟩
  rintro _ h2 ⟨q1, rfl, t1, k2⟩
  refine ⟨some q1, rfl, (tape_new (r.keep (k1.trans k2)) hl).mono ?_⟩
  rintro _ h3 ⟨q2, rfl, t2, k3⟩
  have k : Keep h h3 := (k1.trans k2).trans k3
  have done : (Value.bool true) = .bool true ∧ Keep h h3 := ⟨rfl, k⟩
  refine ⟨some q2, rfl, ifB_neg rfl (ifB_neg rfl (ifB_neg rfl (ifD (fun _ => ifB_pos rfl (ifB_pos rfl done)) fun ha => ifD (fun _ => ifB_pos rfl (ifB_pos rfl done)) fun hb => ifD (fun _ => ifB_pos rfl (ifB_pos rfl done)) fun ha2 => ifD (fun _ => ifB_pos rfl (ifB_pos rfl done)) fun hb2 => ?_)))⟩
  have t1' := t1
  have t1 := t1.keep k3
  have e12 : ∀ x, (h2 x = none ∧ h3 x ≠ none) → x ≠ q1.b := fun x hx e => t1'.d.2 (e ▸ hx.1)
  have e21 : ∀ x, (h1 x = none ∧ h2 x ≠ none) → x ≠ q2.b := fun x hx e => hx.2 (e ▸ t2.d.1)
  refine (tape_take t1 a (by decide) (by omega)).mono ?_
  rintro _ h4 ⟨s1, rfl, o1, t1a, f4⟩
  refine ⟨_, rfl, (tape_take t1a b (by omega) (by omega)).mono ?_⟩
  rintro _ h5 ⟨s2, rfl, o2, t1b, f5⟩
  have q1h3 : h3 q1.b ≠ none := t1.dom _ t1.d
  have q2h3 : h3 q2.b ≠ none := t2.dom _ t2.d
  have f35 : Off (· = q1.b) h3 h5 := f4.trans f5
  have fr5 : ∀ x, h5 x = none → h3 x = none := fun x hx => Off.free f35 (fun y hy => by rw [hy]; exact t1b.dom _ t1b.d) hx
  have s1ne : ∀ p, s1.q = some p → p.b ≠ q1.b := fun p hp e => q1h3 (e ▸ (o1.blk hp).1)
  have o1' : OwnS vu h3 h5 s1 (tk l a.toNat) := o1.off f5 s1ne
  refine ⟨_, rfl, OwnS.app rtU vu_one o1' o2.rd fr5 (by rw [tk_length, tk_length]; omega) (by decide) ?_⟩
  intro s3 h6 o3 f6 _ fr6
  have f6' : Off (fun x => ∃ p, s1.q = some p ∧ x = p.b) h5 h6 := fun x hx hne => f6 x hx fun p hp e => hne ⟨p, hp, e⟩
  have n1 : ∀ x, h3 x ≠ none → ¬ ∃ p, s1.q = some p ∧ x = p.b := by
    rintro x hx ⟨p, hp, rfl⟩; exact hx (o1.blk hp).1
  have t2a := (t2.off f35 e12).off f6' (fun x hx => n1 x hx.2)
  have t1c := t1b.off f6' (fun x hx => n1 x (t1.dom x hx))
  refine (tape_take t2a (wrap64 (a + b)) (by decide) (by rw [wrap64_id (by omega) (by omega)]; omega)).mono ?_
  rw [wrap64_id (by omega) (by omega)]
  rintro _ h7 ⟨s4, rfl, o4, t2b, f7⟩
  have t1d := t1c.off f7 e21
  have s3ne : ∀ p, s3.q = some p → p.b ≠ q2.b := fun p hp e => q2h3 (e ▸ (o3.blk hp).1)
  have r3 : RdS vu h7 s3 (tk l a.toNat ++ tk (l.drop a.toNat) b.toNat) := (o3.off f7 s3ne).rd
  have r4 := o4.rd
  have eN : (a + b).toNat = a.toNat + b.toNat := by omega
  rw [tk_append] at r3
  rw [eN] at r4
  have kF : Keep h h7 := by
    refine ((k.offOwn f35 ?_).offOwn f6' ?_).offOwn f7 ?_
    · rintro x rfl; exact k1.free t1'.d.1
    · rintro x ⟨p, hp, rfl⟩; exact k.free (o1.blk hp).1
    · rintro x rfl; exact (k1.trans k2).free t2.d.1
  refine ⟨_, rfl, ifN (fun e => absurd (by rw [r3.lenI, r4.lenI]) e) fun _ => ?_⟩
  refine (tape_used t1d).mono ?_
  rintro _ h7 ⟨rfl, rfl⟩
  refine ⟨_, rfl, (tape_used t2b).mono ?_⟩
  rintro _ h7 ⟨rfl, rfl⟩
  refine ⟨_, rfl, ifN (fun e => absurd (by omega) e) fun _ => ?_⟩
  refine (tape_short t1d).mono ?_
  rintro _ h7 ⟨rfl, rfl⟩
  refine ⟨_, rfl, (tape_short t2b).mono ?_⟩
  rintro _ h7 ⟨rfl, rfl⟩
  refine ⟨_, rfl, ifB_neg ?_ ?_⟩
  · rw [eN]
    have : decide (l.length < a.toNat + b.toNat) = (decide (l.length < a.toNat) || decide ((l.drop a.toNat).length < b.toNat)) := by
      rw [Bool.eq_iff_iff]; simp; omega
    rw [this]; simp
  · refine ⟨fun s5 s6 n3 h12 k => s5 = s3 ∧ s6 = s4 ∧ h12 = h7 ∧ ∃ m : Nat, n3 = m ∧ k = s3.len - m, ⟨_, rfl, rfl, rfl, 0, rfl, rfl⟩, ?_⟩
    rintro s5 s6 n3 h12 k ⟨rfl, rfl, rfl, m, rfl, rfl⟩
    refine ifD (fun hlt => ?_) (fun _ => ⟨rfl, kF⟩)
    have l3 := r3.len
    have hm : m < (tk l (a.toNat + b.toNat)).length := by omega
    refine r3.ix hm fun p _ hc => ⟨_, hc, r4.ix hm fun p' _ hc' => ⟨_, hc', ifN (fun e => absurd rfl e) fun _ => ⟨_, ?_, rfl, rfl, rfl, m + 1, ?_, rfl⟩⟩⟩
    · omega
    · rw [tk_length] at hm
      rw [wrap64_id (by omega) (by omega)]; rfl

theorem tapeParts_law {h : Hp} {s : Sl} {l : List UInt64} (r : RdS vu h s l) (hl : l.length * 8 ≤ 140737488355328) (n : Int) :
    callK prog 5 [vs s, .int .i64 n] h fun v h' => v = .bool true ∧ Keep h h' := by
  refine c5 s n ?_
  refine (tape_shown h).mono ?_
  rintro _ h1 ⟨rfl, k1⟩
  refine ⟨_, rfl, (tape_new (r.keep k1) hl).mono ?_⟩
  rintro _ h2 ⟨q1, rfl, t1, k2⟩
  refine ⟨some q1, rfl, (tape_new (r.keep (k1.trans k2)) hl).mono ?_⟩
  rintro _ h3 ⟨q2, rfl, t2, k3⟩
  have k : Keep h h3 := (k1.trans k2).trans k3
  have done : (Value.bool true) = .bool true ∧ Keep h h3 := ⟨rfl, k⟩
  refine ⟨some q2, rfl, ifB_neg rfl (ifB_neg rfl (ifB_neg rfl (ifD (fun _ => ifB_pos rfl (ifB_pos rfl done)) fun hn => ?_)))⟩
  have t1' := t1
  have t1 := t1.keep k3
  have e12 : ∀ x, (h2 x = none ∧ h3 x ≠ none) → x ≠ q1.b := fun x hx e => t1'.d.2 (e ▸ hx.1)
  have e21 : ∀ x, (h1 x = none ∧ h2 x ≠ none) → x ≠ q2.b := fun x hx e => hx.2 (e ▸ t2.d.1)
  have q2h3 : h3 q2.b ≠ none := t2.dom _ t2.d
  refine (tape_take t1 n (by decide) (by omega)).mono ?_
  rintro _ h4 ⟨s1, rfl, o1, t1a, f4⟩
  have r1 := o1.rd
  have len1 := r1.len
  rw [tk_length] at len1
  have k4 : Keep h h4 := k.offOwn f4 (fun x hx => by subst hx; exact k1.free t1'.d.1)
  have t2a := t2.off f4 e12
  have s1ne : ∀ p, s1.q = some p → p.b ≠ q2.b := fun p hp e => q2h3 (e ▸ (o1.blk hp).1)
  refine ⟨_, rfl, ifN (fun e => absurd (by omega) e) fun _ => ?_⟩
  refine ⟨fun a0 o1' o2' s3 m h5 kk => a0 = s ∧ o1' = some q1 ∧ o2' = some q2 ∧ s3 = s1 ∧ ∃ i : Nat, m = i ∧ i ≤ n.toNat ∧ TapeR h5 q2 (l.drop i) i (decide (l.length < i)) (fun b => h2 b = none ∧ h3 b ≠ none) ∧ Off (· = q2.b) h4 h5 ∧ kk = n.toNat - i,
    ⟨_, rfl, rfl, rfl, rfl, 0, rfl, Nat.zero_le _, by simpa using t2a, Off.refl _ _, rfl⟩, ?_⟩
  rintro a0 o1' o2' s3 m h5 kk ⟨rfl, rfl, rfl, rfl, i, rfl, hi, t2b, f5, rfl⟩
  have k5 : Keep h h5 := k4.offOwn f5 (fun x hx => by subst hx; exact (k1.trans k2).free t2.d.1)
  have t1b := t1a.off f5 e21
  have r1' : RdS vu h5 s3 (tk l n.toNat) := (o1.off f5 s1ne).rd
  refine ifD (fun hlt => ?_) (fun hge => ?_)
  · have hin : i < n.toNat := by omega
    refine (tape_next t2b (by omega)).mono ?_
    rintro _ h6 ⟨rfl, t2c, f6⟩
    have f6' : Off (· = q2.b) h5 h6 := fun x _ hx => f6 x hx
    have r1c : RdS vu h6 s3 (tk l n.toNat) := (o1.off (f5.trans f6') s1ne).rd
    have k6 : Keep h h6 := k5.offOwn f6' (fun x hx => by subst hx; exact (k1.trans k2).free t2.d.1)
    have hval : (l.drop i).headD 0 = l.getD i 0 := by
      rw [List.getD_eq_getElem?_getD, List.headD_eq_head?_getD, List.head?_drop]
    have next : ∃ k3, k3 < n.toNat - i ∧ (a0 = a0 ∧ some q1 = some q1 ∧ some q2 = some q2 ∧ s3 = s3 ∧ ∃ j : Nat, wrap64 ((i : Int) + 1) = j ∧ j ≤ n.toNat ∧ TapeR h6 q2 (l.drop j) j (decide (l.length < j)) (fun b => h2 b = none ∧ h3 b ≠ none) ∧ Off (· = q2.b) h4 h6 ∧ k3 = n.toNat - j) := by
      refine ⟨_, ?_, rfl, rfl, rfl, rfl, i + 1, by rw [wrap64_id (by omega) (by omega)]; rfl, by omega, ?_, f5.trans f6', rfl⟩
      · omega
      · have e1 : (l.drop i).tail = l.drop (i + 1) := by simp
        have e2 : (decide (l.length < i) || (l.drop i).isEmpty) = decide (l.length < i + 1) := by
          rw [Bool.eq_iff_iff]; simp; omega
        rw [e1, e2] at t2c
        exact t2c
    refine ⟨_, _, rfl, r1c.ix (by rw [tk_length]; exact hin) fun p _ hc => ⟨_, hc, ifN (fun e => absurd (by rw [hval, tk_get]) e) fun _ => ifN (fun e => absurd rfl e) fun _ => ifD (fun hil => ?_) (fun hil => ?_)⟩⟩
    · have hil' : i < l.length := by have := r.len; omega
      refine (r.keep k6).ix hil' fun p' _ hc' => ⟨_, hc', ifN (fun e => absurd ?_ e) fun _ => ifD (fun hx => absurd hx (by have := r.len; omega)) fun _ => next⟩
      rw [hval, List.getD_eq_getElem?_getD, List.getElem?_eq_getElem hil']; rfl
    · refine ifD (fun _ => ifN (fun e => absurd ?_ e) fun _ => next) (fun hx => absurd (by omega) hx)
      have : l.length ≤ i := by have := r.len; omega
      rw [hval, List.getD_eq_getElem?_getD, List.getElem?_eq_none this]; rfl
  · have : i = n.toNat := by omega
    subst this
    refine (tape_used t1b).mono ?_
    rintro _ h7 ⟨rfl, rfl⟩
    refine ⟨_, rfl, (tape_used t2b).mono ?_⟩
    rintro _ h7 ⟨rfl, rfl⟩
    refine ⟨_, rfl, ifD (fun _ => ?_) (fun e => absurd (by omega) e)⟩
    refine (tape_short t1b).mono ?_
    rintro _ h7 ⟨rfl, rfl⟩
    refine ⟨_, rfl, (tape_short t2b).mono ?_⟩
    rintro _ h7 ⟨rfl, rfl⟩
    refine ⟨_, rfl, ifB_pos (by simp) ?_⟩
    refine (tape_short t1b).mono ?_
    rintro _ h7 ⟨rfl, rfl⟩
    refine ⟨_, rfl, ?_, k5⟩
    rw [r.len, len1]; simp; omega

theorem RdS.bd {α : Type} {f : α → Value} {h : Hp} {s : Sl} {l : List α} (r : RdS f h s l) (hl : l.length * 8 ≤ 140737488355328) : (s.len : Int) ≤ 17592186044416 := by
  rw [r.len]; omega

theorem tapeOwn_law {h : Hp} {s : Sl} {l : List UInt64} (r : RdS vu h s l) (hl : l.length * 8 ≤ 140737488355328) (n : Int) :
    callK prog 4 [vs s, .int .i64 n] h fun v h' => v = .bool true ∧ Keep h h' := by
  refine c4 s n ?_
  refine (tape_shown h).mono ?_
  rintro _ h1 ⟨rfl, k1⟩
  refine ⟨_, rfl, fun b hb => ?_⟩
  have k1b : Keep h1 (upd h1 b (.cells #[] 30)) := (Keep.refl h1).upd hb _
  have o0 : OwnS vu h1 (upd h1 b (.cells #[] 30)) ⟨some ⟨b, 0⟩, 0, 0, none⟩ [] := OwnS.new (l := []) hb 0 rfl
  refine OwnS.app rtU vu_one (l := []) o0 ((r.keep k1).keep k1b) (fun x hx => k1b.free hx) (by simpa using hl) (by decide) ?_
  intro w h3 ow foff _ ffr
  simp only [List.nil_append] at ow
  have k3 : Keep h1 h3 := by
    intro x hx
    rw [foff x (by rw [k1b x hx]; exact hx) (fun q hq e => by cases hq; exact hx (e ▸ hb)), k1b x hx]
  refine (tape_new ow.rd hl).mono ?_
  rintro _ h4 ⟨q, rfl, t4, k4⟩
  refine ⟨some q, rfl, ifB_neg rfl (ifB_neg rfl ?_)⟩
  have hlen := r.len
  obtain ⟨N, hN, hNl⟩ : ∃ N : Nat, max 0 (min n (s.len : Int)) = (N : Int) ∧ N ≤ l.length := ⟨(max 0 (min n (s.len : Int))).toNat, by omega, by omega⟩
  rw [hN]
  refine (tape_take t4 N (by decide) (by omega)).mono ?_
  rintro _ h5 ⟨x, rfl, ox, t5, f5⟩
  simp only [Int.toNat_natCast] at ox t5
  have kk4 : Keep h h4 := (k1.trans k3).trans k4
  have qf3 : h3 q.b = none := t4.d.1
  have qf : h q.b = none := (k1.trans k3).free qf3
  have wb : ∀ p, w.q = some p → h1 p.b = none ∧ h3 p.b ≠ none := fun p hp => ow.blk hp
  have xb : ∀ p, x.q = some p → h4 p.b = none := fun p hp => (ox.blk hp).1
  have ow5 : OwnS vu h1 h5 w l := (ow.keep k4).off f5 (fun p hp e => (wb p hp).2 (e ▸ qf3))
  have k5 : Keep h h5 := kk4.offOwn f5 (fun y hy => by subst hy; exact qf)
  have hD : ∀ y, (h3 y = none ∧ h4 y ≠ none) → ¬ ∃ p, w.q = some p ∧ y = p.b := by
    rintro y hy ⟨p, hp, rfl⟩; exact (wb p hp).2 hy.1
  have hDx : ∀ y, (h3 y = none ∧ h4 y ≠ none) → ¬ ∃ p, x.q = some p ∧ y = p.b := by
    rintro y hy ⟨p, hp, rfl⟩; exact hy.2 (xb p hp)
  have wx : ∀ p, x.q = some p → ¬ ∃ p', w.q = some p' ∧ p.b = p'.b := by
    rintro p hp ⟨p', hp', e⟩
    exact (wb p' hp').2 (k4.free (e ▸ xb p hp))
  refine ⟨_, rfl, fun s3 n1 s4 o2 s5 n2 h6 kk => s3 = s ∧ n1 = N ∧ s4 = w ∧ o2 = some q ∧ s5 = x ∧ ∃ i : Nat, n2 = i ∧ (∃ lw, lw.length = l.length ∧ OwnS vu h1 h6 w lw) ∧ Off (fun y => ∃ p, w.q = some p ∧ y = p.b) h5 h6 ∧ kk = l.length - i,
    ⟨_, rfl, rfl, rfl, rfl, rfl, 0, rfl, ⟨l, rfl, ow5⟩, Off.refl _ _, rfl⟩, ?_⟩
  rintro s3 n1 s4 o2 s5 n2 h6 kk ⟨rfl, rfl, rfl, rfl, rfl, i, rfl, ⟨lw, hlw, ow6⟩, f6, rfl⟩
  refine ifD (fun hlt => ?_) (fun hge => ?_)
  · have hwl := ow6.len
    have hi : i < lw.length := by omega
    refine ow6.rd.ix hi fun p hp hc => ⟨_, hc, ow6.rd.ix hi fun p' hp' _ => ?_⟩
    refine ow6.store hp' hi _ fun ob o7 => ⟨_, ?_, rfl, rfl, rfl, rfl, rfl, i + 1, by rw [wrap64_id (by omega) (by omega)]; rfl, ⟨_, by simp [hlw], o7⟩, ?_, rfl⟩
    · omega
    · intro y hy hne
      rw [upd_ne _ _ (fun e => hne ⟨p', hp', e⟩), f6 y hy hne]
  have ox6 : OwnS vu h4 h6 s5 (tk l N) := ox.off f6 wx
  have t6 := t5.off f6 hD
  have k6 : Keep h h6 := k5.offOwn f6 (by rintro y ⟨p, hp, rfl⟩; exact k1.free (wb p hp).1)
  clear ow6 ow5 t5 ox hge
  refine ⟨fun s6 n3 o3 s7 n4 h8 kk => s6 = s3 ∧ n3 = N ∧ o3 = some q ∧ s7 = s5 ∧ ∃ i : Nat, n4 = i ∧ (∃ lx, lx.length = N ∧ (∀ j, i ≤ j → j < N → lx.getD j 0 = l.getD j 0) ∧ OwnS vu h4 h8 s5 lx) ∧ Off (fun y => ∃ p, s5.q = some p ∧ y = p.b) h6 h8 ∧ kk = N - i,
    ⟨_, rfl, rfl, rfl, rfl, 0, rfl, ⟨tk l N, tk_length _ _, fun j _ hj => ?_, ox6⟩, Off.refl _ _, rfl⟩, ?_⟩
  · rw [List.getD_eq_getElem?_getD, List.getElem?_eq_getElem (by rw [tk_length]; exact hj), tk_get]; rfl
  rintro s6 n3 o3 s7 n4 h8 kk ⟨rfl, rfl, rfl, rfl, i2, rfl, ⟨lx, hlx, hv, ox8⟩, f8, rfl⟩
  have k8 : Keep h h8 := k6.offOwn f8 (by rintro y ⟨p, hp, rfl⟩; exact kk4.free (xb p hp))
  refine ifD (fun hlt => ?_) (fun hge => ?_)
  · have hxl := ox8.len
    have hi : i2 < lx.length := by omega
    have hil : i2 < l.length := by omega
    refine ox8.rd.ix hi fun p hp hc => ⟨_, hc, (r.keep k8).ix hil fun p' _ hc' => ⟨_, hc', ifN (fun e => absurd ?_ e) fun _ => ox8.rd.ix hi fun p3 hp3 _ => ?_⟩⟩
    · have := hv i2 (Nat.le_refl _) (by omega)
      simpa [List.getD_eq_getElem?_getD, hi, hil] using this
    refine ox8.store hp3 hi _ fun ob o9 => ⟨_, ?_, rfl, rfl, rfl, rfl, i2 + 1, by rw [wrap64_id (by omega) (by omega)]; rfl, ⟨_, by simp [hlx], fun j hj hjN => ?_, o9⟩, ?_, rfl⟩
    · omega
    · rw [← hv j (by omega) hjN, List.getD_eq_getElem?_getD, List.getElem?_set_ne (by omega), List.getD_eq_getElem?_getD]
    · intro y hy hne
      rw [upd_ne _ _ (fun e => hne ⟨p3, hp3, e⟩), f8 y hy hne]
  have t8 := t6.off f8 hDx
  clear ox8 ox6 t6 hge hv
  refine ⟨fun s8 o4 n5 h10 kk => s8 = s6 ∧ o4 = some q ∧ ∃ i : Nat, n5 = i ∧ i ≤ l.length ∧ TapeR h10 q (l.drop i) i false (fun b => h3 b = none ∧ h4 b ≠ none) ∧ Off (· = q.b) h8 h10 ∧ kk = l.length - i,
    ⟨_, rfl, rfl, N, rfl, hNl, ?_, Off.refl _ _, rfl⟩, ?_⟩
  · have : (false || decide (l.length < N)) = false := by simp; omega
    rw [this] at t8
    simpa using t8
  rintro s8 o4 n5 h10 kk ⟨rfl, rfl, i3, rfl, hi3, t10, f10, rfl⟩
  have k10 : Keep h h10 := k8.offOwn f10 (fun y hy => by subst hy; exact qf)
  refine ifD (fun hlt => ?_) (fun hge => ?_)
  · have hil : i3 < l.length := by omega
    refine (tape_next t10 (by omega)).mono ?_
    rintro _ h11 ⟨rfl, t11, f11⟩
    have f11' : Off (· = q.b) h10 h11 := fun y _ hy => f11 y hy
    have k11 : Keep h h11 := k10.offOwn f11' (fun y hy => by subst hy; exact qf)
    have hval : (l.drop i3).headD 0 = l[i3] := by
      rw [List.headD_eq_head?_getD, List.head?_drop, List.getElem?_eq_getElem hil]; rfl
    have he : (l.drop i3).isEmpty = false := by
      cases e : l.drop i3 with
      | nil => have := List.drop_eq_nil_iff.1 e; omega
      | cons a t => rfl
    rw [he] at t11
    refine ⟨_, _, rfl, (r.keep k11).ix hil fun p _ hc => ⟨_, hc, ifN (fun e => absurd hval e) fun _ => ifN (fun e => absurd rfl e) fun _ => ?_⟩⟩
    refine (tape_short t11).mono ?_
    rintro _ h11 ⟨rfl, rfl⟩
    refine ⟨_, rfl, ifB_neg rfl ⟨_, ?_, rfl, rfl, i3 + 1, by rw [wrap64_id (by omega) (by omega)]; rfl, by omega, by simpa using t11, f10.trans f11', rfl⟩⟩
    omega
  · have hil : i3 = l.length := by omega
    subst hil
    refine (tape_next t10 (by omega)).mono ?_
    rintro _ h11 ⟨rfl, t11, f11⟩
    have f11' : Off (· = q.b) h10 h11 := fun y _ hy => f11 y hy
    have k11 : Keep h h11 := k10.offOwn f11' (fun y hy => by subst hy; exact qf)
    have he : (l.drop l.length).isEmpty = true := by simp
    rw [he] at t11
    refine ⟨_, _, rfl, ifD (fun _ => ?_) (fun e => absurd (by omega) e)⟩
    refine (tape_short t11).mono ?_
    rintro _ h11 ⟨rfl, rfl⟩
    refine ⟨_, rfl, ifB_pos rfl ?_⟩
    refine (tape_used t11).mono ?_
    rintro _ h11 ⟨rfl, rfl⟩
    refine ⟨_, rfl, ?_, k11⟩
    rw [wrap64_id (by omega) (by omega), hlen]; simp

theorem tk_zero (l : List UInt64) : tk l 0 = [] := rfl
theorem drop_headD (l : List UInt64) (u : Nat) : (l.drop u).headD 0 = l.getD u 0 := by
  rw [List.getD_eq_getElem?_getD, List.headD_eq_head?_getD, List.head?_drop]
theorem short_succ (l : List UInt64) (u : Nat) : (decide (l.length < u) || (l.drop u).isEmpty) = decide (l.length < u + 1) := by
  rw [Bool.eq_iff_iff]; simp; omega
theorem short_add (l : List UInt64) (u n : Nat) : (decide (l.length < u) || decide ((l.drop u).length < n)) = decide (l.length < u + n) := by
  rw [Bool.eq_iff_iff]; simp; omega

theorem tapePlays_law {h : Hp} {s : Sl} {l : List UInt64} (r : RdS vu h s l) (hl : l.length * 8 ≤ 140737488355328) {st : Sl} {tks : List Int} (rt : RdS (Value.int .i64) h st tks) (_ : tks.length * 8 ≤ 140737488355328) :
    callK prog 3 [vs s, vs st] h fun v h' => v = .bool true ∧ Keep h h' := by
  refine c3 s st ?_
  refine (tape_shown h).mono ?_
  rintro _ h1 ⟨rfl, k1⟩
  refine ⟨_, rfl, (tape_new (r.keep k1) hl).mono ?_⟩
  rintro _ h2 ⟨q, rfl, t2, k2⟩
  have kk2 := k1.trans k2
  have tlen := rt.len
  refine ⟨some q, rfl, ifB_neg rfl (ifB_neg rfl (ifD (fun _ => ⟨rfl, kk2⟩) fun h60 => fun b1 hb1 => ?_))⟩
  have qf1 : h1 q.b = none := t2.d.1
  have qf : h q.b = none := k1.free qf1
  have bq : b1 ≠ q.b := fun e => t2.d.2 (e ▸ hb1)
  have b1f : h b1 = none := kk2.free hb1
  have k3 : Keep h2 (upd h2 b1 (.cells #[vs s, .int .i64 0] 29)) := (Keep.refl h2).upd hb1 _
  have sq : ∀ p, s.q = some p → 0 < l.length → p.b ≠ q.b := fun p hp hl e => r.there hp hl (e ▸ qf)
  have sb : ∀ p, s.q = some p → 0 < l.length → p.b ≠ b1 := fun p hp hl e => r.there hp hl (e ▸ b1f)
  have R3 : RefR (upd h2 b1 (.cells #[vs s, .int .i64 0] 29)) ⟨b1, 0⟩ s l ((0 : Nat) : Int) := ⟨rfl, upd_same _ _ _, (r.keep kk2).keep k3, sb⟩
  have dB : ∀ y, (h1 y = none ∧ h2 y ≠ none) → y ≠ b1 := fun y hy e => hy.2 (e ▸ hb1)
  refine ⟨fun s1 o2 o3 n1 h4 kk => s1 = st ∧ o2 = some q ∧ o3 = some ⟨b1, 0⟩ ∧ ∃ m u : Nat, n1 = m ∧ m ≤ tks.length ∧ u ≤ 51 * m ∧ TapeR h4 q (l.drop u) u (decide (l.length < u)) (fun b => h1 b = none ∧ h2 b ≠ none) ∧ RefR h4 ⟨b1, 0⟩ s l u ∧ Keep h h4 ∧ kk = tks.length - m,
    ⟨_, rfl, rfl, rfl, 0, 0, rfl, Nat.zero_le _, Nat.zero_le _, by simpa using t2.keep k3, R3, kk2.trans k3, rfl⟩, ?_⟩
  rintro s1 o2 o3 n1 h4 kk ⟨rfl, rfl, rfl, m, u, rfl, hm, hu, t4, R4, k4, rfl⟩
  refine ifD (fun hlt => ?_) (fun _ => ⟨rfl, k4⟩)
  have hml : m < tks.length := by omega
  -- what a round ends with
  have fin : ∀ (h9 : Hp) (u9 : Nat), u9 ≤ 51 * (m + 1) → TapeR h9 q (l.drop u9) u9 (decide (l.length < u9)) (fun b => h1 b = none ∧ h2 b ≠ none) → RefR h9 ⟨b1, 0⟩ s l u9 → Keep h h9 →
      ∃ k3, k3 < tks.length - m ∧ (s1 = s1 ∧ some q = some q ∧ some (⟨b1, 0⟩ : Pt) = some ⟨b1, 0⟩ ∧ ∃ m' u : Nat, wrap64 ((m : Int) + 1) = m' ∧ m' ≤ tks.length ∧ u ≤ 51 * m' ∧ TapeR h9 q (l.drop u) u (decide (l.length < u)) (fun b => h1 b = none ∧ h2 b ≠ none) ∧ RefR h9 ⟨b1, 0⟩ s l u ∧ Keep h h9 ∧ k3 = tks.length - m') := by
    intro h9 u9 hu9 t9 R9 k9
    exact ⟨_, by omega, rfl, rfl, rfl, m + 1, u9, by rw [wrap64_id (by omega) (by omega)]; rfl, by omega, hu9, t9, R9, k9, rfl⟩
  refine (rt.keep k4).ix hml fun p _ hc => ⟨_, hc, ifD (fun h1' => ?_) (fun h1' => ?_)⟩
  · refine (tape_next t4 (by omega)).mono ?_
    rintro _ h5 ⟨rfl, t5, f5⟩
    have f5' : Off (· = q.b) h4 h5 := fun y _ hy => f5 y hy
    rw [short_succ, List.tail_drop] at t5
    have R5 := R4.off f5' bq sq
    have k5 : Keep h h5 := k4.offOwn f5' (fun y hy => by subst hy; exact qf)
    refine ⟨_, _, rfl, (ref_next R5 (by omega)).mono ?_⟩
    rintro _ h6 ⟨rfl, R6, f6⟩
    have f6' : Off (· = b1) h5 h6 := fun y _ hy => f6 y hy
    have t6 := t5.off f6' dB
    have k6 : Keep h h6 := k5.offOwn f6' (fun y hy => by subst hy; exact b1f)
    refine ⟨_, _, rfl, ifN (fun e => absurd (drop_headD l u) e) fun _ => ifN (fun e => absurd rfl e) fun _ => ?_⟩
    refine (tape_take t6 (min tks[m] 50) (by omega) (by omega)).mono ?_
    rintro _ h7 ⟨s2, rfl, o7, t7, f7⟩
    have e0 : (min tks[m] 50).toNat = 0 := by omega
    rw [e0] at o7 t7
    have t7' : TapeR h7 q (l.drop (u + 1)) ((u + 1 : Nat) : Int) (decide (l.length < u + 1)) (fun b => h1 b = none ∧ h2 b ≠ none) := by simpa using t7
    have R7 := R6.off f7 bq sq
    have k7 : Keep h h7 := k6.offOwn f7 (fun y hy => by subst hy; exact qf)
    refine ⟨_, rfl, ifN (fun e => absurd (by have := o7.len; rw [tk_zero] at this; simp [this]) e) fun _ => ⟨_, rfl, _, by rw [hcell_cells R7.cells]; rfl, ?_⟩⟩
    refine (tape_used t7').mono ?_
    rintro _ h7 ⟨rfl, rfl⟩
    refine ⟨_, rfl, ⟨by rw [hcell_cells R7.cells]; rfl, trivial⟩, ifN (fun e => absurd rfl e) fun _ => ?_⟩
    refine (tape_short t7').mono ?_
    rintro _ h7 ⟨rfl, rfl⟩
    refine ⟨_, rfl, (ref_short R7).mono ?_⟩
    rintro _ h7 ⟨rfl, rfl⟩
    exact ⟨_, rfl, ifB_neg (by simp) (fin _ (u + 1) (by omega) t7' R7 k7)⟩
  · obtain ⟨N, hN, hN1⟩ : ∃ N : Nat, min tks[m] 50 = (N : Int) ∧ N ≤ 50 := ⟨(min tks[m] 50).toNat, by omega, by omega⟩
    rw [hN]
    refine (tape_take t4 N (by omega) (by omega)).mono ?_
    rintro _ h11 ⟨s3, rfl, o11, t11, f11⟩
    simp only [Int.toNat_natCast] at o11 t11
    rw [short_add, List.drop_drop] at t11
    have R11 := R4.off f11 bq sq
    have k11 : Keep h h11 := k4.offOwn f11 (fun y hy => by subst hy; exact qf)
    have l3 := o11.len
    rw [tk_length] at l3
    have b1h4 : h4 b1 ≠ none := by rw [R4.cells]; simp
    have s3b : ∀ p, s3.q = some p → p.b ≠ b1 := fun p hp e => b1h4 (e ▸ (o11.blk hp).1)
    refine ⟨_, rfl, ifN (fun e => absurd (by omega) e) fun _ => ?_⟩
    refine ⟨fun s4 o4 o5 n7 n8 s5 n9 h12 kk => s4 = s1 ∧ o4 = some q ∧ o5 = some ⟨b1, 0⟩ ∧ n7 = m ∧ n8 = N ∧ s5 = s3 ∧ ∃ j : Nat, n9 = j ∧ j ≤ N ∧ RefR h12 ⟨b1, 0⟩ s l ((u + j : Nat) : Int) ∧ Off (· = b1) h11 h12 ∧ kk = N - j,
      ⟨_, rfl, rfl, rfl, rfl, rfl, rfl, 0, rfl, Nat.zero_le _, R11, Off.refl _ _, rfl⟩, ?_⟩
    rintro s4 o4 o5 n7 n8 s5 n9 h12 kk ⟨rfl, rfl, rfl, rfl, rfl, rfl, j, rfl, hj, R12, f12, rfl⟩
    have k12 : Keep h h12 := k11.offOwn f12 (fun y hy => by subst hy; exact b1f)
    have t12 := t11.off f12 dB
    refine ifD (fun hlt2 => ?_) (fun hge2 => ?_)
    · refine (ref_next R12 (by omega)).mono ?_
      rintro _ h13 ⟨rfl, R13, f13⟩
      have f13' : Off (· = b1) h12 h13 := fun y _ hy => f13 y hy
      have o13 := o11.off (f12.trans f13') s3b
      have hjN : j < (tk (l.drop u) N).length := by rw [tk_length]; omega
      refine ⟨_, _, rfl, o13.rd.ix hjN fun p3 _ hc3 => ⟨_, hc3, ifN (fun e => absurd ?_ e) fun _ => ⟨_, ?_, rfl, rfl, rfl, rfl, rfl, rfl, j + 1, by rw [wrap64_id (by omega) (by omega)]; rfl, by omega, R13, f12.trans f13', rfl⟩⟩⟩
      · rw [tk_get]
        simp only [List.getD_eq_getElem?_getD, List.getElem?_drop]
      · omega
    · have : j = N := by omega
      subst this
      refine ⟨_, rfl, _, by rw [hcell_cells R12.cells]; rfl, (tape_used t12).mono ?_⟩
      rintro _ h12 ⟨rfl, rfl⟩
      refine ⟨_, rfl, ⟨by rw [hcell_cells R12.cells]; rfl, trivial⟩, ifN (fun e => absurd (by omega) e) fun _ => ?_⟩
      refine (tape_short t12).mono ?_
      rintro _ h12 ⟨rfl, rfl⟩
      refine ⟨_, rfl, (ref_short R12).mono ?_⟩
      rintro _ h12 ⟨rfl, rfl⟩
      exact ⟨_, rfl, ifB_neg (by simp) (fin _ (u + j) (by omega) (by simpa using t12) R12 k12)⟩

end Go.Proofs.Try

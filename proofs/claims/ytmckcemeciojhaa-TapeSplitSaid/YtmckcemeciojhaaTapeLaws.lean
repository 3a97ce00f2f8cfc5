/- Chapter 2's laws: each returns true, and what was there stands. -/
import Derived.Test.YtmckcemeciojhaaTape
namespace Go.Proofs.Try
open Go Go.Sh Go.RowKit

theorem tk_append (l : List UInt64) (a b : Nat) : tk l a ++ tk (l.drop a) b = tk l (a + b) := by
  apply List.ext_getElem
  · simp [tk]
  · intro i h1 h2
    simp only [List.length_append, tk_length] at h1
    by_cases e : i < a
    · rw [List.getElem_append_left (by rw [tk_length]; exact e), tk_get, tk_get]
    · rw [List.getElem_append_right (by rw [tk_length]; omega), tk_get, tk_get, tk_length]
      simp only [List.getD_eq_getElem?_getD, List.getElem?_drop]
      rw [show a + (i - a) = i by omega]

theorem Off.free {D : Nat → Prop} {h h' : Hp} (k : Off D h h') (hd : ∀ b, D b → h' b ≠ none) {b : Nat} (hb : h' b = none) : h b = none := by
  cases e : h b with
  | none => rfl
  | some o =>
    by_cases hD : D b
    · exact absurd hb (hd b hD)
    · rw [k b (by rw [e]; simp) hD, e] at hb; cases hb

theorem tapeSplit_law {h : Hp} {s : Sl} {l : List UInt64} (r : RdS vu h s l) (hl : l.length * 8 ≤ 140737488355328) (a b : Int) :
    callK prog 6 [vs s, .int .i64 a, .int .i64 b] h fun v h' => v = .bool true ∧ Keep h h' := by
  refine c6 s a b ?_
  refine (tape_shown h).mono ?_
  rintro _ h1 ⟨rfl, k1⟩
  refine ⟨_, rfl, (tape_new (r.keep k1) hl).mono ?_⟩
  rintro _ h2 ⟨q1, rfl, t1, k2⟩
  refine ⟨some q1, rfl, (tape_new (r.keep (k1.trans k2)) hl).mono ?_⟩
  rintro _ h3 ⟨q2, rfl, t2, k3⟩
  have k : Keep h h3 := (k1.trans k2).trans k3
  have done : (Value.bool true) = .bool true ∧ Keep h h3 := ⟨rfl, k⟩
  refine ⟨some q2, rfl, ifB_neg rfl (ifB_neg rfl (ifB_neg rfl (ifD (fun _ => ifB_pos rfl (ifB_pos rfl done)) fun ha => ifD (fun _ => ifB_pos rfl (ifB_pos rfl done)) fun hb => ifD (fun _ => ifB_pos rfl (ifB_pos rfl done)) fun ha2 => ifD (fun _ => ifB_pos rfl (ifB_pos rfl done)) fun hb2 => ?_)))⟩
  have t1' := t1
  have t1 := t1.keep k3
  have e12 : ∀ x, (h2 x = none ∧ h3 x ≠ none) → x ≠ q1.b := fun x hx e => t1'.d.2 (e ▸ hx.1)
  have e21 : ∀ x, (h1 x = none ∧ h2 x ≠ none) → x ≠ q2.b := fun x hx e => hx.2 (e ▸ t2.d.1)
  refine (tape_take t1 a (by decide) (by omega)).mono ?_
  rintro _ h4 ⟨s1, rfl, o1, t1a, f4⟩
  refine ⟨_, rfl, (tape_take t1a b (by omega) (by omega)).mono ?_⟩
  rintro _ h5 ⟨s2, rfl, o2, t1b, f5⟩
  have q1h3 : h3 q1.b ≠ none := t1.dom _ t1.d
  have q2h3 : h3 q2.b ≠ none := t2.dom _ t2.d
  have f35 : Off (· = q1.b) h3 h5 := f4.trans f5
  have fr5 : ∀ x, h5 x = none → h3 x = none := fun x hx => Off.free f35 (fun y hy => by rw [hy]; exact t1b.dom _ t1b.d) hx
  have s1ne : ∀ p, s1.q = some p → p.b ≠ q1.b := fun p hp e => q1h3 (e ▸ (o1.blk hp).1)
  have o1' : OwnS vu h3 h5 s1 (tk l a.toNat) := o1.off f5 s1ne
  refine ⟨_, rfl, OwnS.app rtU vu_one o1' o2.rd fr5 (by rw [tk_length, tk_length]; omega) (by decide) ?_⟩
  intro s3 h6 o3 f6 _ fr6
  have f6' : Off (fun x => ∃ p, s1.q = some p ∧ x = p.b) h5 h6 := fun x hx hne => f6 x hx fun p hp e => hne ⟨p, hp, e⟩
  have n1 : ∀ x, h3 x ≠ none → ¬ ∃ p, s1.q = some p ∧ x = p.b := by
    rintro x hx ⟨p, hp, rfl⟩; exact hx (o1.blk hp).1
  have t2a := (t2.off f35 e12).off f6' (fun x hx => n1 x hx.2)
  have t1c := t1b.off f6' (fun x hx => n1 x (t1.dom x hx))
  refine (tape_take t2a (wrap64 (a + b)) (by decide) (by rw [wrap64_id (by omega) (by omega)]; omega)).mono ?_
  rw [wrap64_id (by omega) (by omega)]
  rintro _ h7 ⟨s4, rfl, o4, t2b, f7⟩
  have t1d := t1c.off f7 e21
  have s3ne : ∀ p, s3.q = some p → p.b ≠ q2.b := fun p hp e => q2h3 (e ▸ (o3.blk hp).1)
  have r3 : RdS vu h7 s3 (tk l a.toNat ++ tk (l.drop a.toNat) b.toNat) := (o3.off f7 s3ne).rd
  have r4 := o4.rd
  have eN : (a + b).toNat = a.toNat + b.toNat := by omega
  rw [tk_append] at r3
  rw [eN] at r4
  have kF : Keep h h7 := by
    refine ((k.offOwn f35 ?_).offOwn f6' ?_).offOwn f7 ?_
    · rintro x rfl; exact k1.free t1'.d.1
    · rintro x ⟨p, hp, rfl⟩; exact k.free (o1.blk hp).1
    · rintro x rfl; exact (k1.trans k2).free t2.d.1
  refine ⟨_, rfl, ifN (fun e => absurd (by rw [r3.lenI, r4.lenI]) e) fun _ => ?_⟩
  refine (tape_used t1d).mono ?_
  rintro _ h7 ⟨rfl, rfl⟩
  refine ⟨_, rfl, (tape_used t2b).mono ?_⟩
  rintro _ h7 ⟨rfl, rfl⟩
  refine ⟨_, rfl, ifN (fun e => absurd (by omega) e) fun _ => ?_⟩
  refine (tape_short t1d).mono ?_
  rintro _ h7 ⟨rfl, rfl⟩
  refine ⟨_, rfl, (tape_short t2b).mono ?_⟩
  rintro _ h7 ⟨rfl, rfl⟩
  refine ⟨_, rfl, ifB_neg ?_ ?_⟩
  · rw [eN]
    have : decide (l.length < a.toNat + b.toNat) = (decide (l.length < a.toNat) || decide ((l.drop a.toNat).length < b.toNat)) := by
      rw [Bool.eq_iff_iff]; simp; omega
    rw [this]; simp
  · refine ⟨fun s5 s6 n3 h12 k => s5 = s3 ∧ s6 = s4 ∧ h12 = h7 ∧ ∃ m : Nat, n3 = m ∧ k = s3.len - m, ⟨_, rfl, rfl, rfl, 0, rfl, rfl⟩, ?_⟩
    rintro s5 s6 n3 h12 k ⟨rfl, rfl, rfl, m, rfl, rfl⟩
    refine ifD (fun hlt => ?_) (fun _ => ⟨rfl, kF⟩)
    have l3 := r3.len
    have hm : m < (tk l (a.toNat + b.toNat)).length := by omega
    refine r3.ix hm fun p _ hc => ⟨_, hc, r4.ix hm fun p' _ hc' => ⟨_, hc', ifN (fun e => absurd rfl e) fun _ => ⟨_, ?_, rfl, rfl, rfl, m + 1, ?_, rfl⟩⟩⟩
    · omega
    · rw [tk_length] at hm
      rw [wrap64_id (by omega) (by omega)]; rfl

end Go.Proofs.Try

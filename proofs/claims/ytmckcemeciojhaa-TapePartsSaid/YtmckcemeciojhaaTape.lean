/- Chapter 2: what each function of the tape, and of its reference, comes to. -/
import Derived.Test.YtmckcemeciojhaaShUse
import Derived.Test.YtmckcemeciojhaaRd
namespace Go.Proofs.Try
open Go Go.Sh Go.RowKit

theorem rtU : RowT prog 22 30 (.int .u64 0) 8 := ⟨by kernel_rfl, by kernel_rfl, by kernel_rfl, by kernel_rfl, rfl⟩
theorem rtI : RowT prog 23 3 (.int .i64 0) 8 := ⟨by kernel_rfl, by kernel_rfl, by kernel_rfl, by kernel_rfl, rfl⟩
theorem vu_one (x : UInt64) : (vu x).oneCell' = true := rfl
def iv (n : Int) : Value := .int .i64 n
theorem iv_one (x : Int) : (iv x).oneCell' = true := rfl

/-- slices.Clone -/
theorem clone_u {h : Hp} {s : Sl} {l : List UInt64} (r : RdS vu h s l) (hl : l.length * 8 ≤ 140737488355328) :
    callK prog 24 [vs s] h fun v h' => ∃ s', v = vs s' ∧ OwnS vu h h' s' l ∧ Keep h h' ∧ (s'.q = none → l = []) := by
  refine c24 s ?_
  unfold G24
  refine ifB_intro (fun hn => ?_) (fun hn => ?_)
  · have hp : s.q = none := by
      cases e : s.q with
      | none => rfl
      | some q => rw [Sl.q_p e] at hn; cases hn
    have : l = [] := List.length_eq_zero_iff.1 (by have := r.nil hp; have := r.cap; have := r.len; omega)
    subst this
    exact ⟨_, rfl, OwnS.nilS _ _ _, Keep.refl h, fun _ => rfl⟩
  · intro b hb
    have k1 : Keep h (upd h b (.cells #[] 30)) := (Keep.refl h).upd hb _
    have o0 : OwnS vu h (upd h b (.cells #[] 30)) ⟨some ⟨b, 0⟩, 0, 0, none⟩ [] := OwnS.new (l := []) hb 0 rfl
    refine OwnS.app rtU vu_one (l := []) o0 (r.keep k1) (fun x hx => k1.free hx) (by simpa using hl) (by decide) ?_
    intro s' h' o hoff hb' hf
    refine ⟨s', rfl, by simpa using o, ?_, fun e => ?_⟩
    · intro x hx
      rw [hoff x (by rw [k1 x hx]; exact hx) (fun q hq e => by cases hq; exact hx (e ▸ hb)), k1 x hx]
    · have := o.rd.nil e; have := o.cap; have := o.len
      simp at this
      exact List.length_eq_zero_iff.1 (by omega)

/-- a tape stands at a place -/
structure TapeR (h : Hp) (q : Pt) (l : List UInt64) (u : Int) (sh : Bool) (D : Nat → Prop) : Prop where
  o : q.o = 0
  d : D q.b
  dom : ∀ b, D b → h b ≠ none
  cells : ∃ s, h q.b = some (.cells #[vs s, .int .i64 u, .bool sh] 47 (0, 0)) ∧ RdS vu h s l ∧ ∀ p, s.q = some p → p.b ≠ q.b ∧ D p.b

theorem TapeR.off {h h' : Hp} {q : Pt} {l : List UInt64} {u : Int} {sh : Bool} {D E : Nat → Prop} (t : TapeR h q l u sh D) (k : Off E h h') (hd : ∀ b, D b → ¬ E b) : TapeR h' q l u sh D := by
  obtain ⟨s, h1, h2, h3⟩ := t.cells
  refine ⟨t.o, t.d, fun b hb => by rw [k b (t.dom b hb) (hd b hb)]; exact t.dom b hb, s, ?_, h2.off k (fun p hp => hd _ (h3 p hp).2), h3⟩
  rw [k _ (t.dom _ t.d) (hd _ t.d)]; exact h1
theorem TapeR.keep {h h' : Hp} {q : Pt} {l : List UInt64} {u : Int} {sh : Bool} {D : Nat → Prop} (t : TapeR h q l u sh D) (k : Keep h h') : TapeR h' q l u sh D :=
  t.off (k.off fun _ => False) fun _ _ h => h

/-- tape.New -/
theorem tape_new {h : Hp} {s : Sl} {l : List UInt64} (r : RdS vu h s l) (hl : l.length * 8 ≤ 140737488355328) :
    callK prog 12 [vs s] h fun v h' => ∃ q, v = vp q ∧ TapeR h' q l 0 false (fun b => h b = none ∧ h' b ≠ none) ∧ Keep h h' := by
  refine c12 s ?_
  unfold G12
  refine (clone_u r hl).mono ?_
  rintro _ h1 ⟨s', rfl, o, k, _⟩
  refine ⟨s', rfl, fun b hb => ?_⟩
  have k2 : Keep h1 (upd h1 b (.cells #[vs s', .int .i64 0, .bool false] 47)) := (Keep.refl h1).upd hb _
  refine ⟨⟨b, 0⟩, rfl, ⟨rfl, ⟨k.free hb, by rw [upd_same]; simp⟩, fun b hb => hb.2, s', upd_same _ _ _, o.rd.keep k2, fun p hp => ?_⟩, k.trans k2⟩
  have := o.blk hp
  have hne : p.b ≠ b := fun e => this.2 (by rw [e]; exact hb)
  exact ⟨hne, this.1, by rw [upd_ne _ _ hne]; exact this.2⟩

/-- Next -/
theorem tape_next {h : Hp} {q : Pt} {l : List UInt64} {u : Int} {sh : Bool} {D : Nat → Prop} (t : TapeR h q l u sh D) (hu : 0 ≤ u ∧ u < 9223372036854775807) :
    callK prog 13 [vp q] h fun v h' => v = .tuple #[vu (l.headD 0), .int .i64 u] ∧ TapeR h' q l.tail (u + 1) (sh || l.isEmpty) D ∧ (∀ b, b ≠ q.b → h' b = h b) := by
  refine c13 q ?_
  obtain ⟨s, h1, h2, h3⟩ := t.cells
  have ho := t.o
  have hw : wrap64 (u + 1) = u + 1 := wrap64_id (by omega) (by omega)
  have hdom : ∀ ob, ∀ b, D b → upd h q.b ob b ≠ none := fun ob b hb => by
    by_cases e : b = q.b
    · rw [e, upd_same]; simp
    · rw [upd_ne _ _ e]; exact t.dom b hb
  unfold G13
  refine ⟨u, by rw [hcell_cells h1, ho]; rfl, u, by rw [hcell_cells h1, ho]; rfl, _, _, h1, by simp [ho], ?_⟩
  rw [hw]
  simp only [ho, hwr_one]
  refine ⟨s, by rw [hcell_upd]; rfl, ifD (fun e => ?_) (fun e => ?_)⟩
  · have hl : l = [] := List.length_eq_zero_iff.1 (by have := h2.len; omega)
    subst hl
    refine ⟨_, _, upd_same _ _ _, by simp, rfl, ⟨ho, t.d, fun b hb => ?_, s, ?_, ?_, h3⟩, fun b hb => ?_⟩
    · by_cases e : b = q.b
      · rw [e, upd_same]; simp
      · rw [upd_ne _ _ e]; exact hdom _ b hb
    · rw [upd_same]; simp [hwr_one]
    · refine h2.move fun p hp _ => ?_
      rw [upd_ne _ _ (h3 p hp).1, upd_ne _ _ (h3 p hp).1]
    · rw [upd_ne _ _ hb, upd_ne _ _ hb]
  · cases l with
    | nil => exact absurd (by have := h2.len; simp at this; omega) e
    | cons x l =>
      obtain ⟨p, hp, hc⟩ := h2.at (i := 0) (by simp)
      have hlen := h2.len
      simp only [List.length_cons] at hlen
      refine ⟨s, by rw [hcell_upd]; rfl, p, hp, .mk 0, by omega, x, ?_, s, by rw [hcell_upd]; rfl, .mk 1, by omega, _, _, upd_same _ _ _, by simp [ho], rfl, ⟨ho, t.d, fun b hb => ?_, ⟨slPt s.p 1 s.cap 1, s.len - 1, s.cap - 1, slZ s.z 1 s.cap 1⟩, ?_, ?_, ?_⟩, fun b hb => ?_⟩
      · rw [hcell_upd_ne (h3 p hp).1]; simpa using hc
      · by_cases e : b = q.b
        · rw [e, upd_same]; simp
        · rw [upd_ne _ _ e]; exact hdom _ b hb
      · rw [upd_same]; simp [hwr_one, ho]
      · have := (h2.drop (n := 1) (by simp))
        simp only [List.drop_succ_cons, List.drop_zero] at this
        refine this.move fun p' hp' _ => ?_
        obtain ⟨p0, e1, e2⟩ := cut_q0 h2.nil (by have := h2.cap; omega) hp'
        rw [e2, upd_ne _ _ (h3 _ e1).1, upd_ne _ _ (h3 _ e1).1]
      · intro p' hp'
        obtain ⟨p0, e1, e2⟩ := cut_q0 h2.nil (by have := h2.cap; omega) hp'
        rw [e2]; exact h3 _ e1
      · rw [upd_ne _ _ hb, upd_ne _ _ hb]

theorem tape_used {h : Hp} {q : Pt} {l : List UInt64} {u : Int} {sh : Bool} {D : Nat → Prop} (t : TapeR h q l u sh D) : callK prog 16 [vp q] h fun v h' => v = .int .i64 u ∧ h' = h := by
  refine c16 q ?_
  obtain ⟨s, h1, _⟩ := t.cells
  exact ⟨u, by rw [hcell_cells h1, t.o]; rfl, rfl, rfl⟩
theorem tape_short {h : Hp} {q : Pt} {l : List UInt64} {u : Int} {sh : Bool} {D : Nat → Prop} (t : TapeR h q l u sh D) : callK prog 17 [vp q] h fun v h' => v = .bool sh ∧ h' = h := by
  refine c17 q ?_
  obtain ⟨s, h1, _⟩ := t.cells
  exact ⟨sh, by rw [hcell_cells h1, t.o]; rfl, rfl, rfl⟩

/-- so many words of a tape -/
def tk (l : List UInt64) (n : Nat) : List UInt64 := (List.range n).map fun i => l.getD i 0
theorem tk_length (l : List UInt64) (n : Nat) : (tk l n).length = n := by simp [tk]
theorem tk_get (l : List UInt64) (n i : Nat) (h : i < (tk l n).length) : (tk l n)[i] = l.getD i 0 := by simp [tk]
theorem tk_succ (l : List UInt64) (n : Nat) : tk l (n + 1) = tk l n ++ [(l.drop n).headD 0] := by
  simp only [tk, List.range_succ, List.map_append, List.map_cons, List.map_nil]
  congr 2
  rw [List.getD_eq_getElem?_getD, List.headD_eq_head?_getD, List.head?_drop]

/-- Take -/
theorem tape_take {h : Hp} {q : Pt} {l : List UInt64} {u : Int} {sh : Bool} {D : Nat → Prop} (t : TapeR h q l u sh D) (n : Int) (hu : 0 ≤ u ∧ u ≤ 17592186044416) (hn : n ≤ 17592186044416) :
    callK prog 15 [vp q, .int .i64 n] h fun v h' => ∃ s, v = vs s ∧ OwnS vu h h' s (tk l n.toNat) ∧ TapeR h' q (l.drop n.toNat) (u + n.toNat) (sh || decide (l.length < n.toNat)) D ∧ Off (· = q.b) h h' := by
  refine c15 q n ?_
  have hq := t.dom _ t.d
  unfold G15
  refine ⟨fun q1 s1 n1 n2 h1 k => q1 = q ∧ n1 = n ∧ ∃ m : Nat, n2 = m ∧ m ≤ n.toNat ∧ OwnS vu h h1 s1 (tk l m) ∧ TapeR h1 q (l.drop m) (u + m) (sh || decide (l.length < m)) D ∧ Off (· = q.b) h h1 ∧ (∀ b, h1 b = none → h b = none) ∧ k = n.toNat - m, ⟨_, rfl, rfl, 0, rfl, Nat.zero_le _, OwnS.nilS _ _ _, by simpa using t, Off.refl _ _, fun _ hb => hb, rfl⟩, ?_⟩
  rintro q1 s1 n1 n2 h1 k ⟨rfl, rfl, m, rfl, hm, ho, ht, hoff, hfr, rfl⟩
  refine ifD (fun hlt => ?_) (fun hge => ?_)
  · refine (tape_next ht (by omega)).mono ?_
    rintro _ h2 ⟨rfl, ht2, hs2⟩
    refine ⟨_, _, rfl, fun b hb => ?_⟩
    have hq2 : h2 q1.b ≠ none := ht2.dom _ ht2.d
    have fr2 : ∀ x, h2 x = none → h x = none := fun x hx => by
      have : x ≠ q1.b := fun e => hq2 (by rw [← e]; exact hx)
      exact hfr x (by rw [← hs2 x this]; exact hx)
    have sne : ∀ p, s1.q = some p → p.b ≠ q1.b := fun p hp e => hq (e ▸ (ho.blk hp).1)
    have o2 : OwnS vu h h2 s1 (tk l m) := ho.move fun p hp => hs2 _ (sne p hp)
    have k3 : Keep h2 (upd h2 b (.cells #[vu ((l.drop m).headD 0)] 30)) := (Keep.refl h2).upd hb _
    have y : RdS vu (upd h2 b (.cells #[vu ((l.drop m).headD 0)] 30)) ⟨some ⟨b, 0⟩, 1, 1, none⟩ [(l.drop m).headD 0] := (OwnS.new (f := vu) (h0 := h) (l := [(l.drop m).headD 0]) (fr2 b hb) 1 rfl).rd
    refine OwnS.app rtU vu_one (o2.keep k3) y (fun x hx => fr2 x (k3.free hx)) (by rw [tk_length]; simp; omega) (by decide) ?_
    intro s4 h4 o4 hoff4 hb4 hfr4
    refine ⟨_, ?_, rfl, rfl, m + 1, by rw [wrap64_id (by omega) (by omega)]; rfl, by omega, by rw [tk_succ]; exact o4, ?_, ?_, fun x hx => fr2 x (k3.free (hfr4 x hx)), rfl⟩
    · omega
    · have e1 : (l.drop m).tail = l.drop (m + 1) := by simp
      have e2 : ((sh || decide (l.length < m)) || (l.drop m).isEmpty) = (sh || decide (l.length < m + 1)) := by
        cases sh <;> simp
        rw [Bool.eq_iff_iff]; simp; omega
      rw [e1, e2] at ht2
      have e3 : u + (m : Int) + 1 = u + ((m + 1 : Nat) : Int) := by omega
      rw [e3] at ht2
      refine (ht2.keep k3).off (E := fun x => ∃ p, s1.q = some p ∧ x = p.b) (fun x hx hne => hoff4 x hx fun p hp e => hne ⟨p, hp, e⟩) ?_
      rintro x hx ⟨p, hp, rfl⟩
      exact t.dom _ hx (ho.blk hp).1
    · intro x hx hne
      have hb' : x ≠ b := fun e => by subst e; exact hx (fr2 _ hb)
      rw [hoff4 x (by rw [upd_ne _ _ hb', hs2 x hne, hoff x hx hne]; exact hx) (fun p hp e => hx (e ▸ (ho.blk hp).1)), upd_ne _ _ hb', hs2 x hne, hoff x hx hne]
  · have : m = n1.toNat := by omega
    subst this
    exact ⟨s1, rfl, ho, ht, hoff⟩

/-- chapter 2's example -/
theorem tape_shown (h : Hp) : callK prog 11 [] h fun v h' => v = .bool true ∧ Keep h h' := by
  refine c11 ?_
  intro b hb
  have k1 : Keep h (upd h b (.cells #[vu 7] 30)) := (Keep.refl h).upd hb _
  have y : RdS vu (upd h b (.cells #[vu 7] 30)) ⟨some ⟨b, 0⟩, 1, 1, none⟩ [7] := (OwnS.new (f := vu) (h0 := h) (l := [7]) hb 1 rfl).rd
  refine (tape_new y (by decide)).mono ?_
  rintro _ h2 ⟨q, rfl, t2, k2⟩
  refine ⟨some q, rfl, ifB_neg rfl ?_⟩
  refine (tape_next t2 (by decide)).mono ?_
  rintro _ h3 ⟨rfl, t3, s3⟩
  refine ⟨_, _, rfl, ?_⟩
  refine (tape_short t3).mono ?_
  rintro _ _ ⟨rfl, rfl⟩
  refine ⟨_, rfl, ?_⟩
  refine (tape_next t3 (by decide)).mono ?_
  rintro _ h5 ⟨rfl, t5, s5⟩
  refine ⟨_, _, rfl, ifB_pos rfl (ifB_pos rfl (ifB_pos rfl (ifB_pos rfl (ifB_pos rfl ?_))))⟩
  refine (tape_short t5).mono ?_
  rintro _ _ ⟨rfl, rfl⟩
  refine ⟨_, rfl, rfl, fun x hx => ?_⟩
  have hq := (t2.d).1
  have hne : x ≠ q.b := fun e => by rw [e, k1.free hq] at hx; exact hx rfl
  rw [s5 x hne, s3 x hne, k2 x (by rw [k1 x hx]; exact hx), k1 x hx]

/-! ## the reference -/
structure RefR (h : Hp) (q : Pt) (s : Sl) (l : List UInt64) (u : Int) : Prop where
  o : q.o = 0
  cells : h q.b = some (.cells #[vs s, .int .i64 u] 29 (0, 0))
  rd : RdS vu h s l
  ne : ∀ p, s.q = some p → 0 < l.length → p.b ≠ q.b

theorem RefR.off {h h' : Hp} {q : Pt} {s : Sl} {l : List UInt64} {u : Int} {E : Nat → Prop} (t : RefR h q s l u) (k : Off E h h') (hq : ¬ E q.b) (hs : ∀ p, s.q = some p → 0 < l.length → ¬ E p.b) : RefR h' q s l u :=
  ⟨t.o, by rw [k _ (by rw [t.cells]; simp) hq]; exact t.cells, t.rd.off' k hs, t.ne⟩

theorem ref_next {h : Hp} {q : Pt} {s : Sl} {l : List UInt64} {u : Nat} (t : RefR h q s l u) (hu : (u : Int) < 9223372036854775807) :
    callK prog 14 [vp q] h fun v h' => v = .tuple #[vu (l.getD u 0), .int .i64 u] ∧ RefR h' q s l ((u + 1 : Nat) : Int) ∧ (∀ b, b ≠ q.b → h' b = h b) := by
  refine c14 q ?_
  have ho := t.o
  have h1 := t.cells
  have hw : wrap64 ((u : Int) + 1) = ((u + 1 : Nat) : Int) := by rw [wrap64_id (by omega) (by omega)]; rfl
  refine ⟨u, by rw [hcell_cells h1, ho]; rfl, u, by rw [hcell_cells h1, ho]; rfl, _, _, h1, by simp [ho], ?_⟩
  rw [hw]
  simp only [ho, hwr_one]
  have R : RefR (upd h q.b (.cells (#[vs s, .int .i64 u].setIfInBounds (0 + 1) (.int .i64 ((u + 1 : Nat) : Int))) 29 (0, 0))) q s l ((u + 1 : Nat) : Int) :=
    ⟨ho, by rw [upd_same]; rfl, t.rd.move fun p hp hl => upd_ne _ _ (t.ne p hp hl), t.ne⟩
  refine ⟨s, by rw [hcell_upd]; rfl, ifD (fun e => ?_) (fun e => ?_)⟩
  · have hlt : u < l.length := by have := t.rd.len; omega
    refine ⟨s, by rw [hcell_upd]; rfl, ?_⟩
    refine R.rd.ix hlt fun p hp hc => ⟨l[u], by simpa using hc, ?_, R, fun b hb => upd_ne _ _ hb⟩
    rw [List.getD_eq_getElem?_getD, List.getElem?_eq_getElem hlt]; rfl
  · have hge : l.length ≤ u := by have := t.rd.len; omega
    refine ⟨?_, R, fun b hb => upd_ne _ _ hb⟩
    rw [List.getD_eq_getElem?_getD, List.getElem?_eq_none hge]; rfl

theorem ref_short {h : Hp} {q : Pt} {s : Sl} {l : List UInt64} {u : Nat} (t : RefR h q s l u) : callK prog 18 [vp q] h fun v h' => v = .bool (decide (l.length < u)) ∧ h' = h := by
  refine c18 q ?_
  refine ⟨u, by rw [hcell_cells t.cells, t.o]; rfl, s, by rw [hcell_cells t.cells, t.o]; rfl, ?_, rfl⟩
  rw [t.rd.len]; simp

end Go.Proofs.Try

/- Chapter 20, the document's answer: how many ways, all looks, the shape. -/
import Derived.Test.YtecaoigobpekdaaGreatDoorRefEv
import Derived.Test.YtecaoigobpekdaaGreatDoorShapeB
namespace Go.Proofs.Tryz
open Go Go.Sh Go.RowKit
set_option maxRecDepth 8000
set_option maxHeartbeats 4000000

abbrev wkC (c : Cfg) (s w : Sl) : Obj := .cells #[.int .i64 c.cap, .int .i64 c.bat, .int .i64 c.kic, .int .i64 c.spi, .int .i64 c.tab, .int .i64 c.slo, .int .i64 c.sta, .int .i64 c.lev, .int .i64 c.pol, vs s, vs w] 64 (0, 0)
structure RWs (c : Cfg) (h0 : Hp) (b : Nat) (acc : List Ev) (ws : List Int) (h : Hp) (s w : Sl) : Prop where
  cell : h b = some (wkC c s w)
  own : OwnM 3 evc h0 h s acc
  ne : ∀ p, s.q = some p → p.b ≠ b
  rd : RdS iv h0 w ws
  new : h0 b = none
  keep : Keep h0 h
def RW (c : Cfg) (h0 : Hp) (b : Nat) (acc : List Ev) (ws : List Int) (h : Hp) : Prop := ∃ s w, RWs c h0 b acc ws h s w
section
variable {c : Cfg} {t L : Nat} {h0 h : Hp} {b : Nat} {acc : List Ev} {ws : List Int} {s w : Sl}
theorem RWs.mv {h' : Hp} (r : RWs c h0 b acc ws h s w) (k : Keep h h') : RWs c h0 b acc ws h' s w := ⟨k.get r.cell, r.own.keep k, r.ne, r.rd, r.new, r.keep.trans k⟩
theorem RWs.app (r : RWs c h0 b acc ws h s w) {y : Sl} {m : List Ev} (ry : RdM evc h y m) (hl : acc.length + m.length ≤ 1000000000000) {K : Hp → Prop} (hk : ∀ h', RW c h0 b (acc ++ m) ws h' → K h') :
    appK prog 37 s (.s y) h fun s2 h2 => storeK h2 ⟨b, 0 + 9⟩ [vs s2] K := by
  refine OwnM.app rtE evc3 evc_one r.own ry (fun b hb => r.keep.free hb) (by omega) (by decide) ?_
  intro s' h' o f wh fr
  have hb : h b ≠ none := by rw [r.cell]; simp
  have e' : h' b = some (wkC c s w) := by rw [f b hb fun q hq e => r.ne q hq e.symm]; exact r.cell
  have k' := keep_app r.own r.keep f
  have ne' : ∀ p, s'.q = some p → p.b ≠ b := fun p hp e => by
    rcases wh p hp with ⟨q, hq, h1⟩ | h1
    · exact r.ne q hq (h1 ▸ e)
    · rw [e] at h1; exact hb h1
  refine stN k' r.new e' (by simp) fun h2 k2 e2 f2 => hk h2 ⟨s', w, ?_, o.move fun p hp => f2 _ (ne' p hp), ne', r.rd, r.new, k2⟩
  rw [e2]; rfl
theorem RWs.push (r : RWs c h0 b acc ws h s w) (e : Ev) (hl : acc.length ≤ 900000000000) {K : Hp → Prop} (hk : ∀ h', RW c h0 b (acc ++ [e]) ws h' → K h') :
    newK h (.cells #[.int .i64 e.r, .int .i64 e.a, .bool e.w] 44) fun b1 h1 => appK prog 37 s (.s ⟨some ⟨b1, 0⟩, 1, 1, none⟩) h1 fun s2 h2 => storeK h2 ⟨b, 0 + 9⟩ [vs s2] K :=
  newC fun b1 h1 f1 e1 k1 => (r.mv k1).app (m := [e]) ((OwnM.newE evc3 f1 e1 rfl rfl : OwnM 3 evc h h1 ⟨some ⟨b1, 0⟩, 1, 1, none⟩ [e]).rd) (by rw [List.length_singleton]; omega) hk
abbrev RWend (c : Cfg) (h0 : Hp) (b : Nat) (acc : List Ev) (ws : List Int) (v : Value) (h' : Hp) : Prop := v = .tuple #[] ∧ RW c h0 b acc ws h'
theorem rw_look (r : RW c h0 b acc ws h) (rg a : Int) (wr : Bool) (hl : acc.length ≤ 900000000000) : callK prog 57 [vp ⟨b, 0⟩, .int .i64 rg, .int .i64 a, .bool wr] h (RWend c h0 b (acc ++ [⟨rg, a, wr⟩]) ws) := by
  obtain ⟨s, w, r⟩ := r
  refine c57 ⟨b, 0⟩ rg a wr ?_
  unfold G57
  exact ⟨s, rd1 r.cell rfl, r.push ⟨rg, a, wr⟩ hl fun h' r' => ⟨rfl, r'⟩⟩
theorem rw_access (o : c.Ok t L) (r : RW c h0 b acc ws h) (hw : WaysOk (t + 2) L ws) {n : Nat} {ni : Int} (hni : ni = n) (hn : n ≤ 1000) (hws : n * L ≤ ws.length) (hl : acc.length ≤ 900000000000) :
    callK prog 59 [vp ⟨b, 0⟩, .int .i64 ni] h (RWend c h0 b (acc ++ sEv c t L ws n) (dr L n ws)) := by
  subst hni
  obtain ⟨s, w, r⟩ := r
  have hL := o.L; have hlev := o.lev
  have lw := r.rd.len; have cw := r.rd.cap
  have hnL : n * L ≤ 1000 * 4 := Nat.mul_le_mul hn hL.2
  have em : w64 ((n : Int) * c.lev) = ((n * L : Nat) : Int) := by
    rw [hlev]
    have : (n : Int) * (L : Int) = ((n * L : Nat) : Int) := by simp
    rw [this, w64_nat (by omega)]
  refine c59 ⟨b, 0⟩ n ?_
  unfold G59
  refine rdI r.cell rfl ⟨s, rd1 r.cell rfl, ?_⟩
  refine ⟨_, rd1 r.cell rfl, _, rd1 r.cell rfl, _, rd1 r.cell rfl, _, rd1 r.cell rfl, _, rd1 r.cell rfl, _, rd1 r.cell rfl, _, rd1 r.cell rfl, _, rd1 r.cell rfl, _, rd1 r.cell rfl, w, rd1 r.cell rfl, ?_⟩
  rw [em]
  refine ⟨by omega, by omega, ?_⟩
  refine (ref_store o).to fun h1 k1 => ⟨_, _, _, _, rfl, ⟨rd1 (k1.get r.cell) rfl, trivial⟩, ⟨rd1 (k1.get r.cell) rfl, trivial⟩, ?_⟩
  have rt := ((r.rd.keep r.keep).keep k1).takeS (n := n * L) hws
  have hwt : WaysOk (t + 2) L (ws.take (n * L)) := fun i hi => by
    rw [List.length_take] at hi
    rw [List.getElem_take]; exact hw i (by omega)
  refine (ref_store_events o.st 3 (by omega) rt (n := n) (by rw [List.length_take]; omega) hwt (by omega)).mono ?_
  rintro _ h2 ⟨y, rfl, oy, k2⟩
  rw [storeEv_take ws n n (Nat.le_refl _)] at oy
  have r2 := (r.mv k1).mv k2
  have sl := sl_len o ws n
  refine ⟨_, rfl, ⟨rd1 r2.cell rfl, trivial⟩, r2.app oy.rd (by show acc.length + (sEv c t L ws n).length ≤ _; omega) fun h3 r3 => ?_⟩
  obtain ⟨s3, w3, r3⟩ := r3
  have lw3 := r3.rd.len
  refine ⟨w3, rd1 r3.cell rfl, by omega, by omega, ?_⟩
  have rd3 := r3.rd.drop (n := n * L) hws
  refine stN r3.keep r3.new r3.cell (by simp) fun h4 k4 e4 f4 => ⟨rfl, s3, _, ?_, r3.own.move fun p hp => f4 _ (r3.ne p hp), r3.ne, rd3, r3.new, k4⟩
  rw [e4]; rfl
theorem rw_acc (o : c.Ok t L) (r : RW c h0 b acc ws h) (hw : WaysOk (t + 2) L ws) {n : Nat} {ni : Int} (hni : ni = n) (hn : n ≤ 1000) (hws : n * L ≤ ws.length) (hl : acc.length ≤ 900000000000) {Q : Value → Hp → Prop}
    (hq : ∀ h', RW c h0 b (acc ++ sEv c t L ws n) (dr L n ws) h' → Q (.tuple #[]) h') : callK prog 59 [vp ⟨b, 0⟩, .int .i64 ni] h Q :=
  (rw_access o r hw hni hn hws hl).mono (by rintro _ h' ⟨rfl, r'⟩; exact hq h' r')
theorem rw_find (o : c.Ok t L) (r : RW c h0 b acc ws h) (hw : WaysOk (t + 2) L ws) (hws : 2 * L ≤ ws.length) (hl : acc.length ≤ 800000000000) :
    callK prog 58 [vp ⟨b, 0⟩] h (RWend c h0 b (acc ++ findEv c t L ws) (dr L 2 ws)) := by
  have hn := o.nats; have sl := sl_len o ws 2
  refine c58 ⟨b, 0⟩ ?_
  unfold G58
  refine rw_acc o r hw rfl (by omega) hws (by omega) fun h1 r1 => ⟨rfl, ?_⟩
  obtain ⟨s, w, r1⟩ := r1
  refine ⟨s, rd1 r1.cell rfl, rdI r1.cell rfl ?_⟩
  have rr := ref_reads 1 c.P (by omega) h1
  rw [hn.2.1] at rr
  refine rr.mono ?_
  rintro _ h2 ⟨y, rfl, oy, k2⟩
  have r2 := r1.mv k2
  refine ⟨_, rfl, ⟨rd1 r2.cell rfl, trivial⟩, r2.app oy.rd (by rw [List.length_append, reads_length]; omega) fun h3 r3 => ⟨rfl, ?_⟩⟩
  rw [List.append_assoc] at r3; exact r3
theorem rw_remove (o : c.Ok t L) (r : RW c h0 b acc ws h) (hw : WaysOk (t + 2) L ws) (hws : 1 * L ≤ ws.length) (hl : acc.length ≤ 800000000000) :
    callK prog 62 [vp ⟨b, 0⟩] h (RWend c h0 b (acc ++ remEv c t L ws) (dr L 1 ws)) := by
  have hn := o.nats; have sl := sl_len o ws 1
  refine c62 ⟨b, 0⟩ ?_
  unfold G62
  refine rw_acc o r hw rfl (by omega) hws (by omega) fun h1 r1 => ⟨rfl, ?_⟩
  obtain ⟨s, w, r1⟩ := r1
  refine ⟨s, rd1 r1.cell rfl, rdI r1.cell rfl ?_⟩
  have rr := ref_writes 1 c.P (by omega) h1
  rw [hn.2.1] at rr
  refine rr.mono ?_
  rintro _ h2 ⟨y, rfl, oy, k2⟩
  have r2 := r1.mv k2
  refine ⟨_, rfl, ⟨rd1 r2.cell rfl, trivial⟩, r2.app oy.rd (by rw [List.length_append, writes_length]; omega) fun h3 r3 => ⟨rfl, ?_⟩⟩
  rw [List.append_assoc] at r3; exact r3
theorem rw_op (o : c.Ok t L) (r : RW c h0 b acc ws h) (hw : WaysOk (t + 2) L ws) (hws : (5 + 2 * c.K) * L ≤ ws.length) (hl : acc.length ≤ 600000000000) :
    callK prog 33 [vp ⟨b, 0⟩] h (RWend c h0 b (acc ++ opEv c t L ws) (dr L (5 + 2 * c.K) ws)) := by
  have hn := o.nats; have hL := o.L
  refine c33 ⟨b, 0⟩ ?_
  unfold G33
  have e5 : (5 + 2 * c.K) * L = 5 * L + (2 * c.K) * L := Nat.add_mul _ _ _
  have e3 : (3 + 2 * c.K) * L = 3 * L + (2 * c.K) * L := Nat.add_mul _ _ _
  have e3k : (3 + c.K) * L = 3 * L + c.K * L := Nat.add_mul _ _ _
  have e2k : (2 * c.K) * L = c.K * L + c.K * L := by rw [Nat.mul_assoc]; omega
  have e4 : (4 + 2 * c.K) * L = 4 * L + (2 * c.K) * L := Nat.add_mul _ _ _
  have l1 := find_len o ws; have l2 := sl_len o (dr L 2 ws) 1; have l3 := sl_len o (dr L 3 ws) c.K; have l3' := sl_len o (dr L (3 + c.K) ws) c.K; have l4 := rem_len o (dr L (3 + 2 * c.K) ws); have l5 := sl_len o (dr L (4 + 2 * c.K) ws) 1
  have wk := fun k => WaysOk.dr hw k
  refine (rw_look r 0 0 false (by omega)).mono ?_
  rintro _ h1 ⟨rfl, r1⟩
  refine ⟨rfl, (rw_find o r1 hw (by omega) (by simp only [List.length_append, List.length_cons, List.length_nil]; omega)).mono ?_⟩
  rintro _ h2 ⟨rfl, r2⟩
  refine ⟨rfl, rw_acc o r2 (wk 2) (n := 1) rfl (by omega) (by rw [dr_length]; omega) (by simp only [List.length_append, List.length_cons, List.length_nil]; omega) fun h3 r3 => ⟨rfl, ?_⟩⟩
  rw [dr_dr, show 2 + 1 = 3 from rfl] at r3
  have e3c : ∃ s w, h3 b = some (wkC c s w) := by obtain ⟨s, w, r⟩ := r3; exact ⟨s, w, r.cell⟩
  obtain ⟨_, _, e3c⟩ := e3c
  refine rdI e3c rfl ?_
  refine rw_acc o r3 (wk 3) hn.1.symm (by omega) (by rw [dr_length]; omega) (by simp only [List.length_append, List.length_cons, List.length_nil]; omega) fun h4 r4 => ⟨rfl, ?_⟩
  rw [dr_dr] at r4
  obtain ⟨s4, w4, r4⟩ := r4
  refine ⟨s4, rd1 r4.cell rfl, rdI r4.cell rfl ?_⟩
  have rr := ref_reads 1 c.P (by omega) h4
  rw [hn.2.1] at rr
  refine rr.mono ?_
  rintro _ h5 ⟨y5, rfl, o5, k5⟩
  have r5 := r4.mv k5
  refine ⟨_, rfl, ⟨rd1 r5.cell rfl, trivial⟩, r5.app o5.rd (by simp only [List.length_append, List.length_cons, List.length_nil, reads_length]; omega) fun h6 r6 => ?_⟩
  obtain ⟨s6, w6, r6⟩ := r6
  refine ⟨s6, rd1 r6.cell rfl, rdI r6.cell rfl ?_⟩
  have rr := ref_writes 1 c.P (by omega) h6
  rw [hn.2.1] at rr
  refine rr.mono ?_
  rintro _ h7 ⟨y7, rfl, o7, k7⟩
  have r7 := r6.mv k7
  refine ⟨_, rfl, ⟨rd1 r7.cell rfl, trivial⟩, r7.app o7.rd (by simp only [List.length_append, List.length_cons, List.length_nil, reads_length, writes_length]; omega) fun h8 r8 => ?_⟩
  have e8c : ∃ s w, h8 b = some (wkC c s w) := by obtain ⟨s, w, r⟩ := r8; exact ⟨s, w, r.cell⟩
  obtain ⟨_, _, e8c⟩ := e8c
  refine rdI e8c rfl ?_
  refine rw_acc o r8 (wk (3 + c.K)) hn.1.symm (by omega) (by rw [dr_length]; omega) (by simp only [List.length_append, List.length_cons, List.length_nil, reads_length, writes_length]; omega) fun h9 r9 => ⟨rfl, ?_⟩
  rw [dr_dr, show 3 + c.K + c.K = 3 + 2 * c.K by omega] at r9
  refine (rw_remove o r9 (wk (3 + 2 * c.K)) (by rw [dr_length]; omega) (by simp only [List.length_append, List.length_cons, List.length_nil, reads_length, writes_length]; omega)).mono ?_
  rintro _ h10 ⟨rfl, r10⟩
  rw [dr_dr, show 3 + 2 * c.K + 1 = 4 + 2 * c.K by omega] at r10
  refine ⟨rfl, rw_acc o r10 (wk (4 + 2 * c.K)) (n := 1) rfl (by omega) (by rw [dr_length]; omega) (by simp only [List.length_append, List.length_cons, List.length_nil, reads_length, writes_length]; omega) fun h11 r11 => ⟨rfl, ?_⟩⟩
  rw [dr_dr, show 4 + 2 * c.K + 1 = 5 + 2 * c.K by omega] at r11
  refine (rw_look r11 0 0 true (by simp only [List.length_append, List.length_cons, List.length_nil, reads_length, writes_length]; omega)).mono ?_
  rintro _ h12 ⟨rfl, r12⟩
  refine ⟨rfl, rfl, ?_⟩
  have e : dr L c.K (dr L 3 ws) = dr L (3 + c.K) ws := dr_dr _ _ _ _
  simpa [opEv, putEv, List.append_assoc, e] using r12
theorem rw_pass (o : c.Ok t L) (r : RW c h0 b acc ws h) (hw : WaysOk (t + 2) L ws) (hws : (c.C + 4 * c.B) * L ≤ ws.length) (hl : acc.length ≤ 600000000000) :
    callK prog 34 [vp ⟨b, 0⟩] h (RWend c h0 b (acc ++ passEv c t L ws) (dr L (c.C + 4 * c.B) ws)) := by
  have hn := o.nats; have hL := o.L; have hr := roundE_C o
  have hcap := o.cap; have hbat := o.bat
  have wk := fun k => WaysOk.dr hw k
  have cel : ∀ {acc' ws' h'}, RW c h0 b acc' ws' h' → ∃ s w, h' b = some (wkC c s w) := fun r => by obtain ⟨s, w, r⟩ := r; exact ⟨s, w, r.cell⟩
  refine c34 ⟨b, 0⟩ ?_
  unfold G34
  obtain ⟨_, _, ec⟩ := cel r
  refine rdI ec rfl (rdI ec rfl ?_)
  rw [w64_id (n := c.cap + c.bat) (by omega) (by omega)]
  refine (ref_round (n := c.cap + c.bat) (by omega)).to fun h1 k1 => ⟨_, rfl, ?_⟩
  have r1 : RW c h0 b acc ws h1 := by obtain ⟨s, w, r⟩ := r; exact ⟨s, w, r.mv k1⟩
  have eC : (c.C + 4 * c.B) * L = c.C * L + (4 * c.B) * L := Nat.add_mul _ _ _
  refine (rw_look r1 0 0 false (by omega)).mono ?_
  rintro _ h3 ⟨rfl, r3⟩
  refine ⟨rfl, ?_⟩
  rw [roundI_E]
  generalize hE : roundE (c.cap + c.bat) = E at hr
  obtain ⟨hr1, hr2, hr3, hr4⟩ := hr
  refine ⟨fun q n4 i h4 m => q = ⟨b, 0⟩ ∧ n4 = 2 ^ E ∧ ∃ u : Nat, i = u ∧ u ≤ 2 ^ E ∧ RW c h0 b (acc ++ [⟨0, 0, false⟩] ++ tabEv c t L ws u) (dr L (min u c.C) ws) h4 ∧ m = 2 ^ E - u,
    ⟨_, rfl, rfl, 0, rfl, Nat.zero_le _, by simpa [tabEv, dr_zero] using r3, rfl⟩, ?_⟩
  rintro q n4 i h4 m ⟨rfl, hn4, u, rfl, hu, r4, rfl⟩
  have tl := tab_len o ws u
  obtain ⟨_, _, e4⟩ := cel r4
  refine ifD (fun hlt => ?_) fun hge => ?_
  · have nx : ∀ {h5}, RW c h0 b (acc ++ [⟨0, 0, false⟩] ++ tabEv c t L ws (u + 1)) (dr L (min (u + 1) c.C) ws) h5 → ∃ k3, k3 < 2 ^ E - u ∧ (⟨b, 0⟩ : Pt) = ⟨b, 0⟩ ∧ n4 = 2 ^ E ∧ ∃ u' : Nat, w64 ((u : Int) + 1) = u' ∧ u' ≤ 2 ^ E ∧ RW c h0 b (acc ++ [⟨0, 0, false⟩] ++ tabEv c t L ws u') (dr L (min u' c.C) ws) h5 ∧ k3 = 2 ^ E - u' :=
      fun g1 => ⟨_, by omega, rfl, hn4, u + 1, w64_id (by omega) (by omega), by omega, g1, rfl⟩
    refine rdI e4 rfl (rdI e4 rfl ?_)
    rw [w64_id (n := c.cap + c.bat) (by omega) (by omega)]
    refine ifD (fun hin => ?_) fun hout => ?_
    · have huC : u < c.C := by omega
      rw [show min u c.C = u by omega] at r4
      have huL : u * L + L ≤ c.C * L := by
        have := Nat.mul_le_mul_right L (show u + 1 ≤ c.C by omega)
        rwa [Nat.succ_mul] at this
      have sl := sl_len o (dr L u ws) 1
      refine rw_acc o r4 (wk u) (n := 1) rfl (by omega) (by rw [dr_length]; omega) (by simp only [List.length_append, List.length_cons, List.length_nil]; omega) fun h5 r5 => ⟨rfl, ?_⟩
      rw [dr_dr] at r5
      refine (rw_look r5 2 u true (by simp only [List.length_append, List.length_cons, List.length_nil]; omega)).mono ?_
      rintro _ h6 ⟨rfl, r6⟩
      refine ⟨rfl, nx ?_⟩
      rw [tabEv_succ, if_pos huC, show min (u + 1) c.C = u + 1 by omega]
      simpa [List.append_assoc] using r6
    · have huC : ¬ u < c.C := by omega
      refine (rw_look r4 2 u true (by simp only [List.length_append, List.length_cons, List.length_nil]; omega)).mono ?_
      rintro _ h6 ⟨rfl, r6⟩
      refine ⟨rfl, nx ?_⟩
      rw [tabEv_succ, if_neg huC, show min (u + 1) c.C = min u c.C by omega]
      simpa [List.append_assoc] using r6
  · have : u = 2 ^ E := by omega
    subst this
    rw [show min (2 ^ E) c.C = c.C by omega] at r4
    have so : (sortEv 2 E).length = 4 * (pairsL E).length := sort4_length _ _
    have sp := pairsL_length (K := E) (by omega)
    obtain ⟨s4, w4, r4⟩ := r4
    rw [hn4]
    refine ⟨s4, rd1 r4.cell rfl, (ref_sort 2 (K := E) (by omega) h4).mono ?_⟩
    rintro _ h5 ⟨x, rfl, ox, k5⟩
    have r5 := r4.mv k5
    refine ⟨_, rfl, ⟨rd1 r5.cell rfl, trivial⟩, r5.app ox.rd (by simp only [List.length_append, List.length_cons, List.length_nil]; omega) fun h6 r6 => ?_⟩
    let bs : List Ev := acc ++ [⟨0, 0, false⟩] ++ tabEv c t L ws (2 ^ E) ++ sortEv 2 E
    have bl : bs.length ≤ 700000000000 := by
      show (acc ++ [(⟨0, 0, false⟩ : Ev)] ++ tabEv c t L ws (2 ^ E) ++ sortEv 2 E).length ≤ _
      simp only [List.length_append, List.length_cons, List.length_nil]; omega
    refine ⟨fun q i h7 m => q = ⟨b, 0⟩ ∧ ∃ u : Nat, i = u ∧ u ≤ c.B ∧ RW c h0 b (bs ++ goEv c t L (dr L c.C ws) u) (dr L (c.C + 4 * u) ws) h7 ∧ m = c.B - u,
      ⟨_, rfl, 0, rfl, Nat.zero_le _, by simpa [goEv, bs] using r6, rfl⟩, ?_⟩
    rintro q i h7 m ⟨rfl, u, rfl, hu, r7, rfl⟩
    have gl := go_len o (dr L c.C ws) u
    obtain ⟨_, _, e7⟩ := cel r7
    refine rdI e7 rfl (ifD (fun hlt2 => ?_) fun hge2 => ?_)
    · have huL : (c.C + 4 * u) * L + 4 * L ≤ (c.C + 4 * c.B) * L := by
        have := Nat.mul_le_mul_right L (show c.C + 4 * u + 4 ≤ c.C + 4 * c.B by omega)
        rwa [Nat.add_mul] at this
      refine (rw_look r7 2 u false (by simp only [List.length_append, List.length_cons, List.length_nil]; omega)).mono ?_
      rintro _ h8 ⟨rfl, r8⟩
      refine ⟨rfl, (rw_find o r8 (wk _) (by rw [dr_length]; omega) (by simp only [List.length_append, List.length_cons, List.length_nil]; omega)).mono ?_⟩
      rintro _ h9 ⟨rfl, r9⟩
      rw [dr_dr] at r9
      have q2 : (c.C + 4 * u + 2) * L = (c.C + 4 * u) * L + 2 * L := Nat.add_mul _ _ _
      have q3 : (c.C + 4 * u + 2 + 1) * L = (c.C + 4 * u) * L + 3 * L := Nat.add_mul _ 3 _
      have l1' := find_len o (dr L (c.C + 4 * u) ws); have l2' := rem_len o (dr L (c.C + 4 * u + 2) ws)
      refine ⟨rfl, (rw_remove o r9 (wk _) (by rw [dr_length]; omega) (by simp only [List.length_append, List.length_cons, List.length_nil]; omega)).mono ?_⟩
      rintro _ h10 ⟨rfl, r10⟩
      rw [dr_dr] at r10
      refine ⟨rfl, rw_acc o r10 (wk _) (n := 1) rfl (by omega) (by rw [dr_length]; omega) (by simp only [List.length_append, List.length_cons, List.length_nil]; omega) fun h11 r11 => ?_⟩
      rw [dr_dr] at r11
      refine ⟨rfl, _, ?_, rfl, u + 1, w64_id (by omega) (by omega), by omega, ?_, rfl⟩
      · omega
      rw [goEv_succ, dr_dr, dr_dr, dr_dr, show c.C + 4 * (u + 1) = c.C + 4 * u + 2 + 1 + 1 by omega]
      simpa [List.append_assoc, Nat.add_assoc] using r11
    · have : u = c.B := by omega
      subst this
      refine (rw_look r7 0 0 true (by simp only [List.length_append, List.length_cons, List.length_nil]; omega)).mono ?_
      rintro _ h8 ⟨rfl, r8⟩
      refine ⟨rfl, rfl, ?_⟩
      simpa [passEv, bs, hE, List.append_assoc] using r8
theorem ref_accesses (o : c.Ok t L) : PureC prog 27 [c.v] (.tuple #[.int .i64 (2 * c.kic + 5), .int .i64 (c.cap + 5 * c.bat)]) := by
  intro h
  have := o.cap; have := o.bat; have := o.kic
  refine c27 _ _ _ _ _ _ _ _ _ ?_
  unfold G27
  refine newC fun b1 h1 f1 e1 k1 => rd9 e1 ?_
  refine (ref_cright o).to fun h2 k2 => ⟨_, rfl, ifB_neg rfl ?_⟩
  have e2 := k2.get e1
  refine rdI e2 rfl (rdI e2 rfl (rdI e2 rfl ⟨?_, k1.trans k2⟩))
  rw [w64_id (n := 2 * c.kic) (by omega) (by omega), w64_id (n := 2 * c.kic + 5) (by omega) (by omega), w64_id (n := 5 * c.bat) (by omega) (by omega), w64_id (n := c.cap + 5 * c.bat) (by omega) (by omega)]
theorem ref_ways (o : c.Ok t L) (n : Int) : PureC prog 10 [c.v, .int .i64 n] (.int .i64 (waysI c n)) := by
  intro h
  have h1 := o.cap; have h2 := o.bat; have h3 := o.kic; have h4 := o.lev; have h5 := o.L
  refine c10 _ _ _ _ _ _ _ _ _ n ?_
  unfold G10
  refine newC fun b1 h1 f1 e1 k1 => rd9 e1 ?_
  refine (ref_cright o).to fun h2 k2 => ⟨_, rfl, ifB_neg rfl (rd9 (k2.get e1) ?_)⟩
  refine (ref_accesses o).to fun h3 k3 => ⟨_, _, rfl, ?_⟩
  have e3 := (k2.trans k3).get e1
  refine rdI e3 rfl (rdI e3 rfl ⟨by omega, ?_, (k1.trans k2).trans k3⟩)
  unfold waysI
  generalize hx : max 0 (min n 4096) = x
  have hx0 : 0 ≤ x ∧ x ≤ 4096 := by omega
  have hd := tdiv_bds hx0.1 (show 1 ≤ c.bat by omega)
  have m1 := mul_nn hx0.1 hx0.2 (c := 2 * c.kic + 5) (d := 37) (by omega) (by omega)
  have m2 := mul_nn hd.1 (show x.tdiv c.bat ≤ 4096 by omega) (c := c.cap + 5 * c.bat) (d := 144) (by omega) (by omega)
  have m3 := mul_nn (a := c.lev) (b := 4) (by omega) (by omega) (c := x * (2 * c.kic + 5) + x.tdiv c.bat * (c.cap + 5 * c.bat)) (d := 4096 * 37 + 4096 * 144) (by omega) (by omega)
  rw [w64_id (n := x * (2 * c.kic + 5)) (by omega) (by omega), w64_id (n := x.tdiv c.bat) (by omega) (by omega), w64_id (n := x.tdiv c.bat * (c.cap + 5 * c.bat)) (by omega) (by omega), w64_id (n := x * (2 * c.kic + 5) + x.tdiv c.bat * (c.cap + 5 * c.bat)) (by omega) (by omega), w64_id (by omega) (by omega)]

/-! ## all looks -/
open Classical in
noncomputable def trSpec (c : Cfg) (t L : Nat) (many : Int) (ws : List Int) : List Ev :=
  if many < 0 then [] else if ¬ (ws.length : Int) = waysI c many then [] else if WaysOk (t + 2) L ws then trEv c t L ws many.toNat else []
theorem bad_at {m L : Nat} {ws : List Int} (h : ¬ WaysOk m L ws) : ∃ j, ∃ hj : j < ws.length, ¬ (0 ≤ ws[j] ∧ ws[j] < 2 ^ (m - 2 * (L - 1 - j % L))) := by
  refine Classical.byContradiction fun hn => h fun i hi => Classical.byContradiction fun hc => hn ⟨i, hi, hc⟩
theorem trSpec_len (o : c.Ok t L) {many : Int} (hm : many ≤ 4) (ws : List Int) : (trSpec c t L many ws).length ≤ 1200000000 * 4 := by
  unfold trSpec
  split
  · simp
  · split
    · simp
    · split
      · have := tr_len o ws many.toNat; omega
      · simp
theorem shape_trace_all (o : c.Ok t L) {many : Int} (hm : many ≤ 4) {h : Hp} {x : Sl} {ws : List Int} (r : RdS iv h x ws) :
    callK prog 17 [c.v, .int .i64 many, vs x] h fun v h' => ∃ s, v = vs s ∧ OwnM 3 evc h h' s (trSpec c t L many ws) ∧ Keep h h' := by
  by_cases h1 : many < 0
  · rw [trSpec, if_pos h1]
    refine c17 _ _ _ _ _ _ _ _ _ many x ?_
    unfold G17
    exact newC fun b1 h1' f1 e1 k1 => ifB_pos (decide_eq_true h1) ⟨_, rfl, OwnM.nilS _ _ _ _, k1⟩
  · obtain ⟨n, rfl⟩ := Int.eq_ofNat_of_zero_le (show 0 ≤ many by omega)
    have lx := r.len
    by_cases h2 : (ws.length : Int) = waysI c n
    · by_cases h3 : WaysOk (t + 2) L ws
      · rw [trSpec, if_neg h1, if_neg (by simpa using h2), if_pos h3]
        exact shape_trace o (n := n) (by omega) r (by rw [waysI_is o (by omega)] at h2; omega) h3
      · rw [trSpec, if_neg h1, if_neg (by simpa using h2), if_neg h3]
        have hL := o.L
        obtain ⟨j0, hj0, hbad⟩ := bad_at h3
        have hwl : ws.length ≤ 100000 := by
          rw [waysI_is o (by omega)] at h2
          have hN := o.nats
          have hus : usedN c n ≤ 4 * 37 + 4 * 144 := by
            unfold usedN
            exact Nat.add_le_add (Nat.mul_le_mul (by omega) (by omega)) (Nat.mul_le_mul (Nat.le_trans (Nat.div_le_self _ _) (by omega)) (by omega))
          have husL : usedN c n * L ≤ (4 * 37 + 4 * 144) * 4 := Nat.mul_le_mul hus hL.2
          omega
        refine c17 _ _ _ _ _ _ _ _ _ n x ?_
        unfold G17
        refine newC fun b1 h1' f1 e1 k1 => ifD (fun e => absurd e (by omega)) fun _ => ifB_neg (by simp; omega) (rd9 e1 ?_)
        refine (shape_right o).to fun h2' k2 => ⟨_, rfl, ifB_neg rfl (rd9 (k2.get e1) ?_)⟩
        refine (shape_ways o n).to fun h3' k3 => ⟨_, rfl, ifB_neg (by rw [← h2, lx]; simp) ?_⟩
        have k03 := (k1.trans k2).trans k3
        refine ⟨fun m s1 q s2 l i h4 k => m = n ∧ x = s1 ∧ q = ⟨b1, 0⟩ ∧ x = s2 ∧ l = x.len ∧ ∃ j : Nat, i = j ∧ j ≤ j0 ∧ Keep h3' h4 ∧ k = j0 - j, ⟨_, rfl, rfl, rfl, rfl, rfl, 0, rfl, Nat.zero_le _, Keep.refl _, rfl⟩, ?_⟩
        rintro m s1 q s2 l i h4 k ⟨rfl, rfl, rfl, rfl, rfl, j, rfl, hj, k4, rfl⟩
        have e4 := ((k2.trans k3).trans k4).get e1
        have k04 := k03.trans k4
        have r4 := r.keep k04
        refine ifD (fun hlt => ?_) fun hge => absurd hge (by omega)
        have hjl : j < ws.length := by omega
        refine r4.ix hjl fun q _ hc => ⟨_, hc, ifD (fun e => ⟨_, rfl, OwnM.nilS _ _ _ _, k04⟩) fun hnn => rd9 (b := b1) e4 ?_⟩
        refine (shape_leaves o j (by omega)).to fun h5 k5 => ⟨_, rfl, ifB_intro (fun _ => ⟨_, rfl, OwnM.nilS _ _ _ _, k04.trans k5⟩) fun hlt2 => ?_⟩
        have hlt3 : ws[j] < 2 ^ lfE t L j := Int.not_le.1 (of_decide_eq_false hlt2)
        have hjj : j ≠ j0 := fun e => by subst e; exact hbad ⟨by omega, hlt3⟩
        exact ⟨_, by omega, rfl, rfl, rfl, rfl, rfl, j + 1, w64_id (by omega) (by omega), by omega, k4.trans k5, rfl⟩
    · rw [trSpec, if_neg h1, if_pos h2]
      refine c17 _ _ _ _ _ _ _ _ _ n x ?_
      unfold G17
      refine newC fun b1 h1' f1 e1 k1 => ifD (fun e => absurd e (by omega)) fun _ => ifB_neg (by simp; omega) (rd9 e1 ?_)
      refine (shape_right o).to fun h2' k2 => ⟨_, rfl, ifB_neg rfl (rd9 (k2.get e1) ?_)⟩
      refine (shape_ways o n).to fun h3' k3 => ⟨_, rfl, ifB_pos (by rw [lx]; simp [h2]) ⟨_, rfl, OwnM.nilS _ _ _ _, (k1.trans k2).trans k3⟩⟩
theorem ref_trace (o : c.Ok t L) {many : Int} (hm : many ≤ 4) {h : Hp} {x : Sl} {ws : List Int} (r : RdS iv h x ws) :
    callK prog 18 [c.v, .int .i64 many, vs x] h fun v h' => ∃ s, v = vs s ∧ OwnM 3 evc h h' s (trSpec c t L many ws) ∧ Keep h h' := by
  have lx := r.len; have hL := o.L; have hN := o.nats; have hlev := o.lev
  refine c18 _ _ _ _ _ _ _ _ _ many x ?_
  unfold G18
  refine newC fun b1 h1 f1 e1 k1 => rd9 e1 ?_
  refine (ref_cright o).to fun h2 k2 => ⟨_, rfl, ifB_neg rfl (ifB_intro (fun hlt => ?_) fun hnn => ifB_neg (by simp; omega) (rd9 (k2.get e1) ?_))⟩
  · have := of_decide_eq_true (show decide (many < 0) = true from hlt)
    rw [trSpec, if_pos this]
    exact ⟨_, rfl, OwnM.nilS _ _ _ _, k1.trans k2⟩
  have hm0 : ¬ many < 0 := of_decide_eq_false (show decide (many < 0) = false from hnn)
  obtain ⟨n, rfl⟩ := Int.eq_ofNat_of_zero_le (show 0 ≤ many by omega)
  rw [trSpec, if_neg hm0]
  refine (ref_ways o n).to fun h3 k3 => ⟨_, rfl, ifB_intro (fun hne => ?_) fun heq => rd9 ((k2.trans k3).get e1) ?_⟩
  · have : ¬ (x.len : Int) = waysI c n := by
      have h1 : (!decide ((x.len : Int) = waysI c n)) = true := hne
      simpa using h1
    rw [if_pos (by rw [← lx]; exact this)]
    exact ⟨_, rfl, OwnM.nilS _ _ _ _, (k1.trans k2).trans k3⟩
  have hlen : (ws.length : Int) = waysI c n := by
    have h1 : (!decide ((x.len : Int) = waysI c n)) = false := heq
    rw [lx] at h1; simpa using h1
  rw [if_neg (by simpa using hlen)]
  have hln : ws.length = usedN c n * L := by rw [waysI_is o (by omega)] at hlen; omega
  have hus : usedN c n ≤ 4 * 37 + 4 * 144 := by
    unfold usedN
    exact Nat.add_le_add (Nat.mul_le_mul (by omega) (by omega)) (Nat.mul_le_mul (Nat.le_trans (Nat.div_le_self _ _) (by omega)) (by omega))
  have husL : usedN c n * L ≤ (4 * 37 + 4 * 144) * 4 := Nat.mul_le_mul hus hL.2
  refine (ref_store o).to fun h4 k4 => ⟨_, _, _, _, rfl, newC fun b2 h5 f5 e5 k5 => ?_⟩
  refine stW k5 f5 e5 rfl fun h6 k6 e6 _ => ?_
  have k06 : Keep h h6 := (k1.trans k2).trans (k3.trans (k4.trans k6))
  have e16 := (k2.trans (k3.trans (k4.trans k6))).get e1
  refine ⟨fun m s1 q1 q2 i h7 k => m = n ∧ x = s1 ∧ q1 = ⟨b1, 0⟩ ∧ q2 = ⟨b2, 0⟩ ∧ ∃ j : Nat, i = j ∧ j ≤ ws.length ∧ (∀ i (hi : i < ws.length), i < j → 0 ≤ ws[i] ∧ ws[i] < 2 ^ (t + 2 - 2 * (L - 1 - i % L))) ∧ Keep h6 h7 ∧ k = ws.length - j, ⟨_, rfl, rfl, rfl, rfl, 0, rfl, Nat.zero_le _, fun _ _ h => absurd h (by omega), Keep.refl _, rfl⟩, ?_⟩
  rintro m s1 q1 q2 i h7 k ⟨rfl, rfl, rfl, rfl, j, rfl, hj, hok, k7, rfl⟩
  have r7 := r.keep (k06.trans k7)
  have e17 := k7.get e16
  refine ifD (fun hlt => ?_) fun hge => ?_
  · have hjl : j < ws.length := by omega
    have hmL := Nat.mod_lt j (show L > 0 by omega)
    have bad : ¬ (0 ≤ ws[j] ∧ ws[j] < 2 ^ (t + 2 - 2 * (L - 1 - j % L))) → ¬ WaysOk (t + 2) L ws := fun hb hw => hb (hw j hjl)
    refine r7.ix hjl fun q3 _ hc => ⟨_, hc, ifD (fun hneg => ?_) fun hpos => ?_⟩
    · rw [if_neg (bad (by omega))]
      exact ⟨_, rfl, OwnM.nilS _ _ _ _, k06.trans k7⟩
    · refine r7.ix hjl fun q4 _ hc4 => ⟨_, hc4, ?_⟩
      refine rd4 (b := b2) (k7.get e6) (rdI e17 rfl (rdI e17 rfl ⟨by omega, ?_⟩))
      have ew : w64 (w64 (c.lev - 1) - (j : Int).tmod c.lev) = ((L - 1 - j % L : Nat) : Int) := by
        have et : (j : Int).tmod c.lev = ((j % L : Nat) : Int) := by rw [hlev]; rfl
        rw [et, hlev, w64_id (n := (L : Int) - 1) (by omega) (by omega), w64_id (by omega) (by omega)]; omega
      rw [ew]
      refine (ref_blocks o.st (L - 1 - j % L) (by omega)).to fun h8 k8 => ⟨_, rfl, ⟨by rw [hcell_same (k8 _ (hcell_some hc4))]; exact hc4, trivial⟩, ifB_intro (fun hle => ?_) fun hgt => ?_⟩
      · have := of_decide_eq_true (show decide ((2 : Int) ^ (t + 2 - 2 * (L - 1 - j % L)) ≤ ws[j]) = true from hle)
        rw [if_neg (bad (by omega))]
        exact ⟨_, rfl, OwnM.nilS _ _ _ _, (k06.trans k7).trans k8⟩
      · have h9 := of_decide_eq_false (show decide ((2 : Int) ^ (t + 2 - 2 * (L - 1 - j % L)) ≤ ws[j]) = false from hgt)
        refine ⟨_, ?_, rfl, rfl, rfl, rfl, j + 1, w64_id (by omega) (by omega), by omega, fun i hi hij => ?_, k7.trans k8, rfl⟩
        · omega
        by_cases e : i = j
        · subst e; exact ⟨by omega, by omega⟩
        · exact hok i hi (by omega)
  · have hw : WaysOk (t + 2) L ws := fun i hi => hok i hi (by omega)
    rw [if_pos hw, Int.toNat_natCast]
    refine rd9 (b := b1) e17 (newC fun b3 h9 f9 e9 k9 => ?_)
    have hbase : RW c h7 b3 (trEv c t L ws 0) (dr L (usedN c 0) ws) h9 := ⟨⟨none, 0, 0, none⟩, x, e9, OwnM.nilS _ _ _ _, fun p hp => (by cases hp), by
      have hz : dr L (usedN c 0) ws = ws := by simp [usedN, dr_zero]
      rw [hz]; exact r7, f9, k9⟩
    refine ⟨fun m q p i h10 k => m = n ∧ q = ⟨b1, 0⟩ ∧ p = some ⟨b3, 0⟩ ∧ ∃ u : Nat, i = ((u + 1 : Nat) : Int) ∧ u ≤ n ∧ RW c h7 b3 (trEv c t L ws u) (dr L (usedN c u) ws) h10 ∧ k = n - u, ⟨_, rfl, rfl, rfl, 0, rfl, Nat.zero_le _, hbase, rfl⟩, ?_⟩
    rintro m q p i h10 k ⟨rfl, rfl, rfl, u, rfl, hu, r10, rfl⟩
    have tl := tr_len o ws u
    refine ifD (fun hle => ?_) fun hgt => ?_
    · have hus := usedN_succ (c := c) u
      have hmono : usedN c (u + 1) ≤ usedN c n := by
        unfold usedN
        exact Nat.add_le_add (Nat.mul_le_mul_right _ (by omega)) (Nat.mul_le_mul_right _ (Nat.div_le_div_right (by omega)))
      have hmL := Nat.mul_le_mul_right L hmono
      have e51 : (usedN c u + (5 + 2 * c.K)) * L = usedN c u * L + (5 + 2 * c.K) * L := Nat.add_mul _ _ _
      have hle1 : (usedN c u + (5 + 2 * c.K)) * L ≤ usedN c (u + 1) * L := Nat.mul_le_mul_right L (by omega)
      refine (rw_op o r10 (WaysOk.dr hw _) (by rw [dr_length, hln]; omega) (by omega)).mono ?_
      rintro _ h11 ⟨rfl, r11⟩
      rw [dr_dr] at r11
      have ol := op_len o (dr L (usedN c u) ws)
      have e111 : h11 b1 = some (.cells #[.int .i64 c.cap, .int .i64 c.bat, .int .i64 c.kic, .int .i64 c.spi, .int .i64 c.tab, .int .i64 c.slo, .int .i64 c.sta, .int .i64 c.lev, .int .i64 c.pol] 28 (0, 0)) := by
        obtain ⟨_, _, r⟩ := r11; exact r.keep.get e17
      have em : (((u + 1 : Nat) : Int)).tmod c.bat = (((u + 1) % c.B : Nat) : Int) := by rw [← hN.2.2.1]; rfl
      refine ⟨rfl, rdI e111 rfl ⟨by omega, ?_⟩⟩
      rw [em]
      have nx : ∀ {h12}, RW c h7 b3 (trEv c t L ws (u + 1)) (dr L (usedN c (u + 1)) ws) h12 → ∃ k6, k6 < n - u ∧ (n : Int) = n ∧ (⟨b1, 0⟩ : Pt) = ⟨b1, 0⟩ ∧ some (⟨b3, 0⟩ : Pt) = some ⟨b3, 0⟩ ∧ ∃ u' : Nat, w64 (((u + 1 : Nat) : Int) + 1) = ((u' + 1 : Nat) : Int) ∧ u' ≤ n ∧ RW c h7 b3 (trEv c t L ws u') (dr L (usedN c u') ws) h12 ∧ k6 = n - u' :=
        fun g => ⟨_, by omega, rfl, rfl, rfl, u + 1, by rw [w64_id (by omega) (by omega)]; simp, by omega, g, rfl⟩
      refine ifD (fun hz => ?_) fun hz => ?_
      · have hz0 : (u + 1) % c.B = 0 := by omega
        rw [if_pos hz0] at hus
        have e52 : usedN c (u + 1) * L = (usedN c u + (5 + 2 * c.K)) * L + (c.C + 4 * c.B) * L := by rw [hus, Nat.add_mul]
        refine (rw_pass o r11 (WaysOk.dr hw _) (by rw [dr_length, hln]; omega) (by rw [List.length_append]; omega)).mono ?_
        rintro _ h12 ⟨rfl, r12⟩
        rw [dr_dr, ← hus] at r12
        exact ⟨rfl, nx (by rw [trEv, if_pos hz0]; exact r12)⟩
      · have hz0 : ¬ (u + 1) % c.B = 0 := by omega
        rw [if_neg hz0, Nat.add_zero (usedN c u + (5 + 2 * c.K))] at hus
        rw [← hus] at r11
        exact nx (by rw [trEv, if_neg hz0, List.append_nil]; exact r11)
    · have : u = n := by omega
      subst this
      obtain ⟨s, w, r⟩ := r10
      exact ⟨_, rfl, s, rd1 r.cell rfl, s, rfl, r.own.baseK (k06.trans k7), (k06.trans k7).trans r.keep⟩
end
end Go.Proofs.Tryz

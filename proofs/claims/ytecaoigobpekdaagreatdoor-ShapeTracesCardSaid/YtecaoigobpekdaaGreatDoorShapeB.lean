/- Chapter 20: all looks are within bounds; Shape. -/
import Derived.Test.YtecaoigobpekdaaGreatDoorShape
namespace Go.Proofs.Tryz
open Go Go.Sh Go.RowKit
set_option maxRecDepth 8000
set_option maxHeartbeats 2000000

def AllB (l : List Ev) : Prop := ∀ e ∈ l, EvB e
theorem AllB.app {a b : List Ev} (ha : AllB a) (hb : AllB b) : AllB (a ++ b) := fun e he => by
  rcases List.mem_append.1 he with h | h
  · exact ha e h
  · exact hb e h
theorem AllB.flat {α : Type} {l : List α} {f : α → List Ev} (hf : ∀ x ∈ l, AllB (f x)) : AllB (l.flatMap f) := fun e he => by
  obtain ⟨x, hx, h⟩ := List.mem_flatMap.1 he
  exact hf x hx e h
theorem AllB.nil : AllB [] := fun e he => by cases he
theorem AllB.one {e : Ev} (h : EvB e) : AllB [e] := fun x hx => by rw [List.mem_singleton.1 hx]; exact h
theorem allB_reads {reg : Int} (hr : 0 ≤ reg ∧ reg ≤ 100) {n : Nat} (hn : n ≤ 1000000) : AllB (reads reg n) := fun e he => by
  obtain ⟨i, hi, rfl⟩ := List.mem_map.1 he
  have := List.mem_range.1 hi
  exact ⟨hr.1, hr.2, by simp, by simp; omega⟩
theorem allB_writes {reg : Int} (hr : 0 ≤ reg ∧ reg ≤ 100) {n : Nat} (hn : n ≤ 1000000) : AllB (writes reg n) := AllB.flat fun i hi => by
  have := List.mem_range.1 hi
  exact AllB.app (AllB.one ⟨hr.1, hr.2, by simp, by simp; omega⟩) (AllB.one ⟨hr.1, hr.2, by simp, by simp; omega⟩)
def PrB (p : Pr) : Prop := 0 ≤ p.i ∧ p.i ≤ 4096 ∧ 0 ≤ p.j ∧ p.j ≤ 4096
theorem prB_i {k j n : Nat} (h : n + j ≤ 4096) : ∀ p ∈ ipairs k j n, PrB p := fun p hp => by
  obtain ⟨i, hi, rfl⟩ := List.mem_map.1 hp
  have := List.mem_range.1 (List.mem_filter.1 hi).1
  exact ⟨by simp, by simp; omega, by simp only; omega, by simp only; omega⟩
theorem prB_j {n a b : Nat} (hn : n ≤ 1024) (hb : b ≤ 11) : ∀ p ∈ jl n a b, PrB p := by
  induction b with
  | zero => intro p hp; cases hp
  | succ b ih =>
    intro p hp
    rcases List.mem_append.1 hp with h | h
    · have : 2 ^ b ≤ 2 ^ 10 := Nat.pow_le_pow_right (by decide) (by omega)
      exact prB_i (by simp at this; omega) p h
    · exact ih (by omega) p h
theorem prB_p {K : Nat} (hK : K ≤ 10) : ∀ p ∈ pairsL K, PrB p := fun p hp => by
  obtain ⟨a, ha, h⟩ := List.mem_flatMap.1 hp
  have := List.mem_range.1 ha
  have h2 : 2 ^ K ≤ 2 ^ 10 := Nat.pow_le_pow_right (by decide) hK
  exact prB_j h2 (by omega) p h
theorem allB_sort {reg : Int} (hr : 0 ≤ reg ∧ reg ≤ 100) {K : Nat} (hK : K ≤ 10) : AllB (sortEv reg K) := AllB.flat fun p hp => by
  obtain ⟨h1, h2, h3, h4⟩ := prB_p hK p hp
  intro e he
  simp only [sort4, List.mem_cons, List.not_mem_nil, or_false] at he
  rcases he with rfl | rfl | rfl | rfl
  · exact ⟨hr.1, hr.2, h1, by simp only; omega⟩
  · exact ⟨hr.1, hr.2, h3, by simp only; omega⟩
  · exact ⟨hr.1, hr.2, h1, by simp only; omega⟩
  · exact ⟨hr.1, hr.2, h3, by simp only; omega⟩
def SpB (x : Sp) : Prop := 0 ≤ x.r ∧ x.r ≤ 100 ∧ 0 ≤ x.a ∧ x.a ≤ 20000
theorem spB_spots {k : Nat} {s t : Int} (o : LevOk k s t) {first : Int} (hf : 0 ≤ first ∧ first ≤ 90) {leaf : Nat} (hl : leaf < 2 ^ k) : ∀ x ∈ spotsL k s t first leaf, SpB x := fun x hx => by
  have hs := o.s; have ht := o.t
  rcases List.mem_append.1 hx with h | h
  · obtain ⟨d, hd, h⟩ := List.mem_flatMap.1 h
    obtain ⟨i, hi, rfl⟩ := List.mem_map.1 h
    have h1 := List.mem_range.1 hd; have h2 := List.mem_range.1 hi
    have hn := nodeN_le o.k hl (show d ≤ k by omega)
    have hm : (0 : Int) ≤ (nodeN k leaf d : Int) * s ∧ (nodeN k leaf d : Int) * s ≤ 2047 * 8 := mul_nn (by omega) (by omega) (by omega) (by omega)
    exact ⟨hf.1, by simp only; omega, by simp only; omega, by simp only; omega⟩
  · obtain ⟨i, hi, rfl⟩ := List.mem_map.1 h
    have h2 := List.mem_range.1 hi
    exact ⟨by simp only; omega, by simp only; omega, by simp, by simp only; omega⟩
theorem allB_lev {k : Nat} {s t : Int} (o : LevOk k s t) {first : Int} (hf : 0 ≤ first ∧ first ≤ 90) {leaf : Nat} (hl : leaf < 2 ^ k) : AllB (levEv k s t first leaf) := by
  have hp := o.plcB
  have hE : roundE (plc k s t) ≤ 8 := roundE_le (by omega) (by simp; omega)
  have hT : 2 ^ roundE (plc k s t) ≤ 256 := Nat.pow_le_pow_right (n := 2) (by decide) hE
  have hsp := spB_spots o hf hl
  have hsl := spotsL_length o first leaf
  have hget : ∀ i, i < (spotsL k s t first leaf).length → SpB ((spotsL k s t first leaf).getD i ⟨0, 0⟩) := fun i hi => by
    rw [List.getD_eq_getElem?_getD, List.getElem?_eq_getElem hi]; exact hsp _ (List.getElem_mem hi)
  have ht : AllB (turnEv first (roundE (plc k s t))) := AllB.app (allB_writes (by omega) (by omega)) (allB_sort (by omega) (by omega))
  refine AllB.app (AllB.app (AllB.app (AllB.flat fun i hi => AllB.app ?_ ?_) ht) ht) (AllB.flat fun i hi => ?_)
  · split
    · rename_i h
      obtain ⟨a, b, c, d⟩ := hget i h
      exact AllB.one ⟨a, b, c, by simp only; omega⟩
    · exact AllB.nil
  · have := List.mem_range.1 hi
    exact AllB.one ⟨by simp only; omega, by simp only; omega, by simp, by simp only; omega⟩
  · have hi' := List.mem_range.1 hi
    obtain ⟨a, b, c, d⟩ := hget i hi'
    exact AllB.app (AllB.one ⟨by simp only; omega, by simp only; omega, by simp, by simp only; omega⟩) (AllB.one ⟨a, b, c, by simp only; omega⟩)
theorem allB_store {m : Nat} {s t : Int} {L : Nat} (o : StOk m s t L) {first : Int} (hf : 0 ≤ first ∧ first ≤ 10) {ws : List Int} (hw : WaysOk m L ws) {n : Nat} (hn : n * L ≤ ws.length) : AllB (storeEv m s t L first ws n) := AllB.flat fun c hc => by
  have hc' := List.mem_range.1 hc
  have ht := topN_le o; have hL := o.L
  refine AllB.app (AllB.app (allB_reads (by omega) (by omega)) (allB_writes (by omega) (by omega))) (AllB.flat fun i hi => ?_)
  have hi' := List.mem_range.1 hi
  have hlen : c * L + i < ws.length := by
    have := Nat.mul_le_mul_right L (show c + 1 ≤ n by omega)
    rw [Nat.succ_mul] at this; omega
  have hw' := hw (c * L + i) hlen
  have hmod : (c * L + i) % L = i := by rw [Nat.mul_comm, Nat.mul_add_mod, Nat.mod_eq_of_lt hi']
  rw [hmod] at hw'
  have hg : (ws.drop (c * L)).getD i 0 = ws[c * L + i] := by simp [List.getD_eq_getElem?_getD, hlen]
  rw [hg]
  have e : ((2 ^ (m - 2 * (L - 1 - i)) : Nat) : Int) = 2 ^ (m - 2 * (L - 1 - i)) := by simp
  exact allB_lev (o.lev _) (by omega) (by omega)
section
variable {c : Cfg} {t L : Nat}
theorem WaysOk.dr {m L : Nat} {ws : List Int} (w : WaysOk m L ws) (n : Nat) : WaysOk m L (dr L n ws) := w.drop n
theorem allB_s (o : c.Ok t L) {ws : List Int} (hw : WaysOk (t + 2) L ws) {k n : Nat} (hn : (k + n) * L ≤ ws.length) : AllB (sEv c t L (dr L k ws) n) :=
  allB_store o.st (by omega) (WaysOk.dr hw k) (by rw [dr_length]; rw [Nat.add_mul] at hn; omega)
theorem allB_find (o : c.Ok t L) {ws : List Int} (hw : WaysOk (t + 2) L ws) {k : Nat} (hn : (k + 2) * L ≤ ws.length) : AllB (findEv c t L (dr L k ws)) :=
  AllB.app (allB_s o hw hn) (allB_reads (by omega) (by have := o.nats; omega))
theorem allB_rem (o : c.Ok t L) {ws : List Int} (hw : WaysOk (t + 2) L ws) {k : Nat} (hn : (k + 1) * L ≤ ws.length) : AllB (remEv c t L (dr L k ws)) :=
  AllB.app (allB_s o hw hn) (allB_writes (by omega) (by have := o.nats; omega))
theorem allB_put (o : c.Ok t L) {ws : List Int} (hw : WaysOk (t + 2) L ws) {k : Nat} (hn : (k + 2 * c.K) * L ≤ ws.length) : AllB (putEv c t L (dr L k ws)) := by
  have hN := o.nats
  have h1 : (k + c.K) * L ≤ (k + 2 * c.K) * L := Nat.mul_le_mul_right L (by omega)
  refine AllB.app (AllB.app (AllB.app (allB_s o hw (by omega)) (allB_reads (by omega) (by omega))) (allB_writes (by omega) (by omega))) ?_
  rw [dr_dr]
  exact allB_s o hw (by rw [show k + c.K + c.K = k + 2 * c.K by omega]; exact hn)
theorem evB0 (w : Bool) : EvB ⟨0, 0, w⟩ := ⟨by simp, by simp, by simp, by simp⟩
theorem allB_op (o : c.Ok t L) {ws : List Int} (hw : WaysOk (t + 2) L ws) {k : Nat} (hn : (k + (5 + 2 * c.K)) * L ≤ ws.length) : AllB (opEv c t L (dr L k ws)) := by
  have mono : ∀ x, x ≤ k + (5 + 2 * c.K) → x * L ≤ ws.length := fun x hx => Nat.le_trans (Nat.mul_le_mul_right L hx) hn
  have a1 := allB_find o hw (k := k) (mono (k + 2) (by omega))
  have a2 := allB_s o hw (k := k + 2) (n := 1) (mono (k + 2 + 1) (by omega))
  have a3 := allB_put o hw (k := k + 3) (mono (k + 3 + 2 * c.K) (by omega))
  have a4 := allB_rem o hw (k := k + (3 + 2 * c.K)) (mono (k + (3 + 2 * c.K) + 1) (by omega))
  have a5 := allB_s o hw (k := k + (4 + 2 * c.K)) (n := 1) (mono (k + (4 + 2 * c.K) + 1) (by omega))
  unfold opEv
  rw [dr_dr, dr_dr, dr_dr, dr_dr]
  have b0 : AllB [(⟨0, 0, false⟩ : Ev)] := AllB.one (evB0 false)
  have b1 : AllB [(⟨0, 0, true⟩ : Ev)] := AllB.one (evB0 true)
  exact (((((b0.app a1).app a2).app a3).app a4).app a5).app b1
theorem allB_pass (o : c.Ok t L) {ws : List Int} (hw : WaysOk (t + 2) L ws) {k : Nat} (hn : (k + (c.C + 4 * c.B)) * L ≤ ws.length) : AllB (passEv c t L (dr L k ws)) := by
  have mono : ∀ x, x ≤ k + (c.C + 4 * c.B) → x * L ≤ ws.length := fun x hx => Nat.le_trans (Nat.mul_le_mul_right L hx) hn
  have hr := roundE_C o; have hN := o.nats
  have hs : AllB (sortEv 2 (roundE (c.cap + c.bat))) := allB_sort (reg := 2) (by omega) (by omega)
  have ht : AllB (tabEv c t L (dr L k ws) (2 ^ roundE (c.cap + c.bat))) := by
    unfold tabEv
    refine AllB.flat fun i hi => ?_
    have h1 := List.mem_range.1 hi
    have a0 : AllB [(⟨2, (i : Int), true⟩ : Ev)] := AllB.one ⟨(by decide : (0 : Int) ≤ 2), (by decide : (2 : Int) ≤ 100), (by omega : (0 : Int) ≤ (i : Int)), (by omega : (i : Int) ≤ 1000000)⟩
    refine AllB.app ?_ a0
    split
    · rw [dr_dr]; exact allB_s o hw (k := k + i) (n := 1) (mono (k + i + 1) (by omega))
    · exact AllB.nil
  have hg : AllB (goEv c t L (dr L c.C (dr L k ws)) c.B) := by
    unfold goEv
    refine AllB.flat fun j hj => ?_
    have h1 := List.mem_range.1 hj
    have a1 := allB_find o hw (k := k + c.C + 4 * j) (mono (k + c.C + 4 * j + 2) (by omega))
    have a2 := allB_rem o hw (k := k + c.C + (4 * j + 2)) (mono (k + c.C + (4 * j + 2) + 1) (by omega))
    have a3 := allB_s o hw (k := k + c.C + (4 * j + 3)) (n := 1) (mono (k + c.C + (4 * j + 3) + 1) (by omega))
    simp only [dr_dr]
    have a0 : AllB [(⟨2, (j : Int), false⟩ : Ev)] := AllB.one ⟨(by decide : (0 : Int) ≤ 2), (by decide : (2 : Int) ≤ 100), (by omega : (0 : Int) ≤ (j : Int)), (by omega : (j : Int) ≤ 1000000)⟩
    exact ((a0.app a1).app a2).app a3
  unfold passEv
  have b0 : AllB [(⟨0, 0, false⟩ : Ev)] := AllB.one (evB0 false)
  have b1 : AllB [(⟨0, 0, true⟩ : Ev)] := AllB.one (evB0 true)
  exact (((b0.app ht).app hs).app hg).app b1
theorem allB_tr (o : c.Ok t L) {ws : List Int} (hw : WaysOk (t + 2) L ws) : ∀ n, usedN c n * L ≤ ws.length → AllB (trEv c t L ws n) := fun n => by
  induction n with
  | zero => intro _; exact AllB.nil
  | succ n ih =>
    intro hn
    have hus := usedN_succ (c := c) n
    have h1 : (usedN c n + (5 + 2 * c.K)) * L ≤ usedN c (n + 1) * L := Nat.mul_le_mul_right L (by omega)
    have h0 : usedN c n * L ≤ usedN c (n + 1) * L := Nat.mul_le_mul_right L (by omega)
    refine AllB.app (AllB.app (ih (by omega)) (allB_op o hw (by omega))) ?_
    split
    · rename_i hz
      rw [if_pos hz] at hus
      exact allB_pass o hw (by rw [← hus]; exact hn)
    · exact AllB.nil

def zerosL (c : Cfg) (L n : Nat) : List Int := List.replicate (usedN c n * L) 0
theorem zeros_ok (m : Nat) (c : Cfg) (L n : Nat) : WaysOk m L (zerosL c L n) := fun i hi => by
  have : (zerosL c L n)[i] = 0 := by simp [zerosL]
  rw [this]
  have := pow_le_pow (Nat.zero_le (m - 2 * (L - 1 - i % L)))
  simp at this; omega
def shapeL (c : Cfg) (t L n : Nat) : List Ev := (trEv c t L (zerosL c L n) n).map (erE c)
theorem shape_shape (o : c.Ok t L) {n : Nat} (hn : n ≤ 100) (h : Hp) : callK prog 19 [c.v, .int .i64 n] h fun v h' => ∃ s, v = vs s ∧ OwnM 3 evc h h' s (shapeL c t L n) ∧ Keep h h' := by
  have hN := o.nats; have hL := o.L
  have hus : usedN c n ≤ 100 * 37 + 100 * 144 := by
    unfold usedN
    exact Nat.add_le_add (Nat.mul_le_mul hn (by omega)) (Nat.mul_le_mul (Nat.le_trans (Nat.div_le_self _ _) hn) (by omega))
  have husL : usedN c n * L ≤ (100 * 37 + 100 * 144) * 4 := Nat.mul_le_mul hus hL.2
  refine c19 _ _ _ _ _ _ _ _ _ n ?_
  unfold G19
  refine newC fun b1 h1 f1 e1 k1 => ifD (fun e => absurd e (by omega)) fun _ => ifB_neg (by simp; omega) (rd9 e1 (rd9 e1 (rd9 e1 ?_)))
  refine (shape_ways o n).to fun h2 k2 => ⟨_, rfl, ?_⟩
  have e2 := k2.get e1
  refine ⟨⟨rd1 e2 rfl, rd1 e2 rfl, rd1 e2 rfl, rd1 e2 rfl, rd1 e2 rfl, rd1 e2 rfl, rd1 e2 rfl, rd1 e2 rfl, rd1 e2 rfl, trivial⟩, ⟨rd1 e2 rfl, rd1 e2 rfl, rd1 e2 rfl, rd1 e2 rfl, rd1 e2 rfl, rd1 e2 rfl, rd1 e2 rfl, rd1 e2 rfl, rd1 e2 rfl, trivial⟩, ?_⟩
  rw [waysI_is o (by omega)]
  refine ⟨by omega, by omega, by omega, by omega, newC fun b2 h3 f3 e3 k3 => ?_⟩
  simp only [Int.toNat_natCast] at e3 ⊢
  have oz : OwnS iv h2 h3 ⟨some ⟨b2, 0⟩, usedN c n * L, usedN c n * L, none⟩ (zerosL c L n) := by
    refine OwnS.newE f3 e3 ?_ (by simp [zerosL])
    have := zRow_one (v := Value.int .i64 0) (usedN c n * L) (usedN c n * L) rfl
    simp only [Nat.mul_one]
    refine this.trans ?_
    simp [zerosL, iv]
  refine (shape_trace o hn oz.rd (by simp [zerosL]) (zeros_ok _ _ _ _)).mono ?_
  rintro _ h4 ⟨s, rfl, os, k4⟩
  have e4 := (k3.trans k4).get e2
  refine ⟨_, rfl, ⟨rd1 e4 rfl, rd1 e4 rfl, rd1 e4 rfl, rd1 e4 rfl, rd1 e4 rfl, rd1 e4 rfl, rd1 e4 rfl, rd1 e4 rfl, rd1 e4 rfl, trivial⟩, ?_⟩
  have tl := tr_len o (zerosL c L n) n
  refine (shape_erase o os.rd (by omega) (allB_tr o (zeros_ok _ _ _ _) n (by simp [zerosL]))).mono ?_
  rintro _ h5 ⟨s', rfl, os', k5⟩
  have kk := (k1.trans k2).trans (k3.trans k4)
  exact ⟨_, rfl, s', rfl, os'.baseK kk, kk.trans k5⟩
end
end Go.Proofs.Tryz

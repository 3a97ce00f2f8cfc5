/- Chapter 20: all looks are within the regions. -/
import Derived.Test.YtecaoigobpekdaaGreatDoorErased
import Derived.Test.YtecaoigobpekdaaGreatDoorMade
namespace Go.Proofs.Tryz
open Go Go.Sh Go.RowKit
set_option maxRecDepth 8000
set_option maxHeartbeats 2000000

def AllP (P : Ev → Prop) (l : List Ev) : Prop := ∀ e ∈ l, P e
section
variable {P : Ev → Prop}
theorem AllP.app {a b : List Ev} (ha : AllP P a) (hb : AllP P b) : AllP P (a ++ b) := fun e he => by
  rcases List.mem_append.1 he with h | h
  · exact ha e h
  · exact hb e h
theorem AllP.flat {α : Type} {l : List α} {f : α → List Ev} (hf : ∀ x ∈ l, AllP P (f x)) : AllP P (l.flatMap f) := fun e he => by
  obtain ⟨x, hx, h⟩ := List.mem_flatMap.1 he
  exact hf x hx e h
theorem AllP.nil : AllP P [] := fun e he => by cases he
theorem AllP.one {e : Ev} (h : P e) : AllP P [e] := fun x hx => by rw [List.mem_singleton.1 hx]; exact h
theorem AllP.mono {P' : Ev → Prop} {l : List Ev} (h : AllP P l) (hp : ∀ e, P e → P' e) : AllP P' l := fun e he => hp e (h e he)
theorem allP_reads {reg : Int} {n : Nat} (h : ∀ i w, i < n → P ⟨reg, (i : Nat), w⟩) : AllP P (reads reg n) := fun e he => by
  obtain ⟨i, hi, rfl⟩ := List.mem_map.1 he
  exact h i false (List.mem_range.1 hi)
theorem allP_writes {reg : Int} {n : Nat} (h : ∀ i w, i < n → P ⟨reg, (i : Nat), w⟩) : AllP P (writes reg n) := AllP.flat fun i hi =>
  (AllP.one (h i false (List.mem_range.1 hi))).app (AllP.one (h i true (List.mem_range.1 hi)))
theorem pair_in {K b i : Nat} (hb : b < K) (hi : i < 2 ^ K) (he : i / 2 ^ b % 2 = 0) : i + 2 ^ b < 2 ^ K := by
  obtain ⟨d, rfl⟩ : ∃ d, K = b + (d + 1) := ⟨K - b - 1, by omega⟩
  rw [Nat.pow_add] at hi ⊢
  have hp : 0 < 2 ^ b := Nat.pow_pos (by decide)
  have hq : i / 2 ^ b < 2 ^ (d + 1) := by rw [Nat.div_lt_iff_lt_mul hp, Nat.mul_comm]; exact hi
  have hm := Nat.div_add_mod i (2 ^ b)
  have hr := Nat.mod_lt i hp
  rw [Nat.pow_succ] at hq ⊢
  have h2 : i / 2 ^ b + 2 ≤ 2 ^ d * 2 := by omega
  have h3 := Nat.mul_le_mul_left (2 ^ b) h2
  rw [Nat.mul_add] at h3
  omega
def PrIn (K : Nat) (p : Pr) : Prop := ∃ i j : Nat, p.i = i ∧ p.j = j ∧ i < 2 ^ K ∧ j < 2 ^ K
theorem prIn_i {K k b : Nat} (hb : b < K) : ∀ p ∈ ipairs k (2 ^ b) (2 ^ K), PrIn K p := fun p hp => by
  obtain ⟨i, hi, rfl⟩ := List.mem_map.1 hp
  have h1 := List.mem_filter.1 hi
  have h2 := List.mem_range.1 h1.1
  exact ⟨i, i + 2 ^ b, rfl, rfl, h2, pair_in hb h2 (of_decide_eq_true h1.2)⟩
theorem prIn_j {K a b : Nat} (hb : b ≤ K) : ∀ p ∈ jl (2 ^ K) a b, PrIn K p := by
  induction b with
  | zero => intro p hp; cases hp
  | succ b ih =>
    intro p hp
    rcases List.mem_append.1 hp with h | h
    · exact prIn_i (by omega) p h
    · exact ih (by omega) p h
theorem prIn_p {K : Nat} : ∀ p ∈ pairsL K, PrIn K p := fun p hp => by
  obtain ⟨a, ha, h⟩ := List.mem_flatMap.1 hp
  have := List.mem_range.1 ha
  exact prIn_j (by omega) p h
theorem allP_sort {reg : Int} {K : Nat} (h : ∀ i w, i < 2 ^ K → P ⟨reg, (i : Nat), w⟩) : AllP P (sortEv reg K) := AllP.flat fun p hp => by
  obtain ⟨i, j, h1, h2, h3, h4⟩ := prIn_p p hp
  intro e he
  simp only [sort4, List.mem_cons, List.not_mem_nil, or_false] at he
  rw [h1, h2] at he
  rcases he with rfl | rfl | rfl | rfl
  · exact h i _ h3
  · exact h j _ h4
  · exact h i _ h3
  · exact h j _ h4
end
/-- a level's looks -/
def LevIn (k : Nat) (s t first : Int) (e : Ev) : Prop := (e.r = first ∧ 0 ≤ e.a ∧ e.a < s * (2 * 2 ^ k - 1)) ∨ (e.r = first + 1 ∧ 0 ≤ e.a ∧ e.a < t) ∨ (e.r = first + 2 ∧ 0 ≤ e.a ∧ e.a < tbl k s t)
theorem spots_in {k : Nat} {s t : Int} (o : LevOk k s t) (first : Int) {leaf : Nat} (hl : leaf < 2 ^ k) (w : Bool) : ∀ x ∈ spotsL k s t first leaf, LevIn k s t first ⟨x.r, x.a, w⟩ := fun x hx => by
  have hs := o.s; have ht := o.t
  rcases List.mem_append.1 hx with h | h
  · obtain ⟨d, hd, h⟩ := List.mem_flatMap.1 h
    obtain ⟨i, hi, rfl⟩ := List.mem_map.1 h
    have h1 := List.mem_range.1 hd; have h2 := List.mem_range.1 hi
    have hlt : leaf / 2 ^ (k - d) < 2 ^ d := by
      rw [Nat.div_lt_iff_lt_mul (Nat.pow_pos (by decide)), ← Nat.pow_add, show d + (k - d) = k by omega]; exact hl
    have hle : 2 ^ d ≤ 2 ^ k := Nat.pow_le_pow_right (by decide) (by omega)
    have hn : nodeN k leaf d + 1 ≤ 2 * 2 ^ k - 1 := by
      unfold nodeN
      generalize leaf / 2 ^ (k - d) = q at hlt ⊢
      generalize 2 ^ d = D at hlt hle ⊢
      generalize 2 ^ k = T at hle ⊢
      omega
    obtain ⟨s', rfl⟩ := Int.eq_ofNat_of_zero_le (show 0 ≤ s by omega)
    have hm := Nat.mul_le_mul_right s' hn
    rw [Nat.add_mul] at hm
    have e1 : (nodeN k leaf d : Int) * (s' : Int) + i = ((nodeN k leaf d * s' + i : Nat) : Int) := by simp
    have e2 : (s' : Int) * (2 * 2 ^ k - 1) = (((2 * 2 ^ k - 1) * s' : Nat) : Int) := by
      have hk : 1 ≤ 2 * 2 ^ k := by have : 0 < 2 ^ k := Nat.pow_pos (by decide); omega
      rw [Int.natCast_mul, Int.natCast_sub hk, Int.mul_comm]; simp
    exact .inl ⟨rfl, by simp only; rw [e1]; omega, by simp only; rw [e1, e2]; simp only [Int.toNat_natCast] at h2; omega⟩
  · obtain ⟨i, hi, rfl⟩ := List.mem_map.1 h
    have h2 := List.mem_range.1 hi
    exact .inr (.inl ⟨rfl, by simp, by simp only; omega⟩)
theorem lev_in {k : Nat} {s t : Int} (o : LevOk k s t) (first : Int) {leaf : Nat} (hl : leaf < 2 ^ k) : AllP (LevIn k s t first) (levEv k s t first leaf) := by
  have hsp := fun w => spots_in o first hl w
  have hT : ((2 ^ roundE (plc k s t) : Nat) : Int) = tbl k s t := by unfold tbl; rw [roundI_E]; simp
  have hi : ∀ (i : Nat) w, i < 2 ^ roundE (plc k s t) → LevIn k s t first ⟨first + 2, i, w⟩ := fun i w h => .inr (.inr ⟨rfl, by simp, by simp only; omega⟩)
  have hsl := spotsL_length o first leaf
  have h1 := le_roundI (n := plc k s t) (by have := o.plcB; omega)
  have h2 : tbl k s t = roundI (plc k s t) := rfl
  have htu : AllP (LevIn k s t first) (turnEv first (roundE (plc k s t))) := AllP.app (allP_writes hi) (allP_sort hi)
  refine AllP.app (AllP.app (AllP.app (fun e he => ?_) htu) htu) fun e he => ?_
  · rcases mem_fill he with ⟨i, h, rfl⟩ | ⟨x, hx, rfl⟩
    · exact hi i _ h
    · exact hsp _ x hx
  · rcases mem_back he with ⟨i, h, rfl⟩ | ⟨x, hx, rfl⟩
    · exact hi i _ (by omega)
    · exact hsp _ x hx
/-- a store's looks -/
def StIn (m : Nat) (s t : Int) (L : Nat) (first : Int) (e : Ev) : Prop := (e.r = first ∧ 0 ≤ e.a ∧ e.a < 2 ^ (m - 2 * (L - 1))) ∨ ∃ h : Nat, h < L ∧ LevIn (m - 2 * h) s t (first + 1 + 3 * (h : Int)) e
theorem acc_in {m : Nat} {s t : Int} {L : Nat} (o : StOk m s t L) (first : Int) {ws : List Int} (hw : WaysOk m L ws) (hlen : L ≤ ws.length) : AllP (StIn m s t L first) (accEv m s t L first ws) := by
  have ht := topN_le o
  have hi : ∀ (i : Nat) w, i < topN m L → StIn m s t L first ⟨first, i, w⟩ := fun i w h => .inl ⟨rfl, by simp, by simp only; omega⟩
  refine AllP.app (AllP.app (allP_reads hi) (allP_writes hi)) (AllP.flat fun i hi => ?_)
  have hi' := List.mem_range.1 hi
  have hwn := hw i (by omega)
  rw [Nat.mod_eq_of_lt hi'] at hwn
  have hg : ws.getD i 0 = ws[i]'(by omega) := by simp [List.getD_eq_getElem?_getD, show i < ws.length by omega]
  have e : ((2 ^ (m - 2 * (L - 1 - i)) : Nat) : Int) = 2 ^ (m - 2 * (L - 1 - i)) := by simp
  exact (lev_in (o.lev (L - 1 - i)) _ (by rw [hg]; omega)).mono fun e h => .inr ⟨L - 1 - i, by omega, h⟩
theorem store_in {m : Nat} {s t : Int} {L : Nat} (o : StOk m s t L) (first : Int) {ws : List Int} (hw : WaysOk m L ws) {n : Nat} (hlen : n * L ≤ ws.length) : AllP (StIn m s t L first) (storeEv m s t L first ws n) := AllP.flat fun c hc => by
  have hc' := List.mem_range.1 hc
  have := Nat.mul_le_mul_right L (show c + 1 ≤ n by omega)
  rw [Nat.succ_mul] at this
  exact acc_in o first (hw.drop c) (by rw [List.length_drop]; omega)
section
variable {c : Cfg} {t L : Nat} {P : Ev → Prop} {ws : List Int}
/-- what the looks of a run are made of -/
structure Parts (c : Cfg) (t L : Nat) (P : Ev → Prop) (ws : List Int) : Prop where
  e0 : ∀ w, P ⟨0, 0, w⟩
  s : ∀ k n, (k + n) * L ≤ ws.length → AllP P (sEv c t L (dr L k ws) n)
  i1 : ∀ i w, i < c.P → P ⟨1, (i : Nat), w⟩
  i2 : ∀ i w, i < 2 ^ roundE (c.cap + c.bat) → P ⟨2, (i : Nat), w⟩
theorem Parts.find (p : Parts c t L P ws) {k : Nat} (hn : (k + 2) * L ≤ ws.length) : AllP P (findEv c t L (dr L k ws)) := (p.s k 2 hn).app (allP_reads p.i1)
theorem Parts.rem (p : Parts c t L P ws) {k : Nat} (hn : (k + 1) * L ≤ ws.length) : AllP P (remEv c t L (dr L k ws)) := (p.s k 1 hn).app (allP_writes p.i1)
theorem Parts.put (p : Parts c t L P ws) {k : Nat} (hn : (k + 2 * c.K) * L ≤ ws.length) : AllP P (putEv c t L (dr L k ws)) := by
  have h1 : (k + c.K) * L ≤ (k + 2 * c.K) * L := Nat.mul_le_mul_right L (by omega)
  refine (((p.s k c.K (by omega)).app (allP_reads p.i1)).app (allP_writes p.i1)).app ?_
  rw [dr_dr]
  exact p.s (k + c.K) c.K (by rw [show k + c.K + c.K = k + 2 * c.K by omega]; exact hn)
theorem Parts.op (p : Parts c t L P ws) {k : Nat} (hn : (k + (5 + 2 * c.K)) * L ≤ ws.length) : AllP P (opEv c t L (dr L k ws)) := by
  have mono : ∀ x, x ≤ k + (5 + 2 * c.K) → x * L ≤ ws.length := fun x hx => Nat.le_trans (Nat.mul_le_mul_right L hx) hn
  have a1 := p.find (k := k) (mono (k + 2) (by omega))
  have a2 := p.s (k + 2) 1 (mono (k + 2 + 1) (by omega))
  have a3 := p.put (k := k + 3) (mono (k + 3 + 2 * c.K) (by omega))
  have a4 := p.rem (k := k + (3 + 2 * c.K)) (mono (k + (3 + 2 * c.K) + 1) (by omega))
  have a5 := p.s (k + (4 + 2 * c.K)) 1 (mono (k + (4 + 2 * c.K) + 1) (by omega))
  unfold opEv
  rw [dr_dr, dr_dr, dr_dr, dr_dr]
  exact ((((((AllP.one (p.e0 false)).app a1).app a2).app a3).app a4).app a5).app (AllP.one (p.e0 true))
theorem Parts.pass (o : c.Ok t L) (p : Parts c t L P ws) {k : Nat} (hn : (k + (c.C + 4 * c.B)) * L ≤ ws.length) : AllP P (passEv c t L (dr L k ws)) := by
  have mono : ∀ x, x ≤ k + (c.C + 4 * c.B) → x * L ≤ ws.length := fun x hx => Nat.le_trans (Nat.mul_le_mul_right L hx) hn
  have hr := roundE_C o; have hN := o.nats; have hcap := o.cap
  have ht : AllP P (tabEv c t L (dr L k ws) (2 ^ roundE (c.cap + c.bat))) := by
    unfold tabEv
    refine AllP.flat fun i hi => AllP.app ?_ (AllP.one (p.i2 i _ (List.mem_range.1 hi)))
    split
    · rw [dr_dr]; exact p.s (k + i) 1 (mono (k + i + 1) (by omega))
    · exact AllP.nil
  have hg : AllP P (goEv c t L (dr L c.C (dr L k ws)) c.B) := by
    unfold goEv
    refine AllP.flat fun j hj => ?_
    have h1 := List.mem_range.1 hj
    have a1 := p.find (k := k + c.C + 4 * j) (mono (k + c.C + 4 * j + 2) (by omega))
    have a2 := p.rem (k := k + c.C + (4 * j + 2)) (mono (k + c.C + (4 * j + 2) + 1) (by omega))
    have a3 := p.s (k + c.C + (4 * j + 3)) 1 (mono (k + c.C + (4 * j + 3) + 1) (by omega))
    simp only [dr_dr]
    exact (((AllP.one (p.i2 j _ (by omega))).app a1).app a2).app a3
  unfold passEv
  exact ((((AllP.one (p.e0 false)).app ht).app (allP_sort p.i2)).app hg).app (AllP.one (p.e0 true))
theorem Parts.tr (o : c.Ok t L) (p : Parts c t L P ws) : ∀ n, usedN c n * L ≤ ws.length → AllP P (trEv c t L ws n) := fun n => by
  induction n with
  | zero => intro _; exact AllP.nil
  | succ n ih =>
    intro hn
    have hus := usedN_succ (c := c) n
    have h1 : (usedN c n + (5 + 2 * c.K)) * L ≤ usedN c (n + 1) * L := Nat.mul_le_mul_right L (by omega)
    have h0 : usedN c n * L ≤ usedN c (n + 1) * L := Nat.mul_le_mul_right L (by omega)
    refine AllP.app (AllP.app (ih (by omega)) (p.op (by omega))) ?_
    split
    · rename_i hz
      rw [if_pos hz] at hus
      exact p.pass o (by rw [← hus]; exact hn)
    · exact AllP.nil
/-- how many cells all regions need -/
def allL (c : Cfg) (t L : Nat) : List Int := [1, c.spi, 2 ^ roundE (c.cap + c.bat)] ++ sizesL (t + 2) c.slo c.sta L L
theorem sizesL_lev (m : Nat) (s t : Int) (L n h i : Nat) (hn : h < n) (hi : i < 3) : (sizesL m s t L n)[1 + 3 * h + i]? = (levL m s t h)[i]? := by
  induction n with
  | zero => omega
  | succ n ih =>
    have hl := sizesL_length m s t L n
    rw [sizesL_succ]
    by_cases e : h = n
    · subst e
      rw [List.getElem?_append_right (by omega), show 1 + 3 * h + i - (sizesL m s t L h).length = i by omega]
    · rw [List.getElem?_append_left (by omega), ih (by omega)]
def InS (sz : List Int) (e : Ev) : Prop := ∃ i : Nat, e.r = i ∧ ∃ z, sz[i]? = some z ∧ 0 ≤ e.a ∧ e.a < z
theorem all_in (o : c.Ok t L) (hw : WaysOk (t + 2) L ws) {n : Nat} (hn : usedN c n * L ≤ ws.length) : AllP (InS (allL c t L)) (trEv c t L ws n) := by
  have hN := o.nats
  refine Parts.tr o ⟨fun w => ⟨0, rfl, 1, rfl, by simp, by simp⟩, fun k n hk => ?_, fun i w hi => ⟨1, rfl, c.spi, rfl, by simp, by simp only; omega⟩, fun i w hi => ⟨2, rfl, _, rfl, by simp, by simp only; have := (roundE_C o).2.2.1; omega⟩⟩ n hn
  have h1 : (k + n) * L = k * L + n * L := Nat.add_mul _ _ _
  refine (store_in o.st 3 (WaysOk.dr hw k) (n := n) (by rw [dr_length]; omega)).mono fun e he => ?_
  rcases he with ⟨h1, h2, h3⟩ | ⟨h, hh, he⟩
  · exact ⟨3, h1, _, rfl, h2, h3⟩
  · have key : ∀ i, i < 3 → (allL c t L)[4 + 3 * h + i]? = (levL (t + 2) c.slo c.sta h)[i]? := fun i hi => by
      unfold allL
      rw [List.getElem?_append_right (by simp; omega), show 4 + 3 * h + i - [1, c.spi, 2 ^ roundE (c.cap + c.bat)].length = 1 + 3 * h + i by simp; omega, sizesL_lev _ _ _ _ _ _ _ hh hi]
    rcases he with ⟨h1, h2, h3⟩ | ⟨h1, h2, h3⟩ | ⟨h1, h2, h3⟩
    · exact ⟨4 + 3 * h + 0, by omega, _, key 0 (by omega), h2, h3⟩
    · exact ⟨4 + 3 * h + 1, by omega, _, key 1 (by omega), h2, h3⟩
    · exact ⟨4 + 3 * h + 2, by omega, _, key 2 (by omega), h2, h3⟩
end
end Go.Proofs.Tryz

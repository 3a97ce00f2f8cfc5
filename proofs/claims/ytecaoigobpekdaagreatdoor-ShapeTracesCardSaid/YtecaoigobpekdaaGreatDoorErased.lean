/- Chapter 20: with leaves left out the looks hang on the ways no longer. -/
import Derived.Test.YtecaoigobpekdaaGreatDoorParts
namespace Go.Proofs.Tryz
open Go Go.Sh Go.RowKit
set_option maxRecDepth 8000
set_option maxHeartbeats 2000000

theorem logN_pow {d : Nat} (hd : d ≤ 62) {x : Nat} (h1 : 2 ^ d ≤ x) (h2 : x < 2 ^ (d + 1)) : logN x = d := by
  unfold logN; rw [bitLen_pow (by omega) h1 h2]; omega
section
variable {c : Cfg} {t L : Nat}
theorem erE_r (c : Cfg) (e : Ev) : (erE c e).r = e.r := by unfold erE; split <;> rfl
theorem erE_w (c : Cfg) (e : Ev) : (erE c e).w = e.w := by unfold erE; split <;> rfl
theorem erE_a (c : Cfg) (r a : Int) (w w' : Bool) : (erE c ⟨r, a, w⟩).a = (erE c ⟨r, a, w'⟩).a := by unfold erE; dsimp only; split <;> rfl
theorem erE_id {e : Ev} (h : e.r - 4 < 0 ∨ 0 < (e.r - 4).tmod 3) : erE c e = e := by
  unfold erE; rw [if_pos]; rcases h with h | h
  · exact .inl h
  · exact .inr (.inl h)
theorem tmod3 (j i : Nat) (hi : i < 3) : (4 + 3 * (j : Int) + i - 4).tmod 3 = i := by
  have : (4 + 3 * (j : Int) + i - 4) = ((3 * j + i : Nat) : Int) := by omega
  rw [this]
  have h : (3 * j + i) % 3 = i := by omega
  show (((3 * j + i) % 3 : Nat) : Int) = i
  rw [h]
theorem erE_lo {r a : Int} {w : Bool} (h : r < 4) : erE c ⟨r, a, w⟩ = ⟨r, a, w⟩ := erE_id (.inl (by simp only; omega))
theorem erE_1 (j : Nat) (a : Int) (w : Bool) : erE c ⟨4 + 3 * (j : Int) + 1, a, w⟩ = ⟨4 + 3 * (j : Int) + 1, a, w⟩ := erE_id (.inr (by have := tmod3 j 1 (by omega); simp only; simp at this; omega))
theorem erE_2 (j : Nat) (a : Int) (w : Bool) : erE c ⟨4 + 3 * (j : Int) + 2, a, w⟩ = ⟨4 + 3 * (j : Int) + 2, a, w⟩ := erE_id (.inr (by have := tmod3 j 2 (by omega); simp only; simp at this; omega))
theorem erE_tree (o : c.Ok t L) {j : Nat} (hj : j < L) {k leaf d i : Nat} (hk : k ≤ 10) (hl : leaf < 2 ^ k) (hd : d ≤ k) (hi : i < c.slo.toNat) (w : Bool) : erE c ⟨4 + 3 * (j : Int), (nodeN k leaf d : Int) * c.slo + i, w⟩ = ⟨4 + 3 * (j : Int), (d : Int) * c.slo + i, w⟩ := by
  have hs := o.slo
  obtain ⟨s, hse⟩ := Int.eq_ofNat_of_zero_le (show 0 ≤ c.slo by omega)
  have ea : (nodeN k leaf d : Int) * c.slo + i = ((nodeN k leaf d * s + i : Nat) : Int) := by rw [hse]; simp
  have h0 : (4 + 3 * (j : Int) - 4).tmod 3 = 0 := by have := tmod3 j 0 (by omega); simpa using this
  have h1 : (4 + 3 * (j : Int) - 4).tdiv 3 = j := by
    have : (4 + 3 * (j : Int) - 4) = ((3 * j : Nat) : Int) := by omega
    rw [this]
    have : (3 * j) / 3 = j := by omega
    show (((3 * j) / 3 : Nat) : Int) = j
    rw [this]
  have hlev := o.lev
  unfold erE
  rw [if_neg (by simp only [h0, h1]; rw [ea]; omega)]
  have hse' : c.slo.toNat = s := by omega
  have his : i < s := by omega
  have hdiv : (nodeN k leaf d * s + i) / s = nodeN k leaf d := by
    rw [Nat.mul_comm, Nat.mul_add_div (by omega), Nat.div_eq_of_lt his]; omega
  have hmod : (nodeN k leaf d * s + i) % s = i := by rw [Nat.mul_comm, Nat.mul_add_mod, Nat.mod_eq_of_lt his]
  have d1 : ((nodeN k leaf d : Int) * c.slo + i).tdiv c.slo = (nodeN k leaf d : Int) := by
    rw [ea, hse]; show (((nodeN k leaf d * s + i) / s : Nat) : Int) = _; rw [hdiv]
  have d2 : ((nodeN k leaf d : Int) * c.slo + i).tmod c.slo = i := by
    rw [ea, hse]; show (((nodeN k leaf d * s + i) % s : Nat) : Int) = _; rw [hmod]
  simp only [d1, d2]
  have hlog : logN ((nodeN k leaf d : Int).toNat + 1) = d := by
    have hpos : 0 < 2 ^ d := Nat.pow_pos (by decide)
    have hlt : leaf / 2 ^ (k - d) < 2 ^ d := by
      rw [Nat.div_lt_iff_lt_mul (Nat.pow_pos (by decide)), ← Nat.pow_add, show d + (k - d) = k by omega]; exact hl
    have e : (nodeN k leaf d : Int).toNat + 1 = 2 ^ d + leaf / 2 ^ (k - d) := by
      rw [Int.toNat_natCast]; unfold nodeN
      generalize leaf / 2 ^ (k - d) = q
      generalize 2 ^ d = P at hpos ⊢
      omega
    rw [e]
    refine logN_pow (by omega) (Nat.le_add_right _ _) ?_
    rw [Nat.pow_succ]
    generalize leaf / 2 ^ (k - d) = q at hlt ⊢
    generalize 2 ^ d = P at hlt ⊢
    omega
  rw [hlog]
/-- a spot with its leaf left out -/
def spE (c : Cfg) (x : Sp) : Sp := ⟨x.r, (erE c ⟨x.r, x.a, false⟩).a⟩
theorem spE_ev (c : Cfg) (x : Sp) (w : Bool) : erE c ⟨x.r, x.a, w⟩ = ⟨(spE c x).r, (spE c x).a, w⟩ := by
  have h1 := erE_r c ⟨x.r, x.a, w⟩; have h2 := erE_w c ⟨x.r, x.a, w⟩; have h3 := erE_a c x.r x.a w false
  generalize erE c ⟨x.r, x.a, w⟩ = e at *
  obtain ⟨r, a, w'⟩ := e
  simp only [spE] at *
  subst h1; subst h2; subst h3; rfl
theorem spE_zero : spE c ⟨0, 0⟩ = ⟨0, 0⟩ := by unfold spE; rw [erE_lo (show (0 : Int) < 4 by decide)]
theorem spE_getD (sp : List Sp) (i : Nat) : (sp.map (spE c)).getD i ⟨0, 0⟩ = spE c (sp.getD i ⟨0, 0⟩) := by
  simp only [List.getD_eq_getElem?_getD, List.getElem?_map]
  cases sp[i]? with
  | none => exact spE_zero.symm
  | some x => rfl
theorem er_fill (j : Nat) (sp : List Sp) (n : Nat) : (fillEv (4 + 3 * (j : Int)) sp n).map (erE c) = fillEv (4 + 3 * (j : Int)) (sp.map (spE c)) n := by
  induction n with
  | zero => rfl
  | succ n ih =>
    rw [fillEv_succ, fillEv_succ, List.map_append, List.map_append, ih, List.length_map, spE_getD]
    congr 1
    split
    · simp only [List.map_cons, List.map_nil, erE_2, spE_ev]
    · simp only [List.map_cons, List.map_nil, erE_2]
theorem er_back (j : Nat) (sp : List Sp) (n : Nat) : (backEv (4 + 3 * (j : Int)) sp n).map (erE c) = backEv (4 + 3 * (j : Int)) (sp.map (spE c)) n := by
  induction n with
  | zero => rfl
  | succ n ih =>
    rw [backEv_succ, backEv_succ, List.map_append, ih, spE_getD]
    simp only [List.map_cons, List.map_nil, erE_2, spE_ev]
theorem er_same {l : List Ev} (h : ∀ e ∈ l, erE c e = e) : l.map (erE c) = l := by
  conv => rhs; rw [← List.map_id l]
  exact List.map_congr_left h
theorem er_reads {r : Int} (h : ∀ a w, erE c ⟨r, a, w⟩ = ⟨r, a, w⟩) (n : Nat) : (reads r n).map (erE c) = reads r n := er_same fun e he => by
  obtain ⟨i, _, rfl⟩ := List.mem_map.1 he; exact h _ _
theorem er_writes {r : Int} (h : ∀ a w, erE c ⟨r, a, w⟩ = ⟨r, a, w⟩) (n : Nat) : (writes r n).map (erE c) = writes r n := er_same fun e he => by
  obtain ⟨i, _, he⟩ := List.mem_flatMap.1 he
  simp only [List.mem_cons, List.not_mem_nil, or_false] at he
  rcases he with rfl | rfl <;> exact h _ _
theorem er_sort {r : Int} (h : ∀ a w, erE c ⟨r, a, w⟩ = ⟨r, a, w⟩) (E : Nat) : (sortEv r E).map (erE c) = sortEv r E := er_same fun e he => by
  obtain ⟨p, _, he⟩ := List.mem_flatMap.1 he
  simp only [sort4, List.mem_cons, List.not_mem_nil, or_false] at he
  rcases he with rfl | rfl | rfl | rfl <;> exact h _ _
theorem er_turn (j E : Nat) : (turnEv (4 + 3 * (j : Int)) E).map (erE c) = turnEv (4 + 3 * (j : Int)) E := by
  unfold turnEv
  rw [List.map_append, er_writes (fun a w => erE_2 j a w), er_sort (fun a w => erE_2 j a w)]
/-- the spots, a node as its depth -/
def zeL (first : Int) (N T : Nat) : List Sp := (List.range N).map (fun (i : Nat) => (⟨first, (i : Int)⟩ : Sp)) ++ stashL first T
theorem er_tree (o : c.Ok t L) {j : Nat} (hj : j < L) {k leaf : Nat} (hk : k ≤ 10) (hl : leaf < 2 ^ k) (n : Nat) (hn : n ≤ k + 1) : (treeL k c.slo (4 + 3 * (j : Int)) leaf n).map (spE c) = (List.range (n * c.slo.toNat)).map (fun (i : Nat) => (⟨4 + 3 * (j : Int), (i : Int)⟩ : Sp)) := by
  have hs := o.slo
  induction n with
  | zero => simp [treeL]
  | succ n ih =>
    rw [treeL_succ, List.map_append, ih (by omega), Nat.succ_mul, List.range_add, List.map_append]
    congr 1
    unfold bktL
    rw [List.map_map, List.map_map]
    refine List.map_congr_left fun i hi => ?_
    have hi' := List.mem_range.1 hi
    simp only [Function.comp, spE]
    rw [erE_tree o hj hk hl (show n ≤ k by omega) hi']
    congr 1
    have : c.slo = (c.slo.toNat : Int) := by omega
    conv => lhs; rw [this]
    simp
theorem er_spots (o : c.Ok t L) {j : Nat} (hj : j < L) {k leaf : Nat} (hk : k ≤ 10) (hl : leaf < 2 ^ k) : (spotsL k c.slo c.sta (4 + 3 * (j : Int)) leaf).map (spE c) = zeL (4 + 3 * (j : Int)) ((k + 1) * c.slo.toNat) c.sta.toNat := by
  unfold spotsL zeL
  rw [List.map_append, er_tree o hj hk hl _ (Nat.le_refl _)]
  congr 1
  unfold stashL
  rw [List.map_map]
  refine List.map_congr_left fun i hi => ?_
  simp only [Function.comp, spE]
  rw [erE_1]
def levZ (k : Nat) (s t : Int) (first : Int) : List Ev :=
  fillEv first (zeL first ((k + 1) * s.toNat) t.toNat) (2 ^ roundE (plc k s t)) ++ turnEv first (roundE (plc k s t)) ++ turnEv first (roundE (plc k s t)) ++ backEv first (zeL first ((k + 1) * s.toNat) t.toNat) (zeL first ((k + 1) * s.toNat) t.toNat).length
theorem er_lev (o : c.Ok t L) {j : Nat} (hj : j < L) {k leaf : Nat} (hk : k ≤ 10) (hl : leaf < 2 ^ k) : (levEv k c.slo c.sta (4 + 3 * (j : Int)) leaf).map (erE c) = levZ k c.slo c.sta (4 + 3 * (j : Int)) := by
  have h := er_spots o hj hk hl
  have hlen : (spotsL k c.slo c.sta (4 + 3 * (j : Int)) leaf).length = (zeL (4 + 3 * (j : Int)) ((k + 1) * c.slo.toNat) c.sta.toNat).length := by rw [← h, List.length_map]
  unfold levEv levZ
  rw [List.map_append, List.map_append, List.map_append, er_fill, er_back, er_turn, h, hlen]
def oneZ (m : Nat) (s t : Int) (L : Nat) (n : Nat) : List Ev := (List.range n).flatMap fun i => levZ (m - 2 * (L - 1 - i)) s t (4 + 3 * ((L - 1 - i : Nat) : Int))
theorem oneZ_succ (m : Nat) (s t : Int) (L : Nat) (n : Nat) : oneZ m s t L (n + 1) = oneZ m s t L n ++ levZ (m - 2 * (L - 1 - n)) s t (4 + 3 * ((L - 1 - n : Nat) : Int)) := by simp [oneZ, List.range_succ]
def accZ (m : Nat) (s t : Int) (L : Nat) : List Ev := reads 3 (topN m L) ++ writes 3 (topN m L) ++ oneZ m s t L L
theorem er_one (o : c.Ok t L) {ws : List Int} (hw : WaysOk (t + 2) L ws) (hlen : L ≤ ws.length) (n : Nat) (hn : n ≤ L) : (oneEv (t + 2) c.slo c.sta L 3 ws n).map (erE c) = oneZ (t + 2) c.slo c.sta L n := by
  induction n with
  | zero => rfl
  | succ n ih =>
    rw [oneEv_succ, oneZ_succ, List.map_append, ih (by omega)]
    have hwn := hw n (by omega)
    have hmod : n % L = n := Nat.mod_eq_of_lt (by omega)
    rw [hmod] at hwn
    have hg : ws.getD n 0 = ws[n] := by simp [List.getD_eq_getElem?_getD, show n < ws.length by omega]
    have e : ((2 ^ (t + 2 - 2 * (L - 1 - n)) : Nat) : Int) = 2 ^ (t + 2 - 2 * (L - 1 - n)) := by simp
    have hk := (o.st.lev (L - 1 - n)).k
    have := er_lev o (j := L - 1 - n) (by omega) (k := t + 2 - 2 * (L - 1 - n)) (leaf := (ws.getD n 0).toNat) hk (by rw [hg]; omega)
    rw [show (3 : Int) + 1 + 3 * ((L - 1 - n : Nat) : Int) = 4 + 3 * ((L - 1 - n : Nat) : Int) by omega, this]
theorem er_acc (o : c.Ok t L) {ws : List Int} (hw : WaysOk (t + 2) L ws) (hlen : L ≤ ws.length) : (accEv (t + 2) c.slo c.sta L 3 ws).map (erE c) = accZ (t + 2) c.slo c.sta L := by
  unfold accEv accZ
  rw [List.map_append, List.map_append, er_reads (fun a w => erE_lo (by omega)), er_writes (fun a w => erE_lo (by omega)), er_one o hw hlen L (Nat.le_refl _)]
def sZ (c : Cfg) (t L n : Nat) : List Ev := (List.range n).flatMap fun _ => accZ (t + 2) c.slo c.sta L
theorem sZ_succ (n : Nat) : sZ c t L (n + 1) = sZ c t L n ++ accZ (t + 2) c.slo c.sta L := by simp [sZ, List.range_succ]
theorem er_s (o : c.Ok t L) {ws : List Int} (hw : WaysOk (t + 2) L ws) (n : Nat) (hlen : n * L ≤ ws.length) : (sEv c t L ws n).map (erE c) = sZ c t L n := by
  induction n with
  | zero => rfl
  | succ n ih =>
    have h1 : (n + 1) * L = n * L + L := Nat.succ_mul n L
    rw [sZ_succ, ← ih (by omega), show sEv c t L ws (n + 1) = sEv c t L ws n ++ accEv (t + 2) c.slo c.sta L 3 (ws.drop (n * L)) from storeEv_succ _ _ _ _ _ _ _, List.map_append, er_acc o (hw.drop n) (by rw [List.length_drop]; omega)]
/-- words of two runs that are as many -/
def Two (t L : Nat) (a b : List Int) : Prop := WaysOk (t + 2) L a ∧ WaysOk (t + 2) L b ∧ a.length = b.length
theorem Two.dr {a b : List Int} (h : Two t L a b) (k : Nat) : Two t L (dr L k a) (dr L k b) := ⟨WaysOk.dr h.1 k, WaysOk.dr h.2.1 k, by rw [dr_length, dr_length, h.2.2]⟩
theorem two_s (o : c.Ok t L) {a b : List Int} (h : Two t L a b) {k n : Nat} (hn : (k + n) * L ≤ a.length) : (sEv c t L (dr L k a) n).map (erE c) = (sEv c t L (dr L k b) n).map (erE c) := by
  have h1 : (k + n) * L = k * L + n * L := Nat.add_mul _ _ _
  rw [er_s o (h.dr k).1 n (by rw [dr_length]; omega), er_s o (h.dr k).2.1 n (by rw [dr_length, ← h.2.2]; omega)]
theorem two_find (o : c.Ok t L) {a b : List Int} (h : Two t L a b) {k : Nat} (hn : (k + 2) * L ≤ a.length) : (findEv c t L (dr L k a)).map (erE c) = (findEv c t L (dr L k b)).map (erE c) := by
  unfold findEv; rw [List.map_append, List.map_append, two_s o h hn]
theorem two_rem (o : c.Ok t L) {a b : List Int} (h : Two t L a b) {k : Nat} (hn : (k + 1) * L ≤ a.length) : (remEv c t L (dr L k a)).map (erE c) = (remEv c t L (dr L k b)).map (erE c) := by
  unfold remEv; rw [List.map_append, List.map_append, two_s o h hn]
theorem two_put (o : c.Ok t L) {a b : List Int} (h : Two t L a b) {k : Nat} (hn : (k + 2 * c.K) * L ≤ a.length) : (putEv c t L (dr L k a)).map (erE c) = (putEv c t L (dr L k b)).map (erE c) := by
  have h1 : (k + c.K) * L ≤ (k + 2 * c.K) * L := Nat.mul_le_mul_right L (by omega)
  have h2 := two_s o h (k := k) (n := c.K) (by omega)
  have h3 := two_s o h (k := k + c.K) (n := c.K) (by rw [show k + c.K + c.K = k + 2 * c.K by omega]; exact hn)
  unfold putEv
  simp only [List.map_append, dr_dr]
  rw [h2, h3]
theorem two_op (o : c.Ok t L) {a b : List Int} (h : Two t L a b) {k : Nat} (hn : (k + (5 + 2 * c.K)) * L ≤ a.length) : (opEv c t L (dr L k a)).map (erE c) = (opEv c t L (dr L k b)).map (erE c) := by
  have mono : ∀ x, x ≤ k + (5 + 2 * c.K) → x * L ≤ a.length := fun x hx => Nat.le_trans (Nat.mul_le_mul_right L hx) hn
  have a1 := two_find o h (k := k) (mono (k + 2) (by omega))
  have a2 := two_s o h (k := k + 2) (n := 1) (mono (k + 2 + 1) (by omega))
  have a3 := two_put o h (k := k + 3) (mono (k + 3 + 2 * c.K) (by omega))
  have a4 := two_rem o h (k := k + (3 + 2 * c.K)) (mono (k + (3 + 2 * c.K) + 1) (by omega))
  have a5 := two_s o h (k := k + (4 + 2 * c.K)) (n := 1) (mono (k + (4 + 2 * c.K) + 1) (by omega))
  unfold opEv
  simp only [List.map_append, dr_dr]
  rw [a1, a2, a3, a4, a5]
theorem two_flat {f g : Nat → List Ev} {n : Nat} (h : ∀ i, i < n → (f i).map (erE c) = (g i).map (erE c)) : ((List.range n).flatMap f).map (erE c) = ((List.range n).flatMap g).map (erE c) := by
  induction n with
  | zero => rfl
  | succ n ih =>
    simp only [List.range_succ, List.flatMap_append, List.map_append, List.flatMap_cons, List.flatMap_nil, List.append_nil]
    rw [ih fun i hi => h i (by omega), h n (by omega)]
theorem two_pass (o : c.Ok t L) {a b : List Int} (h : Two t L a b) {k : Nat} (hn : (k + (c.C + 4 * c.B)) * L ≤ a.length) : (passEv c t L (dr L k a)).map (erE c) = (passEv c t L (dr L k b)).map (erE c) := by
  have mono : ∀ x, x ≤ k + (c.C + 4 * c.B) → x * L ≤ a.length := fun x hx => Nat.le_trans (Nat.mul_le_mul_right L hx) hn
  have ht : (tabEv c t L (dr L k a) (2 ^ roundE (c.cap + c.bat))).map (erE c) = (tabEv c t L (dr L k b) (2 ^ roundE (c.cap + c.bat))).map (erE c) := by
    unfold tabEv
    refine two_flat fun i hi => ?_
    rw [List.map_append, List.map_append]
    split
    · rw [dr_dr, dr_dr, two_s o h (k := k + i) (n := 1) (mono _ (by omega))]
    · rfl
  have hg : (goEv c t L (dr L c.C (dr L k a)) c.B).map (erE c) = (goEv c t L (dr L c.C (dr L k b)) c.B).map (erE c) := by
    unfold goEv
    refine two_flat fun j hj => ?_
    have a1 := two_find o h (k := k + c.C + 4 * j) (mono (k + c.C + 4 * j + 2) (by omega))
    have a2 := two_rem o h (k := k + c.C + (4 * j + 2)) (mono (k + c.C + (4 * j + 2) + 1) (by omega))
    have a3 := two_s o h (k := k + c.C + (4 * j + 3)) (n := 1) (mono (k + c.C + (4 * j + 3) + 1) (by omega))
    simp only [dr_dr, List.map_append]
    rw [a1, a2, a3]
  unfold passEv
  simp only [List.map_append]
  rw [ht, hg]
theorem two_tr (o : c.Ok t L) {a b : List Int} (h : Two t L a b) : ∀ n, usedN c n * L ≤ a.length → (trEv c t L a n).map (erE c) = (trEv c t L b n).map (erE c) := fun n => by
  induction n with
  | zero => intro _; rfl
  | succ n ih =>
    intro hn
    have hus := usedN_succ (c := c) n
    have h1 : (usedN c n + (5 + 2 * c.K)) * L ≤ usedN c (n + 1) * L := Nat.mul_le_mul_right L (by omega)
    have h0 : usedN c n * L ≤ usedN c (n + 1) * L := Nat.mul_le_mul_right L (by omega)
    simp only [trEv, List.map_append]
    rw [ih (by omega), two_op o h (by omega)]
    congr 1
    split
    · rename_i hz
      rw [if_pos hz] at hus
      exact two_pass o h (by rw [← hus]; exact hn)
    · rfl

/-! ## how often a cell is looked at -/
theorem cnt_other {x : Ev} {l : List Ev} (h : ∀ e ∈ l, e.r ≠ x.r) : l.count x = 0 := List.count_eq_zero_of_not_mem fun hm => h _ hm rfl
theorem reads_r {r : Int} {n : Nat} : ∀ e ∈ reads r n, e.r = r := fun e he => by obtain ⟨i, _, rfl⟩ := List.mem_map.1 he; rfl
theorem writes_r {r : Int} {n : Nat} : ∀ e ∈ writes r n, e.r = r := fun e he => by
  obtain ⟨i, _, he⟩ := List.mem_flatMap.1 he
  simp only [List.mem_cons, List.not_mem_nil, or_false] at he
  rcases he with rfl | rfl <;> rfl
theorem sort_r {r : Int} {E : Nat} : ∀ e ∈ sortEv r E, e.r = r := fun e he => by
  obtain ⟨p, _, he⟩ := List.mem_flatMap.1 he
  simp only [sort4, List.mem_cons, List.not_mem_nil, or_false] at he
  rcases he with rfl | rfl | rfl | rfl <;> rfl
theorem turn_r {f : Int} {E : Nat} : ∀ e ∈ turnEv f E, e.r = f + 2 := fun e he => by
  rcases List.mem_append.1 he with h | h
  · exact writes_r e h
  · exact sort_r e h
theorem cnt_fill {x : Ev} {f : Int} (hf : x.r ≠ f + 2) (sp : List Sp) (n : Nat) : (fillEv f sp n).count x = ((sp.take n).map fun y => (⟨y.r, y.a, false⟩ : Ev)).count x := by
  induction n with
  | zero => simp [fillEv]
  | succ n ih =>
    have h2 : ([⟨f + 2, (n : Int), true⟩] : List Ev).count x = 0 := cnt_other fun e he => by rw [List.mem_singleton.1 he]; exact fun h => hf h.symm
    rw [fillEv_succ, List.count_append, List.count_append, ih, h2]
    by_cases h : n < sp.length
    · rw [if_pos h, ← List.take_append_getElem h, List.map_append, List.count_append]
      have : sp.getD n ⟨0, 0⟩ = sp[n] := by simp [List.getD_eq_getElem?_getD, h]
      rw [this]; rfl
    · rw [if_neg h, List.take_of_length_le (by omega), List.take_of_length_le (by omega)]; simp
theorem cnt_back {x : Ev} {f : Int} (hf : x.r ≠ f + 2) (sp : List Sp) (n : Nat) (hn : n ≤ sp.length) : (backEv f sp n).count x = ((sp.take n).map fun y => (⟨y.r, y.a, true⟩ : Ev)).count x := by
  induction n with
  | zero => simp [backEv]
  | succ n ih =>
    have h : n < sp.length := by omega
    have h2 : ([⟨f + 2, (n : Int), false⟩] : List Ev).count x = 0 := cnt_other fun e he => by rw [List.mem_singleton.1 he]; exact fun h => hf h.symm
    have hsplit : ∀ y : Ev, ([⟨f + 2, (n : Int), false⟩, y] : List Ev).count x = ([y] : List Ev).count x := fun y => by
      rw [show ([⟨f + 2, (n : Int), false⟩, y] : List Ev) = [⟨f + 2, (n : Int), false⟩] ++ [y] from rfl, List.count_append, h2, Nat.zero_add]
    rw [backEv_succ, List.count_append, ih (by omega), hsplit, ← List.take_append_getElem h, List.map_append, List.count_append]
    have : sp.getD n ⟨0, 0⟩ = sp[n] := by simp [List.getD_eq_getElem?_getD, h]
    rw [this]; rfl
theorem cnt_range (f : Int) (w w' : Bool) (a N : Nat) : (((List.range N).map (fun (i : Nat) => (⟨f, (i : Int)⟩ : Sp))).map fun y => (⟨y.r, y.a, w⟩ : Ev)).count ⟨f, a, w'⟩ = if w = w' ∧ a < N then 1 else 0 := by
  induction N with
  | zero => simp
  | succ N ih =>
    rw [List.range_succ, List.map_append, List.map_append, List.count_append, ih]
    simp only [List.map_cons, List.map_nil, List.count_cons, List.count_nil]
    by_cases h : w = w'
    · subst h
      by_cases h2 : a = N
      · subst h2; simp
      · have : ¬ ((⟨f, (N : Int), w⟩ : Ev) == ⟨f, (a : Int), w⟩) = true := by simp; omega
        rw [if_neg this]
        by_cases h3 : a < N
        · rw [if_pos ⟨rfl, h3⟩, if_pos ⟨rfl, by omega⟩]
        · rw [if_neg (fun h => h3 h.2), if_neg (fun h => by have := h.2; omega)]
    · have : ¬ ((⟨f, (N : Int), w⟩ : Ev) == ⟨f, (a : Int), w'⟩) = true := by simp [h]
      rw [if_neg this, if_neg (fun h2 => h h2.1), if_neg (fun h2 => h h2.1)]
theorem cnt_ze (f : Int) (w w' : Bool) (a N T : Nat) : ((zeL f N T).map fun y => (⟨y.r, y.a, w⟩ : Ev)).count ⟨f, a, w'⟩ = if w = w' ∧ a < N then 1 else 0 := by
  unfold zeL
  rw [List.map_append, List.count_append, cnt_range, cnt_other (l := (stashL f T).map _) (fun e he => ?_), Nat.add_zero]
  obtain ⟨y, hy, rfl⟩ := List.mem_map.1 he
  obtain ⟨i, _, rfl⟩ := List.mem_map.1 hy
  simp only; omega
theorem zeL_length (f : Int) (N T : Nat) : (zeL f N T).length = N + T := by simp [zeL, stashL]
theorem cnt_lev {k : Nat} {s t : Int} (o : LevOk k s t) (f : Int) (a : Nat) (ha : a < (k + 1) * s.toNat) (w : Bool) : (levZ k s t f).count ⟨f, a, w⟩ = 1 := by
  have hne : (⟨f, a, w⟩ : Ev).r ≠ f + 2 := by simp only; omega
  have hz := zeL_length f ((k + 1) * s.toNat) t.toNat
  have hT : (zeL f ((k + 1) * s.toNat) t.toNat).length ≤ 2 ^ roundE (plc k s t) := by
    have h1 := le_roundI (n := plc k s t) (by have := o.plcB; omega)
    rw [roundI_E] at h1
    have e : ((2 ^ roundE (plc k s t) : Nat) : Int) = 2 ^ roundE (plc k s t) := by simp
    have hp : plc k s t = s * ((k : Int) + 1) + t + 1 := rfl
    have hs := o.s; have ht := o.t
    obtain ⟨s', rfl⟩ := Int.eq_ofNat_of_zero_le (show 0 ≤ s by omega)
    have e2 : ((k + 1 : Nat) : Int) * (s' : Int) = (s' : Int) * ((k : Int) + 1) := by rw [Int.mul_comm]; simp
    have e3 : (((k + 1) * s' : Nat) : Int) = ((k + 1 : Nat) : Int) * (s' : Int) := by simp
    simp only [Int.toNat_natCast] at hz ⊢
    omega
  have ht : (turnEv f (roundE (plc k s t))).count ⟨f, a, w⟩ = 0 := cnt_other fun e he => by rw [turn_r e he]; exact fun h => hne h.symm
  unfold levZ
  rw [List.count_append, List.count_append, List.count_append, ht, cnt_fill hne, cnt_back hne _ _ (Nat.le_refl _), List.take_of_length_le hT, List.take_of_length_le (Nat.le_refl _), cnt_ze, cnt_ze]
  cases w
  · rw [if_pos ⟨rfl, ha⟩, if_neg (by simp)]
  · rw [if_neg (by simp), if_pos ⟨rfl, ha⟩]
theorem mem_ze {f : Int} {N T : Nat} {x : Sp} (h : x ∈ zeL f N T) : (x.r = f ∧ 0 ≤ x.a ∧ x.a < N) ∨ x.r = f + 1 := by
  rcases List.mem_append.1 h with h | h
  · obtain ⟨i, hi, rfl⟩ := List.mem_map.1 h
    have := List.mem_range.1 hi
    exact .inl ⟨rfl, by simp, by simp only; omega⟩
  · obtain ⟨i, hi, rfl⟩ := List.mem_map.1 h
    exact .inr rfl
theorem mem_fill {f : Int} {sp : List Sp} {n : Nat} {e : Ev} (h : e ∈ fillEv f sp n) : (∃ i : Nat, i < n ∧ e = ⟨f + 2, i, true⟩) ∨ ∃ x ∈ sp, e = ⟨x.r, x.a, false⟩ := by
  obtain ⟨i, hi, h⟩ := List.mem_flatMap.1 h
  have hi' := List.mem_range.1 hi
  rcases List.mem_append.1 h with h | h
  · split at h
    · rename_i hl
      have : sp.getD i ⟨0, 0⟩ = sp[i] := by simp [List.getD_eq_getElem?_getD, hl]
      rw [this] at h
      exact .inr ⟨_, List.getElem_mem hl, List.mem_singleton.1 h⟩
    · cases h
  · exact .inl ⟨i, hi', List.mem_singleton.1 h⟩
theorem mem_back {f : Int} {sp : List Sp} {e : Ev} (h : e ∈ backEv f sp sp.length) : (∃ i : Nat, i < sp.length ∧ e = ⟨f + 2, i, false⟩) ∨ ∃ x ∈ sp, e = ⟨x.r, x.a, true⟩ := by
  obtain ⟨i, hi, h⟩ := List.mem_flatMap.1 h
  have hi' := List.mem_range.1 hi
  simp only [List.mem_cons, List.not_mem_nil, or_false] at h
  rcases h with rfl | rfl
  · exact .inl ⟨i, hi', rfl⟩
  · have : sp.getD i ⟨0, 0⟩ = sp[i] := by simp [List.getD_eq_getElem?_getD, hi']
    rw [this]
    exact .inr ⟨_, List.getElem_mem hi', rfl⟩
theorem mem_levZ {k : Nat} {s t f : Int} {e : Ev} (h : e ∈ levZ k s t f) : (e.r = f ∧ 0 ≤ e.a ∧ e.a < (((k + 1) * s.toNat : Nat) : Int)) ∨ e.r = f + 1 ∨ e.r = f + 2 := by
  rcases List.mem_append.1 h with h | h
  · rcases List.mem_append.1 h with h | h
    · rcases List.mem_append.1 h with h | h
      · rcases mem_fill h with ⟨i, _, rfl⟩ | ⟨x, hx, rfl⟩
        · exact .inr (.inr rfl)
        · rcases mem_ze hx with h | h
          · exact .inl h
          · exact .inr (.inl h)
      · exact .inr (.inr (turn_r e h))
    · exact .inr (.inr (turn_r e h))
  · rcases mem_back h with ⟨i, _, rfl⟩ | ⟨x, hx, rfl⟩
    · exact .inr (.inr rfl)
    · rcases mem_ze hx with h | h
      · exact .inl h
      · exact .inr (.inl h)
theorem cnt_one {m : Nat} {s t : Int} {L : Nat} (o : StOk m s t L) {h a : Nat} (hh : h < L) (ha : a < (m - 2 * h + 1) * s.toNat) (w : Bool) (n : Nat) (hn : n ≤ L) : (oneZ m s t L n).count ⟨4 + 3 * (h : Int), a, w⟩ = if L - 1 - h < n then 1 else 0 := by
  induction n with
  | zero => simp [oneZ]
  | succ n ih =>
    rw [oneZ_succ, List.count_append, ih (by omega)]
    by_cases e : L - 1 - n = h
    · rw [e, cnt_lev (o.lev h) _ a ha w, if_neg (by omega), if_pos (by omega)]
    · rw [cnt_other (l := levZ _ _ _ _) (fun y hy => ?_), Nat.add_zero]
      · by_cases e2 : L - 1 - h < n
        · rw [if_pos e2, if_pos (by omega)]
        · rw [if_neg e2, if_neg (by omega)]
      · rcases mem_levZ hy with h | h | h <;> (simp only; omega)
theorem cnt_acc {m : Nat} {s t : Int} {L : Nat} (o : StOk m s t L) {h a : Nat} (hh : h < L) (ha : a < (m - 2 * h + 1) * s.toNat) (w : Bool) : (accZ m s t L).count ⟨4 + 3 * (h : Int), a, w⟩ = 1 := by
  unfold accZ
  rw [List.count_append, List.count_append, cnt_one o hh ha w L (Nat.le_refl _), if_pos (by omega), cnt_other (fun e he => by rw [reads_r e he]; simp only; omega), cnt_other (fun e he => by rw [writes_r e he]; simp only; omega)]
theorem cnt_s (o : c.Ok t L) {h a : Nat} (hh : h < L) (ha : a < (t + 2 - 2 * h + 1) * c.slo.toNat) (w : Bool) (n : Nat) : (sZ c t L n).count ⟨4 + 3 * (h : Int), a, w⟩ = n := by
  induction n with
  | zero => simp [sZ]
  | succ n ih => rw [sZ_succ, List.count_append, ih, cnt_acc o.st hh ha w]
theorem mem_s (o : c.Ok t L) {h : Nat} {n : Nat} {e : Ev} (he : e ∈ sZ c t L n) (hr : e.r = 4 + 3 * (h : Int)) : 0 ≤ e.a ∧ e.a < (((t + 2 - 2 * h + 1) * c.slo.toNat : Nat) : Int) := by
  obtain ⟨_, _, he⟩ := List.mem_flatMap.1 he
  rcases List.mem_append.1 he with he | he
  · rcases List.mem_append.1 he with he | he
    · have := reads_r e he; omega
    · have := writes_r e he; omega
  · obtain ⟨i, hi, he⟩ := List.mem_flatMap.1 he
    have hi' := List.mem_range.1 hi
    rcases mem_levZ he with h1 | h1 | h1
    · have : h = L - 1 - i := by omega
      subst this; exact ⟨by omega, by omega⟩
    · omega
    · omega
/-- one operation, leaves left out -/
def opZ (c : Cfg) (t L : Nat) : List Ev := [⟨0, 0, false⟩] ++ (sZ c t L 2 ++ reads 1 c.P) ++ sZ c t L 1 ++ (sZ c t L c.K ++ reads 1 c.P ++ writes 1 c.P ++ sZ c t L c.K) ++ (sZ c t L 1 ++ writes 1 c.P) ++ sZ c t L 1 ++ [⟨0, 0, true⟩]
theorem er_op (o : c.Ok t L) {ws : List Int} (hw : WaysOk (t + 2) L ws) (hlen : (5 + 2 * c.K) * L ≤ ws.length) : (opEv c t L ws).map (erE c) = opZ c t L := by
  have S : ∀ k n, k + n ≤ 5 + 2 * c.K → (sEv c t L (dr L k ws) n).map (erE c) = sZ c t L n := fun k n hk => by
    have h1 : (k + n) * L ≤ (5 + 2 * c.K) * L := Nat.mul_le_mul_right L hk
    have h2 : (k + n) * L = k * L + n * L := Nat.add_mul _ _ _
    exact er_s o (WaysOk.dr hw k) n (by rw [dr_length]; omega)
  have S0 : ∀ n, n ≤ 5 + 2 * c.K → (sEv c t L ws n).map (erE c) = sZ c t L n := fun n hn => by have := S 0 n (by omega); rwa [dr_zero] at this
  have r1 : (reads 1 c.P).map (erE c) = reads 1 c.P := er_reads (fun a w => erE_lo (by omega)) _
  have w1 : (writes 1 c.P).map (erE c) = writes 1 c.P := er_writes (fun a w => erE_lo (by omega)) _
  unfold opEv findEv putEv remEv opZ
  simp only [List.map_append, List.map_cons, List.map_nil, dr_dr, r1, w1, erE_lo (c := c) (r := 0) (a := 0) (by omega)]
  rw [S0 2 (by omega), S 2 1 (by omega), S 3 c.K (by omega), S (3 + c.K) c.K (by omega), S (3 + 2 * c.K) 1 (by omega), S (4 + 2 * c.K) 1 (by omega)]
theorem cnt_op (o : c.Ok t L) {h a : Nat} (hh : h < L) (ha : a < (t + 2 - 2 * h + 1) * c.slo.toNat) (w : Bool) : (opZ c t L).count ⟨4 + 3 * (h : Int), a, w⟩ = 5 + 2 * c.K := by
  have r1 : (reads 1 c.P).count ⟨4 + 3 * (h : Int), a, w⟩ = 0 := cnt_other fun e he => by rw [reads_r e he]; simp only; omega
  have w1 : (writes 1 c.P).count ⟨4 + 3 * (h : Int), a, w⟩ = 0 := cnt_other fun e he => by rw [writes_r e he]; simp only; omega
  have l0 : ∀ b : Bool, ([⟨0, 0, b⟩] : List Ev).count ⟨4 + 3 * (h : Int), a, w⟩ = 0 := fun b => cnt_other fun e he => by rw [List.mem_singleton.1 he]; simp only; omega
  unfold opZ
  simp only [List.count_append, cnt_s o hh ha w, r1, w1, l0]; omega
theorem mem_op (o : c.Ok t L) {h : Nat} {e : Ev} (he : e ∈ opZ c t L) (hr : e.r = 4 + 3 * (h : Int)) : 0 ≤ e.a ∧ e.a < (((t + 2 - 2 * h + 1) * c.slo.toNat : Nat) : Int) := by
  have R : ∀ {x : Ev} {n : Nat}, x ∈ reads 1 n → x.r = 4 + 3 * (h : Int) → False := fun hx hy => by have := reads_r _ hx; omega
  have W : ∀ {x : Ev} {n : Nat}, x ∈ writes 1 n → x.r = 4 + 3 * (h : Int) → False := fun hx hy => by have := writes_r _ hx; omega
  unfold opZ at he
  simp only [List.mem_append, List.mem_singleton] at he
  rcases he with ((((((rfl | h1 | h1) | h1) | ((h1 | h1) | h1) | h1) | h1 | h1) | h1) | rfl)
  · simp only at hr; omega
  · exact mem_s o h1 hr
  · exact (R h1 hr).elim
  · exact mem_s o h1 hr
  · exact mem_s o h1 hr
  · exact (R h1 hr).elim
  · exact (W h1 hr).elim
  · exact mem_s o h1 hr
  · exact mem_s o h1 hr
  · exact (W h1 hr).elim
  · exact mem_s o h1 hr
  · simp only at hr; omega
end
end Go.Proofs.Tryz

/- Chapter 21 in plain words: places, the places that are not meant, words that are turned. -/
namespace Go.CPlain

def okb (n : Nat) (l : List Int) : Bool := decide (∀ x ∈ l, 0 ≤ x ∧ x < (n : Int)) && decide l.Nodup
theorem okb_iff {n : Nat} {l : List Int} : okb n l = true ↔ (∀ x ∈ l, 0 ≤ x ∧ x < (n : Int)) ∧ l.Nodup := by
  simp [okb]
theorem okb_false {n : Nat} {l : List Int} (h : ¬ ((∀ x ∈ l, 0 ≤ x ∧ x < (n : Int)) ∧ l.Nodup)) : okb n l = false := by
  cases e : okb n l with
  | false => rfl
  | true => exact absurd (okb_iff.1 e) h

def ints (n : Nat) : List Int := (List.range n).map fun (i : Nat) => (i : Int)
theorem mem_ints {n : Nat} {x : Int} : x ∈ ints n ↔ 0 ≤ x ∧ x < (n : Int) := by
  simp only [ints, List.mem_map, List.mem_range]
  constructor
  · rintro ⟨i, hi, rfl⟩; omega
  · rintro ⟨h0, h1⟩; exact ⟨x.toNat, by omega, by omega⟩
theorem nodup_ints (n : Nat) : (ints n).Nodup := by
  unfold ints List.Nodup
  rw [List.pairwise_map]
  exact List.nodup_range.imp fun h e => h (by omega)
theorem ints_succ (n : Nat) : ints (n + 1) = ints n ++ [(n : Int)] := by simp [ints, List.range_succ]

/-- the places below n that are not in a row -/
def rest (n : Nat) (l : List Int) : List Int := (ints n).filter fun x => decide (x ∉ l)
theorem rest_succ (n : Nat) (l : List Int) : rest (n + 1) l = rest n l ++ (if (n : Int) ∈ l then [] else [(n : Int)]) := by
  simp only [rest, ints_succ, List.filter_append]
  congr 1
  by_cases h : (n : Int) ∈ l <;> simp [h]
theorem rest_zero (l : List Int) : rest 0 l = [] := rfl
theorem rest_length (n : Nat) (l : List Int) : (rest n l).length ≤ n := by
  have := List.length_filter_le (fun x => decide (x ∉ l)) (ints n)
  simpa [rest, ints] using this

/-- all places, those that are meant first -/
def full (n : Nat) (l : List Int) : List Int := l ++ rest n l
theorem full_perm {n : Nat} {l : List Int} (h : okb n l = true) : List.Perm (full n l) (ints n) := by
  obtain ⟨h1, h2⟩ := okb_iff.1 h
  refine (List.perm_ext_iff_of_nodup ?_ (nodup_ints n)).2 fun x => ?_
  · unfold full
    rw [List.nodup_append]
    refine ⟨h2, (nodup_ints n).sublist List.filter_sublist, fun a ha b hb e => ?_⟩
    subst e
    simp [rest] at hb
    exact hb.2 ha
  · simp only [full, List.mem_append, rest, List.mem_filter, decide_eq_true_eq]
    constructor
    · rintro (h3 | h3)
      · exact mem_ints.2 (h1 x h3)
      · exact h3.1
    · intro h3
      by_cases h4 : x ∈ l
      · exact .inl h4
      · exact .inr ⟨h3, h4⟩
theorem full_length {n : Nat} {l : List Int} (h : okb n l = true) : (full n l).length = n := by
  rw [(full_perm h).length_eq]; simp [ints]
theorem full_nodup {n : Nat} {l : List Int} (h : okb n l = true) : (full n l).Nodup := (full_perm h).nodup_iff.2 (nodup_ints n)
theorem full_mem {n : Nat} {l : List Int} (h : okb n l = true) {x : Int} (hx : x ∈ full n l) : 0 ≤ x ∧ x < (n : Int) := mem_ints.1 ((full_perm h).mem_iff.1 hx)
theorem full_at {n : Nat} {l : List Int} (h : okb n l = true) {i : Nat} (hi : i < n) : 0 ≤ (full n l).getD i 0 ∧ (full n l).getD i 0 < (n : Int) := by
  have hl : i < (full n l).length := by rw [full_length h]; exact hi
  rw [List.getD_eq_getElem?_getD, List.getElem?_eq_getElem hl]
  exact full_mem h (List.getElem_mem hl)
theorem full_inj {n : Nat} {l : List Int} (h : okb n l = true) {i j : Nat} (hi : i < n) (hj : j < n) (e : (full n l).getD i 0 = (full n l).getD j 0) : i = j := by
  have hl := full_length h
  have hi' : i < (full n l).length := by omega
  have hj' : j < (full n l).length := by omega
  rw [List.getD_eq_getElem?_getD, List.getElem?_eq_getElem hi', List.getD_eq_getElem?_getD, List.getElem?_eq_getElem hj'] at e
  have hn := List.pairwise_iff_getElem.1 (full_nodup h)
  rcases Nat.lt_trichotomy i j with h1 | h1 | h1
  · exact absurd e (hn i j hi' hj' h1)
  · exact h1
  · exact absurd e.symm (hn j i hj' hi' h1)
/-- each place is one of them -/
theorem full_onto {n : Nat} {l : List Int} (h : okb n l = true) {k : Nat} (hk : k < n) : ∃ i, i < n ∧ (full n l).getD i 0 = (k : Int) := by
  have : (k : Int) ∈ full n l := (full_perm h).mem_iff.2 (mem_ints.2 (by omega))
  obtain ⟨i, hi, e⟩ := List.getElem_of_mem this
  refine ⟨i, by rw [← full_length h]; exact hi, ?_⟩
  rw [List.getD_eq_getElem?_getD, List.getElem?_eq_getElem hi]; exact e

/-- words laid at places, one by one -/
def scat (w : List UInt64) (a b : List Int) : Nat → List UInt64
  | 0 => List.replicate w.length 0
  | m + 1 => (scat w a b m).set (b.getD m 0).toNat (w.getD (a.getD m 0).toNat 0)
theorem scat_length (w : List UInt64) (a b : List Int) : ∀ m, (scat w a b m).length = w.length
  | 0 => by simp [scat]
  | m + 1 => by simp [scat, scat_length w a b m]

def turn (w : List UInt64) (f t : List Int) : List UInt64 := scat w (full w.length f) (full w.length t) w.length
theorem turn_length (w : List UInt64) (f t : List Int) : (turn w f t).length = w.length := scat_length _ _ _ _

theorem scat_get {w : List UInt64} {t : List Int} (ht : okb w.length t = true) (a : List Int) : ∀ m, m ≤ w.length → ∀ i, i < m →
    (scat w a (full w.length t) m).getD ((full w.length t).getD i 0).toNat 0 = w.getD (a.getD i 0).toNat 0
  | 0, _, i, hi => by omega
  | m + 1, hm, i, hi => by
    have hb := full_at ht (i := m) (by omega)
    have hbi := full_at ht (i := i) (by omega)
    simp only [scat]
    by_cases e : i = m
    · subst e
      rw [List.getD_eq_getElem?_getD, List.getElem?_set_self (by rw [scat_length]; omega)]; rfl
    · have : ((full w.length t).getD m 0).toNat ≠ ((full w.length t).getD i 0).toNat := fun h => e (full_inj ht (by omega) (by omega) (by omega)).symm
      rw [List.getD_eq_getElem?_getD, List.getElem?_set_ne this, ← List.getD_eq_getElem?_getD]
      exact scat_get ht a m (by omega) i (by omega)

/-- THE LAW of a turning -/
theorem turn_get {w : List UInt64} {f t : List Int} (ht : okb w.length t = true) {i : Nat} (hi : i < w.length) :
    (turn w f t).getD ((full w.length t).getD i 0).toNat 0 = w.getD ((full w.length f).getD i 0).toNat 0 := scat_get ht _ _ (Nat.le_refl _) i hi

theorem ext_full {a b : List UInt64} {n : Nat} {l : List Int} (h : okb n l = true) (ha : a.length = n) (hb : b.length = n)
    (he : ∀ i, i < n → a.getD ((full n l).getD i 0).toNat 0 = b.getD ((full n l).getD i 0).toNat 0) : a = b := by
  apply List.ext_getElem (by omega)
  intro k h1 h2
  obtain ⟨i, hi, e⟩ := full_onto h (k := k) (by omega)
  have := he i hi
  rw [e] at this
  simpa [List.getD_eq_getElem?_getD, h1, h2] using this

theorem turn_back {w : List UInt64} {f t : List Int} (hf : okb w.length f = true) (ht : okb w.length t = true) : turn (turn w f t) t f = w := by
  have hl := turn_length w f t
  refine ext_full hf (by rw [turn_length, hl]) rfl fun i hi => ?_
  have h1 := turn_get (w := turn w f t) (f := t) (t := f) (by rw [hl]; exact hf) (i := i) (by rw [hl]; exact hi)
  rw [hl] at h1
  rw [h1, turn_get ht hi]
theorem turn_self {w : List UInt64} {f : List Int} (hf : okb w.length f = true) : turn w f f = w :=
  ext_full hf (turn_length _ _ _) rfl fun i hi => turn_get hf hi
theorem turn_two {w : List UInt64} {a b c : List Int} (hb : okb w.length b = true) (hc : okb w.length c = true) : turn (turn w a b) b c = turn w a c := by
  have hl := turn_length w a b
  refine ext_full hc (by rw [turn_length, hl]) (turn_length _ _ _) fun i hi => ?_
  have h1 := turn_get (w := turn w a b) (f := b) (t := c) (by rw [hl]; exact hc) (i := i) (by rw [hl]; exact hi)
  rw [hl] at h1
  rw [h1, turn_get hb hi, turn_get hc hi]

/-- the words at the places of a whole row -/
theorem map_ints (w : List UInt64) : (ints w.length).map (fun x => w.getD x.toNat 0) = w := by
  apply List.ext_getElem (by simp [ints])
  intro i h1 h2
  simp [ints, List.getD_eq_getElem?_getD, h2]
theorem turn_perm {w : List UInt64} {f t : List Int} (hf : okb w.length f = true) (ht : okb w.length t = true) : List.Perm (turn w f t) w := by
  have hl := turn_length w f t
  have h1 : List.Perm ((full w.length t).map fun x => (turn w f t).getD x.toNat 0) (turn w f t) := by
    have := (full_perm ht).map fun x => (turn w f t).getD x.toNat 0
    have e := map_ints (turn w f t)
    rw [hl] at e
    rwa [e] at this
  have h2 : List.Perm ((full w.length f).map fun x => w.getD x.toNat 0) w := by
    have := (full_perm hf).map fun x => w.getD x.toNat 0
    rwa [map_ints w] at this
  have h3 : ((full w.length t).map fun x => (turn w f t).getD x.toNat 0) = ((full w.length f).map fun x => w.getD x.toNat 0) := by
    apply List.ext_getElem
    · simp [full_length hf, full_length ht]
    · intro i q1 q2
      have hi : i < w.length := by simpa [full_length ht] using q1
      have := turn_get (f := f) ht hi
      have g1 : i < (full w.length t).length := by simpa using q1
      have g2 : i < (full w.length f).length := by simpa using q2
      simp only [List.getElem_map]
      rw [List.getD_eq_getElem?_getD (l := full w.length t), List.getElem?_eq_getElem g1, List.getD_eq_getElem?_getD (l := full w.length f), List.getElem?_eq_getElem g2] at this
      exact this
  exact h1.symm.trans (h3 ▸ h2)

/-- a sum goes by words alone, not by their order -/
def sumU (f : UInt64 → UInt64) (l : List UInt64) : UInt64 := l.foldl (fun s x => s + f x) 0
theorem sumU_perm (f : UInt64 → UInt64) {a b : List UInt64} (h : List.Perm a b) : sumU f a = sumU f b :=
  h.foldl_eq' (fun x _ y _ z => by rw [UInt64.add_assoc, UInt64.add_assoc, UInt64.add_comm (f x)]) 0
theorem sumU_succ (f : UInt64 → UInt64) (l : List UInt64) (m : Nat) (h : m < l.length) : sumU f (l.take (m + 1)) = sumU f (l.take m) + f l[m] := by
  unfold sumU
  rw [List.take_add_one, List.getElem?_eq_getElem h]
  simp only [Option.toList_some, List.foldl_append, List.foldl_cons, List.foldl_nil]

/-- the words at the places that are not meant -/
def left (w : List UInt64) (l : List Int) : List UInt64 := (rest w.length l).map fun x => w.getD x.toNat 0
def leftN (w : List UInt64) (l : List Int) (m : Nat) : List UInt64 := (rest m l).map fun x => w.getD x.toNat 0
theorem leftN_succ (w : List UInt64) (l : List Int) (m : Nat) : leftN w l (m + 1) = leftN w l m ++ (if (m : Int) ∈ l then [] else [w.getD m 0]) := by
  simp only [leftN, rest_succ, List.map_append]
  congr 1
  by_cases h : (m : Int) ∈ l <;> simp [h]
theorem turn_left {w : List UInt64} {f t : List Int} (hf : okb w.length f = true) (ht : okb w.length t = true) (hl : f.length = t.length) : left (turn w f t) t = left w f := by
  have e0 := turn_length w f t
  have r1 := full_length hf; have r2 := full_length ht
  unfold full at r1 r2
  rw [List.length_append] at r1 r2
  unfold left
  rw [e0]
  apply List.ext_getElem
  · simp; omega
  · intro i q1 q2
    have g1 : i < (rest w.length t).length := by simpa using q1
    have g2 : i < (rest w.length f).length := by simpa using q2
    simp only [List.getElem_map]
    have := turn_get (f := f) ht (i := f.length + i) (by omega)
    have a1 : (full w.length t).getD (f.length + i) 0 = (rest w.length t)[i] := by
      rw [List.getD_eq_getElem?_getD, full, List.getElem?_append_right (by omega), hl, Nat.add_sub_cancel_left, List.getElem?_eq_getElem g1]; rfl
    have a2 : (full w.length f).getD (f.length + i) 0 = (rest w.length f)[i] := by
      rw [List.getD_eq_getElem?_getD, full, List.getElem?_append_right (by omega), Nat.add_sub_cancel_left, List.getElem?_eq_getElem g2]; rfl
    rw [a1, a2] at this
    exact this
/-- what was meant -/
theorem turn_meant {w : List UInt64} {f t : List Int} (hf : okb w.length f = true) (ht : okb w.length t = true) (hl : f.length = t.length) {i : Nat} (hi : i < f.length) :
    (turn w f t).getD (t.getD i 0).toNat 0 = w.getD (f.getD i 0).toNat 0 := by
  have r1 := full_length hf
  unfold full at r1
  rw [List.length_append] at r1
  have := turn_get (f := f) ht (i := i) (by omega)
  have a1 : (full w.length t).getD i 0 = t.getD i 0 := by
    rw [List.getD_eq_getElem?_getD, full, List.getElem?_append_left (by omega), List.getD_eq_getElem?_getD]
  have a2 : (full w.length f).getD i 0 = f.getD i 0 := by
    rw [List.getD_eq_getElem?_getD, full, List.getElem?_append_left (by omega), List.getD_eq_getElem?_getD]
  rw [a1, a2] at this
  exact this
end Go.CPlain

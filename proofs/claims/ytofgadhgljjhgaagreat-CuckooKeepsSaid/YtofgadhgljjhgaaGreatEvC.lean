/- Networks, sorts, levels: how they look at cells. -/
import Derived.Test.YtofgadhgljjhgaaGreatEvB
namespace Go.Proofs.Tryz
open Go Go.Sh Go.RowKit
set_option maxRecDepth 8000
def roundE (n : Int) : Nat := if n < 1 then 0 else min (Lib.bitLen (n - 1).toNat) 62
theorem roundI_E (n : Int) : roundI n = 2 ^ roundE n := by unfold roundI roundE; split <;> rfl
theorem roundE_le {n : Int} {k : Nat} (hk : k ≤ 62) (h : n ≤ 2 ^ k) : roundE n ≤ k := by
 unfold roundE
 split
 · omega
 · have e' : ((2 ^ k : Nat) : Int) = 2 ^ k := by simp
   have := Lib.bitLen_le (n - 1).toNat k (by omega) (by omega)
   omega
theorem pow_succ_int2 (j : Nat) : (2 : Int) * 2 ^ j = 2 ^ (j + 1) := by rw [Int.pow_succ]; omega
/-! ## networks -/
theorem ibit_and {i b : Nat} (hi : i < 2 ^ 63) (hb : b < 63) : ibit .and .i64 (i : Int) ((2 : Int) ^ b) = ((i &&& 2 ^ b : Nat) : Int) := by
 have e : ((2 : Int) ^ b) = ((2 ^ b : Nat) : Int) := by simp
 have h1 : 2 ^ b < 2 ^ 64 := Nat.pow_lt_pow_right (by decide) (by omega)
 rw [e]
 show (((BitVec.ofInt 64 (i : Int) &&& BitVec.ofInt 64 ((2 ^ b : Nat) : Int)).toNat : Nat) : Int) = _
 rw [BitVec.toNat_and, BitVec.ofInt_natCast, BitVec.ofInt_natCast, BitVec.toNat_ofNat, BitVec.toNat_ofNat, Nat.mod_eq_of_lt (by omega), Nat.mod_eq_of_lt h1]
theorem ibit_or {i b : Nat} (hi : i < 2 ^ 63) (hb : b < 63) : ibit .or .i64 (i : Int) ((2 : Int) ^ b) = ((i ||| 2 ^ b : Nat) : Int) := by
 have e : ((2 : Int) ^ b) = ((2 ^ b : Nat) : Int) := by simp
 have h1 : 2 ^ b < 2 ^ 64 := Nat.pow_lt_pow_right (by decide) (by omega)
 rw [e]
 show (((BitVec.ofInt 64 (i : Int) ||| BitVec.ofInt 64 ((2 ^ b : Nat) : Int)).toNat : Nat) : Int) = _
 rw [BitVec.toNat_or, BitVec.ofInt_natCast, BitVec.ofInt_natCast, BitVec.toNat_ofNat, BitVec.toNat_ofNat, Nat.mod_eq_of_lt (by omega), Nat.mod_eq_of_lt h1]
theorem and_pow0 : ∀ i : Fin 1024, ∀ b : Fin 11, decide (i.val &&& 2 ^ b.val = 0) = decide (i.val / 2 ^ b.val % 2 = 0) := by decide +kernel
theorem or_pow : ∀ i : Fin 1024, ∀ b : Fin 10, i.val / 2 ^ b.val % 2 = 0 → i.val ||| 2 ^ b.val = i.val + 2 ^ b.val := by decide +kernel
theorem and_bd (i b : Nat) : i &&& 2 ^ b ≤ i := Nat.and_le_left
def ipairs (k j n : Nat) : List Pr := ((List.range n).filter fun i => decide (i / j % 2 = 0)).map fun (i : Nat) => (⟨(i : Int), ((i + j : Nat) : Int), decide (i / k % 2 = 0)⟩ : Pr)
theorem ipairs_succ (k j n : Nat) : ipairs k j (n + 1) = ipairs k j n ++ (if n / j % 2 = 0 then [(⟨(n : Int), ((n + j : Nat) : Int), decide (n / k % 2 = 0)⟩ : Pr)] else []) := by
 unfold ipairs
 rw [List.range_succ, List.filter_append, List.map_append]
 congr 1
 by_cases h : n / j % 2 = 0 <;> simp [h]
theorem ipairs_length (k j n : Nat) : (ipairs k j n).length ≤ n := by
 unfold ipairs
 rw [List.length_map]
 exact Nat.le_trans (List.length_filter_le _ _) (by simp)
def jl (n a : Nat) : Nat → List Pr
 | 0 => []
 | b + 1 => ipairs (2 ^ (a + 1)) (2 ^ b) n ++ jl n a b
theorem jl_length (n a b : Nat) : (jl n a b).length ≤ b * n := by
 induction b with
 | zero => simp [jl]
 | succ b ih => simp only [jl, List.length_append]; have := ipairs_length (2 ^ (a + 1)) (2 ^ b) n; rw [Nat.succ_mul]; omega
def kl (n a : Nat) : List Pr := (List.range a).flatMap fun a => jl n a (a + 1)
theorem kl_succ (n a : Nat) : kl n (a + 1) = kl n a ++ jl n a (a + 1) := by simp [kl, List.range_succ]
theorem kl_length (n a : Nat) : (kl n a).length ≤ a * a * n := by
 induction a with
 | zero => simp [kl]
 | succ a ih =>
   rw [kl_succ, List.length_append]
   have h1 := jl_length n a (a + 1)
   have h2 : (a + 1) * (a + 1) * n = a * a * n + a * n + (a + 1) * n := by
     have e : (a + 1) * (a + 1) = a * a + a + (a + 1) := by rw [Nat.mul_add, Nat.add_mul]; omega
     rw [e, Nat.add_mul, Nat.add_mul]
   omega
def pairsL (K : Nat) : List Pr := kl (2 ^ K) K
theorem pairsL_length {K : Nat} (hK : K ≤ 10) : (pairsL K).length ≤ 102400 := by
 have h1 := kl_length (2 ^ K) K
 have h2 : 2 ^ K ≤ 2 ^ 10 := Nat.pow_le_pow_right (by decide) hK
 have h3 : K * K ≤ 10 * 10 := Nat.mul_le_mul hK hK
 have h4 : K * K * 2 ^ K ≤ 100 * 1024 := Nat.mul_le_mul h3 h2
 unfold pairsL; omega
def hv (c : Nat) : Int := if c = 0 then 0 else 2 ^ (c - 1)
theorem hv_succ (c : Nat) : hv (c + 1) = 2 ^ c := by simp [hv]
theorem hv_half {c : Nat} (hc : c ≤ 10) : w64 (((2 : Int) ^ c).tdiv 2) = hv c := by
 cases c with
 | zero => rw [show ((2 : Int) ^ 0).tdiv 2 = 0 from rfl, w64_id (by omega) (by omega)]; rfl
 | succ c =>
   have hb := pow_bds (k := c) (by omega)
   rw [hv_succ, ← pow_succ_int2]
   have : (2 * (2 : Int) ^ c).tdiv 2 = 2 ^ c := by rw [Int.tdiv_eq_ediv_of_nonneg (by omega)]; omega
   rw [this, w64_id (by omega) (by omega)]
theorem net_pairs1 {K : Nat} (hK : K ≤ 10) {y : Value} {S : List Pr → (Nat → Prop) → Hp → Prop} (sk : Sink y (fun x => .agg (prc x).toArray) S 1000000000000) {F : Nat → Prop} {h : Hp} {b : Nat}
   (s0 : S [] F h) (hc : hcell h b 0 = some (.int .i64 (2 ^ K))) (hb : ¬ F b) :
   callK prog 186 [y, vp ⟨b, 0⟩] h fun _ h2 => ∃ F', S (pairsL K) F' h2 ∧ Mv F h F' h2 := by
 have hn : h b ≠ none := hcell_some hc
 have cell : ∀ {F' h'}, Mv F h F' h' → hcell h' b 0 = some (.int .i64 (2 ^ K)) ∧ ¬ F' b := fun m => ⟨by rw [hcell_same (m.2.1 b hn hb), hc], m.out hn hb⟩
 have hKb := pow_bds hK
 have hKn : 2 ^ K ≤ 1024 := Nat.pow_le_pow_right (n := 2) (by decide) hK
 have eK : ((2 ^ K : Nat) : Int) = 2 ^ K := by simp
 refine c186 y ⟨b, 0⟩ ?_
 unfold G186
 refine ⟨fun v q n h1 m => v = y ∧ q = ⟨b, 0⟩ ∧ ∃ a : Nat, n = 2 ^ (a + 1) ∧ a ≤ K ∧ (∃ F', S (kl (2 ^ K) a) F' h1 ∧ Mv F h F' h1) ∧ m = K - a, ⟨_, rfl, rfl, 0, rfl, Nat.zero_le _, ⟨F, s0, Mv.refl _ _⟩, rfl⟩, ?_⟩
 rintro v q n h1 m ⟨rfl, rfl, a, hna, ha, ⟨F1, s1, m1⟩, rfl⟩
 refine ⟨_, (cell m1).1, ifD (fun hle => ?_) fun hgt => ?_⟩
 · have haK : a < K := by
     rcases Nat.lt_or_ge a K with h | h
     · exact h
     · have : a = K := by omega
       subst this; rw [← pow_succ_int2] at hna; omega
   have hap := pow_bds (k := a + 1) (by omega)
   have hap0 := pow_bds (k := a) (by omega)
   rw [hna, hv_half (c := a + 1) (by omega)]
   refine ⟨by decide, fun v2 q2 n2 j h2 m => v2 = v ∧ q2 = ⟨b, 0⟩ ∧ n2 = 2 ^ (a + 1) ∧ ∃ c : Nat, j = hv c ∧ c ≤ a + 1 ∧ (∃ F' l, S l F' h2 ∧ Mv F h F' h2 ∧ l ++ jl (2 ^ K) a c = kl (2 ^ K) (a + 1)) ∧ c = m,
     ⟨_, rfl, rfl, rfl, a + 1, rfl, Nat.le_refl _, ⟨F1, _, s1, m1, (kl_succ _ _).symm⟩, rfl⟩, ?_⟩
   rintro v2 q2 n2 j h2 m ⟨rfl, rfl, hn2, c, hj, hca, ⟨F2, l, s2, m2, hl⟩, rfl⟩
   refine ifD (fun hpos => ?_) fun hnpos => ?_
   · cases c with
     | zero => rw [hj] at hpos; simp [hv] at hpos
     | succ c =>
       rw [hv_succ] at hj
       have hcb := pow_bds (k := c) (by omega)
       refine ⟨_, (cell m2).1, ?_⟩
       refine ⟨fun v3 q3 n6 n7 n8 i h3 m => v3 = v2 ∧ q3 = ⟨b, 0⟩ ∧ n6 = 2 ^ (a + 1) ∧ n7 = 2 ^ c ∧ n8 = 2 ^ K ∧ ∃ u : Nat, i = u ∧ u ≤ 2 ^ K ∧ (∃ F', S (l ++ ipairs (2 ^ (a + 1)) (2 ^ c) u) F' h3 ∧ Mv F h F' h3) ∧ m = 2 ^ K - u,
         ⟨_, rfl, rfl, hn2, hj, rfl, 0, rfl, Nat.zero_le _, ⟨F2, by simpa [ipairs] using s2, m2⟩, rfl⟩, ?_⟩
       rintro v3 q3 n6 n7 n8 i h3 m ⟨rfl, rfl, hn6, hn7, hn8, u, rfl, hu, ⟨F3, s3, m3⟩, rfl⟩
       refine ifD (fun hlt => ?_) fun hge => ?_
       · have hu2 : u < 2 ^ K := by omega
         have hu3 : u < 2 ^ 63 := by omega
         have ea := ibit_and (i := u) (b := c) hu3 (by omega)
         have eb := ibit_and (i := u) (b := a + 1) hu3 (by omega)
         have eo := ibit_or (i := u) (b := c) hu3 (by omega)
         have la := and_bd u c; have lb := and_bd u (a + 1)
         have d1 := and_pow0 ⟨u, by omega⟩ ⟨c, by omega⟩
         have d2 := and_pow0 ⟨u, by omega⟩ ⟨a + 1, by omega⟩
         simp only at d1 d2
         rw [hn6, hn7, ea, eb, eo, w64_id (n := ((u &&& 2 ^ c : Nat) : Int)) (by omega) (by omega), w64_id (n := ((u &&& 2 ^ (a + 1) : Nat) : Int)) (by omega) (by omega)]
         have nx : ∀ {h4 F4}, S (l ++ ipairs (2 ^ (a + 1)) (2 ^ c) (u + 1)) F4 h4 → Mv F h F4 h4 → ∃ k3, k3 < 2 ^ K - u ∧ v3 = v3 ∧ (⟨b, 0⟩ : Pt) = ⟨b, 0⟩ ∧ (2 : Int) ^ (a + 1) = 2 ^ (a + 1) ∧ (2 : Int) ^ c = 2 ^ c ∧ n8 = 2 ^ K ∧ ∃ u' : Nat, w64 ((u : Int) + 1) = u' ∧ u' ≤ 2 ^ K ∧ (∃ F', S (l ++ ipairs (2 ^ (a + 1)) (2 ^ c) u') F' h4 ∧ Mv F h F' h4) ∧ k3 = 2 ^ K - u' :=
           fun g1 g2 => ⟨_, by omega, rfl, rfl, rfl, rfl, hn8, u + 1, w64_id (by omega) (by omega), by omega, ⟨_, g1, g2⟩, rfl⟩
         refine ifD (fun hz => ?_) fun hz => ?_
         · have hz0 : u / 2 ^ c % 2 = 0 := by
             have : decide (u &&& 2 ^ c = 0) = true := decide_eq_true (by omega)
             rw [d1] at this; exact of_decide_eq_true this
           have ho := or_pow ⟨u, by omega⟩ ⟨c, by omega⟩ hz0
           simp only at ho
           have hcN : 2 ^ c ≤ 1024 := Nat.pow_le_pow_right (n := 2) (by decide) (show c ≤ 10 by omega)
           rw [ho, w64_id (n := ((u + 2 ^ c : Nat) : Int)) (by omega) (by omega)]
           have e3 : decide (((u &&& 2 ^ (a + 1) : Nat) : Int) = 0) = decide (u / 2 ^ (a + 1) % 2 = 0) := by rw [← d2]; congr 1; simp
           rw [e3]
           have hlen : (l ++ ipairs (2 ^ (a + 1)) (2 ^ c) u).length < 1000000000000 := by
             have h1 := congrArg List.length hl
             rw [List.length_append] at h1
             have h2 := kl_length (2 ^ K) (a + 1)
             have h3 := ipairs_length (2 ^ (a + 1)) (2 ^ c) u
             have h4 : (a + 1) * (a + 1) * 2 ^ K ≤ 10 * 10 * 1024 := Nat.mul_le_mul (Nat.mul_le_mul (by omega) (by omega)) hKn
             rw [List.length_append]; omega
           refine (sk.put _ _ _ ⟨(u : Int), ((u + 2 ^ c : Nat) : Int), decide (u / 2 ^ (a + 1) % 2 = 0)⟩ s3 hlen).mono ?_
           rintro _ h4 ⟨rfl, F4, s4, m4⟩
           exact ⟨_, rfl, ifB_neg rfl (nx (by rw [ipairs_succ, if_pos hz0, ← List.append_assoc]; exact s4) (m3.trans m4))⟩
         · have hz0 : ¬ u / 2 ^ c % 2 = 0 := fun e => by
             have : decide (u / 2 ^ c % 2 = 0) = true := decide_eq_true e
             rw [← d1] at this
             have := of_decide_eq_true this
             omega
           exact nx (by rw [ipairs_succ, if_neg hz0, List.append_nil]; exact s3) m3
       · have : u = 2 ^ K := by omega
         rw [hn7, hv_half (by omega)]
         refine ⟨by decide, _, by omega, rfl, rfl, hn6, c, rfl, by omega, ⟨F3, _, s3, m3, ?_⟩, rfl⟩
         rw [this, List.append_assoc]; exact hl
   · have : c = 0 := by
       cases c with
       | zero => rfl
       | succ c => rw [hj, hv_succ] at hnpos; have := pow_bds (k := c) (by omega); omega
     subst this
     simp only [jl, List.append_nil] at hl
     rw [hn2, Int.mul_comm, pow_succ_int2]
     have hp2 := pow_le_pow (show a + 1 + 1 ≤ 11 by omega)
     rw [w64_id (by have := pow_le_pow (Nat.zero_le (a + 1 + 1)); simp at this; omega) (by simp at hp2; omega)]
     exact ⟨_, by omega, rfl, rfl, a + 1, rfl, by omega, ⟨F2, by rw [← hl]; exact s2, m2⟩, rfl⟩
 · have haK : a = K := by
     rcases Nat.lt_or_ge a K with h | h
     · have := pow_le_pow (show a + 1 ≤ K by omega); omega
     · omega
   subst haK
   exact ⟨F1, s1, m1⟩
theorem net_right {k : Nat} (hk : k ≤ 10) : PureC prog 168 [.int .i64 (2 ^ k)] (.bool true) := by
 intro h
 have hb := pow_bds hk
 refine c168 _ ?_
 unfold G168
 refine ifD (fun _ => ifB_pos (by simp; omega) ⟨?_, Keep.refl _⟩) fun e => absurd hb.1 e
 rw [w64_id (n := 2 ^ k - 1) (by omega) (by omega), pow_and k hk, w64_id (by decide) (by decide)]
 rfl
theorem net_pairs {K : Nat} (hK : K ≤ 10) (h : Hp) : callK prog 148 [.int .i64 (2 ^ K)] h fun v h' => ∃ s, v = vs s ∧ OwnM 3 prc h h' s (pairsL K) ∧ Keep h h' := by
 refine c148 _ ?_
 unfold G148
 refine (net_right hK).to fun h1 k1 => ⟨_, rfl, ifB_neg rfl ?_⟩
 refine c170 _ ?_
 unfold G170
 refine newC fun b h2 f2 e2 k2 => ⟨_, rfl, ?_⟩
 have hL := pairsL_length hK
 refine (collect_pr (g := 186) (caps := [vp ⟨b, 0⟩]) (L := pairsL K) (h := h2) (by omega) fun y S sk F h3 k3 s0 f0 => ?_).mono ?_
 · exact net_pairs1 hK sk s0 (rd1 (k3.get e2) rfl) fun hF => by rw [f0 b hF] at e2; cases e2
 · rintro _ h3 ⟨s, rfl, o, k⟩
   exact ⟨_, rfl, _, rfl, o.baseK (k1.trans k2), (k1.trans k2).trans k⟩
/-! ## sorts -/
def sort4 (reg : Int) (p : Pr) : List Ev := [⟨reg, p.i, false⟩, ⟨reg, p.j, false⟩, ⟨reg, p.i, true⟩, ⟨reg, p.j, true⟩]
def sortEv (reg : Int) (K : Nat) : List Ev := (pairsL K).flatMap (sort4 reg)
theorem sort4_length (reg : Int) (l : List Pr) : (l.flatMap (sort4 reg)).length = 4 * l.length := by
 induction l with
 | nil => rfl
 | cons p l ih => simp [sort4, ih]; omega
/-! ## levels -/
def fillEv (first : Int) (sp : List Sp) (n : Nat) : List Ev := (List.range n).flatMap fun (i : Nat) => (if i < sp.length then [(⟨(sp.getD i ⟨0, 0⟩).r, (sp.getD i ⟨0, 0⟩).a, false⟩ : Ev)] else []) ++ [⟨first + 2, i, true⟩]
theorem fillEv_succ (first : Int) (sp : List Sp) (n : Nat) : fillEv first sp (n + 1) = fillEv first sp n ++ ((if n < sp.length then [(⟨(sp.getD n ⟨0, 0⟩).r, (sp.getD n ⟨0, 0⟩).a, false⟩ : Ev)] else []) ++ [⟨first + 2, n, true⟩]) := by simp [fillEv, List.range_succ]
theorem fillEv_length (first : Int) (sp : List Sp) (n : Nat) : (fillEv first sp n).length ≤ 2 * n := by
 induction n with
 | zero => simp [fillEv]
 | succ n ih => rw [fillEv_succ, List.length_append]; split <;> simp <;> omega
def backEv (first : Int) (sp : List Sp) (n : Nat) : List Ev := (List.range n).flatMap fun (i : Nat) => [(⟨first + 2, i, false⟩ : Ev), ⟨(sp.getD i ⟨0, 0⟩).r, (sp.getD i ⟨0, 0⟩).a, true⟩]
theorem backEv_succ (first : Int) (sp : List Sp) (n : Nat) : backEv first sp (n + 1) = backEv first sp n ++ [(⟨first + 2, n, false⟩ : Ev), ⟨(sp.getD n ⟨0, 0⟩).r, (sp.getD n ⟨0, 0⟩).a, true⟩] := by simp [backEv, List.range_succ]
theorem backEv_length (first : Int) (sp : List Sp) (n : Nat) : (backEv first sp n).length = 2 * n := by
 induction n with
 | zero => rfl
 | succ n ih => rw [backEv_succ, List.length_append, ih]; simp; omega
def turnEv (first : Int) (E : Nat) : List Ev := writes (first + 2) (2 ^ E) ++ sortEv (first + 2) E
def levEv (k : Nat) (s t : Int) (first : Int) (leaf : Nat) : List Ev :=
 fillEv first (spotsL k s t first leaf) (2 ^ roundE (plc k s t)) ++ turnEv first (roundE (plc k s t)) ++ turnEv first (roundE (plc k s t)) ++ backEv first (spotsL k s t first leaf) (spotsL k s t first leaf).length
end Go.Proofs.Tryz

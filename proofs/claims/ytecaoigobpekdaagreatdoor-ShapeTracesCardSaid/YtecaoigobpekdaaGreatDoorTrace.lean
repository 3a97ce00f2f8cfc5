/- Chapter 20: operations, passes, and all looks of some operations. -/
import Derived.Test.YtecaoigobpekdaaGreatDoorWalk
namespace Go.Proofs.Tryz
open Go Go.Sh Go.RowKit
set_option maxRecDepth 8000

def dr (L k : Nat) (ws : List Int) : List Int := ws.drop (k * L)
theorem dr_dr (L a b : Nat) (ws : List Int) : dr L a (dr L b ws) = dr L (b + a) ws := by simp [dr, List.drop_drop, Nat.add_mul]
theorem dr_length (L k : Nat) (ws : List Int) : (dr L k ws).length = ws.length - k * L := by simp [dr]
theorem dr_zero (L : Nat) (ws : List Int) : dr L 0 ws = ws := by simp [dr]

section
variable (c : Cfg) (t L : Nat)
abbrev Cfg.K : Nat := c.kic.toNat
abbrev Cfg.P : Nat := c.spi.toNat
abbrev Cfg.B : Nat := c.bat.toNat
abbrev Cfg.C : Nat := (c.cap + c.bat).toNat
def findEv (ws : List Int) : List Ev := sEv c t L ws 2 ++ reads 1 c.P
def remEv (ws : List Int) : List Ev := sEv c t L ws 1 ++ writes 1 c.P
def putEv (ws : List Int) : List Ev := sEv c t L ws c.K ++ reads 1 c.P ++ writes 1 c.P ++ sEv c t L (dr L c.K ws) c.K
def opEv (ws : List Int) : List Ev := [⟨0, 0, false⟩] ++ findEv c t L ws ++ sEv c t L (dr L 2 ws) 1 ++ putEv c t L (dr L 3 ws) ++ remEv c t L (dr L (3 + 2 * c.K) ws) ++ sEv c t L (dr L (4 + 2 * c.K) ws) 1 ++ [⟨0, 0, true⟩]
def tabEv (ws : List Int) (n : Nat) : List Ev := (List.range n).flatMap fun (i : Nat) => (if i < c.C then sEv c t L (dr L i ws) 1 else []) ++ [⟨2, i, true⟩]
def goEv (ws : List Int) (n : Nat) : List Ev := (List.range n).flatMap fun (j : Nat) => [⟨2, j, false⟩] ++ findEv c t L (dr L (4 * j) ws) ++ remEv c t L (dr L (4 * j + 2) ws) ++ sEv c t L (dr L (4 * j + 3) ws) 1
def passEv (ws : List Int) : List Ev := [⟨0, 0, false⟩] ++ tabEv c t L ws (2 ^ roundE (c.cap + c.bat)) ++ sortEv 2 (roundE (c.cap + c.bat)) ++ goEv c t L (dr L c.C ws) c.B ++ [⟨0, 0, true⟩]
def usedN (n : Nat) : Nat := n * (5 + 2 * c.K) + n / c.B * (c.C + 4 * c.B)
def trEv (ws : List Int) : Nat → List Ev
  | 0 => []
  | n + 1 => trEv ws n ++ opEv c t L (dr L (usedN c n) ws) ++ (if (n + 1) % c.B = 0 then passEv c t L (dr L (usedN c n + (5 + 2 * c.K)) ws) else [])
end
section
variable {c : Cfg} {t L : Nat}
theorem Cfg.Ok.nats (o : c.Ok t L) : ((c.K : Nat) : Int) = c.kic ∧ ((c.P : Nat) : Int) = c.spi ∧ ((c.B : Nat) : Int) = c.bat ∧ ((c.C : Nat) : Int) = c.cap + c.bat ∧ 1 ≤ c.K ∧ c.K ≤ 16 ∧ 1 ≤ c.P ∧ c.P ≤ 32 ∧ 1 ≤ c.B ∧ c.B ≤ 16 ∧ 2 ≤ c.C ∧ c.C ≤ 80 := by
  have := o.kic; have := o.spi; have := o.bat; have := o.cap
  simp only [Cfg.K, Cfg.P, Cfg.B, Cfg.C]; omega
theorem tabEv_succ (ws : List Int) (n : Nat) : tabEv c t L ws (n + 1) = tabEv c t L ws n ++ ((if n < c.C then sEv c t L (dr L n ws) 1 else []) ++ [⟨2, n, true⟩]) := by simp [tabEv, List.range_succ]
theorem goEv_succ (ws : List Int) (n : Nat) : goEv c t L ws (n + 1) = goEv c t L ws n ++ ([⟨2, n, false⟩] ++ findEv c t L (dr L (4 * n) ws) ++ remEv c t L (dr L (4 * n + 2) ws) ++ sEv c t L (dr L (4 * n + 3) ws) 1) := by simp [goEv, List.range_succ]
theorem sl_len (o : c.Ok t L) (ws : List Int) (n : Nat) : (sEv c t L ws n).length ≤ 5000000 * n := storeEv_length o.st 3 ws n
theorem find_len (o : c.Ok t L) (ws : List Int) : (findEv c t L ws).length ≤ 10000100 := by
  have := sl_len o ws 2; have := o.nats
  simp only [findEv, List.length_append, reads_length]; omega
theorem rem_len (o : c.Ok t L) (ws : List Int) : (remEv c t L ws).length ≤ 5000100 := by
  have := sl_len o ws 1; have := o.nats
  simp only [remEv, List.length_append, writes_length]; omega
theorem put_len (o : c.Ok t L) (ws : List Int) : (putEv c t L ws).length ≤ 160000100 := by
  have := sl_len o ws c.K; have := sl_len o (dr L c.K ws) c.K; have := o.nats
  simp only [putEv, List.length_append, reads_length, writes_length]; omega
theorem op_len (o : c.Ok t L) (ws : List Int) : (opEv c t L ws).length ≤ 200000000 := by
  have := find_len o ws; have := rem_len o (dr L (3 + 2 * c.K) ws); have := put_len o (dr L 3 ws)
  have := sl_len o (dr L 2 ws) 1; have := sl_len o (dr L (4 + 2 * c.K) ws) 1
  simp only [opEv, List.length_append, List.length_cons, List.length_nil]; omega
theorem tab_len (o : c.Ok t L) (ws : List Int) (n : Nat) : (tabEv c t L ws n).length ≤ 5000001 * n := by
  induction n with
  | zero => simp [tabEv]
  | succ n ih =>
    have := sl_len o (dr L n ws) 1
    rw [tabEv_succ, List.length_append, List.length_append]
    split <;> simp only [List.length_cons, List.length_nil] <;> omega
theorem go_len (o : c.Ok t L) (ws : List Int) (n : Nat) : (goEv c t L ws n).length ≤ 20000300 * n := by
  induction n with
  | zero => simp [goEv]
  | succ n ih =>
    have := find_len o (dr L (4 * n) ws); have := rem_len o (dr L (4 * n + 2) ws); have := sl_len o (dr L (4 * n + 3) ws) 1
    rw [goEv_succ]
    simp only [List.length_append, List.length_cons, List.length_nil]; omega
theorem roundE_C (o : c.Ok t L) : roundE (c.cap + c.bat) ≤ 7 ∧ 2 ^ roundE (c.cap + c.bat) ≤ 128 ∧ ((2 ^ roundE (c.cap + c.bat) : Nat) : Int) = 2 ^ roundE (c.cap + c.bat) ∧ c.C ≤ 2 ^ roundE (c.cap + c.bat) := by
  have := o.cap; have := o.bat; have hn := o.nats
  have h1 : roundE (c.cap + c.bat) ≤ 7 := roundE_le (by decide) (by simp; omega)
  have h2 : 2 ^ roundE (c.cap + c.bat) ≤ 128 := Nat.pow_le_pow_right (n := 2) (by decide) h1
  have h3 : ((2 ^ roundE (c.cap + c.bat) : Nat) : Int) = 2 ^ roundE (c.cap + c.bat) := by simp
  have h4 := le_roundI (n := c.cap + c.bat) (by omega)
  rw [roundI_E] at h4
  exact ⟨h1, h2, h3, by omega⟩
theorem pass_len (o : c.Ok t L) (ws : List Int) : (passEv c t L ws).length ≤ 1000000000 := by
  have hr := roundE_C o; have hn := o.nats
  have := tab_len o ws (2 ^ roundE (c.cap + c.bat)); have := go_len o (dr L c.C ws) c.B
  have h4 : (sortEv 2 (roundE (c.cap + c.bat))).length = 4 * (pairsL (roundE (c.cap + c.bat))).length := sort4_length _ _
  have := pairsL_length (K := roundE (c.cap + c.bat)) (by omega)
  simp only [passEv, List.length_append, List.length_cons, List.length_nil]; omega
theorem tr_len (o : c.Ok t L) (ws : List Int) (n : Nat) : (trEv c t L ws n).length ≤ 1200000000 * n := by
  induction n with
  | zero => simp [trEv]
  | succ n ih =>
    have := op_len o (dr L (usedN c n) ws); have := pass_len o (dr L (usedN c n + (5 + 2 * c.K)) ws)
    simp only [trEv, List.length_append]
    split <;> (try simp only [List.length_nil]) <;> omega

variable {y : Value} {S : List Ev → (Nat → Prop) → Hp → Prop}
abbrev Wend (c : Cfg) (t L : Nat) (y : Value) (S : List Ev → (Nat → Prop) → Hp → Prop) (B : Nat → Prop) (b : Nat) (acc : List Ev) (ws : List Int) (F : Nat → Prop) (h : Hp) (v : Value) (h' : Hp) : Prop :=
  v = .bool true ∧ ∃ F', Wk c t L y S B b acc ws F' h' ∧ Mv F h F' h'
theorem walk_reads (sk : Sink y (fun e => .agg (evc e).toArray) S 1000000000000) (o : c.Ok t L) {B : Nat → Prop} {b : Nat} {acc : List Ev} {ws : List Int} {F : Nat → Prop} {h : Hp} (w : Wk c t L y S B b acc ws F h) (hl : acc.length ≤ 900000000000) {Q : Value → Hp → Prop}
    (hq : ∀ v h', Wend c t L y S B b (acc ++ reads 1 c.P) ws F h v h' → Q v h') :
    callK prog 40 [.int .i64 1, .int .i64 c.spi] h fun v2 h2 => ∃ s1 : Sl, v2 = vs s1 ∧ callK prog 86 [vp ⟨b, 0⟩, vs s1] h2 Q := by
  have hn := o.nats
  rw [← hn.2.1]
  refine (scan_reads 1 c.P (by omega) h).mono ?_
  rintro _ h1 ⟨s1, rfl, o1, k1⟩
  exact ⟨s1, rfl, (walk_own sk w o1 k1 (by rw [reads_length]; omega)).mono hq⟩
theorem walk_writes (sk : Sink y (fun e => .agg (evc e).toArray) S 1000000000000) (o : c.Ok t L) {B : Nat → Prop} {b : Nat} {acc : List Ev} {ws : List Int} {F : Nat → Prop} {h : Hp} (w : Wk c t L y S B b acc ws F h) (hl : acc.length ≤ 900000000000) {Q : Value → Hp → Prop}
    (hq : ∀ v h', Wend c t L y S B b (acc ++ writes 1 c.P) ws F h v h' → Q v h') :
    callK prog 42 [.int .i64 1, .int .i64 c.spi] h fun v2 h2 => ∃ s1 : Sl, v2 = vs s1 ∧ callK prog 86 [vp ⟨b, 0⟩, vs s1] h2 Q := by
  have hn := o.nats
  rw [← hn.2.1]
  refine (scan_writes 1 c.P (by omega) h).mono ?_
  rintro _ h1 ⟨s1, rfl, o1, k1⟩
  exact ⟨s1, rfl, (walk_own sk w o1 k1 (by rw [writes_length]; omega)).mono hq⟩
theorem walk_acc (sk : Sink y (fun e => .agg (evc e).toArray) S 1000000000000) (o : c.Ok t L) {B : Nat → Prop} {b : Nat} {acc : List Ev} {ws : List Int} {F : Nat → Prop} {h : Hp} (w : Wk c t L y S B b acc ws F h) {n : Nat} {ni : Int} (hni : ni = n) (hn : n ≤ 1000) (hws : n * L ≤ ws.length) (hl : acc.length ≤ 900000000000) {Q : Value → Hp → Prop}
    (hq : ∀ h' F', Wk c t L y S B b (acc ++ sEv c t L ws n) (dr L n ws) F' h' → Mv F h F' h' → Q (.bool true) h') :
    callK prog 82 [vp ⟨b, 0⟩, .int .i64 ni] h Q := by
  subst hni
  refine (walk_access sk o w n hn hws (by omega)).mono ?_
  rintro _ h' ⟨rfl, F', w', m'⟩
  exact hq h' F' w' m'
theorem Wk.spi {B : Nat → Prop} {b : Nat} {acc : List Ev} {ws : List Int} {F : Nat → Prop} {h : Hp} (w : Wk c t L y S B b acc ws F h) : hcell h b (0 + 3) = some (.int .i64 c.spi) ∧ hcell h b (0 + 2) = some (.int .i64 c.kic) ∧ hcell h b (0 + 1) = some (.int .i64 c.bat) := by
  obtain ⟨s, e, _⟩ := w.cell
  exact ⟨rd1 e rfl, rd1 e rfl, rd1 e rfl⟩

theorem walk_find (sk : Sink y (fun e => .agg (evc e).toArray) S 1000000000000) (o : c.Ok t L) {B : Nat → Prop} {b : Nat} {acc : List Ev} {ws : List Int} {F : Nat → Prop} {h : Hp} (w : Wk c t L y S B b acc ws F h) (hws : 2 * L ≤ ws.length) (hl : acc.length ≤ 800000000000) :
    callK prog 81 [vp ⟨b, 0⟩] h (Wend c t L y S B b (acc ++ findEv c t L ws) (dr L 2 ws) F h) := by
  refine c81 ⟨b, 0⟩ ?_
  unfold G81
  have sl := sl_len o ws 2
  refine walk_acc sk o w rfl (by omega) hws (by omega) fun h1 F1 w1 m1 => ⟨_, rfl, ifB_pos rfl ⟨_, w1.spi.1, ?_⟩⟩
  refine walk_reads sk o w1 (by rw [List.length_append]; omega) ?_
  rintro _ h2 ⟨rfl, F2, w2, m2⟩
  exact ⟨_, rfl, rfl, F2, by rw [findEv, ← List.append_assoc]; exact w2, m1.trans m2⟩
theorem walk_remove (sk : Sink y (fun e => .agg (evc e).toArray) S 1000000000000) (o : c.Ok t L) {B : Nat → Prop} {b : Nat} {acc : List Ev} {ws : List Int} {F : Nat → Prop} {h : Hp} (w : Wk c t L y S B b acc ws F h) (hws : 1 * L ≤ ws.length) (hl : acc.length ≤ 800000000000) :
    callK prog 84 [vp ⟨b, 0⟩] h (Wend c t L y S B b (acc ++ remEv c t L ws) (dr L 1 ws) F h) := by
  refine c84 ⟨b, 0⟩ ?_
  unfold G84
  have sl := sl_len o ws 1
  refine walk_acc sk o w rfl (by omega) hws (by omega) fun h1 F1 w1 m1 => ⟨_, rfl, ifB_pos rfl ⟨_, w1.spi.1, ?_⟩⟩
  refine walk_writes sk o w1 (by rw [List.length_append]; omega) ?_
  rintro _ h2 ⟨rfl, F2, w2, m2⟩
  exact ⟨_, rfl, rfl, F2, by rw [remEv, ← List.append_assoc]; exact w2, m1.trans m2⟩
theorem walk_put (sk : Sink y (fun e => .agg (evc e).toArray) S 1000000000000) (o : c.Ok t L) {B : Nat → Prop} {b : Nat} {acc : List Ev} {ws : List Int} {F : Nat → Prop} {h : Hp} (w : Wk c t L y S B b acc ws F h) (hws : (2 * c.K) * L ≤ ws.length) (hl : acc.length ≤ 700000000000) :
    callK prog 83 [vp ⟨b, 0⟩] h (Wend c t L y S B b (acc ++ putEv c t L ws) (dr L (2 * c.K) ws) F h) := by
  have hn := o.nats
  refine c83 ⟨b, 0⟩ ?_
  unfold G83
  have hKL : (2 * c.K) * L = c.K * L + c.K * L := by rw [Nat.mul_assoc]; omega
  have sl := sl_len o ws c.K
  refine ⟨_, w.spi.2.1, walk_acc sk o w hn.1.symm (by omega) (by omega) (by omega) fun h1 F1 w1 m1 => ⟨_, rfl, ifB_pos rfl ⟨_, w1.spi.1, ?_⟩⟩⟩
  refine walk_reads sk o w1 (by rw [List.length_append]; omega) ?_
  rintro _ h2 ⟨rfl, F2, w2, m2⟩
  refine ⟨_, rfl, ifB_pos rfl ⟨_, w2.spi.1, ?_⟩⟩
  refine walk_writes sk o w2 (by simp only [List.length_append, reads_length]; omega) ?_
  rintro _ h3 ⟨rfl, F3, w3, m3⟩
  refine ⟨_, rfl, ifB_pos rfl ⟨_, w3.spi.2.1, ?_⟩⟩
  refine walk_acc sk o w3 hn.1.symm (by omega) (by rw [dr_length]; omega) (by simp only [List.length_append, reads_length, writes_length]; omega) fun h4 F4 w4 m4 => ⟨_, rfl, rfl, F4, ?_, m1.trans (m2.trans (m3.trans m4))⟩
  rw [dr_dr, show c.K + c.K = 2 * c.K by omega] at w4
  simpa [putEv, List.append_assoc] using w4
theorem walk_op (sk : Sink y (fun e => .agg (evc e).toArray) S 1000000000000) (o : c.Ok t L) {B : Nat → Prop} {b : Nat} {acc : List Ev} {ws : List Int} {F : Nat → Prop} {h : Hp} (w : Wk c t L y S B b acc ws F h) (hws : (5 + 2 * c.K) * L ≤ ws.length) (hl : acc.length ≤ 600000000000) :
    callK prog 55 [vp ⟨b, 0⟩] h (Wend c t L y S B b (acc ++ opEv c t L ws) (dr L (5 + 2 * c.K) ws) F h) := by
  have hn := o.nats; have hL := o.L
  refine c55 ⟨b, 0⟩ ?_
  unfold G55
  have e5 : (5 + 2 * c.K) * L = 5 * L + (2 * c.K) * L := Nat.add_mul _ _ _
  have e3 : (3 + 2 * c.K) * L = 3 * L + (2 * c.K) * L := Nat.add_mul _ _ _
  have e4 : (4 + 2 * c.K) * L = 4 * L + (2 * c.K) * L := Nat.add_mul _ _ _
  have l1 := find_len o ws; have l2 := sl_len o (dr L 2 ws) 1; have l3 := put_len o (dr L 3 ws); have l4 := rem_len o (dr L (3 + 2 * c.K) ws); have l5 := sl_len o (dr L (4 + 2 * c.K) ws) 1
  refine (walk_look sk w 0 0 false (by omega)).mono ?_
  rintro _ h1 ⟨rfl, F1, w1, m1⟩
  refine ⟨_, rfl, ifB_pos rfl ((walk_find sk o w1 (by omega) (by simp only [List.length_append, List.length_cons, List.length_nil]; omega)).mono ?_)⟩
  rintro _ h2 ⟨rfl, F2, w2, m2⟩
  refine ⟨_, rfl, ifB_pos rfl (walk_acc sk o w2 (n := 1) rfl (by omega) (by rw [dr_length]; omega) (by simp only [List.length_append, List.length_cons, List.length_nil]; omega) fun h3 F3 w3 m3 => ?_)⟩
  rw [dr_dr, show 2 + 1 = 3 from rfl] at w3
  refine ⟨_, rfl, ifB_pos rfl ((walk_put sk o w3 (by rw [dr_length]; omega) (by simp only [List.length_append, List.length_cons, List.length_nil]; omega)).mono ?_)⟩
  rintro _ h4 ⟨rfl, F4, w4, m4⟩
  rw [dr_dr] at w4
  refine ⟨_, rfl, ifB_pos rfl ((walk_remove sk o w4 (by rw [dr_length]; omega) (by simp only [List.length_append, List.length_cons, List.length_nil]; omega)).mono ?_)⟩
  rintro _ h5 ⟨rfl, F5, w5, m5⟩
  rw [dr_dr, show 3 + 2 * c.K + 1 = 4 + 2 * c.K by omega] at w5
  refine ⟨_, rfl, ifB_pos rfl (walk_acc sk o w5 (n := 1) rfl (by omega) (by rw [dr_length]; omega) (by simp only [List.length_append, List.length_cons, List.length_nil]; omega) fun h6 F6 w6 m6 => ?_)⟩
  rw [dr_dr, show 4 + 2 * c.K + 1 = 5 + 2 * c.K by omega] at w6
  refine ⟨_, rfl, ifB_pos rfl ((walk_look sk w6 0 0 true (by simp only [List.length_append, List.length_cons, List.length_nil]; omega)).mono ?_)⟩
  rintro _ h7 ⟨rfl, F7, w7, m7⟩
  refine ⟨_, rfl, rfl, F7, ?_, m1.trans (m2.trans (m3.trans (m4.trans (m5.trans (m6.trans m7)))))⟩
  simpa [opEv, List.append_assoc] using w7
theorem walk_pass (sk : Sink y (fun e => .agg (evc e).toArray) S 1000000000000) (o : c.Ok t L) {B : Nat → Prop} {b : Nat} {acc : List Ev} {ws : List Int} {F : Nat → Prop} {h : Hp} (w : Wk c t L y S B b acc ws F h) (hws : (c.C + 4 * c.B) * L ≤ ws.length) (hl : acc.length ≤ 600000000000) :
    callK prog 56 [vp ⟨b, 0⟩] h (Wend c t L y S B b (acc ++ passEv c t L ws) (dr L (c.C + 4 * c.B) ws) F h) := by
  have hn := o.nats; have hL := o.L; have hr := roundE_C o
  have hcap := o.cap; have hbat := o.bat
  refine c56 ⟨b, 0⟩ ?_
  unfold G56
  obtain ⟨s, ec, _⟩ := w.cell
  refine rd9w ec ?_
  refine (config_Cells o).to fun h1 k1 => ⟨_, rfl, ?_⟩
  refine (word_round (c.cap + c.bat) (by omega)).to fun h2 k2 => ⟨_, rfl, ?_⟩
  have w2 := w.keep sk (k1.trans k2)
  have eC : (c.C + 4 * c.B) * L = c.C * L + (4 * c.B) * L := Nat.add_mul _ _ _
  refine (walk_look sk w2 0 0 false (by omega)).mono ?_
  rintro _ h3 ⟨rfl, F3, w3, m3⟩
  have m03 : Mv F h F3 h3 := (mvK (k1.trans k2) _).trans m3
  refine ⟨_, rfl, ifB_neg rfl ?_⟩
  rw [roundI_E]
  generalize hE : roundE (c.cap + c.bat) = E at hr
  obtain ⟨hr1, hr2, hr3, hr4⟩ := hr
  refine ⟨fun q n12 n13 n14 i h4 m => q = ⟨b, 0⟩ ∧ n12 = c.cap + c.bat ∧ n13 = 2 ^ E ∧ n14 = 2 ^ E ∧ ∃ u : Nat, i = u ∧ u ≤ 2 ^ E ∧ (∃ F', Wk c t L y S B b (acc ++ [⟨0, 0, false⟩] ++ tabEv c t L ws u) (dr L (min u c.C) ws) F' h4 ∧ Mv F h F' h4) ∧ m = 2 ^ E - u,
    ⟨_, rfl, rfl, rfl, rfl, 0, rfl, Nat.zero_le _, ⟨F3, by simpa [tabEv, dr_zero] using w3, m03⟩, rfl⟩, ?_⟩
  rintro q n12 n13 n14 i h4 m ⟨rfl, hn12, hn13, hn14, u, rfl, hu, ⟨F4, w4, m4⟩, rfl⟩
  have tl := tab_len o ws u
  refine ifD (fun hlt => ?_) fun hge => ?_
  · have nx : ∀ {h5 F5}, Wk c t L y S B b (acc ++ [⟨0, 0, false⟩] ++ tabEv c t L ws (u + 1)) (dr L (min (u + 1) c.C) ws) F5 h5 → Mv F h F5 h5 → ∃ k3, k3 < 2 ^ E - u ∧ (⟨b, 0⟩ : Pt) = ⟨b, 0⟩ ∧ n12 = c.cap + c.bat ∧ n13 = 2 ^ E ∧ n14 = 2 ^ E ∧ ∃ u' : Nat, w64 ((u : Int) + 1) = u' ∧ u' ≤ 2 ^ E ∧ (∃ F', Wk c t L y S B b (acc ++ [⟨0, 0, false⟩] ++ tabEv c t L ws u') (dr L (min u' c.C) ws) F' h5 ∧ Mv F h F' h5) ∧ k3 = 2 ^ E - u' :=
      fun g1 g2 => ⟨_, by omega, rfl, hn12, hn13, hn14, u + 1, w64_id (by omega) (by omega), by omega, ⟨_, g1, g2⟩, rfl⟩
    refine ifD (fun hin => ?_) fun hout => ?_
    · have huC : u < c.C := by omega
      rw [show min u c.C = u by omega] at w4
      have huL : u * L + L ≤ c.C * L := by
        have := Nat.mul_le_mul_right L (show u + 1 ≤ c.C by omega)
        rwa [Nat.succ_mul] at this
      have sl := sl_len o (dr L u ws) 1
      refine walk_acc sk o w4 (n := 1) rfl (by omega) (by rw [dr_length]; omega) (by simp only [List.length_append, List.length_cons, List.length_nil]; omega) fun h5 F5 w5 m5 => ⟨_, rfl, ifB_neg rfl ?_⟩
      rw [dr_dr] at w5
      refine (walk_look sk w5 2 u true (by simp only [List.length_append, List.length_cons, List.length_nil]; omega)).mono ?_
      rintro _ h6 ⟨rfl, F6, w6, m6⟩
      refine ⟨_, rfl, ifB_neg rfl (nx ?_ (m4.trans (m5.trans m6)))⟩
      rw [tabEv_succ, if_pos huC, show min (u + 1) c.C = u + 1 by omega]
      simpa [List.append_assoc] using w6
    · have huC : ¬ u < c.C := by omega
      refine (walk_look sk w4 2 u true (by simp only [List.length_append, List.length_cons, List.length_nil]; omega)).mono ?_
      rintro _ h6 ⟨rfl, F6, w6, m6⟩
      refine ⟨_, rfl, ifB_neg rfl (nx ?_ (m4.trans m6))⟩
      rw [tabEv_succ, if_neg huC, show min (u + 1) c.C = min u c.C by omega]
      simpa [List.append_assoc] using w6
  · have : u = 2 ^ E := by omega
    subst this
    rw [show min (2 ^ E) c.C = c.C by omega] at w4
    have so : (sortEv 2 E).length = 4 * (pairsL E).length := sort4_length _ _
    have sp := pairsL_length (K := E) (by omega)
    rw [hn13]
    refine (sort_events 2 (K := E) (by omega) h4).mono ?_
    rintro _ h5 ⟨x, rfl, ox, k5⟩
    refine ⟨_, rfl, (walk_own sk w4 ox k5 (by simp only [List.length_append, List.length_cons, List.length_nil]; omega)).mono ?_⟩
    rintro _ h6 ⟨rfl, F6, w6, m6⟩
    have m06 := m4.trans m6
    refine ⟨_, rfl, ifB_neg rfl ⟨_, w6.spi.2.2, ?_⟩⟩
    let bs : List Ev := acc ++ [⟨0, 0, false⟩] ++ tabEv c t L ws (2 ^ E) ++ sortEv 2 E
    have bl : bs.length ≤ 700000000000 := by
      show (acc ++ [(⟨0, 0, false⟩ : Ev)] ++ tabEv c t L ws (2 ^ E) ++ sortEv 2 E).length ≤ _
      simp only [List.length_append, List.length_cons, List.length_nil]; omega
    refine ⟨fun q n i h7 m => q = ⟨b, 0⟩ ∧ n = c.bat ∧ ∃ u : Nat, i = u ∧ u ≤ c.B ∧ (∃ F', Wk c t L y S B b (bs ++ goEv c t L (dr L c.C ws) u) (dr L (c.C + 4 * u) ws) F' h7 ∧ Mv F h F' h7) ∧ m = c.B - u,
      ⟨_, rfl, rfl, 0, rfl, Nat.zero_le _, ⟨F6, by simpa [goEv, bs] using w6, m06⟩, rfl⟩, ?_⟩
    rintro q n i h7 m ⟨rfl, hnb, u, rfl, hu, ⟨F7, w7, m7⟩, rfl⟩
    have gl := go_len o (dr L c.C ws) u
    refine ifD (fun hlt2 => ?_) fun hge2 => ?_
    · have huL : (c.C + 4 * u) * L + 4 * L ≤ (c.C + 4 * c.B) * L := by
        have := Nat.mul_le_mul_right L (show c.C + 4 * u + 4 ≤ c.C + 4 * c.B by omega)
        rwa [Nat.add_mul] at this
      have l1 := find_len o (dr L (4 * u) (dr L c.C ws)); have l2 := rem_len o (dr L (4 * u + 2) (dr L c.C ws)); have l3 := sl_len o (dr L (4 * u + 3) (dr L c.C ws)) 1
      refine (walk_look sk w7 2 u false (by simp only [List.length_append, List.length_cons, List.length_nil]; omega)).mono ?_
      rintro _ h8 ⟨rfl, F8, w8, m8⟩
      refine ⟨_, rfl, ifB_pos rfl ((walk_find sk o w8 (by rw [dr_length]; omega) (by simp only [List.length_append, List.length_cons, List.length_nil]; omega)).mono ?_)⟩
      rintro _ h9 ⟨rfl, F9, w9, m9⟩
      rw [dr_dr] at w9
      have q2 : (c.C + 4 * u + 2) * L = (c.C + 4 * u) * L + 2 * L := Nat.add_mul _ _ _
      have q3 : (c.C + 4 * u + 2 + 1) * L = (c.C + 4 * u) * L + 3 * L := Nat.add_mul _ 3 _
      have l1' := find_len o (dr L (c.C + 4 * u) ws); have l2' := rem_len o (dr L (c.C + 4 * u + 2) ws)
      refine ⟨_, rfl, ifB_pos rfl ((walk_remove sk o w9 (by rw [dr_length]; omega) (by simp only [List.length_append, List.length_cons, List.length_nil]; omega)).mono ?_)⟩
      rintro _ h10 ⟨rfl, F10, w10, m10⟩
      rw [dr_dr] at w10
      refine ⟨_, rfl, ifB_pos rfl (walk_acc sk o w10 (n := 1) rfl (by omega) (by rw [dr_length]; omega) (by simp only [List.length_append, List.length_cons, List.length_nil]; omega) fun h11 F11 w11 m11 => ?_)⟩
      rw [dr_dr] at w11
      refine ⟨_, rfl, ifB_neg rfl ⟨_, by omega, rfl, hnb, u + 1, w64_id (by omega) (by omega), by omega, ⟨F11, ?_, m7.trans (m8.trans (m9.trans (m10.trans m11)))⟩, rfl⟩⟩
      rw [goEv_succ, dr_dr, dr_dr, dr_dr, show c.C + 4 * (u + 1) = c.C + 4 * u + 2 + 1 + 1 by omega]
      simpa [List.append_assoc, Nat.add_assoc] using w11
    · have : u = c.B := by omega
      subst this
      refine (walk_look sk w7 0 0 true (by simp only [List.length_append, List.length_cons, List.length_nil]; omega)).mono ?_
      rintro _ h8 ⟨rfl, F8, w8, m8⟩
      refine ⟨_, rfl, rfl, F8, ?_, m7.trans m8⟩
      simpa [passEv, bs, hE, List.append_assoc] using w8
end
end Go.Proofs.Tryz

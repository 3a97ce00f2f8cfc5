/- Looks at memory: rows of events; whole tables, ways down trees. -/
import Derived.Test.YtofgadhgljjhgaaGreatStoC
namespace Go.Proofs.Tryz
open Go Go.Sh Go.RowKit
set_option maxRecDepth 8000
structure Ev where
 r : Int
 a : Int
 w : Bool
 deriving DecidableEq
def evc (e : Ev) : List Value := [.int .i64 e.r, .int .i64 e.a, .bool e.w]
theorem evc3 (e : Ev) : (evc e).length = 3 := rfl
theorem evc_one (e : Ev) : ∀ v ∈ evc e, v.oneCell' = true := by simp [evc, Value.oneCell']
theorem rtE : RowM prog 49 140 3 (.agg #[.int .i64 0, .int .i64 0, .bool false]) 24 := ⟨by kernel_rfl, by kernel_rfl, by kernel_rfl, by kernel_rfl, rfl⟩
def reads (reg : Int) (n : Nat) : List Ev := (List.range n).map fun (i : Nat) => ⟨reg, (i : Int), false⟩
theorem reads_length (reg : Int) (n : Nat) : (reads reg n).length = n := by simp [reads]
theorem reads_succ (reg : Int) (n : Nat) : reads reg (n + 1) = reads reg n ++ [⟨reg, n, false⟩] := by simp [reads, List.range_succ]
def writes (reg : Int) (n : Nat) : List Ev := (List.range n).flatMap fun (i : Nat) => [⟨reg, (i : Int), false⟩, ⟨reg, (i : Int), true⟩]
theorem writes_succ (reg : Int) (n : Nat) : writes reg (n + 1) = writes reg n ++ [⟨reg, n, false⟩, ⟨reg, n, true⟩] := by simp [writes, List.range_succ]
theorem writes_length (reg : Int) (n : Nat) : (writes reg n).length = 2 * n := by
 induction n with
 | zero => rfl
 | succ n ih => rw [writes_succ, List.length_append, ih]; simp; omega
theorem keep_app {α : Type} {k : Nat} {f : α → List Value} {h0 h h' : Hp} {s : Sl} {l : List α} (o : OwnM k f h0 h s l) (k0 : Keep h0 h) (hf : ∀ b, h b ≠ none → (∀ q, s.q = some q → b ≠ q.b) → h' b = h b) : Keep h0 h' := fun b hb => by
 rw [hf b (by rw [k0 b hb]; exact hb) (fun p hp e => hb (e ▸ (o.blk hp).1)), k0 b hb]
/-! ## ways down a tree -/
def nodeN (k leaf d : Nat) : Nat := 2 ^ d - 1 + leaf / 2 ^ (k - d)
theorem path_has {k leaf : Nat} (hk : k ≤ 10) (hl : leaf < 2 ^ k) : PureC prog 165 [.int .i64 (2 ^ k), .int .i64 leaf] (.bool true) := by
 intro h
 refine c165 _ _ ?_
 unfold G165
 refine (path_right hk).to fun h1 k1 => ⟨_, rfl, ifB_pos rfl (ifB_pos (by simp) ⟨?_, k1⟩)⟩
 have e : ((2 ^ k : Nat) : Int) = 2 ^ k := by simp
 rw [cond_true, decide_eq_true (by omega)]
theorem path_node {k leaf d : Nat} (hk : k ≤ 10) (hl : leaf < 2 ^ k) (hd : d ≤ k) : PureC prog 166 [.int .i64 (2 ^ k), .int .i64 leaf, .int .i64 d] (.int .i64 (nodeN k leaf d)) := by
 intro h
 refine c166 _ _ _ ?_
 unfold G166
 refine (path_depth hk).to fun h1 k1 => ⟨_, rfl, ?_⟩
 refine (path_has hk hl).to fun h2 k2 => ⟨_, rfl, ifB_neg rfl (ifB_neg (by simp) (ifB_neg (by rw [w64_id (by omega) (by omega)]; simp; omega) ?_))⟩
 rw [w64_id (n := (k : Int) - d) (by omega) (by omega)]
 refine ⟨by omega, by omega, ?_, k1.trans k2⟩
 have e1 : min (d : Int).toNat 64 = d := by omega
 have e2 : min ((k : Int) - d).toNat 64 = k - d := by omega
 have e3 : (leaf : Int).fdiv (2 ^ (k - d)) = ((leaf / 2 ^ (k - d) : Nat) : Int) := by
   have e : ((2 ^ (k - d) : Nat) : Int) = 2 ^ (k - d) := by simp
   rw [← e, Int.fdiv_eq_ediv_of_nonneg _ (Int.natCast_nonneg _)]; rfl
 have hb := pow_bds (k := d) (by omega)
 have hb2 := pow_bds hk
 have e4 : ((2 ^ d : Nat) : Int) = 2 ^ d := by simp
 have e5 : ((2 ^ k : Nat) : Int) = 2 ^ k := by simp
 have hle : leaf / 2 ^ (k - d) ≤ leaf := Nat.div_le_self _ _
 rw [e1, e2, e3, Int.one_mul, w64_id (n := 2 ^ d) (by omega) (by omega), w64_id (n := 2 ^ d - 1) (by omega) (by omega)]
 unfold nodeN
 generalize leaf / 2 ^ (k - d) = z at *
 have : 1 ≤ 2 ^ d := Nat.pow_pos (by decide)
 rw [w64_id (by omega) (by omega), show (2 : Int) ^ d - 1 + (z : Int) = ((2 ^ d - 1 + z : Nat) : Int) by omega]
def pathL (k leaf n : Nat) : List Int := (List.range n).map fun d => (nodeN k leaf d : Int)
theorem pathL_succ (k leaf n : Nat) : pathL k leaf (n + 1) = pathL k leaf n ++ [(nodeN k leaf n : Int)] := by simp [pathL, List.range_succ]
theorem pathL_length (k leaf n : Nat) : (pathL k leaf n).length = n := by simp [pathL]
theorem keep_appS {α : Type} {f : α → Value} {h0 h h' : Hp} {s : Sl} {l : List α} (o : OwnS f h0 h s l) (k0 : Keep h0 h) (hf : ∀ b, h b ≠ none → (∀ q, s.q = some q → b ≠ q.b) → h' b = h b) : Keep h0 h' := fun b hb => by
 rw [hf b (by rw [k0 b hb]; exact hb) (fun p hp e => hb (e ▸ (o.blk hp).1)), k0 b hb]
theorem path_path {k leaf : Nat} (hk : k ≤ 10) (hl : leaf < 2 ^ k) (h : Hp) : callK prog 146 [.int .i64 (2 ^ k), .int .i64 leaf] h fun v h' => ∃ s, v = vs s ∧ OwnS iv h h' s (pathL k leaf (k + 1)) ∧ Keep h h' := by
 refine c146 _ _ ?_
 unfold G146
 refine (path_has hk hl).to fun h1 k1 => ⟨_, rfl, ifB_neg rfl ?_⟩
 refine (path_depth hk).to fun h2 k2 => ⟨_, rfl, ?_⟩
 rw [w64_id (n := (k : Int) + 1) (by omega) (by omega)]
 refine ⟨fun a b s l i h3 m => a = 2 ^ k ∧ b = leaf ∧ l = (k : Int) + 1 ∧ ∃ j : Nat, i = j ∧ j ≤ k + 1 ∧ OwnS iv h h3 s (pathL k leaf j) ∧ Keep h h3 ∧ m = k + 1 - j, ⟨_, rfl, rfl, rfl, 0, rfl, Nat.zero_le _, OwnS.nilS _ _ _, k1.trans k2, rfl⟩, ?_⟩
 rintro a b s l i h3 m ⟨rfl, rfl, rfl, j, rfl, hj, oj, k3, rfl⟩
 refine ifD (fun hlt => ?_) fun hge => ?_
 · refine (path_node hk hl (show j ≤ k by omega)).to fun h4 k4 => ⟨_, rfl, ?_⟩
   refine OwnS.push rtI iv_one (oj.keep k4) (nodeN k leaf j : Int) (fun b hb => k3.free (k4.free hb)) (by rw [pathL_length]; omega) (by decide) ?_
   intro s' h5 o5 f5 _
   exact ⟨_, by omega, rfl, rfl, rfl, j + 1, w64_id (by omega) (by omega), by omega, by rw [pathL_succ]; exact o5, keep_appS (oj.keep k4) (k3.trans k4) f5, rfl⟩
 · have : j = k + 1 := by omega
   subst this; exact ⟨_, rfl, oj, k3⟩
/-! ## the cells of a way and of the stash -/
structure Sp where
 r : Int
 a : Int
def spc (x : Sp) : List Value := [.int .i64 x.r, .int .i64 x.a]
theorem spc2 (x : Sp) : (spc x).length = 2 := rfl
theorem spc_one (x : Sp) : ∀ v ∈ spc x, v.oneCell' = true := by simp [spc, Value.oneCell']
theorem rtSp : RowM prog 225 228 2 (.agg #[.int .i64 0, .int .i64 0]) 16 := ⟨by kernel_rfl, by kernel_rfl, by kernel_rfl, by kernel_rfl, rfl⟩
def bktL (first : Int) (node : Nat) (s : Int) (n : Nat) : List Sp := (List.range n).map fun (i : Nat) => ⟨first, (node : Int) * s + i⟩
theorem bktL_succ (first : Int) (node : Nat) (s : Int) (n : Nat) : bktL first node s (n + 1) = bktL first node s n ++ [⟨first, (node : Int) * s + n⟩] := by simp [bktL, List.range_succ]
def treeL (k : Nat) (s : Int) (first : Int) (leaf n : Nat) : List Sp := (List.range n).flatMap fun d => bktL first (nodeN k leaf d) s s.toNat
theorem treeL_succ (k : Nat) (s : Int) (first : Int) (leaf n : Nat) : treeL k s first leaf (n + 1) = treeL k s first leaf n ++ bktL first (nodeN k leaf n) s s.toNat := by simp [treeL, List.range_succ]
theorem treeL_length (k : Nat) (s : Int) (first : Int) (leaf n : Nat) : (treeL k s first leaf n).length = n * s.toNat := by
 induction n with
 | zero => simp [treeL]
 | succ n ih => rw [treeL_succ, List.length_append, ih]; simp [bktL, Nat.succ_mul]
def stashL (first : Int) (n : Nat) : List Sp := (List.range n).map fun (i : Nat) => ⟨first + 1, (i : Int)⟩
theorem stashL_succ (first : Int) (n : Nat) : stashL first (n + 1) = stashL first n ++ [⟨first + 1, n⟩] := by simp [stashL, List.range_succ]
def spotsL (k : Nat) (s t : Int) (first : Int) (leaf : Nat) : List Sp := treeL k s first leaf (k + 1) ++ stashL first t.toNat
theorem spotsL_length {k : Nat} {s t : Int} (o : LevOk k s t) (first : Int) (leaf : Nat) : ((spotsL k s t first leaf).length : Int) = plc k s t - 1 := by
 have := o.s; have := o.t
 rw [spotsL, List.length_append, treeL_length]
 simp [stashL, plc]
 obtain ⟨s', rfl⟩ := Int.eq_ofNat_of_zero_le (show 0 ≤ s by omega)
 simp
 rw [Int.mul_comm]
 omega
theorem nodeN_le {k leaf d : Nat} (hk : k ≤ 10) (hl : leaf < 2 ^ k) (hd : d ≤ k) : nodeN k leaf d ≤ 2047 := by
 unfold nodeN
 have h1 : 2 ^ d ≤ 2 ^ 10 := Nat.pow_le_pow_right (by decide) (by omega)
 have h2 : 2 ^ k ≤ 2 ^ 10 := Nat.pow_le_pow_right (by decide) hk
 have h3 : leaf / 2 ^ (k - d) ≤ leaf := Nat.div_le_self _ _
 generalize leaf / 2 ^ (k - d) = z at *
 simp at h1 h2; omega
theorem level_spots {k : Nat} {s t : Int} (o : LevOk k s t) (first : Int) (hf : 0 ≤ first ∧ first ≤ 1000) {leaf : Nat} (hl : leaf < 2 ^ k) (h : Hp) :
   callK prog 128 [.agg #[.int .i64 (2 ^ k), .int .i64 s, .int .i64 t], .int .i64 first, .int .i64 leaf] h fun v h' => ∃ x, v = vs x ∧ OwnM 2 spc h h' x (spotsL k s t first leaf) ∧ Keep h h' := by
 have hs := o.s; have ht := o.t; have hk := o.k
 refine c128 _ _ _ _ _ ?_
 unfold G128
 refine newC fun b1 h1 f1 e1 k1 => rdI e1 rfl ?_
 refine (path_path o.k hl h1).mono ?_
 rintro _ h2 ⟨s1, rfl, o1, k2⟩
 have r1 := o1.rd
 have l1 := r1.len
 rw [pathL_length] at l1
 refine ⟨_, rfl, fun a q x y l i h3 m => first = a ∧ q = ⟨b1, 0⟩ ∧ s1 = y ∧ l = s1.len ∧ ∃ j : Nat, i = j ∧ j ≤ k + 1 ∧ OwnM 2 spc h2 h3 x (treeL k s first leaf j) ∧ Keep h2 h3 ∧ m = k + 1 - j, ⟨_, rfl, rfl, rfl, rfl, 0, rfl, Nat.zero_le _, OwnM.nilS _ _ _ _, Keep.refl _, rfl⟩, ?_⟩
 rintro a q x y l i h3 m ⟨rfl, rfl, rfl, rfl, j, rfl, hj, oj, k3, rfl⟩
 have e3 := (k2.trans k3).get e1
 refine ifD (fun hlt => ?_) fun hge => ?_
 · have hj' : j < (pathL k leaf (k + 1)).length := by rw [pathL_length]; omega
   have hg : (pathL k leaf (k + 1))[j] = (nodeN k leaf j : Int) := by simp [pathL]
   have hnd := nodeN_le hk hl (show j ≤ k by omega)
   refine (r1.keep k3).ix hj' fun p _ hc => ⟨nodeN k leaf j, by rw [← hg]; exact hc, rdI e3 rfl ?_⟩
   refine ⟨fun a q x nd y l i n v h4 m => first = a ∧ q = ⟨b1, 0⟩ ∧ nd = nodeN k leaf j ∧ s1 = y ∧ l = s1.len ∧ i = j ∧ s = n ∧ ∃ u : Nat, v = u ∧ u ≤ s.toNat ∧ OwnM 2 spc h2 h4 x (treeL k s first leaf j ++ bktL first (nodeN k leaf j) s u) ∧ Keep h2 h4 ∧ m = s.toNat - u,
     ⟨_, rfl, rfl, rfl, rfl, rfl, rfl, rfl, 0, rfl, Nat.zero_le _, by simpa [bktL] using oj, k3, rfl⟩, ?_⟩
   rintro a q x nd y l i n v h4 m ⟨rfl, rfl, rfl, rfl, rfl, rfl, rfl, u, rfl, hu, ou, k4, rfl⟩
   refine ifD (fun hlt2 => ?_) fun hge2 => ?_
   · refine rdI ((k2.trans k4).get e1) rfl ?_
     have hm : (0 : Int) ≤ (nodeN k leaf j : Int) * s ∧ (nodeN k leaf j : Int) * s ≤ 2047 * 8 := mul_nn (by omega) (by omega) (by omega) (by omega)
     rw [w64_id (n := (nodeN k leaf j : Int) * s) (by omega) (by omega), w64_id (n := (nodeN k leaf j : Int) * s + (u : Int)) (by omega) (by omega)]
     refine OwnM.push rtSp spc2 spc_one ou [⟨first, (nodeN k leaf j : Int) * s + u⟩] rfl rfl (fun b hb => k4.free hb) (by
       have : j * s.toNat ≤ 11 * 8 := Nat.mul_le_mul (by omega) (by omega)
       rw [List.length_append, treeL_length]; simp [bktL]; omega) (by decide) ?_
     intro s' h5 o5 f5 _ _
     exact ⟨_, by omega, rfl, rfl, rfl, rfl, rfl, rfl, rfl, u + 1, w64_id (by omega) (by omega), by omega, by rw [bktL_succ, ← List.append_assoc]; exact o5, keep_app ou k4 f5, rfl⟩
   · have : u = s.toNat := by omega
     subst this
     exact ⟨_, by omega, rfl, rfl, rfl, rfl, j + 1, w64_id (by omega) (by omega), by omega, by rw [treeL_succ]; exact ou, k4, rfl⟩
 · have : j = k + 1 := by omega
   subst this
   refine rdI e3 rfl ?_
   refine ⟨fun a x n i h4 m => first = a ∧ t = n ∧ ∃ u : Nat, i = u ∧ u ≤ t.toNat ∧ OwnM 2 spc h2 h4 x (treeL k s first leaf (k + 1) ++ stashL first u) ∧ Keep h2 h4 ∧ m = t.toNat - u, ⟨_, rfl, rfl, 0, rfl, Nat.zero_le _, by simpa [stashL] using oj, k3, rfl⟩, ?_⟩
   rintro a x n i h4 m ⟨rfl, rfl, u, rfl, hu, ou, k4, rfl⟩
   refine ifD (fun hlt2 => ?_) fun hge2 => ?_
   · rw [w64_id (n := first + 1) (by omega) (by omega)]
     refine OwnM.push rtSp spc2 spc_one ou [⟨first + 1, u⟩] rfl rfl (fun b hb => k4.free hb) (by
       have : (k + 1) * s.toNat ≤ 11 * 8 := Nat.mul_le_mul (by omega) (by omega)
       rw [List.length_append, treeL_length]; simp [stashL]; omega) (by decide) ?_
     intro s' h5 o5 f5 _ _
     exact ⟨_, by omega, rfl, rfl, u + 1, w64_id (by omega) (by omega), by omega, by rw [stashL_succ, ← List.append_assoc]; exact o5, keep_app ou k4 f5, rfl⟩
   · have : u = t.toNat := by omega
     subst this
     exact ⟨_, rfl, ou.baseK (k1.trans k2), (k1.trans k2).trans k4⟩
end Go.Proofs.Tryz

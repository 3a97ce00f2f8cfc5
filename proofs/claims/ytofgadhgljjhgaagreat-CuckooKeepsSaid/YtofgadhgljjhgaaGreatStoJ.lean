/- Chapter 11: small things of an access. -/
import Derived.Test.YtofgadhgljjhgaaGreatStoI
import Derived.Test.YtofgadhgljjhgaaGreatEvDa
namespace Go.Proofs.Tryz
open Go Go.Sh Go.RowKit
set_option maxRecDepth 8000
theorem store_down2 {h : Hp} {q : Pt} {L : Nat} (hL : L ≤ 1000) {y : Value} (S : Nat → Hp → Prop) (E : Hp → Prop) (h0 : S 0 h) (hc : hcell h q.b (q.o + 3) = some (.int .i64 L))
   (step : ∀ i h', i < L → S i h' → callV prog y [.int .i64 ((L : Int) - 1 - i)] h' fun v h'' => (v = .bool true ∧ S (i + 1) h'') ∨ (v = .bool false ∧ E h'')) :
   callK prog 114 [y, vp q] h fun _ h' => S L h' ∨ E h' := by
 refine c114 y q ?_
 unfold G114
 refine ⟨L, hc, fun v n h1 k => v = y ∧ ∃ i : Nat, n = (L : Int) - 1 - i ∧ i ≤ L ∧ S i h1 ∧ k = L - i, ⟨_, rfl, 0, by rw [w64_id (by omega) (by omega)]; simp, Nat.zero_le _, h0, rfl⟩, ?_⟩
 rintro v n h1 k ⟨rfl, i, rfl, hi, hs, rfl⟩
 refine ifD (fun hlt => ?_) fun hge => ?_
 · refine (step i h1 (by omega) hs).mono ?_
   rintro _ h2 (⟨rfl, hs2⟩ | ⟨rfl, he⟩)
   · exact ⟨_, rfl, ifB_pos rfl ⟨_, by omega, rfl, i + 1, by rw [w64_id (by omega) (by omega)]; omega, by omega, hs2, rfl⟩⟩
   · exact ⟨_, rfl, ifB_neg rfl (.inr he)⟩
 · have : i = L := by omega
   subst this; exact .inl hs
theorem word_log4 : PureC prog 84 [vu 4] (.int .i64 2) := by
 intro h
 refine c84 _ ?_
 unfold G84
 refine (len64 4).to fun h1 k1 => ⟨_, rfl, ?_, k1⟩
 have : Lib.bitLen (UInt64.toNat 4) = 3 := by decide
 rw [this, show w64 (((3 : Nat) : Int) - 1) = 2 by rw [w64_id (by omega) (by omega)]; omega]; rfl
theorem ushr_bid {x i : Nat} (hx : x < 2 ^ 62) (hi : i ≤ 4) : ushr (UInt64.ofNat x) (2 * i) = bid x i := by
 apply UInt64.toNat_inj.1
 unfold ushr bid
 have e1 : (UInt64.ofNat x).toNat = x := by rw [UInt64.toNat_ofNat']; omega
 have h2 : x / 4 ^ i ≤ x := Nat.div_le_self _ _
 have e2 : (UInt64.ofNat (x / 4 ^ i)).toNat = x / 4 ^ i := by rw [UInt64.toNat_ofNat']; generalize x / 4 ^ i = z at *; omega
 rw [e2]
 have hi' : i = 0 ∨ i = 1 ∨ i = 2 ∨ i = 3 ∨ i = 4 := by omega
 rcases hi' with rfl | rfl | rfl | rfl | rfl <;> (simp [UInt64.toNat_shiftRight, e1, Nat.shiftRight_eq_div_pow]) <;> omega
theorem store_shift {g : Hp} {b3 x : Nat} (hx : x < 2 ^ 62) (e3 : hcell g b3 0 = some (vu (UInt64.ofNat x))) {i : Nat} (hi : i ≤ 4) {I : Int} (hI : I = i) :
   callV prog (.func (.func 83) #[] #[vp ⟨b3, 0⟩]) [.int .i64 I] g fun r g' => r = vu (bid x i) ∧ Keep g g' := by
 subst hI
 refine ⟨rfl, ?_⟩
 refine c83 _ _ ?_
 unfold G83
 refine ⟨_, e3, word_log4.to fun h1 k1 => ⟨_, rfl, ⟨k1.cell e3, trivial⟩, ?_⟩⟩
 have e : w64 (2 * (i : Int)) = ((2 * i : Nat) : Int) := by rw [w64_id (by omega) (by omega)]; omega
 rw [e]
 refine ⟨by omega, ?_, k1⟩
 rw [show Int.toNat ((2 * i : Nat) : Int) = 2 * i by omega, ushr_bid hx hi]
abbrev arr4 (g : Nat → Nat × Nat) : Array Value := #[.int .i64 (g 0).1, .int .i64 (g 0).2, .int .i64 (g 1).1, .int .i64 (g 1).2, .int .i64 (g 2).1, .int .i64 (g 2).2, .int .i64 (g 3).1, .int .i64 (g 3).2]
theorem arr4_set (g : Nat → Nat × Nat) {j : Nat} (hj : j < 4) (y : Nat × Nat) : hwr (arr4 g) (j * 2) [.int .i64 y.1, .int .i64 y.2] = arr4 fun k => if k = j then y else g k := by
 have : j = 0 ∨ j = 1 ∨ j = 2 ∨ j = 3 := by omega
 rcases this with rfl | rfl | rfl | rfl <;> rfl
theorem arr4_get {h : Hp} {b : Nat} {g : Nat → Nat × Nat} {T : TypeId} (e : h b = some (.cells (arr4 g) T (0, 0))) {j : Nat} (hj : j < 4) : hcell h b (0 + j * 2) = some (.int .i64 (g j).1) ∧ hcell h b (0 + j * 2 + 1) = some (.int .i64 (g j).2) := by
 have : j = 0 ∨ j = 1 ∨ j = 2 ∨ j = 3 := by omega
 rcases this with rfl | rfl | rfl | rfl <;> exact ⟨rd1 e rfl, rd1 e rfl⟩
theorem topC_set (a b : UInt64) : (cel0.set 0 a).set 1 b = topC a b := by
 apply Vector.ext; intro i hi
 have h : i = 0 ∨ i = 1 ∨ i = 2 ∨ i = 3 ∨ i = 4 ∨ i = 5 ∨ i = 6 ∨ i = 7 ∨ i = 8 ∨ i = 9 ∨ i = 10 ∨ i = 11 := by omega
 rcases h with rfl | rfl | rfl | rfl | rfl | rfl | rfl | rfl | rfl | rfl | rfl | rfl <;> rfl
theorem oneEv_app {m : Nat} {s t : Int} {L : Nat} {first : Int} (ls : List Int) (y : Int) : ∀ n, n ≤ ls.length → oneEv m s t L first (ls ++ [y]) n = oneEv m s t L first ls n
 | 0, _ => rfl
 | n + 1, h => by
   rw [oneEv_succ, oneEv_succ, oneEv_app ls y n (by omega)]
   have : (ls ++ [y]).getD n 0 = ls.getD n 0 := by simp [List.getD, List.getElem?_append_left (show n < ls.length by omega)]
   rw [this]
theorem dget_lt (d : Dat) {j : Nat} (hj : j < 8) : dget d j = d[j] := by unfold dget; simp [hj]
theorem evs_step {G : SP} {pre : List Ev} {l : List (Nat × Nat)} {g0 i j : Nat} {fr : Nat × Nat} (hl : l.length = g0 + i) (hj : j + i + 1 = G.L) :
   pre ++ oneEv G.m G.s G.t G.L G.f ((l.drop g0).map fun y => (y.1 : Int)) i ++ levEv (G.lp j).k (G.lp j).s (G.lp j).t (G.base j) fr.1 = pre ++ oneEv G.m G.s G.t G.L G.f (((l ++ [fr]).drop g0).map fun y => (y.1 : Int)) (i + 1) := by
 rw [List.drop_append_of_le_length (by omega), List.map_append, List.map_cons, List.map_nil, oneEv_succ, oneEv_app _ _ i (by simp; omega), List.append_assoc]
 have h1 : (((l.drop g0).map fun y => (y.1 : Int)) ++ [(fr.1 : Int)]).getD i 0 = (fr.1 : Int) := by
   have : ((l.drop g0).map fun y => (y.1 : Int)).length = i := by simp; omega
   simp [List.getD, ← this]
 have h2 : G.L - 1 - i = j := by omega
 have h3 : ((G.base j : Nat) : Int) = (G.f : Int) + 1 + 3 * (j : Int) := by unfold SP.base; omega
 rw [h1, h2, h3]
 rfl
end Go.Proofs.Tryz

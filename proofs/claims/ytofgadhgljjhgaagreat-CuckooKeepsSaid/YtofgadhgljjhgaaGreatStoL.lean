/- Chapter 11: what is told of a store. -/
import Derived.Test.YtofgadhgljjhgaaGreatStoI
namespace Go.Proofs.Tryz
open Go Go.Sh Go.RowKit
set_option maxRecDepth 8000
section
variable {G : SP} {ws : List UInt64} {B : StB} {S : SSt} {ev : List Ev} {es gs : Sl} {h : Hp}
theorem store_over (o : G.Ok) (R : StR G ws B S ev es gs h) : callK prog 13 [vp ⟨B.sb, 0⟩] h fun v h' => v = .bool ((List.range G.L).any S.over) ∧ h' = h := by
 have hL := o.L
 have hl := R.lvs.len
 simp only [List.length_map, List.length_range] at hl
 refine c13 _ ?_
 unfold G13
 refine ⟨_, rd1 R.top rfl, ?_⟩
 refine c48 _ _ ?_
 unfold G48
 refine c93 _ _ ?_
 unfold G93
 refine ⟨fun s1 v1 n1 n2 g k => B.lv = s1 ∧ v1 = .func (.func 49) #[] #[] ∧ n1 = (G.L : Nat) ∧ ∃ i : Nat, n2 = i ∧ i ≤ G.L ∧ k = G.L - i ∧ g = h ∧ (List.range i).any S.over = false, ⟨G.L, rfl, rfl, by rw [hl], 0, rfl, by omega, rfl, rfl, rfl⟩, ?_⟩
 rintro s1 v1 n1 n2 g k ⟨rfl, rfl, rfl, i, rfl, hi, rfl, rfl, hno⟩
 refine ifD (fun hlt => ?_) fun hge => ?_
 · have hi' : i < G.L := by omega
   refine R.lvs.ix (i := i) (by simpa using hi') fun q _ hc => ?_
   have e : ((List.range G.L).map B.lb)[i]'(by simpa using hi') = B.lb i := by simp
   rw [e] at hc
   refine ⟨some ⟨B.lb i, 0⟩, hc, rfl, ?_⟩
   refine (level_over (R.lev i hi') rfl).mono ?_
   rintro _ _ ⟨rfl, rfl⟩
   refine ⟨_, rfl, ifB_intro (fun ht => ?_) fun ht => ?_⟩
   · refine ⟨_, rfl, _, rfl, ?_, rfl⟩
     rw [decide_eq_true (show (0 : Int) ≤ (i : Int) by omega)]
     have : (List.range G.L).any S.over = true := List.any_eq_true.2 ⟨i, List.mem_range.2 hi', ht⟩
     rw [this]
   · refine ⟨G.L - (i + 1), by omega, rfl, rfl, rfl, i + 1, w64_id (by omega) (by omega), by omega, rfl, rfl, ?_⟩
     rw [List.range_succ, List.any_append, hno]; simpa using ht
 · have hi' : i = G.L := by omega
   subst hi'
   refine ⟨_, rfl, _, rfl, ?_, rfl⟩
   rw [hno]; rfl
end
end Go.Proofs.Tryz

/- The row 'ShapeLeaves' out of its law, and its card: it returns true, and leaves what was handed in as it was. The row lists one variable of package errors; the walk never reads it. -/
import Derived.Test.YtecaoigobpekdaaDoorRows
import Derived.Test.YtecaoigobpekdaaDoorCards
import Derived.Test.YtecaoigobpekdaaDoorTie
import Derived.Test.YtecaoigobpekdaaDoorShRow
import Derived.Test.YtecaoigobpekdaaDoorLeavesLaw
import Derived.SevenTiedAt
namespace Go.Proofs.YtecaoigobpekdaaDoor
open Go Go.Sh Go.RowKit Go.ChangeShapes
/-- a world that meets the condition -/
noncomputable def laidWorld (os : Os) : World :=
  let w0 := World.holding Tryd.prog os ⟨#[], #[], []⟩
  { w0 with heap := w0.heap.modify 0 fun
      | .cells _ t frozen => .cells #[.iface 94 (.agg #[typeHandle Tryd.prog 52])] t frozen
      | o => o }
theorem laidWorld_met (os : Os) (args : Array Value) : laidMetH Tryd.prog [("errors.errorType", Rows.laid_errors_errorType)] ((laidWorld os).forCall (fun _ _ => 0) ⟨#[], args, []⟩).memory :=
  laidMetH_of_parts (laidMet_nil _ _) (by kernel_rfl)
set_option maxRecDepth 100000 in
theorem shapeLeaves_row : Rows.ShapeLeavesSaid :=
  OpenClaim.holds_of_wide 3 Tryd.f3 rfl rfl rfl rfl rfl rfl rfl ⟨rfl, rfl, rfl, rfl, rfl⟩ rfl rfl rfl rfl rfl (by kernel_rfl) Tryd.func3 (by kernel_rfl)
    (of_decide_eq_true (by kernel_rfl)) (by unfold Func.isWrapper; first | (rw [if_pos (by decide +kernel)]; kernel_rfl) | (rw [if_neg (by decide +kernel)]; exact ⟨rfl, rfl⟩))
    (fun os started H enc _ => by
      refine lifted_of_law_laid (C := Tryd.checked) (fn := Tryd.f3) (s := Rows.shapeLeavesSpec) (tb := 4) (laid := [("errors.errorType", Rows.laid_errors_errorType)]) (by kernel_rfl) started (by kernel_rfl) Tryd.func3
        (ChangeSpec.witness_at (enc := enc) (C := Tryd.checked) (os := os) (X := fun w _ => laidMetH Tryd.prog [("errors.errorType", Rows.laid_errors_errorType)] w) false (laidWorld os) #[.int .i64 0, .slice none 0 0, .slice none 0 0] 8 rfl (by kernel_rfl) (by kernel_rfl) (by kernel_rfl) (by kernel_rfl) (by kernel_rfl) (laidWorld_met os _)) rfl (by kernel_rfl) Tryd.underlying4 (by kernel_rfl) (by kernel_rfl) ?_ ?_
      · intro ds h
        match ds, h with
        | [d0, d1, d2], _ => rfl
      intro W base args ds p hval0 hA0 hsz0
      have hp : Tryd.f3.params.toList = [3, 22, 23] := by rw [Tryd.params3]
      have hA : DataW.TrodAll enc Tryd.prog W 0 (fun _ => true) true Tryd.f3.params.toList args ds p := hA0
      have hval : ∀ (j : Nat) t v, Tryd.f3.params.toList[j]? = some t → args[j]? = some v → Value.okWide Tryd.prog W .any base t v := hval0
      clear hA0 hval0 hsz0
      rw [hp] at hA hval
      obtain ⟨v0, vs0, d0, ds0, p0, q0, rfl, rfl, rfl, t0, r0⟩ := trodAll_cons hA
      obtain ⟨v1, vs1, d1, ds1, p1, q1, rfl, rfl, rfl, t1, r1⟩ := trodAll_cons r0
      obtain ⟨v2, vs2, d2, ds2, p2, q2, rfl, rfl, rfl, t2, r2⟩ := trodAll_cons r1
      obtain ⟨rfl, rfl, rfl⟩ := trodAll_nil r2
      obtain ⟨n0, rfl, b0⟩ := arg_i64 Tryd.underlying3 (hval 0 3 v0 rfl rfl) t0
      obtain ⟨s1, l1, rfl, g1, _⟩ := arg_us Tryd.underlying22 Tryd.underlying39 (by kernel_rfl) (hval 1 22 v1 rfl rfl) t1
      obtain ⟨s2, l2, rfl, g2, b2, _⟩ := arg_isB Tryd.underlying23 Tryd.underlying3 (by kernel_rfl) (hval 2 23 v2 rfl rfl) t2
      exact Tryd.shapeLeaves_law b0 g1 g2 b2)
/-- the card -/
theorem shapeLeaves_holds : Rows.ShapeLeavesCardSaid :=
  Claim7.holds_tied_plain_at .later [] [.handle] true (true, "a842df53789d1364f91f94f80b1a5db9a1c87ca0d5a55c479fbb299a04596a12") true
    shapeLeaves_row (fun _ h => by cases h) (by kernel_rfl) (fun _ h => by cases h) shapeLeaves_row_tie rfl ⟨rfl, rfl⟩ (by kernel_rfl) rfl
    (fun f fn hf hfn => by
      obtain rfl : f = 3 := Option.some.inj ((show Tryd.prog.funcNamed "shellgame/shellgamelaw20.ShapeLeaves" = some 3 by kernel_rfl).symm.trans hf) |>.symm
      obtain rfl : fn = Tryd.f3 := (Option.some.inj (Tryd.func3.symm.trans hfn)).symm
      exact ⟨by kernel_rfl, fun j t ht => by
        rw [Tryd.params3] at ht
        have hm : t ∈ [3, 22, 23] := by simpa using Array.mem_of_getElem? ht
        have hall : ([3, 22, 23].all fun u => !Tryd.prog.wantsStandIn u) = true := by kernel_rfl
        exact (show Tryd.prog.wantsStandIn t = false by simpa using List.all_eq_true.1 hall t hm)⟩)
    (by kernel_rfl)
#print axioms shapeLeaves_holds
end Go.Proofs.YtecaoigobpekdaaDoor

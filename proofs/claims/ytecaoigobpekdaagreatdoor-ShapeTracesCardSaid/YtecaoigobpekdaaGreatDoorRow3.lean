/- The row 'ShapeTraces' out of its law, and its card: it returns true, and leaves what was handed in as it was. The row lists one variable of package errors; the walk never reads it. -/
import Derived.Test.YtecaoigobpekdaaGreatDoorRows
import Derived.Test.YtecaoigobpekdaaGreatDoorCards
import Derived.Test.YtecaoigobpekdaaGreatDoorTie
import Derived.Test.YtecaoigobpekdaaGreatDoorShRow
import Derived.Test.YtecaoigobpekdaaGreatDoorTraces
import Derived.SevenTiedAt
namespace Go.Proofs.YtecaoigobpekdaaGreatDoor
open Go Go.Sh Go.RowKit Go.ChangeShapes
/-- a world that meets the condition -/
noncomputable def laidWorld (os : Os) : World :=
  let w0 := World.holding Tryz.prog os ⟨#[], #[], []⟩
  { w0 with heap := w0.heap.modify 0 fun
      | .cells _ t frozen => .cells #[.iface 166 (.agg #[typeHandle Tryz.prog 94])] t frozen
      | o => o }
theorem laidWorld_met (os : Os) (args : Array Value) : laidMetH Tryz.prog [("errors.errorType", Rows.laid_errors_errorType)] ((laidWorld os).forCall (fun _ _ => 0) ⟨#[], args, []⟩).memory :=
  laidMetH_of_parts (laidMet_nil _ _) (by kernel_rfl)
set_option maxRecDepth 100000 in
theorem shapeTraces_row : Rows.ShapeTracesSaid :=
  OpenClaim.holds_of_wide 3 Tryz.f3 rfl rfl rfl rfl rfl rfl rfl ⟨rfl, rfl, rfl, rfl, rfl⟩ rfl rfl rfl rfl rfl (by kernel_rfl) Tryz.func3 (by kernel_rfl)
    (of_decide_eq_true (by kernel_rfl)) (by unfold Func.isWrapper; first | (rw [if_pos (by decide +kernel)]; kernel_rfl) | (rw [if_neg (by decide +kernel)]; exact ⟨rfl, rfl⟩))
    (fun os started H enc _ => by
      refine lifted_of_law_laid (C := Tryz.checked) (fn := Tryz.f3) (s := Rows.shapeTracesSpec) (tb := 4) (laid := [("errors.errorType", Rows.laid_errors_errorType)]) (by kernel_rfl) started (by kernel_rfl) Tryz.func3
        (ChangeSpec.witness_at (enc := enc) (C := Tryz.checked) (os := os) (X := fun w _ => laidMetH Tryz.prog [("errors.errorType", Rows.laid_errors_errorType)] w) false (laidWorld os) #[.int .i64 0, .int .i64 0, .slice none 0 0, .bool false] 8 rfl (by kernel_rfl) (by kernel_rfl) (by kernel_rfl) (by kernel_rfl) (by kernel_rfl) (laidWorld_met os _)) rfl (by kernel_rfl) Tryz.underlying4 (by kernel_rfl) (by kernel_rfl) ?_ ?_
      · intro ds h
        match ds, h with
        | [d0, d1, d2, d3], _ => rfl
      intro W base args ds p hval0 hA0 hsz0
      have hp : Tryz.f3.params.toList = [3, 3, 22, 4] := by rw [Tryz.params3]
      have hA : DataW.TrodAll enc Tryz.prog W 0 (fun _ => true) true Tryz.f3.params.toList args ds p := hA0
      have hval : ∀ (j : Nat) t v, Tryz.f3.params.toList[j]? = some t → args[j]? = some v → Value.okWide Tryz.prog W .any base t v := hval0
      clear hA0 hval0 hsz0
      rw [hp] at hA hval
      obtain ⟨v0, vs0, d0, ds0, p0, q0, rfl, rfl, rfl, t0, r0⟩ := trodAll_cons hA
      obtain ⟨v1, vs1, d1, ds1, p1, q1, rfl, rfl, rfl, t1, r1⟩ := trodAll_cons r0
      obtain ⟨v2, vs2, d2, ds2, p2, q2, rfl, rfl, rfl, t2, r2⟩ := trodAll_cons r1
      obtain ⟨v3, vs3, d3, ds3, p3, q3, rfl, rfl, rfl, t3, r3⟩ := trodAll_cons r2
      obtain ⟨rfl, rfl, rfl⟩ := trodAll_nil r3
      obtain ⟨n0, rfl, b0⟩ := arg_i64 Tryz.underlying3 (hval 0 3 v0 rfl rfl) t0
      obtain ⟨n1, rfl, b1⟩ := arg_i64 Tryz.underlying3 (hval 1 3 v1 rfl rfl) t1
      obtain ⟨s2, l2, rfl, g2, b2, _⟩ := arg_isB Tryz.underlying22 Tryz.underlying3 (by kernel_rfl) (hval 2 22 v2 rfl rfl) t2
      obtain ⟨b3, rfl, _, _⟩ := open_bool Tryz.underlying4 (hval 3 4 v3 rfl rfl) t3
      exact Tryz.shapeTraces_law b0 b1 g2 b2 b3)
/-- the card -/
theorem shapeTraces_holds : Rows.ShapeTracesCardSaid :=
  Claim7.holds_tied_plain_at .later [] [.handle] true (true, "5102714ae3b8f9e7cc2a442b1bf7a7629b30f73464df6ede8457e2caee05b570") true
    shapeTraces_row (fun _ h => by cases h) (by kernel_rfl) (fun _ h => by cases h) shapeTraces_row_tie rfl ⟨rfl, rfl⟩ (by kernel_rfl) rfl
    (fun f fn hf hfn => by
      obtain rfl : f = 3 := Option.some.inj ((show Tryz.prog.funcNamed "shellgame/shellgamelaw20.ShapeTraces" = some 3 by kernel_rfl).symm.trans hf) |>.symm
      obtain rfl : fn = Tryz.f3 := (Option.some.inj (Tryz.func3.symm.trans hfn)).symm
      exact ⟨by kernel_rfl, fun j t ht => by
        rw [Tryz.params3] at ht
        have hm : t ∈ [3, 3, 22, 4] := by simpa using Array.mem_of_getElem? ht
        have hall : ([3, 3, 22, 4].all fun u => !Tryz.prog.wantsStandIn u) = true := by kernel_rfl
        exact (show Tryz.prog.wantsStandIn t = false by simpa using List.all_eq_true.1 hall t hm)⟩)
    (by kernel_rfl)
#print axioms shapeTraces_holds
end Go.Proofs.YtecaoigobpekdaaGreatDoor

/- The row 'TapeParts', out of its law. -/
import Derived.Test.YtmckcemeciojhaaRows
import Derived.Test.YtmckcemeciojhaaShRow
import Derived.Test.YtmckcemeciojhaaTapeLaws
namespace Go.Proofs.Ytmckcemeciojhaa
open Go Go.Sh Go.RowKit Go.ChangeShapes
set_option maxRecDepth 100000 in
theorem tapeParts_holds : Rows.TapePartsSaid :=
  OpenClaim.holds_of_wide 5 Try.f5 rfl rfl rfl rfl rfl rfl rfl ⟨rfl, rfl, rfl, rfl, rfl⟩ rfl rfl rfl rfl rfl (by kernel_rfl) Try.func5 (by kernel_rfl)
    (of_decide_eq_true (by kernel_rfl)) (by unfold Func.isWrapper; first | (rw [if_pos (by decide +kernel)]; kernel_rfl) | (rw [if_neg (by decide +kernel)]; exact ⟨rfl, rfl⟩))
    (fun os started H enc _ => by
      refine lifted_of_law (C := Try.checked) (fn := Try.f5) (s := Rows.tapePartsSpec) (tb := 4) (by kernel_rfl) started (by kernel_rfl) Try.func5
        (ChangeSpec.witness6 (enc := enc) (C := Try.checked) false ⟨#[], #[.slice none 0 0, .int .i64 0], []⟩ 8 (by kernel_rfl) (by kernel_rfl) (by kernel_rfl) (by kernel_rfl)) rfl (by kernel_rfl) Try.underlying4 (by kernel_rfl) (by kernel_rfl) ?_ ?_
      · intro ds h
        match ds, h with
        | [d0, d1], _ => rfl
      intro W base args ds p hval0 hA0 hsz0
      have hp : Try.f5.params.toList = [22, 3] := by rw [Try.params5]
      have hA : DataW.TrodAll enc Try.prog W 0 (fun _ => true) true Try.f5.params.toList args ds p := hA0
      have hval : ∀ (j : Nat) t v, Try.f5.params.toList[j]? = some t → args[j]? = some v → Value.okWide Try.prog W .any base t v := hval0
      have hsz : (DataW.weightsEach Try.prog Try.f5.params.toList ds).all (· ≤ reachBytes) = true := hsz0
      clear hA0 hval0 hsz0
      rw [hp] at hA hval hsz
      obtain ⟨v0, vs0, d0, ds0, p0, q0, rfl, rfl, rfl, t0, r0⟩ := trodAll_cons hA
      obtain ⟨v1, vs1, d1, ds1, p1, q1, rfl, rfl, rfl, t1, r1⟩ := trodAll_cons r0
      obtain ⟨rfl, rfl, rfl⟩ := trodAll_nil r1
      obtain ⟨s0, l0, rfl, g0, e0⟩ := arg_us Try.underlying22 Try.underlying30 (by kernel_rfl) (hval 0 22 v0 rfl rfl) t0
      have z0 := arg_reach hsz (j := 0) (n := l0.length) (by_ := 8) rfl Try.underlying22 (by kernel_rfl) rfl (e0.imp (fun h => ⟨h.1, by rw [h.2]; rfl⟩) id)
      obtain ⟨n1, rfl, lo1, hi1⟩ := arg_i64 Try.underlying3 (hval 1 3 v1 rfl rfl) t1
      exact Try.tapeParts_law g0 z0 n1)
end Go.Proofs.Ytmckcemeciojhaa

/- The row 'CoupleRest', out of its law. -/
import Derived.Test.YtmckcemeciojhaaRows
import Derived.Test.YtmckcemeciojhaaShRow
import Derived.Test.YtmckcemeciojhaaCoupleLaws
namespace Go.Proofs.Ytmckcemeciojhaa
open Go Go.Sh Go.RowKit Go.ChangeShapes
set_option maxRecDepth 100000 in
theorem coupleRest_holds : Rows.CoupleRestSaid :=
  OpenClaim.holds_of_wide 10 Try.f10 rfl rfl rfl rfl rfl rfl rfl ⟨rfl, rfl, rfl, rfl, rfl⟩ rfl rfl rfl rfl rfl (by kernel_rfl) Try.func10 (by kernel_rfl)
    (of_decide_eq_true (by kernel_rfl)) (by unfold Func.isWrapper; first | (rw [if_pos (by decide +kernel)]; kernel_rfl) | (rw [if_neg (by decide +kernel)]; exact ⟨rfl, rfl⟩))
    (fun os started H enc _ => by
      refine lifted_of_law (C := Try.checked) (fn := Try.f10) (s := Rows.coupleRestSpec) (tb := 4) (by kernel_rfl) started (by kernel_rfl) Try.func10
        (ChangeSpec.witness6 (enc := enc) (C := Try.checked) false ⟨#[], #[.slice none 0 0, .slice none 0 0, .slice none 0 0], []⟩ 8 (by kernel_rfl) (by kernel_rfl) (by kernel_rfl) (by kernel_rfl)) rfl (by kernel_rfl) Try.underlying4 (by kernel_rfl) (by kernel_rfl) ?_ ?_
      · intro ds h
        match ds, h with
        | [d0, d1, d2], _ => rfl
      intro W base args ds p hval0 hA0 hsz0
      have hp : Try.f10.params.toList = [22, 23, 23] := by rw [Try.params10]
      have hA : DataW.TrodAll enc Try.prog W 0 (fun _ => true) true Try.f10.params.toList args ds p := hA0
      have hval : ∀ (j : Nat) t v, Try.f10.params.toList[j]? = some t → args[j]? = some v → Value.okWide Try.prog W .any base t v := hval0
      have hsz : (DataW.weightsEach Try.prog Try.f10.params.toList ds).all (· ≤ reachBytes) = true := hsz0
      clear hA0 hval0 hsz0
      rw [hp] at hA hval hsz
      obtain ⟨v0, vs0, d0, ds0, p0, q0, rfl, rfl, rfl, t0, r0⟩ := trodAll_cons hA
      obtain ⟨v1, vs1, d1, ds1, p1, q1, rfl, rfl, rfl, t1, r1⟩ := trodAll_cons r0
      obtain ⟨v2, vs2, d2, ds2, p2, q2, rfl, rfl, rfl, t2, r2⟩ := trodAll_cons r1
      obtain ⟨rfl, rfl, rfl⟩ := trodAll_nil r2
      obtain ⟨s0, l0, rfl, g0, e0⟩ := arg_us Try.underlying22 Try.underlying30 (by kernel_rfl) (hval 0 22 v0 rfl rfl) t0
      have z0 := arg_reach hsz (j := 0) (n := l0.length) (by_ := 8) rfl Try.underlying22 (by kernel_rfl) rfl (e0.imp (fun h => ⟨h.1, by rw [h.2]; rfl⟩) id)
      obtain ⟨s1, l1, rfl, g1, e1⟩ := arg_is Try.underlying23 Try.underlying3 (by kernel_rfl) (hval 1 23 v1 rfl rfl) t1
      have z1 := arg_reach hsz (j := 1) (n := l1.length) (by_ := 8) rfl Try.underlying23 (by kernel_rfl) rfl (e1.imp (fun h => ⟨h.1, by rw [h.2]; rfl⟩) id)
      obtain ⟨s2, l2, rfl, g2, e2⟩ := arg_is Try.underlying23 Try.underlying3 (by kernel_rfl) (hval 2 23 v2 rfl rfl) t2
      have z2 := arg_reach hsz (j := 2) (n := l2.length) (by_ := 8) rfl Try.underlying23 (by kernel_rfl) rfl (e2.imp (fun h => ⟨h.1, by rw [h.2]; rfl⟩) id)
      exact Try.coupleRest_law g0 z0 g1 z1 g2 z2)
end Go.Proofs.Ytmckcemeciojhaa

/- The row 'CuckooSpills', out of its law. -/
import Derived.Test.YtofgadhgljjhgaaGreatRows
import Derived.Test.YtofgadhgljjhgaaGreatShRow
import Derived.Test.YtofgadhgljjhgaaGreatLawCSpills
namespace Go.Proofs.YtofgadhgljjhgaaGreat
open Go Go.Sh Go.RowKit Go.ChangeShapes
theorem arg_u64 {H : Type} {enc : TypeId × Value → H} {P : Program} {W : World} {base : Nat} {t : TypeId} {v : Value} {d : DataW H} {ps : List MemPlace} (ht : P.underlying t = some (.int .u64)) (hval : Value.okWide P W .any base t v) (hd : DataW.Trod enc P W 0 (fun _ => true) true t v d ps) : ∃ n : UInt64, v = vu n := by
  obtain ⟨n, h1, h2⟩ := arg_int ht hval hd
  simp [Lit.wf, IntKind.min, IntKind.max, IntKind.signed, IntKind.bits] at h2
  refine ⟨UInt64.ofNat n.toNat, ?_⟩
  rw [h1]; unfold vu; congr 1; rw [UInt64.toNat_ofNat']; omega
set_option maxRecDepth 100000 in
theorem cuckooSpills_holds : Rows.CuckooSpillsSaid :=
  OpenClaim.holds_of_wide 7 Tryz.f7 rfl rfl rfl rfl rfl rfl rfl ⟨rfl, rfl, rfl, rfl, rfl⟩ rfl rfl rfl rfl rfl (by kernel_rfl) Tryz.func7 (by kernel_rfl)
    (of_decide_eq_true (by kernel_rfl)) (by unfold Func.isWrapper; first | (rw [if_pos (by decide +kernel)]; kernel_rfl) | (rw [if_neg (by decide +kernel)]; exact ⟨rfl, rfl⟩))
    (fun os started H enc _ => by
      refine lifted_of_law (C := Tryz.checked) (fn := Tryz.f7) (s := Rows.cuckooSpillsSpec) (tb := 4) (by kernel_rfl) started (by kernel_rfl) Tryz.func7
        (ChangeSpec.witness6 (enc := enc) (C := Tryz.checked) false ⟨#[], #[.int .i64 0, .int .i64 0, .int .i64 0], []⟩ 8 (by kernel_rfl) (by kernel_rfl) (by kernel_rfl) (by kernel_rfl)) rfl (by kernel_rfl) Tryz.underlying4 (by kernel_rfl) (by kernel_rfl) ?_ ?_
      · intro ds h
        match ds, h with
        | [d0, d1, d2], _ => rfl
      intro W base args ds p hval0 hA0 hsz0
      have hp : Tryz.f7.params.toList = [3, 3, 3] := by rw [Tryz.params7]
      have hA : DataW.TrodAll enc Tryz.prog W 0 (fun _ => true) true Tryz.f7.params.toList args ds p := hA0
      have hval : ∀ (j : Nat) t v, Tryz.f7.params.toList[j]? = some t → args[j]? = some v → Value.okWide Tryz.prog W .any base t v := hval0
      have hsz : (DataW.weightsEach Tryz.prog Tryz.f7.params.toList ds).all (· ≤ reachBytes) = true := hsz0
      clear hA0 hval0 hsz0
      rw [hp] at hA hval hsz
      obtain ⟨v0, vs0, d0, ds0, p0, q0, rfl, rfl, rfl, t0, r0⟩ := trodAll_cons hA
      obtain ⟨v1, vs1, d1, ds1, p1, q1, rfl, rfl, rfl, t1, r1⟩ := trodAll_cons r0
      obtain ⟨v2, vs2, d2, ds2, p2, q2, rfl, rfl, rfl, t2, r2⟩ := trodAll_cons r1
      obtain ⟨rfl, rfl, rfl⟩ := trodAll_nil r2
      obtain ⟨n0, rfl, lo0, hi0⟩ := arg_i64 Tryz.underlying3 (hval 0 3 v0 rfl rfl) t0
      obtain ⟨n1, rfl, lo1, hi1⟩ := arg_i64 Tryz.underlying3 (hval 1 3 v1 rfl rfl) t1
      obtain ⟨n2, rfl, lo2, hi2⟩ := arg_i64 Tryz.underlying3 (hval 2 3 v2 rfl rfl) t2
      exact Tryz.law_cspills lo0 hi0 lo1 hi1 lo2 hi2)
end Go.Proofs.YtofgadhgljjhgaaGreat

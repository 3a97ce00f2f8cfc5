import Derived.Test.YtofgadhgljjhgaaGreatRows
import Derived.Test.YtofgadhgljjhgaaGreatShRow
import Derived.Test.YtofgadhgljjhgaaGreatLawCPlays
namespace Go.Proofs.YtofgadhgljjhgaaGreat
open Go Go.cD Go.RowKit Go.ChangeShapes
theorem azR {H : Type}{enc : TypeId × Value -> H}{P : Program}{W : World}{base : Nat}{t : TypeId}{v : Value}{d : DataW H}{cx : List MemPlace}(bw : P.underlying t = some (.int .u64))(mP : Value.okWide P W .any base t v)(bV : DataW.Trod enc P W 0 (λ_ => true) true t v d cx) : ∃ n : UInt64, v = ab n := by
 obtain ⟨n, aa, ad⟩ := acs bw mP bV
 simp [Lit.wf, IntKind.min, IntKind.max, IntKind.signed, IntKind.bits] at ad
 refine ⟨UInt64.ofNat n.toNat, ?_⟩
 rw [aa]; unfold ab; congr 1; rw [UInt64.toNat_ofNat']; omega
set_option maxRecDepth 100000 in
theorem cuckooPlays_holds : Rows.CuckooPlaysSaid :=
 OpenClaim.holds_of_wide 5 Tryz.f5 rfl rfl rfl rfl rfl rfl rfl ⟨rfl, rfl, rfl, rfl, rfl⟩ rfl rfl rfl rfl rfl (by kernel_rfl) Tryz.func5 (by kernel_rfl)
  (of_decide_eq_true (by kernel_rfl)) (by unfold Func.isWrapper; first | (rw [if_pos (by decide +kernel)]; kernel_rfl) | (rw [if_neg (by decide +kernel)]; exact ⟨rfl, rfl⟩))
  (λos started H enc _ => by
   refine at1 (C := Tryz.checked) (fn := Tryz.f5) (s := Rows.cuckooPlaysSpec) (tb := 4) (by kernel_rfl) started (by kernel_rfl) Tryz.func5
    (ChangeSpec.witness6 (enc := enc) (C := Tryz.checked) false ⟨#[], #[.int .i64 0, .slice none 0 0, .slice none 0 0], []⟩ 8 (by kernel_rfl) (by kernel_rfl) (by kernel_rfl) (by kernel_rfl)) rfl (by kernel_rfl) Tryz.underlying4 (by kernel_rfl) (by kernel_rfl) ?_ ?_
   .intro cY h
    match cY, h with
    | [d0, d1, d2], _ => rfl
   intro W base args cY p acu acv acw
   have aS : Tryz.f5.params.toList = [3, 22, 23] := by rw [Tryz.params5]
   have sH : DataW.TrodAll enc Tryz.prog W 0 (λ_ => true) true Tryz.f5.params.toList args cY p := acv
   have mP : ∀ (j : Nat) t v, Tryz.f5.params.toList[j]? = some t -> args[j]? = some v -> Value.okWide Tryz.prog W .any base t v := acu
   have n2 : (DataW.weightsEach Tryz.prog Tryz.f5.params.toList cY).all (· <= reachBytes) = true := acw
   clear acv acu acw
   rw [aS] at sH mP n2
   obtain ⟨v0, azS, d0, azT, p0, iy, rfl, rfl, rfl, t0, h2⟩ := trodAll_cons sH
   obtain ⟨v1, azU, d1, azV, gX, q1, rfl, rfl, rfl, t1, ew⟩ := trodAll_cons h2
   obtain ⟨v2, acx, d2, azW, h9, aJ, rfl, rfl, rfl, t2, fF⟩ := trodAll_cons ew
   obtain ⟨rfl, rfl, rfl⟩ := trodAll_nil fF
   obtain ⟨iW, rfl, at2, n6⟩ := at3 Tryz.underlying3 (mP 0 3 v0 rfl rfl) t0
   obtain ⟨s1, h_, rfl, g1, aF⟩ := at4 Tryz.underlying22 Tryz.underlying36 (by kernel_rfl) (mP 1 22 v1 rfl rfl) t1
   have ee := acy n2 (j := 1) (n := h_.length) (by_ := 8) rfl Tryz.underlying22 (by kernel_rfl) rfl (aF.imp (λh => ⟨h.1, by rw [h.2]; rfl⟩) id)
   obtain ⟨s2, gx, rfl, g2, a8⟩ := ahK Tryz.underlying23 Tryz.underlying38 (by kernel_rfl) (by kernel_rfl) (mP 2 23 v2 rfl rfl) t2
   have hG := acy n2 (j := 2) (n := gx.length) (by_ := 32) rfl Tryz.underlying23 (by kernel_rfl) rfl (a8.imp (λh => ⟨h.1, by rw [h.2]; rfl⟩) id)
   exact Tryz.aji at2 n6 g1 ee g2 hG)

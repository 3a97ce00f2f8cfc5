import Derived.Test.YtegdpmgnhnccaaaGreatRows
import Derived.Test.YtegdpmgnhnccaaaGreatShRow
import Derived.Test.YtegdpmgnhnccaaaGreatLawPlays
namespace Go.Proofs.YtegdpmgnhnccaaaGreat
open Go Go.cQ Go.RowKit Go.ChangeShapes
theorem asC {H : Type}{enc : TypeId × Value -> H}{P : Program}{W : World}{base : Nat}{t : TypeId}{v : Value}{d : DataW H}{cc : List MemPlace}(bz : P.underlying t = some (.int .u64))(lC : Value.okWide P W .any base t v)(bK : DataW.Trod enc P W 0 (λ_ => true) true t v d cc) : ∃ n : UInt64, v = ak n := by
 obtain ⟨n, aa, ad⟩ := Xv bz lC bK;simp [Lit.wf, IntKind.min, IntKind.max, IntKind.signed, IntKind.bits] at ad;refine ⟨UInt64.ofNat n.toNat, ?_⟩;rw [aa]; unfold ak; congr 1; rw [UInt64.toNat_ofNat']; omega
set_option maxRecDepth 100000 in
theorem storePlays_holds : Rows.StorePlaysSaid :=
 OpenClaim.holds_of_wide 3 Tryz.f3 rfl rfl rfl rfl rfl rfl rfl ⟨rfl, rfl, rfl, rfl, rfl⟩ rfl rfl rfl rfl rfl (by kernel_rfl) Tryz.func3 (by kernel_rfl)
  (of_decide_eq_true (by kernel_rfl)) (by unfold Func.isWrapper; first | (rw [if_pos (by decide +kernel)]; kernel_rfl) | (rw [if_neg (by decide +kernel)]; exact ⟨rfl, rfl⟩))
  (λos started H enc _ => by
   refine amE (C := Tryz.checked) (fn := Tryz.f3) (s := Rows.storePlaysSpec) (tb := 4) (by kernel_rfl) started (by kernel_rfl) Tryz.func3
    (ChangeSpec.witness6 (enc := enc) (C := Tryz.checked) false ⟨#[], #[.int .i64 0, .slice none 0 0, .slice none 0 0], []⟩ 8 (by kernel_rfl) (by kernel_rfl) (by kernel_rfl) (by kernel_rfl)) rfl (by kernel_rfl) Tryz.underlying4 (by kernel_rfl) (by kernel_rfl) ?_ ?_
   .intro cG h
    match cG, h with
    | [d0, d1, d2], _ => rfl
   intro W base args cG p Xw Xx Xy;have aM : Tryz.f3.params.toList = [3, 22, 23] := by rw [Tryz.params3]
   have sw : DataW.TrodAll enc Tryz.prog W 0 (λ_ => true) true Tryz.f3.params.toList args cG p := Xx;have lC : ∀ (j : Nat) t v, Tryz.f3.params.toList[j]? = some t -> args[j]? = some v -> Value.okWide Tryz.prog W .any base t v := Xw;have mx : (DataW.weightsEach Tryz.prog Tryz.f3.params.toList cG).all (· <= reachBytes) = true := Xy;clear Xx Xw Xy;rw [aM] at sw lC mx;obtain ⟨v0, asD, d0, asE, p0, gW, rfl, rfl, rfl, t0, gT⟩ := trodAll_cons sw;obtain ⟨v1, asF, d1, asG, hF, q1, rfl, rfl, rfl, t1, ev⟩ := trodAll_cons gT;obtain ⟨v2, Xz, d2, asH, jt, aP, rfl, rfl, rfl, t2, e5⟩ := trodAll_cons ev;obtain ⟨rfl, rfl, rfl⟩ := trodAll_nil e5;obtain ⟨ij, rfl, amF, mB⟩ := amG Tryz.underlying3 (lC 0 3 v0 rfl rfl) t0;obtain ⟨s1, g_, rfl, g1, aC⟩ := amH Tryz.underlying22 Tryz.underlying47 (by kernel_rfl) (lC 1 22 v1 rfl rfl) t1;have fQ := XA mx (j := 1) (n := g_.length) (by_ := 8) rfl Tryz.underlying22 (by kernel_rfl) rfl (aC.imp (λh => ⟨h.1, by rw [h.2]; rfl⟩) id);obtain ⟨s2, hW, rfl, g2, a7⟩ := amI Tryz.underlying23 Tryz.underlying53 (by kernel_rfl) (by kernel_rfl) (lC 2 23 v2 rfl rfl) t2;have hC := XA mx (j := 2) (n := hW.length) (by_ := 24) rfl Tryz.underlying23 (by kernel_rfl) rfl (a7.imp (λh => ⟨h.1, by rw [h.2]; rfl⟩) id);exact Tryz.acu amF mB g1 fQ g2 hC)

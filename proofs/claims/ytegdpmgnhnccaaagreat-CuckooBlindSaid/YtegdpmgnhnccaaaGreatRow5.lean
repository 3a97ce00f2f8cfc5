import Derived.Test.YtegdpmgnhnccaaaGreatRows
import Derived.Test.YtegdpmgnhnccaaaGreatShRow
import Derived.Test.YtegdpmgnhnccaaaGreatLawCBlind
namespace Go.Proofs.YtegdpmgnhnccaaaGreat
open Go Go.cR Go.RowKit Go.ChangeShapes
theorem aC1 {H : Type}{enc : TypeId × Value -> H}{P : Program}{W : World}{base : Nat}{t : TypeId}{v : Value}{d : DataW H}{cN : List MemPlace}(bG : P.underlying t = some (.int .u64))(nm : Value.okWide P W .any base t v)(b4 : DataW.Trod enc P W 0 (λ_ => true) true t v d cN) : ∃ n : UInt64, v = ab n := by
 obtain ⟨n, aa, ad⟩ := aeL bG nm b4;simp [Lit.wf, IntKind.min, IntKind.max, IntKind.signed, IntKind.bits] at ad;refine ⟨UInt64.ofNat n.toNat, ?_⟩;rw [aa]; unfold ab; congr 1; rw [UInt64.toNat_ofNat']; omega
set_option maxRecDepth 100000 in
theorem cuckooBlind_holds : Rows.CuckooBlindSaid :=
 OpenClaim.holds_of_wide 5 Tryz.f5 rfl rfl rfl rfl rfl rfl rfl ⟨rfl, rfl, rfl, rfl, rfl⟩ rfl rfl rfl rfl rfl (by kernel_rfl) Tryz.func5 (by kernel_rfl)
  (of_decide_eq_true (by kernel_rfl)) (by unfold Func.isWrapper; first | (rw [if_pos (by decide +kernel)]; kernel_rfl) | (rw [if_neg (by decide +kernel)]; exact ⟨rfl, rfl⟩))
  (λos started H enc _ => by
   refine awY (C := Tryz.checked) (fn := Tryz.f5) (s := Rows.cuckooBlindSpec) (tb := 4) (by kernel_rfl) started (by kernel_rfl) Tryz.func5
    (ChangeSpec.witness6 (enc := enc) (C := Tryz.checked) false ⟨#[], #[.int .i64 0, .slice none 0 0, .slice none 0 0], []⟩ 8 (by kernel_rfl) (by kernel_rfl) (by kernel_rfl) (by kernel_rfl)) rfl (by kernel_rfl) Tryz.underlying4 (by kernel_rfl) (by kernel_rfl) ?_ ?_
   .intro c9 h
    match c9, h with
    | [d0, d1, d2], _ => rfl
   intro W base args c9 p aeM aeN aeO;have aP : Tryz.f5.params.toList = [3, 22, 85] := by rw [Tryz.params5]
   have tt : DataW.TrodAll enc Tryz.prog W 0 (λ_ => true) true Tryz.f5.params.toList args c9 p := aeN;have nm : ∀ (j : Nat) t v, Tryz.f5.params.toList[j]? = some t -> args[j]? = some v -> Value.okWide Tryz.prog W .any base t v := aeM;have oN : (DataW.weightsEach Tryz.prog Tryz.f5.params.toList c9).all (· <= reachBytes) = true := aeO;clear aeN aeM aeO;rw [aP] at tt nm oN;obtain ⟨v0, aC2, d0, aC3, p0, gU, rfl, rfl, rfl, t0, iD⟩ := trodAll_cons tt;obtain ⟨v1, aC4, d1, aC5, ho, q1, rfl, rfl, rfl, t1, eD⟩ := trodAll_cons iD;obtain ⟨v2, aeP, d2, aC6, iz, aI, rfl, rfl, rfl, t2, fK⟩ := trodAll_cons eD;obtain ⟨rfl, rfl, rfl⟩ := trodAll_nil fK;obtain ⟨jx, rfl, awZ, oQ⟩ := aw0 Tryz.underlying3 (nm 0 3 v0 rfl rfl) t0;obtain ⟨s1, hz, rfl, g1, aH⟩ := aw1 Tryz.underlying22 Tryz.underlying47 (by kernel_rfl) (nm 1 22 v1 rfl rfl) t1;have dD := aeQ oN (j := 1) (n := hz.length) (by_ := 8) rfl Tryz.underlying22 (by kernel_rfl) rfl (aH.imp (λh => ⟨h.1, by rw [h.2]; rfl⟩) id);obtain ⟨s2, gg, rfl, g2, a_⟩ := aj5 Tryz.underlying85 Tryz.underlying94 (by kernel_rfl) (by kernel_rfl) (nm 2 85 v2 rfl rfl) t2;have h7 := aeQ oN (j := 2) (n := gg.length) (by_ := 32) rfl Tryz.underlying85 (by kernel_rfl) rfl (a_.imp (λh => ⟨h.1, by rw [h.2]; rfl⟩) id);exact Tryz.amy awZ oQ g1 dD g2 h7)

/- ShapeCounts: an operation that ends no batch has as many events as its accesses, its looks at the spill, and two at the state ask. -/
import Derived.Test.YtecaoigobpekdaaGreatDoorShapeB
import Derived.Test.YtecaoigobpekdaaGreatDoorMade
namespace Go.Proofs.Tryz
open Go Go.Sh Go.RowKit
set_option maxRecDepth 8000
set_option maxHeartbeats 2000000

/-- how many looks a level's access makes -/
theorem lev_same {k : Nat} {s t : Int} (o : LevOk k s t) (f1 f2 : Int) (l1 l2 : Nat) : (levEv k s t f1 l1).length = (levEv k s t f2 l2).length := by
  have h1 := spotsL_length o f1 l1
  have h2 := spotsL_length o f2 l2
  have he : (spotsL k s t f1 l1).length = (spotsL k s t f2 l2).length := by omega
  have hf : ∀ n, (fillEv f1 (spotsL k s t f1 l1) n).length = (fillEv f2 (spotsL k s t f2 l2) n).length := fun n => by
    induction n with
    | zero => rfl
    | succ n ih =>
      rw [fillEv_succ, fillEv_succ, List.length_append, List.length_append, List.length_append, List.length_append, ih]
      by_cases h : n < (spotsL k s t f1 l1).length
      · rw [if_pos h, if_pos (by omega)]; rfl
      · rw [if_neg h, if_neg (by omega)]; rfl
  have hs : ∀ r E, (sortEv r E).length = 4 * (pairsL E).length := fun r E => sort4_length r _
  simp only [levEv, turnEv, List.length_append, writes_length, backEv_length, hs, hf, he]
theorem one_same {m : Nat} {s t : Int} {L : Nat} (o : StOk m s t L) (f1 f2 : Int) (w1 w2 : List Int) (n : Nat) : (oneEv m s t L f1 w1 n).length = (oneEv m s t L f2 w2 n).length := by
  induction n with
  | zero => rfl
  | succ n ih => rw [oneEv_succ, oneEv_succ, List.length_append, List.length_append, ih, lev_same (o.lev _) _ (f2 + 1 + 3 * ((L - 1 - n : Nat) : Int)) _ (w2.getD n 0).toNat]
theorem acc_same {m : Nat} {s t : Int} {L : Nat} (o : StOk m s t L) (f : Int) (w1 w2 : List Int) : (accEv m s t L f w1).length = (accEv m s t L f w2).length := by
  simp only [accEv, List.length_append, one_same o f f w1 w2]
theorem store_count {m : Nat} {s t : Int} {L : Nat} (o : StOk m s t L) (f : Int) (w w' : List Int) (n : Nat) : (storeEv m s t L f w n).length = n * (accEv m s t L f w').length := by
  induction n with
  | zero => simp [storeEv]
  | succ n ih => rw [storeEv_succ, List.length_append, ih, acc_same o f (w.drop (n * L)) w', Nat.succ_mul]
section
variable {c : Cfg} {t L : Nat}
def accN (c : Cfg) (t L : Nat) : Nat := (accEv (t + 2) c.slo c.sta L 3 []).length
theorem s_count (o : c.Ok t L) (ws : List Int) (n : Nat) : (sEv c t L ws n).length = n * accN c t L := store_count o.st 3 ws [] n
theorem op_count (o : c.Ok t L) (ws : List Int) : (opEv c t L ws).length = (5 + 2 * c.K) * accN c t L + 6 * c.P + 2 := by
  simp only [opEv, findEv, putEv, remEv, List.length_append, List.length_cons, List.length_nil, s_count o, reads_length, writes_length]
  simp only [Nat.add_mul, Nat.mul_assoc]
  omega
theorem accN_pos (o : c.Ok t L) : 0 < accN c t L := by
  have := topN_le o.st
  simp only [accN, accEv, List.length_append, reads_length]; omega
end
theorem ifB_and {b : Bool} {x y : Prop} (h : b = true) (hx : x) : ifB (bif true then b else false) x y := ifB_pos (by rw [h]; rfl) hx

theorem shapeCounts_law {h : Hp} {n : Int} (hn : i64 n) : callK prog 6 [.int .i64 n] h fun v h' => v = .bool true ∧ Keep h h' := by
  refine c6 n ?_
  unfold G6
  refine law_shown.to fun h1 k1 => ⟨_, rfl, ?_⟩
  refine (law_made hn).to fun h2 k2 => ⟨_, _, _, _, _, _, _, _, _, rfl, newC fun b1 h3 f3 e3 k3 => ?_⟩
  have k03 := (k1.trans k2).trans k3
  have f0 : h b1 = none := k1.free (k2.free f3)
  refine stW k03 f0 e3 rfl fun h4 k4 e4 _ => ?_
  refine stN k4 f0 e4 (by simp) fun h5 k5 e5 _ => stN k5 f0 e5 (by rw [hwr_size]; simp) fun h6 k6 e6 _ => ?_
  have hL := madeL_bds n
  have o0 := madeC_ok n
  obtain ⟨c, hc⟩ : ∃ c : Cfg, c = ⟨1, 7, (madeC n).kic, (madeC n).spi, (madeC n).tab, (madeC n).slo, (madeC n).sta, (madeC n).lev, (madeC n).pol⟩ := ⟨_, rfl⟩
  have o : c.Ok 3 (madeL n) := by
    subst hc
    exact ⟨o0.ht, o0.tab, o0.lev, o0.L, by simp, by simp, o0.kic, o0.spi, o0.pol, by simp, o0.slo, o0.sta, o0.cells⟩
  have ec6 : h6 b1 = some (.cells #[.int .i64 c.cap, .int .i64 c.bat, .int .i64 c.kic, .int .i64 c.spi, .int .i64 c.tab, .int .i64 c.slo, .int .i64 c.sta, .int .i64 c.lev, .int .i64 c.pol] 25 (0, 0)) := by
    rw [e6, hc]; rfl
  generalize madeL n = L at o hL
  have hN := o.nats
  have hB7 : c.B = 7 := by rw [hc]; rfl
  refine rd9 ec6 ?_
  refine (config_accesses o).to fun h7 k7 => ⟨_, _, rfl, ?_⟩
  have e7 := k7.get ec6
  refine rd9 e7 (rdI e7 rfl ?_)
  refine (config_store o).to fun h8 k8 => ⟨_, _, _, _, rfl, ⟨rd1 (k8.get e7) rfl, trivial⟩, ?_⟩
  rw [o.lev]
  refine ⟨by omega, by omega, by omega, by omega, newC fun b2 h9 f9 e9 k9 => ?_⟩
  simp only [Int.toNat_natCast] at e9 ⊢
  have oz : OwnS iv h8 h9 ⟨some ⟨b2, 0⟩, L, L, none⟩ (List.replicate L 0) := by
    refine OwnS.newE f9 e9 ?_ (by simp)
    have := zRow_one (v := Value.int .i64 0) L L rfl
    simp only [Nat.mul_one]
    refine this.trans ?_
    simp [iv]
  have hw : WaysOk (3 + 2) L (List.replicate L 0) := fun i hi => by
    have := pow_le_pow (Nat.zero_le (3 + 2 - 2 * (L - 1 - i % L)))
    simp at this ⊢; omega
  refine (store_events o.st 3 (by omega) oz.rd (n := 1) (by simp) hw (by omega)).mono ?_
  rintro _ h10 ⟨s1, rfl, o1, k10⟩
  have l1 := o1.len
  rw [show (storeEv (3 + 2) c.slo c.sta L 3 (List.replicate L 0) 1).length = 1 * accN c 3 L from store_count o.st 3 _ [] 1, Nat.one_mul] at l1
  have hap := accN_pos o
  have hal : accN c 3 L ≤ 5000000 := accEv_length o.st 3 []
  refine ⟨_, rfl, ifB_pos rfl (ifB_and (by simp; omega) ?_)⟩
  have e10 := (k8.trans (k9.trans k10)).get e7
  refine rd9 e10 (rdI e10 rfl ?_)
  refine (shape_shape o (n := 1) (by omega) h10).mono ?_
  rintro _ h11 ⟨s2, rfl, o2, k11⟩
  have l2 := o2.len
  have hsh : (shapeL c 3 L 1).length = (5 + 2 * c.K) * accN c 3 L + 6 * c.P + 2 := by
    unfold shapeL
    rw [List.length_map]
    simp only [trEv, hB7, List.length_append, List.length_nil]
    rw [if_neg (by omega), op_count o]; simp
  rw [hsh] at l2
  refine ⟨_, rfl, ⟨rd1 (k11.get e10) rfl, trivial⟩, ifB_and (decide_eq_true ?_) ?_⟩
  · have e1 : (2 * c.kic + 5) * ((s1.len : Nat) : Int) = (((5 + 2 * c.K) * accN c 3 L : Nat) : Int) := by
      rw [l1, show 2 * c.kic + 5 = ((5 + 2 * c.K : Nat) : Int) by omega]; simp
    have hb : (5 + 2 * c.K) * accN c 3 L ≤ 37 * 5000000 := Nat.mul_le_mul (by omega) hal
    rw [e1, w64_id (n := (((5 + 2 * c.K) * accN c 3 L : Nat) : Int)) (by omega) (by omega), w64_id (n := 6 * c.spi) (by omega) (by omega), w64_id (n := (((5 + 2 * c.K) * accN c 3 L : Nat) : Int) + 6 * c.spi) (by omega) (by omega), w64_id (by omega) (by omega)]
    omega
  · have e11 := k11.get e10
    refine rd9 e11 ?_
    refine (shape_trace o (n := 0) (by omega) (RdS.nilS iv h11) (by simp [usedN]) (fun i hi => by simp at hi)).mono ?_
    rintro _ h12 ⟨s3, rfl, o3, k12⟩
    have l3 := o3.len
    refine ⟨_, rfl, ?_, k6.trans ((k7.trans (k8.trans (k9.trans k10))).trans (k11.trans k12))⟩
    simp only [trEv, List.length_nil] at l3
    rw [cond_true, decide_eq_true (by omega)]
end Go.Proofs.Tryz

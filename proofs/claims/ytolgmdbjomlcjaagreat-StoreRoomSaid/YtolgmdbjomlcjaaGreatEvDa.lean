/- Stores: how accesses look at cells. -/
import Derived.Test.YtolgmdbjomlcjaaGreatEvC
namespace Go.Proofs.Tryz
open Go Go.Sh Go.RowKit
set_option maxRecDepth 8000

theorem mv_upd {F : Nat → Prop} {h : Hp} {k : Nat} (hF : F k) (o : Obj) : Mv F h F (upd h k o) :=
  ⟨fun _ h => .inl h, fun b _ hn => upd_ne _ _ (fun e => hn (e ▸ hF)), fun b hb => by
    by_cases e : b = k
    · rw [e, upd_same] at hb; cases hb
    · rwa [upd_ne _ _ e] at hb⟩
theorem mv_loop {F F' : Nat → Prop} {h h2 : Hp} {k : Nat} {o1 o2 : Obj} (hk : h k = none) (m : Mv (fun x => x = k ∨ F x) (upd h k o1) (fun x => x = k ∨ F' x) h2) : Mv F h F' (upd h2 k o2) := by
  refine ⟨fun b hb => ?_, fun b hb hn => ?_, fun b hb => ?_⟩
  · rcases m.1 b (.inr hb) with (h1 | h1) | h1
    · rw [h1]; exact .inr hk
    · exact .inl h1
    · by_cases e : b = k
      · rw [e]; exact .inr hk
      · rw [upd_ne _ _ e] at h1; exact .inr h1
  · have e : b ≠ k := fun e => hb (e ▸ hk)
    rw [upd_ne _ _ e, m.2.1 b (by rw [upd_ne _ _ e]; exact hb) (fun h1 => by
      rcases h1 with h1 | h1
      · exact e h1
      · exact hn h1), upd_ne _ _ e]
  · by_cases e : b = k
    · rw [e, upd_same] at hb; cases hb
    · rw [upd_ne _ _ e] at hb
      have := m.2.2 b hb
      rwa [upd_ne _ _ e] at this
/-- a step within a larger footprint -/
theorem mv_more {F F' : Nat → Prop} {h h' : Hp} (m : Mv F h F' h') (G : Nat → Prop) : Mv (fun x => G x ∨ F x) h (fun x => G x ∨ F' x) h' :=
  ⟨fun b hb => by
    rcases hb with h1 | h1
    · exact .inl (.inl h1)
    · exact (m.1 b h1).imp .inr id, fun b hb hn => m.2.1 b hb fun h1 => hn (.inr h1), m.2.2⟩

def topN (m L : Nat) : Nat := 2 ^ (m - 2 * (L - 1))
def oneEv (m : Nat) (s t : Int) (L : Nat) (first : Int) (ls : List Int) (n : Nat) : List Ev := (List.range n).flatMap fun i => levEv (m - 2 * (L - 1 - i)) s t (first + 1 + 3 * ((L - 1 - i : Nat) : Int)) (ls.getD i 0).toNat
theorem oneEv_succ (m : Nat) (s t : Int) (L : Nat) (first : Int) (ls : List Int) (n : Nat) : oneEv m s t L first ls (n + 1) = oneEv m s t L first ls n ++ levEv (m - 2 * (L - 1 - n)) s t (first + 1 + 3 * ((L - 1 - n : Nat) : Int)) (ls.getD n 0).toNat := by simp [oneEv, List.range_succ]
def accEv (m : Nat) (s t : Int) (L : Nat) (first : Int) (ls : List Int) : List Ev := reads first (topN m L) ++ writes first (topN m L) ++ oneEv m s t L first ls L
def storeEv (m : Nat) (s t : Int) (L : Nat) (first : Int) (lv : List Int) (n : Nat) : List Ev := (List.range n).flatMap fun c => accEv m s t L first (lv.drop (c * L))
theorem storeEv_succ (m : Nat) (s t : Int) (L : Nat) (first : Int) (lv : List Int) (n : Nat) : storeEv m s t L first lv (n + 1) = storeEv m s t L first lv n ++ accEv m s t L first (lv.drop (n * L)) := by simp [storeEv, List.range_succ]
theorem levEv_length {k : Nat} {s t : Int} (o : LevOk k s t) (first : Int) (leaf : Nat) : (levEv k s t first leaf).length ≤ 1000000 := by
  have hp := o.plcB
  have hE : roundE (plc k s t) ≤ 8 := roundE_le (by omega) (by simp; omega)
  have hT : 2 ^ roundE (plc k s t) ≤ 256 := Nat.pow_le_pow_right (n := 2) (by decide) hE
  have hsl := spotsL_length o first leaf
  have h1 := fillEv_length first (spotsL k s t first leaf) (2 ^ roundE (plc k s t))
  have h2 := backEv_length first (spotsL k s t first leaf) (spotsL k s t first leaf).length
  have hso := pairsL_length (K := roundE (plc k s t)) (by omega)
  have hsl4 : (sortEv (first + 2) (roundE (plc k s t))).length = 4 * (pairsL (roundE (plc k s t))).length := sort4_length _ _
  simp only [levEv, turnEv, List.length_append, writes_length, hsl4]
  omega
theorem oneEv_length {m : Nat} {s t : Int} {L : Nat} (o : StOk m s t L) (first : Int) (ls : List Int) (n : Nat) : (oneEv m s t L first ls n).length ≤ 1000000 * n := by
  induction n with
  | zero => simp [oneEv]
  | succ n ih => rw [oneEv_succ, List.length_append]; have := levEv_length (o.lev (L - 1 - n)) (first + 1 + 3 * ((L - 1 - n : Nat) : Int)) (ls.getD n 0).toNat; omega
theorem topN_le {m : Nat} {s t : Int} {L : Nat} (o : StOk m s t L) : 1 ≤ topN m L ∧ topN m L ≤ 1024 ∧ ((topN m L : Nat) : Int) = 2 ^ (m - 2 * (L - 1)) := by
  have h1 : 2 ^ (m - 2 * (L - 1)) ≤ 2 ^ 10 := Nat.pow_le_pow_right (by decide) (by have := o.m; omega)
  have h2 : 0 < 2 ^ (m - 2 * (L - 1)) := Nat.pow_pos (by decide)
  exact ⟨h2, h1, by simp [topN]⟩
theorem accEv_length {m : Nat} {s t : Int} {L : Nat} (o : StOk m s t L) (first : Int) (ls : List Int) : (accEv m s t L first ls).length ≤ 5000000 := by
  have h1 := oneEv_length o first ls L
  have h2 := topN_le o
  have := o.L
  simp only [accEv, List.length_append, reads_length, writes_length]; omega
theorem storeEv_length {m : Nat} {s t : Int} {L : Nat} (o : StOk m s t L) (first : Int) (lv : List Int) (n : Nat) : (storeEv m s t L first lv n).length ≤ 5000000 * n := by
  induction n with
  | zero => simp [storeEv]
  | succ n ih => rw [storeEv_succ, List.length_append]; have := accEv_length o first (lv.drop (n * L)); omega
end Go.Proofs.Tryz

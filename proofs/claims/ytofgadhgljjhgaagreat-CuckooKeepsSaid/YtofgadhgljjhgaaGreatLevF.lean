/- Chapter 10: Access: what is asked, which blocks were met. -/
import Derived.Test.YtofgadhgljjhgaaGreatLevE
namespace Go.Proofs.Tryz
open Go Go.Sh Go.RowKit
set_option maxRecDepth 8000
def MapI (h : Hp) (b : Nat) (ids : List UInt64) : Prop := ∃ (l : List (UInt64 × Value × Nat)) (clock : Nat), h b = some (.map (l.map ment).toArray clock) ∧ l.map (·.1) = ids
theorem MapI.move {h h' : Hp} {b : Nat} {ids : List UInt64} (m : MapI h b ids) (e : h' b = h b) : MapI h' b ids := by
 obtain ⟨l, c, h1, h2⟩ := m; exact ⟨l, c, by rw [e, h1], h2⟩
theorem MapI.dom {h : Hp} {b : Nat} {ids : List UInt64} (m : MapI h b ids) : h b ≠ none := by
 obtain ⟨l, c, h1, _⟩ := m; rw [h1]; simp
theorem modify_keys {v : Value} (k : UInt64) : ∀ (l : List (UInt64 × Value × Nat)) (i : Nat), (∀ h : i < l.length, l[i].1 = k) → (l.modify i fun e => (k, v, e.2.2)).map (·.1) = l.map (·.1)
 | [], i, _ => by cases i <;> rfl
 | e :: l, 0, h => by
   have := h (by simp)
   simp at this
   simp [List.modify, this]
 | e :: l, i + 1, h => by
   have ih := modify_keys (v := v) k l i fun hi => by have := h (by simpa using hi); simpa using this
   simp only [List.modify_succ_cons, List.map_cons, ih]
theorem mup_ids {h : Hp} {b : Nat} {ids : List UInt64} {k : UInt64} {v : Value} {K : Hp → Prop} (m : MapI h b ids) (hk : ∀ h', MapI h' b (if k ∈ ids then ids else ids ++ [k]) → (∀ x, x ≠ b → h' x = h x) → K h') : mupK h (some b) k v K := by
 obtain ⟨l, c, h1, h2⟩ := m
 refine ⟨b, l, c, rfl, h1, hk _ ?_ fun x hx => upd_ne _ _ hx⟩
 unfold mput
 cases hf : l.findIdx? (fun e => e.1 == k) with
 | some i =>
   rw [List.findIdx?_eq_some_iff_getElem] at hf
   obtain ⟨hi, he, _⟩ := hf
   have he : l[i].1 = k := by simpa using he
   have hm : k ∈ ids := by rw [← h2, ← he]; exact List.mem_map.2 ⟨_, List.getElem_mem hi, rfl⟩
   rw [if_pos hm]
   refine ⟨l.modify i fun e => (k, v, e.2.2), c, upd_same _ _ _, ?_⟩
   rw [modify_keys k l i fun _ => he, h2]
 | none =>
   rw [List.findIdx?_eq_none_iff] at hf
   have hm : ¬ k ∈ ids := by
     rw [← h2]; intro hx
     obtain ⟨e, he, rfl⟩ := List.mem_map.1 hx
     have := hf e he; simp at this
   rw [if_neg hm]
   exact ⟨l ++ [(k, v, c)], c + 1, upd_same _ _ _, by rw [List.map_append, h2]; rfl⟩
def opIs : LOp → Int → Int → Dat → Prop
 | .look, k, _, _ => k = 0
 | .put d', k, _, d => k = 1 ∧ d' = d
 | .part a x y, k, at_, d => k = 2 ∧ at_ = a ∧ a ≤ 6 ∧ x = d[0] ∧ y = d[1]
 | .drop, k, _, _ => k = 3
theorem hwr_2 {n : Nat} (c : Vector UInt64 n) {i : Nat} (hi : i + 1 < n) (x y : UInt64) : hwr (SV.cells (.ws n c)).toArray i [vu x, vu y] = (SV.cells (.ws n ((c.setIfInBounds i x).setIfInBounds (i + 1) y))).toArray := by
 have e1 : hwr (SV.cells (.ws n c)).toArray i [vu x, vu y] = hwr (hwr (SV.cells (.ws n c)).toArray i [vu x]) (i + 1) [vu y] := rfl
 rw [e1, wb_hwr c (by omega), wb_hwr _ hi]
 congr 2
 have : (c.set i x).set (i + 1) y = (c.setIfInBounds i x).setIfInBounds (i + 1) y := by
   apply Vector.ext; intro j hj
   simp [Vector.getElem_set, Vector.getElem_setIfInBounds]
 rw [this]
theorem op_value {op : LOp} {k at_ : Int} {d : Dat} (hop : opIs op k at_ d) {h0 : Hp} {b2 b3 b4 : Nat} {t2 t3 t4 : TypeId} (e2 : h0 b2 = some (.cells #[.int .i64 k] t2 (0, 0))) (e3 : h0 b3 = some (.cells #[.int .i64 at_] t3 (0, 0))) (e4 : h0 b4 = some (.cells (SV.cells (.ws 8 d)).toArray t4 (0, 0))) :
   OpV (fun x => x = b2 ∨ x = b3 ∨ x = b4) h0 (.func (.func 118) #[] #[vp ⟨b2, 0⟩, vp ⟨b4, 0⟩, vp ⟨b3, 0⟩]) op := by
 intro g hg old there
 have g2 := (hg b2 (.inl rfl)).trans e2
 have g3 := (hg b3 (.inr (.inl rfl))).trans e3
 have g4 := (hg b4 (.inr (.inr rfl))).trans e4
 refine ⟨rfl, ?_⟩
 refine c118 _ _ _ _ _ ?_
 unfold G118
 refine newC fun x1 h1 f1 y1 k1 => newC fun x2 h2 f2 y2 k2 => ?_
 have k02 := k1.trans k2
 have n21 : x2 ≠ x1 := fun e => by rw [e, y1] at f2; cases f2
 have f20 := k1.free f2
 have y1' := k2.get y1
 have hr := wb_rd (k02.get g4)
 refine ⟨_, rd1 (k02.get g2) rfl, ?_⟩
 cases op with
 | look =>
   have hk : k = 0 := hop
   subst hk
   refine ifB_neg rfl (ifB_neg rfl ⟨_, wb_rd y1', ifB_intro (fun ht => ?_) fun ht => ?_⟩)
   · refine ⟨_, rd1 (k02.get g2) rfl, wbW (n := 8) k02 f20 y2 rfl fun h3 k3 y3 _ => ⟨⟨rd1 (k3.get g2) rfl, trivial⟩, _, wb_rd y3, ⟨old, ?_, ?_⟩, k3⟩⟩
     · rw [ht]; rfl
     · intro x hx; rw [ht] at hx; exact Option.some.inj hx
   · refine wbW (n := 8) k02 f20 y2 rfl fun h3 k3 y3 _ => ⟨_, wb_rd y3, ⟨old, ?_, ?_⟩, k3⟩
     · rw [ht]; rfl
     · intro x hx; rw [ht] at hx; cases hx
 | put d' =>
   obtain ⟨rfl, rfl⟩ := hop
   refine ifB_pos rfl ⟨_, hr, wbW (n := 8) k02 f20 y2 rfl fun h3 k3 y3 _ => ⟨_, wb_rd y3, ⟨_, rfl, ?_⟩, k3⟩⟩
   intro x hx; exact Option.some.inj hx
 | drop =>
   have hk : k = 3 := hop
   subst hk
   refine ifB_neg rfl (ifB_neg rfl ⟨_, wb_rd y1', ifB_intro (fun ht => ?_) fun ht => ?_⟩)
   · refine ⟨_, rd1 (k02.get g2) rfl, wbW (n := 8) k02 f20 y2 rfl fun h3 k3 y3 _ => ⟨⟨rd1 (k3.get g2) rfl, trivial⟩, _, wb_rd y3, ⟨_, rfl, ?_⟩, k3⟩⟩
     intro x hx; cases hx
   · refine wbW (n := 8) k02 f20 y2 rfl fun h3 k3 y3 _ => ⟨_, wb_rd y3, ⟨_, rfl, ?_⟩, k3⟩
     intro x hx; cases hx
 | part a x y =>
   obtain ⟨rfl, rfl, ha, rfl, rfl⟩ := hop
   refine ifB_neg rfl (ifB_pos rfl ⟨_, rd1 (k02.get g3) rfl, by omega, by omega, Int.NonNeg.mk 2, Int.NonNeg.mk 6, ?_⟩)
   have ry : RdS vu h2 ⟨slPt (some ⟨b4, 0⟩) 0 8 1, 2, 8, none⟩ [d[0], d[1]] := by
     refine ⟨rfl, (show (2 : Nat) ≤ 8 by decide), (by intro h; cases h), fun q hq j hj => ?_⟩
     cases hq
     have hj' : j = 0 ∨ j = 1 := by simp at hj; omega
     rcases hj' with rfl | rfl
     · exact wb_get (k02.get g4) (i := 0) (by decide)
     · exact wb_get (k02.get g4) (i := 1) (by decide)
   have ea : Int.toNat (a : Int) = a := by omega
   rw [ea]
   refine cpyU ry (q := ⟨x1, a⟩) ?_ (c := 2) ?_ ?_
   · show Sl.q ⟨slPt (some ⟨x1, 0⟩) a 8 1, 8 - a, 8 - a, none⟩ = _
     unfold slPt Sl.q; rw [if_neg (by omega)]; simp
   · show 2 = min 2 (8 - a); omega
   · refine stN k02 f1 y1' (by simp [SV.cells]; omega) fun h3 k3 y3 o3 => ?_
     have y3' : h3 x1 = some (.cells (SV.cells (.ws 8 ((old.setIfInBounds a d[0]).setIfInBounds (a + 1) d[1]))).toArray 100 (0, 0)) := by
       rw [y3, ← hwr_2 old (by omega)]; rfl
     refine ⟨_, wb_rd y3', wbW (n := 8) k3 f20 ((o3 _ n21).trans y2) rfl fun h4 k4 y4 _ => ⟨_, wb_rd y4, ⟨_, rfl, ?_⟩, k4⟩⟩
     intro x hx; exact Option.some.inj hx
end Go.Proofs.Tryz

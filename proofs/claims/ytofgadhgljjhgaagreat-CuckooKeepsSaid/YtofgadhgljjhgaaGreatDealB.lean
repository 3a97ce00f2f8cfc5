/- Chapter 9: who goes where: deal.Deal at items that come in order. -/
import Derived.Test.YtofgadhgljjhgaaGreatDealA
namespace Go.Proofs.Tryz
open Go Go.Sh Go.RowKit
set_option maxRecDepth 8000
theorem cpyI {x y : Sl} {h : Hp} {l : List Int} (ry : RdS iv h y l) {q : Pt} (hx : x.q = some q) {K : Nat → Hp → Prop} (hk : storeK h q ((l.take (Nat.min l.length x.len)).map iv) fun h' => K (Nat.min l.length x.len) h') : cpyK prog 64 x (.s y) h K := by
 unfold cpyK
 rw [rtI.und]
 simp only [rtI.sz, lenOfK, srcK, ry.len, hx]
 have hm : Nat.min l.length x.len ≤ l.length := Nat.min_le_left _ _
 refine ⟨(l.take (Nat.min l.length x.len)).map iv, by simp, by simp only [List.mem_map]; rintro v ⟨a, _, rfl⟩; rfl, ?_, hk⟩
 cases e : y.q with
 | none => have h1 := ry.nil e; have h2 := ry.cap; have h3 := ry.len; have : l = [] := List.length_eq_zero_iff.1 (by omega); simp [this]
 | some p =>
   simp only
   rw [rdL_map]
   intro i hi
   have hi' : i < l.length := by simp at hi; omega
   rw [ry.rd p e i hi']; simp
theorem cut_q1 {s : Sl} {q : Pt} (hq : s.q = some q) {i a c : Nat} (hi : i < s.cap) : Sl.q ⟨slPt s.p i s.cap 1, a, c, slZ s.z i s.cap 1⟩ = some ⟨q.b, q.o + i⟩ := by
 have hp := Sl.q_p hq
 have hz : s.z = none := by
   obtain ⟨p, k, c, z⟩ := s
   cases z with
   | some z => cases hq
   | none => rfl
 simp only [Sl.q, slZ, hz, ite_self, slPt, hp, Option.map_some, Nat.mul_one]
 rw [if_neg (by omega)]
theorem deal_repeat {n : Nat} (h1 : 1 ≤ n) (hn : n ≤ 1000000) {h : Hp} {x : Sl} (rx : RdS iv h x [-1]) : callK prog 176 [vs x, .int .i64 n] h fun v h' => ∃ s, v = vs s ∧ ArrB h h' s n (fun _ => -1) ∧ Keep h h' := by
 refine c176 _ _ ?_
 unfold G176
 refine ⟨fun s1 n1 g => s1 = x ∧ n1 = (n : Nat) ∧ g = h, ifB_neg (by simp) ⟨rfl, rfl, rfl⟩, ?_⟩
 rintro s1 n1 g ⟨rfl, rfl, rfl⟩
 have e1 : toU (s1.len : Int) = 1 := by rw [rx.len]; exact toU_eq (i := 1) (by decide)
 rw [e1, toU_eq (by omega)]
 refine (mul_small (by omega) g).mono ?_
 rintro _ h ⟨rfl, rfl⟩
 have en : w64 (((UInt64.ofNat n).toNat : Nat) : Int) = (n : Int) := by rw [UInt64.toNat_ofNat', Nat.mod_eq_of_lt (by omega)]; exact w64_id (by omega) (by omega)
 have hlt : ¬ (9223372036854775807 : UInt64) < UInt64.ofNat n := by
   rw [UInt64.lt_iff_toNat_lt, UInt64.toNat_ofNat']
   have : (9223372036854775807 : UInt64).toNat = 9223372036854775807 := rfl
   omega
 refine ⟨_, _, rfl, ifB_neg (by decide) (ifB_neg (by simpa using hlt) ?_)⟩
 rw [en]
 refine ⟨by omega, by omega, by omega, by omega, newC fun b1 h2 f1 e1 k1 => ?_⟩
 have hnn : Int.toNat (n : Int) = n := by omega
 rw [hnn] at e1 ⊢
 have A0 : ArrB h h2 ⟨some ⟨b1, 0⟩, n, n, none⟩ n fun _ => 0 := ArrB.zero f1 e1 (by omega)
 have hm : Nat.min ([(-1 : Int)]).length n = 1 := Nat.min_eq_left h1
 refine cpyI (rx.keep k1) (x := ⟨some ⟨b1, 0⟩, n, n, none⟩) (q := ⟨b1, 0⟩) rfl ?_
 show storeK h2 ⟨b1, 0⟩ (([(-1 : Int)].take (Nat.min ([(-1 : Int)]).length n)).map iv) fun h' => _
 rw [hm]
 refine put_many A0 (q := ⟨b1, 0⟩) rfl (i := 0) (c := 1) (by omega) (-1) rfl fun g' A' o' => ?_
 refine ⟨fun s2 n2 g2 k2 => s2 = ⟨some ⟨b1, 0⟩, n, n, none⟩ ∧ ∃ i : Nat, n2 = i ∧ 1 ≤ i ∧ i ≤ n ∧ k2 = n - i ∧ ArrB h g2 ⟨some ⟨b1, 0⟩, n, n, none⟩ n (fun x => if x < i then -1 else 0) ∧ (∀ b, b ≠ b1 → g2 b = h2 b),
   ⟨n - 1, rfl, 1, rfl, Nat.le_refl _, h1, rfl, by
     have e : (fun x : Nat => if 0 ≤ x ∧ x < 0 + 1 then (-1 : Int) else 0) = fun x => if x < 1 then -1 else 0 := by funext x; simp
     rw [e] at A'; exact A', o'⟩, ?_⟩
 rintro s2 n2 g2 k2 ⟨rfl, i, rfl, hi1, hi2, rfl, A2, o2⟩
 refine ifD (fun hlt => ?_) fun hge => ?_
 · have hi : i < n := by simp only at hlt; omega
   refine ⟨by omega, by simp only; omega, by omega, by simp only; omega, ?_⟩
   have r2 := (RdS.takeS A2.toS.rd (n := i) (by simp; omega))
   have ei : Int.toNat (i : Int) = i := by omega
   rw [ei]
   refine cpyI r2 (cut_q1 (s := ⟨some ⟨b1, 0⟩, n, n, none⟩) rfl (i := i) hi) ?_
   have hm2 : Nat.min (((List.range n).map fun x => if x < i then (-1 : Int) else 0).take i).length (n - i) = min i (n - i) := by
     simp only [List.length_take, List.length_map, List.length_range, Nat.min_eq_left (Nat.le_of_lt hi)]
   show storeK g2 ⟨b1, 0 + i⟩ (((((List.range n).map fun x => if x < i then (-1 : Int) else 0).take i).take (Nat.min (((List.range n).map fun x => if x < i then (-1 : Int) else 0).take i).length (n - i))).map iv) fun h' => _
   rw [hm2]
   refine put_many A2 (q := ⟨b1, 0⟩) rfl (i := i) (c := min i (n - i)) (by omega) (-1) ?_ fun g3 A3 o3 => ?_
   · apply List.ext_getElem
     · simp; omega
     · intro j a1 a2
       simp at a2
       simp [iv]; omega
   · refine ⟨n - (i + min i (n - i)), by omega, rfl, i + min i (n - i), ?_, by omega, by omega, rfl, ?_, fun b hb => by rw [o3 b hb, o2 b hb]⟩
     · rw [w64_id (by omega) (by omega)]; omega
     · have e : (fun x : Nat => if i ≤ x ∧ x < i + min i (n - i) then (-1 : Int) else if x < i then -1 else 0) = fun x => if x < i + min i (n - i) then -1 else 0 := by
         funext x; repeat' split
         all_goals first | rfl | omega
       rw [e] at A3; exact A3
 · have hi : i = n := by simp only at hge; omega
   subst hi
   refine ⟨_, rfl, ?_, fun b hb => ?_⟩
   · have e : (List.range i).map (fun x => if x < i then (-1 : Int) else 0) = (List.range i).map fun _ => -1 := List.map_congr_left fun x hx => if_pos (List.mem_range.1 hx)
     have A2' : OwnM 1 intf h g2 ⟨some ⟨b1, 0⟩, i, i, none⟩ ((List.range i).map fun _ => (-1 : Int)) := by rw [← e]; exact A2
     exact A2'
   · have hb1 : b ≠ b1 := fun e => hb (e ▸ f1)
     rw [o2 b hb1, k1 b hb]
theorem index_neg {h : Hp} {s : Sl} {l : List Int} (r : RdS iv h s l) (hl : l.length ≤ 1000000) :
   callK prog 109 [vs s, .func (.func 180) #[] #[]] h fun v h' => h' = h ∧ ((v = .int .i64 (-1) ∧ ∀ x ∈ l, ¬ x < 0) ∨ ∃ i : Nat, i < l.length ∧ v = .int .i64 i ∧ (∀ x ∈ l.take i, ¬ x < 0) ∧ l.getD i 0 < 0) := by
 refine c109 s _ ?_
 unfold G109
 refine ⟨fun s1 v n i h1 k => s1 = s ∧ v = .func (.func 180) #[] #[] ∧ n = s.len ∧ h1 = h ∧ ∃ j : Nat, i = j ∧ j ≤ s.len ∧ k = s.len - j ∧ ∀ x ∈ l.take j, ¬ x < 0, ⟨_, rfl, rfl, rfl, rfl, 0, rfl, by omega, rfl, fun x hx => by simp at hx⟩, ?_⟩
 rintro s1 v n i h1 k ⟨rfl, rfl, rfl, rfl, j, rfl, hj0, rfl, hno⟩
 have := r.len
 refine ifD (fun hlt => ?_) fun hge => ⟨rfl, .inl ⟨rfl, fun x hx => hno x (by rw [List.take_of_length_le (by omega)]; exact hx)⟩⟩
 have hj : j < l.length := by omega
 have hgd : l.getD j 0 = l[j] := by simp [List.getD, hj]
 refine r.ix hj fun q _ hc => ⟨_, hc, ?_⟩
 refine ⟨rfl, ?_⟩
 refine c180 _ ?_
 refine ⟨_, rfl, ifB_intro (fun hneg => ⟨rfl, .inr ⟨j, hj, rfl, hno, by rw [hgd]; simpa using hneg⟩⟩) fun hneg => ⟨s1.len - (j + 1), by omega, rfl, rfl, rfl, rfl, j + 1, w64_id (by omega) (by omega), by omega, rfl, fun x hx => ?_⟩⟩
 rw [List.take_add_one, List.getElem?_eq_getElem hj] at hx
 rcases List.mem_append.1 hx with h | h
 · exact hno x h
 · simp at h; rw [h]; simpa using hneg
theorem filter_all {l : List Int} (h : ∀ x ∈ l, ¬ x < 0) : l.filter (fun x => decide (0 ≤ x)) = l := List.filter_eq_self.2 fun x hx => by have := h x hx; simp; omega
theorem delete_neg {b0 h : Hp} {s : Sl} {n : Nat} {d : Nat → Int} (A : ArrB b0 h s n d) (hn : n ≤ 1000000) :
   callK prog 179 [vs s, .func (.func 180) #[] #[]] h fun v h' => ∃ s', v = vs s' ∧ RdS iv h' s' (((List.range n).map d).filter fun x => decide (0 ≤ x)) ∧ (∀ q, s'.q = some q → ∃ p, s.q = some p ∧ q.b = p.b) ∧ (∀ b, (∀ q, s.q = some q → b ≠ q.b) → h' b = h b) ∧ (∀ q, s.q = some q → h' q.b ≠ none) := by
 have hlen := A.len
 simp only [List.length_map, List.length_range] at hlen
 have hcap := A.cap
 refine c179 _ _ ?_
 unfold G179
 refine (index_neg A.toS.rd (by simpa using hn)).mono ?_
 rintro v h ⟨rfl, hv⟩
 rcases hv with ⟨rfl, hall⟩ | ⟨i0, hi0, rfl, hno, hneg⟩
 · refine ⟨_, rfl, ifB_pos rfl ⟨s, rfl, by rw [filter_all hall]; exact A.toS.rd, fun q hq => ⟨q, hq, rfl⟩, fun _ _ => rfl, fun q hq => (A.blk hq).2⟩⟩
 simp only [List.length_map, List.length_range] at hi0
 have hneg : d i0 < 0 := by simpa [List.getD, hi0] using hneg
 refine ⟨_, rfl, ifB_neg (by simp) ?_⟩
 have hge0 : ∀ j, j < i0 → ¬ d j < 0 := fun j hj => hno (d j) (by
   rw [← List.map_take]
   exact List.mem_map_of_mem (by rw [List.take_range]; exact List.mem_range.2 (by omega)))
 let cnt : Nat → List Int := fun j => ((List.range j).map d).filter fun x => decide (0 ≤ x)
 have cs : ∀ j, cnt (j + 1) = cnt j ++ if 0 ≤ d j then [d j] else [] := fun j => by
   show ((List.range (j + 1)).map d).filter _ = _
   rw [List.range_succ, List.map_append, List.filter_append]
   by_cases c : 0 ≤ d j
   · rw [if_pos c]; simp [c]; rfl
   · rw [if_neg c]; simp [c]; rfl
 have c0 : cnt i0 = (List.range i0).map d := filter_all fun x hx => by
   obtain ⟨j, hj, rfl⟩ := List.mem_map.1 hx
   exact hge0 j (List.mem_range.1 hj)
 have cl : ∀ j, (cnt j).length ≤ j := fun j => by
   have := List.length_filter_le (fun x : Int => decide (0 ≤ x)) ((List.range j).map d)
   simpa using this
 refine ⟨fun s1 v2 n2 n3 g kk => s1 = s ∧ v2 = .func (.func 180) #[] #[] ∧ ∃ (j : Nat) (e : Nat → Int), n3 = j ∧ n2 = ((cnt j).length : Nat) ∧ i0 < j ∧ j ≤ n ∧ kk = n - j ∧ (cnt j).length < j ∧ ArrB b0 g s n e ∧ (∀ b, (∀ q, s.q = some q → b ≠ q.b) → g b = h b) ∧ (∀ x, x < (cnt j).length → e x = (cnt j).getD x 0) ∧ ∀ x, j ≤ x → e x = d x,
   ⟨n - (i0 + 1), rfl, rfl, i0 + 1, d, w64_id (by omega) (by omega), ?_, by omega, by omega, rfl, ?_, A, fun _ _ => rfl, fun x hx => ?_, fun _ _ => rfl⟩, ?_⟩
 · rw [cs, if_neg (by omega), List.append_nil, c0]; simp
 · rw [cs, if_neg (by omega), List.append_nil, c0]; simp
 · rw [cs, if_neg (by omega), List.append_nil, c0] at hx ⊢
   simp at hx; simp [List.getD, hx]
 rintro s1 v2 n2 n3 g kk ⟨rfl, rfl, j, e, rfl, rfl, hj1, hj2, rfl, hcl, Ag, og, lo, hi⟩
 refine ifD (fun hlt => ?_) fun hge => ?_
 · have hj : j < n := by omega
   refine Ag.get hj rfl fun q hq => ?_
   rw [hi j (Nat.le_refl _)]
   refine ⟨rfl, ?_⟩
   refine c180 _ ?_
   refine ⟨_, rfl, ifB_intro (fun hnn => ?_) fun hnn => ?_⟩
   · have h0 : 0 ≤ d j := by simpa using hnn
     have e1 := cs j
     rw [if_pos h0] at e1
     have e2 : (cnt (j + 1)).length = (cnt j).length + 1 := by rw [e1]; simp
     refine Ag.set (i := (cnt j).length) (by omega) rfl (d j) fun g2 A2 o2 => ?_
     refine ⟨n - (j + 1), by omega, rfl, rfl, j + 1, _, w64_id (by omega) (by omega), ?_, by omega, by omega, rfl, by omega, A2, fun b hb => (o2 b hb).trans (og b hb), fun x hx => ?_, fun x hx => ?_⟩
     · rw [e2, w64_id (by omega) (by omega)]; omega
     · rw [e1]
       by_cases c : x = (cnt j).length
       · rw [if_pos c, c]; simp [List.getD]
       · rw [if_neg c, lo x (by omega)]
         simp only [List.getD]; rw [List.getElem?_append_left (by omega)]
     · rw [if_neg (by omega)]; exact hi x (by omega)
   · have h0 : ¬ 0 ≤ d j := by simp at hnn; omega
     have e1 := cs j
     rw [if_neg h0, List.append_nil] at e1
     refine ⟨n - (j + 1), by omega, rfl, rfl, j + 1, e, w64_id (by omega) (by omega), by rw [e1], by omega, by omega, rfl, by rw [e1]; omega, Ag, og, fun x hx => by rw [e1] at hx ⊢; exact lo x hx, fun x hx => hi x (by omega)⟩
 · have hj : j = n := by omega
   subst hj
   have hcj := cl j
   refine ⟨by omega, by omega, ?_⟩
   rw [show Int.toNat ((cnt j).length : Int) = (cnt j).length by omega]
   refine ifB_neg (by simp; omega) ?_
   obtain ⟨q, hq⟩ := Ag.rd.ptr (by simp; omega)
   refine ⟨_, cut_q1 hq (by omega), ?_⟩
   refine put_many Ag hq (i := (cnt j).length) (c := s1.len - (cnt j).length) (by omega) 0 rfl fun g2 A2 o2 => ?_
   refine ⟨by omega, by omega, ?_⟩
   refine ⟨_, rfl, ?_, fun q' hq' => ?_, fun b hb => (o2 b (hb q hq)).trans (og b hb), fun q' hq' => (A2.blk hq').2⟩
   · have := RdS.takeS A2.toS.rd (n := (cnt j).length) (by simp; omega)
     have e2 : ((List.range j).map fun x => if (cnt j).length ≤ x ∧ x < (cnt j).length + (s1.len - (cnt j).length) then (0 : Int) else e x).take (cnt j).length = cnt j := by
       apply List.ext_getElem
       · simp; omega
       · intro x a1 a2
         have hl := lo x a2
         simp only [List.getElem_take, List.getElem_map, List.getElem_range]
         rw [if_neg (by omega), hl]; simp [List.getD, a2]
     rw [e2] at this; exact this
   · rcases cut_q hq' with ⟨p, hp, e2⟩ | ⟨_, h0⟩
     · exact ⟨p, hp, e2⟩
     · simp at h0
/-! ## the next place -/
abbrev dcell (k s t : Nat) (x : DSt) : Array Value := #[.int .i64 k, .int .i64 s, .int .i64 t, .int .i64 x.lv, .int .i64 x.on, .int .i64 x.st]
def optI : Option Nat → Int
 | some p => p
 | none => -1
theorem deal_next {k s t : Nat} (o : DealOk k s t) {x : DSt} (w : DWf k s t x) (hl : -1 ≤ x.lv) {d : Int} (hd : 0 ≤ d) {T : TypeId} {h : Hp} {b : Nat} (e : h b = some (.cells (dcell k s t x) T (0, 0))) :
   callK prog 178 [vp ⟨b, 0⟩, .int .i64 d] h fun v h' => v = .int .i64 (optI (dnext k s t x d).2) ∧ h' b = some (.cells (dcell k s t (dnext k s t x d).1) T (0, 0)) ∧ (∀ y, y ≠ b → h y ≠ none → h' y = h y) ∧ (∀ y, h' y = none → h y = none) := by
 have w1 := w.lv; have w2 := w.on; have w3 := w.st
 have os := o.s; have ot := o.t; have od := o.d
 refine c178 _ _ ?_
 unfold G178
 generalize hlv : (if d < x.lv then d else x.lv) = lv
 generalize hon : (if d < x.lv then 0 else x.on) = on
 have en : dnext k s t x d = if lv < 0 then (if x.st = t then (⟨lv, on, x.st⟩, none) else (⟨lv, on, x.st + 1⟩, some (s * (k + 1) + x.st))) else (if on + 1 = s then ⟨lv - 1, 0, x.st⟩ else ⟨lv, on + 1, x.st⟩, some (lv.toNat * s + on)) := by
   unfold dnext; rw [hlv, hon]
 have hlb : lv ≤ k ∧ -1 ≤ lv ∧ on < s := by
   by_cases c : d < x.lv
   · rw [if_pos c] at hlv hon; omega
   · rw [if_neg c] at hlv hon; omega
 rw [en]
 have upn : ∀ (g : Hp) (ob : Obj) y, g b ≠ none → upd g b ob y = none → g y = none := fun g ob y hb hy => by
   by_cases c : y = b
   · rw [c, upd_same] at hy; cases hy
   · rwa [upd_ne _ _ c] at hy
 refine ⟨fun q1 g => q1 = ⟨b, 0⟩ ∧ g b = some (.cells (dcell k s t ⟨lv, on, x.st⟩) T (0, 0)) ∧ (∀ y, y ≠ b → h y ≠ none → g y = h y) ∧ (∀ y, g y = none → h y = none), ⟨_, rd1 e rfl, ?_⟩, ?_⟩
 · refine ifD (fun c => ?_) fun c => ?_
   · rw [if_pos c] at hlv hon
     refine ⟨_, T, e, by simp, ?_⟩
     refine ⟨_, T, upd_same _ _ _, by simp [hwr], rfl, ?_, fun y hy hh => ?_, fun y hy => ?_⟩
     · rw [upd_same, ← hlv, ← hon]; rfl
     · rw [upd_ne _ _ hy, upd_ne _ _ hy]
     · exact upn _ _ _ (by rw [e]; simp) (upn _ _ _ (by rw [upd_same]; simp) hy)
   · rw [if_neg c] at hlv hon
     refine ⟨rfl, ?_, fun _ _ _ => rfl, fun _ hy => hy⟩
     rw [e, ← hlv, ← hon]
 rintro q1 g ⟨rfl, eg, og, ng⟩
 have hgb : g b ≠ none := by rw [eg]; simp
 have hs : ((s * (k + 1) : Nat) : Int) = (s : Int) * ((k : Int) + 1) := by simp
 have hmb := mul_bds os.1 os.2 od.1 od.2
 have stash : lv < 0 → x.st ≠ t → ∃ n6, hcell g b (0 + 5) = some (.int .i64 n6) ∧ storeK g ⟨b, 0 + 5⟩ [.int .i64 (w64 (n6 + 1))] fun h4 => ∃ n7, hcell h4 b 0 = some (.int .i64 n7) ∧ ∃ n8, hcell h4 b (0 + 1) = some (.int .i64 n8) ∧ ∃ n9, hcell h4 b (0 + 1 + 1) = some (.int .i64 n9) ∧ ∃ n10, hcell h4 b (0 + 5) = some (.int .i64 n10) ∧
     callK prog 167 [.agg #[.int .i64 n7, .int .i64 n8, .int .i64 n9]] h4 fun v1 h5 => ∃ n11, v1 = .int .i64 n11 ∧ (hcell h5 b (0 + 5) = some (.int .i64 n10) ∧ True) ∧ (.int .i64 (w64 (w64 (n11 + n10) - 1)) : Value) = .int .i64 (optI (some (s * (k + 1) + x.st))) ∧ h5 b = some (.cells (dcell k s t ⟨lv, on, x.st + 1⟩) T (0, 0)) ∧ (∀ y, y ≠ b → h y ≠ none → h5 y = h y) ∧ (∀ y, h5 y = none → h y = none) := by
   intro c1 c2
   refine ⟨_, rd1 eg rfl, _, T, eg, by simp, ?_⟩
   have e4 : upd g b (.cells (hwr (dcell k s t ⟨lv, on, x.st⟩) (0 + 5) [.int .i64 (w64 ((x.st : Int) + 1))]) T (0, 0)) b = some (.cells (dcell k s t ⟨lv, on, x.st + 1⟩) T (0, 0)) := by
     rw [upd_same, w64_id (by omega) (by omega)]; rfl
   refine ⟨_, rd1 e4 rfl, _, rd1 e4 rfl, _, rd1 e4 rfl, _, rd1 e4 rfl, ?_⟩
   refine (deal_levels o).to fun h5 k5 => ⟨_, rfl, ⟨rd1 (k5.get e4) rfl, trivial⟩, ?_, k5.get e4, fun y hy hh => ?_, fun y hy => ?_⟩
   · congr 1
     simp only [optI]
     generalize (s : Int) * ((k : Int) + 1) = z at *
     rw [w64_id (n := z + ((x.st + 1 : Nat) : Int)) (by omega) (by omega), w64_id (by omega) (by omega)]; omega
   · have e1 : upd g b (.cells (hwr (dcell k s t ⟨lv, on, x.st⟩) (0 + 5) [.int .i64 (w64 ((x.st : Int) + 1))]) T (0, 0)) y = h y := by rw [upd_ne _ _ hy, og y hy hh]
     rw [k5 y (by rw [e1]; exact hh), e1]
   · exact ng y (upn _ _ _ hgb (k5.free hy))
 have onlev : ¬ lv < 0 → ∃ n12, hcell g b (0 + 3) = some (.int .i64 n12) ∧ ∃ n13, hcell g b (0 + 1) = some (.int .i64 n13) ∧ ∃ n14, hcell g b (0 + 4) = some (.int .i64 n14) ∧ ∃ n15, hcell g b (0 + 4) = some (.int .i64 n15) ∧ storeK g ⟨b, 0 + 4⟩ [.int .i64 (w64 (n15 + 1))] fun h6 => ∃ n16, hcell h6 b (0 + 4) = some (.int .i64 n16) ∧ ∃ n17, hcell h6 b (0 + 1) = some (.int .i64 n17) ∧
     ifB (decide (n16 = n17)) (∃ n18, hcell h6 b (0 + 3) = some (.int .i64 n18) ∧ storeK h6 ⟨b, 0 + 3⟩ [.int .i64 (w64 (n18 - 1))] fun h7 => storeK h7 ⟨b, 0 + 4⟩ [.int .i64 0] fun h8 => (.int .i64 (w64 (w64 (n12 * n13) + n14)) : Value) = .int .i64 (optI (some (lv.toNat * s + on))) ∧ h8 b = some (.cells (dcell k s t (if on + 1 = s then ⟨lv - 1, 0, x.st⟩ else ⟨lv, on + 1, x.st⟩)) T (0, 0)) ∧ (∀ y, y ≠ b → h y ≠ none → h8 y = h y) ∧ (∀ y, h8 y = none → h y = none))
       ((.int .i64 (w64 (w64 (n12 * n13) + n14)) : Value) = .int .i64 (optI (some (lv.toNat * s + on))) ∧ h6 b = some (.cells (dcell k s t (if on + 1 = s then ⟨lv - 1, 0, x.st⟩ else ⟨lv, on + 1, x.st⟩)) T (0, 0)) ∧ (∀ y, y ≠ b → h y ≠ none → h6 y = h y) ∧ (∀ y, h6 y = none → h y = none)) := by
   intro c1
   have hv : (.int .i64 (w64 (w64 (lv * s) + on)) : Value) = .int .i64 (optI (some (lv.toNat * s + on))) := by
     have hm : lv * (s : Int) = ((lv.toNat * s : Nat) : Int) := by rw [Int.natCast_mul, Int.toNat_of_nonneg (by omega)]
     have hb2 : lv.toNat * s ≤ 10 * 8 := Nat.mul_le_mul (by omega) (by omega)
     rw [hm, w64_id (n := ((lv.toNat * s : Nat) : Int)) (by omega) (by omega), w64_id (by omega) (by omega)]
     congr 1
   refine ⟨_, rd1 eg rfl, _, rd1 eg rfl, _, rd1 eg rfl, _, rd1 eg rfl, _, T, eg, by simp, ?_⟩
   have e6 : upd g b (.cells (hwr (dcell k s t ⟨lv, on, x.st⟩) (0 + 4) [.int .i64 (w64 ((on : Int) + 1))]) T (0, 0)) b = some (.cells (dcell k s t ⟨lv, on + 1, x.st⟩) T (0, 0)) := by
     rw [upd_same, w64_id (by omega) (by omega)]; rfl
   have o6 : ∀ y, y ≠ b → h y ≠ none → upd g b (.cells (hwr (dcell k s t ⟨lv, on, x.st⟩) (0 + 4) [.int .i64 (w64 ((on : Int) + 1))]) T (0, 0)) y = h y := fun y hy hh => by rw [upd_ne _ _ hy, og y hy hh]
   have n6 : ∀ y, upd g b (.cells (hwr (dcell k s t ⟨lv, on, x.st⟩) (0 + 4) [.int .i64 (w64 ((on : Int) + 1))]) T (0, 0)) y = none → h y = none := fun y hy => ng y (upn _ _ _ hgb hy)
   refine ⟨((on + 1 : Nat) : Int), rd1 e6 rfl, (s : Int), rd1 e6 rfl, ifD (fun c => ?_) fun c => ?_⟩
   · have c' : on + 1 = s := by omega
     rw [if_pos c']
     refine ⟨lv, rd1 e6 rfl, _, T, e6, by simp, _, T, upd_same _ _ _, by simp [hwr], hv, ?_, fun y hy hh => ?_, fun y hy => ?_⟩
     · rw [upd_same, w64_id (by omega) (by omega)]; rfl
     · rw [upd_ne _ _ hy, upd_ne _ _ hy]; exact o6 y hy hh
     · exact n6 y (upn _ _ _ (by rw [e6]; simp) (upn _ _ _ (by rw [upd_same]; simp) hy))
   · have c' : ¬ on + 1 = s := by omega
     rw [if_neg c']
     exact ⟨hv, e6, o6, n6⟩
 refine ⟨_, rd1 eg rfl, ifD (fun c1 => ?_) fun c1 => ?_⟩
 · rw [if_pos c1]
   refine ⟨_, rd1 eg rfl, _, rd1 eg rfl, ifB_intro (fun c2 => ?_) fun c2 => ?_⟩
   · have c2' : x.st = t := by simp at c2; omega
     rw [if_pos c2']
     exact ⟨rfl, eg, og, ng⟩
   · have c2' : x.st ≠ t := by simp at c2; omega
     rw [if_neg c2']
     exact ⟨_, rd1 eg rfl, ifD (fun _ => stash c1 c2') fun h => absurd c1 h⟩
 · rw [if_neg c1]
   exact ⟨_, rd1 eg rfl, ifD (fun h => absurd h c1) fun _ => onlev c1⟩
end Go.Proofs.Tryz

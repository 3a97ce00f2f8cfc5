/- Chapter 9's smaller parts: comparisons, rows repeated, rows with some taken out, places one by one. -/
import Derived.Test.YtofgadhgljjhgaaGreatSrtInt
namespace Go.Sh
open Go Go.RowKit
theorem ownSM {f : Int → Value} {h0 h : Hp} {s : Sl} {l : List Int} : OwnS f h0 h s l ↔ OwnM 1 (fun x => [f x]) h0 h s l := by
 have e : ∀ l : List Int, l.flatMap (fun x => [f x]) = l.map f := fun l => by induction l <;> simp_all
 constructor
 · intro o
   refine ⟨o.len, o.cap, ?_⟩
   rcases o.own with h | ⟨q, c, t, h1, h2, h3, h4, h5⟩
   · exact .inl h
   · refine .inr ⟨q, c, t, h1, h2, h3, by omega, fun i hi => ?_⟩
     have hi' : i < l.length := by rw [e] at hi; simpa using hi
     rw [h5 i hi']; simp [e]
 · intro o
   refine ⟨o.len, o.cap, ?_⟩
   rcases o.own with h | ⟨q, c, t, h1, h2, h3, h4, h5⟩
   · exact .inl h
   · refine .inr ⟨q, c, t, h1, h2, h3, by omega, fun i hi => ?_⟩
     have := h5 i (by rw [e]; simpa using hi)
     simpa [e] using this
end Go.Sh
namespace Go.Proofs.Tryz
open Go Go.Sh Go.RowKit
set_option maxRecDepth 8000
abbrev ArrB (b0 g : Hp) (s : Sl) (n : Nat) (d : Nat → Int) : Prop := OwnM 1 intf b0 g s ((List.range n).map d)
theorem ArrB.toS {b0 g : Hp} {s : Sl} {n : Nat} {d : Nat → Int} (A : ArrB b0 g s n d) : OwnS iv b0 g s ((List.range n).map d) := ownSM.2 A
theorem ArrB.zero {h0 h : Hp} {b n : Nat} {t : TypeId} {m : Nat} (hb : h0 b = none) (e : h b = some (.cells (zRow (if m = 0 then #[] else Value.cells (.int .i64 0)) m) t (0, 0))) (hm : m = n) : ArrB h0 h ⟨some ⟨b, 0⟩, n, n, none⟩ n fun _ => 0 := by
 subst hm
 refine ⟨by simp, Nat.le_refl _, .inr ⟨_, _, _, rfl, hb, e, ?_, fun i hi => ?_⟩⟩
 · rw [show Value.cells (.int .i64 0) = #[.int .i64 0] from rfl, zRow_one _ _ rfl]; simp
 · have fl : (((List.range m).map fun _ => (0 : Int)).flatMap intf).length = m := by rw [flat_length intf_len]; simp
   have hi' : i < m := by rw [fl] at hi; exact hi
   rw [show Value.cells (.int .i64 0) = #[.int .i64 0] from rfl, zRow_one _ _ rfl, Nat.zero_add]
   have e2 : ((List.range m).map fun _ => (0 : Int)).flatMap intf = List.replicate m (.int .i64 0) := by
     have : ∀ l : List Nat, (l.map fun _ => (0 : Int)).flatMap intf = List.replicate l.length (.int .i64 0) := fun l => by
       induction l with
       | nil => rfl
       | cons a l ih => rw [List.map_cons, List.flatMap_cons, ih]; rfl
     rw [this, List.length_range]
   simp [e2, hi']
theorem ArrB.get {b0 g : Hp} {s : Sl} {n : Nat} {d : Nat → Int} (A : ArrB b0 g s n d) {i : Nat} (hi : i < n) {I : Int} (hI : I = i) {K : Pt → Int → Prop} (hk : ∀ q, s.q = some q → K q (d i)) :
   ∃ q, s.q = some q ∧ 0 ≤ I ∧ I + 1 ≤ (s.len : Int) ∧ ∃ n1 : Int, hcell g q.b (q.o + Int.toNat I * 1) = some (.int .i64 n1) ∧ K q n1 := by
 subst hI
 refine A.rd.ix intf_len (i := i) (by simpa using hi) fun q hq r => ?_
 rw [arr_get hi] at r
 exact ⟨_, r.1, hk q hq⟩
theorem ArrB.set {b0 g : Hp} {s : Sl} {n : Nat} {d : Nat → Int} (A : ArrB b0 g s n d) {i : Nat} (hi : i < n) {I : Int} (hI : I = i) (e : Int) {K : Hp → Prop}
   (hk : ∀ g', ArrB b0 g' s n (fun x => if x = i then e else d x) → (∀ b, (∀ q, s.q = some q → b ≠ q.b) → g' b = g b) → K g') :
   ∃ q, s.q = some q ∧ 0 ≤ I ∧ I + 1 ≤ (s.len : Int) ∧ storeK g ⟨q.b, q.o + Int.toNat I * 1⟩ [.int .i64 e] K := by
 subst hI
 have hl := A.len
 simp only [List.length_map, List.length_range] at hl
 obtain ⟨q, hq⟩ := A.rd.ptr (by simp; omega)
 exact ⟨q, hq, by omega, by omega, arr_put intf_len A hq hi e fun g' A' o' => hk g' A' fun b hb => o' b (hb q hq)⟩
theorem cmp_nan (a : Int) : PureC prog 202 [.int .i64 a] (.bool false) := fun h => by
 refine c202 _ ?_
 exact ⟨by simp, Keep.refl h⟩
theorem cmp_nanU (a : UInt64) : PureC prog 175 [vu a] (.bool false) := fun h => by
 refine c175 _ ?_
 exact ⟨by simp, Keep.refl h⟩
theorem cmp_int (a b : Int) : PureC prog 199 [.int .i64 a, .int .i64 b] (.int .i64 (if a < b then -1 else if b < a then 1 else 0)) := fun h => by
 refine c199 _ _ ?_
 unfold G199
 refine (cmp_nan a).to fun h1 k1 => ⟨_, rfl, (cmp_nan b).to fun h2 k2 => ⟨_, rfl, ifB_neg rfl (ifB_neg rfl ?_)⟩⟩
 refine ifD (fun c => ⟨by rw [if_pos c], k1.trans k2⟩) fun c => ifD (fun c2 => ⟨by rw [if_neg c, if_pos c2], k1.trans k2⟩) fun c2 => ⟨by rw [if_neg c, if_neg c2], k1.trans k2⟩
theorem cmp_u64 (a b : UInt64) : PureC prog 157 [vu a, vu b] (.int .i64 (if a < b then -1 else if b < a then 1 else 0)) := fun h => by
 refine c157 _ _ ?_
 unfold G157
 refine (cmp_nanU a).to fun h1 k1 => ⟨_, rfl, (cmp_nanU b).to fun h2 k2 => ⟨_, rfl, ifB_neg rfl (ifB_neg rfl ?_)⟩⟩
 refine ifD (fun c => ⟨by rw [if_pos c], k1.trans k2⟩) fun c => ifD (fun c2 => ⟨by rw [if_neg c, if_pos c2], k1.trans k2⟩) fun c2 => ⟨by rw [if_neg c, if_neg c2], k1.trans k2⟩
def itf (e : UInt64 × Int) : List Value := [vu e.1, .int .i64 e.2]
theorem itf_len (e : UInt64 × Int) : (itf e).length = 2 := rfl
theorem itf_one (e : UInt64 × Int) : ∀ v ∈ itf e, v.oneCell' = true := by simp [itf, vu, Value.oneCell']
def ikey (e : UInt64 × Int) : Nat := if e.2 < 0 then 1001 * 18446744073709551616 else (1000 - e.2.toNat) * 18446744073709551616 + e.1.toNat
theorem ikey_deep {a b : UInt64 × Int} (ha : a.2 ≤ 1000) (hb : b.2 ≤ 1000) (hn : ¬ (a.2 < 0 ∧ b.2 < 0)) (hne : a.2 ≠ b.2) : b.2 < a.2 ↔ ikey a < ikey b := by
 have la := a.1.toNat_lt; have lb := b.1.toNat_lt
 obtain ⟨x, dx⟩ := a
 obtain ⟨y, dy⟩ := b
 simp only at *
 unfold ikey
 simp only
 generalize x.toNat = x' at *
 generalize y.toNat = y' at *
 by_cases c1 : dx < 0
 · rw [if_pos c1, if_neg (show ¬ dy < 0 by omega)]; omega
 · rw [if_neg c1]
   by_cases c2 : dy < 0
   · rw [if_pos c2]; omega
   · rw [if_neg c2]; omega
theorem item_against (a b : UInt64 × Int) (ha : a.2 ≤ 1000) (hb : b.2 ≤ 1000) (h : Hp) : callK prog 192 [.agg #[vu a.1, .int .i64 a.2], .agg #[vu b.1, .int .i64 b.2]] h fun r h' => ∃ m, r = .int .i64 m ∧ (m < 0 ↔ ikey a < ikey b) ∧ Keep h h' := by
 refine c192 _ _ _ _ ?_
 unfold G192
 refine newC fun b1 h1 f1 e1 k1 => newC fun b2 h2 f2 e2 k2 => ?_
 have e1 := k2.get e1
 have rest : ¬ (a.2 < 0 ∧ b.2 < 0) → ∃ n3, hcell h2 b1 1 = some (.int .i64 n3) ∧ ∃ n4, hcell h2 b2 1 = some (.int .i64 n4) ∧ ifB (!decide (n3 = n4)) (∃ n5, hcell h2 b2 1 = some (.int .i64 n5) ∧ ∃ n6, hcell h2 b1 1 = some (.int .i64 n6) ∧ callK prog 199 [.int .i64 n5, .int .i64 n6] h2 fun v1 h3 => ∃ n7, v1 = .int .i64 n7 ∧ ∃ m, (.int .i64 n7 : Value) = .int .i64 m ∧ (m < 0 ↔ ikey a < ikey b) ∧ Keep h h3)
     (∃ x1, hcell h2 b1 0 = some (vu x1) ∧ ∃ x2, hcell h2 b2 0 = some (vu x2) ∧ callK prog 157 [vu x1, vu x2] h2 fun v2 h4 => ∃ n8, v2 = .int .i64 n8 ∧ ∃ m, (.int .i64 n8 : Value) = .int .i64 m ∧ (m < 0 ↔ ikey a < ikey b) ∧ Keep h h4) := by
   intro hn
   refine ⟨_, rd1 e1 rfl, _, rd1 e2 rfl, ifN (fun hne => ?_) fun heq => ?_⟩
   · refine ⟨_, rd1 e2 rfl, _, rd1 e1 rfl, ?_⟩
     refine (cmp_int _ _).to fun h3 k3 => ⟨_, rfl, _, rfl, ?_, (k1.trans k2).trans k3⟩
     have key := ikey_deep ha hb hn hne
     rw [← key]
     by_cases c : b.2 < a.2
     · rw [if_pos c]; simp [c]
     · rw [if_neg c]
       by_cases c2 : a.2 < b.2
       · rw [if_pos c2]; simp [c]
       · rw [if_neg c2]; simp [c]
   · refine ⟨_, rd1 e1 rfl, _, rd1 e2 rfl, ?_⟩
     refine (cmp_u64 _ _).to fun h3 k3 => ⟨_, rfl, _, rfl, ?_, (k1.trans k2).trans k3⟩
     have c1 : ¬ a.2 < 0 := fun c => hn ⟨c, by omega⟩
     have key : (a.1 < b.1) ↔ ikey a < ikey b := by
       unfold ikey
       rw [if_neg c1, if_neg (by omega), heq, UInt64.lt_iff_toNat_lt]; omega
     rw [← key]
     by_cases c : a.1 < b.1
     · rw [if_pos c]; simp [c]
     · rw [if_neg c]
       by_cases c2 : b.1 < a.1
       · rw [if_pos c2]; simp [c]
       · rw [if_neg c2]; simp [c]
 refine ⟨_, rd1 e1 rfl, ifD (fun ca => ⟨_, rd1 e2 rfl, ifB_intro (fun cb => ?_) fun cb => ?_⟩) fun ca => rest fun h => ca h.1⟩
 · have cb' : b.2 < 0 := by simpa using cb
   refine ⟨0, rfl, ?_, k1.trans k2⟩
   unfold ikey
   rw [if_pos ca, if_pos cb']; simp
 · have cb' : ¬ b.2 < 0 := by simpa using cb
   exact rest fun h => cb' h.2
/-! ## rows repeated -/
theorem mul_small {n : Nat} (hn : n < 4294967296) (h : Hp) : callK prog 191 [vu 1, vu (UInt64.ofNat n)] h fun v h' => v = .tuple #[vu 0, vu (UInt64.ofNat n)] ∧ h' = h := by
 refine c191 _ _ ?_
 unfold G191
 refine c198 _ _ ?_
 have hx : UInt64.ofNat n &&& 4294967295 = UInt64.ofNat n := by
   apply UInt64.toNat_inj.1
   rw [UInt64.toNat_and, UInt64.toNat_ofNat', show (4294967295 : UInt64).toNat = 2 ^ 32 - 1 from rfl, Nat.and_two_pow_sub_one_eq_mod]; omega
 have hs : ushr (UInt64.ofNat n) (UInt64.toNat 32) = 0 := by
   apply UInt64.toNat_inj.1
   unfold ushr
   rw [show UInt64.toNat 32 = 32 from rfl]
   have e5 : min 32 64 = 32 := rfl
   simp only [UInt64.toNat_shiftRight, UInt64.toNat_ofNat', e5]
   have : (0 : UInt64).toNat = 0 := rfl
   omega
 have h1 : ushr 1 (UInt64.toNat 32) = 0 := by decide
 have h2 : (1 : UInt64) &&& 4294967295 = 1 := by decide
 have h0 : ushr 0 (UInt64.toNat 32) = 0 := by decide
 refine ⟨_, _, rfl, ?_, rfl⟩
 simp only [hx, hs, h1, h2, h0, UInt64.zero_mul, UInt64.one_mul, UInt64.add_zero, UInt64.zero_add, UInt64.zero_and]
theorem put_many {b0 g : Hp} {s : Sl} {n : Nat} {d : Nat → Int} (A : ArrB b0 g s n d) {q : Pt} (hq : s.q = some q) {i c : Nat} (hi : i + c ≤ n) (e : Int) {l : List Value} (hl : l = List.replicate c (.int .i64 e)) {K : Hp → Prop}
   (hk : ∀ g', ArrB b0 g' s n (fun x => if i ≤ x ∧ x < i + c then e else d x) → (∀ b, b ≠ q.b → g' b = g b) → K g') : storeK g ⟨q.b, q.o + i⟩ l K := by
 subst hl
 have hlen := A.len
 simp only [List.length_map, List.length_range] at hlen
 have hcap := A.cap
 rcases A.own with ⟨hn, _⟩ | ⟨q', ca, t, h1, h2, h3, h4, h5⟩
 · rw [hq] at hn; cases hn
 · rw [hq] at h1; cases h1
   refine ⟨ca, t, h3, by simp; omega, hk _ ⟨by simp [hlen], hcap, .inr ⟨q, _, t, hq, h2, upd_same _ _ _, by rw [hwr_size]; exact h4, fun j hj => ?_⟩⟩ fun b hb => upd_ne _ _ hb⟩
   have fl : ∀ d : Nat → Int, ((List.range n).map d).flatMap intf = (List.range n).map fun x => .int .i64 (d x) := fun d => by
     rw [List.flatMap_map]
     exact flatMap_single _ _
   have hj' : j < n := by rw [fl] at hj; simpa using hj
   rw [hwr_get, List.length_replicate]
   have e1 := h5 j (by rw [fl]; simpa using hj')
   have hsz : q.o + j < ca.size := by omega
   by_cases c1 : i ≤ j ∧ j < i + c
   · have hc : q.o + i ≤ q.o + j ∧ q.o + j < q.o + i + c ∧ q.o + j < ca.size := ⟨by omega, by omega, hsz⟩
     rw [if_pos hc]
     simp [fl, c1, List.getElem?_replicate]; omega
   · have hc : ¬ (q.o + i ≤ q.o + j ∧ q.o + j < q.o + i + c ∧ q.o + j < ca.size) := fun h => c1 ⟨by omega, by omega⟩
     rw [if_neg hc, e1]
     simp [fl, c1]
where
 flatMap_single (l : List Nat) (f : Nat → Value) : l.flatMap (fun x => [f x]) = l.map f := by induction l <;> simp_all
end Go.Proofs.Tryz

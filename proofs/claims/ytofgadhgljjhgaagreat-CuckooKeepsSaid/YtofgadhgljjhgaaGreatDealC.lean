/- Chapter 9: who goes where: deal.Deal at items that come in order. -/
import Derived.Test.YtofgadhgljjhgaaGreatDealB
namespace Go.Sh
open Go Go.RowKit
def iterS (k s t : Nat) (l : List Int) (x : DSt) : Nat → DSt
 | 0 => x
 | i + 1 => (dnext k s t (iterS k s t l x i) (l.getD i 0)).1
theorem iterS_cons (k s t : Nat) (d : Int) (l : List Int) (x : DSt) : ∀ i, iterS k s t (d :: l) x (i + 1) = iterS k s t l (dnext k s t x d).1 i
 | 0 => rfl
 | i + 1 => by
   show (dnext k s t (iterS k s t (d :: l) x (i + 1)) ((d :: l).getD (i + 1) 0)).1 = (dnext k s t (iterS k s t l (dnext k s t x d).1 i) (l.getD i 0)).1
   rw [iterS_cons k s t d l x i, List.getD_cons_succ]
theorem dgo_iter (k s t : Nat) : ∀ (l : List Int) (x : DSt) (i : Nat), i < dmany l → (dgo k s t l x).getD i none = (dnext k s t (iterS k s t l x i) (l.getD i 0)).2
 | [], x, i, h => by simp [dmany] at h
 | d :: l, x, i, h => by
   unfold dmany at h
   split at h
   · omega
   · rename_i hd
     rw [dgo, if_neg hd]
     cases i with
     | zero => rfl
     | succ i => rw [List.getD_cons_succ, List.getD_cons_succ, iterS_cons]; exact dgo_iter k s t l _ i (by omega)
theorem dgo_none (k s t : Nat) (l : List Int) (x : DSt) (hs : DWf k s t x) {i : Nat} (h : dmany l ≤ i) : (dgo k s t l x).getD i none = none := by
 obtain ⟨_, _, _, _, i5⟩ := dgo_ok l x hs
 cases e : (dgo k s t l x)[i]? with
 | none => simp [List.getD, e]
 | some o =>
   cases o with
   | none => simp [List.getD, e]
   | some p => have := i5 i p e; omega
theorem dmany_sign : ∀ (l : List Int) (i : Nat), i < l.length → i = dmany l → l.getD i 0 < 0
 | [], i, h, _ => by simp at h
 | d :: l, i, h, e => by
   unfold dmany at e
   split at e
   · subst e; simpa using (by assumption : d < 0)
   · cases i with
     | zero => omega
     | succ i => rw [List.getD_cons_succ]; exact dmany_sign l i (by simpa using h) (by omega)
theorem dmany_pos (l : List Int) (i : Nat) (h : i < dmany l) : 0 ≤ l.getD i 0 := by
 obtain ⟨d, h1, h2⟩ := dmany_nn l i h
 simp [List.getD, h1]; exact h2
theorem iterS_wf {k s t : Nat} (l : List Int) (x : DSt) (w : DWf k s t x) (hl : -1 ≤ x.lv) : ∀ i, i ≤ dmany l → DWf k s t (iterS k s t l x i) ∧ -1 ≤ (iterS k s t l x i).lv
 | 0, _ => ⟨w, hl⟩
 | i + 1, h => by
   obtain ⟨w1, w2⟩ := iterS_wf l x w hl i (by omega)
   have hp := dmany_pos l i (by omega)
   refine ⟨(dnext_ok w1 hp).1, ?_⟩
   show -1 ≤ (dnext k s t (iterS k s t l x i) (l.getD i 0)).1.lv
   generalize iterS k s t l x i = y at *
   generalize l.getD i 0 = d at *
   unfold dnext
   by_cases c : d < y.lv
   · simp only [if_pos c]; split
     · omega
     · split <;> simp only <;> omega
   · simp only [if_neg c]; split
     · split <;> simp only <;> omega
     · split <;> simp only <;> omega
theorem dfill_at : ∀ (l : List (Option Nat)) (r : List Nat) (i : Nat), i < l.length → (dfill l r).getD i 0 = match l.getD i none with | some p => p | none => r.getD (nones (l.take i)) 0
 | [], r, i, h => by simp at h
 | some p :: l, r, i, h => by
   cases i with
   | zero => simp [dfill]
   | succ i =>
     have := dfill_at l r i (by simpa using h)
     simp only [dfill, List.getD_cons_succ, this, List.take_succ_cons]
     have e : nones (some p :: l.take i) = nones (l.take i) := by simp [nones]
     rw [e]
 | none :: l, r, i, h => by
   cases i with
   | zero => simp [dfill, nones]; cases r <;> rfl
   | succ i =>
     have := dfill_at l r.tail i (by simpa using h)
     simp only [dfill, List.getD_cons_succ, this, List.take_succ_cons]
     have e : nones (none :: l.take i) = nones (l.take i) + 1 := by simp [nones]
     rw [e]
     cases l.getD i none with
     | some p => rfl
     | none => cases r <;> simp
theorem nones_take_succ (l : List (Option Nat)) {i : Nat} (h : i < l.length) : nones (l.take (i + 1)) = nones (l.take i) + if l.getD i none = none then 1 else 0 := by
 rw [List.take_add_one, List.getElem?_eq_getElem h]
 have e : l.getD i none = l[i] := by simp [List.getD, h]
 rw [e]
 cases h2 : l[i] <;> simp [nones, h2]
theorem nones_take_le (l : List (Option Nat)) (i : Nat) : nones (l.take i) ≤ nones l := by
 unfold nones
 exact List.Sublist.length_le ((List.take_sublist i l).filter _)
end Go.Sh
namespace Go.Proofs.Tryz
open Go Go.Sh Go.RowKit
set_option maxRecDepth 8000
def L0 : UInt64 × Int := (0, 0)
def InOrd (L : List (UInt64 × Int)) : Prop := ∀ i j, i ≤ j → j < L.length → ikey (L.getD i L0) ≤ ikey (L.getD j L0)
theorem deal_order {h : Hp} {s : Sl} {L : List (UInt64 × Int)} (r : RdM itf h s L) (hn : L.length ≤ 1000000) (hL : ∀ x ∈ L, x.2 ≤ 1000) (so : InOrd L) :
   callK prog 177 [vs s] h fun v h' => ∃ s', v = vs s' ∧ ArrB h h' s' L.length (fun i : Nat => (i : Int)) ∧ Keep h h' := by
 have hlen := r.len
 refine c177 _ ?_
 unfold G177
 refine newC fun b1 h1 f1 e1 k1 => newC fun b2 h2 f2 e2 k2 => ?_
 have n21 : b2 ≠ b1 := fun e => by rw [e, e1] at f2; cases f2
 refine stN (k1.trans k2) (k1.free f2) e2 (by simp) fun h3 k3 e3 o3 => ?_
 have e13 : h3 b1 = _ := (o3 _ (Ne.symm n21)).trans (k2.get e1)
 refine ⟨_, rd1 e13 rfl, by omega, by omega, by omega, by omega, newC fun b3 h4 f4 e4 k4 => ?_⟩
 have hk0 := k3.trans k4
 have f40 : h b3 = none := k3.free f4
 have n31 : b3 ≠ b1 := fun e => by rw [e, e13] at f4; cases f4
 have n32 : b3 ≠ b2 := fun e => by rw [e, e3] at f4; cases f4
 have ei : ∀ n : Nat, Int.toNat (n : Int) = n := fun n => by omega
 have A0 : ArrB h h4 ⟨some ⟨b3, 0⟩, s.len, s.len, none⟩ s.len fun _ => 0 := ArrB.zero f40 e4 (by omega)
 refine ⟨fun q1 q2 s2 n1 n2 g k => q1 = ⟨b1, 0⟩ ∧ q2 = ⟨b2, 0⟩ ∧ s2 = ⟨some ⟨b3, 0⟩, s.len, s.len, none⟩ ∧ n1 = (s.len : Nat) ∧ ∃ i : Nat, n2 = i ∧ i ≤ s.len ∧ k = s.len - i ∧ ArrB h g ⟨some ⟨b3, 0⟩, s.len, s.len, none⟩ s.len (fun x => if x < i then (x : Int) else 0) ∧ ∀ y, y ≠ b3 → g y = h4 y,
   ⟨s.len, rfl, rfl, rfl, rfl, 0, rfl, by omega, rfl, by simpa using A0, fun _ _ => rfl⟩, ?_⟩
 rintro q1 q2 s2 n1 n2 g k ⟨rfl, rfl, rfl, rfl, i, rfl, hi, rfl, Ag, og⟩
 refine ifD (fun hlt => ?_) fun hge => ?_
 · refine Ag.set (i := i) (by omega) rfl (i : Int) fun g2 A2 o2 => ⟨s.len - (i + 1), by omega, rfl, rfl, rfl, rfl, i + 1, w64_id (by omega) (by omega), by omega, rfl, ?_, fun y hy => (o2 y fun q hq e => hy (by cases hq; exact e)).trans (og y hy)⟩
   have e : (fun x : Nat => if x = i then (i : Int) else if x < i then (x : Int) else 0) = fun x => if x < i + 1 then (x : Int) else 0 := by
     funext x; repeat' split
     all_goals first | rfl | omega
   rw [e] at A2; exact A2
 · have hi' : i = s.len := by omega
   subst hi'
   have keep : Keep h g := fun y hy => by
     have : y ≠ b3 := fun e => hy (e ▸ f40)
     rw [og y this]; exact hk0 y hy
   have A1 : ArrB h g ⟨some ⟨b3, 0⟩, s.len, s.len, none⟩ s.len fun x : Nat => (x : Int) := by
     have e : (List.range s.len).map (fun x : Nat => if x < s.len then (x : Int) else 0) = (List.range s.len).map fun x : Nat => (x : Int) := List.map_congr_left fun x hx => if_pos (List.mem_range.1 hx)
     have Ag' := Ag
     unfold ArrB at Ag'
     rw [e] at Ag'; exact Ag'
   have eg1 : g b1 = some (.cells #[vs s] 260 (0, 0)) := (og b1 (Ne.symm n31)).trans (k4.get e13)
   have eg2 := (og b2 (Ne.symm n32)).trans (k4.get e3)
   have rg : RdM itf g s L := r.keep itf_len keep
   have itn : ∀ q, s.q = some q → 0 < L.length → q.b ≠ b3 := fun q hq hl e => r.there itf_len hq hl (e ▸ f40)
   have A1' : OwnM 1 intf E0 g ⟨some ⟨b3, 0⟩, s.len, s.len, none⟩ ((List.range s.len).map fun x : Nat => (x : Int)) := A1.base fun _ _ => rfl
   have C : CmpOk prog (fun b => b = b3) g (.func (.func 194) #[] #[vp ⟨b2, 0⟩, vp ⟨b1, 0⟩]) encInt (fun x => ikey (L.getD x.toNat L0)) (fun x => 0 ≤ x ∧ x < (L.length : Nat)) := by
     intro h' O x y hx hy
     have p1 : h' b1 = _ := (O b1 (by rw [eg1]; simp) (Ne.symm n31)).trans eg1
     have p2 : h' b2 = _ := (O b2 (by rw [eg2]; simp) (Ne.symm n32)).trans eg2
     have rh : RdM itf h' s L := rg.move fun q hq hl => O q.b (rg.there itf_len hq hl) (itn q hq hl)
     obtain ⟨i, rfl⟩ := Int.eq_ofNat_of_zero_le hx.1
     obtain ⟨j, rfl⟩ := Int.eq_ofNat_of_zero_le hy.1
     have hi : i < L.length := by have := hx.2; omega
     have hj : j < L.length := by have := hy.2; omega
     refine ⟨rfl, ?_⟩
     refine c194 _ _ _ _ ?_
     unfold G194
     refine ⟨_, rd1 p2 rfl, rfl, _, rd1 p1 rfl, ?_⟩
     refine rh.ix itf_len hi fun q _ rr => ?_
     obtain ⟨c1, c2, _⟩ := rr
     refine ⟨_, c1, _, c2, _, rd1 p1 rfl, ?_⟩
     refine rh.ix itf_len hj fun q2 _ rr2 => ?_
     obtain ⟨c3, c4, _⟩ := rr2
     refine ⟨_, c3, _, c4, ⟨rfl, ?_⟩⟩
     refine (item_against L[i] L[j] (hL _ (List.getElem_mem hi)) (hL _ (List.getElem_mem hj)) h').mono ?_
     rintro _ h2 ⟨m, rfl, hm, kk⟩
     refine ⟨m, rfl, m, rfl, ?_, kk⟩
     have e1 : L.getD (Int.toNat (i : Int)) L0 = L[i] := by rw [ei]; simp [List.getD, hi]
     have e2 : L.getD (Int.toNat (j : Int)) L0 = L[j] := by rw [ei]; simp [List.getD, hj]
     rw [hm]; show _ ↔ ikey (L.getD (Int.toNat (i : Int)) L0) < ikey (L.getD (Int.toNat (j : Int)) L0); rw [e1, e2]
   refine (sortedInt C (fun q hq => by cases hq; rfl) (n := s.len) (by omega) A1' (Off.refl _ _) (fun x hx => ⟨by omega, by omega⟩)).mono ?_
   rintro _ g2 ⟨rfl, d', A2, O2, _, _, E2⟩
   have hd : d' = fun x : Nat => (x : Int) := E2 fun i j _ hij hj => by
     show ikey (L.getD (Int.toNat (i : Int)) L0) ≤ ikey (L.getD (Int.toNat (j : Int)) L0)
     rw [ei, ei]; exact so i j hij (by omega)
   subst hd
   refine ⟨rfl, _, rfl, ?_, fun y hy => ?_⟩
   · rw [← hlen]
     exact ⟨A2.len, A2.cap, by
       rcases A2.own with h | ⟨q, c, t, a1, a2, a3⟩
       · exact .inl h
       · exact .inr ⟨q, c, t, a1, by cases a1; exact f40, a3⟩⟩
   · have : y ≠ b3 := fun e => hy (e ▸ f40)
     rw [O2 y (by rw [keep y hy]; exact hy) this, keep y hy]
theorem push_I {b0 g : Hp} {s : Sl} {l : List Int} (A : OwnS iv b0 g s l) (h00 : ∀ b, g b = none → b0 b = none) (x : Int) (hl : (l.length + 1) * 8 ≤ 140737488355328) {t : TypeId} {K : Sl → Hp → Prop}
   (hk : ∀ s' g', OwnS iv b0 g' s' (l ++ [x]) → (∀ b, g b ≠ none → (∀ q, s.q = some q → b ≠ q.b) → g' b = g b) → (∀ q', s'.q = some q' → (∃ q, s.q = some q ∧ q'.b = q.b) ∨ g q'.b = none) → (∀ b, g' b = none → g b = none) → K s' g') :
   newK g (.cells #[.int .i64 x] t) fun b h' => appK prog 64 s (.s ⟨some ⟨b, 0⟩, 1, 1, none⟩) h' K :=
 OwnS.push' rtI iv_one A x h00 hl (by decide) hk
theorem deal_deal {k s t : Nat} (o : DealOk k s t) {h : Hp} {x : Sl} {L : List (UInt64 × Int)} (r : RdM itf h x L) (hlen : L.length = s * (k + 1) + t + 1) (hL : ∀ x ∈ L, x.2 ≤ k) (so : InOrd L) :
   callK prog 158 [.agg #[.int .i64 k, .int .i64 s, .int .i64 t], vs x] h fun v h' => ∃ s1 s2, v = .tuple #[vs s1, vs s2] ∧ OwnS iv h h' s1 ((places k s t (L.map (·.2))).map fun p : Nat => (p : Int)) ∧ OwnS iv h h' s2 ((dlost k s t (L.map (·.2))).map fun p : Nat => (p : Int)) ∧ Keep h h' := by
 have xl := r.len
 have os := o.s; have ot := o.t; have od := o.d
 have hmb := mul_bds os.1 os.2 od.1 od.2
 have hsi : ((s * (k + 1) : Nat) : Int) = (s : Int) * ((k : Int) + 1) := by simp
 have hn1 : L.length ≤ 153 := by rw [hlen]; omega
 generalize hds : L.map (·.2) = ds at *
 have hdl : ds.length = L.length := by rw [← hds]; simp
 have hM := dmany_le ds
 have w0 : DWf k s t (dst0 k) := ⟨by simp [dst0], (show 0 < s by omega), by simp [dst0]⟩
 have ops_len := dgo_length k s t ds (dst0 k)
 generalize hops : dgo k s t ds (dst0 k) = ops at *
 have wf := iterS_wf ds (dst0 k) w0 (show -1 ≤ (k : Int) by omega)
 have gi : ∀ i, i < dmany ds → ops.getD i none = (dnext k s t (iterS k s t ds (dst0 k) i) (ds.getD i 0)).2 := fun i hi => by rw [← hops]; exact dgo_iter k s t ds _ i hi
 have gn : ∀ i, dmany ds ≤ i → ops.getD i none = none := fun i hi => by rw [← hops]; exact dgo_none k s t ds _ w0 hi
 obtain ⟨i1, i2, _, _, _⟩ := dgo_ok ds (dst0 k) w0
 rw [hops] at i1 i2
 have hno := nones_le (n := L.length) ops (by rw [ops_len, hdl]) i2 fun p hp => by have := (i1 p hp).2; omega
 have hpl : places k s t ds = dfill ops (dleft L.length ops) := by unfold places; rw [hops, hdl]
 have hlo : dlost k s t ds = (List.range (dmany ds)).filter fun i => ops.getD i none == none := by unfold dlost; rw [hops]
 have dsget : ∀ i (hi : i < L.length), ds.getD i 0 = L[i].2 := fun i hi => by rw [← hds]; simp [List.getD, hi]
 rw [hpl, hlo]
 refine c158 _ _ _ _ ?_
 unfold G158
 refine newC fun b1 h1 f1 e1 k1 => rd3 e1 ?_
 refine (deal_right o).to fun h2 k2 => ⟨_, rfl, ifB_neg rfl (rd3 (k2.get e1) ?_)⟩
 refine (deal_places o).to fun h3 k3 => ⟨_, rfl, ifB_neg (by rw [xl, hlen]; simp) ?_⟩
 have e3 := (k2.trans k3).get e1
 refine rd3 e3 (rdI e3 rfl (newC fun b2 h4 f4 e4 k4 => newC fun b3 h5 f5 e5 k5 => ?_))
 have k05 := (k1.trans (k2.trans k3)).trans (k4.trans k5)
 have rx : RdS iv h5 ⟨some ⟨b3, 0⟩, 1, 1, none⟩ [-1] := (OwnS.newE (h0 := h4) (l := [(-1 : Int)]) (t := 3) f5 e5 rfl rfl).rd
 rw [xl]
 refine (deal_repeat (by omega) (by omega) rx).mono ?_
 rintro _ h6 ⟨sp, rfl, Ap, k6⟩
 refine ⟨_, rfl, by omega, by omega, by omega, by omega, newC fun b4 h7 f7 e7 k7 => ?_⟩
 have lp := Ap.len
 simp only [List.length_map, List.length_range] at lp
 obtain ⟨qp, hqp⟩ := Ap.rd.ptr (by simp; omega)
 have fp5 : h5 qp.b = none := (Ap.blk hqp).1
 have fp6 := (Ap.blk hqp).2
 have k07 := k05.trans (k6.trans k7)
 have eb2 : h7 b2 = some (.cells (dcell k s t (dst0 k)) 279 (0, 0)) := (k5.trans (k6.trans k7)).get e4
 have n2p : qp.b ≠ b2 := fun e => by rw [e, k5.get e4] at fp5; cases fp5
 have n42 : b4 ≠ b2 := fun e => by rw [e, (k5.trans k6).get e4] at f7; cases f7
 have n4p : b4 ≠ qp.b := fun e => fp6 (e ▸ f7)
 have f20 : h b2 = none := (k1.trans (k2.trans k3)).free f4
 have fp0 : h qp.b = none := k05.free fp5
 have f40 : h b4 = none := (k05.trans k6).free f7
 have ei : ∀ n : Nat, Int.toNat (n : Int) = n := fun n => by omega
 let sl : Sl := ⟨some ⟨b4, 0⟩, L.length, L.length, none⟩
 have Al0 : ArrB h h7 sl L.length fun _ => 0 := ArrB.zero f40 e7 (by omega)
 have Ap7 : ArrB h h7 sp L.length fun _ => -1 := (Ap.keep k7).base fun b hb => k05.free hb
 refine ⟨fun s2 o1 s3 s4 n12 n13 g kk => s2 = x ∧ o1 = some ⟨b2, 0⟩ ∧ s3 = sp ∧ s4 = sl ∧ n12 = (L.length : Nat) ∧ ∃ i : Nat, n13 = i ∧ i ≤ L.length ∧ kk = L.length - i ∧ ArrB h g sl L.length (fun y => if y < i then (y : Int) else 0) ∧ ∀ y, y ≠ b4 → g y = h7 y,
   ⟨L.length, rfl, rfl, rfl, rfl, rfl, 0, rfl, by omega, rfl, by simpa using Al0, fun _ _ => rfl⟩, ?_⟩
 rintro s2 o1 s3 s4 n12 n13 g kk ⟨rfl, rfl, rfl, rfl, rfl, i, rfl, hi, rfl, Al, og⟩
 refine ifD (fun hlt => ?_) fun hge => ?_
 · refine Al.set (i := i) (by omega) rfl (i : Int) fun g2 A2 o2 => ⟨L.length - (i + 1), by omega, rfl, rfl, rfl, rfl, rfl, i + 1, w64_id (by omega) (by omega), by omega, rfl, ?_, fun y hy => (o2 y fun q hq e => hy (by cases hq; exact e)).trans (og y hy)⟩
   have e : (fun x : Nat => if x = i then (i : Int) else if x < i then (x : Int) else 0) = fun x => if x < i + 1 then (x : Int) else 0 := by
     funext x; repeat' split
     all_goals first | rfl | omega
   rw [e] at A2; exact A2
 have hi' : i = L.length := by omega
 subst hi'
 have Al1 : ArrB h g sl L.length fun y : Nat => (y : Int) := by
   have e : (List.range L.length).map (fun x : Nat => if x < L.length then (x : Int) else 0) = (List.range L.length).map fun x : Nat => (x : Int) := List.map_congr_left fun x hx => if_pos (List.mem_range.1 hx)
   have Al' := Al
   unfold ArrB at Al'
   rw [e] at Al'; exact Al'
 have kg : Keep h g := fun y hy => by
   have : y ≠ b4 := fun e => hy (e ▸ f40)
   rw [og y this]; exact k07 y hy
 have Apg : ArrB h g s3 L.length fun _ => -1 := Ap7.move fun q hq => og _ (by rw [hqp] at hq; cases hq; exact n4p.symm)
 have e2g : g b2 = some (.cells (dcell k s t (dst0 k)) 279 (0, 0)) := (og b2 n42.symm).trans eb2
 have nb7 : ∀ y, g y = none → h7 y = none := fun y hy => by
   by_cases c : y = b4
   · exfalso; rw [c] at hy; exact (Al1.blk (q := ⟨b4, 0⟩) rfl).2 hy
   · rw [← og y c]; exact hy
 let left : Nat → Int := fun y => if ops.contains (some y) = true then -1 else (y : Int)
 let lostL : List Int := ((List.range (dmany ds)).filter fun i => ops.getD i none == none).map fun p : Nat => (p : Int)
 refine ⟨fun s7 s8 s9 g => s7 = s3 ∧ s8 = sl ∧ Keep h g ∧ ArrB h g s3 L.length (fun y => optI (ops.getD y none)) ∧ ArrB h g sl L.length left ∧ OwnS iv h g s9 lostL ∧ (∀ q, s9.q = some q → q.b ≠ qp.b ∧ q.b ≠ b4), ?_, ?_⟩
 · have hL' : ∀ y ∈ L, y.2 ≤ 1000 := fun y hy => by have := hL y hy; omega
   refine (deal_order (r.keep itf_len kg) (by omega) hL' so).mono ?_
   rintro _ g1 ⟨so', rfl, Ao, ko⟩
   have lo' := Ao.len
   simp only [List.length_map, List.length_range] at lo'
   obtain ⟨qo, hqo⟩ := Ao.rd.ptr (by simp; omega)
   have fo := (Ao.blk hqo).1
   have no2 : qo.b ≠ b2 := fun e => by rw [e, e2g] at fo; cases fo
   have nop : qo.b ≠ qp.b := fun e => (Apg.blk hqp).2 (e ▸ fo)
   have no4 : qo.b ≠ b4 := fun e => (Al1.blk (q := ⟨b4, 0⟩) rfl).2 (e ▸ fo)
   refine ⟨_, rfl, fun s6 o2 s7 s8 s9 s10 n14 n15 g2 kk => s6 = s2 ∧ o2 = some ⟨b2, 0⟩ ∧ s7 = s3 ∧ s8 = sl ∧ s10 = so' ∧ n14 = (L.length : Nat) ∧ ∃ i : Nat, n15 = i ∧ i ≤ dmany ds ∧ kk = L.length - i ∧ Keep h g2 ∧ g2 b2 = some (.cells (dcell k s t (iterS k s t ds (dst0 k) i)) 279 (0, 0)) ∧
       ArrB h g2 s3 L.length (fun y => if y < i then optI (ops.getD y none) else -1) ∧ ArrB h g2 sl L.length (fun y => if (ops.take i).contains (some y) = true then -1 else (y : Int)) ∧ OwnS iv h g2 s9 (((List.range i).filter fun i => ops.getD i none == none).map fun p : Nat => (p : Int)) ∧
       (∀ q, s9.q = some q → q.b ≠ qp.b ∧ q.b ≠ b4 ∧ q.b ≠ b2 ∧ q.b ≠ qo.b) ∧ ArrB g g2 so' L.length (fun y : Nat => (y : Int)) ∧ RdM itf g2 s2 L,
     ⟨L.length, rfl, rfl, rfl, rfl, rfl, by rw [lo'], 0, rfl, by omega, rfl, kg.trans ko, ko.get e2g, by simpa using Apg.keep ko, by simpa using Al1.keep ko, OwnS.nilS _ _ _, fun q hq => (by cases hq), Ao, (r.keep itf_len (kg.trans ko))⟩, ?_⟩
   rintro s6 o2 s7 s8 s9 s10 n14 n15 g2 kk ⟨rfl, rfl, rfl, rfl, rfl, rfl, i, rfl, hi, rfl, kg2, e2, Ap2, Al2, Ol2, nl2, Ao2, r2⟩
   have done : ∀ g3, Keep g2 g3 → i = dmany ds → s7 = s7 ∧ sl = sl ∧ Keep h g3 ∧ ArrB h g3 s7 L.length (fun y => optI (ops.getD y none)) ∧ ArrB h g3 sl L.length left ∧ OwnS iv h g3 s9 lostL ∧ (∀ q, s9.q = some q → q.b ≠ qp.b ∧ q.b ≠ b4) := by
     rintro g3 k3 hid
     have e1 : (fun y => if y < i then optI (ops.getD y none) else -1) = fun y => optI (ops.getD y none) := by
       funext y
       by_cases c : y < i
       · rw [if_pos c]
       · rw [if_neg c, gn y (by omega)]; rfl
     have e2' : ∀ y : Nat, (ops.take i).contains (some y) = ops.contains (some y) := fun y => by
       rw [Bool.eq_iff_iff]
       simp only [List.contains_eq_mem, decide_eq_true_eq]
       constructor
       · exact fun h => List.mem_of_mem_take h
       · intro hm
         obtain ⟨j, hj, e⟩ := List.getElem_of_mem hm
         have hji : j < i := by
           rcases Nat.lt_or_ge j i with c | c
           · exact c
           · have := gn j (by omega)
             simp [List.getD, hj, e] at this
         rw [← e]
         exact List.mem_take_iff_getElem.2 ⟨j, by omega, rfl⟩
     refine ⟨rfl, rfl, kg2.trans k3, by rw [e1] at Ap2; exact Ap2.keep k3, ?_, by rw [hid] at Ol2; exact Ol2.keep k3, fun q hq => ⟨(nl2 q hq).1, (nl2 q hq).2.1⟩⟩
     have e3 : (fun y : Nat => if (ops.take i).contains (some y) = true then (-1 : Int) else (y : Int)) = left := by funext y; rw [e2' y]
     rw [e3] at Al2; exact Al2.keep k3
   refine ifD (fun hlt => ?_) fun hge => done g2 (Keep.refl _) (by omega)
   have hiL : i < L.length := by omega
   refine Ao2.get hiL rfl fun q _ => ?_
   refine r2.ix itf_len hiL fun q2 _ rr => ?_
   obtain ⟨_, c2, _⟩ := rr
   rw [ei]
   refine ⟨_, c2, ifD (fun hneg => done g2 (Keep.refl _) ?_) fun hpos => ?_⟩
   · rcases Nat.lt_or_ge i (dmany ds) with c | c
     · have := dmany_pos ds i c; rw [dsget i hiL] at this; omega
     · omega
   have hid : i < dmany ds := by
     rcases Nat.lt_or_ge i (dmany ds) with c | c
     · exact c
     · have := dmany_sign ds i (by omega) (by omega); rw [dsget i hiL] at this; omega
   refine r2.ix itf_len hiL fun q3 _ rr3 => ?_
   obtain ⟨_, c3, _⟩ := rr3
   refine ⟨_, c3, ?_⟩
   have hdn := gi i hid
   rw [dsget i hiL] at hdn
   have hst : iterS k s t ds (dst0 k) (i + 1) = (dnext k s t (iterS k s t ds (dst0 k) i) L[i].2).1 := by
     show (dnext k s t (iterS k s t ds (dst0 k) i) (ds.getD i 0)).1 = _; rw [dsget i hiL]
   refine (deal_next o (wf i hi).1 (wf i hi).2 (d := L[i].2) (by omega) e2).mono ?_
   rintro _ g3 ⟨rfl, e3', o3, n3⟩
   rw [← hst] at e3'
   rw [← hdn]
   have k3 : ∀ y, h y ≠ none → g3 y = h y := fun y hy => by
     have : y ≠ b2 := fun e => hy (e ▸ f20)
     rw [o3 y this (by rw [kg2 y hy]; exact hy), kg2 y hy]
   have np2 : ∀ q, s7.q = some q → q.b ≠ b2 := fun q hq => by rw [hqp] at hq; cases hq; exact n2p
   have Ap3 := Ap2.move (h' := g3) fun q hq => o3 _ (np2 q hq) (Ap2.blk hq).2
   have Al3 := Al2.move (h' := g3) fun q hq => by cases hq; exact o3 _ n42 (Al2.blk (q := ⟨b4, 0⟩) rfl).2
   have Ol3 := Ol2.move (h' := g3) fun q hq => o3 _ (nl2 q hq).2.2.1 (Ol2.blk hq).2
   have Ao3 := Ao2.move (h' := g3) fun q hq => o3 _ (by rw [hqo] at hq; cases hq; exact no2) (Ao2.blk hq).2
   have r3 : RdM itf g3 s6 L := r.keep itf_len k3
   have ht : ops.take (i + 1) = ops.take i ++ [ops.getD i none] := by
     have hio : i < ops.length := by rw [ops_len, hdl]; exact hiL
     rw [List.take_add_one, List.getElem?_eq_getElem hio]; simp [List.getD, hio]
   have hf : (List.range (i + 1)).filter (fun i => ops.getD i none == none) = (List.range i).filter (fun i => ops.getD i none == none) ++ if ops.getD i none = none then [i] else [] := by
     rw [List.range_succ, List.filter_append]
     congr 1
     rw [List.filter_cons, List.filter_nil]
     cases hc : ops.getD i none <;> rfl
   refine ⟨_, rfl, ?_⟩
   cases hc : ops.getD i none with
   | none =>
     rw [hc] at ht hf
     refine ifB_pos rfl ?_
     refine push_I Ol3 (fun b hb => by
       cases e : h b with
       | none => rfl
       | some ob => rw [k3 b (by rw [e]; simp), e] at hb; cases hb) (i : Int) (by
         have := List.length_filter_le (fun i => ops.getD i none == none) (List.range i)
         simp at this ⊢; omega) fun s' g4 O4 f4' w4 n4' => ?_
     have keep4 : ∀ y, g3 y ≠ none → (∀ q, s9.q = some q → y ≠ q.b) → g4 y = g3 y := f4'
     have p4 := keep4 qp.b (by have := (Ap3.blk hqp).2; exact this) fun q hq e => (nl2 q hq).1 e.symm
     have l4 := keep4 b4 (Al3.blk (q := ⟨b4, 0⟩) rfl).2 fun q hq e => (nl2 q hq).2.1 e.symm
     have d4 := keep4 b2 (by rw [e3']; simp) fun q hq e => (nl2 q hq).2.2.1 e.symm
     have o4 := keep4 qo.b (Ao3.blk hqo).2 fun q hq e => (nl2 q hq).2.2.2 e.symm
     have h4' : ∀ y, h y ≠ none → g4 y = h y := fun y hy => by
       rw [keep4 y (by rw [k3 y hy]; exact hy) fun q hq e => hy (e ▸ (Ol3.blk hq).1), k3 y hy]
     refine ⟨L.length - (i + 1), by omega, rfl, rfl, rfl, rfl, rfl, rfl, i + 1, w64_id (by omega) (by omega), by omega, rfl, h4', d4.trans e3', ?_, ?_, ?_, fun q' hq' => ?_, Ao3.move fun q hq => by rw [hqo] at hq; cases hq; exact o4, r.keep itf_len h4'⟩
     · have e : (fun y => if y < i + 1 then optI (ops.getD y none) else -1) = fun y => if y < i then optI (ops.getD y none) else -1 := by
         funext y
         by_cases c : y < i
         · rw [if_pos c, if_pos (by omega)]
         · rw [if_neg c]
           by_cases c' : y = i
           · rw [if_pos (by omega), c', hc]; rfl
           · rw [if_neg (by omega)]
       rw [e]; exact Ap3.move fun q hq => by rw [hqp] at hq; cases hq; exact p4
     · have e : (fun y : Nat => if (ops.take (i + 1)).contains (some y) = true then (-1 : Int) else (y : Int)) = fun y => if (ops.take i).contains (some y) = true then -1 else (y : Int) := by
         funext y; rw [ht]; simp
       rw [e]; exact Al3.move fun q hq => by cases hq; exact l4
     · rw [hf, if_pos rfl, List.map_append]; exact O4
     · rcases w4 q' hq' with ⟨q, hq, e⟩ | hn
       · rw [e]; exact nl2 q hq
       · refine ⟨fun e => ?_, fun e => ?_, fun e => ?_, fun e => ?_⟩
         · exact (Ap3.blk hqp).2 (e ▸ hn)
         · exact (Al3.blk (q := ⟨b4, 0⟩) rfl).2 (e ▸ hn)
         · rw [e, e3'] at hn; cases hn
         · exact (Ao3.blk hqo).2 (e ▸ hn)
   | some p =>
     rw [hc] at ht hf
     have hio : i < ops.length := by rw [ops_len, hdl]; exact hiL
     have hp : p < L.length := by
       have := (i1 p (by have : ops[i] = some p := by simpa [List.getD, hio] using hc
                         rw [← this]; exact List.getElem_mem hio)).2; omega
     refine ifB_neg (decide_eq_false (by simp only [optI]; omega)) ?_
     refine ArrB.set Ap3 (i := i) hiL rfl (p : Int) fun g4 A4 o4 => ?_
     have l4 : g4 b4 = g3 b4 := o4 b4 fun q hq => by rw [hqp] at hq; cases hq; exact n4p
     refine ArrB.set (Al3.move (h' := g4) fun q hq => by cases hq; exact l4) (i := p) hp rfl (-1) fun g5 A5 o5 => ?_
     have og4 : ∀ y, y ≠ qp.b → y ≠ b4 → g5 y = g3 y := fun y h1 h2 => (o5 y fun q hq => by cases hq; exact h2).trans (o4 y fun q hq => by rw [hqp] at hq; cases hq; exact h1)
     have h4' : ∀ y, h y ≠ none → g5 y = h y := fun y hy => by
       rw [og4 y (fun e => hy (e ▸ fp0)) (fun e => hy (e ▸ f40)), k3 y hy]
     refine ⟨L.length - (i + 1), by omega, rfl, rfl, rfl, rfl, rfl, rfl, i + 1, w64_id (by omega) (by omega), by omega, rfl, h4', (og4 b2 n2p.symm n42.symm).trans e3', ?_, ?_, ?_, nl2, Ao3.move fun q hq => by rw [hqo] at hq; cases hq; exact og4 _ nop no4, r.keep itf_len h4'⟩
     · have e : (fun y => if y < i + 1 then optI (ops.getD y none) else -1) = fun y => if y = i then (p : Int) else if y < i then optI (ops.getD y none) else -1 := by
         funext y
         by_cases c' : y = i
         · rw [if_pos (by omega), if_pos c', c', hc]; rfl
         · rw [if_neg c']
           by_cases c : y < i
           · rw [if_pos c, if_pos (by omega)]
           · rw [if_neg c, if_neg (by omega)]
       rw [e]; exact A4.move fun q hq => o5 _ fun q' hq' => by cases hq'; rw [hqp] at hq; cases hq; exact n4p.symm
     · have e : (fun y : Nat => if (ops.take (i + 1)).contains (some y) = true then (-1 : Int) else (y : Int)) = fun y => if y = p then -1 else if (ops.take i).contains (some y) = true then -1 else (y : Int) := by
         funext y; rw [ht]
         by_cases c : y = p
         · simp [c]
         · simp [c]
       rw [e]; exact A5
     · rw [hf, if_neg (by simp), List.append_nil]
       exact Ol3.move fun q hq => og4 _ (nl2 q hq).1 (nl2 q hq).2.1
 rintro s12 s13 s14 g3 ⟨rfl, rfl, kg3, Ap3, Al3, Ol3, nl3⟩
 refine (delete_neg Al3 (by omega)).mono ?_
 rintro _ g4 ⟨s15, rfl, r15, w15, o4, _⟩
 have hleft : ((List.range L.length).map left).filter (fun x => decide (0 ≤ x)) = (dleft L.length ops).map fun p : Nat => (p : Int) := by
   rw [List.filter_map]
   have e1 : (List.range L.length).filter ((fun x : Int => decide (0 ≤ x)) ∘ left) = dleft L.length ops := by
     unfold dleft
     apply List.filter_congr
     intro y _
     show decide (0 ≤ left y) = !ops.contains (some y)
     by_cases c : ops.contains (some y) = true
     · have hl : left y = -1 := if_pos c
       rw [hl, c]; rfl
     · have hl : left y = (y : Int) := if_neg c
       rw [hl, Bool.eq_false_iff.2 c]; exact decide_eq_true (by omega)
   rw [e1]
   apply List.map_congr_left
   intro y hy
   have : ops.contains (some y) = false := by
     have := (List.mem_filter.1 hy).2
     simpa using this
   simp only [left, this]; rfl
 rw [hleft] at r15
 have Ap4 := Ap3.move (h' := g4) fun q hq => o4 _ fun q' hq' => by cases hq'; rw [hqp] at hq; cases hq; exact n4p.symm
 have Ol4 := Ol3.move (h' := g4) fun q hq => o4 _ fun q' hq' => by cases hq'; exact (nl3 q hq).2
 have kg4 : Keep h g4 := fun y hy => by
   rw [o4 y fun q hq e => hy (by cases hq; rw [e]; exact f40)]; exact kg3 y hy
 generalize hR : dleft L.length ops = R0 at *
 have hlen2 : ops.length = L.length := by rw [ops_len, hdl]
 refine ⟨_, rfl, fun s16 s17 s18 s19 n20 n21 g5 kk => s16 = s12 ∧ s18 = s14 ∧ s19 = s12 ∧ n20 = (L.length : Nat) ∧ ∃ i : Nat, n21 = i ∧ i ≤ L.length ∧ kk = L.length - i ∧ Keep h g5 ∧ ArrB h g5 s12 L.length (fun y => if y < i then ((dfill ops R0).getD y 0 : Nat) else optI (ops.getD y none)) ∧ OwnS iv h g5 s14 lostL ∧
     RdS iv g5 s17 ((R0.map fun p : Nat => (p : Int)).drop (nones (ops.take i))) ∧ ∀ q, s17.q = some q → q.b = b4,
   ⟨L.length, rfl, rfl, rfl, by rw [Ap4.len]; simp, 0, rfl, by omega, rfl, kg4, by simpa using Ap4, Ol4, by simpa [nones] using r15, fun q hq => by obtain ⟨p, hp, e⟩ := w15 q hq; cases hp; exact e⟩, ?_⟩
 rintro s16 s17 s18 s19 n20 n21 g5 kk ⟨rfl, rfl, rfl, rfl, i, rfl, hi, rfl, kg5, Ap5, Ol5, r5, w5⟩
 refine ifD (fun hlt => ?_) fun hge => ?_
 · have hiL : i < L.length := by omega
   have hat := dfill_at ops R0 i (by rw [hlen2]; exact hiL)
   have hsu := nones_take_succ ops (i := i) (by rw [hlen2]; exact hiL)
   refine Ap5.get hiL rfl fun q _ => ?_
   rw [if_neg (Nat.lt_irrefl i)]
   cases hc : ops.getD i none with
   | none =>
     rw [hc] at hat hsu
     rw [if_pos rfl] at hsu
     have hle := nones_take_le ops (i + 1)
     have hlt2 : nones (ops.take i) < R0.length := by omega
     refine ifB_pos rfl ?_
     have hget : ((R0.map fun p : Nat => (p : Int)).drop (nones (ops.take i)))[0]'(by simp; omega) = ((R0.getD (nones (ops.take i)) 0 : Nat) : Int) := by
       simp [List.getD, hlt2]
     obtain ⟨q1, hq1, hc1⟩ := r5.at (i := 0) (by simp; omega)
     rw [hget] at hc1
     have r5l := r5.len
     have r5c := r5.cap
     simp only [List.length_drop, List.length_map] at r5l
     refine ⟨q1, hq1, Int.NonNeg.mk 0, by omega, _, hc1, Int.NonNeg.mk 1, by omega, ?_⟩
     refine Ap5.set (i := i) hiL rfl _ fun g6 A6 o6 => ?_
     have l6 : ∀ q, s17.q = some q → g6 q.b = g5 q.b := fun q hq => o6 _ fun q' hq' => by rw [hqp] at hq'; cases hq'; rw [w5 q hq]; exact n4p
     refine ⟨L.length - (i + 1), by omega, rfl, rfl, rfl, rfl, i + 1, w64_id (by omega) (by omega), by omega, rfl, fun y hy => ?_, ?_, Ol5.move fun q hq => o6 _ fun q' hq' => by rw [hqp] at hq'; cases hq'; exact (nl3 q hq).1, ?_, fun q hq => ?_⟩
     · rw [o6 y fun q hq e => hy (by rw [hqp] at hq; cases hq; rw [e]; exact fp0)]; exact kg5 y hy
     · have e : (fun y => if y < i + 1 then (((dfill ops R0).getD y 0 : Nat) : Int) else optI (ops.getD y none)) = fun y => if y = i then ((R0.getD (nones (ops.take i)) 0 : Nat) : Int) else if y < i then (((dfill ops R0).getD y 0 : Nat) : Int) else optI (ops.getD y none) := by
         funext y
         by_cases c' : y = i
         · rw [if_pos (by omega), if_pos c', c', hat]
         · rw [if_neg c']
           by_cases c : y < i
           · rw [if_pos c, if_pos (by omega)]
           · rw [if_neg c, if_neg (by omega)]
       rw [e]; exact A6
     · have := (r5.move (h' := g6) fun q hq _ => l6 q hq).drop (n := 1) (by simp; omega)
       rw [List.drop_drop] at this
       rw [hsu]; exact this
     · obtain ⟨q', hq', e⟩ := cut_q0 r5.nil (n := 1) (by omega) hq
       rw [e]; exact w5 q' hq'
   | some p =>
     rw [hc] at hat hsu
     rw [if_neg (by simp), Nat.add_zero] at hsu
     refine ifB_neg (decide_eq_false (by simp only [optI]; omega)) ?_
     refine ⟨L.length - (i + 1), by omega, rfl, rfl, rfl, rfl, i + 1, w64_id (by omega) (by omega), by omega, rfl, kg5, ?_, Ol5, by rw [hsu]; exact r5, w5⟩
     have e : (fun y => if y < i + 1 then (((dfill ops R0).getD y 0 : Nat) : Int) else optI (ops.getD y none)) = fun y => if y < i then (((dfill ops R0).getD y 0 : Nat) : Int) else optI (ops.getD y none) := by
       funext y
       by_cases c : y < i
       · rw [if_pos c, if_pos (by omega)]
       · rw [if_neg c]
         by_cases c' : y = i
         · rw [if_pos (by omega), c', hat, hc]; rfl
         · rw [if_neg (by omega)]
     rw [e]; exact Ap5
 · have hiL : i = L.length := by omega
   subst hiL
   refine ⟨_, _, rfl, ?_, Ol5, kg5⟩
   have e : (List.range L.length).map (fun y => if y < L.length then (((dfill ops R0).getD y 0 : Nat) : Int) else optI (ops.getD y none)) = (dfill ops R0).map fun p : Nat => (p : Int) := by
     apply List.ext_getElem
     · simp [dfill_length, hlen2]
     · intro j a1 a2
       have hj : j < L.length := by simpa using a1
       have hj2 : j < (dfill ops R0).length := by simpa using a2
       simp [hj, List.getD, hj2]
   have := Ap5.toS
   rw [e] at this; exact this
end Go.Proofs.Tryz

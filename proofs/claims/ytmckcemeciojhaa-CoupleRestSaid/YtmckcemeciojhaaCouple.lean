/- Chapter 21: what each function of the turning, and of its reference, comes to. -/
import Derived.Test.YtmckcemeciojhaaShUse
import Derived.Test.YtmckcemeciojhaaCPlain
import Derived.Test.YtmckcemeciojhaaRd
namespace Go.Proofs.Try
open Go Go.Sh Go.RowKit Go.CPlain

theorem rtUc : RowT prog 22 30 (.int .u64 0) 8 := ⟨by kernel_rfl, by kernel_rfl, by kernel_rfl, by kernel_rfl, rfl⟩
theorem rtIc : RowT prog 23 3 (.int .i64 0) 8 := ⟨by kernel_rfl, by kernel_rfl, by kernel_rfl, by kernel_rfl, rfl⟩
abbrev iv : Int → Value := Value.int .i64
theorem iv1 (x : Int) : (iv x).oneCell' = true := rfl
theorem vu1 (x : UInt64) : (vu x).oneCell' = true := rfl

theorem same_c {h : Hp} {s t : Sl} {a b : List UInt64} (ra : RdS vu h s a) (rb : RdS vu h t b) (hl : a.length ≤ 1000000) :
    callK prog 22 [vs s, vs t] h fun v h' => v = .bool (decide (a = b)) ∧ h' = h := by
  refine c22 s t ?_
  have la := ra.len; have lb := rb.len
  refine ifN (fun e => ⟨?_, rfl⟩) fun e => ?_
  · rw [decide_eq_false]; intro h; subst h; omega
  have hab : a.length = b.length := by omega
  refine ⟨fun s1 s2 n1 h1 k => s1 = s ∧ s2 = t ∧ h1 = h ∧ ∃ m : Nat, n1 = m ∧ m ≤ a.length ∧ (∀ i, i < m → a[i]? = b[i]?) ∧ k = a.length - m, ⟨_, rfl, rfl, rfl, 0, rfl, Nat.zero_le _, by omega, rfl⟩, ?_⟩
  rintro s1 s2 n1 h1 k ⟨rfl, rfl, rfl, m, rfl, hm, he, rfl⟩
  refine ifD (fun hlt => ?_) (fun hge => ⟨?_, rfl⟩)
  · have h1m : m < a.length := by omega
    have h2m : m < b.length := by omega
    refine ra.ix h1m fun p _ hc => ⟨_, hc, rb.ix h2m fun p' _ hc' => ⟨_, hc', ifN (fun e => ⟨?_, rfl⟩) fun e => ⟨_, ?_, rfl, rfl, rfl, m + 1, by rw [wrap64_id (by omega) (by omega)]; rfl, by omega, fun i hi => ?_, rfl⟩⟩⟩
    · rw [decide_eq_false]; intro h; subst h; exact e rfl
    · omega
    · by_cases e1 : i = m
      · subst e1; rw [List.getElem?_eq_getElem h1m, List.getElem?_eq_getElem h2m, e]
      · exact he i (by omega)
  · have : m = a.length := by omega
    subst this
    rw [decide_eq_true]
    apply List.ext_getElem? 
    intro i
    by_cases hi : i < a.length
    · exact he i hi
    · rw [List.getElem?_eq_none (by omega), List.getElem?_eq_none (by omega)]

theorem take_mem {l : List Int} {m : Nat} (hm : m < l.length) (x : Int) : x ∈ l.take (m + 1) ↔ x ∈ l.take m ∨ x = l[m] := by
  rw [List.take_add_one, List.getElem?_eq_getElem hm]
  simp only [Option.toList_some, List.mem_append, List.mem_singleton]

theorem in_c {h : Hp} {s : Sl} {l : List Int} (r : RdS iv h s l) (x : Int) (hl : l.length ≤ 1000000) :
    callK prog 23 [vs s, iv x] h fun v h' => v = .bool (decide (x ∈ l)) ∧ h' = h := by
  refine c23 s x ?_
  have la := r.len
  refine ⟨fun s1 n1 n2 h1 k => s1 = s ∧ n1 = x ∧ h1 = h ∧ ∃ m : Nat, n2 = m ∧ m ≤ l.length ∧ x ∉ l.take m ∧ k = l.length - m, ⟨_, rfl, rfl, rfl, 0, rfl, Nat.zero_le _, by simp, rfl⟩, ?_⟩
  rintro s1 n1 n2 h1 k ⟨rfl, rfl, rfl, m, rfl, hm, he, rfl⟩
  refine ifD (fun hlt => ?_) (fun hge => ⟨?_, rfl⟩)
  · have h1m : m < l.length := by omega
    refine r.ix h1m fun p _ hc => ⟨_, hc, ifD (fun e => ⟨?_, rfl⟩) fun e => ⟨_, ?_, rfl, rfl, rfl, m + 1, by rw [wrap64_id (by omega) (by omega)]; rfl, by omega, ?_, rfl⟩⟩
    · rw [decide_eq_true]; rw [← e]; exact List.getElem_mem h1m
    · omega
    · rw [take_mem h1m]; rintro (h | h)
      · exact he h
      · exact e h.symm
  · rw [List.take_of_length_le (by omega)] at he
    rw [decide_eq_false he]

/-- slices.Clone, of places -/
theorem clone_i {h : Hp} {s : Sl} {l : List Int} (r : RdS iv h s l) (hl : l.length * 8 ≤ 140737488355328) :
    callK prog 28 [vs s] h fun v h' => ∃ s', v = vs s' ∧ OwnS iv h h' s' l ∧ Keep h h' := by
  refine c28 s ?_
  refine ifB_intro (fun hn => ?_) (fun hn => ?_)
  · have hp : s.q = none := by
      cases e : s.q with
      | none => rfl
      | some q => rw [Sl.q_p e] at hn; cases hn
    have : l = [] := List.length_eq_zero_iff.1 (by have := r.nil hp; have := r.cap; have := r.len; omega)
    subst this
    exact ⟨_, rfl, OwnS.nilS _ _ _, Keep.refl h⟩
  · exact OwnS.copy rtIc iv1 r hl (by decide) fun s' h' o k => ⟨s', rfl, o, k⟩

theorem okb_take {n : Nat} {l : List Int} {m : Nat} (hm : m < l.length) (h : okb n (l.take m) = true) (h0 : 0 ≤ l[m]) (h1 : l[m] < (n : Int)) (h2 : l[m] ∉ l.take m) : okb n (l.take (m + 1)) = true := by
  obtain ⟨p1, p2⟩ := okb_iff.1 h
  refine okb_iff.2 ⟨fun x hx => ?_, ?_⟩
  · rcases (take_mem hm x).1 hx with hx | hx
    · exact p1 x hx
    · subst hx; exact ⟨h0, h1⟩
  · rw [List.take_add_one, List.getElem?_eq_getElem hm, Option.toList_some, List.nodup_append]
    refine ⟨p2, by simp, fun a ha b hb e => ?_⟩
    simp only [List.mem_singleton] at hb
    subst hb; subst e; exact h2 ha
theorem okb_bad {n : Nat} {l : List Int} {m : Nat} (hm : m < l.length) (h : l[m] < 0 ∨ (n : Int) ≤ l[m] ∨ l[m] ∈ l.take m) : okb n l = false := by
  refine okb_false fun ⟨h1, h2⟩ => ?_
  have := h1 l[m] (List.getElem_mem hm)
  rcases h with h | h | h
  · omega
  · omega
  · obtain ⟨i, hi, e⟩ := List.getElem_of_mem h
    have hi' : i < m := by simp at hi; omega
    rw [List.getElem_take] at e
    exact List.pairwise_iff_getElem.1 h2 i m (by omega) hm hi' e

/-- twice: is a place twice in a row, or none of so many? -/
theorem twice_c {h : Hp} {s : Sl} {l : List Int} (r : RdS iv h s l) (n : Nat) (hl : l.length ≤ 1000000) :
    callK prog 26 [vs s, iv n] h fun v h' => v = .bool (!okb n l) ∧ h' = h := by
  refine c26 s n ?_
  have la := r.len
  refine ⟨fun s1 n1 n2 h1 k => s1 = s ∧ n1 = n ∧ h1 = h ∧ ∃ m : Nat, n2 = m ∧ m ≤ l.length ∧ okb n (l.take m) = true ∧ k = l.length - m, ⟨_, rfl, rfl, rfl, 0, rfl, Nat.zero_le _, by simp [okb], rfl⟩, ?_⟩
  rintro s1 n1 n2 h1 k ⟨rfl, rfl, rfl, m, rfl, hm, he, rfl⟩
  refine ifD (fun hlt => ?_) (fun hge => ⟨?_, rfl⟩)
  · have h1m : m < l.length := by omega
    refine r.ix h1m fun p _ hc => ⟨_, hc, ifD (fun e => ⟨by rw [okb_bad h1m (.inl e)]; rfl, rfl⟩) fun e => r.ix h1m fun p' _ hc' => ⟨_, hc', ifD (fun e2 => ⟨by rw [okb_bad h1m (.inr (.inl e2))]; rfl, rfl⟩) fun e2 => ?_⟩⟩
    refine ⟨fun s2 n5 n6 n7 h2 k => s2 = s1 ∧ n5 = n ∧ n6 = m ∧ h2 = h1 ∧ ∃ j : Nat, n7 = j ∧ j ≤ m ∧ l[m] ∉ l.take j ∧ k = m - j, ⟨_, rfl, rfl, rfl, rfl, 0, rfl, Nat.zero_le _, by simp, rfl⟩, ?_⟩
    rintro s2 n5 n6 n7 h2 k ⟨rfl, rfl, rfl, rfl, j, rfl, hj, hne, rfl⟩
    refine ifD (fun hlt2 => ?_) (fun hge2 => ?_)
    · have hjl : j < l.length := by omega
      refine r.ix hjl fun p _ hc => ⟨_, hc, r.ix h1m fun p' _ hc' => ⟨_, hc', ifD (fun e3 => ⟨?_, rfl⟩) fun e3 => ⟨_, ?_, rfl, rfl, rfl, rfl, j + 1, by rw [wrap64_id (by omega) (by omega)]; rfl, by omega, ?_, rfl⟩⟩⟩
      · rw [okb_bad h1m (.inr (.inr ?_))]; rfl
        rw [← e3]
        have hjt : j < (l.take m).length := by simp; omega
        have : (l.take m)[j] = l[j] := by simp
        rw [← this]; exact List.getElem_mem hjt
      · omega
      · rw [take_mem hjl]; rintro (h | h)
        · exact hne h
        · exact e3 h.symm
    · have : j = m := by omega
      subst this
      exact ⟨_, by omega, rfl, rfl, rfl, j + 1, by rw [wrap64_id (by omega) (by omega)]; rfl, by omega, okb_take h1m he (by omega) (by omega) hne, rfl⟩
  · rw [List.take_of_length_le (by omega)] at he
    rw [he]; rfl

/-- rest: the places that are not in a row -/
theorem rest_c {h : Hp} {s : Sl} {l : List Int} (r : RdS iv h s l) (n : Nat) (hl : l.length ≤ 1000000) (hn : n ≤ 1000000) :
    callK prog 27 [vs s, iv n] h fun v h' => ∃ s', v = vs s' ∧ OwnS iv h h' s' (rest n l) ∧ Keep h h' := by
  refine c27 s n ?_
  have la := r.len
  refine ⟨fun s1 n1 s2 n2 h1 k => s1 = s ∧ n1 = n ∧ ∃ m : Nat, n2 = m ∧ m ≤ n ∧ OwnS iv h h1 s2 (rest m l) ∧ Keep h h1 ∧ k = n - m, ⟨_, rfl, rfl, 0, rfl, Nat.zero_le _, OwnS.nilS _ _ _, Keep.refl _, rfl⟩, ?_⟩
  rintro s1 n1 s2 n2 h1 k ⟨rfl, rfl, m, rfl, hm, ho, hk, rfl⟩
  refine ifD (fun hlt => ?_) (fun hge => ?_)
  · have r1 := r.keep hk
    refine ⟨fun s3 n3 s4 n4 t1 n5 h2 k => s3 = s1 ∧ n3 = n ∧ s4 = s2 ∧ n4 = m ∧ h2 = h1 ∧ ∃ j : Nat, n5 = j ∧ j ≤ l.length ∧ t1 = decide ((m : Int) ∈ l.take j) ∧ k = l.length - j, ⟨_, rfl, rfl, rfl, rfl, rfl, 0, rfl, Nat.zero_le _, by simp, rfl⟩, ?_⟩
    rintro s3 n3 s4 n4 t1 n5 h2 k ⟨rfl, rfl, rfl, rfl, rfl, j, rfl, hj, rfl, rfl⟩
    refine ifD (fun hlt2 => ?_) (fun hge2 => ?_)
    · have hjl : j < l.length := by omega
      refine r1.ix hjl fun p _ hc => ⟨_, hc, ifD (fun e => ⟨_, ?_, rfl, rfl, rfl, rfl, rfl, j + 1, by rw [wrap64_id (by omega) (by omega)]; rfl, by omega, ?_, rfl⟩) fun e => ⟨_, ?_, rfl, rfl, rfl, rfl, rfl, j + 1, by rw [wrap64_id (by omega) (by omega)]; rfl, by omega, ?_, rfl⟩⟩
      · omega
      · rw [decide_eq_true ((take_mem hjl _).2 (.inr e.symm))]
      · omega
      · rw [Bool.eq_iff_iff]
        simp only [decide_eq_true_eq, take_mem hjl]
        exact ⟨.inl, fun hh => hh.elim id fun hh => absurd hh.symm e⟩
    · rw [List.take_of_length_le (by omega)]
      have hrl := rest_length m l
      refine ifB_intro (fun e => ?_) (fun e => ?_)
      · have hni : (m : Int) ∉ l := by simpa using e
        refine OwnS.push rtIc iv1 ho (m : Int) (fun b hb => hk.free hb) (by omega) (by decide) ?_
        intro s' h' o' hoff hfr
        refine ⟨_, ?_, rfl, rfl, m + 1, by rw [wrap64_id (by omega) (by omega)]; rfl, by omega, ?_, ?_, rfl⟩
        · omega
        · rw [rest_succ, if_neg hni]; exact o'
        · exact hk.offOwn (D := fun y => ∃ p, s4.q = some p ∧ y = p.b) (fun y hy hne => hoff y hy fun p hp e => hne ⟨p, hp, e⟩) (by rintro y ⟨p, hp, rfl⟩; exact (ho.blk hp).1)
      · have hni : (m : Int) ∈ l := by simpa using e
        refine ⟨_, ?_, rfl, rfl, m + 1, by rw [wrap64_id (by omega) (by omega)]; rfl, by omega, ?_, hk, rfl⟩
        · omega
        · rw [rest_succ, if_pos hni, List.append_nil]; exact ho
  · have : m = n := by omega
    subst this
    exact ⟨_, rfl, ho, hk⟩

theorem rest_get {n : Nat} {l sn : List Int} (hs : ∀ k, k < n → sn.getD k 0 = if (k : Int) ∈ l then 1 else 0) {k : Nat} (hk : k < sn.length) (hn : k < n) : sn[k] = 0 ↔ (k : Int) ∉ l := by
  have := hs k hn
  rw [List.getD_eq_getElem?_getD, List.getElem?_eq_getElem hk] at this
  simp only [Option.getD_some] at this
  rw [this]
  by_cases h : (k : Int) ∈ l <;> simp [h]

/-- couple's own: all places, those that are meant first; or that something is wrong -/
theorem all_c {h : Hp} {s : Sl} {l : List Int} (r : RdS iv h s l) (n : Nat) (hl : l.length ≤ 1000000) (hn : n ≤ 1000000) :
    callK prog 25 [vs s, iv n] h fun v h' => ∃ s', v = .tuple #[vs s', .bool (okb n l)] ∧ (okb n l = true → OwnS iv h h' s' (full n l)) ∧ Keep h h' := by
  refine c25 s n ?_
  have la := r.len
  refine ⟨by omega, Int.le_refl _, by omega, by omega, fun b hb => ?_⟩
  have e1 : ((n : Int).toNat * 1) = n := by simp
  rw [e1]
  have k1 : Keep h (upd h b (.cells (zRow (if n = 0 then #[] else (Value.int .i64 0).cells) n) 3)) := (Keep.refl h).upd hb _
  have z1 : OwnS iv h (upd h b (.cells (zRow (if n = 0 then #[] else (Value.int .i64 0).cells) n) 3)) ⟨some ⟨b, 0⟩, n, n, none⟩ (List.replicate n 0) := OwnS.zeros (f := iv) (v := .int .i64 0) hb 0 rfl n n n rfl rfl
  refine ⟨fun s1 n1 s2 s3 n2 n3 h2 k => s1 = s ∧ n1 = n ∧ s3 = s ∧ n2 = s.len ∧ ∃ m : Nat, n3 = m ∧ m ≤ l.length ∧ okb n (l.take m) = true ∧ (∃ sn, sn.length = n ∧ (∀ k, k < n → sn.getD k 0 = if (k : Int) ∈ l.take m then 1 else 0) ∧ OwnS iv h h2 s2 sn) ∧ Keep h h2 ∧ k = l.length - m,
    ⟨_, rfl, rfl, rfl, rfl, 0, rfl, Nat.zero_le _, by simp [okb], ⟨_, List.length_replicate, fun k hk => by simp [List.getD_eq_getElem?_getD, hk], z1⟩, k1, rfl⟩, ?_⟩
  rintro s1 n1 s2 s3 n2 n3 h2 k ⟨rfl, rfl, rfl, rfl, m, rfl, hm, hok, ⟨sn, hsn, hs, ho⟩, hk, rfl⟩
  have r2 := r.keep hk
  refine ifD (fun hlt => ?_) (fun hge => ?_)
  · have h1m : m < l.length := by omega
    have bad : okb n l = false → ∃ s', (.tuple #[vs ⟨none, 0, 0, none⟩, .bool false] : Value) = .tuple #[vs s', .bool (okb n l)] ∧ (okb n l = true → OwnS iv h h2 s' (full n l)) ∧ Keep h h2 :=
      fun hb => ⟨⟨none, 0, 0, none⟩, by rw [hb], (fun hh => absurd (hb.symm.trans hh) (by decide)), hk⟩
    refine r2.ix h1m fun p _ hc => ⟨_, hc, ifD (fun e => bad (okb_bad h1m (.inl e))) fun e => ifD (fun e2 => bad (okb_bad h1m (.inr (.inl e2)))) fun e2 => ?_⟩
    have hx : (l[m]).toNat < sn.length := by omega
    have hcast : ((l[m]).toNat : Int) = l[m] := by omega
    have hsx := hs (l[m]).toNat (by omega)
    rw [hcast, List.getD_eq_getElem?_getD, List.getElem?_eq_getElem hx] at hsx
    simp only [Option.getD_some] at hsx
    refine ho.rd.ixI (by omega) hx fun p2 _ hc2 => ⟨_, hc2, ifD (fun e3 => ?_) fun e3 => ho.rd.ixI (by omega) hx fun p3 hp3 _ => ?_⟩
    · have hmem : l[m] ∈ l.take m := by
        by_cases hh : l[m] ∈ l.take m
        · exact hh
        · rw [if_neg hh] at hsx; omega
      exact bad (okb_bad h1m (.inr (.inr hmem)))
    · have hmem : l[m] ∉ l.take m := fun hh => by rw [if_pos hh] at hsx; omega
      refine ho.store hp3 hx 1 fun ob o' => ⟨_, ?_, rfl, rfl, rfl, rfl, m + 1, by rw [wrap64_id (by omega) (by omega)]; rfl, by omega, okb_take h1m hok (by omega) (by omega) hmem, ⟨_, by simp [hsn], fun k hkn => ?_, o'⟩, hk.upd (ho.blk hp3).1 _, rfl⟩
      · omega
      · rw [List.getD_eq_getElem?_getD, List.getElem?_set]
        by_cases ek : (l[m]).toNat = k
        · subst ek
          rw [if_pos rfl, if_pos hx, hcast, if_pos ((take_mem h1m _).2 (.inr rfl))]; rfl
        · rw [if_neg ek, ← List.getD_eq_getElem?_getD, hs k hkn]
          have hiff : (k : Int) ∈ l.take (m + 1) ↔ (k : Int) ∈ l.take m := by
            rw [take_mem h1m]
            exact ⟨fun hh => hh.elim id fun hh => absurd (by omega) ek, .inl⟩
          by_cases hh : (k : Int) ∈ l.take m
          · rw [if_pos hh, if_pos (hiff.2 hh)]
          · rw [if_neg hh, if_neg (fun x => hh (hiff.1 x))]
  · rw [List.take_of_length_le (by omega)] at hok hs
    refine (clone_i r2 (by omega)).mono ?_
    rintro _ h4 ⟨s4, rfl, o4, k4⟩
    have ln := ho.len
    refine ⟨_, rfl, fun s5 s6 n6 n7 h5 k => s6 = s2 ∧ n6 = s2.len ∧ ∃ j : Nat, n7 = j ∧ j ≤ n ∧ OwnS iv h2 h5 s5 (l ++ rest j l) ∧ Keep h2 h5 ∧ k = n - j, ⟨_, rfl, rfl, 0, rfl, Nat.zero_le _, by rw [rest_zero, List.append_nil]; exact o4, k4, rfl⟩, ?_⟩
    rintro s5 s6 n6 n7 h5 k ⟨rfl, rfl, j, rfl, hj, o5, k5, rfl⟩
    have r5 := ho.rd.keep k5
    refine ifD (fun hlt2 => ?_) (fun hge2 => ?_)
    · have hjn : j < sn.length := by omega
      have hrl := rest_length j l
      refine r5.ix hjn fun p _ hc => ⟨_, hc, ifD (fun e => ?_) fun e => ?_⟩
      · have hni := (rest_get hs hjn (by omega)).1 e
        refine OwnS.push rtIc iv1 o5 (j : Int) (fun x hx => k5.free hx) (by simp; omega) (by decide) ?_
        intro s' h' o' hoff _
        refine ⟨_, ?_, rfl, rfl, j + 1, by rw [wrap64_id (by omega) (by omega)]; rfl, by omega, ?_, ?_, rfl⟩
        · omega
        · rw [rest_succ, if_neg hni, ← List.append_assoc]; exact o'
        · exact k5.offOwn (D := fun y => ∃ p, s5.q = some p ∧ y = p.b) (fun y hy hne => hoff y hy fun p hp e => hne ⟨p, hp, e⟩) (by rintro y ⟨p, hp, rfl⟩; exact (o5.blk hp).1)
      · have hni : (j : Int) ∈ l := by
          by_cases hh : (j : Int) ∈ l
          · exact hh
          · exact absurd ((rest_get hs hjn (by omega)).2 hh) e
        refine ⟨_, ?_, rfl, rfl, j + 1, by rw [wrap64_id (by omega) (by omega)]; rfl, by omega, ?_, k5, rfl⟩
        · omega
        · rw [rest_succ, if_pos hni, List.append_nil]; exact o5
    · have : j = n := by omega
      subst this
      exact ⟨_, by rw [hok], fun _ => o5.baseK hk, hk.trans k5⟩

/-- what a turning is asked for -/
def okT (n : Nat) (f t : List Int) : Bool := decide (f.length = t.length) && okb n f && okb n t

theorem getD_get {l : List Int} {i : Nat} (h : i < l.length) : l.getD i 0 = l[i] := by
  rw [List.getD_eq_getElem?_getD, List.getElem?_eq_getElem h]; rfl
theorem getD_getU {l : List UInt64} {i : Nat} (h : i < l.length) : l.getD i 0 = l[i] := by
  rw [List.getD_eq_getElem?_getD, List.getElem?_eq_getElem h]; rfl

def TurnR (h : Hp) (w : List UInt64) (f t : List Int) (v : Value) (h' : Hp) : Prop :=
  Keep h h' ∧ ∃ s', v = .tuple #[vs s', .int .i64 (if okT w.length f t = true then 0 else 1)] ∧ OwnS vu h h' s' (if okT w.length f t = true then turn w f t else [])

theorem turnR_no {h h' : Hp} {w : List UInt64} {f t : List Int} (k : Keep h h') (e : okT w.length f t = false) : TurnR h w f t (.tuple #[vs ⟨none, 0, 0, none⟩, .int .i64 1]) h' := by
  refine ⟨k, ⟨none, 0, 0, none⟩, ?_⟩
  rw [if_neg (by rw [e]; decide), if_neg (by rw [e]; decide)]
  exact ⟨rfl, OwnS.nilS _ _ _⟩

/-- couple.Turn -/
theorem turn_c {h : Hp} {sw sf st : Sl} {w : List UInt64} {f t : List Int} (rw_ : RdS vu h sw w) (rf : RdS iv h sf f) (rt : RdS iv h st t) (hw : w.length ≤ 1000000) (hf : f.length ≤ 1000000) (ht : t.length ≤ 1000000) :
    callK prog 20 [vs sw, vs sf, vs st] h (TurnR h w f t) := by
  refine c20 sw sf st ?_
  have lw := rw_.len
  have hlen : (sw.len : Int) = (w.length : Nat) := by omega
  unfold G20
  rw [hlen]
  refine (all_c rf w.length hf hw).mono ?_
  rintro _ h1 ⟨s1, rfl, o1, k1⟩
  refine ⟨_, _, rfl, (all_c (rt.keep k1) w.length ht hw).mono ?_⟩
  rintro _ h2 ⟨s2, rfl, o2, k2⟩
  have k12 := k1.trans k2
  have lf := rf.len; have lt := rt.len
  refine ⟨_, _, rfl, ifN (fun e => turnR_no k12 ?_) fun e => ifB_intro (fun e1 => turnR_no k12 ?_) fun e1 => ifB_intro (fun e2 => turnR_no k12 ?_) fun e2 => ?_⟩
  · simp [okT]; intro hh; omega
  · simp at e1; simp [okT, e1]
  · simp at e2; simp [okT, e2]
  simp only [Bool.not_eq_false'] at e1 e2
  have hok : okT w.length f t = true := by simp [okT, e1, e2]; omega
  have o1 := o1 e1; have o2 := o2 e2
  refine ⟨by omega, Int.le_refl _, by omega, by omega, fun b hb => ?_⟩
  have ew : sw.len * 1 = w.length := by omega
  rw [ew, lw]
  have k3 : Keep h2 (upd h2 b (.cells (zRow (if w.length = 0 then #[] else (Value.int .u64 0).cells) w.length) 30)) := (Keep.refl h2).upd hb _
  have z3 : OwnS vu h2 (upd h2 b (.cells (zRow (if w.length = 0 then #[] else (Value.int .u64 0).cells) w.length) 30)) ⟨some ⟨b, 0⟩, w.length, w.length, none⟩ (List.replicate w.length 0) := OwnS.zeros (f := vu) (v := .int .u64 0) hb 0 rfl _ _ _ rfl rfl
  have l1 := o1.len
  rw [full_length e1] at l1
  refine ⟨fun s3 s4 s5 s6 n1 n2 h4 k => s3 = sw ∧ s4 = s2 ∧ s6 = s1 ∧ n1 = s1.len ∧ ∃ m : Nat, n2 = m ∧ m ≤ w.length ∧ OwnS vu h2 h4 s5 (scat w (full w.length f) (full w.length t) m) ∧ Keep h2 h4 ∧ k = w.length - m,
    ⟨_, rfl, rfl, rfl, rfl, 0, rfl, Nat.zero_le _, z3, k3, rfl⟩, ?_⟩
  rintro s3 s4 s5 s6 n1 n2 h4 k ⟨rfl, rfl, rfl, rfl, m, rfl, hm, o5, k5, rfl⟩
  refine ifD (fun hlt => ?_) (fun hge => ?_)
  · have hmw : m < w.length := by omega
    have g1 : m < (full w.length f).length := by rw [full_length e1]; exact hmw
    have g2 : m < (full w.length t).length := by rw [full_length e2]; exact hmw
    have b1 := full_at e1 hmw; have b2 := full_at e2 hmw
    rw [getD_get g1] at b1; rw [getD_get g2] at b2
    refine ((o1.rd.keep k2).keep k5).ix g1 fun p _ hc => ⟨_, hc, (o2.rd.keep k5).ix g2 fun p2 _ hc2 => ⟨_, hc2, (rw_.keep (k12.trans k5)).ixI b1.1 (by omega) fun p3 _ hc3 => ⟨_, hc3, o5.rd.ixI b2.1 (by rw [scat_length]; omega) fun p4 hp4 _ => ?_⟩⟩⟩
    refine o5.store hp4 (by rw [scat_length]; omega) _ fun ob o' => ⟨_, ?_, rfl, rfl, rfl, rfl, m + 1, by rw [wrap64_id (by omega) (by omega)]; rfl, by omega, ?_, k5.upd (o5.blk hp4).1 _, rfl⟩
    · omega
    · simp only [scat, getD_get g1, getD_get g2]
      rw [getD_getU (by omega)]
      exact o'
  · have : m = w.length := by omega
    subst this
    refine ⟨k12.trans k5, s5, ?_⟩
    rw [if_pos hok, if_pos hok]
    exact ⟨rfl, o5.baseK k12⟩

/-- the reference's Turn -/
theorem rturn_c {h : Hp} {sw sf st : Sl} {w : List UInt64} {f t : List Int} (rw_ : RdS vu h sw w) (rf : RdS iv h sf f) (rt : RdS iv h st t) (hw : w.length ≤ 1000000) (hf : f.length ≤ 1000000) (ht : t.length ≤ 1000000) :
    callK prog 21 [vs sw, vs sf, vs st] h (TurnR h w f t) := by
  refine c21 sw sf st ?_
  have lw := rw_.len
  have hlen : (sw.len : Int) = (w.length : Nat) := by omega
  have lf := rf.len; have lt := rt.len
  unfold G21
  rw [hlen]
  refine ifN (fun e => turnR_no (Keep.refl h) ?_) fun e => (twice_c rf w.length hf).mono ?_
  · simp [okT]; intro hh; omega
  rintro _ h1 ⟨rfl, rfl⟩
  refine ⟨_, rfl, ifB_intro (fun e1 => turnR_no (Keep.refl h1) ?_) fun e1 => (twice_c rt w.length ht).mono ?_⟩
  · simp at e1; simp [okT, e1]
  rintro _ h1 ⟨rfl, rfl⟩
  refine ⟨_, rfl, ifB_intro (fun e2 => turnR_no (Keep.refl h1) ?_) fun e2 => ?_⟩
  · simp at e2; simp [okT, e2]
  simp only [Bool.not_eq_false'] at e1 e2
  have hok : okT w.length f t = true := by simp [okT, e1, e2]; omega
  have r1 := rest_length w.length f; have r2 := rest_length w.length t
  refine OwnS.copy rtIc iv1 rf (by omega) (by decide) fun s1 h4 o1 k4 => ?_
  refine (rest_c (rf.keep k4) w.length hf hw).mono ?_
  rintro _ h5 ⟨s2, rfl, o2, k5⟩
  refine ⟨_, rfl, OwnS.app rtIc iv1 (o1.keep k5) o2.rd (fun x hx => (k4.trans k5).free hx) (by omega) (by decide) ?_⟩
  intro s3 h6 o3 f6 _ fr6
  have k6 : Keep h1 h6 := (k4.trans k5).offOwn (D := fun y => ∃ p, s1.q = some p ∧ y = p.b) (fun y hy hne => f6 y hy fun p hp e => hne ⟨p, hp, e⟩) (by rintro y ⟨p, hp, rfl⟩; exact (o1.blk hp).1)
  refine OwnS.copy rtIc iv1 (rt.keep k6) (by omega) (by decide) fun s4 h8 o4 k8 => ?_
  refine (rest_c ((rt.keep k6).keep k8) w.length ht hw).mono ?_
  rintro _ h9 ⟨s5, rfl, o5, k9⟩
  refine ⟨_, rfl, OwnS.app rtIc iv1 (o4.keep k9) o5.rd (fun x hx => (k8.trans k9).free hx) (by omega) (by decide) ?_⟩
  intro s6 h10 o6 f10 _ fr10
  have k10 : Keep h6 h10 := (k8.trans k9).offOwn (D := fun y => ∃ p, s4.q = some p ∧ y = p.b) (fun y hy hne => f10 y hy fun p hp e => hne ⟨p, hp, e⟩) (by rintro y ⟨p, hp, rfl⟩; exact (o4.blk hp).1)
  have o3 : OwnS iv h1 h10 s3 (full w.length f) := o3.keep k10
  have o6 : OwnS iv h6 h10 s6 (full w.length t) := o6
  have k110 := k6.trans k10
  refine ⟨by omega, Int.le_refl _, by omega, by omega, fun b hb => ?_⟩
  have ew : sw.len * 1 = w.length := by omega
  rw [ew, lw]
  have k3 : Keep h10 (upd h10 b (.cells (zRow (if w.length = 0 then #[] else (Value.int .u64 0).cells) w.length) 30)) := (Keep.refl h10).upd hb _
  have z3 : OwnS vu h10 (upd h10 b (.cells (zRow (if w.length = 0 then #[] else (Value.int .u64 0).cells) w.length) 30)) ⟨some ⟨b, 0⟩, w.length, w.length, none⟩ (List.replicate w.length 0) := OwnS.zeros (f := vu) (v := .int .u64 0) hb 0 rfl _ _ _ rfl rfl
  refine ⟨fun s7 n1 s8 s9 s10 n2 h12 k => s7 = sw ∧ n1 = w.length ∧ s8 = s3 ∧ s9 = s6 ∧ ∃ m : Nat, n2 = m ∧ m ≤ w.length ∧ OwnS vu h10 h12 s10 (scat w (full w.length f) (full w.length t) m) ∧ Keep h10 h12 ∧ k = w.length - m,
    ⟨_, rfl, rfl, rfl, rfl, 0, rfl, Nat.zero_le _, z3, k3, rfl⟩, ?_⟩
  rintro s7 n1 s8 s9 s10 n2 h12 k ⟨rfl, rfl, rfl, rfl, m, rfl, hm, o12, k12, rfl⟩
  refine ifD (fun hlt => ?_) (fun hge => ?_)
  · have hmw : m < w.length := by omega
    have g1 : m < (full w.length f).length := by rw [full_length e1]; exact hmw
    have g2 : m < (full w.length t).length := by rw [full_length e2]; exact hmw
    have b1 := full_at e1 hmw; have b2 := full_at e2 hmw
    rw [getD_get g1] at b1; rw [getD_get g2] at b2
    refine (o6.rd.keep k12).ix g2 fun p _ hc => ⟨_, hc, (o3.rd.keep k12).ix g1 fun p2 _ hc2 => ⟨_, hc2, (rw_.keep (k110.trans k12)).ixI b1.1 (by omega) fun p3 _ hc3 => ⟨_, hc3, o12.rd.ixI b2.1 (by rw [scat_length]; omega) fun p4 hp4 _ => ?_⟩⟩⟩
    refine o12.store hp4 (by rw [scat_length]; omega) _ fun ob o' => ⟨_, ?_, rfl, rfl, rfl, rfl, m + 1, by rw [wrap64_id (by omega) (by omega)]; rfl, by omega, ?_, k12.upd (o12.blk hp4).1 _, rfl⟩
    · omega
    · simp only [scat, getD_get g1, getD_get g2]
      rw [getD_getU (by omega)]
      exact o'
  · have : m = w.length := by omega
    subst this
    refine ⟨k110.trans k12, s10, ?_⟩
    rw [if_pos hok, if_pos hok]
    exact ⟨rfl, o12.baseK k110⟩

end Go.Proofs.Try

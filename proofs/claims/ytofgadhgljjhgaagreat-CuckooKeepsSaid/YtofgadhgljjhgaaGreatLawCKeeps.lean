/- CuckooKeeps. -/
import Derived.Test.YtofgadhgljjhgaaGreatRdK
import Derived.Test.YtofgadhgljjhgaaGreatCukS
namespace Go.Sh
def keepM (p : Nat → Bool) (c : Nat → UInt64) : UInt64 → Option UInt64 := fun y => if y.toNat < 12 ∧ p y.toNat = true then some (c y.toNat) else none
def upd1 {α : Type} (f : Nat → α) (k : Nat) (v : α) : Nat → α := fun j => if j = k then v else f j
theorem keepM_at {p : Nat → Bool} {c : Nat → UInt64} {y : UInt64} (h : y.toNat < 12) : keepM p c y = if p y.toNat then some (c y.toNat) else none := by
 unfold keepM
 by_cases e : p y.toNat = true
 · rw [if_pos ⟨h, e⟩, if_pos e]
 · rw [if_neg fun x => e x.2, if_neg e]
theorem keepM_put {p : Nat → Bool} {c : Nat → UInt64} {y v : UInt64} (h : y.toNat < 12) : keepM (upd1 p y.toNat true) (upd1 c y.toNat v) = fun z => if z = y then some v else keepM p c z := by
 funext z
 by_cases e : z = y
 · subst e; rw [if_pos rfl, keepM_at h]; simp [upd1]
 · have : z.toNat ≠ y.toNat := fun h => e (UInt64.toNat_inj.1 h)
   rw [if_neg e]; unfold keepM; simp [upd1, this]
theorem keepM_not {p : Nat → Bool} {c : Nat → UInt64} {y v : UInt64} (h : p y.toNat = false) : keepM (upd1 p y.toNat false) (upd1 c y.toNat v) = keepM p c := by
 funext z
 by_cases e : z = y
 · subst e; unfold keepM; simp [upd1, h]
 · have : z.toNat ≠ y.toNat := fun h => e (UInt64.toNat_inj.1 h)
   unfold keepM; simp [upd1, this]
theorem keepM_drop {p : Nat → Bool} {c : Nat → UInt64} {y : UInt64} : keepM (upd1 p y.toNat false) c = fun z => if z = y then none else keepM p c z := by
 funext z
 by_cases e : z = y
 · subst e; rw [if_pos rfl]; unfold keepM; simp [upd1]
 · have : z.toNat ≠ y.toNat := fun h => e (UInt64.toNat_inj.1 h)
   rw [if_neg e]; unfold keepM; simp [upd1, this]
theorem upd1_same {α : Type} (f : Nat → α) (k : Nat) : upd1 f k (f k) = f := by
 funext j; unfold upd1; split
 · rename_i h; rw [h]
 · rfl
abbrev arr12 (f : Nat → Value) : Array Value := #[f 0, f 1, f 2, f 3, f 4, f 5, f 6, f 7, f 8, f 9, f 10, f 11]
theorem lt12 {k : Nat} (h : k < 12) : k = 0 ∨ k = 1 ∨ k = 2 ∨ k = 3 ∨ k = 4 ∨ k = 5 ∨ k = 6 ∨ k = 7 ∨ k = 8 ∨ k = 9 ∨ k = 10 ∨ k = 11 := by omega
theorem arr12_get (f : Nat → Value) {k : Nat} (h : k < 12) : (arr12 f)[0 + k * 1]? = some (f k) := by
 rcases lt12 h with rfl | rfl | rfl | rfl | rfl | rfl | rfl | rfl | rfl | rfl | rfl | rfl <;> rfl
theorem arr12_set {α : Type} (g : α → Value) (f : Nat → α) {k : Nat} (h : k < 12) (v : α) : hwr (arr12 fun j => g (f j)) (0 + k * 1) [g v] = arr12 fun j => g (upd1 f k v j) := by
 rcases lt12 h with rfl | rfl | rfl | rfl | rfl | rfl | rfl | rfl | rfl | rfl | rfl | rfl <;> rfl
end Go.Sh
namespace Go.Proofs.Tryz
open Go Go.Sh Go.RowKit
set_option maxRecDepth 8000
abbrev bK (B : StB) (x : IxS) (pk pu py : Pt) : Option Obj := some (.cells #[vpn (some ⟨B.m.b, 0⟩), vpn (some ⟨B.sb, 0⟩), vpn (some ⟨x.xb, 0⟩), vpn (some pk), vpn (some pu), vpn (some py)] 32 (0, 0))
abbrev s12 (b : Nat) : Sl := ⟨some ⟨b, 0⟩, 12, 12, none⟩
abbrev sK (s : Spt) : Option Obj := some (.cells #[.int .i64 s.1, vu s.2.1, vu s.2.2] 40 (0, 0))
theorem ig_sgK {G : SP} {X : XP} {S : SSt} {M : UInt64 → Option UInt64} (g : IGood G X S M) : ∃ F, SG G X S F (S.R 0) := by
 by_cases f : Fine G S
 · obtain ⟨A, l, _⟩ := g f
   exact ⟨EA A, fun _ => ⟨⟨A, l, fun _ _ => rfl⟩, rfl⟩⟩
 · exact ⟨fun _ => none, fun h => absurd h f⟩
theorem law_ckeeps {h : Hp} {n : Int} (n1 : -9223372036854775808 ≤ n) (n2 : n ≤ 9223372036854775807) {sw : Sl} {ws : List UInt64} (rw_ : RdS vu h sw ws) (hlw : ws.length * 8 ≤ 140737488355328) {sl : Sl} {l : List StepC} (rl : RdM stepc h sl l) (_ : l.length * 32 ≤ 140737488355328) :
   callK prog 3 [.int .i64 n, vs sw, vs sl] h fun v h' => v = .bool true ∧ Keep h h' := by
 refine c3 _ _ _ ?_
 unfold G3
 refine law_shown.to fun h1 k1 => ⟨_, rfl, ifB_neg rfl (ifB_intro (fun _ => ⟨rfl, k1⟩) fun hl16 => ifB_intro (fun _ => ⟨rfl, k1⟩) fun _ => ?_)⟩
 have hlen : l.length ≤ 16 := by
   have : ¬ (16 : Int) < (sl.len : Int) := of_decide_eq_false hl16
   have := rl.len; omega
 refine (law_made n1 n2 (rw_.keep k1) hlw).mono ?_
 rintro _ h2 ⟨B, x, pk, pu, py, rfl, F, R, fB, k2⟩
 refine ⟨some _, some _, some _, some _, some _, some _, _, rfl, newC fun b1 h3 f3 e3 k3 => ?_⟩
 have f10 : h1 b1 = none := k2.free f3
 refine stW (k2.trans k3) f10 e3 rfl fun h4 k4 e4 o4 => ifB_neg rfl ?_
 have R4 := R.loc F f3 k3 o4
 have nb1 : ¬ SFo (cG n) B nilS nilS b1 := R.r.out F.c.o f3
 have fB1 : ∀ y, SFo (cG n) B nilS nilS y → h1 y = none := fun y hy => fB y (.inl hy)
 have ig0 : IGood (cG n) (xP n x) S00 (fun _ => none) := IGood.zero F.c fun _ _ => rfl
 have hK : (xP n x).K ≤ 16 := F.K
 have hsl := rl.len
 generalize cG n = G at *
 generalize xP n x = X at *
 refine ⟨.mk 12, .mk 0, .mk 281474976710644, .mk 9223372036854775795, newC fun b2 h5 f5 e5 k5 => ⟨.mk 12, .mk 0, .mk 281474976710560, .mk 9223372036854775795, newC fun b3 h6 f6 e6 k6 => ?_⟩⟩
 have z1 : zRow (if (12 : Nat) = 0 then #[] else #[Value.bool false]) 12 = arr12 fun _ => .bool false := by rw [zRow_one 12 12 rfl]; rfl
 have z2 : zRow (if (12 : Nat) = 0 then #[] else #[vu 0]) 12 = arr12 fun _ => vu 0 := by rw [zRow_one 12 12 rfl]; rfl
 have e25 : h5 b2 = some (.cells (arr12 fun j => .bool ((fun _ => false : Nat → Bool) j)) 4 (0, 0)) := by rw [← z1]; exact e5
 have e36 : h6 b3 = some (.cells (arr12 fun j => vu ((fun _ => 0 : Nat → UInt64) j)) 36 (0, 0)) := by rw [← z2]; exact e6
 have x02 : x.xb ≠ b2 := fun e => by rw [← e, R4.ix] at f5; cases f5
 have x03 : x.xb ≠ b3 := fun e => by rw [← e, (R4.keep F k5).ix] at f6; cases f6
 have R6 := (R4.keep F k5).keep F k6
 have f20 : h1 b2 = none := k4.free f5
 have f30 : h1 b3 = none := (k4.trans k5).free f6
 have nb2 : ¬ SFo G B nilS nilS b2 := R4.r.out F.c.o f5
 have nb3 : ¬ SFo G B nilS nilS b3 := (R4.keep F k5).r.out F.c.o f6
 have d12 : b1 ≠ b2 := fun e => by rw [← e, e4] at f5; cases f5
 have d13 : b1 ≠ b3 := fun e => by rw [← e, k5.get e4] at f6; cases f6
 have d23 : b2 ≠ b3 := fun e => by rw [← e, e5] at f6; cases f6
 let In : Nat → SSt → (Nat → Bool) → (Nat → UInt64) → Nat → Hp → Prop := fun a S p c z g => ∃ (e : Nat) (ev : List Ev) (es gs : Sl), a ≤ z ∧ e ≤ z ∧ IRun G ws B X x a e S ev es gs g ∧ ¬ SFo G B es gs b1 ∧ ¬ SFo G B es gs b2 ∧ ¬ SFo G B es gs b3 ∧ g b1 = bK B x pk pu py ∧ g b2 = some (.cells (arr12 fun j => .bool (p j)) 4 (0, 0)) ∧ g b3 = some (.cells (arr12 fun j => vu (c j)) 36 (0, 0)) ∧ Keep h1 g ∧ (∀ y, SFo G B es gs y → h1 y = none) ∧ x.xb ≠ b2 ∧ x.xb ≠ b3
 have i0 : In 0 S00 (fun _ => false) (fun _ => 0) 0 h6 := ⟨0, [], nilS, nilS, by omega, by omega, R6, nb1, nb2, nb3, k6.get (k5.get e4), k6.get e25, e36, k4.trans (k5.trans k6), fB1, x02, x03⟩
 have wr2 : ∀ {a S p c z g} {k : Nat} {v : Bool} {K : Hp → Prop}, In a S p c z g → k < 12 → (∀ g', In a S (upd1 p k v) c z g' → (∀ y, y ≠ b2 → g' y = g y) → K g') → storeK g ⟨b2, 0 + k * 1⟩ [.bool v] K := fun {a S p c z g k v K} hI hk hK => by
   obtain ⟨e, ev, es, gs, ha, he, Rg, m1, m2, m3, c1, c2, c3, kg, Fg, x2, x3⟩ := hI
   refine stN kg f20 c2 (by show 0 + k * 1 + 1 ≤ 12; omega) fun g' k' c2' o' => hK g' ⟨e, ev, es, gs, ha, he, Rg.same fun y hy => o' y fun e => hy.elim (fun hy => m2 (e ▸ hy)) fun hy => x2 (hy.symm.trans e), m1, m2, m3, (o' b1 d12).trans c1, ?_, (o' b3 d23.symm).trans c3, k', Fg, x2, x3⟩ o'
   rw [c2', arr12_set Value.bool p hk v]
 have wr3 : ∀ {a S p c z g} {k : Nat} {v : UInt64} {K : Hp → Prop}, In a S p c z g → k < 12 → (∀ g', In a S p (upd1 c k v) z g' → (∀ y, y ≠ b3 → g' y = g y) → K g') → storeK g ⟨b3, 0 + k * 1⟩ [vu v] K := fun {a S p c z g k v K} hI hk hK => by
   obtain ⟨e, ev, es, gs, ha, he, Rg, m1, m2, m3, c1, c2, c3, kg, Fg, x2, x3⟩ := hI
   refine stN kg f30 c3 (by show 0 + k * 1 + 1 ≤ 12; omega) fun g' k' c3' o' => hK g' ⟨e, ev, es, gs, ha, he, Rg.same fun y hy => o' y fun e => hy.elim (fun hy => m3 (e ▸ hy)) fun hy => x3 (hy.symm.trans e), m1, m2, m3, (o' b1 d13).trans c1, (o' b2 d23).trans c2, ?_, k', Fg, x2, x3⟩ o'
   rw [c3', arr12_set vu c hk v]
 have mv : ∀ {a S p c z g a2 S2 z2 e e2 ev ev2 es es2 gs gs2 g2}, z ≤ z2 → a2 ≤ z2 → e2 ≤ z2 → ¬ SFo G B es gs b1 → ¬ SFo G B es gs b2 → ¬ SFo G B es gs b3 → g b1 = bK B x pk pu py → g b2 = some (.cells (arr12 fun j => .bool (p j)) 4 (0, 0)) → g b3 = some (.cells (arr12 fun j => vu (c j)) 36 (0, 0)) → Keep h1 g → (∀ y, SFo G B es gs y → h1 y = none) → x.xb ≠ b2 → x.xb ≠ b3 → IRun G ws B X x a e S ev es gs g → IRun G ws B X x a2 e2 S2 ev2 es2 gs2 g2 → Mv (SFo G B es gs) g (SFo G B es2 gs2) g2 → In a2 S2 p c z2 g2 := fun {a S p c z g a2 S2 z2 e e2 ev ev2 es es2 gs gs2 g2} hz h1' h2' m1 m2 m3 c1 c2 c3 kg Fg x2 x3 _ R2 v => by
   obtain ⟨K2, F2⟩ := v.keep kg Fg
   exact ⟨e2, ev2, es2, gs2, h1', h2', R2, v.out (by rw [c1]; simp) m1, v.out (by rw [c2]; simp) m2, v.out (by rw [c3]; simp) m3, v.get c1 m1, v.get c2 m2, v.get c3 m3, K2, F2, x2, x3⟩
 have same : ∀ {a S p c z g g'}, In a S p c z g → Keep g g' → In a S p c z g' := fun {a S p c z g g'} ⟨e, ev, es, gs, ha, he, Rg, m1, m2, m3, c1, c2, c3, kg, Fg, x2, x3⟩ k => ⟨e, ev, es, gs, ha, he, Rg.keep F k, m1, m2, m3, k.get c1, k.get c2, k.get c3, kg.trans k, Fg, x2, x3⟩
 have hpi0 : keepM (fun _ => false) (fun _ => 0) = fun _ => none := by funext y; simp [keepM]
 refine ⟨fun s1 q1 s2 s3 m g kk => sl = s1 ∧ (⟨b1, 0⟩ : Pt) = q1 ∧ s12 b2 = s2 ∧ s12 b3 = s3 ∧ ∃ (i a : Nat) (S : SSt) (p : Nat → Bool) (c : Nat → UInt64), m = i ∧ i ≤ l.length ∧ kk = l.length - i ∧ In a S p c (100 * i) g ∧ IGood G X S (keepM p c),
   ⟨l.length, rfl, rfl, rfl, rfl, 0, 0, _, _, _, rfl, by omega, rfl, i0, by rw [hpi0]; exact ig0⟩, ?_⟩
 rintro s1 q1 s2 s3 m g kk ⟨rfl, rfl, rfl, rfl, i, a, S, p, c, rfl, hi, rfl, hI, ig⟩
 have fine : ∀ {S : SSt}, ¬ (List.range G.L).any S.over = true → Fine G S := fun {S} hno z hz => by
   have h9 : (List.range G.L).any S.over = false := Bool.eq_false_iff.2 hno
   have := List.any_eq_false.1 h9 z (List.mem_range.2 hz)
   simpa using this
 have fact : ∀ {p : Nat → Bool} {c : Nat → UInt64} {key : UInt64} {s : Spt}, key.toNat < 12 → ((∃ v t at_, keepM p c key = some v ∧ s = (t, at_, v) ∧ 0 ≤ t) ∨ (keepM p c key = none ∧ s = (-1, 0, 0))) → decide (0 ≤ s.1) = p key.toNat ∧ (p key.toNat = true → s.2.2 = c key.toNat) ∧ (p key.toNat = false → s = (-1, 0, 0)) := fun {p c key s} hk hs => by
   rw [keepM_at hk] at hs
   rcases hs with ⟨v, t, at_, h1, rfl, h3⟩ | ⟨h1, rfl⟩
   · split at h1
     · rename_i hp
       cases h1
       exact ⟨by rw [hp]; exact decide_eq_true h3, fun _ => rfl, fun h => (by rw [hp] at h; cases h)⟩
     · cases h1
   · split at h1
     · cases h1
     · rename_i hp
       have hp := Bool.eq_false_iff.2 hp
       exact ⟨by rw [hp]; rfl, fun h => (by rw [hp] at h; cases h), fun _ => rfl⟩
 have b13 : ∀ {k : Nat}, k < 12 → ((k : Nat) : Int) + 1 ≤ ((s12 b3).len : Int) := fun h => by show _ ≤ ((12 : Nat) : Int); omega
 have kp : ∀ {a S p c z g}, In a S p c z g → Keep h1 g := fun {a S p c z g} ⟨_, _, _, _, _, _, _, _, _, _, _, _, _, kg, _⟩ => kg
 have b12 : ∀ {k : Nat}, k < 12 → ((k : Nat) : Int) + 1 ≤ ((s12 b2).len : Int) := fun h => by show _ ≤ ((12 : Nat) : Int); omega
 refine ifD (fun hlt => ?_) fun _ => ?_
 · have hi' : i < l.length := by omega
   refine ⟨fun s q s2 s3 m g => sl = s ∧ (⟨b1, 0⟩ : Pt) = q ∧ s12 b2 = s2 ∧ s12 b3 = s3 ∧ m = (i : Int) ∧ ∃ (a : Nat) (S : SSt) (p : Nat → Bool) (c : Nat → UInt64), In a S p c (100 * (i + 1)) g ∧ IGood G X S (keepM p c), ?_, ?_⟩
   rotate_left
   · rintro s q s2 s3 m g ⟨rfl, rfl, rfl, rfl, rfl, a, S, p, c, hI, ig⟩
     exact ⟨l.length - (i + 1), by omega, rfl, rfl, rfl, rfl, i + 1, a, S, p, c, w64_id (by omega) (by omega), by omega, rfl, hI, ig⟩
   obtain ⟨e, ev, es, gs, ha, he, Rg, m1, m2, m3, c1, c2, c3, kg, Fg, x2, x3⟩ := hI
   have rl2 := rl.keep stepc_length (k1.trans kg)
   obtain ⟨q, hq⟩ := rl2.ptr (by omega)
   obtain ⟨_, d1, _, _, _⟩ := flat_at stepc_length (rl2.rd q hq) hi'
   refine ⟨q, hq, by omega, by omega, _, d1, by decide, some ⟨x.xb, 0⟩, rd1 c1 rfl, ?_⟩
   have hk12 : (l[i].key % 12).toNat < 12 := by rw [UInt64.toNat_mod]; exact Nat.mod_lt _ (by decide)
   generalize l[i].key % 12 = key at hk12 ⊢
   have hk1 : key + 1 ≠ 0 := fun e => by
     have := congrArg UInt64.toNat e
     rw [UInt64.toNat_add] at this; simp at this; omega
   refine (cuk_find F Rg (by omega) (by omega) key).mono ?_
   rintro _ g2 ⟨ev2, es2, gs2, rfl, R2, v2⟩
   obtain ⟨ig2, hf2⟩ := ig_find F.c Rg.p (by omega) ig hk1
   obtain ⟨K2, F2⟩ := v2.keep kg Fg
   have c12 := v2.get c1 m1
   have c22 := v2.get c2 m2
   have c32 := v2.get c3 m3
   have m12 := v2.out (by rw [c1]; simp) m1
   have m22 := v2.out (by rw [c2]; simp) m2
   have m32 := v2.out (by rw [c3]; simp) m3
   refine ⟨_, _, _, rfl, newC fun b4 g3 f4 e4 k3 => ?_⟩
   refine stW (K2.trans k3) (K2.free f4) e4 rfl fun g4 k4 e4 o4 => ?_
   have R4 := R2.loc F f4 k3 o4
   have c14 : g4 b1 = _ := (o4 b1 (fun e => by rw [← e, c12] at f4; cases f4)).trans (k3.get c12)
   have c24 : g4 b2 = _ := (o4 b2 (fun e => by rw [← e, c22] at f4; cases f4)).trans (k3.get c22)
   have c34 : g4 b3 = _ := (o4 b3 (fun e => by rw [← e, c32] at f4; cases f4)).trans (k3.get c32)
   have hI4 : In (a + 2) (findS G (fun p => ws.getD p 0) X key S).1 p c (100 * i + 5) g4 := ⟨e + 3, ev2, es2, gs2, by omega, by omega, R4, m12, m22, m32, c14, c24, c34, k4, F2, x2, x3⟩
   refine ⟨some ⟨B.sb, 0⟩, rd1 c14 rfl, (store_over F.c.o R4.r).mono ?_⟩
   rintro _ g5 ⟨rfl, rfl⟩
   refine ⟨_, rfl, ifB_intro (fun _ => ⟨rfl, k1.trans k4⟩) fun hno => ?_⟩
   have hno : ¬ (List.range G.L).any (findS G (fun p => ws.getD p 0) X key S).1.over = true := fun h => by rw [h] at hno; cases hno
   obtain ⟨t1, t2, t3⟩ := fact hk12 (hf2 (fine hno))
   have igr := fun on => ig_rem F.c Rg.p (by omega) ig hk1 on
   have pS := Rg.p
   clear hno hf2 v2 R2 R4 K2 F2 c12 c22 c32 m12 m22 m32 ig
   have mono : ∀ {a S p c z z2 g}, In a S p c z g → z ≤ z2 → In a S p c z2 g := fun {a S p c z z2 g} ⟨e, ev, es, gs, ha, he, r⟩ hz => ⟨e, ev, es, gs, by omega, by omega, r⟩
   refine ⟨fun s q s2 s3 m key' q9 g => sl = s ∧ (⟨b1, 0⟩ : Pt) = q ∧ s12 b2 = s2 ∧ s12 b3 = s3 ∧ m = (i : Int) ∧ key = key' ∧ (⟨b4, 0⟩ : Pt) = q9 ∧ In (a + 2) (findS G (fun p => ws.getD p 0) X key S).1 p c (100 * i + 5) g ∧ g b4 = sK (findS G (fun p => ws.getD p 0) X key S).2, ?_, ?_⟩
   · have done : sl = sl ∧ (⟨b1, 0⟩ : Pt) = ⟨b1, 0⟩ ∧ s12 b2 = s12 b2 ∧ s12 b3 = s12 b3 ∧ (i : Int) = (i : Int) ∧ key = key ∧ (⟨b4, 0⟩ : Pt) = ⟨b4, 0⟩ ∧ In (a + 2) (findS G (fun p => ws.getD p 0) X key S).1 p c (100 * i + 5) g5 ∧ g5 b4 = sK (findS G (fun p => ws.getD p 0) X key S).2 := ⟨rfl, rfl, rfl, rfl, rfl, rfl, rfl, hI4, e4⟩
     refine ⟨_, rd1 e4 rfl, ⟨b2, 0⟩, rfl, by omega, b12 hk12, _, rd1 c24 (arr12_get _ hk12), ifB_neg (by rw [t1]; simp) ⟨⟨b2, 0⟩, rfl, by omega, b12 hk12, _, rd1 c24 (arr12_get _ hk12), ?_⟩⟩
     cases hp : p key.toNat with
     | true =>
       refine ifB_pos rfl ⟨_, rd1 e4 rfl, ⟨b3, 0⟩, rfl, by omega, b13 hk12, _, rd1 c34 (arr12_get _ hk12), ifB_neg (by rw [t2 hp]; simp) ⟨⟨b2, 0⟩, rfl, by omega, b12 hk12, _, rd1 c24 (arr12_get _ hk12), ?_⟩⟩
       rw [hp]; exact ifB_neg rfl done
     | false =>
       refine ifB_neg rfl ⟨⟨b2, 0⟩, rfl, by omega, b12 hk12, _, rd1 c24 (arr12_get _ hk12), ?_⟩
       rw [hp]
       exact ifB_pos rfl ⟨_, rd1 e4 rfl, _, rd1 e4 rfl, _, rd1 e4 rfl, ifB_neg (by rw [t3 hp]; rfl) done⟩
   clear t1 t2 t3 e4 hI4 c14 c24 c34 k4
   rintro s q s2 s3 m key' q9 g ⟨rfl, rfl, rfl, rfl, rfl, rfl, rfl, hI, e4⟩
   generalize hS2 : (findS G (fun p => ws.getD p 0) X key S).1 = S2 at *
   generalize hsp : (findS G (fun p => ws.getD p 0) X key S).2 = sp at *
   have rl4 := rl.keep stepc_length (k1.trans (kp hI))
   obtain ⟨q4, hq4⟩ := rl4.ptr (by omega)
   obtain ⟨d0, _⟩ := flat_at stepc_length (rl4.rd q4 hq4) hi'
   refine ⟨q4, hq4, by omega, by omega, _, d0, (law_pick l[i].lo l[i].hi (n := 7) (by decide)).to fun g6 k6 => ⟨_, rfl, ?_⟩⟩
   have hI6 := same hI k6
   have e46 := k6.get e4
   refine ⟨fun s q s2 s3 m key' q9 o g => sl = s ∧ (⟨b1, 0⟩ : Pt) = q ∧ s12 b2 = s2 ∧ s12 b3 = s3 ∧ m = (i : Int) ∧ key = key' ∧ (⟨b4, 0⟩ : Pt) = q9 ∧ ((pickN l[i].op 7 : Nat) : Int) = o ∧ ((In (a + 2) S2 p c (100 * i + 5) g ∧ g b4 = sK sp) ∨ (¬ 4 < o ∧ ∃ (a : Nat) (S : SSt) (p : Nat → Bool) (c : Nat → UInt64), In a S p c (100 * i + 60) g ∧ IGood G X S (keepM p c))), ?_, ?_⟩
   · have base : sl = sl ∧ (⟨b1, 0⟩ : Pt) = ⟨b1, 0⟩ ∧ s12 b2 = s12 b2 ∧ s12 b3 = s12 b3 ∧ (i : Int) = (i : Int) ∧ key = key ∧ (⟨b4, 0⟩ : Pt) = ⟨b4, 0⟩ ∧ ((pickN l[i].op 7 : Nat) : Int) = ((pickN l[i].op 7 : Nat) : Int) ∧ ((In (a + 2) S2 p c (100 * i + 5) g6 ∧ g6 b4 = sK sp) ∨ (¬ 4 < ((pickN l[i].op 7 : Nat) : Int) ∧ ∃ (a : Nat) (S : SSt) (p : Nat → Bool) (c : Nat → UInt64), In a S p c (100 * i + 60) g6 ∧ IGood G X S (keepM p c))) := ⟨rfl, rfl, rfl, rfl, rfl, rfl, rfl, rfl, .inl ⟨hI6, e46⟩⟩
     refine ifB_intro (fun h2 => ifB_intro (fun h4 => ?_) fun _ => base) fun _ => base
     obtain ⟨e, ev, es, gs, ha, he, Rg, m1, m2, m3, c1, c2, c3, kg, Fg, x2, x3⟩ := hI6
     refine ⟨⟨b2, 0⟩, rfl, by omega, b12 hk12, _, rd1 c2 (arr12_get _ hk12), ifB_intro (fun hnp => ?_) fun _ => base⟩
     have hpf : p key.toNat = false := by
       cases hp : p key.toNat with
       | false => rfl
       | true => rw [hp] at hnp; cases hnp
     have hMn : keepM p c key = none := by rw [keepM_at hk12, hpf]; rfl
     have h4' : ¬ 4 < ((pickN l[i].op 7 : Nat) : Int) := by
       have := of_decide_eq_true (show decide (((pickN l[i].op 7 : Nat) : Int) ≤ 4) = true from h4); omega
     obtain ⟨_, _, d2, d3, _⟩ := flat_at stepc_length ((rl4.keep stepc_length k6).rd q4 hq4) hi'
     refine ⟨some ⟨x.xb, 0⟩, rd1 c1 rfl, q4, hq4, by omega, by omega, _, d2, q4, hq4, by omega, by omega, _, d3, ?_⟩
     refine (cuk_insert F Rg (by omega) (by omega) key l[i].cell l[i].on).mono ?_
     rintro _ g7 ⟨ev7, es7, gs7, rfl, R7, v7⟩
     have hI7 := mv (z2 := 100 * i + 60) (show 100 * i + 5 ≤ _ by omega) (by omega) (by omega) m1 m2 m3 c1 c2 c3 kg Fg x2 x3 Rg R7 v7
     obtain ⟨ig7, _⟩ := ig_ins (key := key) (cell := l[i].cell) (on := l[i].on) F.c Rg.p (by omega) ig2 (fun _ => hMn)
     have hoff : l[i].on = false → (insS G (fun p => ws.getD p 0) X key l[i].cell l[i].on S2).2 = true := fun h => by
       rw [h]; obtain ⟨F0, sg⟩ := ig_sgK ig2; exact (sg_ins F.c Rg.p (by omega) sg key l[i].cell).2.1
     generalize (insS G (fun p => ws.getD p 0) X key l[i].cell l[i].on S2).1 = S7 at hI7 ig7
     generalize (insS G (fun p => ws.getD p 0) X key l[i].cell l[i].on S2).2 = dn at ig7 hoff ⊢
     have rl7 := rl.keep stepc_length (k1.trans (kp hI7))
     obtain ⟨q7, hq7⟩ := rl7.ptr (by omega)
     obtain ⟨_, _, d27, d37, _⟩ := flat_at stepc_length (rl7.rd q7 hq7) hi'
     refine ⟨_, rfl, q7, hq7, by omega, by omega, _, d37, ?_⟩
     cases hon : l[i].on with
     | false =>
       have hd := hoff hon
       subst hd
       rw [hon] at d37 ig7
       refine ifB_pos rfl (ifB_neg rfl ⟨q7, hq7, by omega, by omega, _, d37, ifB_neg rfl ⟨⟨b2, 0⟩, rfl, by omega, b12 hk12, wr2 hI7 hk12 fun g8 hI8 o8 => ?_⟩⟩)
       have rl8 := rl.keep stepc_length (k1.trans (kp hI8))
       obtain ⟨q8, hq8⟩ := rl8.ptr (by omega)
       obtain ⟨_, _, d28, _⟩ := flat_at stepc_length (rl8.rd q8 hq8) hi'
       refine ⟨q8, hq8, by omega, by omega, _, d28, ⟨b3, 0⟩, rfl, by omega, b13 hk12, wr3 hI8 hk12 fun g9 hI9 o9 => ⟨rfl, rfl, rfl, rfl, rfl, rfl, rfl, rfl, .inr ⟨h4', _, _, _, _, hI9, ?_⟩⟩⟩
       rw [keepM_not hpf]; exact ig7
     | true =>
       rw [hon] at d37 ig7
       refine ifB_neg rfl ⟨q7, hq7, by omega, by omega, _, d37, ifB_pos rfl ⟨⟨b2, 0⟩, rfl, by omega, b12 hk12, wr2 hI7 hk12 fun g8 hI8 o8 => ?_⟩⟩
       have rl8 := rl.keep stepc_length (k1.trans (kp hI8))
       obtain ⟨q8, hq8⟩ := rl8.ptr (by omega)
       obtain ⟨_, _, d28, _⟩ := flat_at stepc_length (rl8.rd q8 hq8) hi'
       refine ⟨q8, hq8, by omega, by omega, _, d28, ⟨b3, 0⟩, rfl, by omega, b13 hk12, wr3 hI8 hk12 fun g9 hI9 o9 => ⟨rfl, rfl, rfl, rfl, rfl, rfl, rfl, rfl, .inr ⟨h4', _, _, _, _, hI9, ?_⟩⟩⟩
       cases dn with
       | true => exact (show IGood G X S7 (keepM (upd1 p key.toNat true) (upd1 c key.toNat l[i].cell)) by rw [keepM_put hk12]; exact ig7)
       | false => exact (show IGood G X S7 (keepM (upd1 p key.toNat false) (upd1 c key.toNat l[i].cell)) by rw [keepM_not hpf]; exact ig7)
   · clear hI hI6 e4 e46
     rintro s q s2 s3 m key' q9 o g ⟨rfl, rfl, rfl, rfl, rfl, rfl, rfl, rfl, hJ⟩
     refine ifB_intro (fun h4 => ?_) fun h4 => ?_
     · rcases hJ with ⟨hI, e4⟩ | ⟨hn, _⟩
       · obtain ⟨e, ev, es, gs, ha, he, Rg, m1, m2, m3, c1, c2, c3, kg, Fg, x2, x3⟩ := hI
         have rl6 := rl.keep stepc_length (k1.trans kg)
         obtain ⟨q6, hq6⟩ := rl6.ptr (by omega)
         obtain ⟨_, _, _, d3, _⟩ := flat_at stepc_length (rl6.rd q6 hq6) hi'
         refine ⟨some ⟨x.xb, 0⟩, rd1 c1 rfl, _, rd1 e4 rfl, _, rd1 e4 rfl, _, rd1 e4 rfl, q6, hq6, by omega, by omega, _, d3, ?_⟩
         refine (cuk_remove F Rg (by omega) (by omega) key sp.1 sp.2.1 sp.2.2 l[i].on).mono ?_
         rintro _ g7 ⟨ev7, es7, gs7, rfl, R7, v7⟩
         have hI7 := mv (z2 := 100 * i + 60) (show 100 * i + 5 ≤ _ by omega) (by omega) (by omega) m1 m2 m3 c1 c2 c3 kg Fg x2 x3 Rg R7 v7
         have igx := igr l[i].on
         generalize remS G (fun p => ws.getD p 0) X key sp.1 sp.2.1 l[i].on S2 = S7 at hI7 igx
         have c27 := v7.get c2 m2
         have rl7 := rl.keep stepc_length (k1.trans (kp hI7))
         obtain ⟨q7, hq7⟩ := rl7.ptr (by omega)
         obtain ⟨_, _, _, d37, _⟩ := flat_at stepc_length (rl7.rd q7 hq7) hi'
         refine ⟨rfl, ⟨b2, 0⟩, rfl, by omega, b12 hk12, _, rd1 c27 (arr12_get _ hk12), ?_⟩
         cases hp : p key.toNat with
         | true =>
           refine ifB_pos rfl ⟨q7, hq7, by omega, by omega, _, d37, ⟨b2, 0⟩, rfl, by omega, b12 hk12, wr2 hI7 hk12 fun g8 hI8 _ => ⟨rfl, rfl, rfl, rfl, rfl, _, _, _, _, mono hI8 (by omega), ?_⟩⟩
           cases hon : l[i].on with
           | true => rw [hon] at igx; exact (show IGood G X S7 (keepM (upd1 p key.toNat false) c) by rw [keepM_drop]; exact igx)
           | false =>
             rw [hon] at igx
             have hu : upd1 p key.toNat true = p := by have := upd1_same p key.toNat; rw [hp] at this; exact this
             exact (show IGood G X S7 (keepM (upd1 p key.toNat true) c) by rw [hu]; exact igx)
         | false =>
           refine ifB_neg rfl ⟨⟨b2, 0⟩, rfl, by omega, b12 hk12, wr2 hI7 hk12 fun g8 hI8 _ => ⟨rfl, rfl, rfl, rfl, rfl, _, _, _, _, mono hI8 (by omega), ?_⟩⟩
           cases hon : l[i].on with
           | true => rw [hon] at igx; rw [keepM_drop]; exact igx
           | false =>
             rw [hon] at igx
             have hu : upd1 p key.toNat false = p := by have := upd1_same p key.toNat; rw [hp] at this; exact this
             rw [hu]; exact igx
       · exact absurd (of_decide_eq_true h4) hn
     · rcases hJ with ⟨hI, _⟩ | ⟨_, a, S, p, c, hI, ig⟩
       · exact ⟨rfl, rfl, rfl, rfl, rfl, _, _, _, _, mono hI (by omega), ig2⟩
       · exact ⟨rfl, rfl, rfl, rfl, rfl, _, _, _, _, mono hI (by omega), ig⟩
 · refine ⟨fun q s2 s3 m g kk => (⟨b1, 0⟩ : Pt) = q ∧ s12 b2 = s2 ∧ s12 b3 = s3 ∧ ∃ (j a : Nat) (S : SSt), m = j ∧ j ≤ 12 ∧ kk = 12 - j ∧ In a S p c (100 * i + 20 * j) g ∧ IGood G X S (keepM p c),
     ⟨12, rfl, rfl, rfl, 0, a, S, rfl, by omega, rfl, hI, ig⟩, ?_⟩
   clear hI ig
   rintro q s2 s3 m g kk ⟨rfl, rfl, rfl, j, a, S, rfl, hj, rfl, hI, ig⟩
   refine ifD (fun hlt => ?_) fun _ => ⟨rfl, k1.trans (kp hI)⟩
   have hj' : j < 12 := by omega
   refine ⟨fun q s2 s3 m g => (⟨b1, 0⟩ : Pt) = q ∧ s12 b2 = s2 ∧ s12 b3 = s3 ∧ m = (j : Int) ∧ ∃ (a : Nat) (S : SSt), In a S p c (100 * i + 20 * (j + 1)) g ∧ IGood G X S (keepM p c), ?_, ?_⟩
   rotate_left
   · rintro q s2 s3 m g ⟨rfl, rfl, rfl, rfl, a, S, hI, ig⟩
     exact ⟨12 - (j + 1), by omega, rfl, rfl, rfl, j + 1, a, S, w64_id (by omega) (by omega), by omega, rfl, hI, ig⟩
   obtain ⟨e, ev, es, gs, ha, he, Rg, m1, m2, m3, c1, c2, c3, kg, Fg, x2, x3⟩ := hI
   refine ⟨some ⟨x.xb, 0⟩, rd1 c1 rfl, ?_⟩
   rw [toU_eq (by omega)]
   have tn : (UInt64.ofNat j).toNat = j := by rw [UInt64.toNat_ofNat']; omega
   have hk1 : UInt64.ofNat j + 1 ≠ 0 := fun e => by
     have := congrArg UInt64.toNat e
     rw [UInt64.toNat_add, tn] at this; simp at this; omega
   refine (cuk_find F Rg (by omega) (by omega) (UInt64.ofNat j)).mono ?_
   rintro _ g2 ⟨ev2, es2, gs2, rfl, R2, v2⟩
   obtain ⟨ig2, hf2⟩ := ig_find F.c Rg.p (by omega) ig hk1
   obtain ⟨K2, F2⟩ := v2.keep kg Fg
   have c12 := v2.get c1 m1
   have c22 := v2.get c2 m2
   have c32 := v2.get c3 m3
   have m12 := v2.out (by rw [c1]; simp) m1
   have m22 := v2.out (by rw [c2]; simp) m2
   have m32 := v2.out (by rw [c3]; simp) m3
   refine ⟨_, _, _, rfl, newC fun b4 g3 f4 e4 k3 => ?_⟩
   refine stW (K2.trans k3) (K2.free f4) e4 rfl fun g4 k4 e4 o4 => ?_
   have R4 := R2.loc F f4 k3 o4
   have c14 : g4 b1 = _ := (o4 b1 (fun e => by rw [← e, c12] at f4; cases f4)).trans (k3.get c12)
   have c24 : g4 b2 = _ := (o4 b2 (fun e => by rw [← e, c22] at f4; cases f4)).trans (k3.get c22)
   have c34 : g4 b3 = _ := (o4 b3 (fun e => by rw [← e, c32] at f4; cases f4)).trans (k3.get c32)
   refine ⟨some ⟨B.sb, 0⟩, rd1 c14 rfl, (store_over F.c.o R4.r).mono ?_⟩
   rintro _ g5 ⟨rfl, rfl⟩
   refine ⟨_, rfl, ifB_intro (fun _ => ⟨rfl, k1.trans k4⟩) fun hno => ?_⟩
   have hno : ¬ (List.range G.L).any (findS G (fun p => ws.getD p 0) X (UInt64.ofNat j) S).1.over = true := fun h => by rw [h] at hno; cases hno
   obtain ⟨t1, t2, t3⟩ := fact (by rw [tn]; exact hj') (hf2 (fine hno))
   rw [tn] at t1 t2 t3
   have done : (⟨b1, 0⟩ : Pt) = ⟨b1, 0⟩ ∧ s12 b2 = s12 b2 ∧ s12 b3 = s12 b3 ∧ (j : Int) = (j : Int) ∧ ∃ (a : Nat) (S : SSt), In a S p c (100 * i + 20 * (j + 1)) g5 ∧ IGood G X S (keepM p c) :=
     ⟨rfl, rfl, rfl, rfl, a + 2, _, ⟨e + 3, ev2, es2, gs2, by omega, by omega, R4, m12, m22, m32, c14, c24, c34, k4, F2, x2, x3⟩, ig2⟩
   refine ⟨_, rd1 e4 rfl, ⟨b2, 0⟩, rfl, by omega, b12 hj', _, rd1 c24 (arr12_get _ hj'), ifB_neg (by rw [t1]; simp) ⟨⟨b2, 0⟩, rfl, by omega, b12 hj', _, rd1 c24 (arr12_get _ hj'), ?_⟩⟩
   cases hp : p j with
   | true => exact ifB_pos hp ⟨_, rd1 e4 rfl, ⟨b3, 0⟩, rfl, by omega, b13 hj', _, rd1 c34 (arr12_get _ hj'), ifB_neg (by rw [t2 hp]; simp) done⟩
   | false => exact ifB_neg hp done
end Go.Proofs.Tryz

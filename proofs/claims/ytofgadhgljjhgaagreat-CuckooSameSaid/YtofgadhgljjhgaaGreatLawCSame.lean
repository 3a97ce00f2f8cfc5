/- CuckooSame. -/
import Derived.Test.YtofgadhgljjhgaaGreatRdL
import Derived.Test.YtofgadhgljjhgaaGreatCukS
namespace Go.Sh
def keyM (p : Nat → Bool) (c : Nat → UInt64) : Nat → UInt64 → Option UInt64
 | 0 => fun _ => none
 | i + 1 => if p i then keyM p c i else fun y => if y = UInt64.ofNat i then some (c i) else keyM p c i y
theorem keyM_fresh {p : Nat → Bool} {c : Nat → UInt64} : ∀ {i j : Nat}, i ≤ j → j < 1000 → keyM p c i (UInt64.ofNat j) = none
 | 0, _, _, _ => rfl
 | i + 1, j, h, hj => by
   unfold keyM
   split
   · exact keyM_fresh (by omega) hj
   · show (if UInt64.ofNat j = UInt64.ofNat i then some (c i) else keyM p c i (UInt64.ofNat j)) = none
     rw [if_neg (ofNat_ne hj (by omega) (by omega))]; exact keyM_fresh (by omega) hj
theorem keyM_at {p : Nat → Bool} {c : Nat → UInt64} : ∀ {i j : Nat}, j < i → i ≤ 1000 → keyM p c i (UInt64.ofNat j) = if p j then none else some (c j)
 | i + 1, j, h, hi => by
   by_cases e : j = i
   · subst e
     unfold keyM
     by_cases hp : p j = true
     · rw [if_pos hp, if_pos hp]; exact keyM_fresh (Nat.le_refl _) (by omega)
     · rw [if_neg hp, if_neg hp, if_pos rfl]
   · have ih := keyM_at (p := p) (c := c) (i := i) (j := j) (by omega) (by omega)
     unfold keyM
     split
     · exact ih
     · show (if UInt64.ofNat j = UInt64.ofNat i then some (c i) else keyM p c i (UInt64.ofNat j)) = _
       rw [if_neg (ofNat_ne (by omega) (by omega) e)]; exact ih
end Go.Sh
namespace Go.Proofs.Tryz
open Go Go.Sh Go.RowKit
set_option maxRecDepth 8000
section
variable {G : SP} {ws : List UInt64} {B : StB} {X : XP} {x : IxS} {a e : Nat} {S : SSt} {ev : List Ev} {es gs : Sl} {h : Hp}
theorem IRun.other (R : IRun G ws B X x a e S ev es gs h) (F : IFix G B X x) {D D' : Nat → Prop} {h' : Hp} (v : Mv D h D' h') (d : ∀ y, SFo G B es gs y ∨ y = x.xb → ¬ D y) : IRun G ws B X x a e S ev es gs h' ∧ ∀ y, SFo G B es gs y ∨ y = x.xb → ¬ D' y :=
 ⟨R.same fun y hy => v.2.1 y (R.dom F hy) (d y hy), fun y hy => v.out (R.dom F hy) (d y hy)⟩
end
theorem law_csame {h : Hp} {n k : Int} (n1 : -9223372036854775808 ≤ n) (n2 : n ≤ 9223372036854775807) (m1 : -9223372036854775808 ≤ k) (m2 : k ≤ 9223372036854775807) {sw : Sl} {ws : List UInt64} (rw_ : RdS vu h sw ws) (hlw : ws.length * 8 ≤ 140737488355328) {sw' : Sl} {ws' : List UInt64} (rw_' : RdS vu h sw' ws') (hlw' : ws'.length * 8 ≤ 140737488355328) {sl : Sl} {l : List StepC} (rl : RdM stepc h sl l) (_ : l.length * 32 ≤ 140737488355328) :
   callK prog 4 [.int .i64 n, .int .i64 k, vs sw, vs sw', vs sl] h fun v h' => v = .bool true ∧ Keep h h' := by
 refine c4 _ _ _ _ _ ?_
 unfold G4
 refine law_shown.to fun h1 k1 => ⟨_, rfl, ifB_neg rfl (ifB_intro (fun _ => ⟨rfl, k1⟩) fun hl16 => ifB_intro (fun _ => ⟨rfl, k1⟩) fun _ => ifB_intro (fun _ => ⟨rfl, k1⟩) fun _ => ?_)⟩
 have hlen : l.length ≤ 8 := by
   have : ¬ (8 : Int) < (sl.len : Int) := of_decide_eq_false hl16
   have := rl.len; omega
 refine (law_made n1 n2 (rw_.keep k1) hlw).mono ?_
 rintro _ h2 ⟨B, x, pk, pu, py, rfl, F, R, fB, k2⟩
 refine ⟨some _, some _, some _, some _, some _, some _, _, rfl, newC fun b1 h3 f3 e3 k3 => ?_⟩
 have f10 : h1 b1 = none := k2.free f3
 refine stW (k2.trans k3) f10 e3 rfl fun h4 k4 e4 o4 => ?_
 have R4 := R.loc F f3 k3 o4
 have nb1 : ¬ SFo (cG n) B nilS nilS b1 := R.r.out F.c.o f3
 have fB1 : ∀ y, SFo (cG n) B nilS nilS y → h1 y = none := fun y hy => fB y (.inl hy)
 refine (law_made m1 m2 (rw_'.keep (k1.trans k4)) hlw').mono ?_
 rintro _ h5 ⟨B', x', pk', pu', py', rfl, F', R', fB', k5⟩
 refine ⟨some _, some _, some _, some _, some _, some _, _, rfl, newC fun b2 h6 f6 e6 k6 => ?_⟩
 have K5 := k4.trans k5
 have f20 : h1 b2 = none := K5.free f6
 refine stW (K5.trans k6) f20 e6 rfl fun h7 k7 e7 o7 => ifB_neg rfl (ifB_neg rfl ?_)
 have d12 : b1 ≠ b2 := fun e => by rw [← e, k5.get e4] at f6; cases f6
 have R7 := (R4.keep F k5).loc F f6 k6 o7
 have R7' := R'.loc F' f6 k6 o7
 have nb2 : ¬ SFo (cG n) B nilS nilS b2 := (R4.keep F k5).r.out F.c.o f6
 have nb2' : ¬ SFo (cG k) B' nilS nilS b2 := R'.r.out F'.c.o f6
 have nb1' : ¬ SFo (cG k) B' nilS nilS b1 := fun hf => by have := fB' b1 (.inl hf); rw [e4] at this; cases this
 have e17 : h7 b1 = _ := (o7 b1 d12).trans (k6.get (k5.get e4))
 have fB1' : ∀ y, SFo (cG k) B' nilS nilS y → h1 y = none := fun y hy => k4.free (fB' y (.inl hy))
 have dA : ∀ y, SFo (cG n) B nilS nilS y ∨ y = x.xb → ¬ SFo (cG k) B' nilS nilS y := fun y hy hf => R4.dom F hy (fB' y (.inl hf))
 have dB : ∀ y, SFo (cG k) B' nilS nilS y ∨ y = x'.xb → ¬ SFo (cG n) B nilS nilS y := fun y hy hf => R4.dom F (.inl hf) (fB' y hy)
 have ig0 : IGood (cG n) (xP n x) S00 (fun _ => none) := IGood.zero F.c fun _ _ => rfl
 have ig0' : IGood (cG k) (xP k x') S00 (fun _ => none) := IGood.zero F'.c fun _ _ => rfl
 have hsl := rl.len
 have hK := F.K
 have hK' := F'.K
 generalize cG n = G at *
 generalize xP n x = X at *
 generalize cG k = G' at *
 generalize xP k x' = X' at *
 let d0 : StepC := ⟨0, 0, 0, false, by decide, by decide⟩
 let p : Nat → Bool := fun j => decide (4 < pickN (l.getD j d0).op 7)
 let c : Nat → UInt64 := fun j => (l.getD j d0).cell
 have hp : ∀ j (hj : j < l.length), p j = decide (4 < pickN l[j].op 7) := fun j hj => by simp only [p]; rw [List.getD_eq_getElem?_getD, List.getElem?_eq_getElem hj]; rfl
 have hcc : ∀ j (hj : j < l.length), c j = l[j].cell := fun j hj => by simp only [c]; rw [List.getD_eq_getElem?_getD, List.getElem?_eq_getElem hj]; rfl
 have hkey : ∀ i, i < 1000 → UInt64.ofNat i + 1 ≠ 0 := fun i hi e => by
   have := congrArg UInt64.toNat e
   rw [UInt64.toNat_add, UInt64.toNat_ofNat'] at this; simp at this; omega
 let In : SSt → SSt → Hp → Nat → Prop := fun S S' g z => ∃ (a e a' e' : Nat) (ev ev' : List Ev) (es gs es' gs' : Sl), a ≤ z ∧ e ≤ z ∧ a' ≤ z ∧ e' ≤ z ∧ IRun G ws B X x a e S ev es gs g ∧ IRun G' ws' B' X' x' a' e' S' ev' es' gs' g ∧ (∀ y, SFo G B es gs y ∨ y = x.xb → ¬ SFo G' B' es' gs' y) ∧ (∀ y, SFo G' B' es' gs' y ∨ y = x'.xb → ¬ SFo G B es gs y) ∧ ¬ SFo G B es gs b1 ∧ ¬ SFo G B es gs b2 ∧ ¬ SFo G' B' es' gs' b1 ∧ ¬ SFo G' B' es' gs' b2 ∧
   g b1 = some (.cells #[vpn (some ⟨B.m.b, 0⟩), vpn (some ⟨B.sb, 0⟩), vpn (some ⟨x.xb, 0⟩), vpn (some pk), vpn (some pu), vpn (some py)] 32 (0, 0)) ∧ g b2 = some (.cells #[vpn (some ⟨B'.m.b, 0⟩), vpn (some ⟨B'.sb, 0⟩), vpn (some ⟨x'.xb, 0⟩), vpn (some pk'), vpn (some pu'), vpn (some py')] 32 (0, 0)) ∧ Keep h1 g ∧ (∀ y, SFo G B es gs y → h1 y = none) ∧ (∀ y, SFo G' B' es' gs' y → h1 y = none)
 have i0 : In S00 S00 h7 0 := ⟨0, 0, 0, 0, [], [], nilS, nilS, nilS, nilS, by omega, by omega, by omega, by omega, R7, R7', dA, dB, nb1, nb2, nb1', nb2', e17, e7, k7, fB1, fB1'⟩
 have mvA : ∀ {S S' : SSt} {g : Hp} {z : Nat}, In S S' g z → ∀ {K : Prop}, (∀ (a e : Nat) (ev : List Ev) (es gs : Sl), a ≤ z → e ≤ z → IRun G ws B X x a e S ev es gs g → g b1 = some (.cells #[vpn (some ⟨B.m.b, 0⟩), vpn (some ⟨B.sb, 0⟩), vpn (some ⟨x.xb, 0⟩), vpn (some pk), vpn (some pu), vpn (some py)] 32 (0, 0)) → Keep h1 g →
     (∀ {a2 e2 : Nat} {S2 : SSt} {ev2 : List Ev} {es2 gs2 : Sl} {g2 : Hp} (z2 : Nat), z ≤ z2 → a2 ≤ z2 → e2 ≤ z2 → IRun G ws B X x a2 e2 S2 ev2 es2 gs2 g2 → Mv (SFo G B es gs) g (SFo G B es2 gs2) g2 → In S2 S' g2 z2) → K) → K := fun {S S' g z} hI {K} hk => by
   obtain ⟨a, e, a', e', ev, ev', es, gs, es', gs', ha, he, ha', he', Ra, Rb, da, db, q1, q2, q3, q4, c1, c2, kg, fa, fb⟩ := hI
   refine hk a e ev es gs ha he Ra c1 kg fun {a2 e2 S2 ev2 es2 gs2 g2} z2 hz h1' h2' R2 v => ?_
   obtain ⟨Rb2, db2⟩ := Rb.other F' v db
   obtain ⟨K2, fa2⟩ := v.keep kg fa
   have hx : g2 x.xb ≠ none := by rw [R2.ix]; simp
   refine ⟨a2, e2, a', e', ev2, ev', es2, gs2, es', gs', h1', h2', by omega, by omega, R2, Rb2, fun y hy hf => ?_, db2, v.out (by rw [c1]; simp) q1, v.out (by rw [c2]; simp) q2, q3, q4, v.get c1 q1, v.get c2 q2, K2, fa2, fb⟩
   rcases hy with hy | hy
   · exact db2 y (.inl hf) hy
   · exact da y (.inr hy) hf
 have mvB : ∀ {S S' : SSt} {g : Hp} {z : Nat}, In S S' g z → ∀ {K : Prop}, (∀ (a e : Nat) (ev : List Ev) (es gs : Sl), a ≤ z → e ≤ z → IRun G' ws' B' X' x' a e S' ev es gs g → g b2 = some (.cells #[vpn (some ⟨B'.m.b, 0⟩), vpn (some ⟨B'.sb, 0⟩), vpn (some ⟨x'.xb, 0⟩), vpn (some pk'), vpn (some pu'), vpn (some py')] 32 (0, 0)) → Keep h1 g →
     (∀ {a2 e2 : Nat} {S2 : SSt} {ev2 : List Ev} {es2 gs2 : Sl} {g2 : Hp} (z2 : Nat), z ≤ z2 → a2 ≤ z2 → e2 ≤ z2 → IRun G' ws' B' X' x' a2 e2 S2 ev2 es2 gs2 g2 → Mv (SFo G' B' es gs) g (SFo G' B' es2 gs2) g2 → In S S2 g2 z2) → K) → K := fun {S S' g z} hI {K} hk => by
   obtain ⟨a, e, a', e', ev, ev', es, gs, es', gs', ha, he, ha', he', Ra, Rb, da, db, q1, q2, q3, q4, c1, c2, kg, fa, fb⟩ := hI
   refine hk a' e' ev' es' gs' ha' he' Rb c2 kg fun {a2 e2 S2 ev2 es2 gs2 g2} z2 hz h1' h2' R2 v => ?_
   obtain ⟨Ra2, da2⟩ := Ra.other F v da
   obtain ⟨K2, fb2⟩ := v.keep kg fb
   refine ⟨a, e, a2, e2, ev, ev2, es, gs, es2, gs2, by omega, by omega, h1', h2', Ra2, R2, da2, fun y hy hf => ?_, q1, q2, v.out (by rw [c1]; simp) q3, v.out (by rw [c2]; simp) q4, v.get c1 q3, v.get c2 q4, K2, fa, fb2⟩
   rcases hy with hy | hy
   · exact da2 y (.inl hf) hy
   · exact db y (.inr hy) hf
 have same : ∀ {S S' : SSt} {g g' : Hp} {z : Nat}, In S S' g z → Keep g g' → In S S' g' z := fun {S S' g g' z} hI k => by
   obtain ⟨a, e, a', e', ev, ev', es, gs, es', gs', ha, he, ha', he', Ra, Rb, da, db, q1, q2, q3, q4, c1, c2, kg, fa, fb⟩ := hI
   exact ⟨a, e, a', e', ev, ev', es, gs, es', gs', ha, he, ha', he', Ra.keep F k, Rb.keep F' k, da, db, q1, q2, q3, q4, k.get c1, k.get c2, kg.trans k, fa, fb⟩
 have fineA : ∀ {S : SSt}, (List.range G.L).any S.over = false → Fine G S := fun hno z hz => by
   have := List.any_eq_false.1 hno z (List.mem_range.2 hz)
   simpa using this
 have fineB : ∀ {S : SSt}, (List.range G'.L).any S.over = false → Fine G' S := fun hno z hz => by
   have := List.any_eq_false.1 hno z (List.mem_range.2 hz)
   simpa using this
 have kp : ∀ {S S' : SSt} {g : Hp} {z : Nat}, In S S' g z → Keep h1 g := fun ⟨_, _, _, _, _, _, _, _, _, _, _, _, _, _, _, _, _, _, _, _, _, _, _, _, kg, _⟩ => kg
 have mono : ∀ {S S' : SSt} {g : Hp} {z z2 : Nat}, In S S' g z → z ≤ z2 → In S S' g z2 := fun ⟨a, e, a', e', ev, ev', es, gs, es', gs', ha, he, ha', he', r⟩ hz => ⟨a, e, a', e', ev, ev', es, gs, es', gs', by omega, by omega, by omega, by omega, r⟩
 have hK1 : X.K ≤ 16 := hK
 have hK2 : X'.K ≤ 16 := hK'
 refine ⟨fun s1 q1 q2 n3 g kk => sl = s1 ∧ (⟨b1, 0⟩ : Pt) = q1 ∧ (⟨b2, 0⟩ : Pt) = q2 ∧ ∃ (i : Nat) (S S' : SSt), n3 = i ∧ i ≤ l.length ∧ kk = l.length - i ∧ In S S' g (100 * i) ∧ IGood G X S (keyM p c i) ∧ IGood G' X' S' (keyM p c i),
   ⟨l.length, rfl, rfl, rfl, 0, _, _, rfl, by omega, rfl, i0, ig0, ig0'⟩, ?_⟩
 rintro s1 q1 q2 n3 g kk ⟨rfl, rfl, rfl, i, S, S', rfl, hi, rfl, hI, ig, ig'⟩
 refine ifD (fun hlt => ?_) fun hge => ?_
 · have hi' : i < l.length := by omega
   have hMi : keyM p c i (UInt64.ofNat i) = none := keyM_fresh (Nat.le_refl _) (by omega)
   refine mvA hI fun a e ev es gs ha he Ra c1 kg nx => ?_
   have rl2 := rl.keep stepc_length (k1.trans kg)
   obtain ⟨q, hq⟩ := rl2.ptr (by omega)
   obtain ⟨_, _, cc2, _⟩ := flat_at stepc_length (rl2.rd q hq) hi'
   refine ⟨some ⟨x.xb, 0⟩, rd1 c1 rfl, q, hq, by omega, by omega, _, cc2, ?_⟩
   rw [toU_eq (by omega)]
   refine (cuk_insert F Ra (by omega) (by omega) (UInt64.ofNat i) l[i].cell true).mono ?_
   rintro _ g3 ⟨ev3, es3, gs3, rfl, R3, v3⟩
   have hI3 := nx (100 * i + 36) (by omega) (by omega) (by omega) R3 v3
   obtain ⟨ig3, _⟩ := ig_ins (key := UInt64.ofNat i) (cell := l[i].cell) (on := true) F.c Ra.p (by omega) ig (fun _ => hMi)
   rw [Bool.true_and] at ig3
   clear nx R3 v3 Ra c1
   generalize (insS G (fun p => ws.getD p 0) X (UInt64.ofNat i) l[i].cell true S).1 = S3 at hI3 ig3
   generalize (insS G (fun p => ws.getD p 0) X (UInt64.ofNat i) l[i].cell true S).2 = dn at ig3 ⊢
   refine ⟨_, rfl, mvB hI3 fun a e ev es gs ha he Rb c2 kg nx => ?_⟩
   have rl3 := rl.keep stepc_length (k1.trans kg)
   obtain ⟨q', hq'⟩ := rl3.ptr (by omega)
   obtain ⟨_, _, cc3, _⟩ := flat_at stepc_length (rl3.rd q' hq') hi'
   refine ⟨some ⟨x'.xb, 0⟩, rd1 c2 rfl, q', hq', by omega, by omega, _, cc3, ?_⟩
   refine (cuk_insert F' Rb (by omega) (by omega) (UInt64.ofNat i) l[i].cell true).mono ?_
   rintro _ g4 ⟨ev4, es4, gs4, rfl, R4', v4⟩
   have hI4 := nx (100 * i + 72) (by omega) (by omega) (by omega) R4' v4
   obtain ⟨ig4, _⟩ := ig_ins (key := UInt64.ofNat i) (cell := l[i].cell) (on := true) F'.c Rb.p (by omega) ig' (fun _ => hMi)
   rw [Bool.true_and] at ig4
   clear nx R4' v4 Rb c2
   generalize (insS G' (fun p => ws'.getD p 0) X' (UInt64.ofNat i) l[i].cell true S').1 = S4 at hI4 ig4
   generalize (insS G' (fun p => ws'.getD p 0) X' (UInt64.ofNat i) l[i].cell true S').2 = dn' at ig4 ⊢
   refine ⟨_, rfl, mvA hI4 fun a e ev es gs ha he Ra c1 kg nx => ?_⟩
   refine ⟨some ⟨B.sb, 0⟩, rd1 c1 rfl, (store_over F.c.o Ra.r).mono ?_⟩
   rintro _ g5 ⟨rfl, rfl⟩
   refine ⟨_, rfl, ifB_intro (fun _ => ⟨rfl, k1.trans kg⟩) fun _ => ?_⟩
   refine mvB hI4 fun a e ev es gs ha he Rb c2 kg nx => ?_
   refine ⟨some ⟨B'.sb, 0⟩, rd1 c2 rfl, (store_over F'.c.o Rb.r).mono ?_⟩
   rintro _ g5 ⟨rfl, rfl⟩
   refine ⟨_, rfl, ifB_intro (fun _ => ⟨rfl, k1.trans kg⟩) fun _ => ?_⟩
   cases dn with
   | false => exact ifB_pos rfl ⟨rfl, k1.trans kg⟩
   | true =>
   cases dn' with
   | false => exact ifB_neg rfl (ifB_pos rfl ⟨rfl, k1.trans kg⟩)
   | true =>
   have ig3 : IGood G X S3 (fun y => if y = UInt64.ofNat i then some l[i].cell else keyM p c i y) := ig3
   have ig4 : IGood G' X' S4 (fun y => if y = UInt64.ofNat i then some l[i].cell else keyM p c i y) := ig4
   refine ifB_neg rfl (ifB_neg rfl ?_)
   have rl4 := rl.keep stepc_length (k1.trans kg)
   obtain ⟨q4, hq4⟩ := rl4.ptr (by omega)
   obtain ⟨c0, _⟩ := flat_at stepc_length (rl4.rd q4 hq4) hi'
   refine ⟨q4, hq4, by omega, by omega, _, c0, (law_pick l[i].lo l[i].hi (n := 7) (by decide)).to fun g6 k6 => ⟨_, rfl, ?_⟩⟩
   have hI6 := same hI4 k6
   have hpi := hp i hi'
   have erase : (fun y => if y = UInt64.ofNat i then none else if y = UInt64.ofNat i then some l[i].cell else keyM p c i y) = keyM p c i := by
     funext y
     by_cases cy : y = UInt64.ofNat i
     · rw [if_pos cy, cy, hMi]
     · rw [if_neg cy, if_neg cy]
   refine ifB_intro (fun h4 => ?_) fun h4 => ?_
   · have hpt : p i = true := by
       rw [hpi]; have := of_decide_eq_true h4; exact decide_eq_true (by omega)
     have hMs : keyM p c (i + 1) = keyM p c i := by
       show (if p i then keyM p c i else _) = _
       rw [if_pos hpt]
     refine mvA hI6 fun a e ev es gs ha he Ra c1 kg nx => ?_
     refine ⟨some ⟨x.xb, 0⟩, rd1 c1 rfl, some ⟨x.xb, 0⟩, rd1 c1 rfl, ?_⟩
     refine (cuk_find F Ra (by omega) (by omega) (UInt64.ofNat i)).mono ?_
     rintro _ g7 ⟨ev7, es7, gs7, rfl, R7, v7⟩
     have ig7 := ig_rem F.c Ra.p (by omega) ig3 (hkey i (by omega)) true
     have hI7 := nx (100 * i + 76) (by omega) (by omega) (by omega) R7 v7
     clear nx R7 v7 Ra c1
     refine mvA hI7 fun a e ev es gs ha he Ra c1 kg nx => ?_
     refine ⟨_, _, _, rfl, ⟨rd1 c1 rfl, trivial⟩, (cuk_remove F Ra (by omega) (by omega) (UInt64.ofNat i) _ _ _ true).mono ?_⟩
     rintro _ g8 ⟨ev8, es8, gs8, rfl, R8, v8⟩
     have hI8 := nx (100 * i + 80) (by omega) (by omega) (by omega) R8 v8
     clear nx R8 v8 Ra c1
     have ig7 : IGood G X (remS G (fun p => ws.getD p 0) X (UInt64.ofNat i) (findS G (fun p => ws.getD p 0) X (UInt64.ofNat i) S3).2.1 (findS G (fun p => ws.getD p 0) X (UInt64.ofNat i) S3).2.2.1 true (findS G (fun p => ws.getD p 0) X (UInt64.ofNat i) S3).1) (keyM p c (i + 1)) := by
       rw [hMs, ← erase]; exact ig7
     refine ⟨rfl, mvB hI8 fun a e ev es gs ha he Rb c2 kg nx => ?_⟩
     refine ⟨some ⟨x'.xb, 0⟩, rd1 c2 rfl, some ⟨x'.xb, 0⟩, rd1 c2 rfl, ?_⟩
     refine (cuk_find F' Rb (by omega) (by omega) (UInt64.ofNat i)).mono ?_
     rintro _ g9 ⟨ev9, es9, gs9, rfl, R9, v9⟩
     have ig9 := ig_rem F'.c Rb.p (by omega) ig4 (hkey i (by omega)) true
     have hI9 := nx (100 * i + 84) (by omega) (by omega) (by omega) R9 v9
     clear nx R9 v9 Rb c2
     refine mvB hI9 fun a e ev es gs ha he Rb c2 kg nx => ?_
     refine ⟨_, _, _, rfl, ⟨rd1 c2 rfl, trivial⟩, (cuk_remove F' Rb (by omega) (by omega) (UInt64.ofNat i) _ _ _ true).mono ?_⟩
     rintro _ g10 ⟨ev10, es10, gs10, rfl, R10, v10⟩
     have hI10 := nx (100 * i + 88) (by omega) (by omega) (by omega) R10 v10
     have ig9 : IGood G' X' (remS G' (fun p => ws'.getD p 0) X' (UInt64.ofNat i) (findS G' (fun p => ws'.getD p 0) X' (UInt64.ofNat i) S4).2.1 (findS G' (fun p => ws'.getD p 0) X' (UInt64.ofNat i) S4).2.2.1 true (findS G' (fun p => ws'.getD p 0) X' (UInt64.ofNat i) S4).1) (keyM p c (i + 1)) := by
       rw [hMs, ← erase]; exact ig9
     exact ⟨rfl, l.length - (i + 1), by omega, rfl, rfl, rfl, i + 1, _, _, w64_id (by omega) (by omega), by omega, rfl, mono hI10 (by omega), ig7, ig9⟩
   · have hpf : ¬ p i = true := by
       rw [hpi]; have := of_decide_eq_false h4; exact fun h => absurd (of_decide_eq_true h) (by omega)
     have hMs : keyM p c (i + 1) = fun y => if y = UInt64.ofNat i then some l[i].cell else keyM p c i y := by
       show (if p i then keyM p c i else fun y => if y = UInt64.ofNat i then some (c i) else keyM p c i y) = _
       rw [if_neg hpf, hcc i hi']
     exact ⟨l.length - (i + 1), by omega, rfl, rfl, rfl, i + 1, _, _, w64_id (by omega) (by omega), by omega, rfl, mono hI6 (by omega), by rw [hMs]; exact ig3, by rw [hMs]; exact ig4⟩
 · have hil : i = l.length := by omega
   subst hil
   refine ⟨fun s1 q1 q2 n3 g kk => sl = s1 ∧ (⟨b1, 0⟩ : Pt) = q1 ∧ (⟨b2, 0⟩ : Pt) = q2 ∧ ∃ (i : Nat) (S S' : SSt), n3 = i ∧ i ≤ l.length ∧ kk = l.length - i ∧ In S S' g (1000 + 10 * i) ∧ IGood G X S (keyM p c l.length) ∧ IGood G' X' S' (keyM p c l.length),
     ⟨l.length, rfl, rfl, rfl, 0, _, _, rfl, by omega, rfl, mono hI (by omega), ig, ig'⟩, ?_⟩
   clear hI ig ig'
   rintro s1 q1 q2 n3 g kk ⟨rfl, rfl, rfl, i, S, S', rfl, hi, rfl, hI, ig, ig'⟩
   refine ifD (fun hlt => ?_) fun _ => ⟨rfl, k1.trans (kp hI)⟩
   have hi' : i < l.length := by omega
   have fact : ∀ {s : Spt}, ((∃ v t at_, keyM p c l.length (UInt64.ofNat i) = some v ∧ s = (t, at_, v) ∧ 0 ≤ t) ∨ (keyM p c l.length (UInt64.ofNat i) = none ∧ s = (-1, 0, 0))) → decide (s.1 < 0) = p i ∧ s.2.2 = if p i then 0 else c i := fun {s} hs => by
     rw [keyM_at hi' (by omega)] at hs
     rcases hs with ⟨v, t, at_, h1, rfl, h3⟩ | ⟨h1, rfl⟩
     · split at h1
       · cases h1
       · rename_i hn
         cases h1
         rw [if_neg hn]
         exact ⟨by rw [Bool.eq_false_iff.2 hn]; exact decide_eq_false (by show ¬ t < 0; omega), rfl⟩
     · split at h1
       · rename_i hn; rw [if_pos hn, hn]; exact ⟨rfl, rfl⟩
       · cases h1
   obtain ⟨a, e, a', e', ev, ev', es, gs, es', gs', ha, he, ha', he', Ra, Rb, da, db, n1a, n2a, n1b, n2b, c1, c2, kg, fa, fb⟩ := hI
   refine ⟨some ⟨x.xb, 0⟩, rd1 c1 rfl, ?_⟩
   rw [toU_eq (by omega)]
   refine (cuk_find F Ra (by omega) (by omega) (UInt64.ofNat i)).mono ?_
   rintro _ g2 ⟨ev2, es2, gs2, rfl, R2, v2⟩
   obtain ⟨Rb2, db2⟩ := Rb.other F' v2 db
   obtain ⟨K2, fa2⟩ := v2.keep kg fa
   have da2 : ∀ y, SFo G B es2 gs2 y ∨ y = x.xb → ¬ SFo G' B' es' gs' y := fun y hy hf => hy.elim (fun hy => db2 y (.inl hf) hy) fun hy => da y (.inr hy) hf
   have n1a2 := v2.out (by rw [c1]; simp) n1a
   have n2a2 := v2.out (by rw [c2]; simp) n2a
   have c12 := v2.get c1 n1a
   have c22 := v2.get c2 n2a
   obtain ⟨ig2, hf2⟩ := ig_find F.c Ra.p (by omega) ig (hkey i (by omega))
   refine ⟨_, _, _, rfl, newC fun b3 g3 f3 e3 k3 => ?_⟩
   refine stW (K2.trans k3) (K2.free f3) e3 rfl fun g4 k4 e4 o4 => ?_
   have R4 := R2.loc F f3 k3 o4
   have Rb4 := Rb2.loc F' f3 k3 o4
   have nb3' : ¬ SFo G' B' es' gs' b3 := Rb2.r.out F'.c.o f3
   have c14 : g4 b1 = _ := (o4 b1 (fun e => by rw [← e, c12] at f3; cases f3)).trans (k3.get c12)
   have c24 : g4 b2 = _ := (o4 b2 (fun e => by rw [← e, c22] at f3; cases f3)).trans (k3.get c22)
   refine ⟨some ⟨x'.xb, 0⟩, rd1 c24 rfl, ?_⟩
   refine (cuk_find F' Rb4 (by omega) (by omega) (UInt64.ofNat i)).mono ?_
   rintro _ g5 ⟨ev5, es5, gs5, rfl, R5', v5⟩
   obtain ⟨R5, da5⟩ := R4.other F v5 da2
   obtain ⟨K5, fb5⟩ := v5.keep k4 fb
   have db5 : ∀ y, SFo G' B' es5 gs5 y ∨ y = x'.xb → ¬ SFo G B es2 gs2 y := fun y hy hf => hy.elim (fun hy => da5 y (.inl hf) hy) fun hy => db2 y (.inr hy) hf
   have n1b5 := v5.out (by rw [c14]; simp) n1b
   have n2b5 := v5.out (by rw [c24]; simp) n2b
   have c15 := v5.get c14 n1b
   have c25 := v5.get c24 n2b
   have e35 := v5.get e4 nb3'
   obtain ⟨ig5, hf5⟩ := ig_find F'.c Rb4.p (by omega) ig' (hkey i (by omega))
   refine ⟨_, _, _, rfl, newC fun b4 g6 f4 e6 k6 => ?_⟩
   refine stW (K5.trans k6) (K5.free f4) e6 rfl fun g7 k7 e7 o7 => ?_
   have R7 := R5.loc F f4 k6 o7
   have R7' := R5'.loc F' f4 k6 o7
   have c17 : g7 b1 = _ := (o7 b1 (fun e => by rw [← e, c15] at f4; cases f4)).trans (k6.get c15)
   have c27 : g7 b2 = _ := (o7 b2 (fun e => by rw [← e, c25] at f4; cases f4)).trans (k6.get c25)
   have e37 : g7 b3 = _ := (o7 b3 (fun e => by rw [← e, e35] at f4; cases f4)).trans (k6.get e35)
   refine ⟨some ⟨B.sb, 0⟩, rd1 c17 rfl, (store_over F.c.o R7.r).mono ?_⟩
   rintro _ g8 ⟨rfl, rfl⟩
   refine ⟨_, rfl, ifB_intro (fun _ => ⟨rfl, k1.trans k7⟩) fun noA => ?_⟩
   refine ⟨some ⟨B'.sb, 0⟩, rd1 c27 rfl, (store_over F'.c.o R7'.r).mono ?_⟩
   rintro _ g8 ⟨rfl, rfl⟩
   refine ⟨_, rfl, ifB_intro (fun _ => ⟨rfl, k1.trans k7⟩) fun noB => ?_⟩
   obtain ⟨t1, u1⟩ := fact (hf2 (fineA noA))
   obtain ⟨t2, u2⟩ := fact (hf5 (fineB noB))
   refine ⟨_, rd1 e37 rfl, _, rd1 e7 rfl, ifB_neg (by rw [t1, t2]; simp) ?_⟩
   refine ⟨_, rd1 e37 rfl, _, rd1 e7 rfl, ifB_neg (by rw [u1, u2]; simp) ?_⟩
   have rl4 := rl.keep stepc_length (k1.trans k7)
   obtain ⟨q4, hq4⟩ := rl4.ptr (by omega)
   obtain ⟨c0, _⟩ := flat_at stepc_length (rl4.rd q4 hq4) hi'
   refine ⟨_, rd1 e37 rfl, q4, hq4, by omega, by omega, _, c0, (law_pick l[i].lo l[i].hi (n := 7) (by decide)).to fun g9 k9 => ⟨_, rfl, ⟨rd1 (k9.get e37) rfl, trivial⟩, ifB_neg ?_ ?_⟩⟩
   · rw [t1, hp i hi']
     have : decide ((4 : Int) < ((pickN l[i].op 7 : Nat) : Int)) = decide (4 < pickN l[i].op 7) := decide_eq_decide.2 (by omega)
     show (!(decide (4 < pickN l[i].op 7) == decide ((4 : Int) < ((pickN l[i].op 7 : Nat) : Int)))) = false
     rw [this]; simp
   exact ⟨l.length - (i + 1), by omega, rfl, rfl, rfl, i + 1, _, _, w64_id (by omega) (by omega), by omega, rfl, same ⟨_, _, _, _, _, _, _, _, _, _, by omega, by omega, by omega, by omega, R7, R7', da5, db5, n1a2, n2a2, n1b5, n2b5, c17, c27, k7, fa2, fb5⟩ k9, ig2, ig5⟩
end Go.Proofs.Tryz

/- Rows behind a variable; what gathers the values of a sequence; networks; looks of a sort. Printed by program (mkevb.py). -/
import Derived.Test.YtofgadhgljjhgaaGreatEvA
namespace Go.Proofs.Tryz
open Go Go.Sh Go.RowKit
set_option maxRecDepth 8000
abbrev E0 : Hp := fun _ => none
def Mv (F : Nat → Prop) (h : Hp) (F' : Nat → Prop) (h' : Hp) : Prop := (∀ b, F' b → F b ∨ h b = none) ∧ (∀ b, h b ≠ none → ¬ F b → h' b = h b) ∧ (∀ b, h' b = none → h b = none)
theorem Mv.refl (F : Nat → Prop) (h : Hp) : Mv F h F h := ⟨fun _ h => .inl h, fun _ _ _ => rfl, fun _ h => h⟩
theorem Mv.out {F F' : Nat → Prop} {h h' : Hp} (m : Mv F h F' h') {b : Nat} (hb : h b ≠ none) (hn : ¬ F b) : ¬ F' b := fun hf => by
 rcases m.1 b hf with h | h
 · exact hn h
 · exact hb h
theorem Mv.trans {F F' F'' : Nat → Prop} {h h' h'' : Hp} (m : Mv F h F' h') (m' : Mv F' h' F'' h'') : Mv F h F'' h'' := by
 refine ⟨fun b hb => ?_, fun b hb hn => ?_, fun b hb => m.2.2 b (m'.2.2 b hb)⟩
 · rcases m'.1 b hb with h | h
   · exact m.1 b h
   · exact .inr (m.2.2 b h)
 · rw [m'.2.1 b (by rw [m.2.1 b hb hn]; exact hb) (m.out hb hn), m.2.1 b hb hn]
theorem mvK {h h' : Hp} (k : Keep h h') (F : Nat → Prop) : Mv F h F h' := ⟨fun _ h => .inl h, fun b hb _ => k b hb, fun _ hb => k.free hb⟩
theorem Mv.get {F F' : Nat → Prop} {h h' : Hp} (m : Mv F h F' h') {b : Nat} {o : Obj} (e : h b = some o) (hn : ¬ F b) : h' b = some o := by rw [m.2.1 b (by rw [e]; simp) hn, e]
theorem Mv.keep {F F' : Nat → Prop} {h0 h h' : Hp} (m : Mv F h F' h') (k : Keep h0 h) (hF : ∀ b, F b → h0 b = none) : Keep h0 h' ∧ ∀ b, F' b → h0 b = none := by
 refine ⟨fun b hb => ?_, fun b hb => ?_⟩
 · rw [m.2.1 b (by rw [k b hb]; exact hb) (fun h => hb (hF b h)), k b hb]
 · rcases m.1 b hb with h | h
   · exact hF b h
   · exact k.free h
theorem own_rebase {α : Type} {k : Nat} {f : α → List Value} {h0 h : Hp} {s : Sl} {l : List α} (o : OwnM k f E0 h s l) (hs : ∀ p, s.q = some p → h0 p.b = none) : OwnM k f h0 h s l := by
 refine ⟨o.len, o.cap, ?_⟩
 rcases o.own with h1 | ⟨q, c, t, h1, h2, h3, h4, h5⟩
 · exact .inl h1
 · exact .inr ⟨q, c, t, h1, hs q h1, h3, h4, h5⟩
def Fp (b : Nat) (s : Sl) : Nat → Prop := fun x => x = b ∨ ∃ p, s.q = some p ∧ x = p.b
structure BoxS {α : Type} (k : Nat) (f : α → List Value) (T : TypeId) (h : Hp) (b : Nat) (s : Sl) (l : List α) : Prop where
 cell : h b = some (.cells #[vs s] T (0, 0))
 own : OwnM k f E0 h s l
 ne : ∀ p, s.q = some p → p.b ≠ b
theorem BoxS.dom {α : Type} {k : Nat} {f : α → List Value} {T : TypeId} {h : Hp} {b : Nat} {s : Sl} {l : List α} (B : BoxS k f T h b s l) {x : Nat} (hx : Fp b s x) : h x ≠ none := by
 rcases hx with rfl | ⟨p, hp, rfl⟩
 · rw [B.cell]; simp
 · exact (B.own.blk hp).2
theorem BoxS.move {α : Type} {k : Nat} {f : α → List Value} {T : TypeId} {h h' : Hp} {b : Nat} {s : Sl} {l : List α} (B : BoxS k f T h b s l) (hs : ∀ x, Fp b s x → h' x = h x) : BoxS k f T h' b s l :=
 ⟨by rw [hs b (.inl rfl)]; exact B.cell, B.own.move fun p hp => hs _ (.inr ⟨p, hp, rfl⟩), B.ne⟩
theorem BoxS.keep {α : Type} {k : Nat} {f : α → List Value} {T : TypeId} {h h' : Hp} {b : Nat} {s : Sl} {l : List α} (B : BoxS k f T h b s l) (c : Keep h h') : BoxS k f T h' b s l := B.move fun _ hx => c _ (B.dom hx)
theorem BoxS.cells {α : Type} {k : Nat} {f : α → List Value} {T : TypeId} {h : Hp} {b : Nat} {s : Sl} {l : List α} (B : BoxS k f T h b s l) {x : Nat} (hx : Fp b s x) : ∃ c t fz, h x = some (.cells c t fz) := by
 rcases hx with rfl | ⟨p, hp, rfl⟩
 · exact ⟨_, _, _, B.cell⟩
 · rcases B.own.own with ⟨hn, _⟩ | ⟨q, c, t, hq, _, hc, _, _⟩
   · rw [hn] at hp; cases hp
   · rw [hq] at hp; cases hp; exact ⟨_, _, _, hc⟩
theorem BoxS.app {α : Type} {P : Program} {Ts el : TypeId} {k : Nat} {z : Value} {by_ : Nat} (rt : RowM P Ts el k z by_) {f : α → List Value} (hf : ∀ x, (f x).length = k) (one : ∀ x, ∀ v ∈ f x, v.oneCell' = true) {T : TypeId} {h : Hp} {b : Nat} {s y : Sl} {l m : List α}
   (B : BoxS k f T h b s l) (ry : RdM f h y m) (room : (l.length + m.length) * by_ ≤ 140737488355328) (hby : 0 < by_) {K : Hp → Prop}
   (hk : ∀ s' h', BoxS k f T h' b s' (l ++ m) → Mv (Fp b s) h (Fp b s') h' → K h') : appK P Ts s (.s y) h fun s2 h2 => storeK h2 ⟨b, 0⟩ [vs s2] K := by
 refine OwnM.app rt hf one B.own ry (fun _ _ => rfl) room hby ?_
 intro s' h2 o2 f2 w2 fr2
 have hb0 : h b ≠ none := by rw [B.cell]; simp
 have hb2 : h2 b = h b := f2 b hb0 fun q hq e => B.ne q hq e.symm
 have ne' : ∀ p, s'.q = some p → p.b ≠ b := fun p hp e => by
   rcases w2 p hp with ⟨q, hq, h⟩ | h
   · exact B.ne q hq (h ▸ e)
   · rw [e] at h; exact hb0 h
 refine ⟨_, _, by rw [hb2]; exact B.cell, by simp, hk s' _ ⟨by rw [upd_same]; rfl, o2.move fun p hp => upd_ne _ _ (ne' p hp), ne'⟩ ⟨?_, ?_, ?_⟩⟩
 · rintro x (rfl | ⟨p, hp, rfl⟩)
   · exact .inl (.inl rfl)
   · rcases w2 p hp with ⟨q, hq, h⟩ | h
     · exact .inl (.inr ⟨q, hq, h⟩)
     · exact .inr h
 · intro x hx hn
   have hxb : x ≠ b := fun e => hn (.inl e)
   rw [upd_ne _ _ hxb, f2 x hx fun q hq e => hn (.inr ⟨q, hq, e⟩)]
 · intro x hx
   by_cases e : x = b
   · rw [e, upd_same] at hx; cases hx
   · rw [upd_ne _ _ e] at hx; exact fr2 x hx
theorem BoxS.push {α : Type} {P : Program} {Ts el : TypeId} {k : Nat} {z : Value} {by_ : Nat} (rt : RowM P Ts el (k + 1) z by_) {f : α → List Value} (hf : ∀ x, (f x).length = k + 1) (one : ∀ x, ∀ v ∈ f x, v.oneCell' = true) {T : TypeId} {h : Hp} {b : Nat} {s : Sl} {l : List α}
   (B : BoxS (k + 1) f T h b s l) (m : List α) {t : TypeId} {c : Array Value} (hc : c = (m.flatMap f).toArray) {n : Nat} (hn : n = m.length) (room : (l.length + m.length) * by_ ≤ 140737488355328) (hby : 0 < by_) {K : Hp → Prop}
   (hk : ∀ s' h', BoxS (k + 1) f T h' b s' (l ++ m) → Mv (Fp b s) h (Fp b s') h' → K h') : newK h (.cells c t) fun b1 h1 => appK P Ts s (.s ⟨some ⟨b1, 0⟩, n, n, none⟩) h1 fun s2 h2 => storeK h2 ⟨b, 0⟩ [vs s2] K :=
 newC fun b1 h1 f1 e1 k1 => BoxS.app rt hf one (B.keep k1) (OwnM.newE (k := k + 1) hf (h0 := h) f1 e1 hc hn).rd room hby fun s' h' B' m' => hk s' h' B' ((mvK k1 _).trans m')
structure Sink {α : Type} (y : Value) (vv : α → Value) (S : List α → (Nat → Prop) → Hp → Prop) (N : Nat) : Prop where
 put : ∀ l F h x, S l F h → l.length < N → callV prog y [vv x] h fun v h' => v = .bool true ∧ ∃ F', S (l ++ [x]) F' h' ∧ Mv F h F' h'
 keep : ∀ l F h h', S l F h → (∀ b, F b → h' b = h b) → S l F h'
 dom : ∀ l F h b, S l F h → F b → h b ≠ none
 one : y.oneCell' = true
structure Pr where
 i : Int
 j : Int
 up : Bool
def prc (e : Pr) : List Value := [.int .i64 e.i, .int .i64 e.j, .bool e.up]
theorem prc3 (e : Pr) : (prc e).length = 3 := rfl
theorem prc_one (e : Pr) : ∀ v ∈ prc e, v.oneCell' = true := by simp [prc, Value.oneCell']
theorem rtPr : RowM prog 245 248 3 (.agg #[.int .i64 0, .int .i64 0, .bool false]) 24 := ⟨by kernel_rfl, by kernel_rfl, by kernel_rfl, by kernel_rfl, rfl⟩
theorem collect_pr {g : FuncId} {caps : List Value} {L : List Pr} {h : Hp} (hL : L.length ≤ 1000000000000)
   (hseq : ∀ (y : Value) (S : List Pr → (Nat → Prop) → Hp → Prop), Sink y (fun x => .agg (prc x).toArray) S 1000000000000 → ∀ F h1, Keep h h1 → S [] F h1 → (∀ b, F b → h b = none) → callK prog g (y :: caps) h1 fun _ h2 => ∃ F', S L F' h2 ∧ Mv F h1 F' h2) :
   callK prog 169 [.func (.func g) #[] caps.toArray] h fun v h' => ∃ s, v = vs s ∧ OwnM 3 prc h h' s L ∧ Keep h h' := by
 refine c169 _ ?_
 unfold G169
 have key : callK prog 185 [vs ⟨none, 0, 0, none⟩, .func (.func g) #[] caps.toArray] h fun v h' => ∃ s, v = vs s ∧ OwnM 3 prc h h' s L ∧ Keep h h' := by
   refine c185 ⟨none, 0, 0, none⟩ _ ?_
   unfold G185
   refine newC fun b1 h1 f1 e1 k1 => ⟨trivial, fun z k hk hr => ?_⟩
   have hkb : k ≠ b1 := fun e => by rw [e, e1] at hk; cases hk
   have kb : b1 ≠ k := fun e => hkb e.symm
   have kz : Keep h1 (upd h1 k (rdyL z)) := (Keep.refl h1).upd hk _
   have hk0 : h k = none := k1.free hk
   let S : List Pr → (Nat → Prop) → Hp → Prop := fun l F h' => h' k = some (rdyL z) ∧ ∃ s, BoxS 3 prc 245 h' b1 s l ∧ F = (fun x => x = k ∨ Fp b1 s x)
   have nofp : ∀ {h' : Hp} {s : Sl} {l : List Pr} {o : Loop}, BoxS 3 prc 245 h' b1 s l → h' k = some (.loop o) → ¬ Fp b1 s k := fun B e hx => by
     obtain ⟨c, t, fz, h⟩ := B.cells hx
     rw [e] at h; cases h
   have sink : Sink (yv k) (fun x => .agg (prc x).toArray) S 1000000000000 := by
     refine ⟨?_, ?_, ?_, rfl⟩
     · rintro l F h2 x ⟨hz, s, bx, rfl⟩ hl
       obtain ⟨n1, n2, t1⟩ := x
       refine ⟨rfl, rfl, hr n1 n2 t1 h2 _ hz ?_⟩
       refine newC fun b2 h3 f3 e3 k3 => stW k3 f3 e3 rfl fun h4 k4 e4 _ => ⟨k4.get hz, ?_⟩
       have nk0 : ¬ Fp b1 s k := nofp bx hz
       have e5 : upd h4 k (busyL z) b1 = some (.cells #[vs s] 245 (0, 0)) := by rw [upd_ne _ _ kb]; exact k4.get bx.cell
       have b2k : b2 ≠ k := fun e => by rw [e, hz] at f3; cases f3
       have e6 : upd h4 k (busyL z) b2 = some (.cells #[.int .i64 n1, .int .i64 n2, .bool t1] 248 (0, 0)) := by rw [upd_ne _ _ b2k]; exact e4
       have bx5 : BoxS 3 prc 245 (upd h4 k (busyL z)) b1 s l := (bx.keep k4).move fun x hx => upd_ne _ _ fun e => nk0 (e ▸ hx)
       refine ⟨s, rd1 e5 rfl, n1, rd1 e6 rfl, n2, rd1 e6 rfl, t1, rd1 e6 rfl, BoxS.push rtPr prc3 prc_one bx5 [⟨n1, n2, t1⟩] rfl rfl (by simp; omega) (by decide) fun s' h6 bx6 m6 => ?_⟩
       have hk6 : h6 k = some (busyL z) := m6.get (upd_same _ _ _) nk0
       have nk' : ¬ Fp b1 s' k := m6.out (by rw [upd_same]; simp) nk0
       refine ⟨hk6, rfl, _, ⟨upd_same _ _ _, s', bx6.move fun x hx => upd_ne _ _ (fun e => nk' (e ▸ hx)), rfl⟩, ?_, ?_, ?_⟩
       · rintro x (rfl | hx)
         · exact .inl (.inl rfl)
         · rcases m6.1 x hx with h | h
           · exact .inl (.inr h)
           · by_cases hxk : x = k
             · exact .inl (.inl hxk)
             · rw [upd_ne _ _ hxk] at h; exact .inr (k4.free h)
       · intro x hx hn
         have hxk : x ≠ k := fun e => hn (.inl e)
         have h4x : upd h4 k (busyL z) x = h2 x := by rw [upd_ne _ _ hxk, k4 x hx]
         rw [upd_ne _ _ hxk, m6.2.1 x (by rw [h4x]; exact hx) (fun hF => hn (.inr hF)), h4x]
       · intro x hx
         have hxk : x ≠ k := fun e => by rw [e, upd_same] at hx; cases hx
         rw [upd_ne _ _ hxk] at hx
         have h5x := m6.2.2 x hx
         rw [upd_ne _ _ hxk] at h5x
         exact k4.free h5x
     · rintro l F h2 h3 ⟨hz, s, bx, rfl⟩ hF
       exact ⟨by rw [hF k (.inl rfl)]; exact hz, s, bx.move fun x hx => hF x (.inr hx), rfl⟩
     · rintro l F h2 b ⟨hz, s, bx, rfl⟩ (rfl | hb)
       · rw [hz]; simp
       · exact bx.dom hb
   have s0 : S [] (fun x => x = k ∨ Fp b1 ⟨none, 0, 0, none⟩ x) (upd h1 k (rdyL z)) :=
     ⟨upd_same _ _ _, _, ⟨by rw [upd_ne _ _ kb]; exact e1, OwnM.nilS _ _ _ _, fun p hp => by cases hp⟩, rfl⟩
   have f0 : ∀ b, (b = k ∨ Fp b1 ⟨none, 0, 0, none⟩ b) → h b = none := by
     rintro b (rfl | rfl | ⟨p, hp, _⟩)
     · exact hk0
     · exact f1
     · cases hp
   refine ⟨rfl, ?_⟩
   refine (hseq (yv k) S sink _ _ (k1.trans kz) s0 f0).mono ?_
   rintro _ h2 ⟨F', ⟨hz, s, bx, rfl⟩, m⟩
   obtain ⟨kk, ff⟩ := m.keep (k1.trans kz) f0
   have nk := nofp bx hz
   refine ⟨hz, s, rd1 (by rw [upd_ne _ _ kb]; exact bx.cell) rfl, s, rfl, ?_, kk.upd hk0 _⟩
   exact own_rebase (bx.own.move fun p hp => upd_ne _ _ fun e => nk (.inr ⟨p, hp, e.symm⟩)) fun p hp => ff _ (.inr (.inr ⟨p, hp, rfl⟩))
 refine key.mono ?_
 rintro _ h1 ⟨s, rfl, o, k⟩
 exact ⟨_, rfl, _, rfl, o, k⟩
end Go.Proofs.Tryz

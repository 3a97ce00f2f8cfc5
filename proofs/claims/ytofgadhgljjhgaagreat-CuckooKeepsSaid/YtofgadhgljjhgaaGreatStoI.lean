/- Chapter 11: ways drawn, and gone. -/
import Derived.Test.YtofgadhgljjhgaaGreatStoH
namespace Go.Proofs.Tryz
open Go Go.Sh Go.RowKit
set_option maxRecDepth 8000
section
variable {G : SP} {ws : List UInt64} {B : StB} {S : SSt} {ev : List Ev} {es gs : Sl} {h h' : Hp}
theorem StR.goes (R : StR G ws B S ev es gs h) (o : G.Ok) {gs' : Sl} {l : List (Nat × Nat)} (ow : OwnM 2 whc E0 h' gs' l) (top : h' B.sb = some (.cells (sto9 G B gs') B.TS (0, 0)))
   (off : ∀ b, h b ≠ none → (∀ q, gs.q = some q → b ≠ q.b) → b ≠ B.sb → h' b = h b) (loc : ∀ q', gs'.q = some q' → (∃ q, gs.q = some q ∧ q'.b = q.b) ∨ h q'.b = none) (fr : ∀ b, h' b = none → h b = none) :
   StR G ws B { S with gone := l } ev es gs' h' ∧ Mv (SFo G B es gs) h (SFo G B es gs') h' := by
 have old : ∀ p x, B.At G.L gs' p x → p ≠ .gs → B.At G.L gs p x := fun p x hx hne => by cases p <;> first | exact hx | exact absurd rfl hne
 have new : ∀ p x, B.At G.L gs p x → p ≠ .gs → B.At G.L gs' p x := fun p x hx hne => by cases p <;> first | exact hx | exact absurd rfl hne
 have hp : ∀ p x, B.At G.L gs p x → p ≠ .gs → p ≠ .sb → h' x = h x := fun p x hx h1 h2 => off x (R.dom o hx) (fun q hq e => h1 (R.dis p .gs x hx ⟨q, hq, e⟩)) fun e => h2 (R.dis p .sb x hx e)
 have gsf : ∀ x, B.At G.L gs' .gs x → B.At G.L gs .gs x ∨ h x = none := by
   rintro x ⟨q, hq, rfl⟩
   rcases loc q hq with ⟨q0, h0, e⟩ | hn
   · exact .inl ⟨q0, h0, e⟩
   · exact .inr hn
 refine ⟨⟨top, R.mem.move fun x hx => off x (R.mem.dom hx) (fun q hq e => R.dM .gs x ⟨q, hq, e⟩ hx) fun e => R.dM .sb x e hx, R.tap.move (hp .tb _ rfl (by simp) (by simp)) (fun hne _ => hp .tw _ ⟨rfl, hne⟩ (by simp) (by simp)), fun hne => by rw [hp .tw _ ⟨rfl, hne⟩ (by simp) (by simp)]; exact R.tww hne,
   R.lvs.move fun q hq _ => hp .lv _ ⟨q, hq, rfl⟩ (by simp) (by simp), fun i hi => by rw [hp (.lb i) _ ⟨hi, rfl⟩ (by simp) (by simp)]; exact R.lev i hi, fun i hi => (R.map i hi).move (hp (.mp i) _ ⟨hi, rfl⟩ (by simp) (by simp)), ow, fun p p' x hx hx' => ?_, fun p x hx => ?_⟩, ?_, ?_, fr⟩
 · by_cases c : p = .gs
   · subst c
     by_cases c' : p' = .gs
     · exact c'.symm
     · rcases gsf x hx with hg | hn
       · exact R.dis .gs p' x hg (old p' x hx' c')
       · exact absurd hn (R.dom o (old p' x hx' c'))
   · by_cases c' : p' = .gs
     · subst c'
       rcases gsf x hx' with hg | hn
       · exact R.dis p .gs x (old p x hx c) hg
       · exact absurd hn (R.dom o (old p x hx c))
     · exact R.dis p p' x (old p x hx c) (old p' x hx' c')
 · by_cases c : p = .gs
   · subst c
     rcases gsf x hx with hg | hn
     · exact R.dM .gs x hg
     · exact fun hm => R.mem.dom hm hn
   · exact R.dM p x (old p x hx c)
 · rintro x (hm | ⟨p, hx⟩)
   · exact .inl (.inl hm)
   · by_cases c : p = .gs
     · subst c; exact (gsf x hx).imp (fun hg => .inr ⟨.gs, hg⟩) id
     · exact .inl (.inr ⟨p, old p x hx c⟩)
 · intro x hx hn
   exact off x hx (fun q hq e => hn (.inr ⟨.gs, q, hq, e⟩)) fun e => hn (.inr ⟨.sb, e⟩)
theorem store_draw (o : G.Ok) (R : StR G ws B S ev es gs h) {i : Nat} (hi : i < 4) (hu : S.used < 2 ^ 62) :
   callK prog 82 [vp ⟨B.sb, 0⟩, .int .i64 i] h fun v h' => v = .agg #[.int .i64 (G.leaf (fun p => ws.getD p 0) i S.used), .int .i64 S.used] ∧ StR G ws B { S with used := S.used + 1 } ev es gs h' ∧ Mv (SFo G B es gs) h (SFo G B es gs) h' := by
 have so := o.st
 refine c82 _ _ ?_
 unfold G82
 refine newC fun b1 h1 f1 e1 k1 => ⟨some ⟨B.tb, 0⟩, k1.cell (rd1 R.top rfl), ?_⟩
 have R1 := R.keep o k1
 refine (tape_next R1.tap hu).mono ?_
 rintro _ h2 ⟨rfl, t2, o2⟩
 have R2 := R1.tape o t2 fun x _ hx => o2 x hx
 have v2 : Mv (SFo G B es gs) h1 (SFo G B es gs) h2 := ⟨fun x hx => .inl hx, fun x hx hn => o2 x fun e => hn (.inr ⟨.tb, e⟩), fun x hx => by
   by_cases e : x = B.tb
   · rw [e] at hx; exact absurd hx t2.dom
   · rw [o2 x e] at hx; exact hx⟩
 refine ⟨_, _, rfl, _, rd1 R2.top rfl, _, rd1 R2.top rfl, _, rd1 R2.top rfl, _, rd1 R2.top rfl, ?_⟩
 refine (store_blocks so i (by omega)).to fun h3 k3 => ⟨_, rfl, ?_⟩
 have hk : G.m - 2 * i ≤ 10 := by have := o.m; omega
 have hp1 : 1 ≤ 2 ^ (G.m - 2 * i) := Nat.one_le_two_pow
 have hp2 : 2 ^ (G.m - 2 * i) ≤ 2 ^ 10 := Nat.pow_le_pow_right (by decide) hk
 have eP : (2 : Int) ^ (G.m - 2 * i) = ((2 ^ (G.m - 2 * i) : Nat) : Int) := by simp
 rw [eP, toU_eq (by omega)]
 have eN : (UInt64.ofNat (2 ^ (G.m - 2 * i))).toNat = 2 ^ (G.m - 2 * i) := by rw [UInt64.toNat_ofNat']; omega
 have em : ((ws.getD S.used 0) % UInt64.ofNat (2 ^ (G.m - 2 * i))).toNat = G.leaf (fun p => ws.getD p 0) i S.used := by
   rw [UInt64.toNat_mod, eN]; rfl
 have hlf : G.leaf (fun p => ws.getD p 0) i S.used < 1024 := leaf_bd o i S.used
 have nb1 : ¬ SFo G B es gs b1 := R.out o f1
 have e12 := v2.get e1 nb1
 refine ⟨fun e => by have := congrArg UInt64.toNat e; rw [eN] at this; simp at this, ?_⟩
 rw [em, w64_id (by omega) (by omega)]
 have V3 := ((mvK k1 (SFo G B es gs)).trans v2).more k3
 refine stMW V3 f1 (k3.get e12) rfl fun h4 V4 e4 o4 => ⟨_, rd1 e4 rfl, _, rd1 e4 rfl, rfl, ?_, V4⟩
 exact (R2.keep o k3).same fun x hx => o4 x fun e => nb1 (e ▸ hx)
noncomputable def toldV (v p : UInt64) : Value := .agg #[.int .i64 ((v.toNat : Int) - 1), .int .i64 (w64 (p.toNat : Int))]
theorem store_told (v p : UInt64) (hv : v.toNat < 2 ^ 62) : PureC prog 87 [vu v, vu p] (toldV v p) := by
 intro h
 refine c87 _ _ ?_
 unfold G87
 refine newC fun b1 h1 f1 e1 k1 => ?_
 rw [w64_id (n := (v.toNat : Int)) (by omega) (by omega), w64_id (n := (v.toNat : Int) - 1) (by omega) (by omega)]
 exact stW k1 f1 e1 rfl fun h2 k2 e2 _ => ⟨_, rd1 e2 rfl, _, rd1 e2 rfl, rfl, k2⟩
theorem store_words {a b : Nat} (ha : a < 2 ^ 62) (hb : b < 2 ^ 62) : PureC prog 86 [.agg #[.int .i64 a, .int .i64 b]] (.tuple #[vu (UInt64.ofNat (a + 1)), vu (UInt64.ofNat b)]) := by
 intro h
 refine c86 _ _ ?_
 unfold G86
 refine newC fun b1 h1 f1 e1 k1 => ⟨_, rd1 e1 rfl, _, rd1 e1 rfl, ?_, k1⟩
 rw [toU_eq (by omega), toU_eq (by omega)]
 have : UInt64.ofNat a + 1 = UInt64.ofNat (a + 1) := by
   apply UInt64.toNat_inj.1
   rw [UInt64.toNat_add, UInt64.toNat_ofNat', UInt64.toNat_ofNat']
   have e : (1 : UInt64).toNat = 1 := rfl
   rw [e]; omega
 rw [this]
theorem store_from (o : G.Ok) (R : StR G ws B S ev es gs h) {v p : UInt64} (hv : v.toNat < 2 ^ 62) (hp : v ≠ 0 → p.toNat < 2 ^ 62) {sp : Nat × Nat} (hg : S.gone.length < 1000000000000) :
   callK prog 88 [vp ⟨B.sb, 0⟩, toldV v p, .agg #[.int .i64 sp.1, .int .i64 sp.2]] h fun r h' => ∃ gs', r = .int .i64 (way v p sp).1 ∧ StR G ws B { S with gone := S.gone ++ [way v p sp] } ev es gs' h' ∧ Mv (SFo G B es gs) h (SFo G B es gs') h' := by
 refine c88 _ _ _ _ _ ?_
 unfold G88
 refine newC fun b1 h1 f1 e1 k1 => newC fun b2 h2 f2 e2 k2 => ?_
 have k02 := k1.trans k2
 have n21 : b2 ≠ b1 := fun e => by rw [e, e1] at f2; cases f2
 have fin : ∀ (g : Hp) (y : Nat × Nat), Keep h g → g b1 = some (.cells #[.int .i64 y.1, .int .i64 y.2] 149 (0, 0)) → y = way v p sp →
     ∃ s1, hcell g B.sb (0 + 8) = some (vs s1) ∧ ∃ n4, hcell g b1 0 = some (.int .i64 n4) ∧ ∃ n5, hcell g b1 (0 + 1) = some (.int .i64 n5) ∧ newK g (.cells #[.int .i64 n4, .int .i64 n5] 149) fun b3 h4 => appK prog 115 s1 (.s ⟨some ⟨b3, 0⟩, 1, 1, none⟩) h4 fun s2 h5 => storeK h5 ⟨B.sb, 0 + 8⟩ [vs s2] fun h6 => ∃ n6, hcell h6 b1 0 = some (.int .i64 n6) ∧
       ∃ gs', Value.int .i64 n6 = .int .i64 (way v p sp).1 ∧ StR G ws B { S with gone := S.gone ++ [way v p sp] } ev es gs' h6 ∧ Mv (SFo G B es gs) h (SFo G B es gs') h6 := by
   rintro g y kg eg rfl
   have Rg := R.keep o kg
   refine ⟨gs, rd1 Rg.top rfl, _, rd1 eg rfl, _, rd1 eg rfl, ?_⟩
   refine OwnM.push rtWh whc_len whc_one Rg.gon [way v p sp] (by rfl) rfl (fun _ _ => rfl) (by simp; omega) (by decide) ?_
   intro gs' g2 o2 off2 w2 fr2
   have nsg : ∀ q, gs.q = some q → B.sb ≠ q.b := fun q hq e => by have := Rg.dis .sb .gs B.sb rfl ⟨q, hq, e⟩; cases this
   have et : g2 B.sb = some (.cells (sto9 G B gs) B.TS (0, 0)) := by rw [off2 _ (by rw [Rg.top]; simp) nsg, Rg.top]
   have nb1 : b1 ≠ B.sb := fun e => by rw [e, R.top] at f1; cases f1
   have nq : ∀ q, gs'.q = some q → q.b ≠ B.sb := fun q hq e => by
     rcases w2 q hq with ⟨q0, h0, e0⟩ | hn
     · exact nsg q0 h0 (e ▸ e0)
     · rw [e, Rg.top] at hn; cases hn
   obtain ⟨R6, v6⟩ := Rg.goes o (h' := upd g2 B.sb (.cells (sto9 G B gs') B.TS (0, 0))) (gs' := gs') (l := S.gone ++ [way v p sp]) (o2.move fun q hq => upd_ne _ _ (nq q hq)) (upd_same _ _ _)
     (fun b hb hq hs => by rw [upd_ne _ _ hs, off2 b hb hq]) (fun q hq => w2 q hq) (fun b hb => by
       by_cases e : b = B.sb
       · rw [e, upd_same] at hb; cases hb
       · rw [upd_ne _ _ e] at hb; exact fr2 b hb)
   have eg6 : upd g2 B.sb (.cells (sto9 G B gs') B.TS (0, 0)) b1 = g b1 := by
     rw [upd_ne _ _ nb1, off2 b1 (by rw [eg]; simp) fun q hq e => R.out o f1 (.inr ⟨.gs, q, hq, e⟩)]
   exact ⟨_, _, et, by simp, _, rd1 (eg6.trans eg) rfl, gs', rfl, R6, (mvK kg _).trans v6⟩
 refine ⟨_, rd1 (k2.get e1) rfl, ifD (fun hlt => ?_) fun hge => ?_⟩
 · have hv0 : v = 0 := UInt64.toNat_inj.1 (by show v.toNat = 0; omega)
   refine ⟨_, rd1 e2 rfl, _, rd1 e2 rfl, stW k02 f1 (k2.get e1) rfl fun h3 k3 e3 _ => ?_⟩
   exact fin h3 sp k3 e3 (by unfold way; rw [if_pos hv0])
 · have hv0 : ¬ v = 0 := fun e => by rw [e] at hge; simp at hge
   refine fin h2 (v.toNat - 1, p.toNat) k02 ?_ (by unfold way; rw [if_neg hv0])
   rw [k2.get e1]
   have : (v.toNat : Int) - 1 = ((v.toNat - 1 : Nat) : Int) := by omega
   have hp := hp hv0
   rw [this, w64_id (by omega) (by omega)]
end
end Go.Proofs.Tryz

/- Chapter 10: Access. -/
import Derived.Test.YtofgadhgljjhgaaGreatLevF
namespace Go.Proofs.Tryz
open Go Go.Sh Go.RowKit
set_option maxRecDepth 8000
theorem leaf_in {h : Hp} {b1 lb k : Nat} (e1 : hcell h b1 0 = some (vp ⟨lb, 0⟩)) (el : hcell h lb 0 = some (.int .i64 (2 ^ k))) {x : Nat} (hx : x < 2 ^ k) {K : Value → Hp → Prop} (hk : K (.bool false) h) :
   callK prog 116 [.int .i64 x, vp ⟨b1, 0⟩] h K := by
 refine c116 _ _ ?_
 unfold G116
 have h2 : ((2 ^ k : Nat) : Int) = 2 ^ k := by simp
 refine ifB_neg (decide_eq_false (by omega)) ⟨some ⟨lb, 0⟩, e1, _, rfl, _, el, ?_⟩
 have : (bif false then true else decide ((2 : Int) ^ k ≤ (x : Int))) = false := decide_eq_false (by omega)
 rw [this]; exact hk
section
variable {T : TypeId} {m : MS} {R : Regs} {ev : List Ev} {es : Sl} {h : Hp}
theorem level_Access {P : LP} {f : Nat} (o : P.Ok) (L : LvM m P f) (M : MemR T m R ev es h) {Tl : TypeId} {lb mp : Nat} {ov : Bool} {ids : List UInt64} (hlb : h lb = some (.cells (lvc P m.b f ov mp) Tl (0, 0))) (hmp : MapI h mp ids) (nlb : ¬ MF m es lb) (nmp : ¬ MF m es mp)
   {fr to : Nat} (hfr : fr < 2 ^ P.k) (hto : to < 2 ^ P.k) {bi : UInt64} (hid : bi.toNat ≤ 2147483648) (wm : WM P (lview f R)) {op : LOp} {k at_ : Int} {d : Dat} (hop : opIs op k at_ d) (hl : ev.length < 1000000000000) :
   callK prog 89 [vp ⟨lb, 0⟩, .int .i64 k, vu bi, .int .i64 at_, wv d, .int .i64 fr, .int .i64 to] h fun r h' => ∃ es', r = .tuple #[wv (levOld P bi fr (lview f R)).1, .bool (levOld P bi fr (lview f R)).2] ∧ MemR T m (lput f R (levM P op bi fr to (lview f R))) (ev ++ levEv P.k P.s P.t f fr) es' h' ∧
     h' lb = some (.cells (lvc P m.b f (ov || levLost P op bi fr to (lview f R)) mp) Tl (0, 0)) ∧ MapI h' mp (meets op bi ids) ∧ ¬ MF m es' lb ∧ ¬ MF m es' mp ∧ Mv (fun x => MF m es x ∨ x = lb ∨ x = mp) h (fun x => MF m es' x ∨ x = lb ∨ x = mp) h' := by
 have nml : mp ≠ lb := fun e => by obtain ⟨l, c, h1, _⟩ := hmp; rw [e, hlb] at h1; cases h1
 have hk : (k = 0 ∧ ∀ l, meets op bi l = l) ∨ (k = 1 ∧ ∀ l, meets op bi l = if bi ∈ l then l else l ++ [bi]) ∨ (k = 2 ∧ 0 ≤ at_ ∧ at_ ≤ 6 ∧ ∀ l, meets op bi l = if bi ∈ l then l else l ++ [bi]) ∨ (k = 3 ∧ ∀ l, meets op bi l = l) := by
   cases op with
   | look => exact .inl ⟨hop, fun _ => rfl⟩
   | put d' => exact .inr (.inl ⟨hop.1, fun _ => rfl⟩)
   | part a x y => exact .inr (.inr (.inl ⟨hop.1, by have := hop.2.1; omega, by have := hop.2.1; have := hop.2.2.1; omega, fun _ => rfl⟩))
   | drop => exact .inr (.inr (.inr ⟨hop, fun _ => rfl⟩))
 refine c89 _ _ _ _ _ _ _ ?_
 unfold G89
 refine newC fun b1 h1 f1 e1 k1 => newC fun b2 h2 f2 e2 k2 => newC fun b3 h3 f3 e3 k3 => newC fun b4 h4 f4 e4 k4 => newC fun b5 h5 f5 e5 k5 => ?_
 have k15 := (k2.trans k3).trans (k4.trans k5)
 have k05 := k1.trans k15
 have g1 := k15.get e1
 have g2 := ((k3.trans k4).trans k5).get e2
 have g3 := (k4.trans k5).get e3
 have g4 := k5.get e4
 have gl := k05.get hlb
 have f50 : h b5 = none := k1.free (k2.free (k3.free (k4.free f5)))
 have f20 : h b2 = none := k1.free f2
 have f30 : h b3 = none := k1.free (k2.free f3)
 have f40 : h b4 = none := k1.free (k2.free (k3.free f4))
 have M5 := M.keep k05
 have m5 : MapI h5 mp ids := hmp.move (k05 mp hmp.dom)
 have nfl : ∀ x, h x = none → x ≠ lb := fun x hx e => by rw [e, hlb] at hx; cases hx
 have nfm : ∀ x, h x = none → x ≠ mp := fun x hx e => hmp.dom (e ▸ hx)
 have nfM : ∀ x, h x = none → ¬ MF m es x := fun x hx hm => M.dom hm hx
 have n52 : b5 ≠ b2 := fun e => by rw [e, ((k3.trans k4)).get e2] at f5; cases f5
 have n53 : b5 ≠ b3 := fun e => by rw [e, k4.get e3] at f5; cases f5
 have n54 : b5 ≠ b4 := fun e => by rw [e, e4] at f5; cases f5
 have acc : ∀ (g : Hp) (ids' : List UInt64), (∀ x, x ≠ mp → g x = h5 x) → MapI g mp ids' → ids' = meets op bi ids →
     ∃ o3 : Option Pt, hcell g b1 0 = some (vpn o3) ∧ callK prog 117 [vpn o3, vu bi, .int .i64 fr, .int .i64 to, .func (.func 118) #[] #[vp ⟨b2, 0⟩, vp ⟨b4, 0⟩, vp ⟨b3, 0⟩]] g fun v3 h16 => ∃ c8 : Dat, ∃ t3, v3 = .tuple #[wv c8, .bool t3] ∧ storeK h16 ⟨b5, 0⟩ (SV.cells (.ws 8 c8)) fun h17 => ∃ c9 : Dat, rdW h17 b5 0 c9 ∧
       ∃ es', Value.tuple #[wv c9, .bool t3] = .tuple #[wv (levOld P bi fr (lview f R)).1, .bool (levOld P bi fr (lview f R)).2] ∧ MemR T m (lput f R (levM P op bi fr to (lview f R))) (ev ++ levEv P.k P.s P.t f fr) es' h17 ∧
     h17 lb = some (.cells (lvc P m.b f (ov || levLost P op bi fr to (lview f R)) mp) Tl (0, 0)) ∧ MapI h17 mp (meets op bi ids) ∧ ¬ MF m es' lb ∧ ¬ MF m es' mp ∧ Mv (fun x => MF m es x ∨ x = lb ∨ x = mp) h (fun x => MF m es' x ∨ x = lb ∨ x = mp) h17 := by
   rintro g ids' hg mg rfl
   have q1 := (hg b1 (nfm _ f1)).trans g1
   have q2 := (hg b2 (nfm _ f20)).trans g2
   have q3 := (hg b3 (nfm _ f30)).trans g3
   have q4 := (hg b4 (nfm _ f40)).trans g4
   have q5 := (hg b5 (nfm _ f50)).trans e5
   have ql := (hg lb (Ne.symm nml)).trans gl
   have Mg : MemR T m R ev es g := M5.move fun x hx => hg x fun e => nmp (e ▸ hx)
   have V0 : Mv (fun x => MF m es x ∨ x = lb ∨ x = mp) h (fun x => MF m es x ∨ x = lb ∨ x = mp) g := by
     refine ⟨fun x hx => .inl hx, fun x hx hn => ?_, fun x hx => ?_⟩
     · rw [hg x fun e => hn (.inr (.inr e)), k05 x hx]
     · by_cases e : x = mp
       · rw [e] at hx; exact absurd hx mg.dom
       · rw [hg x e] at hx; exact k05.free hx
   refine ⟨some ⟨lb, 0⟩, rd1 q1 rfl, ?_⟩
   refine (level_acc o L Mg ql nlb hfr hto hid wm (op := op) (G := fun x => x = b2 ∨ x = b3 ∨ x = b4) ?_ (op_value hop q2 q3 q4) hl).mono ?_
   · rintro x (rfl | rfl | rfl)
     · exact ⟨by rw [q2]; simp, nfM _ f20, nfl _ f20⟩
     · exact ⟨by rw [q3]; simp, nfM _ f30, nfl _ f30⟩
     · exact ⟨by rw [q4]; simp, nfM _ f40, nfl _ f40⟩
   rintro _ h16 ⟨es', rfl, M16, L16, n16, v16⟩
   have V16 : Mv (fun x => MF m es x ∨ x = lb ∨ x = mp) h (fun x => MF m es' x ∨ x = lb ∨ x = mp) h16 :=
     ((V0.to (C := fun x => (MF m es x ∨ x = lb) ∨ x = mp) fun x hx => .inl (hx.elim (fun h => h.elim .inl fun h => .inr (.inl h)) fun h => .inr (.inr h))).trans (mv_both1 v16)).to fun x hx => .inl (hx.elim (fun h => .inl (.inl h)) fun h => h.elim (fun h => .inl (.inr h)) .inr)
   have nmA : ¬ (MF m es mp ∨ mp = lb) := fun h => h.elim nmp nml
   have m16 : MapI h16 mp (meets op bi ids) := mg.move (v16.2.1 mp mg.dom nmA)
   have nm16 : ¬ MF m es' mp := fun h => v16.out mg.dom nmA (.inl h)
   have n5A : ¬ (MF m es b5 ∨ b5 = lb) := fun h => h.elim (nfM _ f50) (nfl _ f50)
   have q516 := v16.get q5 n5A
   have n5M : ¬ MF m es' b5 := fun h => v16.out (by rw [q5]; simp) n5A (.inl h)
   refine ⟨_, _, rfl, wbMW (n := 8) V16 f50 q516 rfl fun h17 V17 e17 o17 => ⟨_, wb_rd e17, es', rfl, M16.move fun x hx => o17 x fun e => n5M (e ▸ hx), (o17 _ (Ne.symm (nfl _ f50))).trans L16, m16.move (o17 _ (Ne.symm (nfm _ f50))), n16, nm16, V17⟩⟩
 have hk03 : 0 ≤ k ∧ k ≤ 3 := by rcases hk with h | h | h | h <;> omega
 have hid' : ¬ 2147483648 < bi := fun h => by have := UInt64.lt_iff_toNat_lt.1 h; have e : (2147483648 : UInt64).toNat = 2147483648 := rfl; omega
 refine ⟨_, rd1 g2 rfl, ifB_neg (decide_eq_false (by omega)) ⟨_, rd1 g2 rfl, ifB_neg (decide_eq_false (by omega)) (ifB_neg (decide_eq_false hid') ?_)⟩⟩
 refine leaf_in (rd1 g1 rfl) (rd1 gl rfl) hfr ⟨_, rfl, ifB_neg rfl ?_⟩
 refine leaf_in (rd1 g1 rfl) (rd1 gl rfl) hto ⟨_, rfl, ifB_neg rfl ?_⟩
 rcases hk with ⟨rfl, hm⟩ | ⟨rfl, hm⟩ | ⟨rfl, ha0, ha6, hm⟩ | ⟨rfl, hm⟩
 · refine ⟨_, rd1 g2 rfl, ifB_neg rfl ⟨_, rd1 g2 rfl, ifB_neg rfl ⟨_, rd1 g2 rfl, ifB_neg rfl ?_⟩⟩⟩
   exact acc h5 ids (fun _ _ => rfl) m5 (hm ids).symm
 · refine ⟨_, rd1 g2 rfl, ifB_neg rfl ⟨_, rd1 g2 rfl, ifB_pos rfl ⟨some ⟨lb, 0⟩, rd1 g1 rfl, _, rfl, some mp, rd1 gl rfl, mup_ids m5 fun h15 m15 o15 => ?_⟩⟩⟩
   exact acc h15 _ o15 m15 (hm ids).symm
 · refine ⟨_, rd1 g2 rfl, ifB_pos rfl ⟨_, rd1 g3 rfl, ifB_neg (decide_eq_false (by omega)) ⟨_, rd1 g3 rfl, ifB_neg (decide_eq_false (by omega)) ⟨_, rd1 g2 rfl, ifB_neg rfl ⟨_, rd1 g2 rfl, ifB_pos rfl ⟨some ⟨lb, 0⟩, rd1 g1 rfl, _, rfl, some mp, rd1 gl rfl, mup_ids m5 fun h15 m15 o15 => ?_⟩⟩⟩⟩⟩⟩
   exact acc h15 _ o15 m15 (hm ids).symm
 · refine ⟨_, rd1 g2 rfl, ifB_neg rfl ⟨_, rd1 g2 rfl, ifB_neg rfl ⟨_, rd1 g2 rfl, ifB_neg rfl ?_⟩⟩⟩
   exact acc h5 ids (fun _ _ => rfl) m5 (hm ids).symm
end
end Go.Proofs.Tryz

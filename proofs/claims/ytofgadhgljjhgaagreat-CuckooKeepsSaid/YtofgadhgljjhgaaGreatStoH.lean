/- Chapter 11: a store as it lies in the heap; what its smaller functions come to. -/
import Derived.Test.YtofgadhgljjhgaaGreatBlk
import Derived.Test.YtofgadhgljjhgaaGreatMemT
import Derived.Test.YtofgadhgljjhgaaGreatPla
import Derived.Test.YtofgadhgljjhgaaGreatStoC
namespace Go.Proofs.Tryz
open Go Go.Sh Go.RowKit
set_option maxRecDepth 8000
inductive Prt where
 | sb
 | tb
 | tw
 | lv
 | gs
 | lb (i : Nat)
 | mp (i : Nat)
 deriving DecidableEq
structure StB where
 sb : Nat
 tb : Nat
 tw : Nat
 lv : Sl
 lb : Nat → Nat
 mp : Nat → Nat
 Tl : Nat → TypeId
 TM : TypeId
 TS : TypeId
 TT : TypeId
 m : MS
def StB.At (B : StB) (L : Nat) (gs : Sl) : Prt → Nat → Prop
 | .sb, x => x = B.sb
 | .tb, x => x = B.tb
 | .tw, x => x = B.tw ∧ B.tw ≠ B.tb
 | .lv, x => ∃ q, B.lv.q = some q ∧ x = q.b
 | .gs, x => ∃ q, gs.q = some q ∧ x = q.b
 | .lb i, x => i < L ∧ x = B.lb i
 | .mp i, x => i < L ∧ x = B.mp i
def whc (x : Nat × Nat) : List Value := [.int .i64 x.1, .int .i64 x.2]
theorem whc_len (x : Nat × Nat) : (whc x).length = 2 := rfl
theorem whc_one (x : Nat × Nat) : ∀ v ∈ whc x, v.oneCell' = true := by simp [whc, Value.oneCell']
theorem rtWh : RowM prog 115 149 2 (.agg #[.int .i64 0, .int .i64 0]) 16 := ⟨by kernel_rfl, by kernel_rfl, by kernel_rfl, by kernel_rfl, rfl⟩
abbrev sto9 (G : SP) (B : StB) (gs : Sl) : Array Value := #[.int .i64 (2 ^ G.m), .int .i64 G.s, .int .i64 G.t, .int .i64 G.L, vp ⟨B.m.b, 0⟩, .int .i64 G.f, vp ⟨B.tb, 0⟩, vs B.lv, vs gs]
structure StR (G : SP) (ws : List UInt64) (B : StB) (S : SSt) (ev : List Ev) (es gs : Sl) (h : Hp) : Prop where
 top : h B.sb = some (.cells (sto9 G B gs) B.TS (0, 0))
 mem : MemR B.TM B.m S.R ev es h
 tap : TapR B.TT B.tb B.tw ws S.used h
 tww : B.tw ≠ B.tb → h B.tw ≠ none
 lvs : RdS (fun b : Nat => vp ⟨b, 0⟩) h B.lv ((List.range G.L).map B.lb)
 lev : ∀ i, i < G.L → h (B.lb i) = some (.cells (lvc (G.lp i) B.m.b (G.base i) (S.over i) (B.mp i)) (B.Tl i) (0, 0))
 map : ∀ i, i < G.L → MapI h (B.mp i) (S.ids i)
 gon : OwnM 2 whc E0 h gs S.gone
 dis : ∀ p p' x, B.At G.L gs p x → B.At G.L gs p' x → p = p'
 dM : ∀ p x, B.At G.L gs p x → ¬ MF B.m es x
structure StM (G : SP) (B : StB) : Prop where
 lvm : ∀ i, i < G.L → LvM B.m (G.lp i) (G.base i)
 fnr : G.f < B.m.nr
 ftop : B.m.rn G.f = G.top
def SFo (G : SP) (B : StB) (es gs : Sl) : Nat → Prop := fun x => MF B.m es x ∨ ∃ p, B.At G.L gs p x
theorem _root_.Go.Sh.SP.Ok.st {G : SP} (o : G.Ok) : StOk G.m G.s G.t G.L := ⟨o.m, by have := (o.lev 0).s; show 1 ≤ (G.s : Int) ∧ (G.s : Int) ≤ 8; have h1 : (G.lp 0).s = G.s := rfl; omega, by have := (o.lev 0).t; have h1 : (G.lp 0).t = G.t := rfl; omega, o.L⟩
section
variable {G : SP} {ws : List UInt64} {B : StB} {S : SSt} {ev : List Ev} {es gs : Sl} {h h' : Hp}
theorem StR.dom (R : StR G ws B S ev es gs h) (o : G.Ok) {p : Prt} {x : Nat} (hx : B.At G.L gs p x) : h x ≠ none := by
 cases p with
 | sb => rw [show x = B.sb from hx, R.top]; simp
 | tb => rw [show x = B.tb from hx]; exact R.tap.dom
 | tw => rw [show x = B.tw from hx.1]; exact R.tww hx.2
 | lv => obtain ⟨q, hq, rfl⟩ := hx; exact R.lvs.there hq (by have := o.L; simp; omega)
 | gs => obtain ⟨q, hq, rfl⟩ := hx; exact (R.gon.blk hq).2
 | lb i => rw [hx.2, R.lev i hx.1]; simp
 | mp i => rw [hx.2]; exact (R.map i hx.1).dom
theorem StR.same (R : StR G ws B S ev es gs h) (hs : ∀ x, SFo G B es gs x → h' x = h x) : StR G ws B S ev es gs h' := by
 have hp : ∀ p x, B.At G.L gs p x → h' x = h x := fun p x hx => hs x (.inr ⟨p, hx⟩)
 refine ⟨by rw [hp .sb _ rfl]; exact R.top, R.mem.move fun x hx => hs x (.inl hx), R.tap.move (hp .tb _ rfl) (fun hne _ => hp .tw _ ⟨rfl, hne⟩), fun hne => by rw [hp .tw _ ⟨rfl, hne⟩]; exact R.tww hne, R.lvs.move fun q hq _ => hp .lv _ ⟨q, hq, rfl⟩,
   fun i hi => by rw [hp (.lb i) _ ⟨hi, rfl⟩]; exact R.lev i hi, fun i hi => (R.map i hi).move (hp (.mp i) _ ⟨hi, rfl⟩), R.gon.move fun q hq => hp .gs _ ⟨q, hq, rfl⟩, R.dis, R.dM⟩
theorem StR.fdom (R : StR G ws B S ev es gs h) (o : G.Ok) {x : Nat} (hx : SFo G B es gs x) : h x ≠ none := hx.elim R.mem.dom fun ⟨_, hp⟩ => R.dom o hp
theorem StR.keep (R : StR G ws B S ev es gs h) (o : G.Ok) (k : Keep h h') : StR G ws B S ev es gs h' := R.same fun x hx => k x (R.fdom o hx)
theorem StR.out (R : StR G ws B S ev es gs h) (o : G.Ok) {x : Nat} (hx : h x = none) : ¬ SFo G B es gs x := fun hf => R.fdom o hf hx
theorem StR.memo (R : StR G ws B S ev es gs h) (o : G.Ok) {R' : Regs} {ev' : List Ev} {es' : Sl} (M : MemR B.TM B.m R' ev' es' h') (v : Mv (MF B.m es) h (MF B.m es') h') : StR G ws B { S with R := R' } ev' es' gs h' ∧ Mv (SFo G B es gs) h (SFo G B es' gs) h' := by
 have hp : ∀ p x, B.At G.L gs p x → h' x = h x := fun p x hx => v.2.1 x (R.dom o hx) (R.dM p x hx)
 refine ⟨⟨by rw [hp .sb _ rfl]; exact R.top, M, R.tap.move (hp .tb _ rfl) (fun hne _ => hp .tw _ ⟨rfl, hne⟩), fun hne => by rw [hp .tw _ ⟨rfl, hne⟩]; exact R.tww hne, R.lvs.move fun q hq _ => hp .lv _ ⟨q, hq, rfl⟩,
   fun i hi => by rw [hp (.lb i) _ ⟨hi, rfl⟩]; exact R.lev i hi, fun i hi => (R.map i hi).move (hp (.mp i) _ ⟨hi, rfl⟩), R.gon.move fun q hq => hp .gs _ ⟨q, hq, rfl⟩, R.dis, fun p x hx => v.out (R.dom o hx) (R.dM p x hx)⟩, mv_both1 v⟩
theorem StR.tape (R : StR G ws B S ev es gs h) (o : G.Ok) {u : Nat} (t : TapR B.TT B.tb B.tw ws u h') (hs : ∀ x, h x ≠ none → x ≠ B.tb → h' x = h x) : StR G ws B { S with used := u } ev es gs h' := by
 have hp : ∀ p x, B.At G.L gs p x → p ≠ .tb → h' x = h x := fun p x hx hne => hs x (R.dom o hx) fun e => hne (R.dis p .tb x hx e)
 exact ⟨by rw [hp .sb _ rfl (by simp)]; exact R.top, R.mem.move fun x hx => hs x (R.mem.dom hx) fun e => R.dM .tb x e hx, t, fun hne => by rw [hp .tw _ ⟨rfl, hne⟩ (by simp)]; exact R.tww hne, R.lvs.move fun q hq _ => hp .lv _ ⟨q, hq, rfl⟩ (by simp),
   fun i hi => by rw [hp (.lb i) _ ⟨hi, rfl⟩ (by simp)]; exact R.lev i hi, fun i hi => (R.map i hi).move (hp (.mp i) _ ⟨hi, rfl⟩ (by simp)), R.gon.move fun q hq => hp .gs _ ⟨q, hq, rfl⟩ (by simp), R.dis, R.dM⟩
theorem StR.levl (R : StR G ws B S ev es gs h) (o : G.Ok) {i : Nat} (hi : i < G.L) {R' : Regs} {ev' : List Ev} {es' : Sl} {ov : Bool} {ids : List UInt64} (M : MemR B.TM B.m R' ev' es' h')
   (hl : h' (B.lb i) = some (.cells (lvc (G.lp i) B.m.b (G.base i) ov (B.mp i)) (B.Tl i) (0, 0))) (hm : MapI h' (B.mp i) ids) (nl : ¬ MF B.m es' (B.lb i)) (nm : ¬ MF B.m es' (B.mp i))
   (v : Mv (fun x => MF B.m es x ∨ x = B.lb i ∨ x = B.mp i) h (fun x => MF B.m es' x ∨ x = B.lb i ∨ x = B.mp i) h') :
   StR G ws B { S with R := R', over := fun x => if x = i then ov else S.over x, ids := fun x => if x = i then ids else S.ids x } ev' es' gs h' ∧ Mv (SFo G B es gs) h (SFo G B es' gs) h' := by
 have hn : ∀ p x, B.At G.L gs p x → p ≠ .lb i → p ≠ .mp i → ¬ (MF B.m es x ∨ x = B.lb i ∨ x = B.mp i) := fun p x hx h1 h2 h => by
   rcases h with h | h | h
   · exact R.dM p x hx h
   · exact h1 (R.dis p (.lb i) x hx ⟨hi, h⟩)
   · exact h2 (R.dis p (.mp i) x hx ⟨hi, h⟩)
 have hp : ∀ p x, B.At G.L gs p x → p ≠ .lb i → p ≠ .mp i → h' x = h x := fun p x hx h1 h2 => v.2.1 x (R.dom o hx) (hn p x hx h1 h2)
 refine ⟨⟨by rw [hp .sb _ rfl (by simp) (by simp)]; exact R.top, M, R.tap.move (hp .tb _ rfl (by simp) (by simp)) (fun hne _ => hp .tw _ ⟨rfl, hne⟩ (by simp) (by simp)), fun hne => by rw [hp .tw _ ⟨rfl, hne⟩ (by simp) (by simp)]; exact R.tww hne,
   R.lvs.move fun q hq _ => hp .lv _ ⟨q, hq, rfl⟩ (by simp) (by simp), fun j hj => ?_, fun j hj => ?_, R.gon.move fun q hq => hp .gs _ ⟨q, hq, rfl⟩ (by simp) (by simp), R.dis, fun p x hx => ?_⟩, ?_⟩
 · show h' (B.lb j) = some (.cells (lvc (G.lp j) B.m.b (G.base j) (if j = i then ov else S.over j) (B.mp j)) (B.Tl j) (0, 0))
   by_cases c : j = i
   · subst c; rw [if_pos rfl]; exact hl
   · rw [if_neg c, hp (.lb j) _ ⟨hj, rfl⟩ (by simpa using c) (by simp)]; exact R.lev j hj
 · show MapI h' (B.mp j) (if j = i then ids else S.ids j)
   by_cases c : j = i
   · subst c; rw [if_pos rfl]; exact hm
   · rw [if_neg c]; exact (R.map j hj).move (hp (.mp j) _ ⟨hj, rfl⟩ (by simp) (by simpa using c))
 · by_cases c1 : p = .lb i
   · subst c1; rw [hx.2]; exact nl
   · by_cases c2 : p = .mp i
     · subst c2; rw [hx.2]; exact nm
     · exact fun h => v.out (R.dom o hx) (hn p x hx c1 c2) (.inl h)
 · refine ((Mv.refl (SFo G B es gs) h).to (C := fun x => (MF B.m es x ∨ x = B.lb i ∨ x = B.mp i) ∨ ∃ p, B.At G.L gs p x) fun x hx => .inl ?_).trans (mv_both1 v) |>.to fun x hx => .inl ?_
   · rcases hx with (h | h | h) | h
     · exact .inl h
     · exact .inr ⟨.lb i, hi, h⟩
     · exact .inr ⟨.mp i, hi, h⟩
     · exact .inr h
   · exact hx.elim (fun h => .inl (.inl h)) .inr
end
end Go.Proofs.Tryz

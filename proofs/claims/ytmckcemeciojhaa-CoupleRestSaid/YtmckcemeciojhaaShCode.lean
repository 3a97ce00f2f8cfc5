/- A function's whole body, read as a statement over a part of the heap; sound for the model's calls. -/
import Derived.Test.YtmckcemeciojhaaShDraw
namespace Go.Sh
open Go Go.RowKit

/-! ## Typed binders, for what a loop carries -/
mutual
def CurT : Ty → Type → Type
  | .i _, R => Int → R
  | .u, R => UInt64 → R
  | .b, R => Bool → R
  | .p, R => Pt → R
  | .f, R => FuncId → List SV → R
  | .pn, R => Option Pt → R
  | .s, R => Sl → R
  | .str, R => ByteArray → R
  | .m, R => Option Nat → R
  | .ws n, R => Vector UInt64 n → R
  | .ag l, R => CurL l R
  | .tup l, R => CurL l R
  | .v, R => Value → R
def CurL : List Ty → Type → Type
  | [], R => R
  | t :: l, R => CurT t (CurL l R)
end

mutual
/-- for all values of a type, a curried thing applied to them -/
def allT : (t : Ty) → {R : Type} → CurT t R → (SV → R → Prop) → Prop
  | .i k, _, f, K => ∀ x : Int, K (.i k x) (f x)
  | .u, _, f, K => ∀ x : UInt64, K (.u x) (f x)
  | .b, _, f, K => ∀ x : Bool, K (.b x) (f x)
  | .p, _, f, K => ∀ x : Pt, K (.p x) (f x)
  | .f, _, f, K => ∀ (g : FuncId) (c : List SV), K (.f g c) (f g c)
  | .pn, _, f, K => ∀ x : Option Pt, K (.pn x) (f x)
  | .s, _, f, K => ∀ x : Sl, K (.s x) (f x)
  | .str, _, f, K => ∀ x : ByteArray, K (.str x) (f x)
  | .m, _, f, K => ∀ x : Option Nat, K (.m x) (f x)
  | .ws n, _, f, K => ∀ x : Vector UInt64 n, K (.ws n x) (f x)
  | .ag l, _, f, K => allL l f fun r x => K (.ag r) x
  | .tup l, _, f, K => allL l f fun r x => K (.tup r) x
  | .v, _, f, K => ∀ x : Value, K (.v x) (f x)
def allL : (l : List Ty) → {R : Type} → CurL l R → (List SV → R → Prop) → Prop
  | [], _, f, K => K [] f
  | t :: l, _, f, K => allT t f fun r g => allL l g fun rs x => K (r :: rs) x
end

mutual
/-- a curried thing applied to a value that is there -/
def appT : (t : Ty) → {R : Type} → CurT t R → SV → (R → Prop) → Prop
  | .i k, _, f, .i k' x, K => if k' = k then K (f x) else False
  | .u, _, f, .u x, K => K (f x)
  | .b, _, f, .b x, K => K (f x)
  | .p, _, f, .p x, K => K (f x)
  | .f, _, f, .f g c, K => K (f g c)
  | .pn, _, f, .pn x, K => K (f x)
  | .pn, _, f, .p x, K => K (f (some x))
  | .s, _, f, .s x, K => K (f x)
  | .str, _, f, .str x, K => K (f x)
  | .m, _, f, .m x, K => K (f x)
  | .ws n, _, f, .ws m x, K => if h : m = n then K (f (h ▸ x)) else False
  | .ag l, _, f, .ag r, K => appL l f r K
  | .tup l, _, f, .tup r, K => appL l f r K
  | .v, _, f, .v x, K => K (f x)
  | _, _, _, _, _ => False
def appL : (l : List Ty) → {R : Type} → CurL l R → List SV → (R → Prop) → Prop
  | [], _, f, [], K => K f
  | t :: l, _, f, r :: rs, K => appT t f r fun g => appL l g rs K
  | _, _, _, _, _ => False
end

/-- where a loop begins, and where ways meet: the slots that are carried, by their types -/
structure Ann where
  loops : List (Nat × List (Nat × Ty))
  cuts : List (Nat × List (Nat × Ty))
  orders : List (Nat × List Nat)

def lookA {α : Type} : List (Nat × α) → Nat → Option α
  | [], _ => none
  | (k, x) :: l, i => if k = i then some x else lookA l i

/-- the first region of a code -/
def firstR : Code → Option Nat
  | .region i _ _ => some i
  | .seq a b => (firstR a).or (firstR b)
  | .cond _ a b => (firstR a).or (firstR b)
  | .block _ c => firstR c
  | .loop c => firstR c
  | .scope c => firstR c
  | _ => none

def tyz (l : List (Nat × Ty)) : List Ty := l.map (·.2)

/-- the values of some slots -/
def getS (n : Nat) (e : Env) : List (Nat × Ty) → (List SV → Prop) → Prop
  | [], K => K []
  | (t, _) :: l, K => match (if t < n then e t else none) with
    | some s => getS n e l fun r => K (s :: r)
    | none => False
/-- slots that hold some values -/
def setS : List (Nat × Ty) → List SV → Env
  | (t, _) :: l, s :: r => put (setS l r) t s
  | _, _ => emp

abbrev Post := Exit → Env → Hp → Prop
def thenK (next : Env → Hp → Prop) (Q : Post) : Post
  | .normal, e, h => next e h
  | x, e, h => Q x e h
def blockK (id : Nat) (Q : Post) : Post
  | .exit id', e, h => if id' = id then Q .normal e h else Q (.exit id') e h
  | x, e, h => Q x e h

/-- a loop: what holds at every round's head, and a number that goes down -/
def loopK (n : Nat) (live : List (Nat × Ty)) (body : Env → Hp → (Env → Hp → Prop) → Prop) (e : Env) (h : Hp) : Prop :=
  ∃ J : CurL (tyz live) (Hp → Nat → Prop), (getS n e live fun vs => appL (tyz live) J vs fun I => ∃ m, I h m) ∧
    allL (tyz live) J fun vs I => ∀ h m, I h m → body (setS live vs) h fun e' h' => getS n e' live fun vs' => appL (tyz live) J vs' fun I' => ∃ m', m' < m ∧ I' h' m'

/-- ways that meet -/
def cutK (n : Nat) (live : List (Nat × Ty)) (first : (Env → Hp → Prop) → Prop) (rest : Env → Hp → Prop) : Prop :=
  ∃ J : CurL (tyz live) (Hp → Prop), (first fun e' h' => getS n e' live fun vs => appL (tyz live) J vs fun I => I h') ∧
    allL (tyz live) J fun vs I => ∀ h, I h → rest (setS live vs) h

def seqK (P : Program) (n : Nat) (all : Array Oper) : List Oper → Env → Hp → (Env → Hp → Prop) → Prop
  | [], e, h, K => K e h
  | o :: l, e, h, K => stepE P n all o e h fun e' r h' => seqK P n all l (putO e' o.dst r) h' K

def codeK (P : Program) (n : Nat) (A : Ann) : Code → Post → Env → Hp → Prop
  | .skip, Q, e, h => Q .normal e h
  | .seq x y, Q, e, h => match (firstR y).bind (lookA A.cuts) with
    | none => codeK P n A x (thenK (codeK P n A y Q) Q) e h
    | some live => cutK n live (fun next => codeK P n A x (thenK next Q) e h) (codeK P n A y Q)
  | .cond c x y, Q, e, h => match c with
    | .tmp t => match (if t < n then e t else none) with
      | some (.b b) => ifB b (codeK P n A x Q (put e t (.b true)) h) (codeK P n A y Q (put e t (.b false)) h)
      | _ => False
    | .const (.bool b) => cond b (codeK P n A x Q e h) (codeK P n A y Q e h)
    | _ => False
  | .block id c, Q, e, h => codeK P n A c (blockK id Q) e h
  | .exit id, Q, e, h => Q (.exit id) e h
  | .ret, Q, e, h => Q .ret e h
  | .region _ ops false, Q, e, h => seqK P n ops ops.toList e h (Q .normal)
  | .region id ops true, Q, e, h =>
    if fitC ops ((lookA A.orders id).getD (List.range ops.size)) = true then
      drawK P n ops (ancs ops.toList []) [] ((lookA A.orders id).getD (List.range ops.size)) e h (Q .normal) else False
  | .loop c, Q, e, h => match (firstR c).bind (lookA A.loops) with
    | some live => loopK n live (fun e h next => codeK P n A c (thenK next Q) e h) e h
    | none => False
  | _, _, _, _ => False

/-! ## Soundness -/
mutual
theorem appT_all : ∀ (t : Ty) {R : Type} (f : CurT t R) (s : SV) (F : R → Prop) (K : SV → R → Prop), appT t f s F → allT t f K → ∃ s' r, s'.val = s.val ∧ SV.cells s' = SV.cells s ∧ F r ∧ K s' r
  | .i k, _, f, s, F, K, h, ha => by
      cases s <;> try exact (show False from h).elim
      rename_i k' x
      simp only [appT] at h
      split at h
      · rename_i hk; subst hk; exact ⟨_, _, rfl, rfl, h, ha x⟩
      · exact h.elim
  | .u, _, f, s, F, K, h, ha => by
      cases s <;> try exact (show False from h).elim
      exact ⟨_, _, rfl, rfl, h, ha _⟩
  | .b, _, f, s, F, K, h, ha => by
      cases s <;> try exact (show False from h).elim
      exact ⟨_, _, rfl, rfl, h, ha _⟩
  | .s, _, f, s, F, K, h, ha => by
      cases s <;> try exact (show False from h).elim
      exact ⟨_, _, rfl, rfl, h, ha _⟩
  | .str, _, f, s, F, K, h, ha => by
      cases s <;> try exact (show False from h).elim
      exact ⟨_, _, rfl, rfl, h, ha _⟩
  | .m, _, f, s, F, K, h, ha => by
      cases s <;> try exact (show False from h).elim
      exact ⟨_, _, rfl, rfl, h, ha _⟩
  | .v, _, f, s, F, K, h, ha => by
      cases s <;> try exact (show False from h).elim
      exact ⟨_, _, rfl, rfl, h, ha _⟩
  | .p, _, f, s, F, K, h, ha => by
      cases s <;> try exact (show False from h).elim
      exact ⟨_, _, rfl, rfl, h, ha _⟩
  | .f, _, f, s, F, K, h, ha => by
      cases s <;> try exact (show False from h).elim
      exact ⟨_, _, rfl, rfl, h, ha _ _⟩
  | .pn, _, f, s, F, K, h, ha => by
      cases s <;> try exact (show False from h).elim
      · rename_i x; exact ⟨.pn (some x), _, rfl, rfl, h, ha (some x)⟩
      · exact ⟨_, _, rfl, rfl, h, ha _⟩
  | .ws n, _, f, s, F, K, h, ha => by
      cases s <;> try exact (show False from h).elim
      rename_i m x
      simp only [appT] at h
      split at h
      · rename_i hk; subst hk; exact ⟨_, _, rfl, rfl, h, ha x⟩
      · exact h.elim
  | .ag l, _, f, s, F, K, h, ha => by
      cases s <;> try exact (show False from h).elim
      obtain ⟨s', r', h1, h2, h3, h4⟩ := appL_all l f _ F _ h ha
      exact ⟨.ag s', r', by simp only [SV.val, h2], by simp only [SV.cells, h2], h3, h4⟩
  | .tup l, _, f, s, F, K, h, ha => by
      cases s <;> try exact (show False from h).elim
      obtain ⟨s', r', h1, h2, h3, h4⟩ := appL_all l f _ F _ h ha
      exact ⟨.tup s', r', by simp only [SV.val, h1], by simp only [SV.cells, h1], h3, h4⟩
theorem appL_all : ∀ (l : List Ty) {R : Type} (f : CurL l R) (s : List SV) (F : R → Prop) (K : List SV → R → Prop), appL l f s F → allL l f K →
    ∃ s' r, SV.vals s' = SV.vals s ∧ SV.cellsL s' = SV.cellsL s ∧ F r ∧ K s' r
  | [], _, f, [], F, K, h, ha => ⟨[], f, rfl, rfl, h, ha⟩
  | t :: l, _, f, s :: r, F, K, h, ha => by
      obtain ⟨s1, g, h1, h2, h3, h4⟩ := appT_all t f s _ _ h ha
      obtain ⟨s2, x, h5, h6, h7, h8⟩ := appL_all l g r F _ h3 h4
      exact ⟨s1 :: s2, x, by simp only [SV.vals, h1, h5], by simp only [SV.cellsL, h2, h6], h7, h8⟩
  | [], _, f, s :: r, F, K, h, ha => (show False from h).elim
  | t :: l, _, f, [], F, K, h, ha => (show False from h).elim
end


theorem getS_elim {n : Nat} {e : Env} {a : Act} (g : Good n e a) : ∀ (l : List (Nat × Ty)) (K : List SV → Prop), getS n e l K →
    ∃ r, K r ∧ ∀ r', SV.vals r' = SV.vals r → Good n (setS l r') a
  | [], K, h => ⟨[], h, fun r' _ => ⟨g.defers, g.size, fun t s ht hs => by cases r' <;> simp [setS, emp] at hs⟩⟩
  | (t, ty) :: l, K, h => by
    simp only [getS] at h
    split at h
    · rename_i s hs
      split at hs
      · rename_i ht
        obtain ⟨r, hk, hr⟩ := getS_elim g l _ h
        refine ⟨s :: r, hk, fun r' hv => ?_⟩
        cases r' with
        | nil => simp [SV.vals] at hv
        | cons s' r' =>
          simp only [SV.vals, List.cons.injEq] at hv
          refine ⟨g.defers, g.size, fun u x hu hx => ?_⟩
          simp only [setS, put] at hx
          by_cases e1 : u = t
          · subst e1
            rw [if_pos rfl] at hx; cases hx
            rw [g.has u s hu hs, hv.1]
          · rw [if_neg e1] at hx
            exact (hr r' hv.2).has u x hu hx
      · cases hs
    · exact h.elim

theorem seqK_sound {P : Program} {n : Nat} {all : Array Oper} {K : Env → Hp → Prop} {Q : Exit → Act → World → Prop} : ∀ (l : List Oper) (e : Env) (h : Hp) (a : Act) (w : World), seqK P n all l e h K → Good n e a → Cov h w →
    (∀ e' h' a' w', K e' h' → Good n e' a' → Cov h' w' → Grow h h' w w' → Q .normal a' w') → wpList P all Q l a w
  | [], e, h, a, w, hk, g, c, hQ => hQ e h a w hk g c (Grow.refl _ _)
  | o :: l, e, h, a, w, hk, g, c, hQ => by
    simp only [seqK, stepE_eq] at hk
    have hstep := runK_step (next := wpList P all Q l) (Q := Q) hk g c fun r h' w' hk' c' g' =>
      seqK_sound l _ _ _ _ hk' (g.put o.dst r) c' fun e'' h'' a'' w'' q1 q2 q3 q4 => hQ e'' h'' a'' w'' q1 q2 q3 (g'.trans q4)
    unfold wpList
    split
    · rename_i hw; rw [if_pos hw] at hstep; exact .inl hstep
    · rename_i hw; rw [if_neg hw] at hstep; exact hstep

/-- a loop with a number that goes down -/
theorem wp_loop_num {P : Program} {Q : Exit → Act → World → Prop} {a : Act} {w : World} {c : Code} (I : Act → World → Nat → Prop) {m : Nat} (h₀ : I a w m)
    (round : ∀ a w m, I a w m → c.wp P (Exit.then (fun a' w' => ∃ m', m' < m ∧ I a' w' m') Q) a w) : (Code.loop c).wp P Q a w := by
  intro b k cs
  have key : ∀ m a w, I a w m → ∃ e a' w', Q e a' w' ∧ Arrives P (lone (b.at a (.code c :: .inLoop c :: k)) cs w) b k cs e a' w' := by
    intro m
    induction m using Nat.strongRecOn with
    | _ m ih =>
      intro a w hI
      obtain ⟨e, a₁, w₁, hq, harr⟩ := round a w m hI b (.inLoop c :: k) cs
      cases e with
      | normal =>
        obtain ⟨m', hlt, hI₁⟩ := hq
        obtain ⟨e₂, a₂, w₂, hq₂, harr₂⟩ := ih m' hlt a₁ w₁ hI₁
        exact ⟨e₂, a₂, w₂, hq₂, .of_steps (Steps.trans harr (.one step_inLoop)) harr₂⟩
      | exit id => exact ⟨_, a₁, w₁, hq, .pass (x := .inLoop c) rfl (fun _ _ => .inl (by simp)) harr⟩
      | goto l => exact ⟨_, a₁, w₁, hq, .pass (x := .inLoop c) rfl (fun _ _ => .inl (by simp)) harr⟩
      | ret => exact ⟨_, a₁, w₁, hq, .pass (x := .inLoop c) rfl (fun _ _ => .inl (by simp)) harr⟩
      | panic ch => exact ⟨_, a₁, w₁, hq, .pass (x := .inLoop c) rfl (fun _ _ => .inl (by simp)) harr⟩
      | outgrown => exact ⟨_, a₁, w₁, hq, .pass (x := .inLoop c) rfl (fun _ _ => .inl (by simp)) harr⟩
  obtain ⟨e, a', w', hq, harr⟩ := key _ a w h₀
  exact ⟨e, a', w', hq, .of_steps (.one step_loop) harr⟩

/-- what is reached, told of the model's own slots and world -/
def Met (n : Nat) (Q : Post) (h : Hp) (w : World) : Exit → Act → World → Prop := fun x a' w' => ∃ e' h', Q x e' h' ∧ Good n e' a' ∧ Cov h' w' ∧ Grow h h' w w'

theorem Met.mono {n : Nat} {Q Q' : Post} {h h1 : Hp} {w w1 : World} (g : Grow h h1 w w1) (hq : ∀ x e h', Q x e h' → Q' x e h') {x : Exit} {a : Act} {w' : World} (hm : Met n Q h1 w1 x a w') : Met n Q' h w x a w' :=
  let ⟨e', h', h1, h2, h3, h4⟩ := hm; ⟨e', h', hq _ _ _ h1, h2, h3, g.trans h4⟩

theorem codeK_sound {P : Program} {n : Nat} {A : Ann} (hm : P.follows .mixedOrders = true) : ∀ (c : Code) (Q : Post) (e : Env) (h : Hp), codeK P n A c Q e h → ∀ (a : Act) (w : World), Good n e a → Cov h w →
    c.wp P (Met n Q h w) a w := by
  intro c
  induction c with
  | skip => exact fun Q e h hk a w g cv => wp_skip ⟨e, h, hk, g, cv, Grow.refl _ _⟩
  | region id ops draw =>
    intro Q e h hk a w g cv
    cases draw with
    | false => exact wp_region_list (seqK_sound _ _ _ _ _ hk g cv fun e' h' a' w' q1 q2 q3 q4 => ⟨e', h', q1, q2, q3, q4⟩)
    | true =>
      simp only [codeK] at hk
      split at hk
      · rename_i hfit
        exact region_draw hm hfit hk g cv fun e' h' a' w' q1 q2 q3 q4 => ⟨e', h', q1, q2, q3, q4⟩
      · exact hk.elim
  | seq x y ihx ihy =>
    intro Q e h hk a w g cv
    refine wp_seq ?_
    simp only [codeK] at hk
    split at hk
    · refine Code.wp_mono ?_ (ihx _ e h hk a w g cv)
      rintro x' a' w' ⟨e', h', hq, g', cv', gr⟩
      cases x' with
      | normal => exact Code.wp_mono (fun _ _ _ hmm => hmm.mono gr fun _ _ _ hh => hh) (ihy Q e' h' hq a' w' g' cv')
      | _ => exact ⟨e', h', hq, g', cv', gr⟩
    · rename_i live _
      obtain ⟨J, hfirst, hrest⟩ := hk
      refine Code.wp_mono ?_ (ihx _ e h hfirst a w g cv)
      rintro x' a' w' ⟨e', h', hq, g', cv', gr⟩
      cases x' with
      | normal =>
        obtain ⟨vs, hv, hgood⟩ := getS_elim g' _ _ hq
        obtain ⟨vs', I, h1, _, h3, h4⟩ := appL_all _ J vs _ _ hv hrest
        exact Code.wp_mono (fun _ _ _ hmm => hmm.mono gr fun _ _ _ hh => hh) (ihy Q _ h' (h4 h' h3) a' w' (hgood vs' h1) cv')
      | _ => exact ⟨e', h', hq, g', cv', gr⟩
  | cond c x y ihx ihy =>
    intro Q e h hk a w g cv
    simp only [codeK] at hk
    split at hk
    · rename_i t
      split at hk
      · rename_i b hb
        split at hb
        · rename_i ht
          have he : a.eval (.tmp t) = .bool b := g.has t _ ht hb
          have hp := put_self hb
          cases b with
          | true =>
            rw [ifB, cond_true, hp] at hk
            exact wp_cond_true he (ihx Q e h hk a w g cv)
          | false =>
            rw [ifB, cond_false, hp] at hk
            exact wp_cond_false he (ihy Q e h hk a w g cv)
        · cases hb
      · exact hk.elim
    · rename_i b
      cases b with
      | true => exact wp_cond_true rfl (ihx Q e h hk a w g cv)
      | false => exact wp_cond_false rfl (ihy Q e h hk a w g cv)
    · exact hk.elim
  | block id c ih =>
    intro Q e h hk a w g cv
    refine wp_block (Code.wp_mono ?_ (ih _ e h hk a w g cv))
    rintro x' a' w' ⟨e', h', hq, g', cv', gr⟩
    cases x' with
    | exit id' =>
      simp only [blockK] at hq
      simp only [Exit.inBlock]
      split at hq
      · rename_i hid; rw [if_pos hid]; exact ⟨e', h', hq, g', cv', gr⟩
      · rename_i hid; rw [if_neg hid]; exact ⟨e', h', hq, g', cv', gr⟩
    | _ => exact ⟨e', h', hq, g', cv', gr⟩
  | exit id => exact fun Q e h hk a w g cv => wp_exit ⟨e, h, hk, g, cv, Grow.refl _ _⟩
  | ret => exact fun Q e h hk a w g cv => wp_ret ⟨e, h, hk, g, cv, Grow.refl _ _⟩
  | loop c ih =>
    intro Q e h hk a w g cv
    simp only [codeK] at hk
    split at hk
    · rename_i live _
      obtain ⟨J, hstart, hround⟩ := hk
      obtain ⟨vs, hv, hgood⟩ := getS_elim g _ _ hstart
      obtain ⟨vs', I, h1, _, ⟨m, h3⟩, h4⟩ := appL_all _ J vs _ _ hv hround
      refine wp_loop_num (fun a' w' m' => ∃ vs' I h', I h' m' ∧ (∀ h m, I h m → codeK P n A c (thenK (fun e' h' => getS n e' live fun vs' => appL (tyz live) J vs' fun I' => ∃ m', m' < m ∧ I' h' m') Q) (setS live vs') h) ∧
        Good n (setS live vs') a' ∧ Cov h' w' ∧ Grow h h' w w') (m := m) ⟨vs', I, h, h3, h4, hgood vs' h1, cv, Grow.refl _ _⟩ ?_
      rintro a₁ w₁ m₁ ⟨vs₁, I₁, h₁, hI₁, hb₁, g₁, cv₁, gr₁⟩
      refine Code.wp_mono ?_ (ih _ _ _ (hb₁ h₁ m₁ hI₁) a₁ w₁ g₁ cv₁)
      rintro x' a' w' ⟨e', h', hq, g', cv', gr⟩
      cases x' with
      | normal =>
        obtain ⟨vs2, hv2, hgood2⟩ := getS_elim g' _ _ hq
        obtain ⟨vs3, I3, q1, _, ⟨m3, hlt, q3⟩, q4⟩ := appL_all _ J vs2 _ _ hv2 hround
        exact ⟨m3, hlt, vs3, I3, h', q3, q4, hgood2 vs3 q1, cv', gr₁.trans gr⟩
      | _ => exact ⟨e', h', hq, g', cv', gr₁.trans gr⟩
    · exact hk.elim
  | rangeFunc f ps x y _ _ => exact fun Q e h hk => hk.elim
  | scope c _ => exact fun Q e h hk => hk.elim
  | label l => exact fun Q e h hk => hk.elim
  | goto l => exact fun Q e h hk => hk.elim
  | refuse s => exact fun Q e h hk => hk.elim

/-! ## Results, and the call -/
def resK (P : Program) (n : Nat) (e : Env) (h : Hp) : List ResultVar → (List SV → Prop) → Prop
  | [], K => K []
  | .tmp t :: l, K => match (if t < n then e t else none) with
    | some s => resK P n e h l fun r => K (s :: r)
    | none => False
  | .cell t T :: l, K => match (if t < n then e t else none) with
    | some (.p q) => ldK P T h q fun s => resK P n e h l fun r => K (s :: r)
    | _ => False

/-- what is handed back -/
def backK (P : Program) (n : Nat) (rs : Array ResultVar) (Q : Value → Hp → Prop) : Post := fun x e h =>
  match x with
  | .normal | .ret => resK P n e h rs.toList fun r => match r with | [s] => Q s.val h | r => Q (.tuple (SV.vals r).toArray) h
  | _ => False

/-- the slots that a call begins with -/
def argE : Nat → List SV → Env
  | _, [] => emp
  | i, s :: l => put (argE (i + 1) l) i s

theorem argE_get : ∀ (l : List SV) (i t : Nat) (s : SV), argE i l t = some s → i ≤ t ∧ l[t - i]? = some s
  | [], i, t, s, h => by simp [argE, emp] at h
  | x :: l, i, t, s, h => by
    simp only [argE, put] at h
    by_cases e1 : t = i
    · subst e1; simp at h ⊢; exact h
    · rw [if_neg e1] at h
      obtain ⟨h1, h2⟩ := argE_get l (i + 1) t s h
      refine ⟨by omega, ?_⟩
      rw [show t - i = (t - (i + 1)) + 1 by omega]
      simpa using h2

theorem vals_get : ∀ (l : List SV) (i : Nat) (s : SV), l[i]? = some s → (SV.vals l)[i]? = some s.val
  | [], i, s, h => by simp at h
  | x :: l, 0, s, h => by simp at h; subst h; rfl
  | x :: l, i + 1, s, h => by simpa [SV.vals] using vals_get l i s (by simpa using h)
theorem vals_length : ∀ (l : List SV), (SV.vals l).length = l.length
  | [] => rfl
  | x :: l => by simp [SV.vals, vals_length l]

theorem resK_run {P : Program} {n : Nat} {e : Env} {a : Act} (g : Good n e a) {h : Hp} {w : World} (c : Cov h w) : ∀ (l : List ResultVar) (K : List SV → Prop), resK P n e h l K →
    ∃ r, K r ∧ (l.mapM fun (x : ResultVar) => (match x with | .tmp t => (pure (a.tmps.getD t undef) : Sem Value) | .cell b t => (do loadVar t (← asAddr (a.tmps.getD b undef))))).run P w = .ok (SV.vals r) w
  | [], K, hk => ⟨[], hk, by simp [SV.vals]⟩
  | .tmp t :: l, K, hk => by
    simp only [resK] at hk
    split at hk
    · rename_i s hs
      split at hs
      · rename_i ht
        obtain ⟨r, hk, hr⟩ := resK_run g c l _ hk
        refine ⟨s :: r, hk, ?_⟩
        simp only [List.mapM_cons, Sem.run_bind, Sem.run_pure, Result.andThen_ok, hr, SV.vals, g.has t s ht hs]
      · cases hs
    · exact hk.elim
  | .cell t T :: l, K, hk => by
    simp only [resK] at hk
    split at hk
    · rename_i q hs
      split at hs
      · rename_i ht
        obtain ⟨s, hk, hst, h1, h2⟩ := ldK_elim hk
        obtain ⟨r, hk, hr⟩ := resK_run g c l _ hk
        refine ⟨s :: r, hk, ?_⟩
        have hA : (asAddr (a.tmps.getD t undef)).run P w = .ok q.addr w := by rw [g.has t _ ht hs]; rfl
        simp only [List.mapM_cons, Sem.run_bind, hA, Sem.run_pure, Result.andThen_ok, run_loadVar c h1 h2 hst, hr, SV.vals]
      · cases hs
    · exact hk.elim

theorem results_run {P : Program} {n : Nat} {e : Env} {a : Act} (g : Good n e a) {h : Hp} {w : World} (c : Cov h w) {fn : Func} {Q : Value → Hp → Prop} {x : Exit} (hk : backK P n fn.results Q x e h) :
    (x = .normal ∨ x = .ret) ∧ ∃ v, (results fn a.tmps).run P w = .ok v w ∧ Q v h := by
  have hx : x = .normal ∨ x = .ret := by
    cases x <;> first | exact .inl rfl | exact .inr rfl | exact (show False from hk).elim
  refine ⟨hx, ?_⟩
  have hk' : resK P n e h fn.results.toList fun r => match r with | [s] => Q s.val h | r => Q (.tuple (SV.vals r).toArray) h := by
    rcases hx with rfl | rfl <;> exact hk
  obtain ⟨r, hk2, hr⟩ := resK_run g c _ _ hk'
  have hmap : (fn.results.mapM fun (x : ResultVar) => (match x with | .tmp t => (pure (a.tmps.getD t undef) : Sem Value) | .cell b t => (do loadVar t (← asAddr (a.tmps.getD b undef))))).run P w = .ok (SV.vals r).toArray w := by
    obtain ⟨l0, hl0⟩ : ∃ l, fn.results = List.toArray l := ⟨fn.results.toList, by simp⟩
    rw [hl0] at hr ⊢
    rw [List.mapM_toArray]
    simp only [Sem.run_map, hr, Result.andThen_ok]
  unfold results
  simp only [Sem.run_bind]
  erw [hmap]
  simp only [Result.andThen_ok, Sem.run_pure]
  cases r with
  | nil => exact ⟨_, rfl, hk2⟩
  | cons s r =>
    cases r with
    | nil => exact ⟨_, rfl, hk2⟩
    | cons s2 r => exact ⟨_, rfl, hk2⟩

theorem calls_of_codeK {P : Program} {f : FuncId} {fn : Func} {c : Code} (A : Ann) (hm : P.follows .mixedOrders = true) (hf : P.funcs[f]? = some fn) (hb : fn.body = some c) (hok : okFn P f = true)
    (args : List SV) (hn : args.length ≤ fn.ntmps) {h : Hp} {Q : Value → Hp → Prop} (hk : codeK P fn.ntmps A c (backK P fn.ntmps fn.results Q) (argE 0 args) h) : callK P f (SV.vals args) h Q := by
  refine ⟨hok, fun w cv => calls_of_wp hf hb (Code.wp_mono ?_ (codeK_sound hm c _ _ h hk _ w ?_ cv))⟩
  · rintro x a w' ⟨e', h', hq, g', cv', gr⟩
    obtain ⟨hx, v, hr, hQ⟩ := results_run g' cv' hq
    have : a.defers = [] ∧ ∃ v, (results fn a.tmps).run P w' = .ok v w' ∧ ∃ v' h', Ending.returned v = .returned v' ∧ Q v' h' ∧ Cov h' w' ∧ Grow h h' w w' :=
      ⟨g'.defers, v, hr, v, h', rfl, hQ, cv', gr⟩
    rcases hx with rfl | rfl <;> exact this
  · refine ⟨rfl, by simp [vals_length]; omega, fun t s ht hs => ?_⟩
    obtain ⟨_, h2⟩ := argE_get _ _ _ _ hs
    have h3 := vals_get _ _ _ h2
    simp only [Nat.sub_zero] at h3
    simp only [Array.getD_eq_getD_getElem?]
    rw [Array.getElem?_append_left (by
      have := (List.getElem?_eq_some_iff.1 h3).1
      simpa using this)]
    simp [h3]


/-- a function's body, from its arguments -/
def bodyK (P : Program) (fn : Func) (A : Ann) (Q : Value → Hp → Prop) (args : List SV) (h : Hp) : Prop :=
  match fn.body with
  | some c => codeK P fn.ntmps A c (backK P fn.ntmps fn.results Q) (argE 0 args) h
  | none => False

theorem calls_of_bodyK {P : Program} {f : FuncId} {fn : Func} (A : Ann) (hm : P.follows .mixedOrders = true) (hf : P.funcs[f]? = some fn) (hok : okFn P f = true)
    (args : List SV) (hn : args.length ≤ fn.ntmps) {h : Hp} {Q : Value → Hp → Prop} (hk : bodyK P fn A Q args h) : callK P f (SV.vals args) h Q := by
  unfold bodyK at hk
  split at hk
  · rename_i c hc
    exact calls_of_codeK A hm hf hc hok args hn hk
  · exact hk.elim

end Go.Sh

/- Chapter 11's laws: what their raw numbers stand for. -/
import Derived.Test.YtolgmdbjomlcjaaGreatStoN
import Derived.Test.YtolgmdbjomlcjaaGreatStoK
import Derived.Test.YtolgmdbjomlcjaaGreatPla
namespace Go.Sh
def pickN (c : Int) (n : Nat) : Nat := (if c < 0 then -(c + 1) else c).toNat % n
theorem pickN_lt (c : Int) {n : Nat} (h : 0 < n) : pickN c n < n := Nat.mod_lt _ h
def dataV (n : UInt64) : Dat := Vector.ofFn fun i : Fin 8 => n * UInt64.ofNat (2 * i.val + 3) + UInt64.ofNat i.val
def opN (c : Int) : Int := [0, 1, 1, 3].getD (pickN c 4) 0
theorem opN_ok (c : Int) : opN c = 0 ∨ opN c = 1 ∨ opN c = 3 := by
  have := pickN_lt c (n := 4) (by decide)
  unfold opN
  have h : pickN c 4 = 0 ∨ pickN c 4 = 1 ∨ pickN c 4 = 2 ∨ pickN c 4 = 3 := by omega
  rcases h with h | h | h | h <;> rw [h] <;> simp
end Go.Sh
namespace Go.Proofs.Tryz
open Go Go.Sh Go.RowKit
set_option maxRecDepth 8000
theorem law_pick {c : Int} (h1 : -9223372036854775808 ≤ c) (h2 : c ≤ 9223372036854775807) {n : Nat} (hn : 0 < n) : PureC prog 20 [.int .i64 c, .int .i64 n] (.int .i64 (pickN c n)) := by
  intro h
  refine c20 _ _ ?_
  unfold G20
  refine ifD (fun hlt => ⟨by omega, ?_, Keep.refl h⟩) fun hge => ⟨by omega, ?_, Keep.refl h⟩
  · have e : w64 (0 - w64 (c + 1)) = ((-(c + 1)).toNat : Nat) := by rw [w64_id (n := c + 1) (by omega) (by omega), w64_id (by omega) (by omega)]; omega
    rw [e]; unfold pickN; rw [if_pos hlt]
    congr 1
  · obtain ⟨k, rfl⟩ := Int.eq_ofNat_of_zero_le (show 0 ≤ c by omega)
    unfold pickN; rw [if_neg hge]
    congr 1
theorem law_op {c : Int} (h1 : -9223372036854775808 ≤ c) (h2 : c ≤ 9223372036854775807) : PureC prog 15 [.int .i64 c] (.int .i64 (opN c)) := by
  intro h
  have hp := pickN_lt c (n := 4) (by decide)
  refine c15 _ ?_
  unfold G15
  refine newC fun b1 h1' f1 e1 k1 => ?_
  refine (law_pick h1 h2 (n := 4) (by decide)).to fun h3 k3 => ⟨_, rfl, ⟨b1, 0⟩, rfl, by omega, by omega, _, ?_, rfl, k1.trans k3⟩
  have e3 := k3.get e1
  rw [show 0 + Int.toNat ((pickN c 4 : Nat) : Int) * 1 = pickN c 4 by omega]
  unfold opN
  have h : pickN c 4 = 0 ∨ pickN c 4 = 1 ∨ pickN c 4 = 2 ∨ pickN c 4 = 3 := by omega
  rcases h with h | h | h | h <;> rw [h] <;> exact rd1 e3 rfl
theorem law_data (n : UInt64) : PureC prog 17 [vu n] (wv (dataV n)) := by
  intro h
  refine c17 _ ?_
  unfold G17
  refine newC fun b1 h1 f1 e1 k1 => newC fun b2 h2 f2 e2 k2 => ?_
  have k02 := k1.trans k2
  have f20 := k1.free f2
  have n21 : b2 ≠ b1 := fun e => by rw [e, e1] at f2; cases f2
  let D : Nat → Dat := fun i => Vector.ofFn fun j : Fin 8 => if j.val < i then n * UInt64.ofNat (2 * j.val + 3) + UInt64.ofNat j.val else 0
  refine ⟨fun x1 q1 q2 n1 g kk => n = x1 ∧ q1 = ⟨b1, 0⟩ ∧ q2 = ⟨b2, 0⟩ ∧ ∃ i : Nat, n1 = i ∧ i ≤ 8 ∧ kk = 8 - i ∧ g b2 = some (.cells (SV.cells (.ws 8 (D i))).toArray 40 (0, 0)) ∧ g b1 = h2 b1 ∧ Keep h g,
    ⟨8, rfl, rfl, rfl, 0, rfl, by omega, rfl, ?_, rfl, k02⟩, ?_⟩
  · rw [e2]; rfl
  rintro x1 q1 q2 n1 g kk ⟨rfl, rfl, rfl, i, rfl, hi, rfl, g2, g1, kg⟩
  refine ifD (fun hlt => ?_) fun hge => ?_
  · have hi' : i < 8 := by omega
    refine ⟨by omega, by omega, ?_⟩
    rw [show 0 + Int.toNat (i : Int) * 1 = i by omega, show w64 (w64 (2 * (i : Int)) + 3) = ((2 * i + 3 : Nat) : Int) by rw [w64_id (n := 2 * (i : Int)) (by omega) (by omega), w64_id (by omega) (by omega)]; omega, toU_eq (by omega), toU_eq (by omega)]
    refine wbS kg f20 g2 hi' fun g' kg' g2' o' => ⟨8 - (i + 1), by omega, rfl, rfl, rfl, i + 1, w64_id (by omega) (by omega), by omega, rfl, ?_, (o' _ (Ne.symm n21)).trans g1, kg'⟩
    rw [g2']
    have : (D i).set i (n * UInt64.ofNat (2 * i + 3) + UInt64.ofNat i) = D (i + 1) := by
      apply Vector.ext; intro j hj
      simp only [D, Vector.getElem_set, Vector.getElem_ofFn]
      by_cases c : i = j
      · subst c; rw [if_pos rfl, if_pos (by omega)]
      · rw [if_neg c]
        by_cases c2 : j < i
        · rw [if_pos c2, if_pos (by omega)]
        · rw [if_neg c2, if_neg (by omega)]
    rw [this]
  · have hi' : i = 8 := by omega
    subst hi'
    have hD : D 8 = dataV n := by
      apply Vector.ext; intro j hj
      simp only [D, dataV, Vector.getElem_ofFn]
      rw [if_pos hj]
    rw [hD] at g2
    refine ⟨_, wb_rd g2, wbW (n := 8) kg f1 (g1.trans (k2.get e1)) rfl fun g' kg' g1' _ => ⟨_, wb_rd g1', rfl, kg'⟩⟩
end Go.Proofs.Tryz

/- Chapter 11's laws: a store that is made for them. -/
namespace Go.Proofs.Tryz
open Go Go.Sh Go.RowKit
set_option maxRecDepth 8000
def mkG (m s t L : Nat) : SP := ⟨m, L, s, t, fun h => roundE (plc (m - 2 * h) s t), 1⟩
theorem mkG_ok {m s t L : Nat} (hm : m ≤ 10) (hs : 1 ≤ s ∧ s ≤ 8) (ht : 1 ≤ t ∧ t ≤ 64) (hL : 1 ≤ L ∧ L ≤ 4) : (mkG m s t L).Ok := by
  refine ⟨hm, hL, fun h => ?_⟩
  have lo : LevOk (m - 2 * h) (s : Int) (t : Int) := ⟨by omega, by omega, by omega⟩
  have hb := lo.plcB
  have htb := lo.tblB
  refine ⟨(show m - 2 * h ≤ 10 by omega), hs, ht, ?_, ?_⟩
  · show roundE (plc (m - 2 * h) s t) ≤ 8
    exact roundE_le (by omega) (by simp; omega)
  · have e : tbl (m - 2 * h) s t = 2 ^ roundE (plc (m - 2 * h) s t) := roundI_E _
    have e2 : plc (m - 2 * h) s t = (((mkG m s t L).lp h).n : Nat) := plc_n ((mkG m s t L).lp h)
    show ((mkG m s t L).lp h).n ≤ 2 ^ roundE (plc (m - 2 * h) s t)
    have e3 : ((2 ^ roundE (plc (m - 2 * h) s t) : Nat) : Int) = 2 ^ roundE (plc (m - 2 * h) s t) := by simp
    refine Int.ofNat_le.1 ?_
    rw [e3, ← e2, ← e]; exact htb.1
def cfgG (n : Int) : SP := mkG (pickN n 6) (1 + pickN (n.tdiv 6) 3) (1 + pickN (n.tdiv 18) 8) (1 + pickN (n.tdiv 144) 3)
theorem cfgG_ok (n : Int) : (cfgG n).Ok := by
  have h1 := pickN_lt n (n := 6) (by decide)
  have h2 := pickN_lt (n.tdiv 6) (n := 3) (by decide)
  have h3 := pickN_lt (n.tdiv 18) (n := 8) (by decide)
  have h4 := pickN_lt (n.tdiv 144) (n := 3) (by decide)
  exact mkG_ok (by omega) (by omega) (by omega) (by omega)
theorem tdiv_in {n k : Int} (hk : 2 ≤ k) (h1 : -9223372036854775808 ≤ n) (h2 : n ≤ 9223372036854775807) : -9223372036854775808 ≤ n.tdiv k ∧ n.tdiv k ≤ 9223372036854775807 := by
  have h : (n.tdiv k).natAbs = n.natAbs / k.natAbs := Int.natAbs_tdiv n k
  have h3 : n.natAbs / k.natAbs ≤ n.natAbs / 2 := Nat.div_le_div_left (by omega) (by decide)
  omega
theorem law_config {n : Int} (h1 : -9223372036854775808 ≤ n) (h2 : n ≤ 9223372036854775807) : PureC prog 13 [.int .i64 n] (v4 (cfgG n).m (cfgG n).s (cfgG n).t (cfgG n).L) := by
  intro h
  have p1 := pickN_lt n (n := 6) (by decide)
  have p2 := pickN_lt (n.tdiv 6) (n := 3) (by decide)
  have p3 := pickN_lt (n.tdiv 18) (n := 8) (by decide)
  have p4 := pickN_lt (n.tdiv 144) (n := 3) (by decide)
  have t1 := tdiv_in (k := 6) (by decide) h1 h2
  have t2 := tdiv_in (k := 18) (by decide) h1 h2
  have t3 := tdiv_in (k := 144) (by decide) h1 h2
  refine c13 _ ?_
  unfold G13
  refine newC fun b1 h1' f1 e1 k1 => ⟨by decide, by decide, by decide, ?_⟩
  rw [w64_id t1.1 t1.2, w64_id t2.1 t2.2, w64_id t3.1 t3.2]
  refine (law_pick h1 h2 (n := 6) (by decide)).to fun g1 l1 => ⟨_, rfl, by omega, ?_⟩
  refine (law_pick t1.1 t1.2 (n := 3) (by decide)).to fun g2 l2 => ⟨_, rfl, ?_⟩
  refine (law_pick t2.1 t2.2 (n := 8) (by decide)).to fun g3 l3 => ⟨_, rfl, ?_⟩
  refine (law_pick t3.1 t3.2 (n := 3) (by decide)).to fun g4 l4 => ⟨_, rfl, ?_⟩
  have l14 := (l1.trans l2).trans (l3.trans l4)
  have hmin : min (Int.toNat ((pickN n 6 : Nat) : Int)) 64 = pickN n 6 := by omega
  have hpw : 2 ^ pickN n 6 ≤ 2 ^ 5 := Nat.pow_le_pow_right (by decide) (by omega)
  have hpI : (2 : Int) ^ pickN n 6 = ((2 ^ pickN n 6 : Nat) : Int) := by simp
  have hq : -9223372036854775808 ≤ (2 : Int) ^ pickN n 6 ∧ (2 : Int) ^ pickN n 6 ≤ 9223372036854775807 := by
    rw [hpI]; generalize 2 ^ pickN n 6 = y at hpw; omega
  rw [hmin]
  refine stW (k1.trans l14) f1 (l14.get e1) rfl fun g5 l5 e5 _ => ⟨_, rd1 e5 rfl, _, rd1 e5 rfl, _, rd1 e5 rfl, _, rd1 e5 rfl, ?_, l5⟩
  rw [Int.one_mul, w64_id (n := (2 : Int) ^ pickN n 6) hq.1 hq.2, w64_id (n := 1 + ((pickN (n.tdiv 6) 3 : Nat) : Int)) (by omega) (by omega), w64_id (n := 1 + ((pickN (n.tdiv 18) 8 : Nat) : Int)) (by omega) (by omega), w64_id (n := 1 + ((pickN (n.tdiv 144) 3 : Nat) : Int)) (by omega) (by omega)]
  show _ = v4 (pickN n 6) ((1 + pickN (n.tdiv 6) 3 : Nat) : Int) ((1 + pickN (n.tdiv 18) 8 : Nat) : Int) (1 + pickN (n.tdiv 144) 3)
  simp
/-- the sizes of the regions, a cell ahead -/
def levN (m s t h : Nat) : List Nat := [s * (2 ^ (m - 2 * h + 1) - 1), t, 2 ^ roundE (plc (m - 2 * h) s t)]
def sizesN (m s t L n : Nat) : List Nat := 1 :: 2 ^ (m - 2 * (L - 1)) :: (List.range n).flatMap (levN m s t)
theorem sizesN_succ (m s t L n : Nat) : sizesN m s t L (n + 1) = sizesN m s t L n ++ levN m s t n := by simp [sizesN, List.range_succ]
theorem sizesN_length (m s t L n : Nat) : (sizesN m s t L n).length = 3 * n + 2 := by
  induction n with
  | zero => rfl
  | succ n ih => rw [sizesN_succ, List.length_append, ih]; simp [levN]; omega
theorem sizesN_get (m s t L : Nat) : ∀ n h j, h < n → j < 3 → (sizesN m s t L n).getD (2 + 3 * h + j) 0 = (levN m s t h).getD j 0
  | 0, h, j, hh, _ => by omega
  | n + 1, h, j, hh, hj => by
    rw [sizesN_succ]
    have hl := sizesN_length m s t L n
    by_cases c : h < n
    · have : (sizesN m s t L n ++ levN m s t n).getD (2 + 3 * h + j) 0 = (sizesN m s t L n).getD (2 + 3 * h + j) 0 := by
        simp only [List.getD]; rw [List.getElem?_append_left (by omega)]
      rw [this]; exact sizesN_get m s t L n h j c hj
    · have : h = n := by omega
      subst this
      simp only [List.getD]
      rw [List.getElem?_append_right (by omega), hl, show 2 + 3 * h + j - (3 * h + 2) = j by omega]
theorem levN_cast {m s t : Nat} (h : Nat) : levL m s t h = (levN m s t h).map fun n : Nat => (n : Int) := by
  have hp : 1 ≤ 2 ^ (m - 2 * h) := Nat.one_le_two_pow
  have e : tbl (m - 2 * h) s t = 2 ^ roundE (plc (m - 2 * h) s t) := roundI_E _
  unfold levL levN
  rw [e]
  simp only [List.map_cons, List.map_nil]
  rw [Nat.pow_succ, Int.natCast_mul, Int.natCast_sub (by omega)]
  simp [Int.mul_comm]
theorem sizesN_cast (m s t L : Nat) : ∀ n, (1 : Int) :: sizesL m s t L n = (sizesN m s t L n).map fun n : Nat => (n : Int)
  | 0 => by simp [sizesL, sizesN]
  | n + 1 => by rw [sizesL_succ, sizesN_succ, List.map_append, ← sizesN_cast m s t L n, levN_cast]; rfl
end Go.Proofs.Tryz

/- Chapter 11's laws: what is made for them. -/
namespace Go.Proofs.Tryz
open Go Go.Sh Go.RowKit
set_option maxRecDepth 8000
def S00 : SSt := ⟨fun _ _ => cel0, 0, fun _ => false, fun _ => [], []⟩
abbrev nilS : Sl := ⟨none, 0, 0, none⟩
theorem law_made {m s t L : Nat} (hm : m ≤ 8) (hs : 1 ≤ s ∧ s ≤ 8) (ht : 1 ≤ t ∧ t ≤ 64) (hL : 1 ≤ L ∧ L ≤ 4) {h : Hp} {ws : List UInt64} {sw : Sl} (rw_ : RdS vu h sw ws) (hlw : ws.length * 8 ≤ 140737488355328) :
    callK prog 14 [v4 m s t L, vs sw] h fun v h' => ∃ B : StB, v = .tuple #[vp ⟨B.m.b, 0⟩, vp ⟨B.tb, 0⟩, vp ⟨B.sb, 0⟩] ∧ StR (mkG m s t L) ws B S00 [] nilS nilS h' ∧ StM (mkG m s t L) B ∧ (∀ x, SFo (mkG m s t L) B nilS nilS x → h x = none) ∧ Keep h h' := by
  have o := mkG_ok (m := m) (s := s) (t := t) (L := L) (by omega) hs ht hL
  have so : StOk m s t L := o.st
  refine c14 _ _ _ _ _ ?_
  unfold G14
  refine newC fun b1 h1 f1 e1 k1 => newC fun b2 h2 f2 e2 k2 => ?_
  have c1 := k2.get e1
  have f20 := k1.free f2
  have n21 : b2 ≠ b1 := fun e => by rw [e, e1] at f2; cases f2
  refine ⟨_, rd1 c1 rfl, _, rd1 c1 rfl, _, rd1 c1 rfl, _, rd1 c1 rfl, ?_⟩
  refine (store_sizes so h2).mono ?_
  rintro _ h3 ⟨s1, rfl, o1, k3⟩
  have k03 := (k1.trans k2).trans k3
  have ob : OwnS iv h h3 ⟨some ⟨b2, 0⟩, 1, 1, none⟩ [1] := OwnS.newE f20 (k3.get e2) rfl rfl
  have hsl := sizesL_length m s t L L
  refine ⟨s1, rfl, OwnS.app rtI iv_one ob o1.rd (fun b hb => k03.free hb) (by simp [hsl]; omega) (by decide) ?_⟩
  intro s2 h4 o4 off4 _ _
  have k04 := keep_appS ob k03 off4
  rw [show [(1 : Int)] ++ sizesL m s t L L = (1 : Int) :: sizesL m s t L L from rfl, sizesN_cast] at o4
  have hn := sizesN_length m s t L L
  refine (mem_new o4.rd (by omega) (by omega) ?_).mono ?_
  · intro n hmem
    unfold sizesN at hmem
    simp only [List.mem_cons, List.mem_flatMap, List.mem_range] at hmem
    have hp : ∀ a, a ≤ 8 → 1 ≤ 2 ^ a ∧ 2 ^ a ≤ 256 := fun a ha => ⟨Nat.one_le_two_pow, Nat.pow_le_pow_right (n := 2) (by decide) ha⟩
    rcases hmem with rfl | rfl | ⟨i, _, hi⟩
    · omega
    · have := hp (m - 2 * (L - 1)) (by omega); omega
    · unfold levN at hi
      simp only [List.mem_cons, List.not_mem_nil, or_false] at hi
      rcases hi with rfl | rfl | rfl
      · have h1 := hp (m - 2 * i) (by omega)
        rw [Nat.pow_succ]
        generalize 2 ^ (m - 2 * i) = y at *
        have e2 : s * (y * 2 - 1) ≤ 8 * 511 := Nat.mul_le_mul hs.2 (by omega)
        have e3 : 1 * 1 ≤ s * (y * 2 - 1) := Nat.mul_le_mul hs.1 (by omega)
        omega
      · omega
      · have := hp (roundE (plc (m - 2 * i) s t)) (o.lev i).E; omega
  rintro _ h5 ⟨TM, mm, rfl, M, hnr, hrn, fM, k5⟩
  have k05 := k04.trans k5
  refine ⟨some ⟨mm.b, 0⟩, _, rfl, ?_⟩
  refine (tape_new (rw_.keep k05) hlw).mono ?_
  rintro _ h6 ⟨TT, tb, tw, rfl, tp, ftb, ftw, k6⟩
  refine ⟨some ⟨tb, 0⟩, rfl, ifB_neg rfl (ifB_neg rfl ?_)⟩
  have k06 := k05.trans k6
  have c6 : h6 b1 = _ := k6.get (k5.get ((off4 b1 (by rw [k3.get c1]; simp) fun q hq e => by cases hq; exact n21 e.symm).trans (k3.get c1)))
  refine ⟨_, rd1 c6 rfl, _, rd1 c6 rfl, _, rd1 c6 rfl, _, rd1 c6 rfl, ?_⟩
  have M6 := M.keep k6
  have lvm : ∀ i, i < (mkG m s t L).L → LvM mm ((mkG m s t L).lp i) ((mkG m s t L).base i) := fun i hi => by
    have hi : i < L := hi
    have eb : (mkG m s t L).base i = 2 + 3 * i + 0 := by show 1 + 1 + 3 * i = _; omega
    rw [eb]
    refine ⟨by omega, by rw [hnr, hn]; omega, ?_, ?_, ?_, rfl⟩
    · rw [hrn, sizesN_get m s t L L i 0 hi (by decide)]; rfl
    · rw [hrn, show 2 + 3 * i + 0 + 1 = 2 + 3 * i + 1 by omega, sizesN_get m s t L L i 1 hi (by decide)]; rfl
    · rw [hrn, show 2 + 3 * i + 0 + 2 = 2 + 3 * i + 2 by omega, sizesN_get m s t L L i 2 hi (by decide)]; rfl
  have twd : tw ≠ tb → h6 tw ≠ none := fun hne => (ftw hne).2
  refine (store_new (G := mkG m s t L) (u := 0) o lvm (by rw [hnr, hn]; show 1 < 3 * L + 2; omega) (by rw [hrn]; rfl) M6 tp twd ?_ ?_).mono ?_
  · exact fun hmf => M.dom hmf ftb
  · exact fun hne hmf => M.dom hmf (ftw hne).1
  rintro _ h7 ⟨B, rfl, hBm, hBt, hBw, RB, stB, fB, k7⟩
  refine ⟨some ⟨B.sb, 0⟩, _, rfl, B, by rw [hBm, hBt]; rfl, RB, stB, ?_, k06.trans k7⟩
  rintro x (hx | ⟨p, hx⟩)
  · rw [hBm] at hx; exact k04.free (fM x hx)
  · by_cases c1 : p = .tb
    · subst c1
      have hx : x = B.tb := hx
      rw [hx, hBt]; exact k05.free ftb
    · by_cases c2 : p = .tw
      · subst c2
        have h1 := hx.1; have h2 := hx.2
        rw [hBw] at h1 h2; rw [hBt] at h2
        rw [h1]; exact k05.free (ftw h2).1
      · exact k06.free (fB p x c1 c2 hx)
end Go.Proofs.Tryz

/- Chapter 11's laws: a run of accesses. -/
namespace Go.Sh
theorem goDn_pre {G : SP} {w : Nat → UInt64} {u : Nat} {op : LOp} {x : Nat} : ∀ h v p S, ∃ l, (goDn G w u op x h v p S).1.gone = S.gone ++ l
  | 0, v, p, S => ⟨_, rfl⟩
  | h + 1, v, p, S => by
    obtain ⟨l, e⟩ := goDn_pre (G := G) (w := w) (u := u) (op := op) (x := x) h (dget (G.old (h + 1) (bid x (h + 1)) (way v p (G.leaf w (h + 1) (G.fp u (h + 1) + 1), G.fp u (h + 1) + 1)).1 { S with gone := S.gone ++ [way v p (G.leaf w (h + 1) (G.fp u (h + 1) + 1), G.fp u (h + 1) + 1)] }).1 (2 * (x / 4 ^ h % 4))) (dget (G.old (h + 1) (bid x (h + 1)) (way v p (G.leaf w (h + 1) (G.fp u (h + 1) + 1), G.fp u (h + 1) + 1)).1 { S with gone := S.gone ++ [way v p (G.leaf w (h + 1) (G.fp u (h + 1) + 1), G.fp u (h + 1) + 1)] }).1 (2 * (x / 4 ^ h % 4) + 1))
      (G.acc (h + 1) (.part (2 * (x / 4 ^ h % 4)) (UInt64.ofNat (G.leaf w h (G.fp u h) + 1)) (UInt64.ofNat (G.fp u h))) (bid x (h + 1)) (way v p (G.leaf w (h + 1) (G.fp u (h + 1) + 1), G.fp u (h + 1) + 1)).1 (G.leaf w (h + 1) (G.fp u (h + 1))) { S with gone := S.gone ++ [way v p (G.leaf w (h + 1) (G.fp u (h + 1) + 1), G.fp u (h + 1) + 1)] })
    exact ⟨[way v p (G.leaf w (h + 1) (G.fp u (h + 1) + 1), G.fp u (h + 1) + 1)] ++ l, e.trans (List.append_assoc ..)⟩
theorem stAcc_pre {G : SP} {w : Nat → UInt64} {op : LOp} {x : Nat} {S : SSt} : ∃ l, (stAcc G w op x S).1.gone = S.gone ++ l := goDn_pre ..
end Go.Sh
namespace Go.Proofs.Tryz
open Go Go.Sh Go.RowKit
set_option maxRecDepth 8000
theorem oneEv_congr {m : Nat} {s t : Int} {L : Nat} {first : Int} {ls ls' : List Int} : ∀ n, (∀ i, i < n → ls.getD i 0 = ls'.getD i 0) → oneEv m s t L first ls n = oneEv m s t L first ls' n
  | 0, _ => rfl
  | n + 1, h => by rw [oneEv_succ, oneEv_succ, oneEv_congr n (fun i hi => h i (by omega)), h n (by omega)]
theorem accEv_app {m : Nat} {s t : Int} {L : Nat} {first : Int} {l l' : List Int} (h : L ≤ l.length) : accEv m s t L first (l ++ l') = accEv m s t L first l := by
  unfold accEv
  rw [oneEv_congr (ls := l ++ l') (ls' := l) L fun i hi => by simp [List.getD, List.getElem?_append_left (show i < l.length by omega)]]
theorem storeEv_app {m : Nat} {s t : Int} {L : Nat} {first : Int} {l l' : List Int} (n : Nat) : n * L ≤ l.length → storeEv m s t L first (l ++ l') n = storeEv m s t L first l n := by
  induction n with
  | zero => intro _; simp only [storeEv, List.range_zero, List.flatMap_nil]
  | succ n ih =>
    intro h
    rw [Nat.succ_mul] at h
    rw [storeEv_succ, storeEv_succ, ih (by omega), List.drop_append_of_le_length (by omega), accEv_app (by rw [List.length_drop]; omega)]
structure SRun (G : SP) (ws : List UInt64) (B : StB) (a : Nat) (S : SSt) (ev : List Ev) (es gs : Sl) (h : Hp) : Prop where
  r : StR G ws B S ev es gs h
  ai : AI G (fun p => ws.getD p 0) 0 S.used S
  us : S.used = 0 + 2 * G.L * a
  gl : S.gone.length = G.L * a
  ev : ev = storeEv G.m G.s G.t G.L G.f (S.gone.map fun y => (y.1 : Int)) a
section
variable {G : SP} {ws : List UInt64} {B : StB} {a : Nat} {S : SSt} {ev : List Ev} {es gs : Sl} {h h' : Hp}
theorem SRun.keep (R : SRun G ws B a S ev es gs h) (o : G.Ok) (k : Keep h h') : SRun G ws B a S ev es gs h' := ⟨R.r.keep o k, R.ai, R.us, R.gl, R.ev⟩
theorem SRun.zero (r : StR G ws B S00 [] nilS nilS h) : SRun G ws B 0 S00 [] nilS nilS h := ⟨r, AI.zero (fun _ _ => rfl) rfl, rfl, rfl, rfl⟩
theorem run_access (o : G.Ok) (st : StM G B) (R : SRun G ws B a S ev es gs h) (ha : a ≤ 1000) {op : LOp} {k : Int} {d : Dat} (hop : opIs op k 0 d) (hk : k = 0 ∨ k = 1 ∨ k = 3) {x : Nat} (hx : x < 2 ^ G.m) :
    callK prog 16 [vp ⟨B.sb, 0⟩, .int .i64 k, vu (UInt64.ofNat x), wv d] h fun r h' => ∃ ev' es' gs', r = .tuple #[wv (stAcc G (fun p => ws.getD p 0) op x S).2.1, .bool (stAcc G (fun p => ws.getD p 0) op x S).2.2] ∧ SRun G ws B (a + 1) (stAcc G (fun p => ws.getD p 0) op x S).1 ev' es' gs' h' ∧ Mv (SFo G B es gs) h (SFo G B es' gs') h' := by
  have hL := o.L
  have h1 : 2 * G.L * a ≤ 2 * 4 * 1000 := Nat.mul_le_mul (by omega) ha
  have h2 : G.L * a ≤ 4 * 1000 := Nat.mul_le_mul (by omega) ha
  have hu := R.us
  have hg := R.gl
  have hel := storeEv_length o.st (G.f : Int) (S.gone.map fun y => (y.1 : Int)) a
  rw [← R.ev] at hel
  obtain ⟨b1, b2, b3⟩ := stAcc_ok o R.us (by omega) R.ai R.gl (op := op) hx (top_lt o hx)
  refine (store_Access o st R.r hop hk hx R.ai R.us R.gl (by omega) (by omega) (by omega)).mono ?_
  rintro _ g ⟨ev', es', gs', rfl, R', V', he⟩
  refine ⟨ev', es', gs', rfl, ⟨R', by rw [b3]; exact b1, by rw [b3, hu, Nat.mul_succ]; omega, b2, ?_⟩, V'⟩
  obtain ⟨l, hl⟩ := stAcc_pre (G := G) (w := fun p => ws.getD p 0) (op := op) (x := x) (S := S)
  rw [hl] at he ⊢
  rw [he, R.ev, List.drop_left, List.map_append, storeEv_succ, storeEv_app a (by rw [List.length_map, hg, Nat.mul_comm]; exact Nat.le_refl _)]
  have : (S.gone.map (fun y => (y.1 : Int)) ++ l.map fun y => (y.1 : Int)).drop (a * G.L) = l.map fun y => (y.1 : Int) := by
    rw [show a * G.L = (S.gone.map fun y => (y.1 : Int)).length by rw [List.length_map, hg, Nat.mul_comm], List.drop_left]
  rw [this]
end
end Go.Proofs.Tryz

/- Chapter 11's laws: the example at the head. -/
namespace Go.Sh
theorem meets_len {op : LOp} {id : UInt64} {l : List UInt64} : (meets op id l).length ≤ l.length + 1 := by
  cases op <;> simp only [meets]
  · omega
  · split <;> simp
  · split <;> simp
  · omega
theorem goDn_ids {G : SP} {w : Nat → UInt64} (op : LOp) (u x : Nat) : ∀ h v p S h', ((goDn G w u op x h v p S).1.ids h').length ≤ (S.ids h').length + 1
  | 0, v, p, S, h' => by
    by_cases c : h' = 0
    · show (if h' = 0 then meets op (bid x 0) (S.ids 0) else S.ids h').length ≤ _
      rw [if_pos c, c]; exact meets_len
    · show (if h' = 0 then meets op (bid x 0) (S.ids 0) else S.ids h').length ≤ _
      rw [if_neg c]; omega
  | h + 1, v, p, S, h' => by
    let S1 : SSt := { S with gone := S.gone ++ [way v p (G.leaf w (h + 1) (G.fp u (h + 1) + 1), G.fp u (h + 1) + 1)] }
    let o1 : LOp := .part (2 * (x / 4 ^ h % 4)) (UInt64.ofNat (G.leaf w h (G.fp u h) + 1)) (UInt64.ofNat (G.fp u h))
    let S2 := G.acc (h + 1) o1 (bid x (h + 1)) (way v p (G.leaf w (h + 1) (G.fp u (h + 1) + 1), G.fp u (h + 1) + 1)).1 (G.leaf w (h + 1) (G.fp u (h + 1))) S1
    let ol := (G.old (h + 1) (bid x (h + 1)) (way v p (G.leaf w (h + 1) (G.fp u (h + 1) + 1), G.fp u (h + 1) + 1)).1 S1).1
    show ((goDn G w u op x h (dget ol (2 * (x / 4 ^ h % 4))) (dget ol (2 * (x / 4 ^ h % 4) + 1)) S2).1.ids h').length ≤ _
    by_cases c : h' = h + 1
    · rw [(goDn_over op u x h _ _ S2 h' (by omega)).2]
      show (if h' = h + 1 then meets o1 (bid x (h + 1)) (S.ids (h + 1)) else S.ids h').length ≤ _
      rw [if_pos c, c]; exact meets_len
    · have := goDn_ids (G := G) (w := w) op u x h (dget ol (2 * (x / 4 ^ h % 4))) (dget ol (2 * (x / 4 ^ h % 4) + 1)) S2 h'
      have e : S2.ids h' = S.ids h' := by
        show (if h' = h + 1 then meets o1 (bid x (h + 1)) (S.ids (h + 1)) else S.ids h') = _
        rw [if_neg c]
      rw [e] at this; exact this
theorem stAcc_ids {G : SP} {w : Nat → UInt64} (op : LOp) (x : Nat) (S : SSt) (h' : Nat) : ((stAcc G w op x S).1.ids h').length ≤ (S.ids h').length + 1 := goDn_ids ..
end Go.Sh
namespace Go.Proofs.Tryz
open Go Go.Sh Go.RowKit
set_option maxRecDepth 8000
theorem run_out {G : SP} {ws : List UInt64} {B : StB} {a : Nat} {S : SSt} {ev : List Ev} {es gs : Sl} {h : Hp} (o : G.Ok) (R : SRun G ws B a S ev es gs h) {op : LOp} {x : Nat} (ha : a ≤ 1000) (hx : x < 2 ^ G.m) {Bs : Blks} {K : Ways} {A : UInt64 → Option Dat} (n : NI G S Bs K A)
    (fin : (∀ h, h < G.L → (stAcc G (fun p => ws.getD p 0) op x S).1.over h = false) ∨ (∀ h, h < G.L → S.over h = false ∧ ((stAcc G (fun p => ws.getD p 0) op x S).1.ids h).length ≤ G.t)) :
    ∃ Bs', NI G (stAcc G (fun p => ws.getD p 0) op x S).1 Bs' (kupd G (fun p => ws.getD p 0) S.used x K 0) (fun id => if id = bid x 0 then op.now (outA A id).1 (outA A id).2 else A id) ∧ (stAcc G (fun p => ws.getD p 0) op x S).2 = outA A (bid x 0) ∧
      (stAcc G (fun p => ws.getD p 0) op x S).1.gone = S.gone ++ (List.range G.L).map (fun i => wayOf G (fun p => ws.getD p 0) S.used x K (G.L - 1 - i)) ∧ ∀ h, h < G.L → (stAcc G (fun p => ws.getD p 0) op x S).1.over h = false := by
  have hL := o.L
  have h1 : 2 * G.L * a ≤ 2 * 4 * 1000 := Nat.mul_le_mul (by omega) ha
  have hu := R.us
  exact stAcc_ni o R.us (by omega) R.ai R.gl hx (top_lt o hx) n fin
theorem outA_of {A : UInt64 → Option Dat} {id : UInt64} {v : Option Dat} (h : A id = v) : outA A id = outA (fun _ => v) id := by unfold outA; rw [h]
theorem any_false {L : Nat} {f : Nat → Bool} (h : ∀ i, i < L → f i = false) : (List.range L).any f = false := by
  rw [List.any_eq_false]; intro i hi; rw [h i (List.mem_range.1 hi)]; simp
theorem law_shown : PureC prog 12 [] (.bool true) := by
  intro h
  refine c12 ?_
  unfold G12
  have o := mkG_ok (m := 2) (s := 2) (t := 4) (L := 1) (by decide) (by decide) (by decide) (by decide)
  refine newC fun b1 h1 f1 e1 k1 => ?_
  have rw_ : RdS vu h1 ⟨some ⟨b1, 0⟩, 6, 6, none⟩ [3, 1, 4, 1, 5, 9] := (OwnS.newE (f := vu) (h0 := h) (l := [3, 1, 4, 1, 5, 9]) (n := 6) f1 e1 rfl rfl).rd
  refine (law_made (m := 2) (s := 2) (t := 4) (L := 1) (by decide) (by decide) (by decide) (by decide) rw_ (by decide)).mono ?_
  rintro _ h2 ⟨B, rfl, RS, st, fB, k2⟩
  generalize hG : mkG 2 2 4 1 = G at *
  have hGm : G.m = 2 := by rw [← hG]; rfl
  have hGL : G.L = 1 := by rw [← hG]; rfl
  have hGt : G.t = 4 := by rw [← hG]; rfl
  have k02 := k1.trans k2
  have F0 : ∀ x, SFo G B nilS nilS x → h x = none := fun x hx => k1.free (fB x hx)
  have R0 := SRun.zero RS
  refine ⟨some ⟨B.m.b, 0⟩, some ⟨B.tb, 0⟩, some ⟨B.sb, 0⟩, rfl, ifB_neg rfl ?_⟩
  refine (law_data 5).to fun h3 k3 => ⟨_, rfl, ?_⟩
  have R3 := R0.keep o k3
  have i0 : ∀ y, S00.ids y = [] := fun _ => rfl
  refine (run_access o st R3 (by omega) (op := .put (dataV 5)) (k := 1) (d := dataV 5) ⟨rfl, rfl⟩ (.inr (.inl rfl)) (x := 3) (by rw [hGm]; decide)).mono ?_
  rintro _ h4 ⟨ev4, es4, gs4, rfl, R4, v4'⟩
  obtain ⟨Bs4, n4, o4, _, c4⟩ := run_out o R3 (op := .put (dataV 5)) (x := 3) (by omega) (by rw [hGm]; decide) (NI.zero (fun _ _ => rfl)) (.inr fun y hy => ⟨rfl, by have := stAcc_ids (G := G) (w := fun p => List.getD [3, 1, 4, 1, 5, 9] p 0) (.put (dataV 5)) 3 S00 y; rw [i0, List.length_nil] at this; rw [hGt]; omega⟩)
  have i4 := fun y => stAcc_ids (G := G) (w := fun p => List.getD [3, 1, 4, 1, 5, 9] p 0) (.put (dataV 5)) 3 S00 y
  obtain ⟨K4, F4⟩ := v4'.keep (k02.trans k3) F0
  generalize hS4 : stAcc G (fun p => List.getD [3, 1, 4, 1, 5, 9] p 0) (.put (dataV 5)) 3 S00 = X4 at *
  refine ⟨_, _, rfl, newC fun b2 h5 f5 e5 k5 => ?_⟩
  refine wbMW (n := 8) ((mvK (K4.trans k5) (fun _ => False))) (K4.free f5) e5 rfl fun h6 v6 e6 o6 => ?_
  have K6 : Keep h h6 := fun y hy => v6.2.1 y hy id
  have R6 : SRun G [3, 1, 4, 1, 5, 9] B 1 X4.1 ev4 es4 gs4 h6 := ⟨R4.r.same fun y hy => by rw [o6 y fun e => R4.r.out o f5 (e ▸ hy), k5 y (R4.r.fdom o hy)], R4.ai, R4.us, R4.gl, R4.ev⟩
  have c4' : ∀ y, y < G.L → X4.1.over y = false := c4
  refine (run_access o st R6 (by omega) (op := .look) (k := 0) (d := dat0) rfl (.inl rfl) (x := 3) (by rw [hGm]; decide)).mono ?_
  rintro _ h7 ⟨ev7, es7, gs7, rfl, R7, v7'⟩
  obtain ⟨Bs7, n7, o7, _, c7⟩ := run_out o R6 (op := .look) (x := 3) (by omega) (by rw [hGm]; decide) n4 (.inr fun y hy => ⟨c4 y hy, by have h1 := stAcc_ids (G := G) (w := fun p => List.getD [3, 1, 4, 1, 5, 9] p 0) .look 3 X4.1 y; have h2 := i4 y; rw [i0, List.length_nil] at h2; rw [hGt]; omega⟩)
  have i7 := fun y => stAcc_ids (G := G) (w := fun p => List.getD [3, 1, 4, 1, 5, 9] p 0) .look 3 X4.1 y
  obtain ⟨K7, F7⟩ := v7'.keep K6 F4
  generalize hS7 : stAcc G (fun p => List.getD [3, 1, 4, 1, 5, 9] p 0) .look 3 X4.1 = X7 at *
  refine ⟨_, _, rfl, newC fun b3 h8 f8 e8 k8 => ?_⟩
  refine wbMW (n := 8) ((mvK (K7.trans k8) (fun _ => False))) (K7.free f8) e8 rfl fun h9 v9 e9 o9 => ?_
  have K9 : Keep h h9 := fun y hy => v9.2.1 y hy id
  have R9 : SRun G [3, 1, 4, 1, 5, 9] B 2 X7.1 ev7 es7 gs7 h9 := ⟨R7.r.same fun y hy => by rw [o9 y fun e => R7.r.out o f8 (e ▸ hy), k8 y (R7.r.fdom o hy)], R7.ai, R7.us, R7.gl, R7.ev⟩
  have n3S : ¬ SFo G B es7 gs7 b3 := R7.r.out o f8
  refine (run_access o st R9 (by omega) (op := .look) (k := 0) (d := dat0) rfl (.inl rfl) (x := 2) (by rw [hGm]; decide)).mono ?_
  rintro _ h10 ⟨ev10, es10, gs10, rfl, R10, v10'⟩
  obtain ⟨Bs10, n10, o10, _, c10⟩ := run_out o R9 (op := .look) (x := 2) (by omega) (by rw [hGm]; decide) n7 (.inr fun y hy => ⟨c7 y hy, by have h1 := stAcc_ids (G := G) (w := fun p => List.getD [3, 1, 4, 1, 5, 9] p 0) .look 2 X7.1 y; have h2 := i4 y; have h3 := i7 y; rw [i0, List.length_nil] at h2; rw [hGt]; omega⟩)
  obtain ⟨K10, F10⟩ := v10'.keep K9 F7
  have e10 := v10'.get e9 n3S
  have n3S' := v10'.out (by rw [e9]; simp) n3S
  generalize hS10 : stAcc G (fun p => List.getD [3, 1, 4, 1, 5, 9] p 0) .look 2 X7.1 = X10 at *
  refine ⟨_, _, rfl, newC fun b4 h11 f11 e11 k11 => ?_⟩
  refine wbMW (n := 8) ((mvK (K10.trans k11) (fun _ => False))) (K10.free f11) e11 rfl fun h12 v12 e12 o12 => ?_
  have K12 : Keep h h12 := fun y hy => v12.2.1 y hy id
  have R12 : SRun G [3, 1, 4, 1, 5, 9] B 3 X10.1 ev10 es10 gs10 h12 := ⟨R10.r.same fun y hy => by rw [o12 y fun e => R10.r.out o f11 (e ▸ hy), k11 y (R10.r.fdom o hy)], R10.ai, R10.us, R10.gl, R10.ev⟩
  have n43 : b3 ≠ b4 := fun e => by rw [← e, e10] at f11; cases f11
  have e312 : h12 b3 = _ := (o12 _ n43).trans (k11.get e10)
  have q4 : X4.2 = (dat0, false) := o4
  have q7 : X7.2 = (dataV 5, true) := by rw [o7]; exact (outA_of (v := some (dataV 5)) (if_pos rfl)).trans rfl
  have q10 : X10.2 = (dat0, false) := by
    rw [o10]
    exact (outA_of (v := none) ((if_neg (by decide)).trans (if_neg (by decide)))).trans rfl
  rw [q4, q7, q10]
  rw [q7] at e312
  refine ifB_pos rfl (ifB_pos rfl ⟨_, wb_rd e312, ?_⟩)
  refine (law_data 5).to fun h13 k13 => ⟨_, rfl, wb_rd (k13.get e312), ifB_pos (by simp) (ifB_pos rfl ?_)⟩
  refine (store_over o (R12.r.keep o k13)).mono ?_
  rintro _ _ ⟨rfl, rfl⟩
  refine ⟨_, rfl, ?_, K12.trans k13⟩
  rw [any_false c10]; rfl
end Go.Proofs.Tryz

/- Chapter 11's laws: what a run of accesses comes to, step by step. -/
namespace Go.Sh
theorem goDn_mono {G : SP} {w : Nat → UInt64} (op : LOp) (u x : Nat) : ∀ h v p S h', (goDn G w u op x h v p S).1.over h' = false → S.over h' = false
  | 0, v, p, S, h', hf => by
    by_cases c : h' = 0
    · have hf : (if h' = 0 then S.over 0 || _ else S.over h') = false := hf
      rw [if_pos c, Bool.or_eq_false_iff] at hf
      rw [c]; exact hf.1
    · have hf : (if h' = 0 then S.over 0 || _ else S.over h') = false := hf
      rw [if_neg c] at hf; exact hf
  | h + 1, v, p, S, h', hf => by
    let S1 : SSt := { S with gone := S.gone ++ [way v p (G.leaf w (h + 1) (G.fp u (h + 1) + 1), G.fp u (h + 1) + 1)] }
    let o1 : LOp := .part (2 * (x / 4 ^ h % 4)) (UInt64.ofNat (G.leaf w h (G.fp u h) + 1)) (UInt64.ofNat (G.fp u h))
    let S2 := G.acc (h + 1) o1 (bid x (h + 1)) (way v p (G.leaf w (h + 1) (G.fp u (h + 1) + 1), G.fp u (h + 1) + 1)).1 (G.leaf w (h + 1) (G.fp u (h + 1))) S1
    let ol := (G.old (h + 1) (bid x (h + 1)) (way v p (G.leaf w (h + 1) (G.fp u (h + 1) + 1), G.fp u (h + 1) + 1)).1 S1).1
    have h2 : S2.over h' = false := goDn_mono op u x h (dget ol (2 * (x / 4 ^ h % 4))) (dget ol (2 * (x / 4 ^ h % 4) + 1)) S2 h' hf
    by_cases c : h' = h + 1
    · have h2 : (if h' = h + 1 then S.over (h + 1) || _ else S.over h') = false := h2
      rw [if_pos c, Bool.or_eq_false_iff] at h2
      rw [c]; exact h2.1
    · have h2 : (if h' = h + 1 then S.over (h + 1) || _ else S.over h') = false := h2
      rw [if_neg c] at h2; exact h2
theorem stAcc_mono {G : SP} {w : Nat → UInt64} (op : LOp) (x : Nat) (S : SSt) (h' : Nat) : (stAcc G w op x S).1.over h' = false → S.over h' = false := goDn_mono op _ x _ _ _ _ h'
def opOf (k : Int) (d : Dat) : LOp := if k = 0 then .look else if k = 1 then .put d else .drop
def Live (G : SP) (S : SSt) (A : UInt64 → Option Dat) : Prop := ∃ Bs K, NI G S Bs K A
def updA (A : UInt64 → Option Dat) (op : LOp) (x : UInt64) : UInt64 → Option Dat := fun id => if id = x then op.now (outA A id).1 (outA A id).2 else A id
theorem updA_ne {A : UInt64 → Option Dat} {op : LOp} {x id : UInt64} (h : id ≠ x) : updA A op x id = A id := if_neg h
theorem updA_eq {A : UInt64 → Option Dat} {op : LOp} {x : UInt64} : updA A op x x = op.now (outA A x).1 (outA A x).2 := if_pos rfl
theorem bid_zero (x : Nat) : bid x 0 = UInt64.ofNat x := by unfold bid; simp
end Go.Sh
namespace Go.Proofs.Tryz
open Go Go.Sh Go.RowKit
set_option maxRecDepth 8000
theorem opOf_is {k : Int} (hk : k = 0 ∨ k = 1 ∨ k = 3) (d : Dat) : opIs (opOf k d) k 0 d := by
  rcases hk with rfl | rfl | rfl
  · exact rfl
  · exact ⟨rfl, rfl⟩
  · exact rfl
section
variable {G : SP} {ws : List UInt64} {B : StB} {a : Nat} {S : SSt} {ev : List Ev} {es gs : Sl} {h : Hp}
theorem live_step (o : G.Ok) (R : SRun G ws B a S ev es gs h) (ha : a ≤ 1000) {op : LOp} {x : Nat} (hx : x < 2 ^ G.m) {A : UInt64 → Option Dat} (l : Live G S A)
    (fin : (∀ h, h < G.L → (stAcc G (fun p => ws.getD p 0) op x S).1.over h = false) ∨ (∀ h, h < G.L → S.over h = false ∧ ((stAcc G (fun p => ws.getD p 0) op x S).1.ids h).length ≤ G.t)) :
    Live G (stAcc G (fun p => ws.getD p 0) op x S).1 (updA A op (UInt64.ofNat x)) ∧ (stAcc G (fun p => ws.getD p 0) op x S).2 = outA A (UInt64.ofNat x) ∧ ∀ h, h < G.L → (stAcc G (fun p => ws.getD p 0) op x S).1.over h = false := by
  obtain ⟨Bs, K, n⟩ := l
  obtain ⟨Bs', n', o', _, c'⟩ := run_out o R ha hx n fin
  rw [bid_zero] at n' o'
  exact ⟨⟨Bs', _, n'⟩, o', c'⟩
theorem idx_mod {y : UInt64} {k : Nat} (hk : k ≤ 10) : (y % toU ((2 : Int) ^ k)) = UInt64.ofNat (y.toNat % 2 ^ k) ∧ y.toNat % 2 ^ k < 2 ^ k ∧ toU ((2 : Int) ^ k) ≠ 0 := by
  have hp1 : 1 ≤ 2 ^ k := Nat.one_le_two_pow
  have hp2 : 2 ^ k ≤ 2 ^ 10 := Nat.pow_le_pow_right (by decide) hk
  have e : toU ((2 : Int) ^ k) = UInt64.ofNat (2 ^ k) := by rw [show (2 : Int) ^ k = ((2 ^ k : Nat) : Int) by simp, toU_eq (by omega)]
  have e2 : (UInt64.ofNat (2 ^ k)).toNat = 2 ^ k := by rw [UInt64.toNat_ofNat']; omega
  have hlt : y.toNat % 2 ^ k < 2 ^ k := Nat.mod_lt _ (by omega)
  refine ⟨?_, hlt, fun h0 => ?_⟩
  · apply UInt64.toNat_inj.1
    rw [e, UInt64.toNat_mod, e2, UInt64.toNat_ofNat']; omega
  · rw [e] at h0
    have := congrArg UInt64.toNat h0
    rw [e2] at this; simp at this
end
end Go.Proofs.Tryz

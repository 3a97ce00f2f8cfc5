/- StoreRoom. -/
import Derived.Test.YtolgmdbjomlcjaaGreatRdL
import Derived.Test.YtolgmdbjomlcjaaGreatLawS
namespace Go.Sh
def GoodR (G : SP) (S : SSt) : Prop := (∃ z, z < G.L ∧ G.t < (S.ids z).length) ∨ ((∀ z, z < G.L → S.over z = false) ∧ ∃ A, Live G S A)
end Go.Sh
namespace Go.Proofs.Tryz
open Go Go.Sh Go.RowKit
set_option maxRecDepth 8000
theorem goodR_step {G : SP} {ws : List UInt64} {B : StB} {a : Nat} {S : SSt} {ev : List Ev} {es gs : Sl} {h : Hp} (o : G.Ok) (R : SRun G ws B a S ev es gs h) (ha : a ≤ 1000) {op : LOp} {x : Nat} (hx : x < 2 ^ G.m) (gd : GoodR G S) : GoodR G (stAcc G (fun p => ws.getD p 0) op x S).1 := by
  rcases gd with ⟨z, hz, hlt⟩ | ⟨c, A, lv⟩
  · exact .inl ⟨z, hz, Nat.lt_of_lt_of_le hlt (stAcc_grows (G := G) (w := fun p => ws.getD p 0) op x S z)⟩
  · by_cases hall : ∀ z, z < G.L → ((stAcc G (fun p => ws.getD p 0) op x S).1.ids z).length ≤ G.t
    · obtain ⟨l', _, c'⟩ := live_step o R ha hx lv (.inr fun z hz => ⟨c z hz, hall z hz⟩)
      exact .inr ⟨c', _, l'⟩
    · obtain ⟨z, hz⟩ := Classical.not_forall.1 hall
      obtain ⟨hl, hf⟩ := Classical.not_imp.1 hz
      exact .inl ⟨z, hl, by omega⟩
theorem law_room {h : Hp} {n : Int} (n1 : -9223372036854775808 ≤ n) (n2 : n ≤ 9223372036854775807) {sw : Sl} {ws : List UInt64} (rw_ : RdS vu h sw ws) (hlw : ws.length * 8 ≤ 140737488355328) {sl : Sl} {l : List StepV} (rl : RdM stepv h sl l) (_ : l.length * 24 ≤ 140737488355328) :
    callK prog 5 [.int .i64 n, vs sw, vs sl] h fun v h' => v = .bool true ∧ Keep h h' := by
  refine c5 _ _ _ ?_
  unfold G5
  refine law_shown.to fun h1 k1 => ⟨_, rfl, ifB_neg rfl (ifB_intro (fun _ => ⟨rfl, k1⟩) fun hl24 => ifB_intro (fun _ => ⟨rfl, k1⟩) fun _ => ?_)⟩
  have hlen : l.length ≤ 24 := by
    have : ¬ (24 : Int) < (sl.len : Int) := of_decide_eq_false hl24
    have := rl.len; omega
  refine law_start n1 n2 (rw_.keep k1) hlw fun b1 h4 h5 B k4 e4 k5 RS st fB => ?_
  have o := cfgG_ok n
  generalize cfgG n = G at *
  have K4 := k1.trans k4
  have R0 := SRun.zero RS
  refine ⟨some ⟨B.m.b, 0⟩, some ⟨B.tb, 0⟩, some ⟨B.sb, 0⟩, rfl, ifB_neg rfl ?_⟩
  refine ⟨fun s1 q1 o4 n9 g kk => sl = s1 ∧ (⟨b1, 0⟩ : Pt) = q1 ∧ o4 = some ⟨B.sb, 0⟩ ∧ ∃ (i : Nat) (S : SSt) (ev : List Ev) (es gs : Sl), n9 = i ∧ i ≤ l.length ∧ kk = l.length - i ∧ SRun G ws B i S ev es gs g ∧ GoodR G S ∧ Keep h4 g ∧ (∀ x, SFo G B es gs x → h4 x = none),
    ⟨l.length, rfl, rfl, rfl, 0, _, [], nilS, nilS, rfl, by omega, rfl, R0, .inr ⟨fun _ _ => rfl, fun _ => none, _, _, NI.zero (fun _ _ => rfl)⟩, k5, fB⟩, ?_⟩
  rintro s1 q1 o4 n9 g kk ⟨rfl, rfl, rfl, i, S, ev, es, gs, rfl, hi, rfl, Rg, gd, kg, Fg⟩
  have hsl := rl.len
  refine ifD (fun hlt => ?_) fun hge => ⟨rfl, K4.trans kg⟩
  have hi' : i < l.length := by omega
  have e5 := kg.get e4
  refine step_do o st Rg (by omega) (rl.keep stepv_length (K4.trans kg)) hi' (rd1 e5 rfl) fun ev' es' gs' h2 g2 k2 R2 v2 => ⟨_, _, rfl, ?_⟩
  obtain ⟨K2, F2⟩ := v2.keep (kg.trans k2) Fg
  have gd2 : GoodR G (stAcc G (fun p => ws.getD p 0) l[i].o (l[i].x G.m) S).1 := goodR_step o Rg (by omega) (StepV.x_lt G.m l[i]) gd
  generalize (stAcc G (fun p => ws.getD p 0) l[i].o (l[i].x G.m) S).1 = S' at *
  refine (store_counts o R2.r).mono ?_
  rintro _ g3 ⟨s2, rfl, o3, k3⟩
  have K3 := K2.trans k3
  have e6 := K3.get e4
  have hc := o3.rd.len
  rw [List.length_map, List.length_range] at hc
  have hL := o.L
  refine ⟨s2, rfl, fun s3 q5 o5 n13 s4 n14 n15 h11 k4' => sl = s3 ∧ (⟨b1, 0⟩ : Pt) = q5 ∧ some ⟨B.sb, 0⟩ = o5 ∧ (i : Int) = n13 ∧ s2 = s4 ∧ g3 = h11 ∧ ∃ j : Nat, n15 = j ∧ j ≤ G.L ∧ k4' = G.L - j ∧ 0 ≤ n14 ∧ ∀ z, z < j → ((S'.ids z).length : Int) ≤ n14,
    ⟨G.L, rfl, rfl, rfl, rfl, rfl, rfl, 0, rfl, by omega, rfl, by omega, fun z hz => by omega⟩, ?_⟩
  rintro s3 q5 o5 n13 s4 n14 n15 h11 k4' ⟨rfl, rfl, rfl, rfl, rfl, rfl, j, rfl, hj, rfl, hm, hb⟩
  refine ifD (fun hlj => ?_) fun hgj => ?_
  · have hj' : j < G.L := by omega
    refine o3.rd.ix (i := j) (by simp; exact hj') fun q hq hcl => ⟨_, hcl, G.L - (j + 1), by omega, rfl, rfl, rfl, rfl, rfl, rfl, j + 1, w64_id (by omega) (by omega), by omega, rfl, ?_, ?_⟩
    · omega
    · intro z hz
      simp only [List.getElem_map, List.getElem_range]
      by_cases c : z < j
      · have := hb z c; omega
      · have : z = j := by omega
        subst this; omega
  · have hj' : j = G.L := by omega
    subst hj'
    refine ⟨_, rd1 e6 rfl, ifB_neg ?_ ⟨_, rd1 e6 rfl, ?_⟩⟩
    · rw [decide_eq_true (by omega)]; rfl
    have R3 := R2.keep o k3
    refine ifD (fun hle => ?_) fun _ => ⟨l.length - (i + 1), by omega, rfl, rfl, rfl, i + 1, _, ev', es', gs', w64_id (by omega) (by omega), by omega, rfl, R3, gd2, K3, F2⟩
    refine (store_over o R3.r).mono ?_
    rintro _ _ ⟨rfl, rfl⟩
    have hno : (List.range G.L).any S'.over = false := by
      rcases gd2 with ⟨z, hz, hlt⟩ | ⟨c, _⟩
      · have := hb z hz; omega
      · exact any_false c
    refine ⟨_, rfl, ifB_neg (by rw [hno]; rfl) ⟨l.length - (i + 1), by omega, rfl, rfl, rfl, i + 1, _, ev', es', gs', w64_id (by omega) (by omega), by omega, rfl, R3, gd2, K3, F2⟩⟩
end Go.Proofs.Tryz

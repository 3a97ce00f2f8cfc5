/- A law's row out of what its function comes to: each argument opened, all of it shut again. -/
import Derived.Test.YtofgadhgljjhgaaGreatShUse
import Derived.ProofKit
import Derived.SizedLaws
import Derived.SliceStrings
import Derived.LaidLaws
import Derived.LaidHandle
import Derived.Stop.Joined
namespace Go.Sh
open Go Go.RowKit Go.ChangeShapes Go.WideShapes Go.ChangeAt
def hpOf (w : World) : Hp := fun b => w.heap[b]?
theorem cov_hpOf (w : World) : Cov (hpOf w) w := fun _ _ h => h
theorem hcell_of_cell? {w : World} {b o : Nat} {v : Value} (h : w.cell? ⟨b, o, none⟩ = some v) : hcell (hpOf w) b o = some v := by
 unfold World.cell? at h
 unfold hcell hpOf
 simp only at h
 cases e : w.heap[b]? with
 | none => simp [e] at h
 | some ob => cases ob <;> simp_all
theorem calls_of_callK {P : Program} {f : FuncId} {args : List Value} {w : World} (hk : callK P f args (hpOf w) fun v h' => v = .bool true ∧ Keep (hpOf w) h') :
   Calls P f args.toArray w fun e w' => e = .returned (.bool true) ∧ Below w.heap.size w w' := by
 refine (hk.2 w (cov_hpOf w)).mono ?_
 rintro e w' ⟨v, h', rfl, ⟨rfl, k⟩, cv, g⟩
 refine ⟨rfl, g.os, g.tape, g.output, g.size, fun b hb => ?_⟩
 have h1 : hpOf w b = some w.heap[b] := by simp [hpOf, hb]
 have h2 := cv b w.heap[b] (by rw [k b (by rw [h1]; simp), h1])
 rw [h2]; simp [hb]
theorem trodAll_below {H : Type} {enc : TypeId × Value → H} {P : Program} (hl : laidOutB P = true) {W W' : World} (hb : Below W.heap.size W W') :
   ∀ {ts : List TypeId} {vs : List Value} {ds : List (DataW H)} {ps : List MemPlace}, (∀ t ∈ ts, P.readableRec t = true ∧ t < P.types.size) → (∀ p ∈ ps, p.block < W.heap.size) →
     DataW.TrodAll enc P W 0 (fun _ => true) true ts vs ds ps → DataW.TrodAll enc P W' 0 (fun b => decide (b < W.heap.size)) true ts vs ds ps
 | [], [], [], _, _, _, h => h
 | t :: ts, v :: vs, d :: ds, ps, ht, hp, ⟨p, q, h1, h2, e⟩ => by
   subst e
   exact ⟨p, q, Below.trod hl (ht t (by simp)).1 (ht t (by simp)).2 h1 hb (fun x hx => hp x (by simp [hx])), trodAll_below hl hb (fun t' h' => ht t' (by simp [h'])) (fun x hx => hp x (by simp [hx])) h2, rfl⟩
 | [], _ :: _, _, _, _, _, h => by cases h
 | [], [], _ :: _, _, _, _, h => by cases h
 | _ :: _, [], _, _, _, _, h => by cases h
 | _ :: _, _ :: _, [], _, _, _, h => by cases h
theorem trodAll_len {H : Type} {enc : TypeId × Value → H} {P : Program} {W : World} {base : Nat} {sp : Nat → Bool} {hd : Bool} :
   ∀ {ts : List TypeId} {vs : List Value} {ds : List (DataW H)} {ps : List MemPlace}, DataW.TrodAll enc P W base sp hd ts vs ds ps → ds.length = ts.length
 | [], [], [], _, _ => rfl
 | t :: ts, v :: vs, d :: ds, ps, ⟨p, q, _, h2, _⟩ => by simp [trodAll_len h2]
 | [], _ :: _, _, _, h => by cases h
 | [], [], _ :: _, _, h => by cases h
 | _ :: _, [], _, _, h => by cases h
 | _ :: _, _ :: _, [], _, h => by cases h
theorem lifted_of_law {H : Type} {enc : TypeId × Value → H} {C : Checked} {os : Os} {f : FuncId} {fn : Func} {s : ChangeSpec} {tb : TypeId}
   (own : ownKnob C.prog.godebug = none) (started : os.Started) (noInit : C.prog.inits.idxOf? f = none) (hfn : C.prog.funcs[f]? = some fn)
   (witness : ∃ (w : World) (tape : Tape) (i : Input), w.os = os ∧ (w.forCall tape i).Shaped C.prog ∧ i.vars = [] ∧ Input.okWide C.prog (w.forCall tape i) .any w.heap.size f i ∧
     s.pre6 enc C.prog fn [] false (w.forCall tape i).memory i.args ∧ ({} : Assume).holds C.prog (lone (Frame.enter C.prog f i.args .normal) [] (w.forCall tape i)))
   (hvars : s.vars = []) (hres : fn.resultTypes = #[tb]) (htb : C.prog.underlying tb = some .bool) (hl : laidOutB C.prog = true)
   (hts : (fn.params.toList.all fun t => C.prog.readableRec t && decide (t < C.prog.types.size)) = true)
   (hspec : ∀ ds : List (DataW H), ds.length = fn.params.toList.length → s.fn H ds = { results := [.lit (.bool true)], args := ds })
   (law : ∀ (W : World) (base : Nat) (args : List Value) (ds : List (DataW H)) (p : List MemPlace),
     (∀ (j : Nat) t v, fn.params.toList[j]? = some t → args[j]? = some v → Value.okWide C.prog W .any base t v) →
     DataW.TrodAll enc C.prog W 0 (fun _ => true) true fn.params.toList args ds p →
     (DataW.weightsEach C.prog fn.params.toList ds).all (· ≤ reachBytes) = true →
     callK C.prog f args (hpOf W) fun v h' => v = .bool true ∧ Keep (hpOf W) h') :
   ReturnsInHanded {} C os f .any (s.pre6 enc C.prog fn [] false) (s.post enc C.prog fn false true false false) := by
 refine returnsInHanded_of_change_sized own started noInit hfn witness ?_
 intro W base args ds gs before hval hW _ hsz _
 have hW' := hW
 obtain ⟨p, q, hA, hV, rfl, hfz, _⟩ := hW
 rw [hvars] at hV
 obtain ⟨rfl, rfl⟩ := trodVars_none hV
 have hvt : s.plain.varTypes C.prog = [] := by
   have : s.plain.vars = [] := hvars
   simp [DataSpec.varTypes, this]
 rw [hvt, List.append_nil, List.append_nil] at hsz
 have hlen := trodAll_len hA
 have hlt : ∀ x ∈ p ++ [], x.block < W.heap.size := fun x hx => hW'.lt x hx
 have hc := law W base args.toList ds p (fun j t v h1 h2 => hval j t v (by simpa using h1) (by simpa using h2)) hA hsz
 refine (calls_of_callK (by simpa using hc)).mono ?_
 rintro e W' ⟨rfl, hb⟩
 have hsp : s.fn H (ds ++ []) = { results := [.lit (.bool true)], args := ds } := by rw [List.append_nil]; exact hspec ds hlen
 have hall : ∀ t ∈ fn.params.toList, C.prog.readableRec t = true ∧ t < C.prog.types.size := fun t ht => by
   have := List.all_eq_true.1 hts t ht
   simpa using this
 have hA' := trodAll_below hl hb hall (fun x hx => hlt x (by simp [hx])) hA
 refine ⟨_, rfl, ds, [], p ++ [], [], p, [], hW', ?_, ?_, ?_, ?_, ?_⟩
 · rw [hsp, hres]
   exact trodAll_mk1 ⟨1, by simp [DataW.trod, Value.cells, htb]⟩
 · rw [hsp]; exact hA'
 · rw [hvars, hsp]; rfl
 · exact hb.frame _
 · intro h; cases h
/-! ## The arguments -/
section
variable {H : Type} {enc : TypeId × Value → H} {P : Program} {W : World} {base : Nat}
theorem arg_int {t : TypeId} {k : IntKind} {v : Value} {d : DataW H} {ps : List MemPlace} (ht : P.underlying t = some (.int k)) (hval : Value.okWide P W .any base t v) (hd : DataW.Trod enc P W 0 (fun _ => true) true t v d ps) :
   ∃ n, v = .int k n ∧ (Lit.int k n).wf = true := by
 obtain ⟨n, h1, _, _, h2⟩ := open_int ht hval hd
 exact ⟨n, h1, h2⟩
theorem arg_i64 {t : TypeId} {v : Value} {d : DataW H} {ps : List MemPlace} (ht : P.underlying t = some (.int .i64)) (hval : Value.okWide P W .any base t v) (hd : DataW.Trod enc P W 0 (fun _ => true) true t v d ps) :
   ∃ n : Int, v = .int .i64 n ∧ -9223372036854775808 ≤ n ∧ n ≤ 9223372036854775807 := by
 obtain ⟨n, h1, h2⟩ := arg_int ht hval hd
 refine ⟨n, h1, ?_⟩
 simp [Lit.wf, IntKind.min, IntKind.max, IntKind.signed, IntKind.bits] at h2
 omega
theorem arg_ints {t e : TypeId} {k : IntKind} {v : Value} {d : DataW H} {ps : List MemPlace} (ht : P.underlying t = some (.slice e)) (he : P.underlying e = some (.int k)) (hc : P.cellsOf e = 1)
   (hval : Value.okWide P W .any base t v) (hd : DataW.Trod enc P W 0 (fun _ => true) true t v d ps) :
   ∃ (s : Sl) (l : List Int), v = vs s ∧ RdS (Value.int k) (hpOf W) s l ∧ (∀ n ∈ l, (Lit.int k n).wf = true) ∧ ((d = .nil ∧ l = []) ∨ ∃ el sp, d = .slice el sp ∧ el.length = l.length) := by
 obtain ⟨a, len, cap, rfl⟩ := okWide_slice ht hval
 obtain ⟨fuel, hf⟩ := hd
 rcases open_ints ht he hc hf with ⟨hcs, hx⟩ | ⟨a', len', cap', zs, hcs, _, hl, hm, hz, hx, hcell, hw⟩
 · have e1 : Value.slice a len cap = .slice none 0 0 := by simpa [Value.cells] using hcs
   cases e1
   cases hx
   exact ⟨⟨none, 0, 0, none⟩, [], rfl, RdS.nilS _ _, by simp, .inl ⟨rfl, rfl⟩⟩
 · have e1 : Value.slice a len cap = .slice (some a') len' cap' := by simpa [Value.cells] using hcs
   cases e1
   cases hx
   simp only [if_true] at hz
   refine ⟨⟨some ⟨a'.block, a'.off⟩, len, cap, a'.spot⟩, zs.take len, rfl, ⟨by simp; omega, hl, ?_, ?_⟩, fun n hn => hw n (List.mem_of_mem_take hn), .inr ⟨_, _, rfl, by simp [lits]⟩⟩
   · intro hq
     by_cases h0 : cap = 0
     · exact h0
     · have : a'.spot = none := by
         have := World.cell?_spot (hcell 0 (by omega))
         simpa [Addr.add] using this
       rw [this] at hq; cases hq
   · intro q hq i hi
     have hi' : i < zs.length ∧ i < len := by simp at hi; omega
     have hsp : a'.spot = none := by
       have := World.cell?_spot (hcell 0 (by omega))
       simpa [Addr.add] using this
     rw [hsp] at hq
     cases hq
     have h1 := hcell i hi'.1
     have e : a'.add i = ⟨a'.block, a'.off + i, none⟩ := by
       obtain ⟨b, o, z⟩ := a'
       simp only at hsp; subst hsp
       unfold Addr.add; split
       · rename_i h; subst h; rfl
       · rfl
     rw [e] at h1
     have := hcell_of_cell? h1
     simp only [List.getElem_take]
     rw [this]
     simp [List.getD, hi'.1]
theorem RdS.map {α β : Type} {f : α → Value} {g : β → Value} {h : Hp} {s : Sl} {l : List α} (r : RdS f h s l) (m : α → β) (hm : ∀ x ∈ l, g (m x) = f x) : RdS g h s (l.map m) :=
 ⟨by simp [r.len], r.cap, r.nil, fun q hq i hi => by
   have hi' : i < l.length := by simpa using hi
   rw [r.rd q hq i hi']; simp [hm _ (List.getElem_mem hi')]⟩
theorem arg_us {t e : TypeId} {v : Value} {d : DataW H} {ps : List MemPlace} (ht : P.underlying t = some (.slice e)) (he : P.underlying e = some (.int .u64)) (hc : P.cellsOf e = 1)
   (hval : Value.okWide P W .any base t v) (hd : DataW.Trod enc P W 0 (fun _ => true) true t v d ps) :
   ∃ (s : Sl) (l : List UInt64), v = vs s ∧ RdS vu (hpOf W) s l ∧ ((d = .nil ∧ l = []) ∨ ∃ el sp, d = .slice el sp ∧ el.length = l.length) := by
 obtain ⟨s, l, rfl, r, hw, hd'⟩ := arg_ints ht he hc hval hd
 refine ⟨s, l.map fun n => UInt64.ofNat n.toNat, rfl, r.map _ fun n hn => ?_, ?_⟩
 · have := hw n hn
   simp [Lit.wf, IntKind.min, IntKind.max, IntKind.signed, IntKind.bits] at this
   unfold vu
   congr 1
   rw [UInt64.toNat_ofNat']
   omega
 · rcases hd' with ⟨h1, rfl⟩ | ⟨el, sp, h1, h2⟩
   · exact .inl ⟨h1, rfl⟩
   · exact .inr ⟨el, sp, h1, by simpa using h2⟩
theorem arg_reach {ts : List TypeId} {ds : List (DataW H)} {j : Nat} {t e : TypeId} {d : DataW H} {n by_ : Nat} (hsz : (DataW.weightsEach P ts ds).all (· ≤ reachBytes) = true) (ht : ts[j]? = some t) (hu : P.underlying t = some (.slice e)) (hb : P.bytesOf e = by_)
   (hj : ds[j]? = some d) (hd : (d = .nil ∧ n = 0) ∨ ∃ el sp, d = .slice el sp ∧ el.length = n) : n * by_ ≤ 140737488355328 := by
 rcases hd with ⟨_, rfl⟩ | ⟨el, sp, rfl, rfl⟩
 · simp
 · have := sized_slice hsz ht hj hu
   rw [hb] at this
   have h2 := reachBytes_lt
   have h3 : el.length * by_ ≤ (el.length + sp.length) * by_ := Nat.mul_le_mul_right _ (by omega)
   have h4 : (2 : Nat) ^ 47 = 140737488355328 := by decide
   omega
end
end Go.Sh

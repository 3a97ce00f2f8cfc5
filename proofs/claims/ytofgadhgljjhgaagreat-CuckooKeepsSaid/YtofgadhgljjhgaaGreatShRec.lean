/- Rows of structs of numbers and truths, that come as arguments: opened. -/
import Derived.Test.YtofgadhgljjhgaaGreatShRow
import Derived.Test.YtofgadhgljjhgaaGreatShRows
import Derived.Deep.Slices
namespace Go.Sh
open Go Go.RowKit Go.ChangeShapes Go.WideShapes Go.ChangeAt
def ckOk : Option IntKind → Value → Prop
 | some k, v => ∃ n, v = .int k n ∧ (Lit.int k n).wf = true
 | none, v => ∃ b, v = .bool b
theorem RdM.map {α β : Type} {f : α → List Value} {g : β → List Value} {h : Hp} {s : Sl} {l : List α} (r : RdM f h s l) (m : α → β) (hm : ∀ x ∈ l, g (m x) = f x) : RdM g h s (l.map m) :=
 ⟨by simp [r.len], r.cap, r.nil, fun q hq => by
   have e : (l.map m).flatMap g = l.flatMap f := by
     rw [List.flatMap_map]
     have : ∀ l : List α, (∀ x ∈ l, g (m x) = f x) → l.flatMap (fun a => g (m a)) = l.flatMap f := by
       intro l hl
       induction l with
       | nil => rfl
       | cons x l ih => rw [List.flatMap_cons, List.flatMap_cons, hl x (by simp), ih fun y hy => hl y (by simp [hy])]
     exact this l hm
   rw [e]; exact r.rd q hq⟩
section
variable {H : Type} {enc : TypeId × Value → H} {P : Program} {W : World} {base : Nat}
theorem arg_recs {t e : TypeId} {fs : Array Field} {ks : List (Option IntKind)} {v : Value} {d : DataW H} {ps : List MemPlace} (ht : P.underlying t = some (.slice e)) (he : P.underlying e = some (.struct fs)) (hc : P.cellsOf e = ks.length) (hk0 : 0 < ks.length)
   (hfs : fs.size = ks.length) (hf : ∀ (j : Nat) (k : Option IntKind), ks[j]? = some k → ∃ f : Field, fs[j]? = some f ∧ f.offset = j ∧ P.cellsOf f.type = 1 ∧ P.underlying f.type = some (match k with | some k => .int k | none => .bool))
   (hval : Value.okWide P W .any base t v) (hd : DataW.Trod enc P W 0 (fun _ => true) true t v d ps) :
   ∃ (s : Sl) (l : List (List Value)), v = vs s ∧ RdM id (hpOf W) s l ∧ (∀ r ∈ l, r.length = ks.length ∧ ∀ (j : Nat) (k : Option IntKind), ks[j]? = some k → ∃ v, r[j]? = some v ∧ ckOk k v) ∧ ((d = .nil ∧ l = []) ∨ ∃ el sp, d = .slice el sp ∧ el.length = l.length) := by
 obtain ⟨a, len, cap, rfl⟩ := okWide_slice ht hval
 obtain ⟨fuel, hf'⟩ := hd
 rcases Go.Deep.open_slice ht hf' with ⟨hcs, hx⟩ | ⟨a', len', cap', m, n, D, Pl, hcs, _, hl, _, hm, hx, hel⟩
 · have e1 : Value.slice a len cap = .slice none 0 0 := by simpa [Value.cells] using hcs
   cases e1
   cases hx
   exact ⟨⟨none, 0, 0, none⟩, [], rfl, RdM.nilS _ _, by simp, .inl ⟨rfl, rfl⟩⟩
 · have e1 : Value.slice a len cap = .slice (some a') len' cap' := by simpa [Value.cells] using hcs
   cases e1
   cases hx
   simp only [if_true] at hm
   subst hm
   obtain ⟨C, hC⟩ := Go.Deep.choose_lt (α := List Value) (p := fun i cs => W.cells? 0 (a'.add (i * P.cellsOf e)) (P.cellsOf e) = some cs ∧ DataW.trod enc P W 0 (fun _ => true) true n e cs = some (D i, Pl i)) hel
   have hlen : ∀ i, i < m → (C i).length = ks.length := fun i hi => by
     obtain ⟨_, h2, _⟩ := World.cells?_some (hC i hi).1
     rw [h2, hc]
   have hcell : ∀ i, i < m → ∀ j, j < ks.length → W.cell? (a'.add (i * ks.length + j)) = (C i)[j]? := fun i hi j hj => by
     obtain ⟨_, _, h3⟩ := World.cells?_some (hC i hi).1
     have := h3 j (by rw [hc]; exact hj)
     rw [Go.Deep.add_add, hc] at this
     exact this
   have hspot : 0 < m → a'.spot = none := fun h0 => by
     have h1 := hcell 0 h0 0 hk0
     rw [List.getElem?_eq_getElem (by rw [hlen 0 h0]; exact hk0)] at h1
     have := World.cell?_spot h1
     simpa [Addr.add] using this
   refine ⟨⟨some ⟨a'.block, a'.off⟩, len, m, a'.spot⟩, (List.range len).map C, rfl, ⟨by simp, hl, ?_, ?_⟩, ?_, .inr ⟨_, _, rfl, by simp⟩⟩
   · intro hq
     by_cases h0 : m = 0
     · exact h0
     · have hsp : a'.spot = none := hspot (Nat.pos_of_ne_zero h0)
       have : a'.spot = none → Sl.q ⟨some ⟨a'.block, a'.off⟩, len, m, a'.spot⟩ = some ⟨a'.block, a'.off⟩ := fun e => by rw [e]; rfl
       rw [this hsp] at hq; cases hq
   · intro q hq
     rw [rdL_iff]
     intro x hx
     have hL : ((List.range len).map C).flatMap id = (List.range len).flatMap C := by rw [List.flatMap_map]; rfl
     rw [← List.getElem?_eq_getElem hx, hL]
     rw [hL] at hx
     have flen : ((List.range len).flatMap C).length = len * ks.length := by
       have : ∀ k, k ≤ len → ((List.range k).flatMap C).length = k * ks.length := by
         intro k
         induction k with
         | zero => intro _; simp
         | succ k ih => intro hk; rw [List.range_succ, List.flatMap_append, List.length_append, ih (by omega)]; simp [hlen k (by omega), Nat.add_mul]
       exact this len (Nat.le_refl _)
     have hx' : x < len * ks.length := by rw [← flen]; exact hx
     have hi : x / ks.length < len := Nat.div_lt_of_lt_mul (by rw [Nat.mul_comm]; exact hx')
     have hj : x % ks.length < ks.length := Nat.mod_lt _ hk0
     have hm0 : x / ks.length < m := Nat.lt_of_lt_of_le hi hl
     have hsp : a'.spot = none := hspot (Nat.zero_lt_of_lt hm0)
     rw [show Sl.q ⟨some ⟨a'.block, a'.off⟩, len, m, a'.spot⟩ = some ⟨a'.block, a'.off⟩ by rw [hsp]; rfl] at hq
     cases hq
     have h1 := hcell (x / ks.length) hm0 (x % ks.length) hj
     rw [show x / ks.length * ks.length + x % ks.length = x by rw [Nat.mul_comm]; exact Nat.div_add_mod _ _] at h1
     have e : a'.add x = ⟨a'.block, a'.off + x, none⟩ := by
       obtain ⟨b, o, z⟩ := a'
       simp only at hsp; subst hsp
       unfold Addr.add; split
       · rename_i h; subst h; rfl
       · rfl
     have hg : ∀ k, k ≤ len → x < k * ks.length → ((List.range k).flatMap C)[x]? = (C (x / ks.length))[x % ks.length]? := by
       intro k
       induction k with
       | zero => intro _ h; omega
       | succ k ih =>
         intro hk hxk
         have lk : ((List.range k).flatMap C).length = k * ks.length := by
           have : ∀ z, z ≤ len → ((List.range z).flatMap C).length = z * ks.length := by
             intro z
             induction z with
             | zero => intro _; simp
             | succ z ih => intro hz; rw [List.range_succ, List.flatMap_append, List.length_append, ih (by omega)]; simp [hlen z (by omega), Nat.add_mul]
           exact this k (by omega)
         rw [List.range_succ, List.flatMap_append]
         by_cases c : x < k * ks.length
         · rw [List.getElem?_append_left (by rw [lk]; exact c)]; exact ih (by omega) c
         · rw [List.getElem?_append_right (by rw [lk]; omega), lk]
           have hxk' : x < k * ks.length + ks.length := by rw [Nat.add_mul] at hxk; omega
           have d1 : x / ks.length = k := by
             apply Nat.div_eq_of_lt_le
             · exact Nat.le_of_not_lt c
             · rw [Nat.add_mul]; omega
           have d2 : x % ks.length = x - k * ks.length := by
             have := Nat.div_add_mod x ks.length
             rw [d1, Nat.mul_comm] at this; omega
           rw [d1, d2]; simp
     have h3 := hg len (Nat.le_refl _) hx'
     rw [e] at h1
     rw [List.getElem?_eq_getElem (l := C (x / ks.length)) (by rw [hlen _ hm0]; exact hj)] at h1 h3
     have h4 := hcell_of_cell? h1
     exact h4.trans h3.symm
   · intro r hr
     obtain ⟨i, hi, rfl⟩ := List.mem_map.1 hr
     have hi' : i < len := List.mem_range.1 hi
     refine ⟨hlen i (by omega), fun j k hk => ?_⟩
     obtain ⟨f, h1, h2, h3, h4⟩ := hf j k hk
     obtain ⟨xs, n', _, _, _, hxl, hfx⟩ := DataW.trod_struct he (hC i (by omega)).2
     have h5 := hfx j f h1
     have hj : j < ks.length := (List.getElem?_eq_some_iff.1 hk).1
     rw [h2, h3] at h5
     have hjl : j < (C i).length := by rw [hlen i (by omega)]; exact hj
     have e6 : ((C i).drop j).take 1 = [(C i)[j]] := by rw [List.drop_eq_getElem_cons hjl, List.take_succ_cons, List.take_zero]
     rw [e6, List.getElem?_eq_getElem (by rw [hxl, hfs]; exact hj)] at h5
     refine ⟨(C i)[j], List.getElem?_eq_getElem hjl, ?_⟩
     cases k with
     | some k =>
       obtain ⟨z, hz, _, hw⟩ := DataW.trod_int (k := k) h4 h5
       exact ⟨z, by simpa using hz, hw⟩
     | none =>
       obtain ⟨z, hz, _⟩ := DataW.trod_bool h4 h5
       exact ⟨z, by simpa using hz⟩
end
structure StepV where
 op : Int
 id : UInt64
 n : UInt64
 lo : -9223372036854775808 ≤ op
 hi : op ≤ 9223372036854775807
def stepv (x : StepV) : List Value := [.int .i64 x.op, vu x.id, vu x.n]
section
variable {H : Type} {enc : TypeId × Value → H} {P : Program} {W : World} {base : Nat}
end
end Go.Sh

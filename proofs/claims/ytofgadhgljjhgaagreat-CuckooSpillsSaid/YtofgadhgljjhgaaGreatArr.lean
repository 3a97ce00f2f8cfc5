/- Rows as functions of a place: read, written, compared; what is asked of a comparison. -/
import Derived.Test.YtofgadhgljjhgaaGreatRun
import Derived.Test.YtofgadhgljjhgaaGreatPla
namespace Go.Sh
open Go Go.RowKit
theorem arr_get {α:Type} {n:Nat} {d:Nat→α} {i:Nat} (hi:i<n) {h:i<((List.range n).map d).length}:((List.range n).map d)[i]=d i:=by simp
theorem sw_comm {α:Type} (d:Nat→α) (i j:Nat):sw d i j=sw d j i:=by
 funext x;unfold sw
 by_cases h1:x=i
 · subst h1
   by_cases h2:x=j
   · subst h2;simp
   · simp[h2]
 · by_cases h2:x=j
   · subst h2;simp[h1]
   · simp[h1,h2]
def CmpOk {α:Type} (P:Program) (D:Nat→Prop) (h0:Hp) (v:Value) (enc:α→Value) (key:α→Nat) (A:α→Prop):Prop :=
 ∀h,Off D h0 h→∀x y,A x→A y→callV P v [enc x,enc y] h fun r h'=>∃m,r= .int .i64 m∧(m<0↔key x<key y)∧Keep h h'
theorem half_I {i j:Nat} (hi:i<4611686018427387904) (hj:j<4611686018427387904):w64 (((ushr (toU (w64 ((i:Int)+j))) (UInt64.toNat 1)).toNat:Nat):Int)=(((i+j)/2:Nat):Int):=by
 have e1:w64 ((i:Int)+j)=((i+j:Nat):Int):=by rw[w64_id (by omega) (by omega)];omega
 have e2:(ushr (toU ((i+j:Nat):Int)) (UInt64.toNat 1)).toNat=(i+j)/2:=by
   have e3:((toU ((i+j:Nat):Int)).toNat:Int)=((i+j:Nat):Int):=toU_ok (by simp[uok];omega)
   have e4:(toU ((i+j:Nat):Int)).toNat=i+j:=by omega
   unfold ushr
   rw[show UInt64.toNat 1=1 from rfl]
   simp only[UInt64.toNat_shiftRight,UInt64.toNat_ofNat',e4]
   have e5:min 1 64=1:=rfl
   rw[e5]
   omega
 rw[e1,e2,w64_id (by omega) (by omega)]
theorem dvd_gap {c a b:Nat} (ha:c ∣ a) (hb:c ∣ b):a<b→a+c≤b:=by
 obtain⟨x,rfl⟩:=ha
 obtain⟨y,rfl⟩:=hb
 intro h
 have h1:=Nat.lt_of_mul_lt_mul_left h
 have:=Nat.mul_le_mul_left c (show x+1≤y by omega)
 rw[Nat.mul_add,Nat.mul_one] at this;exact this
theorem arr_put {α:Type} {k:Nat} {f:α→List Value} (hf:∀x,(f x).length=k) {b0 g:Hp} {s:Sl} {n:Nat} {d:Nat→α} (A:OwnM k f b0 g s ((List.range n).map d)) {q:Pt} (hq:s.q=some q) {i:Nat} (hi:i<n) (e:α) {K:Hp→Prop}
   (hk:∀g',OwnM k f b0 g' s ((List.range n).map fun x=>if x=i then e else d x)→(∀b,b≠q.b→g' b=g b)→K g'):storeK g ⟨q.b,q.o+Int.toNat (i:Int)*k⟩ (f e) K:=by
 have hlen:=A.len
 simp only[List.length_map,List.length_range] at hlen
 have hcap:=A.cap
 rcases A.own with ⟨hn,_⟩|⟨q',c,t,h1,h2,h3,h4,h5⟩
 · rw[hq] at hn;cases hn
 · rw[hq] at h1;cases h1
   have fl:(((List.range n).map d).flatMap f).length=n*k:=by rw[flat_length hf];simp
   have hik:i*k+k≤n*k:=by
     have:=Nat.mul_le_mul_right k (show i+1≤n by omega)
     rw[Nat.add_mul,Nat.one_mul] at this;exact this
   have hcs:n*k≤s.cap*k:=Nat.mul_le_mul_right k (by omega)
   have hI:Int.toNat (i:Int)=i:=by omega
   rw[hI]
   refine⟨c,t,h3,by rw[hf];show q.o+i*k+k≤c.size;omega,hk _ ⟨by simp[hlen],hcap,.inr ⟨q,_,t,hq,h2,upd_same _ _ _,by rw[hwr_size];exact h4,fun j hj=>?_⟩⟩ fun b hb=>upd_ne _ _ hb⟩
   have fl2:(((List.range n).map fun x=>if x=i then e else d x).flatMap f).length=n*k:=by rw[flat_length hf];simp
   have hjn:j<n*k:=by rw[←fl2];exact hj
   rw[hwr_get,hf]
   have hkp:0<k:=by
     rcases Nat.eq_zero_or_pos k with h|h
     · subst h;simp at hjn
     · exact h
   have hdm:=Nat.div_add_mod j k
   have hm:=Nat.mod_lt j hkp
   have hdn:j/k<n:=by rw[Nat.div_lt_iff_lt_mul hkp];exact hjn
   generalize hx:j/k=x at *
   generalize hy:j%k=y at *
   have ej:j=x*k+y:=by rw[Nat.mul_comm];omega
   have g2:=flat_get (k:=k) hf (l:=(List.range n).map fun x=>if x=i then e else d x) (i:=x) (by simpa using hdn) (j:=y) hm
   rw[List.getElem?_eq_getElem (by rw[fl2,←ej];exact hjn)] at g2
   simp only[List.getElem_map,List.getElem_range] at g2
   have e2:(((List.range n).map fun x=>if x=i then e else d x).flatMap f)[j]'(by rw[fl2];exact hjn)=(((List.range n).map fun x=>if x=i then e else d x).flatMap f)[x*k+y]'(by rw[fl2,←ej];exact hjn):=by congr 1
   rw[←e2] at g2
   by_cases c1:x=i
   · subst c1
     rw[if_pos rfl] at g2
     have hc:q.o+x*k≤q.o+j∧q.o+j<q.o+x*k+k∧q.o+j<c.size:=by
       refine⟨by omega,by omega,?_⟩
       have:j<s.cap*k:=Nat.lt_of_lt_of_le hjn hcs
       omega
     rw[if_pos hc,show q.o+j-(q.o+x*k)=y by omega,g2]
   · rw[if_neg c1] at g2
     have hne:¬(q.o+i*k≤q.o+j∧q.o+j<q.o+i*k+k∧q.o+j<c.size):=by
       rintro⟨a1,a2,_⟩
       rcases Nat.lt_or_gt_of_ne c1 with h|h
       · have:=Nat.mul_le_mul_right k (show x+1≤i by omega)
         rw[Nat.add_mul,Nat.one_mul] at this;omega
       · have:=Nat.mul_le_mul_right k (show i+1≤x by omega)
         rw[Nat.add_mul,Nat.one_mul] at this;omega
     rw[if_neg hne,h5 j (by rw[fl];exact hjn)]
     have g3:=flat_get (k:=k) hf (l:=(List.range n).map d) (i:=x) (by simpa using hdn) (j:=y) hm
     rw[List.getElem?_eq_getElem (by rw[fl,←ej];exact hjn)] at g3
     simp only[List.getElem_map,List.getElem_range] at g3
     have e3:(((List.range n).map d).flatMap f)[j]'(by rw[fl];exact hjn)=(((List.range n).map d).flatMap f)[x*k+y]'(by rw[fl,←ej];exact hjn):=by congr 1
     rw[g2,←g3,e3]
end Go.Sh

/- Steps that every walk takes: new blocks, fields read, calls that keep all that was there. -/
import Derived.Test.YtofgadhgljjhgaaGreatShRows
namespace Go.Sh
open Go Go.RowKit
theorem Keep.get {h h':Hp} (k:Keep h h') {b:Nat} {o:Obj} (e:h b=some o):h' b=some o:=by rw[k b (by rw[e];simp),e]
theorem Keep.cell {h h':Hp} (k:Keep h h') {b i:Nat} {v:Value} (e:hcell h b i=some v):hcell h' b i=some v:=by rw[hcell_same (k b (hcell_some e)),e]
theorem newC {h:Hp} {o:Obj} {K:Nat→Hp→Prop} (hk:∀b h1,h b=none→h1 b=some o→Keep h h1→K b h1):newK h o K :=
 fun b hb=>hk b _ hb (upd_same _ _ _) ((Keep.refl h).upd hb o)
theorem rd1 {h:Hp} {b i:Nat} {c:Array Value} {t:TypeId} {f:Nat×Nat} {v:Value} (e:h b=some (.cells c t f)) (hc:c[i]? =some v):hcell h b i=some v:=by rw[hcell_cells e];exact hc
theorem rdI {h:Hp} {b i:Nat} {c:Array Value} {t:TypeId} {f:Nat×Nat} {a:Int} {K:Int→Prop} (e:h b=some (.cells c t f)) (hc:c[i]? =some (.int .i64 a)) (hk:K a) :
   ∃n:Int,hcell h b i=some (.int .i64 n)∧K n:=⟨a,rd1 e hc,hk⟩
theorem rd3 {h:Hp} {b:Nat} {t:TypeId} {f:Nat×Nat} {a1 a2 a3:Int} {K:Int→Int→Int→Prop} (e:h b=some (.cells #[.int .i64 a1,.int .i64 a2,.int .i64 a3] t f)) (hk:K a1 a2 a3) :
   ∃n1:Int,hcell h b 0=some (.int .i64 n1)∧∃n2:Int,hcell h b (0+1)=some (.int .i64 n2)∧∃n3:Int,hcell h b (0+1+1)=some (.int .i64 n3)∧K n1 n2 n3 :=
 ⟨a1,rd1 e rfl,a2,rd1 e rfl,a3,rd1 e rfl,hk⟩
theorem rd4 {h:Hp} {b:Nat} {t:TypeId} {f:Nat×Nat} {a1 a2 a3 a4:Int} {K:Int→Int→Int→Int→Prop} (e:h b=some (.cells #[.int .i64 a1,.int .i64 a2,.int .i64 a3,.int .i64 a4] t f)) (hk:K a1 a2 a3 a4) :
   ∃n1:Int,hcell h b 0=some (.int .i64 n1)∧∃n2:Int,hcell h b (0+1)=some (.int .i64 n2)∧∃n3:Int,hcell h b (0+1+1)=some (.int .i64 n3)∧∃n4:Int,hcell h b (0+1+1+1)=some (.int .i64 n4)∧K n1 n2 n3 n4 :=
 ⟨a1,rd1 e rfl,a2,rd1 e rfl,a3,rd1 e rfl,a4,rd1 e rfl,hk⟩
theorem stN {h0 h:Hp} {b o:Nat} {c:Array Value} {t:TypeId} {l:List Value} {K:Hp→Prop} (k:Keep h0 h) (hb:h0 b=none) (e:h b=some (.cells c t (0,0))) (hs:o+l.length≤c.size)
   (hk:∀h',Keep h0 h'→h' b=some (.cells (hwr c o l) t (0,0))→(∀x,x≠b→h' x=h x)→K h'):storeK h ⟨b,o⟩ l K :=
 ⟨c,t,e,hs,hk _ (fun x hx=>by
   have hne:x≠b:=fun e=>hx (e▸hb)
   rw[upd_ne _ _ hne,k x hx]) (upd_same _ _ _) fun x hx=>upd_ne _ _ hx⟩
theorem hwr_all (c:Array Value) (l:List Value) (hs:c.size=l.length):hwr c 0 l=l.toArray:=by
 apply Array.ext_getElem?
 intro i
 rw[hwr_get]
 by_cases h:i<l.length
 · rw[if_pos (by omega),Nat.sub_zero,List.getElem?_toArray]
 · rw[if_neg (by omega),Array.getElem?_eq_none (by omega),List.getElem?_toArray,List.getElem?_eq_none (by omega)]
theorem stW {h0 h:Hp} {b:Nat} {c:Array Value} {t:TypeId} {l:List Value} {K:Hp→Prop} (k:Keep h0 h) (hb:h0 b=none) (e:h b=some (.cells c t (0,0))) (hs:c.size=l.length)
   (hk:∀h',Keep h0 h'→h' b=some (.cells l.toArray t (0,0))→(∀x,x≠b→h' x=h x)→K h'):storeK h ⟨b,0⟩ l K :=
 stN k hb e (by omega) fun h' k' e' f'=>hk h' k' (by rw[e',hwr_all _ _ hs]) f'
def PureC (P:Program) (K:FuncId) (args:List Value) (v:Value):Prop:=∀h,callK P K args h fun r h'=>r=v∧Keep h h'
theorem PureC.to {P:Program} {K:FuncId} {args:List Value} {v:Value} {h:Hp} {Q:Value→Hp→Prop} (p:PureC P K args v) (hk:∀h',Keep h h'→Q v h'):callK P K args h Q :=
 (p h).mono (by rintro _ h' ⟨rfl,k⟩;exact hk h' k)
theorem PureC.toV {P:Program} {g:FuncId} {cs:List Value} {args:List Value} {v:Value} {h:Hp} {Q:Value→Hp→Prop} (p:PureC P g (args++cs) v) (hk:∀h',Keep h h'→Q v h'):callV P (.func (.func g) #[] cs.toArray) args h Q :=
 ⟨rfl,p.to hk⟩
theorem OwnS.newE {α:Type} {f:α→Value} {h0 h:Hp} {l:List α} {t:TypeId} {b:Nat} {c:Array Value} (hb:h0 b=none) (e:h b=some (.cells c t (0,0))) (hc:c=(l.map f).toArray) {n:Nat} (hn:n=l.length):OwnS f h0 h ⟨some ⟨b,0⟩,n,n,none⟩ l:=by
 subst hn;subst hc
 exact⟨rfl,Nat.le_refl _,.inr ⟨_,_,_,rfl,hb,e,by simp,fun i hi=>by simp[hi]⟩⟩
theorem OwnM.newE {α:Type} {k:Nat} {f:α→List Value} (hf:∀x,(f x).length=k) {h0 h:Hp} {l:List α} {t:TypeId} {b:Nat} {c:Array Value} (hb:h0 b=none) (e:h b=some (.cells c t (0,0))) (hc:c=(l.flatMap f).toArray) {n:Nat} (hn:n=l.length):OwnM k f h0 h ⟨some ⟨b,0⟩,n,n,none⟩ l:=by
 subst hn;subst hc
 exact⟨rfl,Nat.le_refl _,.inr ⟨_,_,_,rfl,hb,e,by simp[flat_length hf],fun i hi=>by simp⟩⟩
def iv (n:Int):Value:= .int .i64 n
theorem iv_one (x:Int):(iv x).oneCell'=true:=rfl
end Go.Sh

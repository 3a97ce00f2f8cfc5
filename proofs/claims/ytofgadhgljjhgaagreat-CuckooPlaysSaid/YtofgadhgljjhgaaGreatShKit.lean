import Derived.Test.YtofgadhgljjhgaaGreatShRows
namespace Go.cD
open Go Go.RowKit
theorem bL.get {h ah:ak}(k:bL h ah){b:Nat}{o:Obj}(e:h b=some o):ah b=some o:=by rw[k b (by rw[e];simp),e]
theorem bL.cell {h ah:ak}(k:bL h ah){b i:Nat}{v:Value}(e:br h b i=some v):br ah b i=some v:=by rw[qG (k b (w2 e)),e]
theorem bM {h:ak}{o:Obj}{K:Nat->ak->Prop}(ag:∀b aa,h b=none->aa b=some o->bL h aa->K b aa):bj h o K :=
 λb au=>ag b _ au (eH _ _ _) ((bL.refl h).bA au o)
theorem az {h:ak}{b i:Nat}{c:Array Value}{t:TypeId}{f:Nat×Nat}{v:Value}(e:h b=some (.cells c t f))(aZ:c[i]? =some v):br h b i=some v:=by rw[A8 e];exact aZ
theorem gq {h:ak}{b i:Nat}{c:Array Value}{t:TypeId}{f:Nat×Nat}{a:Int}{K:Int->Prop}(e:h b=some (.cells c t f))(aZ:c[i]? =some (.int .i64 a))(ag:K a) :
 ∃n:Int,br h b i=some (.int .i64 n)/\K n:=⟨a,az e aZ,ag⟩
theorem k7 {h:ak}{b:Nat}{t:TypeId}{f:Nat×Nat}{aq aM a3:Int}{K:Int->Int->Int->Prop}(e:h b=some (.cells #[.int .i64 aq,.int .i64 aM,.int .i64 a3] t f))(ag:K aq aM a3) :
 ∃aw:Int,br h b 0=some (.int .i64 aw)/\∃aA:Int,br h b (0+1)=some (.int .i64 aA)/\∃aL:Int,br h b (0+1+1)=some (.int .i64 aL)/\K aw aA aL :=
 ⟨aq,az e rfl,aM,az e rfl,a3,az e rfl,ag⟩
theorem vU {h:ak}{b:Nat}{t:TypeId}{f:Nat×Nat}{aq aM a3 a4:Int}{K:Int->Int->Int->Int->Prop}(e:h b=some (.cells #[.int .i64 aq,.int .i64 aM,.int .i64 a3,.int .i64 a4] t f))(ag:K aq aM a3 a4) :
 ∃aw:Int,br h b 0=some (.int .i64 aw)/\∃aA:Int,br h b (0+1)=some (.int .i64 aA)/\∃aL:Int,br h b (0+1+1)=some (.int .i64 aL)/\∃aO:Int,br h b (0+1+1+1)=some (.int .i64 aO)/\K aw aA aL aO :=
 ⟨aq,az e rfl,aM,az e rfl,a3,az e rfl,a4,az e rfl,ag⟩
theorem pE {h0 h:ak}{b o:Nat}{c:Array Value}{t:TypeId}{l:List Value}{K:ak->Prop}(k:bL h0 h)(au:h0 b=none)(e:h b=some (.cells c t (0,0)))(aU:o+l.length<=c.size)
 (ag:∀ah,bL h0 ah->ah b=some (.cells (h5 c o l) t (0,0))->(∀x,x≠b->ah x=h x)->K ah):aX h ⟨b,o⟩ l K :=
 ⟨c,t,e,aU,ag _ (λx ai=>by
  have df:x≠b:=λe=>ai (e▸au)
  rw[cQ _ _ df,k x ai]) (eH _ _ _) λx ai=>cQ _ _ ai⟩
theorem Xc (c:Array Value)(l:List Value)(aU:c.size=l.length):h5 c 0 l=l.toArray:=by
 apply Array.ext_getElem?
 intro i
 rw[wC]
 by_cases h:i<l.length
 .rw[if_pos (by omega),Nat.sub_zero,List.getElem?_toArray]
 .rw[if_neg (by omega),Array.getElem?_eq_none (by omega),List.getElem?_toArray,List.getElem?_eq_none (by omega)]
theorem jl {h0 h:ak}{b:Nat}{c:Array Value}{t:TypeId}{l:List Value}{K:ak->Prop}(k:bL h0 h)(au:h0 b=none)(e:h b=some (.cells c t (0,0)))(aU:c.size=l.length)
 (ag:∀ah,bL h0 ah->ah b=some (.cells l.toArray t (0,0))->(∀x,x≠b->ah x=h x)->K ah):aX h ⟨b,0⟩ l K :=
 pE k au e (by omega) λah hJ b4 zo=>ag ah hJ (by rw[b4,Xc _ _ aU]) zo
def eW (P:Program)(K:FuncId)(args:List Value)(v:Value):Prop:=∀h,oq P K args h λr ah=>r=v/\bL h ah
theorem eW.to {P:Program}{K:FuncId}{args:List Value}{v:Value}{h:ak}{Q:Value->ak->Prop}(p:eW P K args v)(ag:∀ah,bL h ah->Q v ah):oq P K args h Q :=
 (p h).mono (by rintro _ ah ⟨rfl,k⟩;exact ag ah k)
theorem eW.ak6 {P:Program}{g:FuncId}{cs:List Value}{args:List Value}{v:Value}{h:ak}{Q:Value->ak->Prop}(p:eW P g (args++cs) v)(ag:∀ah,bL h ah->Q v ah):gi P (.func (.func g) #[] cs.toArray) args h Q :=
 ⟨rfl,p.to ag⟩
theorem cW.qz {α:Type}{f:α->Value}{h0 h:ak}{l:List α}{t:TypeId}{b:Nat}{c:Array Value}(au:h0 b=none)(e:h b=some (.cells c t (0,0)))(aZ:c=(l.map f).toArray){n:Nat}(aH:n=l.length):cW f h0 h ⟨some ⟨b,0⟩,n,n,none⟩ l:=by
 subst aH;subst aZ
 exact⟨rfl,Nat.le_refl _,.inr ⟨_,_,_,rfl,au,e,by simp,λi hi=>by simp[hi]⟩⟩
theorem cF.qz {α:Type}{k:Nat}{f:α->List Value}(a_:∀x,(f x).length=k){h0 h:ak}{l:List α}{t:TypeId}{b:Nat}{c:Array Value}(au:h0 b=none)(e:h b=some (.cells c t (0,0)))(aZ:c=(l.flatMap f).toArray){n:Nat}(aH:n=l.length):cF k f h0 h ⟨some ⟨b,0⟩,n,n,none⟩ l:=by
 subst aH;subst aZ
 exact⟨rfl,Nat.le_refl _,.inr ⟨_,_,_,rfl,au,e,by simp[nu a_],λi hi=>by simp⟩⟩
def eR (n:Int):Value:= .int .i64 n
theorem Eh (x:Int):(eR x).oneCell'=true:=rfl

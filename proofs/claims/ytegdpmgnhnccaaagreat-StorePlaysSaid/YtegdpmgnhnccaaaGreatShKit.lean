import Derived.Test.YtegdpmgnhnccaaaGreatShRows
namespace Go.cQ
open Go Go.RowKit
theorem bB.get {h ag:ai}(k:bB h ag){b:Nat}{o:Obj}(e:h b=some o):ag b=some o:=by rw[k b (by rw[e];simp),e]
theorem bB.cell {h ag:ai}(k:bB h ag){b i:Nat}{v:Value}(e:bR h b i=some v):bR ag b i=some v:=by rw[mF (k b (p3 e)),e]
theorem bL {h:ai}{o:Obj}{K:Nat->ai->Prop}(ab:∀b aa,h b=none->aa b=some o->bB h aa->K b aa):bn h o K :=
 λb au=>ab b _ au (ea _ _ _) ((bB.refl h).bD au o)
theorem aF {h:ai}{b i:Nat}{c:Array Value}{t:TypeId}{f:Nat×Nat}{v:Value}(e:h b=some (.cells c t f))(aT:c[i]? =some v):bR h b i=some v:=by rw[B8 e];exact aT
theorem fh {h:ai}{b i:Nat}{c:Array Value}{t:TypeId}{f:Nat×Nat}{a:Int}{K:Int->Prop}(e:h b=some (.cells c t f))(aT:c[i]? =some (.int .i64 a))(ab:K a) :
 ∃n:Int,bR h b i=some (.int .i64 n)/\K n:=⟨a,aF e aT,ab⟩
theorem jV {h:ai}{b:Nat}{t:TypeId}{f:Nat×Nat}{ar aN a3:Int}{K:Int->Int->Int->Prop}(e:h b=some (.cells #[.int .i64 ar,.int .i64 aN,.int .i64 a3] t f))(ab:K ar aN a3) :
 ∃ax:Int,bR h b 0=some (.int .i64 ax)/\∃ay:Int,bR h b (0+1)=some (.int .i64 ay)/\∃aI:Int,bR h b (0+1+1)=some (.int .i64 aI)/\K ax ay aI :=
 ⟨ar,aF e rfl,aN,aF e rfl,a3,aF e rfl,ab⟩
theorem qo {h:ai}{b:Nat}{t:TypeId}{f:Nat×Nat}{ar aN a3 a4:Int}{K:Int->Int->Int->Int->Prop}(e:h b=some (.cells #[.int .i64 ar,.int .i64 aN,.int .i64 a3,.int .i64 a4] t f))(ab:K ar aN a3 a4) :
 ∃ax:Int,bR h b 0=some (.int .i64 ax)/\∃ay:Int,bR h b (0+1)=some (.int .i64 ay)/\∃aI:Int,bR h b (0+1+1)=some (.int .i64 aI)/\∃aQ:Int,bR h b (0+1+1+1)=some (.int .i64 aQ)/\K ax ay aI aQ :=
 ⟨ar,aF e rfl,aN,aF e rfl,a3,aF e rfl,a4,aF e rfl,ab⟩
theorem n0 {h0 h:ai}{b o:Nat}{c:Array Value}{t:TypeId}{l:List Value}{K:ai->Prop}(k:bB h0 h)(au:h0 b=none)(e:h b=dB c t)(aR:o+l.length<=c.size)
 (ab:∀ag,bB h0 ag->ag b=dB (hg c o l) t->(∀x,x≠b->ag x=h x)->K ag):a1 h ⟨b,o⟩ l K :=
 ⟨c,t,e,aR,ab _ (λx af=>by
  have cX:x≠b:=λe=>af (e▸au);rw[cJ _ _ cX,k x af]) (ea _ _ _) λx af=>cJ _ _ af⟩
theorem RM (c:Array Value)(l:List Value)(aR:c.size=l.length):hg c 0 l=l.toArray:=by
 apply Array.ext_getElem?;intro i;rw[wo];by_cases h:i<l.length
 .rw[d_,auz,atO]
 .rw[cS,Array.getElem?_eq_none (by omega),atO,auM (by omega)]
theorem kC {h0 h:ai}{b:Nat}{c:Array Value}{t:TypeId}{l:List Value}{K:ai->Prop}(k:bB h0 h)(au:h0 b=none)(e:h b=dB c t)(aR:c.size=l.length)
 (ab:∀ag,bB h0 ag->ag b=dB l.toArray t->(∀x,x≠b->ag x=h x)->K ag):a1 h ⟨b,0⟩ l K :=
 n0 k au e (by omega) λag hd ch w8=>ab ag hd (by rw[ch,RM _ _ aR]) w8
def eu (P:Program)(K:FuncId)(args:List Value)(v:Value):Prop:=∀h,mY P K args h λr ag=>r=v/\bB h ag
theorem eu.to {P:Program}{K:FuncId}{args:List Value}{v:Value}{h:ai}{Q:Value->ai->Prop}(p:eu P K args v)(ab:∀ag,bB h ag->Q v ag):mY P K args h Q :=
 (p h).mono (by rintro _ ag ⟨rfl,k⟩;exact ab ag k)
theorem eu.aeC {P:Program}{g:FuncId}{cs:List Value}{args:List Value}{v:Value}{h:ai}{Q:Value->ai->Prop}(p:eu P g (args++cs) v)(ab:∀ag,bB h ag->Q v ag):fo P (.func (.func g) #[] cs.toArray) args h Q :=
 ⟨rfl,p.to ab⟩
theorem b9.nu {α:Type}{f:α->Value}{h0 h:ai}{l:List α}{t:TypeId}{b:Nat}{c:Array Value}(au:h0 b=none)(e:h b=dB c t)(aT:c=(l.map f).toArray){n:Nat}(aH:n=l.length):b9 f h0 h ⟨some ⟨b,0⟩,n,n,none⟩ l:=by
 subst aH;subst aT;exact⟨rfl,as_ _,.inr ⟨_,_,_,rfl,au,e,by simp,λi hi=>by simp[hi]⟩⟩
theorem cI.nu {α:Type}{k:Nat}{f:α->List Value}(bf:∀x,(f x).length=k){h0 h:ai}{l:List α}{t:TypeId}{b:Nat}{c:Array Value}(au:h0 b=none)(e:h b=dB c t)(aT:c=(l.flatMap f).toArray){n:Nat}(aH:n=l.length):cI k f h0 h ⟨some ⟨b,0⟩,n,n,none⟩ l:=by
 subst aH;subst aT;exact⟨rfl,as_ _,.inr ⟨_,_,_,rfl,au,e,by simp[mv bf],λi hi=>by simp⟩⟩
def dg (n:Int):Value:= .int .i64 n
theorem qD (x:Int):(dg x).oneCell'=true:=rfl

import Derived.Test.YtegdpmgnhnccaaaGreatShUse
namespace Go.cR
open Go Go.RowKit
variable {α:Type}
theorem nx {f:α->List Value}{k:Nat}(bc:∀x,(f x).length=k)(l:List α):(l.flatMap f).length=l.length*k:=by
 induction l with
 | nil=>simp
 | cons x l dI=>simp[bc,dI,Nat.add_mul,Nat.add_comm]
theorem IJ {f:α->List Value}{k:Nat}(bc:∀x,(f x).length=k){l:List α}{i:Nat}(hi:i<l.length){j:Nat}(aU:j<k):(l.flatMap f)[i*k+j]? =(f l[i])[j]?:=by
 have e:l.flatMap f=(l.take i).flatMap f++(f l[i]++(l.drop (i+1)).flatMap f):=by
  have dM:l=l.take i++l[i]::l.drop (i+1):=by rw[List.getElem_cons_drop,List.take_append_drop]
  conv=>lhs;rw[dM,List.flatMap_append,List.flatMap_cons]
 have aH:((l.take i).flatMap f).length=i*k:=by rw[nx bc,List.length_take,Nat.min_eq_left (by omega)]
 rw[e,List.getElem?_append_right (by omega),aH,Nat.add_sub_cancel_left,List.getElem?_append_left (by rw[bc];exact aU)]
theorem sT {f:α->List Value}{k:Nat}(bc:∀x,(f x).length=k){h:ak}{b o:Nat}{l:List α}(r:fW h b o (l.flatMap f)){i:Nat}(hi:i<l.length):fW h b (o+i*k) (f l[i]):=by
 rw[pJ] at r ⊢
 intro j aU
 have kb:j<k:=by rw[<-bc];exact aU
 have M8:i*k+k<=l.length*k:=by
  have:=Nat.mul_le_mul_right k (show i+1<=l.length by omega)
  rw[Nat.add_mul] at this;omega
 have aa:i*k+j<(l.flatMap f).length:=by rw[nx bc];omega
 have ad:=r (i*k+j) aa
 have an:=IJ bc hi kb
 rw[List.getElem?_eq_getElem aa,List.getElem?_eq_getElem aU] at an
 rw[show o+i*k+j=o+(i*k+j) by omega,ad,an]
structure fR (f:α->List Value)(h:ak)(s:ao)(l:List α):Prop where
 len:s.len=l.length
 cap:s.len<=s.cap
 nil:s.q=none->s.cap=0
 rd:∀q,s.q=some q->fW h q.b q.o (l.flatMap f)
theorem aAw {h af:ak}{b:Nat}(e:af b=h b){o:Nat}{l:List Value}(r:fW h b o l):fW af b o l:=by
 rw[pJ] at r ⊢
 intro i hi;rw[qH e];exact r i hi
theorem aAx {h:ak}{b o:Nat}{l:List Value}(r:fW h b o l)(aT:0<l.length):h b≠none:=by
 rw[pJ] at r;exact xY (r 0 aT)
theorem fR.ptr {f:α->List Value}{h:ak}{s:ao}{l:List α}(r:fR f h s l)(aT:0<l.length):∃q,s.q=some q:=by
 cases e:s.q with
 | some q=>exact⟨q,rfl⟩
 | none=>have:=r.nil e;have:=r.cap;have:=r.len;omega
theorem fR.move {f:α->List Value}{h af:ak}{s:ao}{l:List α}(r:fR f h s l)(aV:∀q,s.q=some q->0<l.length->af q.b=h q.b):fR f af s l :=
 ⟨r.len,r.cap,r.nil,λq aj=>by
  cases l with
  | nil=>trivial
  | cons x l=>exact aAw (aV q aj (by simp)) (r.rd q aj)⟩
theorem fR.there {f:α->List Value}{k:Nat}(bc:∀x,(f x).length=k+1){h:ak}{s:ao}{l:List α}(r:fR f h s l){q:aF}(aj:s.q=some q)(aT:0<l.length):h q.b≠none :=
 aAx (r.rd q aj) (by rw[nx bc];exact Nat.mul_pos aT (by omega))
theorem fR.bA {f:α->List Value}{k:Nat}(bc:∀x,(f x).length=k+1){h af:ak}{s:ao}{l:List α}(r:fR f h s l)(c:bL h af):fR f af s l :=
 r.move λ_ aj aT=>c _ (r.there bc aj aT)
theorem fR.gy (f:α->List Value)(h:ak):fR f h ⟨none,0,0,none⟩ []:=⟨rfl,Nat.le_refl _,λ_=>rfl,λ_ h=>by cases h⟩
theorem fR.cA {f:α->List Value}{k:Nat}(bc:∀x,(f x).length=k){h:ak}{s:ao}{l:List α}(r:fR f h s l){i:Nat}(hi:i<l.length){K:aF->Prop}(ah:∀q,s.q=some q->fW h q.b (q.o+i*k) (f l[i])->K q) :
 ∃q,s.q=some q/\(0:Int)<=(i:Int)/\(i:Int)+1<=(s.len:Int)/\K q:=by
 obtain⟨q,aj⟩:=r.ptr (by omega)
 exact⟨q,aj,by omega,by rw[r.len];omega,ah q aj (sT bc (r.rd q aj) hi)⟩
structure ct (k:Nat)(f:α->List Value)(h0 h:ak)(s:ao)(l:List α):Prop where
 len:s.len=l.length
 cap:s.len<=s.cap
 own:(s.q=none/\s.cap=0)∨∃q c t,s.q=some q/\h0 q.b=none/\h q.b=ev c t/\q.o+s.cap*k<=c.size/\∀i (hi:i<(l.flatMap f).length),c[q.o+i]? =some (l.flatMap f)[i]
theorem ct.rd {k:Nat}{f:α->List Value}{h0 h:ak}{s:ao}{l:List α}(r:ct k f h0 h s l):fR f h s l:=by
 refine⟨r.len,r.cap,λaK=>?_,λq aj=>?_⟩
 .rcases r.own with ⟨_,aa⟩|⟨q,c,t,aa,_⟩
  .exact aa
  .rw[aK] at aa;cases aa
 .rcases r.own with ⟨aa,_⟩|⟨dE,c,t,aa,_,an,_,aR⟩
  .rw[aj] at aa;cases aa
  .rw[aj] at aa;cases aa
   rw[pJ];intro i hi
   rw[B7 an];exact aR i hi
theorem ct.bp {k:Nat}{f:α->List Value}{h0 h:ak}{s:ao}{l:List α}(r:ct k f h0 h s l){q:aF}(aj:s.q=some q):h0 q.b=none/\h q.b≠none:=by
 rcases r.own with ⟨aa,_⟩|⟨dE,c,t,aa,ad,an,_⟩
 .rw[aj] at aa;cases aa
 .rw[aj] at aa;cases aa;exact⟨ad,by rw[an];simp⟩
theorem ct.move {k:Nat}{f:α->List Value}{h0 h af:ak}{s:ao}{l:List α}(r:ct k f h0 h s l)(aV:∀q,s.q=some q->af q.b=h q.b):ct k f h0 af s l:=by
 refine⟨r.len,r.cap,?_⟩
 rcases r.own with aa|⟨q,c,t,aa,ad,an,aJ,aR⟩
 .exact .inl aa
 .exact .inr ⟨q,c,t,aa,ad,by rw[aV q aa];exact an,aJ,aR⟩
theorem ct.base {k:Nat}{f:α->List Value}{h0 aa h:ak}{s:ao}{l:List α}(r:ct k f aa h s l)(aV:∀b,aa b=none->h0 b=none):ct k f h0 h s l:=by
 refine⟨r.len,r.cap,?_⟩
 rcases r.own with aa|⟨q,c,t,aa,ad,an,aJ,aR⟩
 .exact .inl aa
 .exact .inr ⟨q,c,t,aa,aV _ ad,an,aJ,aR⟩
theorem ct.FR {k:Nat}{f:α->List Value}{h0 aa h:ak}{s:ao}{l:List α}(r:ct k f aa h s l)(c:bL h0 aa):ct k f h0 h s l:=r.base λ_ ar=>c.free ar
theorem ct.gy (k:Nat)(f:α->List Value)(h0 h:ak):ct k f h0 h ⟨none,0,0,none⟩ []:=⟨rfl,Nat.le_refl _,.inl ⟨rfl,rfl⟩⟩
theorem ct.bA {k:Nat}{f:α->List Value}{h0 h af:ak}{s:ao}{l:List α}(r:ct k f h0 h s l)(c:bL h af):ct k f h0 af s l :=
 r.move λ_ aj=>c _ (r.bp aj).2
theorem ct.new {k:Nat}{f:α->List Value}(bc:∀x,(f x).length=k){h0 h:ak}{l:List α}{t:TypeId}{b:Nat}(ar:h0 b=none)(n:Nat)(aK:n=l.length){c:Array Value}(a1:c=(l.flatMap f).toArray) :
 ct k f h0 (bD h b (.cells c t (0,0))) ⟨some ⟨b,0⟩,n,n,none⟩ l:=by
 subst aK;subst a1
 refine⟨rfl,Nat.le_refl _,.inr ⟨_,_,_,rfl,ar,eC _ _ _,?_,λi hi=>?_⟩⟩
 .simp[nx bc]
 .simp
structure ph (P:Program)(T el:TypeId)(k:Nat)(z:Value)(by_:Nat):Prop where
 FB:P.underlying T=some (.slice el)
 dR:kk P el=some k
 TY:vr P el=some z
 bytes:(P.info? el).map (·.bytes)=some by_
 size:z.cells.size=k
theorem ct.app {P:Program}{T el:TypeId}{k:Nat}{z:Value}{by_:Nat}(rt:ph P T el k z by_){f:α->List Value}(bc:∀x,(f x).length=k)(one:∀x,∀v∈f x,v.oneCell'=true){h0 h:ak}{s y:ao}{l m:List α}(r:ct k f h0 h s l)(iO:fR f h y m)
 (qy:∀b,h b=none->h0 b=none) (room:(l.length+m.length)*by_<=140737488355328) (kX:0<by_) {K:ao->ak->Prop}
 (ah:∀cE af,ct k f h0 af cE (l++m)->(∀b,h b≠none->(∀q,s.q=some q->b≠q.b)->af b=h b)->(∀dE,cE.q=some dE->(∃q,s.q=some q/\dE.b=q.b)∨h dE.b=none)->(∀b,af b=none->h b=none)->K cE af) :
 eI P T s (.s y) h K:=by
 unfold eI
 rw[rt.FB]
 simp only[rt.dR,rt.TY,rt.bytes,td]
 have aQ:=r.rd
 have oW:=iO.len
 have kq:=r.len
 have agh:∀(l:List α),∀v∈l.flatMap f,v.oneCell'=true:=λl v b0=>by
  obtain⟨x,_,ai⟩:=List.mem_flatMap.1 b0
  exact one x v ai
 refine⟨m.flatMap f,by rw[nx bc,oW],agh m,?_,?_⟩
 .cases e:y.q with
  | none=>have:=iO.nil e;have:=iO.cap;obtain rfl:m=[]:=List.length_eq_zero_iff.1 (by omega);rfl
  | some q=>exact iO.rd q e
 cases a1:decide (s.len+y.len<=s.cap) with
 | true =>
  rw[cond_true]
  have m1:s.len+y.len<=s.cap:=of_decide_eq_true a1
  rcases r.own with ⟨aa,ad⟩|⟨q,c,t,aa,ad,an,aJ,aR⟩
  .rw[aa]
   obtain rfl:m=[]:=List.length_eq_zero_iff.1 (by omega)
   refine⟨rfl,ah _ _ ⟨by simp[kq,oW],by simp;omega,.inl ⟨aa,ad⟩⟩ (λb _ _=>rfl) (λdE eG=>by have:=aa.symm.trans eG;cases this) (λb ar=>ar)⟩
  .rw[aa]
   have hmul:s.len*k+y.len*k<=s.cap*k:=by rw[<-Nat.add_mul];exact Nat.mul_le_mul_right k m1
   refine⟨c,t,an,by rw[nx bc];show q.o+s.len*k+m.length*k<=c.size;rw[<-oW];omega,ah _ _ ⟨by simp[kq,oW],m1,.inr ⟨q,_,_,rfl,ad,eC _ _ _,by rw[BO];exact aJ,λi hi=>?_⟩⟩ (λb _ ar=>cu _ _ (ar q aa)) (λdE eG=> .inl ⟨q,aa,by cases eG;rfl⟩) (λb ar=>?_)⟩
   .have cb:i<l.length*k+m.length*k:=by rw[nx bc,List.length_append,Nat.add_mul] at hi;exact hi
    have o_:=nx bc l
    simp only[List.flatMap_append,xA,nx bc]
    by_cases e:i<l.length*k
    .rw[if_neg (by rw[kq];omega),aR i (by omega),List.getElem_append_left (by omega)]
    .rw[if_pos (by rw[kq,<-oW] at *;omega),List.getElem_append_right (by omega),kq,show q.o+i-(q.o+l.length*k)=i-l.length*k by omega,List.getElem?_eq_getElem (by rw[nx bc];omega)]
     congr 2
     omega
   .by_cases e:b=q.b
    .subst e;rw[eC] at ar;cases ar
    .rwa [cu _ _ e] at ar
 | false =>
  rw[cond_false]
  have m1:¬(s.len+y.len<=s.cap):=of_decide_eq_false a1
  have dd:=growslice_fits (need:=s.len+y.len) (old:=s.cap) (bytes:=by_) (by omega) (by rw[kq,oW];exact room)
  refine⟨dd,?_,?_⟩
  .have:s.len+y.len<=140737488355328:=by
    rw[kq,oW]
    exact Nat.le_trans (Nat.le_mul_of_pos_right _ kX) room
   omega
  refine⟨l.flatMap f,by rw[nx bc,kq],agh l,?_,?_⟩
  .cases e:s.q with
   | none=>have:=aQ.nil e;have:=aQ.cap;obtain rfl:l=[]:=List.length_eq_zero_iff.1 (by omega);rfl
   | some q=>exact aQ.rd q e
  intro nU rn b ar
  have hmul:s.len*k+y.len*k<=nU*k:=by rw[<-Nat.add_mul];exact Nat.mul_le_mul_right k rn
  refine ah _ _ ⟨by simp[kq,oW],rn,.inr ⟨⟨b,0⟩,_,_,rfl,qy b ar,eC _ _ _,?_,λi hi=>?_⟩⟩ (λx ai _=>cu _ _ (λe=>ai (by rw[e];exact ar))) (λdE eG=> .inr (by cases eG;exact ar)) (λx ai=>?_)
  .simp only[Array.size_append,List.size_toArray,nx bc,agi]
   rw[rt.size,Nat.sub_mul,Nat.add_mul,<-kq,<-oW]
   omega
  .have cb:i<(l.flatMap f).length+(m.flatMap f).length:=by rw[List.flatMap_append,List.length_append] at hi;exact hi
   rw[Array.getElem?_append_left (by simp only[Array.size_append,List.size_toArray];omega)]
   simp only[Nat.zero_add,List.flatMap_append]
   rw[List.append_toArray,List.getElem?_toArray,List.getElem?_eq_getElem (by rw[List.length_append];exact cb)]
  .by_cases e:x=b
   .subst e;exact ar
   .rwa [cu _ _ e] at ai
theorem ct.push {P:Program}{T el:TypeId}{k:Nat}{z:Value}{by_:Nat}(rt:ph P T el k z by_){f:α->List Value}(bc:∀x,(f x).length=k)(one:∀x,∀v∈f x,v.oneCell'=true){h0 h:ak}{s:ao}{l:List α}(r:ct k f h0 h s l)(m:List α){t:TypeId}{c:Array Value}(a1:c=(m.flatMap f).toArray){n:Nat}(aK:n=m.length)
 (qy:∀b,h b=none->h0 b=none) (room:(l.length+m.length)*by_<=140737488355328) (kX:0<by_) {K:ao->ak->Prop}
 (ah:∀cE af,ct k f h0 af cE (l++m)->(∀b,h b≠none->(∀q,s.q=some q->b≠q.b)->af b=h b)->(∀dE,cE.q=some dE->(∃q,s.q=some q/\dE.b=q.b)∨h dE.b=none)->(∀b,af b=none->h b=none)->K cE af) :
 bg h (.cells c t) λb af=>eI P T s (.s ⟨some ⟨b,0⟩,n,n,none⟩) af K:=by
 intro b ar
 have aG:bL h (bD h b (.cells c t)):=(bL.refl h).bD ar _
 have y:fR f (bD h b (.cells c t)) ⟨some ⟨b,0⟩,n,n,none⟩ m:=(ct.new bc (h0:=h0) (qy b ar) n aK a1).rd
 refine ct.app rt bc one (r.bA aG) y (λc a1=>qy c (aG.free a1)) room kX ?_
 intro cE af o q_ hw hc
 refine ah cE af o (λc a1 aV=>?_) (λdE eG=>(hw dE eG).imp id λe=>aG.free e) (λc a1=>aG.free (hc c a1))
 rw[q_ c (by rw[aG c a1];exact a1) aV,aG c a1]
end Go.cR
namespace Go.cR
open Go Go.RowKit
theorem bL.get {h af:ak}(k:bL h af){b:Nat}{o:Obj}(e:h b=some o):af b=some o:=by rw[k b (by rw[e];simp),e]
theorem bL.cell {h af:ak}(k:bL h af){b i:Nat}{v:Value}(e:bx h b i=some v):bx af b i=some v:=by rw[qH (k b (xY e)),e]
theorem bP {h:ak}{o:Obj}{K:Nat->ak->Prop}(ah:∀b aa,h b=none->aa b=some o->bL h aa->K b aa):bg h o K :=
 λb ar=>ah b _ ar (eC _ _ _) ((bL.refl h).bD ar o)
theorem az {h:ak}{b i:Nat}{c:Array Value}{t:TypeId}{f:Nat×Nat}{v:Value}(e:h b=some (.cells c t f))(a1:c[i]? =some v):bx h b i=some v:=by rw[B7 e];exact a1
theorem ga {h:ak}{b i:Nat}{c:Array Value}{t:TypeId}{f:Nat×Nat}{a:Int}{K:Int->Prop}(e:h b=some (.cells c t f))(a1:c[i]? =some (.int .i64 a))(ah:K a) :
 ∃n:Int,bx h b i=some (.int .i64 n)/\K n:=⟨a,az e a1,ah⟩
theorem kQ {h:ak}{b:Nat}{t:TypeId}{f:Nat×Nat}{av aN a3:Int}{K:Int->Int->Int->Prop}(e:h b=some (.cells #[.int .i64 av,.int .i64 aN,.int .i64 a3] t f))(ah:K av aN a3) :
 ∃ay:Int,bx h b 0=some (.int .i64 ay)/\∃aA:Int,bx h b (0+1)=some (.int .i64 aA)/\∃aL:Int,bx h b (0+1+1)=some (.int .i64 aL)/\K ay aA aL :=
 ⟨av,az e rfl,aN,az e rfl,a3,az e rfl,ah⟩
theorem qJ {h:ak}{b:Nat}{t:TypeId}{f:Nat×Nat}{av aN a3 a4:Int}{K:Int->Int->Int->Int->Prop}(e:h b=some (.cells #[.int .i64 av,.int .i64 aN,.int .i64 a3,.int .i64 a4] t f))(ah:K av aN a3 a4) :
 ∃ay:Int,bx h b 0=some (.int .i64 ay)/\∃aA:Int,bx h b (0+1)=some (.int .i64 aA)/\∃aL:Int,bx h b (0+1+1)=some (.int .i64 aL)/\∃aO:Int,bx h b (0+1+1+1)=some (.int .i64 aO)/\K ay aA aL aO :=
 ⟨av,az e rfl,aN,az e rfl,a3,az e rfl,a4,az e rfl,ah⟩
theorem qh {h0 h:ak}{b o:Nat}{c:Array Value}{t:TypeId}{l:List Value}{K:ak->Prop}(k:bL h0 h)(ar:h0 b=none)(e:h b=ev c t)(aV:o+l.length<=c.size)
 (ah:∀af,bL h0 af->af b=ev (iI c o l) t->(∀x,x≠b->af x=h x)->K af):aW h ⟨b,o⟩ l K :=
 ⟨c,t,e,aV,ah _ (λx ai=>by
  have dA:x≠b:=λe=>ai (e▸ar);rw[cu _ _ dA,k x ai]) (eC _ _ _) λx ai=>cu _ _ ai⟩
theorem ZD (c:Array Value)(l:List Value)(aV:c.size=l.length):iI c 0 l=l.toArray:=by
 apply aFO;intro i;rw[xA];by_cases h:i<l.length
 .rw[eY,aFm,aD1]
 .rw[cS,Array.getElem?_eq_none (by omega),aD1,aEu (by omega)]
theorem iH {h0 h:ak}{b:Nat}{c:Array Value}{t:TypeId}{l:List Value}{K:ak->Prop}(k:bL h0 h)(ar:h0 b=none)(e:h b=ev c t)(aV:c.size=l.length)
 (ah:∀af,bL h0 af->af b=ev l.toArray t->(∀x,x≠b->af x=h x)->K af):aW h ⟨b,0⟩ l K :=
 qh k ar e (by omega) λaf h_ cc Ay=>ah af h_ (by rw[cc,ZD _ _ aV]) Ay
def fc (P:Program)(K:FuncId)(args:List Value)(v:Value):Prop:=∀h,o2 P K args h λr af=>r=v/\bL h af
theorem fc.to {P:Program}{K:FuncId}{args:List Value}{v:Value}{h:ak}{Q:Value->ak->Prop}(p:fc P K args v)(ah:∀af,bL h af->Q v af):o2 P K args h Q :=
 (p h).mono (by rintro _ af ⟨rfl,k⟩;exact ah af k)
theorem fc.aog {P:Program}{g:FuncId}{cs:List Value}{args:List Value}{v:Value}{h:ak}{Q:Value->ak->Prop}(p:fc P g (args++cs) v)(ah:∀af,bL h af->Q v af):fL P (.func (.func g) #[] cs.toArray) args h Q :=
 ⟨rfl,p.to ah⟩
theorem c4.qs {α:Type}{f:α->Value}{h0 h:ak}{l:List α}{t:TypeId}{b:Nat}{c:Array Value}(ar:h0 b=none)(e:h b=ev c t)(a1:c=(l.map f).toArray){n:Nat}(aK:n=l.length):c4 f h0 h ⟨some ⟨b,0⟩,n,n,none⟩ l:=by
 subst aK;subst a1;exact⟨rfl,aDt _,.inr ⟨_,_,_,rfl,ar,e,by simp,λi hi=>by simp[hi]⟩⟩
theorem ct.qs {α:Type}{k:Nat}{f:α->List Value}(bc:∀x,(f x).length=k){h0 h:ak}{l:List α}{t:TypeId}{b:Nat}{c:Array Value}(ar:h0 b=none)(e:h b=ev c t)(a1:c=(l.flatMap f).toArray){n:Nat}(aK:n=l.length):ct k f h0 h ⟨some ⟨b,0⟩,n,n,none⟩ l:=by
 subst aK;subst a1;exact⟨rfl,aDt _,.inr ⟨_,_,_,rfl,ar,e,by simp[nx bc],λi hi=>by simp⟩⟩
def eo (n:Int):Value:= .int .i64 n
theorem Cj (x:Int):(eo x).oneCell'=true:=rfl

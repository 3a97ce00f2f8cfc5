import Derived.Test.YtofgadhgljjhgaaGreatShUse
namespace Go.cD
open Go Go.RowKit
variable {α:Type}
theorem nu {f:α->List Value}{k:Nat}(a_:∀x,(f x).length=k)(l:List α):(l.flatMap f).length=l.length*k:=by
 induction l with
 | nil=>simp
 | cons x l dK=>simp[a_,dK,Nat.add_mul,Nat.add_comm]
theorem Ht {f:α->List Value}{k:Nat}(a_:∀x,(f x).length=k){l:List α}{i:Nat}(hi:i<l.length){j:Nat}(aV:j<k):(l.flatMap f)[i*k+j]? =(f l[i])[j]?:=by
 have e:l.flatMap f=(l.take i).flatMap f++(f l[i]++(l.drop (i+1)).flatMap f):=by
  have dB:l=l.take i++l[i]::l.drop (i+1):=by rw[List.getElem_cons_drop,List.take_append_drop]
  conv=>lhs;rw[dB,List.flatMap_append,List.flatMap_cons]
 have aF:((l.take i).flatMap f).length=i*k:=by rw[nu a_,List.length_take,Nat.min_eq_left (by omega)]
 rw[e,List.getElem?_append_right (by omega),aF,Nat.add_sub_cancel_left,List.getElem?_append_left (by rw[a_];exact aV)]
theorem wD {f:α->List Value}{k:Nat}(a_:∀x,(f x).length=k){h:ak}{b o:Nat}{l:List α}(r:fQ h b o (l.flatMap f)){i:Nat}(hi:i<l.length):fQ h b (o+i*k) (f l[i]):=by
 rw[pN] at r ⊢
 intro j aV
 have j6:j<k:=by rw[<-a_];exact aV
 have Lz:i*k+k<=l.length*k:=by
  have:=Nat.mul_le_mul_right k (show i+1<=l.length by omega)
  rw[Nat.add_mul] at this;omega
 have aa:i*k+j<(l.flatMap f).length:=by rw[nu a_];omega
 have ad:=r (i*k+j) aa
 have an:=Ht a_ hi j6
 rw[List.getElem?_eq_getElem aa,List.getElem?_eq_getElem aV] at an
 rw[show o+i*k+j=o+(i*k+j) by omega,ad,an]
structure fN (f:α->List Value)(h:ak)(s:ar)(l:List α):Prop where
 len:s.len=l.length
 cap:s.len<=s.cap
 nil:s.q=none->s.cap=0
 rd:∀q,s.q=some q->fQ h q.b q.o (l.flatMap f)
theorem axC {h ah:ak}{b:Nat}(e:ah b=h b){o:Nat}{l:List Value}(r:fQ h b o l):fQ ah b o l:=by
 rw[pN] at r ⊢
 intro i hi;rw[qG e];exact r i hi
theorem axD {h:ak}{b o:Nat}{l:List Value}(r:fQ h b o l)(aT:0<l.length):h b≠none:=by
 rw[pN] at r;exact w2 (r 0 aT)
theorem fN.ptr {f:α->List Value}{h:ak}{s:ar}{l:List α}(r:fN f h s l)(aT:0<l.length):∃q,s.q=some q:=by
 cases e:s.q with
 | some q=>exact⟨q,rfl⟩
 | none=>have:=r.nil e;have:=r.cap;have:=r.len;omega
theorem fN.move {f:α->List Value}{h ah:ak}{s:ar}{l:List α}(r:fN f h s l)(aU:∀q,s.q=some q->0<l.length->ah q.b=h q.b):fN f ah s l :=
 ⟨r.len,r.cap,r.nil,λq aj=>by
  cases l with
  | nil=>trivial
  | cons x l=>exact axC (aU q aj (by simp)) (r.rd q aj)⟩
theorem fN.there {f:α->List Value}{k:Nat}(a_:∀x,(f x).length=k+1){h:ak}{s:ar}{l:List α}(r:fN f h s l){q:aD}(aj:s.q=some q)(aT:0<l.length):h q.b≠none :=
 axD (r.rd q aj) (by rw[nu a_];exact Nat.mul_pos aT (by omega))
theorem fN.bD {f:α->List Value}{k:Nat}(a_:∀x,(f x).length=k+1){h ah:ak}{s:ar}{l:List α}(r:fN f h s l)(c:bL h ah):fN f ah s l :=
 r.move λ_ aj aT=>c _ (r.there a_ aj aT)
theorem fN.gD (f:α->List Value)(h:ak):fN f h ⟨none,0,0,none⟩ []:=⟨rfl,Nat.le_refl _,λ_=>rfl,λ_ h=>by cases h⟩
theorem fN.cp {f:α->List Value}{k:Nat}(a_:∀x,(f x).length=k){h:ak}{s:ar}{l:List α}(r:fN f h s l){i:Nat}(hi:i<l.length){K:aD->Prop}(ag:∀q,s.q=some q->fQ h q.b (q.o+i*k) (f l[i])->K q) :
 ∃q,s.q=some q/\(0:Int)<=(i:Int)/\(i:Int)+1<=(s.len:Int)/\K q:=by
 obtain⟨q,aj⟩:=r.ptr (by omega)
 exact⟨q,aj,by omega,by rw[r.len];omega,ag q aj (wD a_ (r.rd q aj) hi)⟩
structure cF (k:Nat)(f:α->List Value)(h0 h:ak)(s:ar)(l:List α):Prop where
 len:s.len=l.length
 cap:s.len<=s.cap
 own:(s.q=none/\s.cap=0)∨∃q c t,s.q=some q/\h0 q.b=none/\h q.b=some (.cells c t (0,0))/\q.o+s.cap*k<=c.size/\∀i (hi:i<(l.flatMap f).length),c[q.o+i]? =some (l.flatMap f)[i]
theorem cF.rd {k:Nat}{f:α->List Value}{h0 h:ak}{s:ar}{l:List α}(r:cF k f h0 h s l):fN f h s l:=by
 refine⟨r.len,r.cap,λaH=>?_,λq aj=>?_⟩
 .rcases r.own with ⟨_,aa⟩|⟨q,c,t,aa,_⟩
  .exact aa
  .rw[aH] at aa;cases aa
 .rcases r.own with ⟨aa,_⟩|⟨dL,c,t,aa,_,an,_,aR⟩
  .rw[aj] at aa;cases aa
  .rw[aj] at aa;cases aa
   rw[pN];intro i hi
   rw[A8 an];exact aR i hi
theorem cF.bl {k:Nat}{f:α->List Value}{h0 h:ak}{s:ar}{l:List α}(r:cF k f h0 h s l){q:aD}(aj:s.q=some q):h0 q.b=none/\h q.b≠none:=by
 rcases r.own with ⟨aa,_⟩|⟨dL,c,t,aa,ad,an,_⟩
 .rw[aj] at aa;cases aa
 .rw[aj] at aa;cases aa;exact⟨ad,by rw[an];simp⟩
theorem cF.move {k:Nat}{f:α->List Value}{h0 h ah:ak}{s:ar}{l:List α}(r:cF k f h0 h s l)(aU:∀q,s.q=some q->ah q.b=h q.b):cF k f h0 ah s l:=by
 refine⟨r.len,r.cap,?_⟩
 rcases r.own with aa|⟨q,c,t,aa,ad,an,aK,aR⟩
 .exact .inl aa
 .exact .inr ⟨q,c,t,aa,ad,by rw[aU q aa];exact an,aK,aR⟩
theorem cF.base {k:Nat}{f:α->List Value}{h0 aa h:ak}{s:ar}{l:List α}(r:cF k f aa h s l)(aU:∀b,aa b=none->h0 b=none):cF k f h0 h s l:=by
 refine⟨r.len,r.cap,?_⟩
 rcases r.own with aa|⟨q,c,t,aa,ad,an,aK,aR⟩
 .exact .inl aa
 .exact .inr ⟨q,c,t,aa,aU _ ad,an,aK,aR⟩
theorem cF.Nj {k:Nat}{f:α->List Value}{h0 aa h:ak}{s:ar}{l:List α}(r:cF k f aa h s l)(c:bL h0 aa):cF k f h0 h s l:=r.base λ_ au=>c.free au
theorem cF.gD (k:Nat)(f:α->List Value)(h0 h:ak):cF k f h0 h ⟨none,0,0,none⟩ []:=⟨rfl,Nat.le_refl _,.inl ⟨rfl,rfl⟩⟩
theorem cF.bD {k:Nat}{f:α->List Value}{h0 h ah:ak}{s:ar}{l:List α}(r:cF k f h0 h s l)(c:bL h ah):cF k f h0 ah s l :=
 r.move λ_ aj=>c _ (r.bl aj).2
theorem cF.new {k:Nat}{f:α->List Value}(a_:∀x,(f x).length=k){h0 h:ak}{l:List α}{t:TypeId}{b:Nat}(au:h0 b=none)(n:Nat)(aH:n=l.length){c:Array Value}(aZ:c=(l.flatMap f).toArray) :
 cF k f h0 (bA h b (.cells c t (0,0))) ⟨some ⟨b,0⟩,n,n,none⟩ l:=by
 subst aH;subst aZ
 refine⟨rfl,Nat.le_refl _,.inr ⟨_,_,_,rfl,au,eH _ _ _,?_,λi hi=>?_⟩⟩
 .simp[nu a_]
 .simp
structure oZ (P:Program)(T el:TypeId)(k:Nat)(z:Value)(by_:Nat):Prop where
 Es:P.underlying T=some (.slice el)
 dA:jQ P el=some k
 Sc:uw P el=some z
 bytes:(P.info? el).map (·.bytes)=some by_
 size:z.cells.size=k
theorem cF.app {P:Program}{T el:TypeId}{k:Nat}{z:Value}{by_:Nat}(rt:oZ P T el k z by_){f:α->List Value}(a_:∀x,(f x).length=k)(one:∀x,∀v∈f x,v.oneCell'=true){h0 h:ak}{s y:ar}{l m:List α}(r:cF k f h0 h s l)(jq:fN f h y m)
 (pT:∀b,h b=none->h0 b=none) (room:(l.length+m.length)*by_<=140737488355328) (kY:0<by_) {K:ar->ak->Prop}
 (ag:∀cX ah,cF k f h0 ah cX (l++m)->(∀b,h b≠none->(∀q,s.q=some q->b≠q.b)->ah b=h b)->(∀dL,cX.q=some dL->(∃q,s.q=some q/\dL.b=q.b)∨h dL.b=none)->(∀b,ah b=none->h b=none)->K cX ah) :
 fh P T s (.s y) h K:=by
 unfold fh
 rw[rt.Es]
 simp only[rt.dA,rt.Sc,rt.bytes,sy]
 have aP:=r.rd
 have oW:=jq.len
 have kt:=r.len
 have ad2:∀(l:List α),∀v∈l.flatMap f,v.oneCell'=true:=λl v bQ=>by
  obtain⟨x,_,ai⟩:=List.mem_flatMap.1 bQ
  exact one x v ai
 refine⟨m.flatMap f,by rw[nu a_,oW],ad2 m,?_,?_⟩
 .cases e:y.q with
  | none=>have:=jq.nil e;have:=jq.cap;obtain rfl:m=[]:=List.length_eq_zero_iff.1 (by omega);rfl
  | some q=>exact jq.rd q e
 cases aZ:decide (s.len+y.len<=s.cap) with
 | true =>
  rw[cond_true]
  have mx:s.len+y.len<=s.cap:=of_decide_eq_true aZ
  rcases r.own with ⟨aa,ad⟩|⟨q,c,t,aa,ad,an,aK,aR⟩
  .rw[aa]
   obtain rfl:m=[]:=List.length_eq_zero_iff.1 (by omega)
   refine⟨rfl,ag _ _ ⟨by simp[kt,oW],by simp;omega,.inl ⟨aa,ad⟩⟩ (λb _ _=>rfl) (λdL eB=>by have:=aa.symm.trans eB;cases this) (λb au=>au)⟩
  .rw[aa]
   have hmul:s.len*k+y.len*k<=s.cap*k:=by rw[<-Nat.add_mul];exact Nat.mul_le_mul_right k mx
   refine⟨c,t,an,by rw[nu a_];show q.o+s.len*k+m.length*k<=c.size;rw[<-oW];omega,ag _ _ ⟨by simp[kt,oW],mx,.inr ⟨q,_,_,rfl,ad,eH _ _ _,by rw[AL];exact aK,λi hi=>?_⟩⟩ (λb _ au=>cQ _ _ (au q aa)) (λdL eB=> .inl ⟨q,aa,by cases eB;rfl⟩) (λb au=>?_)⟩
   .have b5:i<l.length*k+m.length*k:=by rw[nu a_,List.length_append,Nat.add_mul] at hi;exact hi
    have pD:=nu a_ l
    simp only[List.flatMap_append,wC,nu a_]
    by_cases e:i<l.length*k
    .rw[if_neg (by rw[kt];omega),aR i (by omega),List.getElem_append_left (by omega)]
    .rw[if_pos (by rw[kt,<-oW] at *;omega),List.getElem_append_right (by omega),kt,show q.o+i-(q.o+l.length*k)=i-l.length*k by omega,List.getElem?_eq_getElem (by rw[nu a_];omega)]
     congr 2
     omega
   .by_cases e:b=q.b
    .subst e;rw[eH] at au;cases au
    .rwa [cQ _ _ e] at au
 | false =>
  rw[cond_false]
  have mx:¬(s.len+y.len<=s.cap):=of_decide_eq_false aZ
  have c_:=growslice_fits (need:=s.len+y.len) (old:=s.cap) (bytes:=by_) (by omega) (by rw[kt,oW];exact room)
  refine⟨c_,?_,?_⟩
  .have:s.len+y.len<=140737488355328:=by
    rw[kt,oW]
    exact Nat.le_trans (Nat.le_mul_of_pos_right _ kY) room
   omega
  refine⟨l.flatMap f,by rw[nu a_,kt],ad2 l,?_,?_⟩
  .cases e:s.q with
   | none=>have:=aP.nil e;have:=aP.cap;obtain rfl:l=[]:=List.length_eq_zero_iff.1 (by omega);rfl
   | some q=>exact aP.rd q e
  intro nm qC b au
  have hmul:s.len*k+y.len*k<=nm*k:=by rw[<-Nat.add_mul];exact Nat.mul_le_mul_right k qC
  refine ag _ _ ⟨by simp[kt,oW],qC,.inr ⟨⟨b,0⟩,_,_,rfl,pT b au,eH _ _ _,?_,λi hi=>?_⟩⟩ (λx ai _=>cQ _ _ (λe=>ai (by rw[e];exact au))) (λdL eB=> .inr (by cases eB;exact au)) (λx ai=>?_)
  .simp only[Array.size_append,List.size_toArray,nu a_,ad3]
   rw[rt.size,Nat.sub_mul,Nat.add_mul,<-kt,<-oW]
   omega
  .have b5:i<(l.flatMap f).length+(m.flatMap f).length:=by rw[List.flatMap_append,List.length_append] at hi;exact hi
   rw[Array.getElem?_append_left (by simp only[Array.size_append,List.size_toArray];omega)]
   simp only[Nat.zero_add,List.flatMap_append]
   rw[List.append_toArray,List.getElem?_toArray,List.getElem?_eq_getElem (by rw[List.length_append];exact b5)]
  .by_cases e:x=b
   .subst e;exact au
   .rwa [cQ _ _ e] at ai
theorem cF.push {P:Program}{T el:TypeId}{k:Nat}{z:Value}{by_:Nat}(rt:oZ P T el k z by_){f:α->List Value}(a_:∀x,(f x).length=k)(one:∀x,∀v∈f x,v.oneCell'=true){h0 h:ak}{s:ar}{l:List α}(r:cF k f h0 h s l)(m:List α){t:TypeId}{c:Array Value}(aZ:c=(m.flatMap f).toArray){n:Nat}(aH:n=m.length)
 (pT:∀b,h b=none->h0 b=none) (room:(l.length+m.length)*by_<=140737488355328) (kY:0<by_) {K:ar->ak->Prop}
 (ag:∀cX ah,cF k f h0 ah cX (l++m)->(∀b,h b≠none->(∀q,s.q=some q->b≠q.b)->ah b=h b)->(∀dL,cX.q=some dL->(∃q,s.q=some q/\dL.b=q.b)∨h dL.b=none)->(∀b,ah b=none->h b=none)->K cX ah) :
 bj h (.cells c t) λb ah=>fh P T s (.s ⟨some ⟨b,0⟩,n,n,none⟩) ah K:=by
 intro b au
 have aI:bL h (bA h b (.cells c t)):=(bL.refl h).bA au _
 have y:fN f (bA h b (.cells c t)) ⟨some ⟨b,0⟩,n,n,none⟩ m:=(cF.new a_ (h0:=h0) (pT b au) n aH aZ).rd
 refine cF.app rt a_ one (r.bD aI) y (λc aZ=>pT c (aI.free aZ)) room kY ?_
 intro cX ah o qp hw gI
 refine ag cX ah o (λc aZ aU=>?_) (λdL eB=>(hw dL eB).imp id λe=>aI.free e) (λc aZ=>aI.free (gI c aZ))
 rw[qp c (by rw[aI c aZ];exact aZ) aU,aI c aZ]

import Derived.Test.YtegdpmgnhnccaaaGreatShUse
namespace Go.cQ
open Go Go.RowKit
variable {α:Type}
theorem mv {f:α->List Value}{k:Nat}(bf:∀x,(f x).length=k)(l:List α):(l.flatMap f).length=l.length*k:=by
 induction l with
 | nil=>simp
 | cons x l c6=>simp[bf,c6,Nat.add_mul,Nat.add_comm]
theorem HW {f:α->List Value}{k:Nat}(bf:∀x,(f x).length=k){l:List α}{i:Nat}(hi:i<l.length){j:Nat}(aL:j<k):(l.flatMap f)[i*k+j]? =(f l[i])[j]?:=by
 have e:l.flatMap f=(l.take i).flatMap f++(f l[i]++(l.drop (i+1)).flatMap f):=by
  have eg:l=l.take i++l[i]::l.drop (i+1):=by rw[List.getElem_cons_drop,List.take_append_drop]
  conv=>lhs;rw[eg,List.flatMap_append,List.flatMap_cons]
 have aC:((l.take i).flatMap f).length=i*k:=by rw[mv bf,List.length_take,Nat.min_eq_left (by omega)]
 rw[e,List.getElem?_append_right (by omega),aC,Nat.add_sub_cancel_left,List.getElem?_append_left (by rw[bf];exact aL)]
theorem BP {f:α->List Value}{k:Nat}(bf:∀x,(f x).length=k){h:ai}{b o:Nat}{l:List α}(r:fb h b o (l.flatMap f)){i:Nat}(hi:i<l.length):fb h b (o+i*k) (f l[i]):=by
 rw[qh] at r ⊢
 intro j aL
 have lg:j<k:=by rw[<-bf];exact aL
 have HV:i*k+k<=l.length*k:=by
  have:=Nat.mul_le_mul_right k (show i+1<=l.length by omega)
  rw[Nat.add_mul] at this;omega
 have aa:i*k+j<(l.flatMap f).length:=by rw[mv bf];omega
 have ad:=r (i*k+j) aa
 have aq:=HW bf hi lg
 rw[List.getElem?_eq_getElem aa,List.getElem?_eq_getElem aL] at aq
 rw[show o+i*k+j=o+(i*k+j) by omega,ad,aq]
structure fi (f:α->List Value)(h:ai)(s:an)(l:List α):Prop where
 len:s.len=l.length
 cap:s.len<=s.cap
 nil:s.q=none->s.cap=0
 rd:∀q,s.q=some q->fb h q.b q.o (l.flatMap f)
theorem aqo {h ag:ai}{b:Nat}(e:ag b=h b){o:Nat}{l:List Value}(r:fb h b o l):fb ag b o l:=by
 rw[qh] at r ⊢
 intro i hi;rw[mF e];exact r i hi
theorem aqp {h:ai}{b o:Nat}{l:List Value}(r:fb h b o l)(aO:0<l.length):h b≠none:=by
 rw[qh] at r;exact p3 (r 0 aO)
theorem fi.ptr {f:α->List Value}{h:ai}{s:an}{l:List α}(r:fi f h s l)(aO:0<l.length):∃q,s.q=some q:=by
 cases e:s.q with
 | some q=>exact⟨q,rfl⟩
 | none=>have:=r.nil e;have:=r.cap;have:=r.len;omega
theorem fi.move {f:α->List Value}{h ag:ai}{s:an}{l:List α}(r:fi f h s l)(aR:∀q,s.q=some q->0<l.length->ag q.b=h q.b):fi f ag s l :=
 ⟨r.len,r.cap,r.nil,λq ah=>by
  cases l with
  | nil=>trivial
  | cons x l=>exact aqo (aR q ah (by simp)) (r.rd q ah)⟩
theorem fi.there {f:α->List Value}{k:Nat}(bf:∀x,(f x).length=k+1){h:ai}{s:an}{l:List α}(r:fi f h s l){q:aG}(ah:s.q=some q)(aO:0<l.length):h q.b≠none :=
 aqp (r.rd q ah) (by rw[mv bf];exact Nat.mul_pos aO (by omega))
theorem fi.bE {f:α->List Value}{k:Nat}(bf:∀x,(f x).length=k+1){h ag:ai}{s:an}{l:List α}(r:fi f h s l)(c:bB h ag):fi f ag s l :=
 r.move λ_ ah aO=>c _ (r.there bf ah aO)
theorem fi.e9 (f:α->List Value)(h:ai):fi f h ⟨none,0,0,none⟩ []:=⟨rfl,Nat.le_refl _,λ_=>rfl,λ_ h=>by cases h⟩
theorem fi.e0 {f:α->List Value}{k:Nat}(bf:∀x,(f x).length=k){h:ai}{s:an}{l:List α}(r:fi f h s l){i:Nat}(hi:i<l.length){K:aG->Prop}(ab:∀q,s.q=some q->fb h q.b (q.o+i*k) (f l[i])->K q) :
 ∃q,s.q=some q/\(0:Int)<=(i:Int)/\(i:Int)+1<=(s.len:Int)/\K q:=by
 obtain⟨q,ah⟩:=r.ptr (by omega)
 exact⟨q,ah,by omega,by rw[r.len];omega,ab q ah (BP bf (r.rd q ah) hi)⟩
structure cI (k:Nat)(f:α->List Value)(h0 h:ai)(s:an)(l:List α):Prop where
 len:s.len=l.length
 cap:s.len<=s.cap
 own:(s.q=none/\s.cap=0)∨∃q c t,s.q=some q/\h0 q.b=none/\h q.b=dB c t/\q.o+s.cap*k<=c.size/\∀i (hi:i<(l.flatMap f).length),c[q.o+i]? =some (l.flatMap f)[i]
theorem cI.rd {k:Nat}{f:α->List Value}{h0 h:ai}{s:an}{l:List α}(r:cI k f h0 h s l):fi f h s l:=by
 refine⟨r.len,r.cap,λaH=>?_,λq ah=>?_⟩
 .rcases r.own with ⟨_,aa⟩|⟨q,c,t,aa,_⟩
  .exact aa
  .rw[aH] at aa;cases aa
 .rcases r.own with ⟨aa,_⟩|⟨df,c,t,aa,_,aq,_,aW⟩
  .rw[ah] at aa;cases aa
  .rw[ah] at aa;cases aa
   rw[qh];intro i hi
   rw[B8 aq];exact aW i hi
theorem cI.b_ {k:Nat}{f:α->List Value}{h0 h:ai}{s:an}{l:List α}(r:cI k f h0 h s l){q:aG}(ah:s.q=some q):h0 q.b=none/\h q.b≠none:=by
 rcases r.own with ⟨aa,_⟩|⟨df,c,t,aa,ad,aq,_⟩
 .rw[ah] at aa;cases aa
 .rw[ah] at aa;cases aa;exact⟨ad,by rw[aq];simp⟩
theorem cI.move {k:Nat}{f:α->List Value}{h0 h ag:ai}{s:an}{l:List α}(r:cI k f h0 h s l)(aR:∀q,s.q=some q->ag q.b=h q.b):cI k f h0 ag s l:=by
 refine⟨r.len,r.cap,?_⟩
 rcases r.own with aa|⟨q,c,t,aa,ad,aq,aJ,aW⟩
 .exact .inl aa
 .exact .inr ⟨q,c,t,aa,ad,by rw[aR q aa];exact aq,aJ,aW⟩
theorem cI.base {k:Nat}{f:α->List Value}{h0 aa h:ai}{s:an}{l:List α}(r:cI k f aa h s l)(aR:∀b,aa b=none->h0 b=none):cI k f h0 h s l:=by
 refine⟨r.len,r.cap,?_⟩
 rcases r.own with aa|⟨q,c,t,aa,ad,aq,aJ,aW⟩
 .exact .inl aa
 .exact .inr ⟨q,c,t,aa,aR _ ad,aq,aJ,aW⟩
theorem cI.Iv {k:Nat}{f:α->List Value}{h0 aa h:ai}{s:an}{l:List α}(r:cI k f aa h s l)(c:bB h0 aa):cI k f h0 h s l:=r.base λ_ au=>c.free au
theorem cI.e9 (k:Nat)(f:α->List Value)(h0 h:ai):cI k f h0 h ⟨none,0,0,none⟩ []:=⟨rfl,Nat.le_refl _,.inl ⟨rfl,rfl⟩⟩
theorem cI.bE {k:Nat}{f:α->List Value}{h0 h ag:ai}{s:an}{l:List α}(r:cI k f h0 h s l)(c:bB h ag):cI k f h0 ag s l :=
 r.move λ_ ah=>c _ (r.b_ ah).2
theorem cI.new {k:Nat}{f:α->List Value}(bf:∀x,(f x).length=k){h0 h:ai}{l:List α}{t:TypeId}{b:Nat}(au:h0 b=none)(n:Nat)(aH:n=l.length){c:Array Value}(aT:c=(l.flatMap f).toArray) :
 cI k f h0 (bD h b (.cells c t (0,0))) ⟨some ⟨b,0⟩,n,n,none⟩ l:=by
 subst aH;subst aT
 refine⟨rfl,Nat.le_refl _,.inr ⟨_,_,_,rfl,au,ea _ _ _,?_,λi hi=>?_⟩⟩
 .simp[mv bf]
 .simp
structure oX (P:Program)(T el:TypeId)(k:Nat)(z:Value)(by_:Nat):Prop where
 A9:P.underlying T=some (.slice el)
 c4:iy P el=some k
 N0:sE P el=some z
 bytes:(P.info? el).map (·.bytes)=some by_
 size:z.cells.size=k
theorem cI.app {P:Program}{T el:TypeId}{k:Nat}{z:Value}{by_:Nat}(rt:oX P T el k z by_){f:α->List Value}(bf:∀x,(f x).length=k)(one:∀x,∀v∈f x,v.oneCell'=true){h0 h:ai}{s y:an}{l m:List α}(r:cI k f h0 h s l)(iz:fi f h y m)
 (n3:∀b,h b=none->h0 b=none) (room:(l.length+m.length)*by_<=140737488355328) (jL:0<by_) {K:an->ai->Prop}
 (ab:∀cx ag,cI k f h0 ag cx (l++m)->(∀b,h b≠none->(∀q,s.q=some q->b≠q.b)->ag b=h b)->(∀df,cx.q=some df->(∃q,s.q=some q/\df.b=q.b)∨h df.b=none)->(∀b,ag b=none->h b=none)->K cx ag) :
 en P T s (.s y) h K:=by
 unfold en
 rw[rt.A9]
 simp only[rt.c4,rt.N0,rt.bytes,qA]
 have aK:=r.rd
 have nr:=iz.len
 have jd:=r.len
 have Y6:∀(l:List α),∀v∈l.flatMap f,v.oneCell'=true:=λl v bH=>by
  obtain⟨x,_,af⟩:=List.mem_flatMap.1 bH
  exact one x v af
 refine⟨m.flatMap f,by rw[mv bf,nr],Y6 m,?_,?_⟩
 .cases e:y.q with
  | none=>have:=iz.nil e;have:=iz.cap;obtain rfl:m=[]:=List.length_eq_zero_iff.1 (by omega);rfl
  | some q=>exact iz.rd q e
 cases aT:decide (s.len+y.len<=s.cap) with
 | true =>
  rw[cond_true]
  have k5:s.len+y.len<=s.cap:=of_decide_eq_true aT
  rcases r.own with ⟨aa,ad⟩|⟨q,c,t,aa,ad,aq,aJ,aW⟩
  .rw[aa]
   obtain rfl:m=[]:=List.length_eq_zero_iff.1 (by omega)
   refine⟨rfl,ab _ _ ⟨by simp[jd,nr],by simp;omega,.inl ⟨aa,ad⟩⟩ (λb _ _=>rfl) (λdf ek=>by have:=aa.symm.trans ek;cases this) (λb au=>au)⟩
  .rw[aa]
   have hmul:s.len*k+y.len*k<=s.cap*k:=by rw[<-Nat.add_mul];exact Nat.mul_le_mul_right k k5
   refine⟨c,t,aq,by rw[mv bf];show q.o+s.len*k+m.length*k<=c.size;rw[<-nr];omega,ab _ _ ⟨by simp[jd,nr],k5,.inr ⟨q,_,_,rfl,ad,ea _ _ _,by rw[yr];exact aJ,λi hi=>?_⟩⟩ (λb _ au=>cJ _ _ (au q aa)) (λdf ek=> .inl ⟨q,aa,by cases ek;rfl⟩) (λb au=>?_)⟩
   .have bN:i<l.length*k+m.length*k:=by rw[mv bf,List.length_append,Nat.add_mul] at hi;exact hi
    have nZ:=mv bf l
    simp only[List.flatMap_append,wo,mv bf]
    by_cases e:i<l.length*k
    .rw[if_neg (by rw[jd];omega),aW i (by omega),List.getElem_append_left (by omega)]
    .rw[if_pos (by rw[jd,<-nr] at *;omega),List.getElem_append_right (by omega),jd,show q.o+i-(q.o+l.length*k)=i-l.length*k by omega,List.getElem?_eq_getElem (by rw[mv bf];omega)]
     congr 2
     omega
   .by_cases e:b=q.b
    .subst e;rw[ea] at au;cases au
    .rwa [cJ _ _ e] at au
 | false =>
  rw[cond_false]
  have k5:¬(s.len+y.len<=s.cap):=of_decide_eq_false aT
  have cR:=growslice_fits (need:=s.len+y.len) (old:=s.cap) (bytes:=by_) (by omega) (by rw[jd,nr];exact room)
  refine⟨cR,?_,?_⟩
  .have:s.len+y.len<=140737488355328:=by
    rw[jd,nr]
    exact Nat.le_trans (Nat.le_mul_of_pos_right _ jL) room
   omega
  refine⟨l.flatMap f,by rw[mv bf,jd],Y6 l,?_,?_⟩
  .cases e:s.q with
   | none=>have:=aK.nil e;have:=aK.cap;obtain rfl:l=[]:=List.length_eq_zero_iff.1 (by omega);rfl
   | some q=>exact aK.rd q e
  intro lV sH b au
  have hmul:s.len*k+y.len*k<=lV*k:=by rw[<-Nat.add_mul];exact Nat.mul_le_mul_right k sH
  refine ab _ _ ⟨by simp[jd,nr],sH,.inr ⟨⟨b,0⟩,_,_,rfl,n3 b au,ea _ _ _,?_,λi hi=>?_⟩⟩ (λx af _=>cJ _ _ (λe=>af (by rw[e];exact au))) (λdf ek=> .inr (by cases ek;exact au)) (λx af=>?_)
  .simp only[Array.size_append,List.size_toArray,mv bf,Y7]
   rw[rt.size,Nat.sub_mul,Nat.add_mul,<-jd,<-nr]
   omega
  .have bN:i<(l.flatMap f).length+(m.flatMap f).length:=by rw[List.flatMap_append,List.length_append] at hi;exact hi
   rw[Array.getElem?_append_left (by simp only[Array.size_append,List.size_toArray];omega)]
   simp only[Nat.zero_add,List.flatMap_append]
   rw[List.append_toArray,List.getElem?_toArray,List.getElem?_eq_getElem (by rw[List.length_append];exact bN)]
  .by_cases e:x=b
   .subst e;exact au
   .rwa [cJ _ _ e] at af
theorem cI.push {P:Program}{T el:TypeId}{k:Nat}{z:Value}{by_:Nat}(rt:oX P T el k z by_){f:α->List Value}(bf:∀x,(f x).length=k)(one:∀x,∀v∈f x,v.oneCell'=true){h0 h:ai}{s:an}{l:List α}(r:cI k f h0 h s l)(m:List α){t:TypeId}{c:Array Value}(aT:c=(m.flatMap f).toArray){n:Nat}(aH:n=m.length)
 (n3:∀b,h b=none->h0 b=none) (room:(l.length+m.length)*by_<=140737488355328) (jL:0<by_) {K:an->ai->Prop}
 (ab:∀cx ag,cI k f h0 ag cx (l++m)->(∀b,h b≠none->(∀q,s.q=some q->b≠q.b)->ag b=h b)->(∀df,cx.q=some df->(∃q,s.q=some q/\df.b=q.b)∨h df.b=none)->(∀b,ag b=none->h b=none)->K cx ag) :
 bn h (.cells c t) λb ag=>en P T s (.s ⟨some ⟨b,0⟩,n,n,none⟩) ag K:=by
 intro b au
 have aD:bB h (bD h b (.cells c t)):=(bB.refl h).bD au _
 have y:fi f (bD h b (.cells c t)) ⟨some ⟨b,0⟩,n,n,none⟩ m:=(cI.new bf (h0:=h0) (n3 b au) n aH aT).rd
 refine cI.app rt bf one (r.bE aD) y (λc aT=>n3 c (aD.free aT)) room jL ?_
 intro cx ag o r9 hw fP
 refine ab cx ag o (λc aT aR=>?_) (λdf ek=>(hw df ek).imp id λe=>aD.free e) (λc aT=>aD.free (fP c aT))
 rw[r9 c (by rw[aD c aT];exact aT) aR,aD c aT]

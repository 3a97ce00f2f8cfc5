import Derived.Test.YtofgadhgljjhgaaGreatShCode
import Derived.Laws.Append
namespace Go.cD
open Go Go.RowKit
theorem axE {b:Bool}{x y:Prop}:aG b x y↔(b=true->x)/\(b=false->y):=by
 cases b<;>simp[aG]
theorem dg {b:Bool}{x y:Prop}(h:b=true)(ai:x):aG b x y:=by subst h;exact ai
theorem bS {b:Bool}{x y:Prop}(h:b=false)(aB:y):aG b x y:=by subst h;exact aB
theorem h4 {b:Bool}{x y:Prop}(ai:b=true->x)(aB:b=false->y):aG b x y:=axE.2 ⟨ai,aB⟩
theorem cd {p:Prop}[Decidable p]{x y:Prop}(ai:p->x)(aB:¬p->y):aG (decide p) x y :=
 h4 (λh=>ai (of_decide_eq_true h)) (λh=>aB (of_decide_eq_false h))
theorem u6 {p:Prop}[Decidable p]{x y:Prop}(ai:¬p->x)(aB:p->y):aG (!decide p) x y :=
 h4 (λh=>ai (by simpa using h)) (λh=>aB (by simpa using h))
theorem bf {n:Int}(h0: -9223372036854775808<=n)(aa:n<=9223372036854775807):al n=n:=by
 rw[adP];unfold wrap64
 omega
def bL (h ah:ak):Prop:=∀b,h b≠none->ah b=h b
theorem bL.refl (h:ak):bL h h:=λ_ _=>rfl
theorem bL.trans {aa ad an:ak}(a:bL aa ad)(b:bL ad an):bL aa an:=λx ai=>by
 rw[b x (by rw[a x ai];exact ai),a x ai]
theorem bL.bA {h ah:ak}(a:bL h ah){b:Nat}(au:h b=none)(o:Obj):bL h (bA ah b o):=λx ai=>by
 have:x≠b:=λe=>ai (by rw[e];exact au)
 rw[cQ _ _ this,a x ai]
theorem bL.free {h ah:ak}(a:bL h ah){b:Nat}(au:ah b=none):h b=none:=by
 cases e:h b with
 | none=>rfl
 | some o=>rw[a b (by rw[e];simp),e] at au;cases au
def dN (D:Nat->Prop)(h ah:ak):Prop:=∀b,h b≠none->¬D b->ah b=h b
theorem dN.refl (D:Nat->Prop)(h:ak):dN D h h:=λ_ _ _=>rfl
theorem dN.trans {D:Nat->Prop}{aa ad an:ak}(a:dN D aa ad)(b:dN D ad an):dN D aa an:=λx ai bV=>by
 rw[b x (by rw[a x ai bV];exact ai) bV,a x ai bV]
theorem bL.off {h ah:ak}(a:bL h ah)(D:Nat->Prop):dN D h ah:=λx ai _=>a x ai
theorem w2 {h:ak}{b o:Nat}{v:Value}(e:br h b o=some v):h b≠none:=by
 intro aH;unfold br at e;rw[aH] at e;cases e
theorem A8 {h:ak}{b o:Nat}{c:Array Value}{t:TypeId}{f:Nat×Nat}(e:h b=some (.cells c t f)):br h b o=c[o]?:=by
 unfold br;rw[e]
theorem qG {h ah:ak}{b:Nat}(e:ah b=h b)(o:Nat):br ah b o=br h b o:=by
 unfold br;rw[e]
variable {α:Type}
structure fi (f:α->Value)(h:ak)(s:ar)(l:List α):Prop where
 len:s.len=l.length
 cap:s.len<=s.cap
 nil:s.q=none->s.cap=0
 rd:∀q,s.q=some q->∀i (hi:i<l.length),br h q.b (q.o+i)=some (f l[i])
theorem fi.ptr {f:α->Value}{h:ak}{s:ar}{l:List α}(r:fi f h s l)(aT:0<l.length):∃q,s.q=some q:=by
 cases e:s.q with
 | some q=>exact⟨q,rfl⟩
 | none=>have:=r.nil e;have:=r.cap;have:=r.len;omega
theorem fi.at {f:α->Value}{h:ak}{s:ar}{l:List α}(r:fi f h s l){i:Nat}(hi:i<l.length):∃q,s.q=some q/\br h q.b (q.o+i)=some (f l[i]):=by
 obtain⟨q,aj⟩:=r.ptr (by omega)
 exact⟨q,aj,r.rd q aj i hi⟩
theorem fi.move {f:α->Value}{h ah:ak}{s:ar}{l:List α}(r:fi f h s l)(aU:∀q,s.q=some q->0<l.length->ah q.b=h q.b):fi f ah s l :=
 ⟨r.len,r.cap,r.nil,λq aj i hi=>by rw[qG (aU q aj (by omega))];exact r.rd q aj i hi⟩
theorem fi.bD {f:α->Value}{h ah:ak}{s:ar}{l:List α}(r:fi f h s l)(k:bL h ah):fi f ah s l :=
 r.move λq aj aT=>k _ (w2 (r.rd q aj 0 aT))
theorem fi.there {f:α->Value}{h:ak}{s:ar}{l:List α}(r:fi f h s l){q:aD}(aj:s.q=some q)(aT:0<l.length):h q.b≠none:=w2 (r.rd q aj 0 aT)
theorem fi.gD (f:α->Value)(h:ak):fi f h ⟨none,0,0,none⟩ []:=⟨rfl,Nat.le_refl _,λ_=>rfl,λ_ h=>by cases h⟩
theorem fi.cp {f:α->Value}{h:ak}{s:ar}{l:List α}(r:fi f h s l){i:Nat}(hi:i<l.length){K:aD->Prop}(ag:∀q,s.q=some q->br h q.b (q.o+i*1)=some (f l[i])->K q) :
 ∃q,s.q=some q/\(0:Int)<=(i:Int)/\(i:Int)+1<=(s.len:Int)/\K q:=by
 obtain⟨q,aj,aZ⟩:=r.at hi
 exact⟨q,aj,by omega,by rw[r.len];omega,ag q aj (by rw[Nat.mul_one];exact aZ)⟩
theorem Ij {f:α->Value}{h:ak}{b:Nat}{l:List α}{o:Nat}:fQ h b o (l.map f)↔∀i (hi:i<l.length),br h b (o+i)=some (f l[i]):=by
 rw[pN]
 constructor
 .intro H i hi
  have:=H i (by simpa using hi)
  simpa using this
 .intro H i hi
  have:=H i (by simpa using hi)
  simpa using this
theorem Vf {s:ar}{n m dA a b:Nat}{dL:aD}(h:ar.q ⟨gA s.p n m dA,a,b,iL s.z n m dA⟩=some dL):(∃q,s.q=some q/\dL.b=q.b)∨(m≠n/\n*dA≠0):=by
 obtain⟨p,k,c,z⟩:=s
 by_cases aa:m=n∨n*dA=0
 .left
  cases z with
  | some z=>simp[ar.q,iL,aa] at h
  | none =>
   simp only[ar.q,iL,aa,if_true] at h
   unfold gA at h
   split at h
   .exact⟨dL,h,rfl⟩
   .cases p with
    | none=>cases h
    | some q=>cases h;exact⟨q,rfl,rfl⟩
 .right;omega
theorem VB {s:ar}{a b:Nat}(aZ:s.q=none->s.cap=0){n:Nat}(aH:n<=s.cap){dL:aD}(h:ar.q ⟨gA s.p n s.cap 1,a,b,iL s.z n s.cap 1⟩=some dL):∃q,s.q=some q/\dL.b=q.b:=by
 rcases Vf h with aa|⟨aa,ad⟩
 .exact aa
 .cases e:s.q with
  | none=>have:=aZ e;omega
  | some q =>
   refine⟨q,rfl,?_⟩
   have aS:=ar.Et e
   have bc:s.z=none:=by
    obtain⟨p,k,c,z⟩:=s
    cases z with
    | some z=>cases e
    | none=>rfl
   simp only[ar.q,iL,bc,ite_self,gA,aS] at h
   rw[if_neg aa] at h
   cases h;rfl
theorem fi.drop {f:α->Value}{h:ak}{s:ar}{l:List α}(r:fi f h s l){n:Nat}(aH:n<=l.length):fi f h ⟨gA s.p n s.cap 1,s.len-n,s.cap-n,iL s.z n s.cap 1⟩ (l.drop n):=by
 have hlen:=r.len;have uE:=r.cap
 by_cases dB:s.cap=0
 .have aa:s.len=0:=by omega
  have ad:l=[]:=List.length_eq_zero_iff.1 (by omega)
  subst ad
  exact⟨by simp[aa],by simp;omega,λ_=>by simp[dB],λq aj i hi=>by simp at hi⟩
 obtain⟨iy,Sd⟩:∃q,s.q=some q:=by
  cases e:s.q with
  | none=>have:=r.nil e;omega
  | some q=>exact⟨q,rfl⟩
 have aS:=ar.Et Sd
 have bc:s.z=none:=by
  obtain⟨p,k,c,z⟩:=s
  cases z with
  | some z=>cases Sd
  | none=>rfl
 have aj:ar.q ⟨gA s.p n s.cap 1,s.len-n,s.cap-n,iL s.z n s.cap 1⟩=if s.cap=n then some iy else some ⟨iy.b,iy.o+n*1⟩:=by
  simp only[ar.q,iL,bc,ite_self,gA,aS,Option.map_some]
 refine⟨by simp[hlen],by simp;omega,λe=>?_,λq ng i hi=>?_⟩
 .rw[aj] at e;split at e<;>cases e
 .have b5:i+n<l.length:=by simp at hi;omega
  rw[aj,if_neg (by omega)] at ng
  cases ng
  have aZ:=r.rd iy Sd (i+n) b5
  simp only[List.getElem_drop]
  rw[show iy.o+n*1+i=iy.o+(i+n) by omega,aZ]
  congr 2
  simp[Nat.add_comm]
theorem fi.Vb {f:α->Value}{h:ak}{s:ar}{l:List α}(r:fi f h s l){n:Nat}(aH:n<=l.length):fi f h ⟨gA s.p 0 s.cap 1,n-0,s.cap-0,iL s.z 0 s.cap 1⟩ (l.take n):=by
 have hlen:=r.len;have uE:=r.cap
 have aj:ar.q ⟨gA s.p 0 s.cap 1,n-0,s.cap-0,iL s.z 0 s.cap 1⟩=s.q:=by
  obtain⟨p,k,c,z⟩:=s
  simp only[ar.q,iL,gA,Nat.zero_mul,or_true,if_true]
  cases z with
  | some z=>rfl
  | none =>
   simp only
   split
   .rfl
   .cases p<;>rfl
 refine⟨by simp;omega,by simp;omega,λe=>?_,λq ng i hi=>?_⟩
 .rw[aj] at e;have:=r.nil e;simp;exact this
 .rw[aj] at ng
  have b5:i<n/\i<l.length:=by simp at hi;omega
  rw[r.rd q ng i b5.2];simp
structure cW (f:α->Value)(h0 h:ak)(s:ar)(l:List α):Prop where
 len:s.len=l.length
 cap:s.len<=s.cap
 own:(s.q=none/\s.cap=0)∨∃q c t,s.q=some q/\h0 q.b=none/\h q.b=some (.cells c t (0,0))/\q.o+s.cap<=c.size/\∀i (hi:i<l.length),c[q.o+i]? =some (f l[i])
theorem cW.rd {f:α->Value}{h0 h:ak}{s:ar}{l:List α}(r:cW f h0 h s l):fi f h s l:=by
 refine⟨r.len,r.cap,λaH=>?_,λq aj i hi=>?_⟩
 .rcases r.own with ⟨_,aa⟩|⟨q,c,t,aa,_⟩
  .exact aa
  .rw[aH] at aa;cases aa
 .rcases r.own with ⟨aa,_⟩|⟨dL,c,t,aa,_,an,_,aR⟩
  .rw[aj] at aa;cases aa
  .rw[aj] at aa;cases aa
   rw[A8 an];exact aR i hi
theorem cW.bl {f:α->Value}{h0 h:ak}{s:ar}{l:List α}(r:cW f h0 h s l){q:aD}(aj:s.q=some q):h0 q.b=none/\h q.b≠none:=by
 rcases r.own with ⟨aa,_⟩|⟨dL,c,t,aa,ad,an,_⟩
 .rw[aj] at aa;cases aa
 .rw[aj] at aa;cases aa;exact⟨ad,by rw[an];simp⟩
theorem cW.move {f:α->Value}{h0 h ah:ak}{s:ar}{l:List α}(r:cW f h0 h s l)(aU:∀q,s.q=some q->ah q.b=h q.b):cW f h0 ah s l:=by
 refine⟨r.len,r.cap,?_⟩
 rcases r.own with aa|⟨q,c,t,aa,ad,an,aK,aR⟩
 .exact .inl aa
 .exact .inr ⟨q,c,t,aa,ad,by rw[aU q aa];exact an,aK,aR⟩
theorem cW.gD (f:α->Value)(h0 h:ak):cW f h0 h ⟨none,0,0,none⟩ []:=⟨rfl,Nat.le_refl _,.inl ⟨rfl,rfl⟩⟩
theorem cW.bD {f:α->Value}{h0 h ah:ak}{s:ar}{l:List α}(r:cW f h0 h s l)(k:bL h ah):cW f h0 ah s l :=
 r.move λ_ aj=>k _ (r.bl aj).2
theorem cW.new {f:α->Value}{h0 h:ak}{l:List α}{t:TypeId}{b:Nat}(au:h0 b=none)(n:Nat)(aH:n=l.length):cW f h0 (bA h b (.cells (l.map f).toArray t (0,0))) ⟨some ⟨b,0⟩,n,n,none⟩ l:=by
 subst aH
 exact⟨rfl,Nat.le_refl _,.inr ⟨_,_,_,rfl,au,eH _ _ _,by simp,λi hi=>by simp[hi]⟩⟩
theorem Ii {v:Value}(n m:Nat)(hm:m=n):kT (if n=0 then #[] else #[v]) m=(List.replicate n v).toArray:=by
 subst hm
 unfold kT
 apply Array.toList_inj.1
 apply List.ext_getElem
 .simp
 .intro i aa ad
  have:i<m:=by simpa using aa
  have h0:m≠0:=by omega
  simp[h0,Nat.mod_one]
theorem axF (c:Array Value)(o:Nat)(v:Value):h5 c o [v]=c.setIfInBounds o v:=rfl
theorem wC (c:Array Value)(o:Nat)(l:List Value)(i:Nat):(h5 c o l)[i]? =if o<=i/\i<o+l.length/\i<c.size then l[i-o]? else c[i]?:=by
 induction l generalizing c o with
 | nil=>simp only[h5,List.length_nil,Nat.add_zero];rw[if_neg (by omega)]
 | cons v l dK =>
  simp only[h5,dK,List.length_cons,Array.size_setIfInBounds,Array.getElem?_setIfInBounds]
  by_cases aa:o+1<=i/\i<o+1+l.length/\i<c.size
  .rw[if_pos aa,if_pos (by omega)]
   rw[show i-o=(i-(o+1))+1 by omega];simp
  .rw[if_neg aa]
   by_cases ad:o=i
   .subst ad
    by_cases an:o<c.size
    .simp[an]
    .simp[an]
   .simp only[ad,if_false]
    rw[if_neg (by omega)]
structure vk (P:Program)(T el:TypeId)(z:Value)(by_:Nat):Prop where
 Es:P.underlying T=some (.slice el)
 dA:jQ P el=some 1
 Sc:uw P el=some z
 bytes:(P.info? el).map (·.bytes)=some by_
 one:z.cells.size=1
theorem ad3 (z:Array Value)(n:Nat):(Builtin.zeroCells z n).size=n*z.size:=by simp[Builtin.zeroCells]
theorem cW.app {P:Program}{T el:TypeId}{z:Value}{by_:Nat}(rt:vk P T el z by_){f:α->Value}(one:∀x,(f x).oneCell'=true){h0 h:ak}{s y:ar}{l m:List α}(r:cW f h0 h s l)(jq:fi f h y m)
 (pT:∀b,h b=none->h0 b=none) (room:(l.length+m.length)*by_<=140737488355328) (kY:0<by_) {K:ar->ak->Prop}
 (ag:∀cX ah,cW f h0 ah cX (l++m)->(∀b,h b≠none->(∀q,s.q=some q->b≠q.b)->ah b=h b)->(∀dL,cX.q=some dL->(∃q,s.q=some q/\dL.b=q.b)∨h dL.b=none)->(∀b,ah b=none->h b=none)->K cX ah) :
 fh P T s (.s y) h K:=by
 unfold fh
 rw[rt.Es]
 simp only[rt.dA,rt.Sc,rt.bytes,sy]
 have aP:=r.rd
 have oW:=jq.len
 have kt:=r.len
 refine⟨m.map f,by simp[oW],by simp only[List.mem_map];rintro v ⟨x,_,rfl⟩;exact one x,?_,?_⟩
 .cases e:y.q with
  | none=>have:=jq.nil e;have:=jq.cap;simp;exact List.length_eq_zero_iff.1 (by omega)
  | some q=>exact Ij.2 (jq.rd q e)
 cases aZ:decide (s.len+y.len<=s.cap) with
 | true =>
  rw[cond_true]
  have mx:s.len+y.len<=s.cap:=of_decide_eq_true aZ
  rcases r.own with ⟨aa,ad⟩|⟨q,c,t,aa,ad,an,aK,aR⟩
  .rw[aa]
   have hm:m=[]:=List.length_eq_zero_iff.1 (by omega)
   subst hm
   refine⟨rfl,ag _ _ ⟨by simp[kt,oW],by simp;omega,.inl ⟨aa,ad⟩⟩ (λb _ _=>rfl) (λdL eB=>by have:=aa.symm.trans eB;cases this) (λb au=>au)⟩
  .rw[aa]
   refine⟨c,t,an,by simp;omega,ag _ _ ⟨by simp[kt,oW],mx,.inr ⟨q,_,_,rfl,ad,eH _ _ _,by rw[AL];exact aK,λi hi=>?_⟩⟩ (λb _ au=>cQ _ _ (au q aa)) (λdL eB=> .inl ⟨q,aa,by cases eB;rfl⟩) (λb au=>?_)⟩
   .have b5:i<l.length+m.length:=by simpa using hi
    simp only[wC,Nat.mul_one,List.length_map]
    by_cases e:i<l.length
    .rw[if_neg (by omega),aR i e,List.getElem_append_left e]
    .rw[if_pos (by omega),List.getElem?_map,show q.o+i-(q.o+s.len)=i-l.length by omega,List.getElem?_eq_getElem (by omega),List.getElem_append_right (by omega)]
     rfl
   .by_cases e:b=q.b
    .subst e;rw[eH] at au;cases au
    .rwa [cQ _ _ e] at au
 | false =>
  rw[cond_false]
  have mx:¬(s.len+y.len<=s.cap):=of_decide_eq_false aZ
  have c_:=growslice_fits (need:=s.len+y.len) (old:=s.cap) (bytes:=by_) (by omega) (by rw[kt,oW];exact room)
  refine⟨c_,?_,?_⟩
  .have:s.len+y.len<=140737488355328:=by
    rw[kt,oW]
    exact Nat.le_trans (Nat.le_mul_of_pos_right _ kY) room
   omega
  refine⟨l.map f,by simp[kt],by simp only[List.mem_map];rintro v ⟨x,_,rfl⟩;exact one x,?_,?_⟩
  .cases e:s.q with
   | none=>have:=aP.nil e;have:=aP.cap;simp;exact List.length_eq_zero_iff.1 (by omega)
   | some q=>exact Ij.2 (aP.rd q e)
  intro nm qC b au
  refine ag _ _ ⟨by simp[kt,oW],qC,.inr ⟨⟨b,0⟩,_,_,rfl,pT b au,eH _ _ _,?_,λi hi=>?_⟩⟩ (λx ai _=>cQ _ _ (λe=>ai (by rw[e];exact au))) (λdL eB=> .inr (by cases eB;exact au)) (λx ai=>?_)
  .have aa:(l.map f).length+(m.map f).length<=nm:=by simp;omega
   simp only[Array.size_append,List.size_toArray,List.length_map,ad3]
   rw[rt.one]
   omega
  .have b5:i<l.length+m.length:=by simpa using hi
   rw[Array.getElem?_append_left (by simp;omega)]
   by_cases e:i<l.length
   .rw[Array.getElem?_append_left (by simp;omega),List.getElem_append_left e]
    simp[e]
   .rw[Array.getElem?_append_right (by simp;omega),List.getElem_append_right (by omega)]
    simp
    rw[List.getElem?_eq_getElem (by omega)];exact⟨_,rfl,rfl⟩
  .by_cases e:x=b
   .subst e;exact au
   .rwa [cQ _ _ e] at ai
theorem cW.push {P:Program}{T el:TypeId}{z:Value}{by_:Nat}(rt:vk P T el z by_){f:α->Value}(one:∀x,(f x).oneCell'=true){h0 h:ak}{s:ar}{l:List α}(r:cW f h0 h s l)(x:α){t:TypeId}
 (pT:∀b,h b=none->h0 b=none) (room:(l.length+1)*by_<=140737488355328) (kY:0<by_) {K:ar->ak->Prop}
 (ag:∀cX ah,cW f h0 ah cX (l++[x])->(∀b,h b≠none->(∀q,s.q=some q->b≠q.b)->ah b=h b)->(∀b,ah b=none->h b=none)->K cX ah) :
 bj h (.cells #[f x] t) λb ah=>fh P T s (.s ⟨some ⟨b,0⟩,1,1,none⟩) ah K:=by
 intro b au
 have aI:bL h (bA h b (.cells #[f x] t)):=(bL.refl h).bA au _
 have y:fi f (bA h b (.cells #[f x] t)) ⟨some ⟨b,0⟩,1,1,none⟩ [x]:=(cW.new (f:=f) (h0:=h0) (l:=[x]) (pT b au) 1 rfl).rd
 refine cW.app rt one (r.bD aI) y (λc aZ=>pT c (aI.free aZ)) (by simpa using room) kY ?_
 intro cX ah o qp _ gI
 refine ag cX ah o (λc aZ aU=>?_) (λc aZ=>aI.free (gI c aZ))
 rw[qp c (by rw[aI c aZ];exact aZ) aU,aI c aZ]
theorem cW.Bu {P:Program}{T el:TypeId}{z:Value}{by_:Nat}(rt:vk P T el z by_){f:α->Value}(one:∀x,(f x).oneCell'=true){h0 h:ak}{s:ar}{l:List α}(r:cW f h0 h s l)(x:α){t:TypeId}
 (pT:∀b,h b=none->h0 b=none) (room:(l.length+1)*by_<=140737488355328) (kY:0<by_) {K:ar->ak->Prop}
 (ag:∀cX ah,cW f h0 ah cX (l++[x])->(∀b,h b≠none->(∀q,s.q=some q->b≠q.b)->ah b=h b)->(∀dL,cX.q=some dL->(∃q,s.q=some q/\dL.b=q.b)∨h dL.b=none)->(∀b,ah b=none->h b=none)->K cX ah) :
 bj h (.cells #[f x] t) λb ah=>fh P T s (.s ⟨some ⟨b,0⟩,1,1,none⟩) ah K:=by
 intro b au
 have aI:bL h (bA h b (.cells #[f x] t)):=(bL.refl h).bA au _
 have y:fi f (bA h b (.cells #[f x] t)) ⟨some ⟨b,0⟩,1,1,none⟩ [x]:=(cW.new (f:=f) (h0:=h0) (l:=[x]) (pT b au) 1 rfl).rd
 refine cW.app rt one (r.bD aI) y (λc aZ=>pT c (aI.free aZ)) (by simpa using room) kY ?_
 intro cX ah o qp hw gI
 refine ag cX ah o (λc aZ aU=>?_) (λdL eB=>(hw dL eB).imp id λe=>aI.free e) (λc aZ=>aI.free (gI c aZ))
 rw[qp c (by rw[aI c aZ];exact aZ) aU,aI c aZ]
theorem cW.copy {P:Program}{T el:TypeId}{z:Value}{by_:Nat}(rt:vk P T el z by_){f:α->Value}(one:∀x,(f x).oneCell'=true){h:ak}{s:ar}{l:List α}(r:fi f h s l){t:TypeId}
 (room:l.length*by_<=140737488355328) (kY:0<by_) {K:ar->ak->Prop}
 (ag:∀cX ah,cW f h ah cX l->bL h ah->K cX ah) :
 bj h (.cells #[] t) λb ah=>fh P T ⟨some ⟨b,0⟩,0,0,none⟩ (.s s) ah K:=by
 intro b au
 have aE:bL h (bA h b (.cells #[] t)):=(bL.refl h).bA au _
 have BZ:cW f h (bA h b (.cells #[] t)) ⟨some ⟨b,0⟩,0,0,none⟩ []:=cW.new (l:=[]) au 0 rfl
 refine cW.app rt one (l:=[]) BZ (r.bD aE) (λx ai=>aE.free ai) (by simpa using room) kY ?_
 intro cX ah o qp _ _
 refine ag cX ah (by simpa using o) λx ai=>?_
 rw[qp x (by rw[aE x ai];exact ai) (λq aj e=>by cases aj;exact ai (e▸au)),aE x ai]

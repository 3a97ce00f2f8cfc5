import Derived.Test.YtegdpmgnhnccaaaGreatShCode
import Derived.Laws.Append
namespace Go.cR
open Go Go.RowKit
theorem aAy {b:Bool}{x y:Prop}:bl b x y↔(b=true->x)/\(b=false->y):=by
 cases b<;>simp[bl]
theorem dF {b:Bool}{x y:Prop}(h:b=true)(ai:x):bl b x y:=by subst h;exact ai
theorem b3 {b:Bool}{x y:Prop}(h:b=false)(aC:y):bl b x y:=by subst h;exact aC
theorem iN {b:Bool}{x y:Prop}(ai:b=true->x)(aC:b=false->y):bl b x y:=aAy.2 ⟨ai,aC⟩
theorem cj {p:Prop}[Decidable p]{x y:Prop}(ai:p->x)(aC:¬p->y):bl (decide p) x y :=
 iN (λh=>ai (aDN h)) (λh=>aC (aD3 h))
theorem wb {p:Prop}[Decidable p]{x y:Prop}(ai:¬p->x)(aC:p->y):bl (!decide p) x y :=
 iN (λh=>ai (by simpa using h)) (λh=>aC (by simpa using h))
theorem iK {n:Int}(h0: -9223372036854775808<=n)(aa:n<=9223372036854775807):al n=n:=by
 rw[af4];unfold wrap64;omega
theorem bt {n:Int}(h0:-9223372036854775808<=n:=by omega)(aa:n<=9223372036854775807:=by omega):al n=n:=iK h0 aa
def bL (h af:ak):Prop:=∀b,h b≠none->af b=h b
theorem bL.refl (h:ak):bL h h:=λ_ _=>rfl
theorem bL.trans {aa ad an:ak}(a:bL aa ad)(b:bL ad an):bL aa an:=λx ai=>by
 rw[b x (by rw[a x ai];exact ai),a x ai]
theorem bL.bD {h af:ak}(a:bL h af){b:Nat}(ar:h b=none)(o:Obj):bL h (bD af b o):=λx ai=>by
 have:x≠b:=λe=>ai (by rw[e];exact ar);rw[cu _ _ this,a x ai]
theorem bL.free {h af:ak}(a:bL h af){b:Nat}(ar:af b=none):h b=none:=by
 cases e:h b with
 | none=>rfl
 | some o=>rw[a b (by rw[e];simp),e] at ar;cases ar
def eb (D:Nat->Prop)(h af:ak):Prop:=∀b,h b≠none->¬D b->af b=h b
theorem eb.refl (D:Nat->Prop)(h:ak):eb D h h:=λ_ _ _=>rfl
theorem eb.trans {D:Nat->Prop}{aa ad an:ak}(a:eb D aa ad)(b:eb D ad an):eb D aa an:=λx ai b4=>by
 rw[b x (by rw[a x ai b4];exact ai) b4,a x ai b4]
theorem bL.off {h af:ak}(a:bL h af)(D:Nat->Prop):eb D h af:=λx ai _=>a x ai
theorem xY {h:ak}{b o:Nat}{v:Value}(e:bx h b o=some v):h b≠none:=by
 intro aK;unfold bx at e;rw[aK] at e;cases e
theorem B7 {h:ak}{b o:Nat}{c:Array Value}{t:TypeId}{f:Nat×Nat}(e:h b=some (.cells c t f)):bx h b o=c[o]?:=by
 unfold bx;rw[e]
theorem qH {h af:ak}{b:Nat}(e:af b=h b)(o:Nat):bx af b o=bx h b o:=by
 unfold bx;rw[e]
theorem al2 {h:ak}{b x o:Nat}{e7:Obj}(aK:x≠b):bx (bD h b e7) x o=bx h x o:=by
 unfold bx;rw[cu _ _ aK]
variable {α:Type}
structure e4 (f:α->Value)(h:ak)(s:ao)(l:List α):Prop where
 len:s.len=l.length
 cap:s.len<=s.cap
 nil:s.q=none->s.cap=0
 rd:∀q,s.q=some q->∀i (hi:i<l.length),bx h q.b (q.o+i)=some (f l[i])
theorem e4.ptr {f:α->Value}{h:ak}{s:ao}{l:List α}(r:e4 f h s l)(aT:0<l.length):∃q,s.q=some q:=by
 cases e:s.q with
 | some q=>exact⟨q,rfl⟩
 | none=>have:=r.nil e;have:=r.cap;have:=r.len;omega
theorem e4.at {f:α->Value}{h:ak}{s:ao}{l:List α}(r:e4 f h s l){i:Nat}(hi:i<l.length):∃q,s.q=some q/\bx h q.b (q.o+i)=some (f l[i]):=by
 obtain⟨q,aj⟩:=r.ptr (by omega);exact⟨q,aj,r.rd q aj i hi⟩
theorem e4.move {f:α->Value}{h af:ak}{s:ao}{l:List α}(r:e4 f h s l)(aV:∀q,s.q=some q->0<l.length->af q.b=h q.b):e4 f af s l :=
 ⟨r.len,r.cap,r.nil,λq aj i hi=>by rw[qH (aV q aj (by omega))];exact r.rd q aj i hi⟩
theorem e4.bA {f:α->Value}{h af:ak}{s:ao}{l:List α}(r:e4 f h s l)(k:bL h af):e4 f af s l :=
 r.move λq aj aT=>k _ (xY (r.rd q aj 0 aT))
theorem e4.there {f:α->Value}{h:ak}{s:ao}{l:List α}(r:e4 f h s l){q:aF}(aj:s.q=some q)(aT:0<l.length):h q.b≠none:=xY (r.rd q aj 0 aT)
theorem e4.gy (f:α->Value)(h:ak):e4 f h ⟨none,0,0,none⟩ []:=⟨rfl,aDt _,λ_=>rfl,λ_ h=>by cases h⟩
theorem e4.cA {f:α->Value}{h:ak}{s:ao}{l:List α}(r:e4 f h s l){i:Nat}(hi:i<l.length){K:aF->Prop}(ah:∀q,s.q=some q->bx h q.b (q.o+i*1)=some (f l[i])->K q) :
 ∃q,s.q=some q/\(0:Int)<=(i:Int)/\(i:Int)+1<=(s.len:Int)/\K q:=by
 obtain⟨q,aj,a1⟩:=r.at hi;exact⟨q,aj,by omega,by rw[r.len];omega,ah q aj (by rw[aEV];exact a1)⟩
theorem JF {f:α->Value}{h:ak}{b:Nat}{l:List α}{o:Nat}:fW h b o (l.map f)↔∀i (hi:i<l.length),bx h b (o+i)=some (f l[i]):=by
 rw[pJ];constructor
 .intro H i hi
  have:=H i (by simpa using hi);simpa using this
 .intro H i hi
  have:=H i (by simpa using hi);simpa using this
theorem WW {s:ao}{n m dR a b:Nat}{dE:aF}(h:ao.q ⟨fX s.p n m dR,a,b,hZ s.z n m dR⟩=some dE):(∃q,s.q=some q/\dE.b=q.b)∨(m≠n/\n*dR≠0):=by
 obtain⟨p,k,c,z⟩:=s;by_cases aa:m=n∨n*dR=0
 .left;cases z with
  | some z=>simp[ao.q,hZ,aa] at h
  | none =>
   simp only[ao.q,hZ,aa,aEv] at h;unfold fX at h;split at h
   .exact⟨dE,h,rfl⟩
   .cases p with
    | none=>cases h
    | some q=>cases h;exact⟨q,rfl,rfl⟩
 .right;omega
theorem JT {s:ao}{a b:Nat}(a1:s.q=none->s.cap=0){n:Nat}(aK:n<=s.cap){dE:aF}(h:ao.q ⟨fX s.p n s.cap 1,a,b,hZ s.z n s.cap 1⟩=some dE):∃q,s.q=some q/\dE.b=q.b:=by
 rcases WW h with aa|⟨aa,ad⟩
 .exact aa
 .cases e:s.q with
  | none=>have:=a1 e;omega
  | some q =>
   refine⟨q,rfl,?_⟩;have aP:=ao.zW e;have bn:s.z=none:=by
    obtain⟨p,k,c,z⟩:=s;cases z with
    | some z=>cases e
    | none=>rfl
   simp only[ao.q,hZ,bn,ite_self,fX,aP] at h;rw[aDq aa] at h;cases h;rfl
theorem e4.drop {f:α->Value}{h:ak}{s:ao}{l:List α}(r:e4 f h s l){n:Nat}(aK:n<=l.length):e4 f h ⟨fX s.p n s.cap 1,s.len-n,s.cap-n,hZ s.z n s.cap 1⟩ (l.drop n):=by
 have hlen:=r.len;have vz:=r.cap;by_cases dM:s.cap=0
 .have aa:s.len=0:=by omega
  have ad:l=[]:=aD9.1 (by omega);subst ad;exact⟨by simp[aa],by simp;omega,λ_=>by simp[dM],λq aj i hi=>by simp at hi⟩
 obtain⟨gU,Ah⟩:∃q,s.q=some q:=by
  cases e:s.q with
  | none=>have:=r.nil e;omega
  | some q=>exact⟨q,rfl⟩
 have aP:=ao.zW Ah;have bn:s.z=none:=by
  obtain⟨p,k,c,z⟩:=s;cases z with
  | some z=>cases Ah
  | none=>rfl
 have aj:ao.q ⟨fX s.p n s.cap 1,s.len-n,s.cap-n,hZ s.z n s.cap 1⟩=if s.cap=n then some gU else some ⟨gU.b,gU.o+n*1⟩:=by
  simp only[ao.q,hZ,bn,ite_self,fX,aP,aEx]
 refine⟨by simp[hlen],by simp;omega,λe=>?_,λq nL i hi=>?_⟩
 .rw[aj] at e;split at e<;>cases e
 .have cb:i+n<l.length:=by simp at hi;omega
  rw[aj,cS] at nL;cases nL;have a1:=r.rd gU Ah (i+n) cb;simp only[List.getElem_drop];rw[show gU.o+n*1+i=gU.o+(i+n) by omega,a1];congr 2;simp[Nat.add_comm]
theorem e4.JG {f:α->Value}{h:ak}{s:ao}{l:List α}(r:e4 f h s l){n:Nat}(aK:n<=l.length):e4 f h ⟨fX s.p 0 s.cap 1,n-0,s.cap-0,hZ s.z 0 s.cap 1⟩ (l.take n):=by
 have hlen:=r.len;have vz:=r.cap;have aj:ao.q ⟨fX s.p 0 s.cap 1,n-0,s.cap-0,hZ s.z 0 s.cap 1⟩=s.q:=by
  obtain⟨p,k,c,z⟩:=s;simp only[ao.q,hZ,fX,Nat.zero_mul,or_true,aEv];cases z with
  | some z=>rfl
  | none =>
   simp only;split
   .rfl
   .cases p<;>rfl
 refine⟨by simp;omega,by simp;omega,λe=>?_,λq nL i hi=>?_⟩
 .rw[aj] at e;have:=r.nil e;simp;exact this
 .rw[aj] at nL;have cb:i<n/\i<l.length:=by simp at hi;omega
  rw[r.rd q nL i cb.2];simp
structure c4 (f:α->Value)(h0 h:ak)(s:ao)(l:List α):Prop where
 len:s.len=l.length
 cap:s.len<=s.cap
 own:(s.q=none/\s.cap=0)∨∃q c t,s.q=some q/\h0 q.b=none/\h q.b=ev c t/\q.o+s.cap<=c.size/\∀i (hi:i<l.length),c[q.o+i]? =some (f l[i])
theorem c4.rd {f:α->Value}{h0 h:ak}{s:ao}{l:List α}(r:c4 f h0 h s l):e4 f h s l:=by
 refine⟨r.len,r.cap,λaK=>?_,λq aj i hi=>?_⟩
 .rcases r.own with ⟨_,aa⟩|⟨q,c,t,aa,_⟩
  .exact aa
  .rw[aK] at aa;cases aa
 .rcases r.own with ⟨aa,_⟩|⟨dE,c,t,aa,_,an,_,aR⟩
  .rw[aj] at aa;cases aa
  .rw[aj] at aa;cases aa;rw[B7 an];exact aR i hi
theorem c4.bp {f:α->Value}{h0 h:ak}{s:ao}{l:List α}(r:c4 f h0 h s l){q:aF}(aj:s.q=some q):h0 q.b=none/\h q.b≠none:=by
 rcases r.own with ⟨aa,_⟩|⟨dE,c,t,aa,ad,an,_⟩
 .rw[aj] at aa;cases aa
 .rw[aj] at aa;cases aa;exact⟨ad,by rw[an];simp⟩
theorem c4.move {f:α->Value}{h0 h af:ak}{s:ao}{l:List α}(r:c4 f h0 h s l)(aV:∀q,s.q=some q->af q.b=h q.b):c4 f h0 af s l:=by
 refine⟨r.len,r.cap,?_⟩;rcases r.own with aa|⟨q,c,t,aa,ad,an,aJ,aR⟩
 .exact .inl aa
 .exact .inr ⟨q,c,t,aa,ad,by rw[aV q aa];exact an,aJ,aR⟩
theorem c4.gy (f:α->Value)(h0 h:ak):c4 f h0 h ⟨none,0,0,none⟩ []:=⟨rfl,aDt _,.inl ⟨rfl,rfl⟩⟩
theorem c4.bA {f:α->Value}{h0 h af:ak}{s:ao}{l:List α}(r:c4 f h0 h s l)(k:bL h af):c4 f h0 af s l :=
 r.move λ_ aj=>k _ (r.bp aj).2
theorem c4.new {f:α->Value}{h0 h:ak}{l:List α}{t:TypeId}{b:Nat}(ar:h0 b=none)(n:Nat)(aK:n=l.length):c4 f h0 (bD h b (.cells (l.map f).toArray t (0,0))) ⟨some ⟨b,0⟩,n,n,none⟩ l:=by
 subst aK;exact⟨rfl,aDt _,.inr ⟨_,_,_,rfl,ar,eC _ _ _,by simp,λi hi=>by simp[hi]⟩⟩
theorem JE {v:Value}(n m:Nat)(hm:m=n):lq (if n=0 then #[] else #[v]) m=(List.replicate n v).toArray:=by
 subst hm;unfold lq;apply aD6.1;apply aEG
 .simp
 .intro i aa ad
  have:i<m:=by simpa using aa
  have h0:m≠0:=by omega
  simp[h0,Nat.mod_one]
theorem aAz (c:Array Value)(o:Nat)(v:Value):iI c o [v]=c.setIfInBounds o v:=rfl
theorem xA (c:Array Value)(o:Nat)(l:List Value)(i:Nat):(iI c o l)[i]? =if o<=i/\i<o+l.length/\i<c.size then l[i-o]? else c[i]?:=by
 induction l generalizing c o with
 | nil=>simp only[iI,aEW,aEe];rw[cS]
 | cons v l dI =>
  simp only[iI,dI,aE6,Array.size_setIfInBounds,aEI];by_cases aa:o+1<=i/\i<o+1+l.length/\i<c.size
  .rw[aDr aa,eY];rw[show i-o=(i-(o+1))+1 by omega];simp
  .rw[aDq aa];by_cases ad:o=i
   .subst ad;by_cases an:o<c.size
    .simp[an]
    .simp[an]
   .simp only[ad,aEc];rw[cS]
structure wA (P:Program)(T el:TypeId)(z:Value)(by_:Nat):Prop where
 FB:P.underlying T=some (.slice el)
 dR:kk P el=some 1
 TY:vr P el=some z
 bytes:(P.info? el).map (·.bytes)=some by_
 one:z.cells.size=1
theorem agi (z:Array Value)(n:Nat):(Builtin.zeroCells z n).size=n*z.size:=by simp[Builtin.zeroCells]
theorem c4.app {P:Program}{T el:TypeId}{z:Value}{by_:Nat}(rt:wA P T el z by_){f:α->Value}(one:∀x,(f x).oneCell'=true){h0 h:ak}{s y:ao}{l m:List α}(r:c4 f h0 h s l)(iO:e4 f h y m)
 (qy:∀b,h b=none->h0 b=none) (room:(l.length+m.length)*by_<=140737488355328) (kX:0<by_) {K:ao->ak->Prop}
 (ah:∀cE af,c4 f h0 af cE (l++m)->(∀b,h b≠none->(∀q,s.q=some q->b≠q.b)->af b=h b)->(∀dE,cE.q=some dE->(∃q,s.q=some q/\dE.b=q.b)∨h dE.b=none)->(∀b,af b=none->h b=none)->K cE af) :
 eI P T s (.s y) h K:=by
 unfold eI;rw[rt.FB];simp only[rt.dR,rt.TY,rt.bytes,td];have aQ:=r.rd;have oW:=iO.len;have kq:=r.len;refine⟨m.map f,by simp[oW],by simp only[aD2];rintro v ⟨x,_,rfl⟩;exact one x,?_,?_⟩
 .cases e:y.q with
  | none=>have:=iO.nil e;have:=iO.cap;simp;exact aD9.1 (by omega)
  | some q=>exact JF.2 (iO.rd q e)
 cases a1:decide (s.len+y.len<=s.cap) with
 | true =>
  rw[aED];have m1:s.len+y.len<=s.cap:=aDN a1;rcases r.own with ⟨aa,ad⟩|⟨q,c,t,aa,ad,an,aJ,aR⟩
  .rw[aa];have hm:m=[]:=aD9.1 (by omega);subst hm;refine⟨rfl,ah _ _ ⟨by simp[kq,oW],by simp;omega,.inl ⟨aa,ad⟩⟩ (λb _ _=>rfl) (λdE eG=>by have:=aa.symm.trans eG;cases this) (λb ar=>ar)⟩
  .rw[aa];refine⟨c,t,an,by simp;omega,ah _ _ ⟨by simp[kq,oW],m1,.inr ⟨q,_,_,rfl,ad,eC _ _ _,by rw[BO];exact aJ,λi hi=>?_⟩⟩ (λb _ ar=>cu _ _ (ar q aa)) (λdE eG=> .inl ⟨q,aa,by cases eG;rfl⟩) (λb ar=>?_)⟩
   .have cb:i<l.length+m.length:=by simpa using hi
    simp only[xA,aEV,aDF];by_cases e:i<l.length
    .rw[cS,aR i e,List.getElem_append_left e]
    .rw[eY,List.getElem?_map,show q.o+i-(q.o+s.len)=i-l.length by omega,aDx (by omega),aFL (by omega)];rfl
   .by_cases e:b=q.b
    .subst e;rw[eC] at ar;cases ar
    .rwa [cu _ _ e] at ar
 | false =>
  rw[aEZ];have m1:¬(s.len+y.len<=s.cap):=aD3 a1;have dd:=growslice_fits (need:=s.len+y.len) (old:=s.cap) (bytes:=by_) (by omega) (by rw[kq,oW];exact room);refine⟨dd,?_,?_⟩
  .have:s.len+y.len<=140737488355328:=by
    rw[kq,oW];exact aE_ (Nat.le_mul_of_pos_right _ kX) room
   omega
  refine⟨l.map f,by simp[kq],by simp only[aD2];rintro v ⟨x,_,rfl⟩;exact one x,?_,?_⟩
  .cases e:s.q with
   | none=>have:=aQ.nil e;have:=aQ.cap;simp;exact aD9.1 (by omega)
   | some q=>exact JF.2 (aQ.rd q e)
  intro nU rn b ar;refine ah _ _ ⟨by simp[kq,oW],rn,.inr ⟨⟨b,0⟩,_,_,rfl,qy b ar,eC _ _ _,?_,λi hi=>?_⟩⟩ (λx ai _=>cu _ _ (λe=>ai (by rw[e];exact ar))) (λdE eG=> .inr (by cases eG;exact ar)) (λx ai=>?_)
  .have aa:(l.map f).length+(m.map f).length<=nU:=by simp;omega
   simp only[Array.size_append,List.size_toArray,aDF,agi];rw[rt.one];omega
  .have cb:i<l.length+m.length:=by simpa using hi
   rw[aFG (by simp;omega)];by_cases e:i<l.length
   .rw[aFG (by simp;omega),List.getElem_append_left e];simp[e]
   .rw[Array.getElem?_append_right (by simp;omega),aFL (by omega)];simp;rw[aDx (by omega)];exact⟨_,rfl,rfl⟩
  .by_cases e:x=b
   .subst e;exact ar
   .rwa [cu _ _ e] at ai
theorem c4.push {P:Program}{T el:TypeId}{z:Value}{by_:Nat}(rt:wA P T el z by_){f:α->Value}(one:∀x,(f x).oneCell'=true){h0 h:ak}{s:ao}{l:List α}(r:c4 f h0 h s l)(x:α){t:TypeId}
 (qy:∀b,h b=none->h0 b=none) (room:(l.length+1)*by_<=140737488355328) (kX:0<by_) {K:ao->ak->Prop}
 (ah:∀cE af,c4 f h0 af cE (l++[x])->(∀b,h b≠none->(∀q,s.q=some q->b≠q.b)->af b=h b)->(∀b,af b=none->h b=none)->K cE af) :
 bg h (.cells #[f x] t) λb af=>eI P T s (.s ⟨some ⟨b,0⟩,1,1,none⟩) af K:=by
 intro b ar;have aG:bL h (bD h b (.cells #[f x] t)):=(bL.refl h).bD ar _;have y:e4 f (bD h b (.cells #[f x] t)) ⟨some ⟨b,0⟩,1,1,none⟩ [x]:=(c4.new (f:=f) (h0:=h0) (l:=[x]) (qy b ar) 1 rfl).rd;refine c4.app rt one (r.bA aG) y (λc a1=>qy c (aG.free a1)) (by simpa using room) kX ?_;intro cE af o q_ _ hc;refine ah cE af o (λc a1 aV=>?_) (λc a1=>aG.free (hc c a1));rw[q_ c (by rw[aG c a1];exact a1) aV,aG c a1]
theorem c4.zX {P:Program}{T el:TypeId}{z:Value}{by_:Nat}(rt:wA P T el z by_){f:α->Value}(one:∀x,(f x).oneCell'=true){h0 h:ak}{s:ao}{l:List α}(r:c4 f h0 h s l)(x:α){t:TypeId}
 (qy:∀b,h b=none->h0 b=none) (room:(l.length+1)*by_<=140737488355328) (kX:0<by_) {K:ao->ak->Prop}
 (ah:∀cE af,c4 f h0 af cE (l++[x])->(∀b,h b≠none->(∀q,s.q=some q->b≠q.b)->af b=h b)->(∀dE,cE.q=some dE->(∃q,s.q=some q/\dE.b=q.b)∨h dE.b=none)->(∀b,af b=none->h b=none)->K cE af) :
 bg h (.cells #[f x] t) λb af=>eI P T s (.s ⟨some ⟨b,0⟩,1,1,none⟩) af K:=by
 intro b ar;have aG:bL h (bD h b (.cells #[f x] t)):=(bL.refl h).bD ar _;have y:e4 f (bD h b (.cells #[f x] t)) ⟨some ⟨b,0⟩,1,1,none⟩ [x]:=(c4.new (f:=f) (h0:=h0) (l:=[x]) (qy b ar) 1 rfl).rd;refine c4.app rt one (r.bA aG) y (λc a1=>qy c (aG.free a1)) (by simpa using room) kX ?_;intro cE af o q_ hw hc;refine ah cE af o (λc a1 aV=>?_) (λdE eG=>(hw dE eG).imp id λe=>aG.free e) (λc a1=>aG.free (hc c a1));rw[q_ c (by rw[aG c a1];exact a1) aV,aG c a1]
theorem c4.copy {P:Program}{T el:TypeId}{z:Value}{by_:Nat}(rt:wA P T el z by_){f:α->Value}(one:∀x,(f x).oneCell'=true){h:ak}{s:ao}{l:List α}(r:e4 f h s l){t:TypeId}
 (room:l.length*by_<=140737488355328) (kX:0<by_) {K:ao->ak->Prop}
 (ah:∀cE af,c4 f h af cE l->bL h af->K cE af) :
 bg h (.cells #[] t) λb af=>eI P T ⟨some ⟨b,0⟩,0,0,none⟩ (.s s) af K:=by
 intro b ar;have aD:bL h (bD h b (.cells #[] t)):=(bL.refl h).bD ar _;have C6:c4 f h (bD h b (.cells #[] t)) ⟨some ⟨b,0⟩,0,0,none⟩ []:=c4.new (l:=[]) ar 0 rfl;refine c4.app rt one (l:=[]) C6 (r.bA aD) (λx ai=>aD.free ai) (by simpa using room) kX ?_;intro cE af o q_ _ _;refine ah cE af (by simpa using o) λx ai=>?_;rw[q_ x (by rw[aD x ai];exact ai) (λq aj e=>by cases aj;exact ai (e▸ar)),aD x ai]

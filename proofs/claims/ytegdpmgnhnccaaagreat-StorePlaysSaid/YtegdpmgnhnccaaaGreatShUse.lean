import Derived.Test.YtegdpmgnhnccaaaGreatShCode
import Derived.Laws.Append
namespace Go.cQ
open Go Go.RowKit
theorem aqq {b:Bool}{x y:Prop}:bp b x y↔(b=true->x)/\(b=false->y):=by
 cases b<;>simp[bp]
theorem eh {b:Bool}{x y:Prop}(h:b=true)(af:x):bp b x y:=by subst h;exact af
theorem b0 {b:Bool}{x y:Prop}(h:b=false)(aA:y):bp b x y:=by subst h;exact aA
theorem hS {b:Bool}{x y:Prop}(af:b=true->x)(aA:b=false->y):bp b x y:=aqq.2 ⟨af,aA⟩
theorem b6 {p:Prop}[Decidable p]{x y:Prop}(af:p->x)(aA:¬p->y):bp (decide p) x y :=
 hS (λh=>af (atC h)) (λh=>aA (atW h))
theorem mw {p:Prop}[Decidable p]{x y:Prop}(af:¬p->x)(aA:p->y):bp (!decide p) x y :=
 hS (λh=>af (by simpa using h)) (λh=>aA (by simpa using h))
theorem iN {n:Int}(h0: -9223372036854775808<=n)(aa:n<=9223372036854775807):al n=n:=by
 rw[YS];unfold wrap64;omega
theorem bl {n:Int}(h0:-9223372036854775808<=n:=by omega)(aa:n<=9223372036854775807:=by omega):al n=n:=iN h0 aa
def bB (h ag:ai):Prop:=∀b,h b≠none->ag b=h b
theorem bB.refl (h:ai):bB h h:=λ_ _=>rfl
theorem bB.trans {aa ad aq:ai}(a:bB aa ad)(b:bB ad aq):bB aa aq:=λx af=>by
 rw[b x (by rw[a x af];exact af),a x af]
theorem bB.bD {h ag:ai}(a:bB h ag){b:Nat}(au:h b=none)(o:Obj):bB h (bD ag b o):=λx af=>by
 have:x≠b:=λe=>af (by rw[e];exact au);rw[cJ _ _ this,a x af]
theorem bB.free {h ag:ai}(a:bB h ag){b:Nat}(au:ag b=none):h b=none:=by
 cases e:h b with
 | none=>rfl
 | some o=>rw[a b (by rw[e];simp),e] at au;cases au
def db (D:Nat->Prop)(h ag:ai):Prop:=∀b,h b≠none->¬D b->ag b=h b
theorem db.refl (D:Nat->Prop)(h:ai):db D h h:=λ_ _ _=>rfl
theorem db.trans {D:Nat->Prop}{aa ad aq:ai}(a:db D aa ad)(b:db D ad aq):db D aa aq:=λx af bK=>by
 rw[b x (by rw[a x af bK];exact af) bK,a x af bK]
theorem bB.off {h ag:ai}(a:bB h ag)(D:Nat->Prop):db D h ag:=λx af _=>a x af
theorem p3 {h:ai}{b o:Nat}{v:Value}(e:bR h b o=some v):h b≠none:=by
 intro aH;unfold bR at e;rw[aH] at e;cases e
theorem B8 {h:ai}{b o:Nat}{c:Array Value}{t:TypeId}{f:Nat×Nat}(e:h b=some (.cells c t f)):bR h b o=c[o]?:=by
 unfold bR;rw[e]
theorem mF {h ag:ai}{b:Nat}(e:ag b=h b)(o:Nat):bR ag b o=bR h b o:=by
 unfold bR;rw[e]
variable {α:Type}
structure ey (f:α->Value)(h:ai)(s:an)(l:List α):Prop where
 len:s.len=l.length
 cap:s.len<=s.cap
 nil:s.q=none->s.cap=0
 rd:∀q,s.q=some q->∀i (hi:i<l.length),bR h q.b (q.o+i)=some (f l[i])
theorem ey.ptr {f:α->Value}{h:ai}{s:an}{l:List α}(r:ey f h s l)(aO:0<l.length):∃q,s.q=some q:=by
 cases e:s.q with
 | some q=>exact⟨q,rfl⟩
 | none=>have:=r.nil e;have:=r.cap;have:=r.len;omega
theorem ey.at {f:α->Value}{h:ai}{s:an}{l:List α}(r:ey f h s l){i:Nat}(hi:i<l.length):∃q,s.q=some q/\bR h q.b (q.o+i)=some (f l[i]):=by
 obtain⟨q,ah⟩:=r.ptr (by omega);exact⟨q,ah,r.rd q ah i hi⟩
theorem ey.move {f:α->Value}{h ag:ai}{s:an}{l:List α}(r:ey f h s l)(aR:∀q,s.q=some q->0<l.length->ag q.b=h q.b):ey f ag s l :=
 ⟨r.len,r.cap,r.nil,λq ah i hi=>by rw[mF (aR q ah (by omega))];exact r.rd q ah i hi⟩
theorem ey.bE {f:α->Value}{h ag:ai}{s:an}{l:List α}(r:ey f h s l)(k:bB h ag):ey f ag s l :=
 r.move λq ah aO=>k _ (p3 (r.rd q ah 0 aO))
theorem ey.there {f:α->Value}{h:ai}{s:an}{l:List α}(r:ey f h s l){q:aG}(ah:s.q=some q)(aO:0<l.length):h q.b≠none:=p3 (r.rd q ah 0 aO)
theorem ey.e9 (f:α->Value)(h:ai):ey f h ⟨none,0,0,none⟩ []:=⟨rfl,as_ _,λ_=>rfl,λ_ h=>by cases h⟩
theorem ey.e0 {f:α->Value}{h:ai}{s:an}{l:List α}(r:ey f h s l){i:Nat}(hi:i<l.length){K:aG->Prop}(ab:∀q,s.q=some q->bR h q.b (q.o+i*1)=some (f l[i])->K q) :
 ∃q,s.q=some q/\(0:Int)<=(i:Int)/\(i:Int)+1<=(s.len:Int)/\K q:=by
 obtain⟨q,ah,aT⟩:=r.at hi;exact⟨q,ah,by omega,by rw[r.len];omega,ab q ah (by rw[auw];exact aT)⟩
theorem Ef {f:α->Value}{h:ai}{b:Nat}{l:List α}{o:Nat}:fb h b o (l.map f)↔∀i (hi:i<l.length),bR h b (o+i)=some (f l[i]):=by
 rw[qh];constructor
 .intro H i hi
  have:=H i (by simpa using hi);simpa using this
 .intro H i hi
  have:=H i (by simpa using hi);simpa using this
theorem Pc {s:an}{n m c4 a b:Nat}{df:aG}(h:an.q ⟨fT s.p n m c4,a,b,hE s.z n m c4⟩=some df):(∃q,s.q=some q/\df.b=q.b)∨(m≠n/\n*c4≠0):=by
 obtain⟨p,k,c,z⟩:=s;by_cases aa:m=n∨n*c4=0
 .left;cases z with
  | some z=>simp[an.q,hE,aa] at h
  | none =>
   simp only[an.q,hE,aa,at2] at h;unfold fT at h;split at h
   .exact⟨df,h,rfl⟩
   .cases p with
    | none=>cases h
    | some q=>cases h;exact⟨q,rfl,rfl⟩
 .right;omega
theorem PB {s:an}{a b:Nat}(aT:s.q=none->s.cap=0){n:Nat}(aH:n<=s.cap){df:aG}(h:an.q ⟨fT s.p n s.cap 1,a,b,hE s.z n s.cap 1⟩=some df):∃q,s.q=some q/\df.b=q.b:=by
 rcases Pc h with aa|⟨aa,ad⟩
 .exact aa
 .cases e:s.q with
  | none=>have:=aT e;omega
  | some q =>
   refine⟨q,rfl,?_⟩;have aM:=an.A_ e;have bt:s.z=none:=by
    obtain⟨p,k,c,z⟩:=s;cases z with
    | some z=>cases e
    | none=>rfl
   simp only[an.q,hE,bt,ite_self,fT,aM] at h;rw[as7 aa] at h;cases h;rfl
theorem ey.drop {f:α->Value}{h:ai}{s:an}{l:List α}(r:ey f h s l){n:Nat}(aH:n<=l.length):ey f h ⟨fT s.p n s.cap 1,s.len-n,s.cap-n,hE s.z n s.cap 1⟩ (l.drop n):=by
 have hlen:=r.len;have sO:=r.cap;by_cases eg:s.cap=0
 .have aa:s.len=0:=by omega
  have ad:l=[]:=atM.1 (by omega);subst ad;exact⟨by simp[aa],by simp;omega,λ_=>by simp[eg],λq ah i hi=>by simp at hi⟩
 obtain⟨gW,N1⟩:∃q,s.q=some q:=by
  cases e:s.q with
  | none=>have:=r.nil e;omega
  | some q=>exact⟨q,rfl⟩
 have aM:=an.A_ N1;have bt:s.z=none:=by
  obtain⟨p,k,c,z⟩:=s;cases z with
  | some z=>cases N1
  | none=>rfl
 have ah:an.q ⟨fT s.p n s.cap 1,s.len-n,s.cap-n,hE s.z n s.cap 1⟩=if s.cap=n then some gW else some ⟨gW.b,gW.o+n*1⟩:=by
  simp only[an.q,hE,bt,ite_self,fT,aM,aua]
 refine⟨by simp[hlen],by simp;omega,λe=>?_,λq lQ i hi=>?_⟩
 .rw[ah] at e;split at e<;>cases e
 .have bN:i+n<l.length:=by simp at hi;omega
  rw[ah,cS] at lQ;cases lQ;have aT:=r.rd gW N1 (i+n) bN;simp only[List.getElem_drop];rw[show gW.o+n*1+i=gW.o+(i+n) by omega,aT];congr 2;simp[Nat.add_comm]
theorem ey.O9 {f:α->Value}{h:ai}{s:an}{l:List α}(r:ey f h s l){n:Nat}(aH:n<=l.length):ey f h ⟨fT s.p 0 s.cap 1,n-0,s.cap-0,hE s.z 0 s.cap 1⟩ (l.take n):=by
 have hlen:=r.len;have sO:=r.cap;have ah:an.q ⟨fT s.p 0 s.cap 1,n-0,s.cap-0,hE s.z 0 s.cap 1⟩=s.q:=by
  obtain⟨p,k,c,z⟩:=s;simp only[an.q,hE,fT,Nat.zero_mul,or_true,at2];cases z with
  | some z=>rfl
  | none =>
   simp only;split
   .rfl
   .cases p<;>rfl
 refine⟨by simp;omega,by simp;omega,λe=>?_,λq lQ i hi=>?_⟩
 .rw[ah] at e;have:=r.nil e;simp;exact this
 .rw[ah] at lQ;have bN:i<n/\i<l.length:=by simp at hi;omega
  rw[r.rd q lQ i bN.2];simp
structure b9 (f:α->Value)(h0 h:ai)(s:an)(l:List α):Prop where
 len:s.len=l.length
 cap:s.len<=s.cap
 own:(s.q=none/\s.cap=0)∨∃q c t,s.q=some q/\h0 q.b=none/\h q.b=dB c t/\q.o+s.cap<=c.size/\∀i (hi:i<l.length),c[q.o+i]? =some (f l[i])
theorem b9.rd {f:α->Value}{h0 h:ai}{s:an}{l:List α}(r:b9 f h0 h s l):ey f h s l:=by
 refine⟨r.len,r.cap,λaH=>?_,λq ah i hi=>?_⟩
 .rcases r.own with ⟨_,aa⟩|⟨q,c,t,aa,_⟩
  .exact aa
  .rw[aH] at aa;cases aa
 .rcases r.own with ⟨aa,_⟩|⟨df,c,t,aa,_,aq,_,aW⟩
  .rw[ah] at aa;cases aa
  .rw[ah] at aa;cases aa;rw[B8 aq];exact aW i hi
theorem b9.b_ {f:α->Value}{h0 h:ai}{s:an}{l:List α}(r:b9 f h0 h s l){q:aG}(ah:s.q=some q):h0 q.b=none/\h q.b≠none:=by
 rcases r.own with ⟨aa,_⟩|⟨df,c,t,aa,ad,aq,_⟩
 .rw[ah] at aa;cases aa
 .rw[ah] at aa;cases aa;exact⟨ad,by rw[aq];simp⟩
theorem b9.move {f:α->Value}{h0 h ag:ai}{s:an}{l:List α}(r:b9 f h0 h s l)(aR:∀q,s.q=some q->ag q.b=h q.b):b9 f h0 ag s l:=by
 refine⟨r.len,r.cap,?_⟩;rcases r.own with aa|⟨q,c,t,aa,ad,aq,aJ,aW⟩
 .exact .inl aa
 .exact .inr ⟨q,c,t,aa,ad,by rw[aR q aa];exact aq,aJ,aW⟩
theorem b9.e9 (f:α->Value)(h0 h:ai):b9 f h0 h ⟨none,0,0,none⟩ []:=⟨rfl,as_ _,.inl ⟨rfl,rfl⟩⟩
theorem b9.bE {f:α->Value}{h0 h ag:ai}{s:an}{l:List α}(r:b9 f h0 h s l)(k:bB h ag):b9 f h0 ag s l :=
 r.move λ_ ah=>k _ (r.b_ ah).2
theorem b9.new {f:α->Value}{h0 h:ai}{l:List α}{t:TypeId}{b:Nat}(au:h0 b=none)(n:Nat)(aH:n=l.length):b9 f h0 (bD h b (.cells (l.map f).toArray t (0,0))) ⟨some ⟨b,0⟩,n,n,none⟩ l:=by
 subst aH;exact⟨rfl,as_ _,.inr ⟨_,_,_,rfl,au,ea _ _ _,by simp,λi hi=>by simp[hi]⟩⟩
theorem Ee {v:Value}(n m:Nat)(hm:m=n):kx (if n=0 then #[] else #[v]) m=(List.replicate n v).toArray:=by
 subst hm;unfold kx;apply atG.1;apply aue
 .simp
 .intro i aa ad
  have:i<m:=by simpa using aa
  have h0:m≠0:=by omega
  simp[h0,Nat.mod_one]
theorem aqr (c:Array Value)(o:Nat)(v:Value):hg c o [v]=c.setIfInBounds o v:=rfl
theorem wo (c:Array Value)(o:Nat)(l:List Value)(i:Nat):(hg c o l)[i]? =if o<=i/\i<o+l.length/\i<c.size then l[i-o]? else c[i]?:=by
 induction l generalizing c o with
 | nil=>simp only[hg,avc,atQ];rw[cS]
 | cons v l c6 =>
  simp only[hg,c6,List.length_cons,Array.size_setIfInBounds,auh];by_cases aa:o+1<=i/\i<o+1+l.length/\i<c.size
  .rw[as8 aa,d_];rw[show i-o=(i-(o+1))+1 by omega];simp
  .rw[as7 aa];by_cases ad:o=i
   .subst ad;by_cases aq:o<c.size
    .simp[aq]
    .simp[aq]
   .simp only[ad,atS];rw[cS]
structure ti (P:Program)(T el:TypeId)(z:Value)(by_:Nat):Prop where
 A9:P.underlying T=some (.slice el)
 c4:iy P el=some 1
 N0:sE P el=some z
 bytes:(P.info? el).map (·.bytes)=some by_
 one:z.cells.size=1
theorem Y7 (z:Array Value)(n:Nat):(Builtin.zeroCells z n).size=n*z.size:=by simp[Builtin.zeroCells]
theorem b9.app {P:Program}{T el:TypeId}{z:Value}{by_:Nat}(rt:ti P T el z by_){f:α->Value}(one:∀x,(f x).oneCell'=true){h0 h:ai}{s y:an}{l m:List α}(r:b9 f h0 h s l)(iz:ey f h y m)
 (n3:∀b,h b=none->h0 b=none) (room:(l.length+m.length)*by_<=140737488355328) (jL:0<by_) {K:an->ai->Prop}
 (ab:∀cx ag,b9 f h0 ag cx (l++m)->(∀b,h b≠none->(∀q,s.q=some q->b≠q.b)->ag b=h b)->(∀df,cx.q=some df->(∃q,s.q=some q/\df.b=q.b)∨h df.b=none)->(∀b,ag b=none->h b=none)->K cx ag) :
 en P T s (.s y) h K:=by
 unfold en;rw[rt.A9];simp only[rt.c4,rt.N0,rt.bytes,qA];have aK:=r.rd;have nr:=iz.len;have jd:=r.len;refine⟨m.map f,by simp[nr],by simp only[atE];rintro v ⟨x,_,rfl⟩;exact one x,?_,?_⟩
 .cases e:y.q with
  | none=>have:=iz.nil e;have:=iz.cap;simp;exact atM.1 (by omega)
  | some q=>exact Ef.2 (iz.rd q e)
 cases aT:decide (s.len+y.len<=s.cap) with
 | true =>
  rw[aud];have k5:s.len+y.len<=s.cap:=atC aT;rcases r.own with ⟨aa,ad⟩|⟨q,c,t,aa,ad,aq,aJ,aW⟩
  .rw[aa];have hm:m=[]:=atM.1 (by omega);subst hm;refine⟨rfl,ab _ _ ⟨by simp[jd,nr],by simp;omega,.inl ⟨aa,ad⟩⟩ (λb _ _=>rfl) (λdf ek=>by have:=aa.symm.trans ek;cases this) (λb au=>au)⟩
  .rw[aa];refine⟨c,t,aq,by simp;omega,ab _ _ ⟨by simp[jd,nr],k5,.inr ⟨q,_,_,rfl,ad,ea _ _ _,by rw[yr];exact aJ,λi hi=>?_⟩⟩ (λb _ au=>cJ _ _ (au q aa)) (λdf ek=> .inl ⟨q,aa,by cases ek;rfl⟩) (λb au=>?_)⟩
   .have bN:i<l.length+m.length:=by simpa using hi
    simp only[wo,auw,ath];by_cases e:i<l.length
    .rw[cS,aW i e,List.getElem_append_left e]
    .rw[d_,List.getElem?_map,show q.o+i-(q.o+s.len)=i-l.length by omega,atc (by omega),List.getElem_append_right (by omega)];rfl
   .by_cases e:b=q.b
    .subst e;rw[ea] at au;cases au
    .rwa [cJ _ _ e] at au
 | false =>
  rw[auA];have k5:¬(s.len+y.len<=s.cap):=atW aT;have cR:=growslice_fits (need:=s.len+y.len) (old:=s.cap) (bytes:=by_) (by omega) (by rw[jd,nr];exact room);refine⟨cR,?_,?_⟩
  .have:s.len+y.len<=140737488355328:=by
    rw[jd,nr];exact au0 (Nat.le_mul_of_pos_right _ jL) room
   omega
  refine⟨l.map f,by simp[jd],by simp only[atE];rintro v ⟨x,_,rfl⟩;exact one x,?_,?_⟩
  .cases e:s.q with
   | none=>have:=aK.nil e;have:=aK.cap;simp;exact atM.1 (by omega)
   | some q=>exact Ef.2 (aK.rd q e)
  intro lV sH b au;refine ab _ _ ⟨by simp[jd,nr],sH,.inr ⟨⟨b,0⟩,_,_,rfl,n3 b au,ea _ _ _,?_,λi hi=>?_⟩⟩ (λx af _=>cJ _ _ (λe=>af (by rw[e];exact au))) (λdf ek=> .inr (by cases ek;exact au)) (λx af=>?_)
  .have aa:(l.map f).length+(m.map f).length<=lV:=by simp;omega
   simp only[Array.size_append,List.size_toArray,ath,Y7];rw[rt.one];omega
  .have bN:i<l.length+m.length:=by simpa using hi
   rw[au_ (by simp;omega)];by_cases e:i<l.length
   .rw[au_ (by simp;omega),List.getElem_append_left e];simp[e]
   .rw[Array.getElem?_append_right (by simp;omega),List.getElem_append_right (by omega)];simp;rw[atc (by omega)];exact⟨_,rfl,rfl⟩
  .by_cases e:x=b
   .subst e;exact au
   .rwa [cJ _ _ e] at af
theorem b9.push {P:Program}{T el:TypeId}{z:Value}{by_:Nat}(rt:ti P T el z by_){f:α->Value}(one:∀x,(f x).oneCell'=true){h0 h:ai}{s:an}{l:List α}(r:b9 f h0 h s l)(x:α){t:TypeId}
 (n3:∀b,h b=none->h0 b=none) (room:(l.length+1)*by_<=140737488355328) (jL:0<by_) {K:an->ai->Prop}
 (ab:∀cx ag,b9 f h0 ag cx (l++[x])->(∀b,h b≠none->(∀q,s.q=some q->b≠q.b)->ag b=h b)->(∀b,ag b=none->h b=none)->K cx ag) :
 bn h (.cells #[f x] t) λb ag=>en P T s (.s ⟨some ⟨b,0⟩,1,1,none⟩) ag K:=by
 intro b au;have aD:bB h (bD h b (.cells #[f x] t)):=(bB.refl h).bD au _;have y:ey f (bD h b (.cells #[f x] t)) ⟨some ⟨b,0⟩,1,1,none⟩ [x]:=(b9.new (f:=f) (h0:=h0) (l:=[x]) (n3 b au) 1 rfl).rd;refine b9.app rt one (r.bE aD) y (λc aT=>n3 c (aD.free aT)) (by simpa using room) jL ?_;intro cx ag o r9 _ fP;refine ab cx ag o (λc aT aR=>?_) (λc aT=>aD.free (fP c aT));rw[r9 c (by rw[aD c aT];exact aT) aR,aD c aT]
theorem b9.sU {P:Program}{T el:TypeId}{z:Value}{by_:Nat}(rt:ti P T el z by_){f:α->Value}(one:∀x,(f x).oneCell'=true){h0 h:ai}{s:an}{l:List α}(r:b9 f h0 h s l)(x:α){t:TypeId}
 (n3:∀b,h b=none->h0 b=none) (room:(l.length+1)*by_<=140737488355328) (jL:0<by_) {K:an->ai->Prop}
 (ab:∀cx ag,b9 f h0 ag cx (l++[x])->(∀b,h b≠none->(∀q,s.q=some q->b≠q.b)->ag b=h b)->(∀df,cx.q=some df->(∃q,s.q=some q/\df.b=q.b)∨h df.b=none)->(∀b,ag b=none->h b=none)->K cx ag) :
 bn h (.cells #[f x] t) λb ag=>en P T s (.s ⟨some ⟨b,0⟩,1,1,none⟩) ag K:=by
 intro b au;have aD:bB h (bD h b (.cells #[f x] t)):=(bB.refl h).bD au _;have y:ey f (bD h b (.cells #[f x] t)) ⟨some ⟨b,0⟩,1,1,none⟩ [x]:=(b9.new (f:=f) (h0:=h0) (l:=[x]) (n3 b au) 1 rfl).rd;refine b9.app rt one (r.bE aD) y (λc aT=>n3 c (aD.free aT)) (by simpa using room) jL ?_;intro cx ag o r9 hw fP;refine ab cx ag o (λc aT aR=>?_) (λdf ek=>(hw df ek).imp id λe=>aD.free e) (λc aT=>aD.free (fP c aT));rw[r9 c (by rw[aD c aT];exact aT) aR,aD c aT]
theorem b9.copy {P:Program}{T el:TypeId}{z:Value}{by_:Nat}(rt:ti P T el z by_){f:α->Value}(one:∀x,(f x).oneCell'=true){h:ai}{s:an}{l:List α}(r:ey f h s l){t:TypeId}
 (room:l.length*by_<=140737488355328) (jL:0<by_) {K:an->ai->Prop}
 (ab:∀cx ag,b9 f h ag cx l->bB h ag->K cx ag) :
 bn h (.cells #[] t) λb ag=>en P T ⟨some ⟨b,0⟩,0,0,none⟩ (.s s) ag K:=by
 intro b au;have aE:bB h (bD h b (.cells #[] t)):=(bB.refl h).bD au _;have zk:b9 f h (bD h b (.cells #[] t)) ⟨some ⟨b,0⟩,0,0,none⟩ []:=b9.new (l:=[]) au 0 rfl;refine b9.app rt one (l:=[]) zk (r.bE aE) (λx af=>aE.free af) (by simpa using room) jL ?_;intro cx ag o r9 _ _;refine ab cx ag (by simpa using o) λx af=>?_;rw[r9 x (by rw[aE x af];exact af) (λq ah e=>by cases ah;exact af (e▸au)),aE x af]

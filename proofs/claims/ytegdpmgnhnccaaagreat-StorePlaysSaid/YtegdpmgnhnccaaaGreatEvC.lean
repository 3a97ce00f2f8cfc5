import Derived.Test.YtegdpmgnhnccaaaGreatStoC
namespace Go.Proofs.Tryz
open Go Go.cQ Go.RowKit
set_option maxRecDepth 8000
structure dt where
 r:Int
 a:Int
 w:Bool
 deriving DecidableEq
def qJ (e:dt):List Value:=[U e.r,U e.a,.bool e.w]
theorem yC (e:dt):(qJ e).length=3:=rfl
theorem PC (e:dt):∀v∈qJ e,v.oneCell'=true:=by simp[qJ,Value.oneCell']
theorem PD:oX prog 59 145 3 (.agg #[U 0,U 0,.bool false]) 24:=⟨by kernel_rfl,by kernel_rfl,by kernel_rfl,by kernel_rfl,rfl⟩
def reads (hG:Int)(n:Nat):List dt:=(List.range n).map λ(i:Nat)=>⟨hG,(i:Int),false⟩
theorem Bo (hG:Int)(n:Nat):(reads hG n).length=n:=by simp[reads]
theorem PE (hG:Int)(n:Nat):reads hG (n+1)=reads hG n++[⟨hG,n,false⟩]:=by simp[reads,ato]
def writes (hG:Int)(n:Nat):List dt:=(List.range n).flatMap λ(i:Nat)=>[⟨hG,(i:Int),false⟩,⟨hG,(i:Int),true⟩]
theorem yD (hG:Int)(n:Nat):writes hG (n+1)=writes hG n++[⟨hG,n,false⟩,⟨hG,n,true⟩]:=by simp[writes,ato]
theorem rH (hG:Int)(n:Nat):(writes hG n).length=2*n:=by
 induction n with
 | zero=>rfl
 | succ n c6=>rw[yD,as9,c6];simp;omega
theorem wA {α:Type}{k:Nat}{f:α->List Value}{h0 h ag:ai}{s:an}{l:List α}(o:cI k f h0 h s l)(Bp:bB h0 h)(bf:∀b,h b≠none->(∀q,s.q=some q->b≠q.b)->ag b=h b):bB h0 ag:=λb au=>by
 rw[bf b (by rw[Bp b au];exact au) (λp aM e=>au (e▸(o.b_ aM).1)),Bp b au]
def eT (k leaf d:Nat):Nat:=2 ^ d-1+leaf/2 ^ (k-d)
theorem Ev {k leaf:Nat}(ab:k<=10)(aO:leaf<2 ^ k):eu prog 184 [U (2 ^ k),U leaf] (.bool true):=by
 intro h;refine abb _ _ ?_;unfold PF;refine(Eb ab).to λaa aE=>⟨_,rfl,eh rfl (eh (by simp) ⟨?_,aE⟩)⟩;have e:((2 ^ k:Nat):Int)=2 ^ k:=by simp
 rw[aud,pS]
theorem abc {k leaf d:Nat}(ab:k<=10)(aO:leaf<2 ^ k)(bK:d<=k):eu prog 185 [U (2 ^ k),U leaf,U d] (U (eT k leaf d)):=by
 intro h;refine abd _ _ _ ?_;unfold PG;refine(Ec ab).to λaa aE=>⟨_,rfl,?_⟩;refine(Ev ab aO).to λad az=>⟨_,rfl,b0 rfl (b0 (by simp) (b0 (by rw[bl];simp;omega) ?_))⟩;rw[bl (n:=(k:Int)-d)];refine⟨by omega,by omega,?_,aE.trans az⟩;have aC:min (d:Int).toNat 64=d:=by omega
 have a7:min ((k:Int)-d).toNat 64=k-d:=by omega
 have b2:(leaf:Int).fdiv (2 ^ (k-d))=((leaf/2 ^ (k-d):Nat):Int):=by
  have e:((2 ^ (k-d):Nat):Int)=2 ^ (k-d):=by simp
  rw[<-e,Int.fdiv_eq_ediv_of_nonneg _ (Int.natCast_nonneg _)];rfl
 have au:=kb (k:=d) (by omega);have gI:=kb ab;have b5:((2 ^ d:Nat):Int)=2 ^ d:=by simp
 have cD:((2 ^ k:Nat):Int)=2 ^ k:=by simp
 have hle:leaf/2 ^ (k-d)<=leaf:=auy _ _;rw[aC,a7,b2,Int.one_mul,bl (n:=2 ^ d),bl (n:=2 ^ d-1)];unfold eT;generalize leaf/2 ^ (k-d)=z at *;have:1<=2 ^ d:=at5 (by decide);rw[bl,show(2:Int) ^ d-1+(z:Int)=((2 ^ d-1+z:Nat):Int) by omega]
def lk (k leaf n:Nat):List Int:=(List.range n).map λd=>(eT k leaf d:Int)
theorem abe (k leaf n:Nat):lk k leaf (n+1)=lk k leaf n++[(eT k leaf n:Int)]:=by simp[lk,ato]
theorem rI (k leaf n:Nat):(lk k leaf n).length=n:=by simp[lk]
theorem qK {α:Type}{f:α->Value}{h0 h ag:ai}{s:an}{l:List α}(o:b9 f h0 h s l)(Bp:bB h0 h)(bf:∀b,h b≠none->(∀q,s.q=some q->b≠q.b)->ag b=h b):bB h0 ag:=λb au=>by
 rw[bf b (by rw[Bp b au];exact au) (λp aM e=>au (e▸(o.b_ aM).1)),Bp b au]
theorem abf {k leaf:Nat}(ab:k<=10)(aO:leaf<2 ^ k)(h:ai):aw 164 [U (2 ^ k),U leaf] h λv ag=>∃s,v=aU s/\b9 dg h ag s (lk k leaf (k+1))/\bB h ag:=by
 refine abg _ _ ?_;unfold PH;refine(Ev ab aO).to λaa aE=>⟨_,rfl,b0 rfl ?_⟩;refine(Ec ab).to λad az=>⟨_,rfl,?_⟩;rw[bl (n:=(k:Int)+1)];refine⟨λa b s l i aq m=>a=2 ^ k/\b=leaf/\l=(k:Int)+1/\∃j:Nat,i=j/\j<=k+1/\b9 dg h aq s (lk k leaf j)/\bB h aq/\m=k+1-j,⟨_,rfl,rfl,rfl,0,rfl,atx _,b9.e9 _ _ _,aE.trans az,rfl⟩,?_⟩;rintro a b s l i aq m ⟨rfl,rfl,rfl,j,rfl,aL,n8,aD,rfl⟩;refine b6 (λb1=>?_) λc3=>?_
 .refine(abc ab aO (show j<=k by omega)).to λaJ bc=>⟨_,rfl,?_⟩
  refine b9.push oU qD (n8.bE bc) (eT k leaf j:Int) (λb au=>aD.free (bc.free au)) (by rw[rI];omega) (by decide) ?_;intro cx aW cY f5 _;exact⟨_,by omega,rfl,rfl,rfl,j+1,bl,by omega,by rw[abe];exact cY,qK (n8.bE bc) (aD.trans bc) f5,rfl⟩
 .have:j=k+1:=by omega
  subst this;exact⟨_,rfl,n8,aD⟩
structure n9 where
 r:Int
 a:Int
def ll (x:n9):List Value:=[U x.r,U x.a]
theorem l9 (x:n9):(ll x).length=2:=rfl
theorem Ew (x:n9):∀v∈ll x,v.oneCell'=true:=by simp[ll,Value.oneCell']
theorem PI:oX prog 215 218 2 (.agg #[U 0,U 0]) 16:=⟨by kernel_rfl,by kernel_rfl,by kernel_rfl,by kernel_rfl,rfl⟩
def n_ (first:Int)(node:Nat)(s:Int)(n:Nat):List n9:=(List.range n).map λ(i:Nat)=>⟨first,(node:Int)*s+i⟩
theorem PJ (first:Int)(node:Nat)(s:Int)(n:Nat):n_ first node s (n+1)=n_ first node s n++[⟨first,(node:Int)*s+n⟩]:=by simp[n_,ato]
def oa (k:Nat)(s:Int)(first:Int)(leaf n:Nat):List n9:=(List.range n).flatMap λd=>n_ first (eT k leaf d) s s.toNat
theorem Ex (k:Nat)(s:Int)(first:Int)(leaf n:Nat):oa k s first leaf (n+1)=oa k s first leaf n++n_ first (eT k leaf n) s s.toNat:=by simp[oa,ato]
theorem Ey (k:Nat)(s:Int)(first:Int)(leaf n:Nat):(oa k s first leaf n).length=n*s.toNat:=by
 induction n with
 | zero=>simp[oa]
 | succ n c6=>rw[Ex,as9,c6];simp[n_,Nat.succ_mul]
def oY (first:Int)(n:Nat):List n9:=(List.range n).map λ(i:Nat)=>⟨first+1,(i:Int)⟩
theorem PK (first:Int)(n:Nat):oY first (n+1)=oY first n++[⟨first+1,n⟩]:=by simp[oY,ato]
def fV (k:Nat)(s t:Int)(first:Int)(leaf:Nat):List n9:=oa k s first leaf (k+1)++oY first t.toNat
theorem abh {k:Nat}{s t:Int}(o:kv k s t)(first:Int)(leaf:Nat):((fV k s t first leaf).length:Int)=ht k s t-1:=by
 have:=o.s;have:=o.t;rw[fV,as9,Ey];simp[oY,ht];obtain⟨cx,rfl⟩:=auU (show 0<=s by omega);simp;rw[Int.mul_comm];omega
theorem Iu {k leaf d:Nat}(ab:k<=10)(aO:leaf<2 ^ k)(bK:d<=k):eT k leaf d<=2047:=by
 unfold eT;have aa:2 ^ d<=2 ^ 10:=atg (by decide) (by omega);have ad:2 ^ k<=2 ^ 10:=atg (by decide) ab;have aq:leaf/2 ^ (k-d)<=leaf:=auy _ _;generalize leaf/2 ^ (k-d)=z at *;simp at aa ad;omega
theorem abi {k:Nat}{s t:Int}(o:kv k s t)(first:Int)(bf:0<=first/\first<=1000){leaf:Nat}(aO:leaf<2 ^ k)(h:ai) :
 aw 136 [.agg #[U (2 ^ k),U s,U t],U first,U leaf] h λv ag=>∃x,v=aU x/\cI 2 ll h ag x (fV k s t first leaf)/\bB h ag:=by
 have aR:=o.s;have bz:=o.t;have ab:=o.k;refine abj _ _ _ _ _ ?_;unfold PL;refine bL λaj aa f1 aC aE=>fh aC rfl ?_;refine(abf o.k aO aa).mono ?_;rintro _ ad ⟨s1,rfl,cB,az⟩;have ev:=cB.rd;have g_:=ev.len;rw[rI] at g_;refine⟨_,rfl,λa q x y l i aq m=>first=a/\q=⟨aj,0⟩/\s1=y/\l=s1.len/\∃j:Nat,i=j/\j<=k+1/\cI 2 ll ad aq x (oa k s first leaf j)/\bB ad aq/\m=k+1-j,⟨_,rfl,rfl,rfl,rfl,0,rfl,atx _,cI.e9 _ _ _ _,bB.refl _,rfl⟩,?_⟩;rintro a q x y l i aq m ⟨rfl,rfl,rfl,rfl,j,rfl,aL,n8,aD,rfl⟩;have b2:=(az.trans aD).get aC;refine b6 (λb1=>?_) λc3=>?_
 .have lg:j<(lk k leaf (k+1)).length:=by rw[rI];omega
  have cR:(lk k leaf (k+1))[j]=(eT k leaf j:Int):=by simp[lk]
  have yE:=Iu ab aO (show j<=k by omega);refine(ev.bE aD).e0 lg λp _ aT=>⟨eT k leaf j,by rw[<-cR];exact aT,fh b2 rfl ?_⟩;refine⟨λa q x hk y l i n v aJ m=>first=a/\q=⟨aj,0⟩/\hk=eT k leaf j/\s1=y/\l=s1.len/\i=j/\s=n/\∃u:Nat,v=u/\u<=s.toNat/\cI 2 ll ad aJ x (oa k s first leaf j++n_ first (eT k leaf j) s u)/\bB ad aJ/\m=s.toNat-u,
   ⟨_,rfl,rfl,rfl,rfl,rfl,rfl,rfl,0,rfl,atx _,by simpa [n_] using n8,aD,rfl⟩,?_⟩
  rintro a q x hk y l i n v aJ m ⟨rfl,rfl,rfl,rfl,rfl,rfl,rfl,u,rfl,hu,nA,bc,rfl⟩;refine b6 (λlF=>?_) λyF=>?_
  .refine fh ((az.trans bc).get aC) rfl ?_;have hm:(0:Int)<=(eT k leaf j:Int)*s/\(eT k leaf j:Int)*s<=2047*8:=PM (by omega) (by omega) (by omega) (by omega);rw[bl (n:=(eT k leaf j:Int)*s),bl (n:=(eT k leaf j:Int)*s+(u:Int))];refine cI.push PI l9 Ew nA [⟨first,(eT k leaf j:Int)*s+u⟩] rfl rfl (λb au=>bc.free au) (by
    have:j*s.toNat<=11*8:=atI (by omega) (by omega);rw[as9,Ey];simp[n_];omega) (by decide) ?_
   intro cx aW cY f5 _ _;exact⟨_,by omega,rfl,rfl,rfl,rfl,rfl,rfl,rfl,u+1,bl,by omega,by rw[PJ,<-atr];exact cY,wA nA bc f5,rfl⟩
  .have:u=s.toNat:=by omega
   subst this;exact⟨_,by omega,rfl,rfl,rfl,rfl,j+1,bl,by omega,by rw[Ex];exact nA,bc,rfl⟩
 .have:j=k+1:=by omega
  subst this;refine fh b2 rfl ?_;refine⟨λa x n i aJ m=>first=a/\t=n/\∃u:Nat,i=u/\u<=t.toNat/\cI 2 ll ad aJ x (oa k s first leaf (k+1)++oY first u)/\bB ad aJ/\m=t.toNat-u,⟨_,rfl,rfl,0,rfl,atx _,by simpa [oY] using n8,aD,rfl⟩,?_⟩;rintro a x n i aJ m ⟨rfl,rfl,u,rfl,hu,nA,bc,rfl⟩;refine b6 (λlF=>?_) λyF=>?_
  .rw[bl (n:=first+1)];refine cI.push PI l9 Ew nA [⟨first+1,u⟩] rfl rfl (λb au=>bc.free au) (by
    have:(k+1)*s.toNat<=11*8:=atI (by omega) (by omega);rw[as9,Ey];simp[oY];omega) (by decide) ?_
   intro cx aW cY f5 _ _;exact⟨_,by omega,rfl,rfl,u+1,bl,by omega,by rw[PK,<-atr];exact cY,wA nA bc f5,rfl⟩
  .have:u=t.toNat:=by omega
   subst this;exact⟨_,rfl,nA.Iv (aE.trans az),(aE.trans az).trans bc⟩
end Go.Proofs.Tryz
namespace Go.Proofs.Tryz
open Go Go.cQ Go.RowKit
set_option maxRecDepth 8000
abbrev kf:ai:=λ_=>none
def cn (F:Nat->Prop)(h:ai)(dS:Nat->Prop)(ag:ai):Prop:=(∀b,dS b->F b∨h b=none)/\(∀b,h b≠none->¬F b->ag b=h b)/\(∀b,ag b=none->h b=none)
theorem cn.refl (F:Nat->Prop)(h:ai):cn F h F h:=⟨λ_ h=> .inl h,λ_ _ _=>rfl,λ_ h=>h⟩
theorem cn.out {F dS:Nat->Prop}{h ag:ai}(m:cn F h dS ag){b:Nat}(au:h b≠none)(aH:¬F b):¬dS b:=λbf=>by
 rcases m.1 b bf with h|h
 .exact aH h
 .exact au h
theorem cn.trans {F dS PN:Nat->Prop}{h ag gp:ai}(m:cn F h dS ag)(l_:cn dS ag PN gp):cn F h PN gp:=by
 refine⟨λb au=>?_,λb au aH=>?_,λb au=>m.2.2 b (l_.2.2 b au)⟩
 .rcases l_.1 b au with h|h
  .exact m.1 b h
  .exact .inr (m.2.2 b h)
 .rw[l_.2.1 b (by rw[m.2.1 b au aH];exact au) (m.out au aH),m.2.1 b au aH]
theorem iC {h ag:ai}(k:bB h ag)(F:Nat->Prop):cn F h F ag:=⟨λ_ h=> .inl h,λb au _=>k b au,λ_ au=>k.free au⟩
theorem cn.get {F dS:Nat->Prop}{h ag:ai}(m:cn F h dS ag){b:Nat}{o:Obj}(e:h b=some o)(aH:¬F b):ag b=some o:=by rw[m.2.1 b (by rw[e];simp) aH,e]
theorem cn.bE {F dS:Nat->Prop}{h0 h ag:ai}(m:cn F h dS ag)(k:bB h0 h)(jZ:∀b,F b->h0 b=none):bB h0 ag/\∀b,dS b->h0 b=none:=by
 refine⟨λb au=>?_,λb au=>?_⟩
 .rw[m.2.1 b (by rw[k b au];exact au) (λh=>au (jZ b h)),k b au]
 .rcases m.1 b au with h|h
  .exact jZ b h
  .exact k.free h
theorem abk {α:Type}{k:Nat}{f:α->List Value}{h0 h:ai}{s:an}{l:List α}(o:cI k f kf h s l)(aR:∀p,s.q=some p->h0 p.b=none):cI k f h0 h s l:=by
 refine⟨o.len,o.cap,?_⟩;rcases o.own with aa|⟨q,c,t,aa,ad,aq,aJ,aW⟩
 .exact .inl aa
 .exact .inr ⟨q,c,t,aa,aR q aa,aq,aJ,aW⟩
def kg (b:Nat)(s:an):Nat->Prop:=λx=>x=b∨∃p,s.q=some p/\x=p.b
structure ju {α:Type}(k:Nat)(f:α->List Value)(T:TypeId)(h:ai)(b:Nat)(s:an)(l:List α):Prop where
 cell:h b=some (.cells #[aU s] T (0,0))
 own:cI k f kf h s l
 ne:∀p,s.q=some p->p.b≠b
theorem ju.dv {α:Type}{k:Nat}{f:α->List Value}{T:TypeId}{h:ai}{b:Nat}{s:an}{l:List α}(B:ju k f T h b s l){x:Nat}(af:kg b s x):h x≠none:=by
 rcases af with rfl|⟨p,aM,rfl⟩
 .rw[B.cell];simp
 .exact(B.own.b_ aM).2
theorem ju.move {α:Type}{k:Nat}{f:α->List Value}{T:TypeId}{h ag:ai}{b:Nat}{s:an}{l:List α}(B:ju k f T h b s l)(aR:∀x,kg b s x->ag x=h x):ju k f T ag b s l :=
 ⟨by rw[aR b (.inl rfl)];exact B.cell,B.own.move λp aM=>aR _ (.inr ⟨p,aM,rfl⟩),B.ne⟩
theorem ju.bE {α:Type}{k:Nat}{f:α->List Value}{T:TypeId}{h ag:ai}{b:Nat}{s:an}{l:List α}(B:ju k f T h b s l)(c:bB h ag):ju k f T ag b s l:=B.move λ_ af=>c _ (B.dv af)
theorem ju.cells {α:Type}{k:Nat}{f:α->List Value}{T:TypeId}{h:ai}{b:Nat}{s:an}{l:List α}(B:ju k f T h b s l){x:Nat}(af:kg b s x):∃c t PO,h x=some (.cells c t PO):=by
 rcases af with rfl|⟨p,aM,rfl⟩
 .exact⟨_,_,_,B.cell⟩
 .rcases B.own.own with ⟨aH,_⟩|⟨q,c,t,ah,_,aT,_,_⟩
  .rw[aH] at aM;cases aM
  .rw[ah] at aM;cases aM;exact⟨_,_,_,aT⟩
theorem ju.app {α:Type}{P:Program}{Bq el:TypeId}{k:Nat}{z:Value}{by_:Nat}(rt:oX P Bq el k z by_){f:α->List Value}(bf:∀x,(f x).length=k)(one:∀x,∀v∈f x,v.oneCell'=true){T:TypeId}{h:ai}{b:Nat}{s y:an}{l m:List α}
 (B:ju k f T h b s l) (iz:fi f h y m) (room:(l.length+m.length)*by_<=140737488355328) (jL:0<by_) {K:ai->Prop}
 (ab:∀cx ag,ju k f T ag b cx (l++m)->cn (kg b s) h (kg b cx) ag->K ag):en P Bq s (.s y) h λs2 ad=>a1 ad ⟨b,0⟩ [aU s2] K:=by
 refine cI.app rt bf one B.own iz (λ_ _=>rfl) room jL ?_;intro cx ad cU f2 iO Br;have j0:h b≠none:=by rw[B.cell];simp
 have gI:ad b=h b:=f2 b j0 λq ah e=>B.ne q ah e.symm;have ne':∀p,cx.q=some p->p.b≠b:=λp aM e=>by
  rcases iO p aM with ⟨q,ah,h⟩|h
  .exact B.ne q ah (h▸e)
  .rw[e] at h;exact j0 h
 refine⟨_,_,by rw[gI];exact B.cell,by simp,ab cx _ ⟨by rw[ea];rfl,cU.move λp aM=>cJ _ _ (ne' p aM),ne'⟩ ⟨?_,?_,?_⟩⟩
 .rintro x (rfl|⟨p,aM,rfl⟩)
  .exact .inl (.inl rfl)
  .rcases iO p aM with ⟨q,ah,h⟩|h
   .exact .inl (.inr ⟨q,ah,h⟩)
   .exact .inr h
 .intro x af aH
  have abl:x≠b:=λe=>aH (.inl e);rw[cJ _ _ abl,f2 x af λq ah e=>aH (.inr ⟨q,ah,e⟩)]
 .intro x af
  by_cases e:x=b
  .rw[e,ea] at af;cases af
  .rw[cJ _ _ e] at af;exact Br x af
theorem ju.push {α:Type}{P:Program}{Bq el:TypeId}{k:Nat}{z:Value}{by_:Nat}(rt:oX P Bq el (k+1) z by_){f:α->List Value}(bf:∀x,(f x).length=k+1)(one:∀x,∀v∈f x,v.oneCell'=true){T:TypeId}{h:ai}{b:Nat}{s:an}{l:List α}
 (B:ju (k+1) f T h b s l) (m:List α) {t:TypeId} {c:Array Value} (aT:c=(m.flatMap f).toArray) {n:Nat} (aH:n=m.length) (room:(l.length+m.length)*by_<=140737488355328) (jL:0<by_) {K:ai->Prop}
 (ab:∀cx ag,ju (k+1) f T ag b cx (l++m)->cn (kg b s) h (kg b cx) ag->K ag):bn h (.cells c t) λaj aa=>en P Bq s (.s ⟨some ⟨aj,0⟩,n,n,none⟩) aa λs2 ad=>a1 ad ⟨b,0⟩ [aU s2] K :=
 bL λaj aa f1 aC aE=>ju.app rt bf one (B.bE aE) (cI.nu (k:=k+1) bf (h0:=h) f1 aC aT aH).rd room jL λcx ag yG l_=>ab cx ag yG ((iC aE _).trans l_)
structure Iw {α:Type}(y:Value)(abm:α->Value)(S:List α->(Nat->Prop)->ai->Prop)(N:Nat):Prop where
 put:∀l F h x,S l F h->l.length<N->fo prog y [abm x] h λv ag=>v= .bool true/\∃dS,S (l++[x]) dS ag/\cn F h dS ag
 bE:∀l F h ag,S l F h->(∀b,F b->ag b=h b)->S l F ag
 dv:∀l F h b,S l F h->F b->h b≠none
 one:y.oneCell'=true
structure mE where
 i:Int
 j:Int
 up:Bool
def hH (e:mE):List Value:=[U e.i,U e.j,.bool e.up]
theorem Ez (e:mE):(hH e).length=3:=rfl
theorem PQ (e:mE):∀v∈hH e,v.oneCell'=true:=by simp[hH,Value.oneCell']
theorem abn:oX prog 258 261 3 (.agg #[U 0,U 0,.bool false]) 24:=⟨by kernel_rfl,by kernel_rfl,by kernel_rfl,by kernel_rfl,rfl⟩
theorem abo {g:FuncId}{caps:List Value}{L:List mE}{h:ai}(fp:L.length<=1000000000000)
 (abp:∀(y:Value) (S:List mE->(Nat->Prop)->ai->Prop),Iw y (λx=> .agg (hH x).toArray) S 1000000000000->∀F aa,bB h aa->S [] F aa->(∀b,F b->h b=none)->aw g (y::caps) aa λ_ ad=>∃dS,S L dS ad/\cn F aa dS ad) :
 aw 187 [.func (.func g) #[] caps.toArray] h λv ag=>∃s,v=aU s/\cI 3 hH h ag s L/\bB h ag:=by
 refine abq _ ?_;unfold PR;have key:aw 203 [aU ⟨none,0,0,none⟩,.func (.func g) #[] caps.toArray] h λv ag=>∃s,v=aU s/\cI 3 hH h ag s L/\bB h ag:=by
  refine abr ⟨none,0,0,none⟩ _ ?_;unfold PS;refine bL λaj aa f1 aC aE=>⟨trivial,λz k ab aK=>?_⟩;have abt:k≠aj:=λe=>by rw[e,aC] at ab;cases ab
  have yH:aj≠k:=λe=>abt e.symm;have sY:bB aa (bD aa k (eS z)):=(bB.refl aa).bD ab _;have l6:h k=none:=aE.free ab;let S:List mE->(Nat->Prop)->ai->Prop:=λl F ag=>ag k=some (eS z)/\∃s,ju 3 hH 258 ag aj s l/\F=(λx=>x=k∨kg aj s x);have PT:∀ {ag:ai} {s:an} {l:List mE} {o:Loop},ju 3 hH 258 ag aj s l->ag k=some (.loop o)->¬kg aj s k:=λB e af=>by
   obtain⟨c,t,PO,h⟩:=B.cells af;rw[e] at h;cases h
  have sink:Iw (lG k) (λx=> .agg (hH x).toArray) S 1000000000000:=by
   refine⟨?_,?_,?_,rfl⟩
   .rintro l F ad x ⟨bt,s,qL,rfl⟩ aO;obtain⟨ax,ay,t1⟩:=x;refine⟨rfl,rfl,aK ax ay t1 ad _ bt ?_⟩;refine bL λaB aq f3 b2 aD=>kC aD f3 b2 rfl λaJ bc b5 _=>⟨bc.get bt,?_⟩;have Ix:¬kg aj s k:=PT qL bt;have cD:bD aJ k (et z) aj=some (.cells #[aU s] 258 (0,0)):=by rw[cJ _ _ yH];exact bc.get qL.cell
    have abu:aB≠k:=λe=>by rw[e,bt] at f3;cases f3
    have dK:bD aJ k (et z) aB=some (.cells #[U ax,U ay,.bool t1] 261 (0,0)):=by rw[cJ _ _ abu];exact b5
    have abv:ju 3 hH 258 (bD aJ k (et z)) aj s l:=(qL.bE bc).move λx af=>cJ _ _ λe=>Ix (e▸af);refine⟨s,aF cD rfl,ax,aF dK rfl,ay,aF dK rfl,t1,aF dK rfl,ju.push abn Ez PQ abv [⟨ax,ay,t1⟩] rfl rfl (by simp;omega) (by decide) λcx bd abw Bs=>?_⟩;have abx:bd k=some (et z):=Bs.get (ea _ _ _) Ix;have aby:¬kg aj cx k:=Bs.out (by rw[ea];simp) Ix;refine⟨abx,rfl,_,⟨ea _ _ _,cx,abw.move λx af=>cJ _ _ (λe=>aby (e▸af)),rfl⟩,?_,?_,?_⟩
    .rintro x (rfl|af)
     .exact .inl (.inl rfl)
     .rcases Bs.1 x af with h|h
      .exact .inl (.inr h)
      .by_cases rJ:x=k
       .exact .inl (.inl rJ)
       .rw[cJ _ _ rJ] at h;exact .inr (bc.free h)
    .intro x af aH
     have rJ:x≠k:=λe=>aH (.inl e);have PU:bD aJ k (et z) x=ad x:=by rw[cJ _ _ rJ,bc x af]
     rw[cJ _ _ rJ,Bs.2.1 x (by rw[PU];exact af) (λjZ=>aH (.inr jZ)),PU]
    .intro x af
     have rJ:x≠k:=λe=>by rw[e,ea] at af;cases af
     rw[cJ _ _ rJ] at af;have PV:=Bs.2.2 x af;rw[cJ _ _ rJ] at PV;exact bc.free PV
   .rintro l F ad aq ⟨bt,s,qL,rfl⟩ jZ;exact⟨by rw[jZ k (.inl rfl)];exact bt,s,qL.move λx af=>jZ x (.inr af),rfl⟩
   .rintro l F ad b ⟨bt,s,qL,rfl⟩ (rfl|au)
    .rw[bt];simp
    .exact qL.dv au
  have ia:S [] (λx=>x=k∨kg aj ⟨none,0,0,none⟩ x) (bD aa k (eS z)) :=
   ⟨ea _ _ _,_,⟨by rw[cJ _ _ yH];exact aC,cI.e9 _ _ _ _,λp aM=>by cases aM⟩,rfl⟩
  have f0:∀b,(b=k∨kg aj ⟨none,0,0,none⟩ b)->h b=none:=by
   rintro b (rfl|rfl|⟨p,aM,_⟩)
   .exact l6
   .exact f1
   .cases aM
  refine⟨rfl,?_⟩;refine(abp (lG k) S sink _ _ (aE.trans sY) ia f0).mono ?_;rintro _ ad ⟨dS,⟨bt,s,qL,rfl⟩,m⟩;obtain⟨bI,abz⟩:=m.bE (aE.trans sY) f0;have abA:=PT qL bt;refine⟨bt,s,aF (by rw[cJ _ _ yH];exact qL.cell) rfl,s,rfl,?_,bI.bD l6 _⟩;exact abk (qL.own.move λp aM=>cJ _ _ λe=>abA (.inr ⟨p,aM,e.symm⟩)) λp aM=>abz _ (.inr (.inr ⟨p,aM,rfl⟩))
 refine key.mono ?_;rintro _ aa ⟨s,rfl,o,k⟩;exact⟨_,rfl,_,rfl,o,k⟩
end Go.Proofs.Tryz
namespace Go.Proofs.Tryz
open Go Go.cQ Go.RowKit
set_option maxRecDepth 8000
def j1 (n:Int):Nat:=if n<1 then 0 else min (Lib.bitLen (n-1).toNat) 62
theorem Iy (n:Int):l2 n=2 ^ j1 n:=by unfold l2 j1;split<;>rfl
theorem PW {n:Int}{k:Nat}(ab:k<=62)(h:n<=2 ^ k):j1 n<=k:=by
 unfold j1;split
 .omega
 .have ch:((2 ^ k:Nat):Int)=2 ^ k:=by simp
  have:=Lib.bitLen_le (n-1).toNat k (by omega) (by omega);omega
theorem Bt (j:Nat):(2:Int)*2 ^ j=2 ^ (j+1):=by rw[Int.pow_succ];omega
theorem PX {i b:Nat}(hi:i<2 ^ 63)(au:b<63):oQ .and .i64 (i:Int) ((2:Int) ^ b)=((i &&& 2 ^ b:Nat):Int):=by
 have e:((2:Int) ^ b)=((2 ^ b:Nat):Int):=by simp
 have aa:2 ^ b<2 ^ 64:=Nat.pow_lt_pow_right (by decide) (by omega);rw[e];show(((BitVec.ofInt 64 (i:Int) &&& BitVec.ofInt 64 ((2 ^ b:Nat):Int)).toNat:Nat):Int)=_;rw[BitVec.toNat_and,au4,au4,avf,avf,aun (by omega),aun aa]
theorem abB {i b:Nat}(hi:i<2 ^ 63)(au:b<63):oQ .or .i64 (i:Int) ((2:Int) ^ b)=((i ||| 2 ^ b:Nat):Int):=by
 have e:((2:Int) ^ b)=((2 ^ b:Nat):Int):=by simp
 have aa:2 ^ b<2 ^ 64:=Nat.pow_lt_pow_right (by decide) (by omega);rw[e];show(((BitVec.ofInt 64 (i:Int) ||| BitVec.ofInt 64 ((2 ^ b:Nat):Int)).toNat:Nat):Int)=_;rw[BitVec.toNat_or,au4,au4,avf,avf,aun (by omega),aun aa]
theorem PY:∀i:Fin 1024,∀b:Fin 11,decide (i.val &&& 2 ^ b.val=0)=decide (i.val/2 ^ b.val%2=0):=by decide +kernel
theorem abC:∀i:Fin 1024,∀b:Fin 10,i.val/2 ^ b.val%2=0->i.val ||| 2 ^ b.val=i.val+2 ^ b.val:=by decide +kernel
theorem PZ (i b:Nat):i &&& 2 ^ b<=i:=Nat.and_le_left
def ma (k j n:Nat):List mE:=((List.range n).filter λi=>decide (i/j%2=0)).map λ(i:Nat)=>(⟨(i:Int),((i+j:Nat):Int),decide (i/k%2=0)⟩:mE)
theorem EA (k j n:Nat):ma k j (n+1)=ma k j n++(if n/j%2=0 then [(⟨(n:Int),((n+j:Nat):Int),decide (n/k%2=0)⟩:mE)] else []):=by
 unfold ma;rw[ato,auY,atD];congr 1;by_cases h:n/j%2=0<;>simp[h]
theorem Iz (k j n:Nat):(ma k j n).length<=n:=by
 unfold ma;rw[ath];exact au0 (auq _ _) (by simp)
def p2 (n a:Nat):Nat->List mE
 | 0=>[]
 | b+1=>ma (2 ^ (a+1)) (2 ^ b) n++p2 n a b
theorem abD (n a b:Nat):(p2 n a b).length<=b*n:=by
 induction b with
 | zero=>simp[p2]
 | succ b c6=>simp only[p2,as9];have:=Iz (2 ^ (a+1)) (2 ^ b) n;rw[Nat.succ_mul];omega
def gU (n a:Nat):List mE:=(List.range a).flatMap λa=>p2 n a (a+1)
theorem EB (n a:Nat):gU n (a+1)=gU n a++p2 n a (a+1):=by simp[gU,ato]
theorem IA (n a:Nat):(gU n a).length<=a*a*n:=by
 induction a with
 | zero=>simp[gU]
 | succ a c6 =>
  rw[EB,as9];have aa:=abD n a (a+1);have ad:(a+1)*(a+1)*n=a*a*n+a*n+(a+1)*n:=by
   have e:(a+1)*(a+1)=a*a+a+(a+1):=by rw[Nat.mul_add,aul];omega
   rw[e,aul,aul]
  omega
def fX (K:Nat):List mE:=gU (2 ^ K) K
theorem Bu {K:Nat}(fr:K<=10):(fX K).length<=102400:=by
 have aa:=IA (2 ^ K) K;have ad:2 ^ K<=2 ^ 10:=atg (by decide) fr;have aq:K*K<=10*10:=atI fr fr;have aJ:K*K*2 ^ K<=100*1024:=atI aq ad;unfold fX;omega
def bH (c:Nat):Int:=if c=0 then 0 else 2 ^ (c-1)
theorem Bv (c:Nat):bH (c+1)=2 ^ c:=by simp[bH]
theorem EC {c:Nat}(aT:c<=10):al (((2:Int) ^ c).tdiv 2)=bH c:=by
 cases c with
 | zero=>rw[show((2:Int) ^ 0).tdiv 2=0 from rfl,bl];rfl
 | succ c =>
  have au:=kb (k:=c) (by omega);rw[Bv,<-Bt];have:(2*(2:Int) ^ c).tdiv 2=2 ^ c:=by rw[Int.tdiv_eq_ediv_of_nonneg (by omega)];omega
  rw[this,bl]
theorem abE {K:Nat}(fr:K<=10){y:Value}{S:List mE->(Nat->Prop)->ai->Prop}(IB:Iw y (λx=> .agg (hH x).toArray) S 1000000000000){F:Nat->Prop}{h:ai}{b:Nat}
 (ia:S [] F h) (aT:bR h b 0=some (U (2 ^ K))) (au:¬F b) :
 aw 204 [y,bu ⟨b,0⟩] h λ_ ad=>∃dS,S (fX K) dS ad/\cn F h dS ad:=by
 have aH:h b≠none:=p3 aT;have cell:∀ {dS ag},cn F h dS ag->bR ag b 0=some (U (2 ^ K))/\¬dS b:=λm=>⟨by rw[mF (m.2.1 b aH au),aT],m.out aH au⟩;have abF:=kb fr;have IC:2 ^ K<=1024:=atg (n:=2) (by decide) fr;have P0:((2 ^ K:Nat):Int)=2 ^ K:=by simp
 refine abG y ⟨b,0⟩ ?_;unfold P1;refine⟨λv q n aa m=>v=y/\q=⟨b,0⟩/\∃a:Nat,n=2 ^ (a+1)/\a<=K/\(∃dS,S (gU (2 ^ K) a) dS aa/\cn F h dS aa)/\m=K-a,⟨_,rfl,rfl,0,rfl,atx _,⟨F,ia,cn.refl _ _⟩,rfl⟩,?_⟩;rintro v q n aa m ⟨rfl,rfl,a,Bw,bV,⟨wB,s1,mG⟩,rfl⟩;refine⟨_,(cell mG).1,b6 (λhle=>?_) λBx=>?_⟩
 .have By:a<K:=by
   rcases atF a K with h|h
   .exact h
   .have:a=K:=by omega
    subst this;rw[<-Bt] at Bw;omega
  have abH:=kb (k:=a+1) (by omega);have arK:=kb (k:=a) (by omega);rw[Bw,EC (c:=a+1) (by omega)];refine⟨by decide,λv2 aP ay j ad m=>v2=v/\aP=⟨b,0⟩/\ay=2 ^ (a+1)/\∃c:Nat,j=bH c/\c<=a+1/\(∃dS l,S l dS ad/\cn F h dS ad/\l++p2 (2 ^ K) a c=gU (2 ^ K) (a+1))/\c=m,
   ⟨_,rfl,rfl,rfl,a+1,rfl,as_ _,⟨wB,_,s1,mG,(EB _ _).symm⟩,rfl⟩,?_⟩
  rintro v2 aP ay j ad m ⟨rfl,rfl,yI,c,aL,abI,⟨wC,l,s2,m6,aO⟩,rfl⟩;refine b6 (λpY=>?_) λID=>?_
  .cases c with
   | zero=>rw[aL] at pY;simp[bH] at pY
   | succ c =>
    rw[Bv] at aL;have abJ:=kb (k:=c) (by omega);refine⟨_,(cell m6).1,?_⟩;refine⟨λv3 bs bx bh bo i aq m=>v3=v2/\bs=⟨b,0⟩/\bx=2 ^ (a+1)/\bh=2 ^ c/\bo=2 ^ K/\∃u:Nat,i=u/\u<=2 ^ K/\(∃dS,S (l++ma (2 ^ (a+1)) (2 ^ c) u) dS aq/\cn F h dS aq)/\m=2 ^ K-u,
     ⟨_,rfl,rfl,yI,aL,rfl,0,rfl,atx _,⟨wC,by simpa [ma] using s2,m6⟩,rfl⟩,?_⟩
    rintro v3 bs bx bh bo i aq m ⟨rfl,rfl,P2,Bz,ED,u,rfl,hu,⟨oZ,bj,rK⟩,rfl⟩;refine b6 (λb1=>?_) λc3=>?_
    .have BA:u<2 ^ K:=by omega
     have IE:u<2 ^ 63:=by omega
     have wD:=PX (i:=u) (b:=c) IE (by omega);have hU:=PX (i:=u) (b:=a+1) IE (by omega);have rL:=abB (i:=u) (b:=c) IE (by omega);have aau:=PZ u c;have aV:=PZ u (a+1);have d1:=PY ⟨u,by omega⟩ ⟨c,by omega⟩;have d2:=PY ⟨u,by omega⟩ ⟨a+1,by omega⟩;simp only at d1 d2;rw[P2,Bz,wD,hU,rL,iN (n:=((u &&& 2 ^ c:Nat):Int)) (by omega) (by omega),iN (n:=((u &&& 2 ^ (a+1):Nat):Int)) (by omega) (by omega)];have rM:∀ {aJ rN},S (l++ma (2 ^ (a+1)) (2 ^ c) (u+1)) rN aJ->cn F h rN aJ->∃aD,aD<2 ^ K-u/\v3=v3/\(⟨b,0⟩:aG)=⟨b,0⟩/\(2:Int) ^ (a+1)=2 ^ (a+1)/\(2:Int) ^ c=2 ^ c/\bo=2 ^ K/\∃sZ:Nat,al ((u:Int)+1)=sZ/\sZ<=2 ^ K/\(∃dS,S (l++ma (2 ^ (a+1)) (2 ^ c) sZ) dS aJ/\cn F h dS aJ)/\aD=2 ^ K-sZ :=
      λg1 g2=>⟨_,by omega,rfl,rfl,rfl,rfl,ED,u+1,bl,by omega,⟨_,g1,g2⟩,rfl⟩
     refine b6 (λbt=>?_) λbt=>?_
     .have rO:u/2 ^ c%2=0:=by
       have:decide (u &&& 2 ^ c=0)=true:=pS;rw[d1] at this;exact atC this
      have dQ:=abC ⟨u,by omega⟩ ⟨c,by omega⟩ rO;simp only at dQ;have arL:2 ^ c<=1024:=atg (n:=2) (by decide) (show c<=10 by omega);rw[dQ,iN (n:=((u+2 ^ c:Nat):Int)) (by omega) (by omega)];have b2:decide (((u &&& 2 ^ (a+1):Nat):Int)=0)=decide (u/2 ^ (a+1)%2=0):=by rw[<-d2];congr 1;simp
      rw[b2];have hlen:(l++ma (2 ^ (a+1)) (2 ^ c) u).length<1000000000000:=by
       have aa:=congrArg List.length aO;rw[as9] at aa;have ad:=IA (2 ^ K) (a+1);have aq:=Iz (2 ^ (a+1)) (2 ^ c) u;have aJ:(a+1)*(a+1)*2 ^ K<=10*10*1024:=atI (atI (by omega) (by omega)) IC;rw[as9];omega
      refine(IB.put _ _ _ ⟨(u:Int),((u+2 ^ c:Nat):Int),decide (u/2 ^ (a+1)%2=0)⟩ bj hlen).mono ?_;rintro _ aJ ⟨rfl,rN,bM,abK⟩;exact⟨_,rfl,b0 rfl (rM (by rw[EA,as8 rO,<-atr];exact bM) (rK.trans abK))⟩
     .have rO:¬u/2 ^ c%2=0:=λe=>by
       have:decide (u/2 ^ c%2=0)=true:=atl e;rw[<-d1] at this;have:=atC this;omega
      exact rM (by rw[EA,as7 rO,atU];exact bj) rK
    .have:u=2 ^ K:=by omega
     rw[Bz,EC (by omega)];refine⟨by decide,_,by omega,rfl,rfl,P2,c,rfl,by omega,⟨oZ,_,bj,rK,?_⟩,rfl⟩;rw[this,atr];exact aO
  .have:c=0:=by
    cases c with
    | zero=>rfl
    | succ c=>rw[aL,Bv] at ID;have:=kb (k:=c) (by omega);omega
   subst this;simp only[p2,atU] at aO;rw[yI,Int.mul_comm,Bt];have BB:=lE (show a+1+1<=11 by omega);rw[iN (by have:=lE (atx (a+1+1));simp at this;omega) (by simp at BB;omega)];exact⟨_,by omega,rfl,rfl,a+1,rfl,by omega,⟨wC,by rw[<-aO];exact s2,m6⟩,rfl⟩
 .have By:a=K:=by
   rcases atF a K with h|h
   .have:=lE (show a+1<=K by omega);omega
   .omega
  subst By;exact⟨wB,s1,mG⟩
theorem P3 {k:Nat}(ab:k<=10):eu prog 186 [U (2 ^ k)] (.bool true):=by
 intro h;have au:=kb ab;refine abL _ ?_;unfold P4;refine b6 (λ_=>eh (by simp;omega) ⟨?_,bB.refl _⟩) λe=>absurd au.1 e;rw[bl (n:=2 ^ k-1),OG k ab,iN (by decide) (by decide)];rfl
theorem abM {K:Nat}(fr:K<=10)(h:ai):aw 165 [U (2 ^ K)] h λv ag=>∃s,v=aU s/\cI 3 hH h ag s (fX K)/\bB h ag:=by
 refine abN _ ?_;unfold P5;refine(P3 fr).to λaa aE=>⟨_,rfl,b0 rfl ?_⟩;refine abO _ ?_;unfold P6;refine bL λb ad f2 a7 az=>⟨_,rfl,?_⟩;have fp:=Bu fr;refine(abo (g:=204) (caps:=[bu ⟨b,0⟩]) (L:=fX K) (h:=ad) (by omega) λy S IB F aq aD ia f0=>?_).mono ?_
 .exact abE fr IB ia (aF (aD.get a7) rfl) λjZ=>by rw[f0 b jZ] at a7;cases a7
 .rintro _ aq ⟨s,rfl,o,k⟩;exact⟨_,rfl,_,rfl,o.Iv (aE.trans az),(aE.trans az).trans k⟩
def mH (hG:Int)(p:mE):List dt:=[⟨hG,p.i,false⟩,⟨hG,p.j,false⟩,⟨hG,p.i,true⟩,⟨hG,p.j,true⟩]
def uA (hG:Int)(K:Nat):List dt:=(fX K).flatMap (mH hG)
theorem EE (hG:Int)(l:List mE):(l.flatMap (mH hG)).length=4*l.length:=by
 induction l with
 | nil=>rfl
 | cons p l c6=>simp[mH,c6];omega
def ic (first:Int)(sp:List n9)(n:Nat):List dt:=(List.range n).flatMap λ(i:Nat)=>(if i<sp.length then [(⟨(sp.getD i ⟨0,0⟩).r,(sp.getD i ⟨0,0⟩).a,false⟩:dt)] else [])++[⟨first+2,i,true⟩]
theorem BC (first:Int)(sp:List n9)(n:Nat):ic first sp (n+1)=ic first sp n++((if n<sp.length then [(⟨(sp.getD n ⟨0,0⟩).r,(sp.getD n ⟨0,0⟩).a,false⟩:dt)] else [])++[⟨first+2,n,true⟩]):=by simp[ic,ato]
theorem IF (first:Int)(sp:List n9)(n:Nat):(ic first sp n).length<=2*n:=by
 induction n with
 | zero=>simp[ic]
 | succ n c6=>rw[BC,as9];split<;>simp<;>omega
def o0 (first:Int)(sp:List n9)(n:Nat):List dt:=(List.range n).flatMap λ(i:Nat)=>[(⟨first+2,i,false⟩:dt),⟨(sp.getD i ⟨0,0⟩).r,(sp.getD i ⟨0,0⟩).a,true⟩]
theorem IG (first:Int)(sp:List n9)(n:Nat):o0 first sp (n+1)=o0 first sp n++[(⟨first+2,n,false⟩:dt),⟨(sp.getD n ⟨0,0⟩).r,(sp.getD n ⟨0,0⟩).a,true⟩]:=by simp[o0,ato]
theorem IH (first:Int)(sp:List n9)(n:Nat):(o0 first sp n).length=2*n:=by
 induction n with
 | zero=>rfl
 | succ n c6=>rw[IG,as9,c6];simp;omega
def hI (first:Int)(E:Nat):List dt:=writes (first+2) (2 ^ E)++uA (first+2) E
def mI (k:Nat)(s t:Int)(first:Int)(leaf:Nat):List dt :=
 ic first (fV k s t first leaf) (2 ^ j1 (ht k s t))++hI first (j1 (ht k s t))++hI first (j1 (ht k s t))++o0 first (fV k s t first leaf) (fV k s t first leaf).length

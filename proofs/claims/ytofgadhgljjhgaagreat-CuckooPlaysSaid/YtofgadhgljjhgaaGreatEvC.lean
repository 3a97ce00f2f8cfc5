import Derived.Test.YtofgadhgljjhgaaGreatStoC
namespace Go.Proofs.Tryz
open Go Go.cD Go.RowKit
set_option maxRecDepth 8000
structure de where
 r:Int
 a:Int
 w:Bool
 deriving DecidableEq
def sb (e:de):List Value:=[U e.r,U e.a,.bool e.w]
theorem AX (e:de):(sb e).length=3:=rfl
theorem VC (e:de):∀v∈sb e,v.oneCell'=true:=by simp[sb,Value.oneCell']
theorem VD:oZ prog 49 140 3 (.agg #[U 0,U 0,.bool false]) 24:=⟨by kernel_rfl,by kernel_rfl,by kernel_rfl,by kernel_rfl,rfl⟩
def reads (iM:Int)(n:Nat):List de:=(List.range n).map λ(i:Nat)=>⟨iM,(i:Int),false⟩
theorem wG (iM:Int)(n:Nat):(reads iM n).length=n:=by simp[reads]
theorem HE (iM:Int)(n:Nat):reads iM (n+1)=reads iM n++[⟨iM,n,false⟩]:=by simp[reads,List.range_succ]
def writes (iM:Int)(n:Nat):List de:=(List.range n).flatMap λ(i:Nat)=>[⟨iM,(i:Int),false⟩,⟨iM,(i:Int),true⟩]
theorem Bz (iM:Int)(n:Nat):writes iM (n+1)=writes iM n++[⟨iM,n,false⟩,⟨iM,n,true⟩]:=by simp[writes,List.range_succ]
theorem ru (iM:Int)(n:Nat):(writes iM n).length=2*n:=by
 induction n with
 | zero=>rfl
 | succ n dK=>rw[Bz,List.length_append,dK];simp;omega
theorem y3 {α:Type}{k:Nat}{f:α->List Value}{h0 h ah:ak}{s:ar}{l:List α}(o:cF k f h0 h s l)(EI:bL h0 h)(a_:∀b,h b≠none->(∀q,s.q=some q->b≠q.b)->ah b=h b):bL h0 ah:=λb au=>by
 rw[a_ b (by rw[EI b au];exact au) (λp aS e=>au (e▸(o.bl aS).1)),EI b au]
def fD (k leaf d:Nat):Nat:=2 ^ d-1+leaf/2 ^ (k-d)
theorem Ix {k leaf:Nat}(ag:k<=10)(aT:leaf<2 ^ k):eW prog 165 [U (2 ^ k),U leaf] (.bool true):=by
 intro h
 refine aiz _ _ ?_
 unfold VE
 refine(Hu ag).to λaa aE=>⟨_,rfl,dg rfl (dg (by simp) ⟨?_,aE⟩)⟩
 have e:((2 ^ k:Nat):Int)=2 ^ k:=by simp
 rw[cond_true,decide_eq_true (by omega)]
theorem aiA {k leaf d:Nat}(ag:k<=10)(aT:leaf<2 ^ k)(bV:d<=k):eW prog 166 [U (2 ^ k),U leaf,U d] (U (fD k leaf d)):=by
 intro h
 refine aiB _ _ _ ?_
 unfold VF
 refine(Hv ag).to λaa aE=>⟨_,rfl,?_⟩
 refine(Ix ag aT).to λad aC=>⟨_,rfl,bS rfl (bS (by simp) (bS (by rw[bf (by omega) (by omega)];simp;omega) ?_))⟩
 rw[bf (n:=(k:Int)-d) (by omega) (by omega)]
 refine⟨by omega,by omega,?_,aE.trans aC⟩
 have aF:min (d:Int).toNat 64=d:=by omega
 have a8:min ((k:Int)-d).toNat 64=k-d:=by omega
 have b0:(leaf:Int).fdiv (2 ^ (k-d))=((leaf/2 ^ (k-d):Nat):Int):=by
  have e:((2 ^ (k-d):Nat):Int)=2 ^ (k-d):=by simp
  rw[<-e,Int.fdiv_eq_ediv_of_nonneg _ (Int.natCast_nonneg _)];rfl
 have au:=ln (k:=d) (by omega)
 have hZ:=ln ag
 have b1:((2 ^ d:Nat):Int)=2 ^ d:=by simp
 have cy:((2 ^ k:Nat):Int)=2 ^ k:=by simp
 have hle:leaf/2 ^ (k-d)<=leaf:=Nat.div_le_self _ _
 rw[aF,a8,b0,Int.one_mul,bf (n:=2 ^ d) (by omega) (by omega),bf (n:=2 ^ d-1) (by omega) (by omega)]
 unfold fD
 generalize leaf/2 ^ (k-d)=z at *
 have:1<=2 ^ d:=Nat.pow_pos (by decide)
 rw[bf (by omega) (by omega),show(2:Int) ^ d-1+(z:Int)=((2 ^ d-1+z:Nat):Int) by omega]
def mS (k leaf n:Nat):List Int:=(List.range n).map λd=>(fD k leaf d:Int)
theorem aiC (k leaf n:Nat):mS k leaf (n+1)=mS k leaf n++[(fD k leaf n:Int)]:=by simp[mS,List.range_succ]
theorem tD (k leaf n:Nat):(mS k leaf n).length=n:=by simp[mS]
theorem Bk {α:Type}{f:α->Value}{h0 h ah:ak}{s:ar}{l:List α}(o:cW f h0 h s l)(EI:bL h0 h)(a_:∀b,h b≠none->(∀q,s.q=some q->b≠q.b)->ah b=h b):bL h0 ah:=λb au=>by
 rw[a_ b (by rw[EI b au];exact au) (λp aS e=>au (e▸(o.bl aS).1)),EI b au]
theorem aiD {k leaf:Nat}(ag:k<=10)(aT:leaf<2 ^ k)(h:ak):ao 146 [U (2 ^ k),U leaf] h λv ah=>∃s,v=bb s/\cW eR h ah s (mS k leaf (k+1))/\bL h ah:=by
 refine aiE _ _ ?_
 unfold VG
 refine(Ix ag aT).to λaa aE=>⟨_,rfl,bS rfl ?_⟩
 refine(Hv ag).to λad aC=>⟨_,rfl,?_⟩
 rw[bf (n:=(k:Int)+1) (by omega) (by omega)]
 refine⟨λa b s l i an m=>a=2 ^ k/\b=leaf/\l=(k:Int)+1/\∃j:Nat,i=j/\j<=k+1/\cW eR h an s (mS k leaf j)/\bL h an/\m=k+1-j,⟨_,rfl,rfl,rfl,0,rfl,Nat.zero_le _,cW.gD _ _ _,aE.trans aC,rfl⟩,?_⟩
 rintro a b s l i an m ⟨rfl,rfl,rfl,j,rfl,aV,tE,aI,rfl⟩
 refine cd (λca=>?_) λdx=>?_
 .refine(aiA ag aT (show j<=k by omega)).to λaK bh=>⟨_,rfl,?_⟩
  refine cW.push yT Eh (tE.bD bh) (fD k leaf j:Int) (λb au=>aI.free (bh.free au)) (by rw[tD];omega) (by decide) ?_
  intro cX aR cm f5 _
  exact⟨_,by omega,rfl,rfl,rfl,j+1,bf (by omega) (by omega),by omega,by rw[aiC];exact cm,Bk (tE.bD bh) (aI.trans bh) f5,rfl⟩
 .have:j=k+1:=by omega
  subst this;exact⟨_,rfl,tE,aI⟩
structure pW where
 r:Int
 a:Int
def mT (x:pW):List Value:=[U x.r,U x.a]
theorem nL (x:pW):(mT x).length=2:=rfl
theorem Iy (x:pW):∀v∈mT x,v.oneCell'=true:=by simp[mT,Value.oneCell']
theorem VH:oZ prog 225 228 2 (.agg #[U 0,U 0]) 16:=⟨by kernel_rfl,by kernel_rfl,by kernel_rfl,by kernel_rfl,rfl⟩
def pX (first:Int)(node:Nat)(s:Int)(n:Nat):List pW:=(List.range n).map λ(i:Nat)=>⟨first,(node:Int)*s+i⟩
theorem VI (first:Int)(node:Nat)(s:Int)(n:Nat):pX first node s (n+1)=pX first node s n++[⟨first,(node:Int)*s+n⟩]:=by simp[pX,List.range_succ]
def pY (k:Nat)(s:Int)(first:Int)(leaf n:Nat):List pW:=(List.range n).flatMap λd=>pX first (fD k leaf d) s s.toNat
theorem Iz (k:Nat)(s:Int)(first:Int)(leaf n:Nat):pY k s first leaf (n+1)=pY k s first leaf n++pX first (fD k leaf n) s s.toNat:=by simp[pY,List.range_succ]
theorem IA (k:Nat)(s:Int)(first:Int)(leaf n:Nat):(pY k s first leaf n).length=n*s.toNat:=by
 induction n with
 | zero=>simp[pY]
 | succ n dK=>rw[Iz,List.length_append,dK];simp[pX,Nat.succ_mul]
def qF (first:Int)(n:Nat):List pW:=(List.range n).map λ(i:Nat)=>⟨first+1,(i:Int)⟩
theorem VJ (first:Int)(n:Nat):qF first (n+1)=qF first n++[⟨first+1,n⟩]:=by simp[qF,List.range_succ]
def gM (k:Nat)(s t:Int)(first:Int)(leaf:Nat):List pW:=pY k s first leaf (k+1)++qF first t.toNat
theorem aiF {k:Nat}{s t:Int}(o:lR k s t)(first:Int)(leaf:Nat):((gM k s t first leaf).length:Int)=iw k s t-1:=by
 have:=o.s;have:=o.t
 rw[gM,List.length_append,IA]
 simp[qF,iw]
 obtain⟨cX,rfl⟩:=Int.eq_ofNat_of_zero_le (show 0<=s by omega)
 simp
 rw[Int.mul_comm]
 omega
theorem Ni {k leaf d:Nat}(ag:k<=10)(aT:leaf<2 ^ k)(bV:d<=k):fD k leaf d<=2047:=by
 unfold fD
 have aa:2 ^ d<=2 ^ 10:=Nat.pow_le_pow_right (by decide) (by omega)
 have ad:2 ^ k<=2 ^ 10:=Nat.pow_le_pow_right (by decide) ag
 have an:leaf/2 ^ (k-d)<=leaf:=Nat.div_le_self _ _
 generalize leaf/2 ^ (k-d)=z at *
 simp at aa ad;omega
theorem aiG {k:Nat}{s t:Int}(o:lR k s t)(first:Int)(a_:0<=first/\first<=1000){leaf:Nat}(aT:leaf<2 ^ k)(h:ak) :
 ao 128 [.agg #[U (2 ^ k),U s,U t],U first,U leaf] h λv ah=>∃x,v=bb x/\cF 2 mT h ah x (gM k s t first leaf)/\bL h ah:=by
 have aU:=o.s;have bw:=o.t;have ag:=o.k
 refine aiH _ _ _ _ _ ?_
 unfold VK
 refine bM λae aa f1 aF aE=>gq aF rfl ?_
 refine(aiD o.k aT aa).mono ?_
 rintro _ ad ⟨s1,rfl,cj,aC⟩
 have ew:=cj.rd
 have h_:=ew.len
 rw[tD] at h_
 refine⟨_,rfl,λa q x y l i an m=>first=a/\q=⟨ae,0⟩/\s1=y/\l=s1.len/\∃j:Nat,i=j/\j<=k+1/\cF 2 mT ad an x (pY k s first leaf j)/\bL ad an/\m=k+1-j,⟨_,rfl,rfl,rfl,rfl,0,rfl,Nat.zero_le _,cF.gD _ _ _ _,bL.refl _,rfl⟩,?_⟩
 rintro a q x y l i an m ⟨rfl,rfl,rfl,rfl,j,rfl,aV,tE,aI,rfl⟩
 have b0:=(aC.trans aI).get aF
 refine cd (λca=>?_) λdx=>?_
 .have j6:j<(mS k leaf (k+1)).length:=by rw[tD];omega
  have c_:(mS k leaf (k+1))[j]=(fD k leaf j:Int):=by simp[mS]
  have BA:=Ni ag aT (show j<=k by omega)
  refine(ew.bD aI).cp j6 λp _ aZ=>⟨fD k leaf j,by rw[<-c_];exact aZ,gq b0 rfl ?_⟩
  refine⟨λa q x ir y l i n v aK m=>first=a/\q=⟨ae,0⟩/\ir=fD k leaf j/\s1=y/\l=s1.len/\i=j/\s=n/\∃u:Nat,v=u/\u<=s.toNat/\cF 2 mT ad aK x (pY k s first leaf j++pX first (fD k leaf j) s u)/\bL ad aK/\m=s.toNat-u,
   ⟨_,rfl,rfl,rfl,rfl,rfl,rfl,rfl,0,rfl,Nat.zero_le _,by simpa [pX] using tE,aI,rfl⟩,?_⟩
  rintro a q x ir y l i n v aK m ⟨rfl,rfl,rfl,rfl,rfl,rfl,rfl,u,rfl,hu,pd,bh,rfl⟩
  refine cd (λmR=>?_) λwP=>?_
  .refine gq ((aC.trans bh).get aF) rfl ?_
   have hm:(0:Int)<=(fD k leaf j:Int)*s/\(fD k leaf j:Int)*s<=2047*8:=VL (by omega) (by omega) (by omega) (by omega)
   rw[bf (n:=(fD k leaf j:Int)*s) (by omega) (by omega),bf (n:=(fD k leaf j:Int)*s+(u:Int)) (by omega) (by omega)]
   refine cF.push VH nL Iy pd [⟨first,(fD k leaf j:Int)*s+u⟩] rfl rfl (λb au=>bh.free au) (by
    have:j*s.toNat<=11*8:=Nat.mul_le_mul (by omega) (by omega)
    rw[List.length_append,IA];simp[pX];omega) (by decide) ?_
   intro cX aR cm f5 _ _
   exact⟨_,by omega,rfl,rfl,rfl,rfl,rfl,rfl,rfl,u+1,bf (by omega) (by omega),by omega,by rw[VI,<-List.append_assoc];exact cm,y3 pd bh f5,rfl⟩
  .have:u=s.toNat:=by omega
   subst this
   exact⟨_,by omega,rfl,rfl,rfl,rfl,j+1,bf (by omega) (by omega),by omega,by rw[Iz];exact pd,bh,rfl⟩
 .have:j=k+1:=by omega
  subst this
  refine gq b0 rfl ?_
  refine⟨λa x n i aK m=>first=a/\t=n/\∃u:Nat,i=u/\u<=t.toNat/\cF 2 mT ad aK x (pY k s first leaf (k+1)++qF first u)/\bL ad aK/\m=t.toNat-u,⟨_,rfl,rfl,0,rfl,Nat.zero_le _,by simpa [qF] using tE,aI,rfl⟩,?_⟩
  rintro a x n i aK m ⟨rfl,rfl,u,rfl,hu,pd,bh,rfl⟩
  refine cd (λmR=>?_) λwP=>?_
  .rw[bf (n:=first+1) (by omega) (by omega)]
   refine cF.push VH nL Iy pd [⟨first+1,u⟩] rfl rfl (λb au=>bh.free au) (by
    have:(k+1)*s.toNat<=11*8:=Nat.mul_le_mul (by omega) (by omega)
    rw[List.length_append,IA];simp[qF];omega) (by decide) ?_
   intro cX aR cm f5 _ _
   exact⟨_,by omega,rfl,rfl,u+1,bf (by omega) (by omega),by omega,by rw[VJ,<-List.append_assoc];exact cm,y3 pd bh f5,rfl⟩
  .have:u=t.toNat:=by omega
   subst this
   exact⟨_,rfl,pd.Nj (aE.trans aC),(aE.trans aC).trans bh⟩
end Go.Proofs.Tryz
namespace Go.Proofs.Tryz
open Go Go.cD Go.RowKit
set_option maxRecDepth 8000
abbrev lE:ak:=λ_=>none
def bT (F:Nat->Prop)(h:ak)(dW:Nat->Prop)(ah:ak):Prop:=(∀b,dW b->F b∨h b=none)/\(∀b,h b≠none->¬F b->ah b=h b)/\(∀b,ah b=none->h b=none)
theorem bT.refl (F:Nat->Prop)(h:ak):bT F h F h:=⟨λ_ h=> .inl h,λ_ _ _=>rfl,λ_ h=>h⟩
theorem bT.out {F dW:Nat->Prop}{h ah:ak}(m:bT F h dW ah){b:Nat}(au:h b≠none)(aH:¬F b):¬dW b:=λa_=>by
 rcases m.1 b a_ with h|h
 .exact aH h
 .exact au h
theorem bT.trans {F dW VM:Nat->Prop}{h ah hq:ak}(m:bT F h dW ah)(nM:bT dW ah VM hq):bT F h VM hq:=by
 refine⟨λb au=>?_,λb au aH=>?_,λb au=>m.2.2 b (nM.2.2 b au)⟩
 .rcases nM.1 b au with h|h
  .exact m.1 b h
  .exact .inr (m.2.2 b h)
 .rw[nM.2.1 b (by rw[m.2.1 b au aH];exact au) (m.out au aH),m.2.1 b au aH]
theorem hF {h ah:ak}(k:bL h ah)(F:Nat->Prop):bT F h F ah:=⟨λ_ h=> .inl h,λb au _=>k b au,λ_ au=>k.free au⟩
theorem bT.get {F dW:Nat->Prop}{h ah:ak}(m:bT F h dW ah){b:Nat}{o:Obj}(e:h b=some o)(aH:¬F b):ah b=some o:=by rw[m.2.1 b (by rw[e];simp) aH,e]
theorem bT.bD {F dW:Nat->Prop}{h0 h ah:ak}(m:bT F h dW ah)(k:bL h0 h)(hY:∀b,F b->h0 b=none):bL h0 ah/\∀b,dW b->h0 b=none:=by
 refine⟨λb au=>?_,λb au=>?_⟩
 .rw[m.2.1 b (by rw[k b au];exact au) (λh=>au (hY b h)),k b au]
 .rcases m.1 b au with h|h
  .exact hY b h
  .exact k.free h
theorem aiI {α:Type}{k:Nat}{f:α->List Value}{h0 h:ak}{s:ar}{l:List α}(o:cF k f lE h s l)(aU:∀p,s.q=some p->h0 p.b=none):cF k f h0 h s l:=by
 refine⟨o.len,o.cap,?_⟩
 rcases o.own with aa|⟨q,c,t,aa,ad,an,aK,aR⟩
 .exact .inl aa
 .exact .inr ⟨q,c,t,aa,aU q aa,an,aK,aR⟩
def lF (b:Nat)(s:ar):Nat->Prop:=λx=>x=b∨∃p,s.q=some p/\x=p.b
structure kI {α:Type}(k:Nat)(f:α->List Value)(T:TypeId)(h:ak)(b:Nat)(s:ar)(l:List α):Prop where
 cell:h b=some (.cells #[bb s] T (0,0))
 own:cF k f lE h s l
 ne:∀p,s.q=some p->p.b≠b
theorem kI.dn {α:Type}{k:Nat}{f:α->List Value}{T:TypeId}{h:ak}{b:Nat}{s:ar}{l:List α}(B:kI k f T h b s l){x:Nat}(ai:lF b s x):h x≠none:=by
 rcases ai with rfl|⟨p,aS,rfl⟩
 .rw[B.cell];simp
 .exact(B.own.bl aS).2
theorem kI.move {α:Type}{k:Nat}{f:α->List Value}{T:TypeId}{h ah:ak}{b:Nat}{s:ar}{l:List α}(B:kI k f T h b s l)(aU:∀x,lF b s x->ah x=h x):kI k f T ah b s l :=
 ⟨by rw[aU b (.inl rfl)];exact B.cell,B.own.move λp aS=>aU _ (.inr ⟨p,aS,rfl⟩),B.ne⟩
theorem kI.bD {α:Type}{k:Nat}{f:α->List Value}{T:TypeId}{h ah:ak}{b:Nat}{s:ar}{l:List α}(B:kI k f T h b s l)(c:bL h ah):kI k f T ah b s l:=B.move λ_ ai=>c _ (B.dn ai)
theorem kI.cells {α:Type}{k:Nat}{f:α->List Value}{T:TypeId}{h:ak}{b:Nat}{s:ar}{l:List α}(B:kI k f T h b s l){x:Nat}(ai:lF b s x):∃c t VN,h x=some (.cells c t VN):=by
 rcases ai with rfl|⟨p,aS,rfl⟩
 .exact⟨_,_,_,B.cell⟩
 .rcases B.own.own with ⟨aH,_⟩|⟨q,c,t,aj,_,aZ,_,_⟩
  .rw[aH] at aS;cases aS
  .rw[aj] at aS;cases aS;exact⟨_,_,_,aZ⟩
theorem kI.app {α:Type}{P:Program}{EJ el:TypeId}{k:Nat}{z:Value}{by_:Nat}(rt:oZ P EJ el k z by_){f:α->List Value}(a_:∀x,(f x).length=k)(one:∀x,∀v∈f x,v.oneCell'=true){T:TypeId}{h:ak}{b:Nat}{s y:ar}{l m:List α}
 (B:kI k f T h b s l) (jq:fN f h y m) (room:(l.length+m.length)*by_<=140737488355328) (kY:0<by_) {K:ak->Prop}
 (ag:∀cX ah,kI k f T ah b cX (l++m)->bT (lF b s) h (lF b cX) ah->K ah):fh P EJ s (.s y) h λs2 ad=>aX ad ⟨b,0⟩ [bb s2] K:=by
 refine cF.app rt a_ one B.own jq (λ_ _=>rfl) room kY ?_
 intro cX ad cb f2 kG EK
 have lf:h b≠none:=by rw[B.cell];simp
 have hZ:ad b=h b:=f2 b lf λq aj e=>B.ne q aj e.symm
 have ne':∀p,cX.q=some p->p.b≠b:=λp aS e=>by
  rcases kG p aS with ⟨q,aj,h⟩|h
  .exact B.ne q aj (h▸e)
  .rw[e] at h;exact lf h
 refine⟨_,_,by rw[hZ];exact B.cell,by simp,ag cX _ ⟨by rw[eH];rfl,cb.move λp aS=>cQ _ _ (ne' p aS),ne'⟩ ⟨?_,?_,?_⟩⟩
 .rintro x (rfl|⟨p,aS,rfl⟩)
  .exact .inl (.inl rfl)
  .rcases kG p aS with ⟨q,aj,h⟩|h
   .exact .inl (.inr ⟨q,aj,h⟩)
   .exact .inr h
 .intro x ai aH
  have aiJ:x≠b:=λe=>aH (.inl e)
  rw[cQ _ _ aiJ,f2 x ai λq aj e=>aH (.inr ⟨q,aj,e⟩)]
 .intro x ai
  by_cases e:x=b
  .rw[e,eH] at ai;cases ai
  .rw[cQ _ _ e] at ai;exact EK x ai
theorem kI.push {α:Type}{P:Program}{EJ el:TypeId}{k:Nat}{z:Value}{by_:Nat}(rt:oZ P EJ el (k+1) z by_){f:α->List Value}(a_:∀x,(f x).length=k+1)(one:∀x,∀v∈f x,v.oneCell'=true){T:TypeId}{h:ak}{b:Nat}{s:ar}{l:List α}
 (B:kI (k+1) f T h b s l) (m:List α) {t:TypeId} {c:Array Value} (aZ:c=(m.flatMap f).toArray) {n:Nat} (aH:n=m.length) (room:(l.length+m.length)*by_<=140737488355328) (kY:0<by_) {K:ak->Prop}
 (ag:∀cX ah,kI (k+1) f T ah b cX (l++m)->bT (lF b s) h (lF b cX) ah->K ah):bj h (.cells c t) λae aa=>fh P EJ s (.s ⟨some ⟨ae,0⟩,n,n,none⟩) aa λs2 ad=>aX ad ⟨b,0⟩ [bb s2] K :=
 bM λae aa f1 aF aE=>kI.app rt a_ one (B.bD aE) (cF.qz (k:=k+1) a_ (h0:=h) f1 aF aZ aH).rd room kY λcX ah BB nM=>ag cX ah BB ((hF aE _).trans nM)
structure Nk {α:Type}(y:Value)(aiK:α->Value)(S:List α->(Nat->Prop)->ak->Prop)(N:Nat):Prop where
 put:∀l F h x,S l F h->l.length<N->gi prog y [aiK x] h λv ah=>v= .bool true/\∃dW,S (l++[x]) dW ah/\bT F h dW ah
 bD:∀l F h ah,S l F h->(∀b,F b->ah b=h b)->S l F ah
 dn:∀l F h b,S l F h->F b->h b≠none
 one:y.oneCell'=true
structure n_ where
 i:Int
 j:Int
 up:Bool
def iN (e:n_):List Value:=[U e.i,U e.j,.bool e.up]
theorem IB (e:n_):(iN e).length=3:=rfl
theorem VO (e:n_):∀v∈iN e,v.oneCell'=true:=by simp[iN,Value.oneCell']
theorem aiL:oZ prog 245 248 3 (.agg #[U 0,U 0,.bool false]) 24:=⟨by kernel_rfl,by kernel_rfl,by kernel_rfl,by kernel_rfl,rfl⟩
theorem aiM {g:FuncId}{caps:List Value}{L:List n_}{h:ak}(dY:L.length<=1000000000000)
 (aiN:∀(y:Value) (S:List n_->(Nat->Prop)->ak->Prop),Nk y (λx=> .agg (iN x).toArray) S 1000000000000->∀F aa,bL h aa->S [] F aa->(∀b,F b->h b=none)->ao g (y::caps) aa λ_ ad=>∃dW,S L dW ad/\bT F aa dW ad) :
 ao 169 [.func (.func g) #[] caps.toArray] h λv ah=>∃s,v=bb s/\cF 3 iN h ah s L/\bL h ah:=by
 refine aiO _ ?_
 unfold VP
 have key:ao 185 [bb ⟨none,0,0,none⟩,.func (.func g) #[] caps.toArray] h λv ah=>∃s,v=bb s/\cF 3 iN h ah s L/\bL h ah:=by
  refine aiP ⟨none,0,0,none⟩ _ ?_
  unfold VQ
  refine bM λae aa f1 aF aE=>⟨trivial,λz k ag aP=>?_⟩
  have aiQ:k≠ae:=λe=>by rw[e,aF] at ag;cases ag
  have BC:ae≠k:=λe=>aiQ e.symm
  have qy:bL aa (bA aa k (eD z)):=(bL.refl aa).bA ag _
  have mi:h k=none:=aE.free ag
  let S:List n_->(Nat->Prop)->ak->Prop:=λl F ah=>ah k=some (eD z)/\∃s,kI 3 iN 245 ah ae s l/\F=(λx=>x=k∨lF ae s x)
  have VR:∀ {ah:ak} {s:ar} {l:List n_} {o:Loop},kI 3 iN 245 ah ae s l->ah k=some (.loop o)->¬lF ae s k:=λB e ai=>by
   obtain⟨c,t,VN,h⟩:=B.cells ai
   rw[e] at h;cases h
  have sink:Nk (l0 k) (λx=> .agg (iN x).toArray) S 1000000000000:=by
   refine⟨?_,?_,?_,rfl⟩
   .rintro l F ad x ⟨bc,s,sG,rfl⟩ aT
    obtain⟨aw,aA,t1⟩:=x
    refine⟨rfl,rfl,aP aw aA t1 ad _ bc ?_⟩
    refine bM λay an f3 b0 aI=>jl aI f3 b0 rfl λaK bh b1 _=>⟨bh.get bc,?_⟩
    have Nl:¬lF ae s k:=VR sG bc
    have cy:bA aK k (dO z) ae=some (.cells #[bb s] 245 (0,0)):=by rw[cQ _ _ BC];exact bh.get sG.cell
    have aiR:ay≠k:=λe=>by rw[e,bc] at f3;cases f3
    have dE:bA aK k (dO z) ay=some (.cells #[U aw,U aA,.bool t1] 248 (0,0)):=by rw[cQ _ _ aiR];exact b1
    have aiS:kI 3 iN 245 (bA aK k (dO z)) ae s l:=(sG.bD bh).move λx ai=>cQ _ _ λe=>Nl (e▸ai)
    refine⟨s,az cy rfl,aw,az dE rfl,aA,az dE rfl,t1,az dE rfl,kI.push aiL IB VO aiS [⟨aw,aA,t1⟩] rfl rfl (by simp;omega) (by decide) λcX bp aiT EL=>?_⟩
    have aiU:bp k=some (dO z):=EL.get (eH _ _ _) Nl
    have aiV:¬lF ae cX k:=EL.out (by rw[eH];simp) Nl
    refine⟨aiU,rfl,_,⟨eH _ _ _,cX,aiT.move λx ai=>cQ _ _ (λe=>aiV (e▸ai)),rfl⟩,?_,?_,?_⟩
    .rintro x (rfl|ai)
     .exact .inl (.inl rfl)
     .rcases EL.1 x ai with h|h
      .exact .inl (.inr h)
      .by_cases tF:x=k
       .exact .inl (.inl tF)
       .rw[cQ _ _ tF] at h;exact .inr (bh.free h)
    .intro x ai aH
     have tF:x≠k:=λe=>aH (.inl e)
     have VS:bA aK k (dO z) x=ad x:=by rw[cQ _ _ tF,bh x ai]
     rw[cQ _ _ tF,EL.2.1 x (by rw[VS];exact ai) (λhY=>aH (.inr hY)),VS]
    .intro x ai
     have tF:x≠k:=λe=>by rw[e,eH] at ai;cases ai
     rw[cQ _ _ tF] at ai
     have VT:=EL.2.2 x ai
     rw[cQ _ _ tF] at VT
     exact bh.free VT
   .rintro l F ad an ⟨bc,s,sG,rfl⟩ hY
    exact⟨by rw[hY k (.inl rfl)];exact bc,s,sG.move λx ai=>hY x (.inr ai),rfl⟩
   .rintro l F ad b ⟨bc,s,sG,rfl⟩ (rfl|au)
    .rw[bc];simp
    .exact sG.dn au
  have jh:S [] (λx=>x=k∨lF ae ⟨none,0,0,none⟩ x) (bA aa k (eD z)) :=
   ⟨eH _ _ _,_,⟨by rw[cQ _ _ BC];exact aF,cF.gD _ _ _ _,λp aS=>by cases aS⟩,rfl⟩
  have f0:∀b,(b=k∨lF ae ⟨none,0,0,none⟩ b)->h b=none:=by
   rintro b (rfl|rfl|⟨p,aS,_⟩)
   .exact mi
   .exact f1
   .cases aS
  refine⟨rfl,?_⟩
  refine(aiN (l0 k) S sink _ _ (aE.trans qy) jh f0).mono ?_
  rintro _ ad ⟨dW,⟨bc,s,sG,rfl⟩,m⟩
  obtain⟨bP,aiW⟩:=m.bD (aE.trans qy) f0
  have aiX:=VR sG bc
  refine⟨bc,s,az (by rw[cQ _ _ BC];exact sG.cell) rfl,s,rfl,?_,bP.bA mi _⟩
  exact aiI (sG.own.move λp aS=>cQ _ _ λe=>aiX (.inr ⟨p,aS,e.symm⟩)) λp aS=>aiW _ (.inr (.inr ⟨p,aS,rfl⟩))
 refine key.mono ?_
 rintro _ aa ⟨s,rfl,o,k⟩
 exact⟨_,rfl,_,rfl,o,k⟩
end Go.Proofs.Tryz
namespace Go.Proofs.Tryz
open Go Go.cD Go.RowKit
set_option maxRecDepth 8000
def lb (n:Int):Nat:=if n<1 then 0 else min (Lib.bitLen (n-1).toNat) 62
theorem Nm (n:Int):m0 n=2 ^ lb n:=by unfold m0 lb;split<;>rfl
theorem VU {n:Int}{k:Nat}(ag:k<=62)(h:n<=2 ^ k):lb n<=k:=by
 unfold lb
 split
 .omega
 .have b4:((2 ^ k:Nat):Int)=2 ^ k:=by simp
  have:=Lib.bitLen_le (n-1).toNat k (by omega) (by omega)
  omega
theorem EM (j:Nat):(2:Int)*2 ^ j=2 ^ (j+1):=by rw[Int.pow_succ];omega
theorem VV {i b:Nat}(hi:i<2 ^ 63)(au:b<63):nV .and .i64 (i:Int) ((2:Int) ^ b)=((i &&& 2 ^ b:Nat):Int):=by
 have e:((2:Int) ^ b)=((2 ^ b:Nat):Int):=by simp
 have aa:2 ^ b<2 ^ 64:=Nat.pow_lt_pow_right (by decide) (by omega)
 rw[e]
 show(((BitVec.ofInt 64 (i:Int) &&& BitVec.ofInt 64 ((2 ^ b:Nat):Int)).toNat:Nat):Int)=_
 rw[BitVec.toNat_and,BitVec.ofInt_natCast,BitVec.ofInt_natCast,BitVec.toNat_ofNat,BitVec.toNat_ofNat,Nat.mod_eq_of_lt (by omega),Nat.mod_eq_of_lt aa]
theorem aiY {i b:Nat}(hi:i<2 ^ 63)(au:b<63):nV .or .i64 (i:Int) ((2:Int) ^ b)=((i ||| 2 ^ b:Nat):Int):=by
 have e:((2:Int) ^ b)=((2 ^ b:Nat):Int):=by simp
 have aa:2 ^ b<2 ^ 64:=Nat.pow_lt_pow_right (by decide) (by omega)
 rw[e]
 show(((BitVec.ofInt 64 (i:Int) ||| BitVec.ofInt 64 ((2 ^ b:Nat):Int)).toNat:Nat):Int)=_
 rw[BitVec.toNat_or,BitVec.ofInt_natCast,BitVec.ofInt_natCast,BitVec.toNat_ofNat,BitVec.toNat_ofNat,Nat.mod_eq_of_lt (by omega),Nat.mod_eq_of_lt aa]
theorem VW:∀i:Fin 1024,∀b:Fin 11,decide (i.val &&& 2 ^ b.val=0)=decide (i.val/2 ^ b.val%2=0):=by decide +kernel
theorem aiZ:∀i:Fin 1024,∀b:Fin 10,i.val/2 ^ b.val%2=0->i.val ||| 2 ^ b.val=i.val+2 ^ b.val:=by decide +kernel
theorem VX (i b:Nat):i &&& 2 ^ b<=i:=Nat.and_le_left
def nN (k j n:Nat):List n_:=((List.range n).filter λi=>decide (i/j%2=0)).map λ(i:Nat)=>(⟨(i:Int),((i+j:Nat):Int),decide (i/k%2=0)⟩:n_)
theorem IC (k j n:Nat):nN k j (n+1)=nN k j n++(if n/j%2=0 then [(⟨(n:Int),((n+j:Nat):Int),decide (n/k%2=0)⟩:n_)] else []):=by
 unfold nN
 rw[List.range_succ,List.filter_append,List.map_append]
 congr 1
 by_cases h:n/j%2=0<;>simp[h]
theorem Nn (k j n:Nat):(nN k j n).length<=n:=by
 unfold nN
 rw[List.length_map]
 exact Nat.le_trans (List.length_filter_le _ _) (by simp)
def rM (n a:Nat):Nat->List n_
 | 0=>[]
 | b+1=>nN (2 ^ (a+1)) (2 ^ b) n++rM n a b
theorem ai0 (n a b:Nat):(rM n a b).length<=b*n:=by
 induction b with
 | zero=>simp[rM]
 | succ b dK=>simp only[rM,List.length_append];have:=Nn (2 ^ (a+1)) (2 ^ b) n;rw[Nat.succ_mul];omega
def h7 (n a:Nat):List n_:=(List.range a).flatMap λa=>rM n a (a+1)
theorem ID (n a:Nat):h7 n (a+1)=h7 n a++rM n a (a+1):=by simp[h7,List.range_succ]
theorem No (n a:Nat):(h7 n a).length<=a*a*n:=by
 induction a with
 | zero=>simp[h7]
 | succ a dK =>
  rw[ID,List.length_append]
  have aa:=ai0 n a (a+1)
  have ad:(a+1)*(a+1)*n=a*a*n+a*n+(a+1)*n:=by
   have e:(a+1)*(a+1)=a*a+a+(a+1):=by rw[Nat.mul_add,Nat.add_mul];omega
   rw[e,Nat.add_mul,Nat.add_mul]
  omega
def gT (K:Nat):List n_:=h7 (2 ^ K) K
theorem EN {K:Nat}(eM:K<=10):(gT K).length<=102400:=by
 have aa:=No (2 ^ K) K
 have ad:2 ^ K<=2 ^ 10:=Nat.pow_le_pow_right (by decide) eM
 have an:K*K<=10*10:=Nat.mul_le_mul eM eM
 have aK:K*K*2 ^ K<=100*1024:=Nat.mul_le_mul an ad
 unfold gT;omega
def bQ (c:Nat):Int:=if c=0 then 0 else 2 ^ (c-1)
theorem EO (c:Nat):bQ (c+1)=2 ^ c:=by simp[bQ]
theorem IE {c:Nat}(aZ:c<=10):al (((2:Int) ^ c).tdiv 2)=bQ c:=by
 cases c with
 | zero=>rw[show((2:Int) ^ 0).tdiv 2=0 from rfl,bf (by omega) (by omega)];rfl
 | succ c =>
  have au:=ln (k:=c) (by omega)
  rw[EO,<-EM]
  have:(2*(2:Int) ^ c).tdiv 2=2 ^ c:=by rw[Int.tdiv_eq_ediv_of_nonneg (by omega)];omega
  rw[this,bf (by omega) (by omega)]
theorem ai1 {K:Nat}(eM:K<=10){y:Value}{S:List n_->(Nat->Prop)->ak->Prop}(Np:Nk y (λx=> .agg (iN x).toArray) S 1000000000000){F:Nat->Prop}{h:ak}{b:Nat}
 (jh:S [] F h) (aZ:br h b 0=some (U (2 ^ K))) (au:¬F b) :
 ao 186 [y,bg ⟨b,0⟩] h λ_ ad=>∃dW,S (gT K) dW ad/\bT F h dW ad:=by
 have aH:h b≠none:=w2 aZ
 have cell:∀ {dW ah},bT F h dW ah->br ah b 0=some (U (2 ^ K))/\¬dW b:=λm=>⟨by rw[qG (m.2.1 b aH au),aZ],m.out aH au⟩
 have ai2:=ln eM
 have Nq:2 ^ K<=1024:=Nat.pow_le_pow_right (n:=2) (by decide) eM
 have VY:((2 ^ K:Nat):Int)=2 ^ K:=by simp
 refine ai3 y ⟨b,0⟩ ?_
 unfold VZ
 refine⟨λv q n aa m=>v=y/\q=⟨b,0⟩/\∃a:Nat,n=2 ^ (a+1)/\a<=K/\(∃dW,S (h7 (2 ^ K) a) dW aa/\bT F h dW aa)/\m=K-a,⟨_,rfl,rfl,0,rfl,Nat.zero_le _,⟨F,jh,bT.refl _ _⟩,rfl⟩,?_⟩
 rintro v q n aa m ⟨rfl,rfl,a,EP,bO,⟨y4,s1,m7⟩,rfl⟩
 refine⟨_,(cell m7).1,cd (λhle=>?_) λER=>?_⟩
 .have ES:a<K:=by
   rcases Nat.lt_or_ge a K with h|h
   .exact h
   .have:a=K:=by omega
    subst this;rw[<-EM] at EP;omega
  have ai4:=ln (k:=a+1) (by omega)
  have azc:=ln (k:=a) (by omega)
  rw[EP,IE (c:=a+1) (by omega)]
  refine⟨by decide,λv2 aJ aA j ad m=>v2=v/\aJ=⟨b,0⟩/\aA=2 ^ (a+1)/\∃c:Nat,j=bQ c/\c<=a+1/\(∃dW l,S l dW ad/\bT F h dW ad/\l++rM (2 ^ K) a c=h7 (2 ^ K) (a+1))/\c=m,
   ⟨_,rfl,rfl,rfl,a+1,rfl,Nat.le_refl _,⟨y4,_,s1,m7,(ID _ _).symm⟩,rfl⟩,?_⟩
  rintro v2 aJ aA j ad m ⟨rfl,rfl,ET,c,aV,ai5,⟨y5,l,s2,oY,aT⟩,rfl⟩
  refine cd (λrK=>?_) λNr=>?_
  .cases c with
   | zero=>rw[aV] at rK;simp[bQ] at rK
   | succ c =>
    rw[EO] at aV
    have ai6:=ln (k:=c) (by omega)
    refine⟨_,(cell oY).1,?_⟩
    refine⟨λv3 bd bx bu bt i an m=>v3=v2/\bd=⟨b,0⟩/\bx=2 ^ (a+1)/\bu=2 ^ c/\bt=2 ^ K/\∃u:Nat,i=u/\u<=2 ^ K/\(∃dW,S (l++nN (2 ^ (a+1)) (2 ^ c) u) dW an/\bT F h dW an)/\m=2 ^ K-u,
     ⟨_,rfl,rfl,ET,aV,rfl,0,rfl,Nat.zero_le _,⟨y5,by simpa [nN] using s2,oY⟩,rfl⟩,?_⟩
    rintro v3 bd bx bu bt i an m ⟨rfl,rfl,V0,EU,IF,u,rfl,hu,⟨qH,bG,tG⟩,rfl⟩
    refine cd (λca=>?_) λdx=>?_
    .have EV:u<2 ^ K:=by omega
     have Ns:u<2 ^ 63:=by omega
     have y6:=VV (i:=u) (b:=c) Ns (by omega)
     have iV:=VV (i:=u) (b:=a+1) Ns (by omega)
     have tH:=aiY (i:=u) (b:=c) Ns (by omega)
     have oG:=VX u c;have ba:=VX u (a+1)
     have d1:=VW ⟨u,by omega⟩ ⟨c,by omega⟩
     have d2:=VW ⟨u,by omega⟩ ⟨a+1,by omega⟩
     simp only at d1 d2
     rw[V0,EU,y6,iV,tH,bf (n:=((u &&& 2 ^ c:Nat):Int)) (by omega) (by omega),bf (n:=((u &&& 2 ^ (a+1):Nat):Int)) (by omega) (by omega)]
     have jA:∀ {aK w3},S (l++nN (2 ^ (a+1)) (2 ^ c) (u+1)) w3 aK->bT F h w3 aK->∃aI,aI<2 ^ K-u/\v3=v3/\(⟨b,0⟩:aD)=⟨b,0⟩/\(2:Int) ^ (a+1)=2 ^ (a+1)/\(2:Int) ^ c=2 ^ c/\bt=2 ^ K/\∃u_:Nat,al ((u:Int)+1)=u_/\u_<=2 ^ K/\(∃dW,S (l++nN (2 ^ (a+1)) (2 ^ c) u_) dW aK/\bT F h dW aK)/\aI=2 ^ K-u_ :=
      λg1 g2=>⟨_,by omega,rfl,rfl,rfl,rfl,IF,u+1,bf (by omega) (by omega),by omega,⟨_,g1,g2⟩,rfl⟩
     refine cd (λbc=>?_) λbc=>?_
     .have tI:u/2 ^ c%2=0:=by
       have:decide (u &&& 2 ^ c=0)=true:=decide_eq_true (by omega)
       rw[d1] at this;exact of_decide_eq_true this
      have dS:=aiZ ⟨u,by omega⟩ ⟨c,by omega⟩ tI
      simp only at dS
      have azd:2 ^ c<=1024:=Nat.pow_le_pow_right (n:=2) (by decide) (show c<=10 by omega)
      rw[dS,bf (n:=((u+2 ^ c:Nat):Int)) (by omega) (by omega)]
      have b0:decide (((u &&& 2 ^ (a+1):Nat):Int)=0)=decide (u/2 ^ (a+1)%2=0):=by rw[<-d2];congr 1;simp
      rw[b0]
      have hlen:(l++nN (2 ^ (a+1)) (2 ^ c) u).length<1000000000000:=by
       have aa:=congrArg List.length aT
       rw[List.length_append] at aa
       have ad:=No (2 ^ K) (a+1)
       have an:=Nn (2 ^ (a+1)) (2 ^ c) u
       have aK:(a+1)*(a+1)*2 ^ K<=10*10*1024:=Nat.mul_le_mul (Nat.mul_le_mul (by omega) (by omega)) Nq
       rw[List.length_append];omega
      refine(Np.put _ _ _ ⟨(u:Int),((u+2 ^ c:Nat):Int),decide (u/2 ^ (a+1)%2=0)⟩ bG hlen).mono ?_
      rintro _ aK ⟨rfl,w3,bX,ai7⟩
      exact⟨_,rfl,bS rfl (jA (by rw[IC,if_pos tI,<-List.append_assoc];exact bX) (tG.trans ai7))⟩
     .have tI:¬u/2 ^ c%2=0:=λe=>by
       have:decide (u/2 ^ c%2=0)=true:=decide_eq_true e
       rw[<-d1] at this
       have:=of_decide_eq_true this
       omega
      exact jA (by rw[IC,if_neg tI,List.append_nil];exact bG) tG
    .have:u=2 ^ K:=by omega
     rw[EU,IE (by omega)]
     refine⟨by decide,_,by omega,rfl,rfl,V0,c,rfl,by omega,⟨qH,_,bG,tG,?_⟩,rfl⟩
     rw[this,List.append_assoc];exact aT
  .have:c=0:=by
    cases c with
    | zero=>rfl
    | succ c=>rw[aV,EO] at Nr;have:=ln (k:=c) (by omega);omega
   subst this
   simp only[rM,List.append_nil] at aT
   rw[ET,Int.mul_comm,EM]
   have rq:=m1 (show a+1+1<=11 by omega)
   rw[bf (by have:=m1 (Nat.zero_le (a+1+1));simp at this;omega) (by simp at rq;omega)]
   exact⟨_,by omega,rfl,rfl,a+1,rfl,by omega,⟨y5,by rw[<-aT];exact s2,oY⟩,rfl⟩
 .have ES:a=K:=by
   rcases Nat.lt_or_ge a K with h|h
   .have:=m1 (show a+1<=K by omega);omega
   .omega
  subst ES
  exact⟨y4,s1,m7⟩
theorem V1 {k:Nat}(ag:k<=10):eW prog 168 [U (2 ^ k)] (.bool true):=by
 intro h
 have au:=ln ag
 refine ai8 _ ?_
 unfold V2
 refine cd (λ_=>dg (by simp;omega) ⟨?_,bL.refl _⟩) λe=>absurd au.1 e
 rw[bf (n:=2 ^ k-1) (by omega) (by omega),SP k ag,bf (by decide) (by decide)]
 rfl
theorem ai9 {K:Nat}(eM:K<=10)(h:ak):ao 148 [U (2 ^ K)] h λv ah=>∃s,v=bb s/\cF 3 iN h ah s (gT K)/\bL h ah:=by
 refine ai_ _ ?_
 unfold V3
 refine(V1 eM).to λaa aE=>⟨_,rfl,bS rfl ?_⟩
 refine aja _ ?_
 unfold V4
 refine bM λb ad f2 a8 aC=>⟨_,rfl,?_⟩
 have dY:=EN eM
 refine(aiM (g:=186) (caps:=[bg ⟨b,0⟩]) (L:=gT K) (h:=ad) (by omega) λy S Np F an aI jh f0=>?_).mono ?_
 .exact ai1 eM Np jh (az (aI.get a8) rfl) λhY=>by rw[f0 b hY] at a8;cases a8
 .rintro _ an ⟨s,rfl,o,k⟩
  exact⟨_,rfl,_,rfl,o.Nj (aE.trans aC),(aE.trans aC).trans k⟩
def oa (iM:Int)(p:n_):List de:=[⟨iM,p.i,false⟩,⟨iM,p.j,false⟩,⟨iM,p.i,true⟩,⟨iM,p.j,true⟩]
def w4 (iM:Int)(K:Nat):List de:=(gT K).flatMap (oa iM)
theorem IG (iM:Int)(l:List n_):(l.flatMap (oa iM)).length=4*l.length:=by
 induction l with
 | nil=>rfl
 | cons p l dK=>simp[oa,dK];omega
def jt (first:Int)(sp:List pW)(n:Nat):List de:=(List.range n).flatMap λ(i:Nat)=>(if i<sp.length then [(⟨(sp.getD i ⟨0,0⟩).r,(sp.getD i ⟨0,0⟩).a,false⟩:de)] else [])++[⟨first+2,i,true⟩]
theorem EW (first:Int)(sp:List pW)(n:Nat):jt first sp (n+1)=jt first sp n++((if n<sp.length then [(⟨(sp.getD n ⟨0,0⟩).r,(sp.getD n ⟨0,0⟩).a,false⟩:de)] else [])++[⟨first+2,n,true⟩]):=by simp[jt,List.range_succ]
theorem Nt (first:Int)(sp:List pW)(n:Nat):(jt first sp n).length<=2*n:=by
 induction n with
 | zero=>simp[jt]
 | succ n dK=>rw[EW,List.length_append];split<;>simp<;>omega
def qI (first:Int)(sp:List pW)(n:Nat):List de:=(List.range n).flatMap λ(i:Nat)=>[(⟨first+2,i,false⟩:de),⟨(sp.getD i ⟨0,0⟩).r,(sp.getD i ⟨0,0⟩).a,true⟩]
theorem Nu (first:Int)(sp:List pW)(n:Nat):qI first sp (n+1)=qI first sp n++[(⟨first+2,n,false⟩:de),⟨(sp.getD n ⟨0,0⟩).r,(sp.getD n ⟨0,0⟩).a,true⟩]:=by simp[qI,List.range_succ]
theorem Nv (first:Int)(sp:List pW)(n:Nat):(qI first sp n).length=2*n:=by
 induction n with
 | zero=>rfl
 | succ n dK=>rw[Nu,List.length_append,dK];simp;omega
def iO (first:Int)(E:Nat):List de:=writes (first+2) (2 ^ E)++w4 (first+2) E
def ob (k:Nat)(s t:Int)(first:Int)(leaf:Nat):List de :=
 jt first (gM k s t first leaf) (2 ^ lb (iw k s t))++iO first (lb (iw k s t))++iO first (lb (iw k s t))++qI first (gM k s t first leaf) (gM k s t first leaf).length

import Derived.Test.YtegdpmgnhnccaaaGreatStoC
namespace Go.Proofs.Tryz
open Go Go.cR Go.RowKit
set_option maxRecDepth 8000
structure dk where
 r:Int
 a:Int
 w:Bool
 deriving DecidableEq
def iT (e:dk):List Value:=[U e.r,U e.a,.bool e.w]
theorem n8 (e:dk):(iT e).length=3:=rfl
theorem tk (e:dk):∀v∈iT e,v.oneCell'=true:=by simp[iT,Value.oneCell']
theorem tl:ph prog 59 145 3 (.agg #[U 0,U 0,.bool false]) 24:=⟨by kernel_rfl,by kernel_rfl,by kernel_rfl,by kernel_rfl,rfl⟩
def reads (fJ:Int)(n:Nat):List dk:=(List.range n).map λ(i:Nat)=>⟨fJ,(i:Int),false⟩
theorem rh (fJ:Int)(n:Nat):(reads fJ n).length=n:=by simp[reads]
theorem EV (fJ:Int)(n:Nat):reads fJ (n+1)=reads fJ n++[⟨fJ,n,false⟩]:=by simp[reads,aDQ]
def writes (fJ:Int)(n:Nat):List dk:=(List.range n).flatMap λ(i:Nat)=>[⟨fJ,(i:Int),false⟩,⟨fJ,(i:Int),true⟩]
theorem xW (fJ:Int)(n:Nat):writes fJ (n+1)=writes fJ n++[⟨fJ,n,false⟩,⟨fJ,n,true⟩]:=by simp[writes,aDQ]
theorem n6 (fJ:Int)(n:Nat):(writes fJ n).length=2*n:=by
 induction n with
 | zero=>rfl
 | succ n dI=>rw[xW,aDs,dI];simp;omega
theorem tm {α:Type}{k:Nat}{f:α->List Value}{h0 h af:ak}{s:ao}{l:List α}(o:ct k f h0 h s l)(FQ:bL h0 h)(bc:∀b,h b≠none->(∀q,s.q=some q->b≠q.b)->af b=h b):bL h0 af:=λb ar=>by
 rw[bc b (by rw[FQ b ar];exact ar) (λp aP e=>ar (e▸(o.bp aP).1)),FQ b ar]
theorem JU (fJ:Int)(n:Nat)(aK:n<=1000000)(h:ak):aq 80 [U fJ,U n] h λv af=>∃s,v=aZ s/\ct 3 iT h af s (reads fJ n)/\bL h af:=by
 refine akS fJ n ?_;unfold Xh;refine⟨λr s l i aa k=>r=fJ/\l=n/\∃j:Nat,i=j/\j<=n/\ct 3 iT h aa s (reads fJ j)/\bL h aa/\k=n-j,⟨_,rfl,rfl,0,rfl,aDM _,ct.gy _ _ _ _,bL.refl h,rfl⟩,?_⟩;rintro r s l i aa k ⟨rfl,rfl,j,rfl,aU,ly,aD,rfl⟩;refine cj (λcl=>?_) λdH=>?_
 .refine ct.push tl n8 tk ly [⟨r,j,false⟩] rfl rfl (λb ar=>aD.free ar) (by rw[rh];simp;omega) (by decide) ?_;intro cE ad cg f2 _ _;exact⟨_,by omega,rfl,rfl,j+1,bt,by omega,by rw[EV];exact cg,tm ly aD f2,rfl⟩
 .have:j=n:=by omega
  subst this;exact⟨_,rfl,ly,aD⟩
theorem OS (fJ:Int)(n:Nat)(aK:n<=1000000)(h:ak):aq 81 [U fJ,U n] h λv af=>∃s,v=aZ s/\ct 3 iT h af s (writes fJ n)/\bL h af:=by
 refine akT fJ n ?_;unfold Xi;refine(JU fJ n aK h).mono ?_;rintro _ aa ⟨s1,rfl,cy,aD⟩;have eD:=cy.rd;have hz:=eD.len;rw[rh] at hz;refine⟨_,rfl,λr s x l i ad k=>r=fJ/\x=s1/\l=s1.len/\∃j:Nat,i=j/\j<=n/\ct 3 iT aa ad s (writes fJ j)/\bL aa ad/\k=n-j,⟨_,rfl,rfl,rfl,0,rfl,aDM _,ct.gy _ _ _ _,bL.refl aa,rfl⟩,?_⟩;rintro r s x l i ad k ⟨rfl,rfl,rfl,j,rfl,aU,ly,aB,rfl⟩;refine cj (λcl=>?_) λdH=>?_
 .have kb:j<(reads r n).length:=by rw[rh];omega
  refine(eD.bA n8 aB).cA n8 kb λq _ aQ=>?_;have dd:(reads r n)[j]=⟨r,j,false⟩:=by simp[reads]
  rw[dd] at aQ;obtain⟨g1,g2,g3,_⟩:=aQ;refine⟨_,g1,_,g2,_,g3,bP λae an f3 b7 aG=>iH aG f3 b7 rfl λaJ bd b6 _=>?_⟩;refine⟨_,az b6 rfl,_,az b6 rfl,_,az b6 rfl,_,az b6 rfl,?_⟩;refine ct.push tl n8 tk (ly.bA bd) [⟨r,j,false⟩,⟨r,j,true⟩] rfl rfl (λb ar=>aB.free (bd.free ar)) (by rw[n6];simp;omega) (by decide) ?_;intro cE aR cz f5 _ _;exact⟨_,by omega,rfl,rfl,rfl,j+1,bt,by omega,by rw[xW];exact cz,tm (ly.bA bd) (aB.trans bd) f5,rfl⟩
 .have:j=n:=by omega
  subst this;exact⟨_,rfl,ly.FR aD,aD.trans aB⟩
def fP (k leaf d:Nat):Nat:=2 ^ d-1+leaf/2 ^ (k-d)
theorem JV {k leaf:Nat}(ah:k<=10)(aT:leaf<2 ^ k):fc prog 184 [U (2 ^ k),U leaf] (.bool true):=by
 intro h;refine akU _ _ ?_;unfold Xj;refine(IK ah).to λaa aD=>⟨_,rfl,dF rfl (dF (by simp) ⟨?_,aD⟩)⟩;have e:((2 ^ k:Nat):Int)=2 ^ k:=by simp
 rw[aED,pa]
theorem akV {k leaf d:Nat}(ah:k<=10)(aT:leaf<2 ^ k)(b4:d<=k):fc prog 185 [U (2 ^ k),U leaf,U d] (U (fP k leaf d)):=by
 intro h;refine akW _ _ _ ?_;unfold Xk;refine(IL ah).to λaa aD=>⟨_,rfl,?_⟩;refine(JV ah aT).to λad aB=>⟨_,rfl,b3 rfl (b3 (by simp) (b3 (by rw[bt];simp;omega) ?_))⟩;rw[bt (n:=(k:Int)-d)];refine⟨by omega,by omega,?_,aD.trans aB⟩;have aH:min (d:Int).toNat 64=d:=by omega
 have a_:min ((k:Int)-d).toNat 64=k-d:=by omega
 have b7:(leaf:Int).fdiv (2 ^ (k-d))=((leaf/2 ^ (k-d):Nat):Int):=by
  have e:((2 ^ (k-d):Nat):Int)=2 ^ (k-d):=by simp
  rw[<-e,Int.fdiv_eq_ediv_of_nonneg _ (Int.natCast_nonneg _)];rfl
 have ar:=lU (k:=d) (by omega);have hN:=lU ah;have b6:((2 ^ d:Nat):Int)=2 ^ d:=by simp
 have cG:((2 ^ k:Nat):Int)=2 ^ k:=by simp
 have hle:leaf/2 ^ (k-d)<=leaf:=aEY _ _;rw[aH,a_,b7,Int.one_mul,bt (n:=2 ^ d),bt (n:=2 ^ d-1)];unfold fP;generalize leaf/2 ^ (k-d)=z at *;have:1<=2 ^ d:=aD8 (by decide);rw[bt,show(2:Int) ^ d-1+(z:Int)=((2 ^ d-1+z:Nat):Int) by omega]
def nn (k leaf n:Nat):List Int:=(List.range n).map λd=>(fP k leaf d:Int)
theorem akX (k leaf n:Nat):nn k leaf (n+1)=nn k leaf n++[(fP k leaf n:Int)]:=by simp[nn,aDQ]
theorem uJ (k leaf n:Nat):(nn k leaf n).length=n:=by simp[nn]
theorem zR {α:Type}{f:α->Value}{h0 h af:ak}{s:ao}{l:List α}(o:c4 f h0 h s l)(FQ:bL h0 h)(bc:∀b,h b≠none->(∀q,s.q=some q->b≠q.b)->af b=h b):bL h0 af:=λb ar=>by
 rw[bc b (by rw[FQ b ar];exact ar) (λp aP e=>ar (e▸(o.bp aP).1)),FQ b ar]
theorem akY {k leaf:Nat}(ah:k<=10)(aT:leaf<2 ^ k)(h:ak):aq 164 [U (2 ^ k),U leaf] h λv af=>∃s,v=aZ s/\c4 eo h af s (nn k leaf (k+1))/\bL h af:=by
 refine akZ _ _ ?_;unfold Xl;refine(JV ah aT).to λaa aD=>⟨_,rfl,b3 rfl ?_⟩;refine(IL ah).to λad aB=>⟨_,rfl,?_⟩;rw[bt (n:=(k:Int)+1)];refine⟨λa b s l i an m=>a=2 ^ k/\b=leaf/\l=(k:Int)+1/\∃j:Nat,i=j/\j<=k+1/\c4 eo h an s (nn k leaf j)/\bL h an/\m=k+1-j,⟨_,rfl,rfl,rfl,0,rfl,aDM _,c4.gy _ _ _,aD.trans aB,rfl⟩,?_⟩;rintro a b s l i an m ⟨rfl,rfl,rfl,j,rfl,aU,ly,aG,rfl⟩;refine cj (λcl=>?_) λdH=>?_
 .refine(akV ah aT (show j<=k by omega)).to λaJ bd=>⟨_,rfl,?_⟩
  refine c4.push xL Cj (ly.bA bd) (fP k leaf j:Int) (λb ar=>aG.free (bd.free ar)) (by rw[uJ];omega) (by decide) ?_;intro cE aR cz f5 _;exact⟨_,by omega,rfl,rfl,rfl,j+1,bt,by omega,by rw[akX];exact cz,zR (ly.bA bd) (aG.trans bd) f5,rfl⟩
 .have:j=k+1:=by omega
  subst this;exact⟨_,rfl,ly,aG⟩
structure qD where
 r:Int
 a:Int
def mF (x:qD):List Value:=[U x.r,U x.a]
theorem mZ (x:qD):(mF x).length=2:=rfl
theorem JW (x:qD):∀v∈mF x,v.oneCell'=true:=by simp[mF,Value.oneCell']
theorem Xm:ph prog 215 218 2 (.agg #[U 0,U 0]) 16:=⟨by kernel_rfl,by kernel_rfl,by kernel_rfl,by kernel_rfl,rfl⟩
def qE (first:Int)(node:Nat)(s:Int)(n:Nat):List qD:=(List.range n).map λ(i:Nat)=>⟨first,(node:Int)*s+i⟩
theorem Xn (first:Int)(node:Nat)(s:Int)(n:Nat):qE first node s (n+1)=qE first node s n++[⟨first,(node:Int)*s+n⟩]:=by simp[qE,aDQ]
def qF (k:Nat)(s:Int)(first:Int)(leaf n:Nat):List qD:=(List.range n).flatMap λd=>qE first (fP k leaf d) s s.toNat
theorem JX (k:Nat)(s:Int)(first:Int)(leaf n:Nat):qF k s first leaf (n+1)=qF k s first leaf n++qE first (fP k leaf n) s s.toNat:=by simp[qF,aDQ]
theorem JY (k:Nat)(s:Int)(first:Int)(leaf n:Nat):(qF k s first leaf n).length=n*s.toNat:=by
 induction n with
 | zero=>simp[qF]
 | succ n dI=>rw[JX,aDs,dI];simp[qE,aFP]
def ru (first:Int)(n:Nat):List qD:=(List.range n).map λ(i:Nat)=>⟨first+1,(i:Int)⟩
theorem Xo (first:Int)(n:Nat):ru first (n+1)=ru first n++[⟨first+1,n⟩]:=by simp[ru,aDQ]
def gC (k:Nat)(s t:Int)(first:Int)(leaf:Nat):List qD:=qF k s first leaf (k+1)++ru first t.toNat
theorem IW {k:Nat}{s t:Int}(o:lG k s t)(first:Int)(leaf:Nat):((gC k s t first leaf).length:Int)=hL k s t-1:=by
 have:=o.s;have:=o.t;rw[gC,aDs,JY];simp[ru,hL];obtain⟨cE,rfl⟩:=aE2 (show 0<=s by omega);simp;rw[Int.mul_comm];omega
theorem OT {k leaf d:Nat}(ah:k<=10)(aT:leaf<2 ^ k)(b4:d<=k):fP k leaf d<=2047:=by
 unfold fP;have aa:2 ^ d<=2 ^ 10:=aDy (by decide) (by omega);have ad:2 ^ k<=2 ^ 10:=aDy (by decide) ah;have an:leaf/2 ^ (k-d)<=leaf:=aEY _ _;generalize leaf/2 ^ (k-d)=z at *;simp at aa ad;omega
theorem Xp {k:Nat}{s t:Int}(o:lG k s t)(first:Int)(bc:0<=first/\first<=1000){leaf:Nat}(aT:leaf<2 ^ k)(h:ak) :
 aq 136 [.agg #[U (2 ^ k),U s,U t],U first,U leaf] h λv af=>∃x,v=aZ x/\ct 2 mF h af x (gC k s t first leaf)/\bL h af:=by
 have aV:=o.s;have bG:=o.t;have ah:=o.k;refine ak0 _ _ _ _ _ ?_;unfold Xq;refine bP λae aa f1 aH aD=>ga aH rfl ?_;refine(akY o.k aT aa).mono ?_;rintro _ ad ⟨s1,rfl,cy,aB⟩;have eD:=cy.rd;have hz:=eD.len;rw[uJ] at hz;refine⟨_,rfl,λa q x y l i an m=>first=a/\q=⟨ae,0⟩/\s1=y/\l=s1.len/\∃j:Nat,i=j/\j<=k+1/\ct 2 mF ad an x (qF k s first leaf j)/\bL ad an/\m=k+1-j,⟨_,rfl,rfl,rfl,rfl,0,rfl,aDM _,ct.gy _ _ _ _,bL.refl _,rfl⟩,?_⟩;rintro a q x y l i an m ⟨rfl,rfl,rfl,rfl,j,rfl,aU,ly,aG,rfl⟩;have b7:=(aB.trans aG).get aH;refine cj (λcl=>?_) λdH=>?_
 .have kb:j<(nn k leaf (k+1)).length:=by rw[uJ];omega
  have dd:(nn k leaf (k+1))[j]=(fP k leaf j:Int):=by simp[nn]
  have Cy:=OT ah aT (show j<=k by omega);refine(eD.bA aG).cA kb λp _ a1=>⟨fP k leaf j,by rw[<-dd];exact a1,ga b7 rfl ?_⟩;refine⟨λa q x ja y l i n v aJ m=>first=a/\q=⟨ae,0⟩/\ja=fP k leaf j/\s1=y/\l=s1.len/\i=j/\s=n/\∃u:Nat,v=u/\u<=s.toNat/\ct 2 mF ad aJ x (qF k s first leaf j++qE first (fP k leaf j) s u)/\bL ad aJ/\m=s.toNat-u,
   ⟨_,rfl,rfl,rfl,rfl,rfl,rfl,rfl,0,rfl,aDM _,by simpa [qE] using ly,aG,rfl⟩,?_⟩
  rintro a q x ja y l i n v aJ m ⟨rfl,rfl,rfl,rfl,rfl,rfl,rfl,u,rfl,hu,nJ,bd,rfl⟩;refine cj (λmE=>?_) λuw=>?_
  .refine ga ((aB.trans bd).get aH) rfl ?_;have hm:(0:Int)<=(fP k leaf j:Int)*s/\(fP k leaf j:Int)*s<=2047*8:=Xr (by omega) (by omega) (by omega) (by omega);rw[bt (n:=(fP k leaf j:Int)*s),bt (n:=(fP k leaf j:Int)*s+(u:Int))];refine ct.push Xm mZ JW nJ [⟨first,(fP k leaf j:Int)*s+u⟩] rfl rfl (λb ar=>bd.free ar) (by
    have:j*s.toNat<=11*8:=aDP (by omega) (by omega);rw[aDs,JY];simp[qE];omega) (by decide) ?_
   intro cE aR cz f5 _ _;exact⟨_,by omega,rfl,rfl,rfl,rfl,rfl,rfl,rfl,u+1,bt,by omega,by rw[Xn,<-aDD];exact cz,tm nJ bd f5,rfl⟩
  .have:u=s.toNat:=by omega
   subst this;exact⟨_,by omega,rfl,rfl,rfl,rfl,j+1,bt,by omega,by rw[JX];exact nJ,bd,rfl⟩
 .have:j=k+1:=by omega
  subst this;refine ga b7 rfl ?_;refine⟨λa x n i aJ m=>first=a/\t=n/\∃u:Nat,i=u/\u<=t.toNat/\ct 2 mF ad aJ x (qF k s first leaf (k+1)++ru first u)/\bL ad aJ/\m=t.toNat-u,⟨_,rfl,rfl,0,rfl,aDM _,by simpa [ru] using ly,aG,rfl⟩,?_⟩;rintro a x n i aJ m ⟨rfl,rfl,u,rfl,hu,nJ,bd,rfl⟩;refine cj (λmE=>?_) λuw=>?_
  .rw[bt (n:=first+1)];refine ct.push Xm mZ JW nJ [⟨first+1,u⟩] rfl rfl (λb ar=>bd.free ar) (by
    have:(k+1)*s.toNat<=11*8:=aDP (by omega) (by omega);rw[aDs,JY];simp[ru];omega) (by decide) ?_
   intro cE aR cz f5 _ _;exact⟨_,by omega,rfl,rfl,u+1,bt,by omega,by rw[Xo,<-aDD];exact cz,tm nJ bd f5,rfl⟩
  .have:u=t.toNat:=by omega
   subst this;exact⟨_,rfl,nJ.FR (aD.trans aB),(aD.trans aB).trans bd⟩
end Go.Proofs.Tryz
namespace Go.Proofs.Tryz
open Go Go.cR Go.RowKit
set_option maxRecDepth 8000
abbrev l6:ak:=λ_=>none
def bT (F:Nat->Prop)(h:ak)(dZ:Nat->Prop)(af:ak):Prop:=(∀b,dZ b->F b∨h b=none)/\(∀b,h b≠none->¬F b->af b=h b)/\(∀b,af b=none->h b=none)
theorem bT.refl (F:Nat->Prop)(h:ak):bT F h F h:=⟨λ_ h=> .inl h,λ_ _ _=>rfl,λ_ h=>h⟩
theorem bT.out {F dZ:Nat->Prop}{h af:ak}(m:bT F h dZ af){b:Nat}(ar:h b≠none)(aK:¬F b):¬dZ b:=λbc=>by
 rcases m.1 b bc with h|h
 .exact aK h
 .exact ar h
theorem bT.trans {F dZ Xs:Nat->Prop}{h af hQ:ak}(m:bT F h dZ af)(np:bT dZ af Xs hQ):bT F h Xs hQ:=by
 refine⟨λb ar=>?_,λb ar aK=>?_,λb ar=>m.2.2 b (np.2.2 b ar)⟩
 .rcases np.1 b ar with h|h
  .exact m.1 b h
  .exact .inr (m.2.2 b h)
 .rw[np.2.1 b (by rw[m.2.1 b ar aK];exact ar) (m.out ar aK),m.2.1 b ar aK]
theorem hj {h af:ak}(k:bL h af)(F:Nat->Prop):bT F h F af:=⟨λ_ h=> .inl h,λb ar _=>k b ar,λ_ ar=>k.free ar⟩
theorem bT.get {F dZ:Nat->Prop}{h af:ak}(m:bT F h dZ af){b:Nat}{o:Obj}(e:h b=some o)(aK:¬F b):af b=some o:=by rw[m.2.1 b (by rw[e];simp) aK,e]
theorem bT.bA {F dZ:Nat->Prop}{h0 h af:ak}(m:bT F h dZ af)(k:bL h0 h)(hh:∀b,F b->h0 b=none):bL h0 af/\∀b,dZ b->h0 b=none:=by
 refine⟨λb ar=>?_,λb ar=>?_⟩
 .rw[m.2.1 b (by rw[k b ar];exact ar) (λh=>ar (hh b h)),k b ar]
 .rcases m.1 b ar with h|h
  .exact hh b h
  .exact k.free h
theorem OU {α:Type}{k:Nat}{f:α->List Value}{h0 h:ak}{s:ao}{l:List α}(o:ct k f l6 h s l)(aV:∀p,s.q=some p->h0 p.b=none):ct k f h0 h s l:=by
 refine⟨o.len,o.cap,?_⟩;rcases o.own with aa|⟨q,c,t,aa,ad,an,aJ,aR⟩
 .exact .inl aa
 .exact .inr ⟨q,c,t,aa,aV q aa,an,aJ,aR⟩
def hC (b:Nat)(s:ao):Nat->Prop:=λx=>x=b∨∃p,s.q=some p/\x=p.b
structure hR {α:Type}(k:Nat)(f:α->List Value)(T:TypeId)(h:ak)(b:Nat)(s:ao)(l:List α):Prop where
 cell:h b=some (.cells #[aZ s] T (0,0))
 own:ct k f l6 h s l
 ne:∀p,s.q=some p->p.b≠b
theorem hR.dK {α:Type}{k:Nat}{f:α->List Value}{T:TypeId}{h:ak}{b:Nat}{s:ao}{l:List α}(B:hR k f T h b s l){x:Nat}(ai:hC b s x):h x≠none:=by
 rcases ai with rfl|⟨p,aP,rfl⟩
 .rw[B.cell];simp
 .exact(B.own.bp aP).2
theorem hR.move {α:Type}{k:Nat}{f:α->List Value}{T:TypeId}{h af:ak}{b:Nat}{s:ao}{l:List α}(B:hR k f T h b s l)(aV:∀x,hC b s x->af x=h x):hR k f T af b s l :=
 ⟨by rw[aV b (.inl rfl)];exact B.cell,B.own.move λp aP=>aV _ (.inr ⟨p,aP,rfl⟩),B.ne⟩
theorem hR.bA {α:Type}{k:Nat}{f:α->List Value}{T:TypeId}{h af:ak}{b:Nat}{s:ao}{l:List α}(B:hR k f T h b s l)(c:bL h af):hR k f T af b s l:=B.move λ_ ai=>c _ (B.dK ai)
theorem hR.cells {α:Type}{k:Nat}{f:α->List Value}{T:TypeId}{h:ak}{b:Nat}{s:ao}{l:List α}(B:hR k f T h b s l){x:Nat}(ai:hC b s x):∃c t z7,h x=some (.cells c t z7):=by
 rcases ai with rfl|⟨p,aP,rfl⟩
 .exact⟨_,_,_,B.cell⟩
 .rcases B.own.own with ⟨aK,_⟩|⟨q,c,t,aj,_,a1,_,_⟩
  .rw[aK] at aP;cases aP
  .rw[aj] at aP;cases aP;exact⟨_,_,_,a1⟩
theorem hR.app {α:Type}{P:Program}{xX el:TypeId}{k:Nat}{z:Value}{by_:Nat}(rt:ph P xX el k z by_){f:α->List Value}(bc:∀x,(f x).length=k)(one:∀x,∀v∈f x,v.oneCell'=true){T:TypeId}{h:ak}{b:Nat}{s y:ao}{l m:List α}
 (B:hR k f T h b s l) (iO:fR f h y m) (room:(l.length+m.length)*by_<=140737488355328) (kX:0<by_) {K:ak->Prop}
 (ah:∀cE af,hR k f T af b cE (l++m)->bT (hC b s) h (hC b cE) af->K af):eI P xX s (.s y) h λs2 ad=>aW ad ⟨b,0⟩ [aZ s2] K:=by
 refine ct.app rt bc one B.own iO (λ_ _=>rfl) room kX ?_;intro cE ad cg f2 h6 z8;have kY:h b≠none:=by rw[B.cell];simp
 have hN:ad b=h b:=f2 b kY λq aj e=>B.ne q aj e.symm;have ne':∀p,cE.q=some p->p.b≠b:=λp aP e=>by
  rcases h6 p aP with ⟨q,aj,h⟩|h
  .exact B.ne q aj (h▸e)
  .rw[e] at h;exact kY h
 refine⟨_,_,by rw[hN];exact B.cell,by simp,ah cE _ ⟨by rw[eC];rfl,cg.move λp aP=>cu _ _ (ne' p aP),ne'⟩ ⟨?_,?_,?_⟩⟩
 .rintro x (rfl|⟨p,aP,rfl⟩)
  .exact .inl (.inl rfl)
  .rcases h6 p aP with ⟨q,aj,h⟩|h
   .exact .inl (.inr ⟨q,aj,h⟩)
   .exact .inr h
 .intro x ai aK
  have OV:x≠b:=λe=>aK (.inl e);rw[cu _ _ OV,f2 x ai λq aj e=>aK (.inr ⟨q,aj,e⟩)]
 .intro x ai
  by_cases e:x=b
  .rw[e,eC] at ai;cases ai
  .rw[cu _ _ e] at ai;exact z8 x ai
theorem hR.push {α:Type}{P:Program}{xX el:TypeId}{k:Nat}{z:Value}{by_:Nat}(rt:ph P xX el (k+1) z by_){f:α->List Value}(bc:∀x,(f x).length=k+1)(one:∀x,∀v∈f x,v.oneCell'=true){T:TypeId}{h:ak}{b:Nat}{s:ao}{l:List α}
 (B:hR (k+1) f T h b s l) (m:List α) {t:TypeId} {c:Array Value} (a1:c=(m.flatMap f).toArray) {n:Nat} (aK:n=m.length) (room:(l.length+m.length)*by_<=140737488355328) (kX:0<by_) {K:ak->Prop}
 (ah:∀cE af,hR (k+1) f T af b cE (l++m)->bT (hC b s) h (hC b cE) af->K af):bg h (.cells c t) λae aa=>eI P xX s (.s ⟨some ⟨ae,0⟩,n,n,none⟩) aa λs2 ad=>aW ad ⟨b,0⟩ [aZ s2] K :=
 bP λae aa f1 aH aD=>hR.app rt bc one (B.bA aD) (ct.qs (k:=k+1) bc (h0:=h) f1 aH a1 aK).rd room kX λcE af qG np=>ah cE af qG ((hj aD _).trans np)
structure OW {α:Type}(y:Value)(ak1:α->Value)(S:List α->(Nat->Prop)->ak->Prop)(N:Nat):Prop where
 put:∀l F h x,S l F h->l.length<N->fL prog y [ak1 x] h λv af=>v= .bool true/\∃dZ,S (l++[x]) dZ af/\bT F h dZ af
 bA:∀l F h af,S l F h->(∀b,F b->af b=h b)->S l F af
 dK:∀l F h b,S l F h->F b->h b≠none
 one:y.oneCell'=true
structure oV where
 i:Int
 j:Int
 up:Bool
def jn (e:oV):List Value:=[U e.i,U e.j,.bool e.up]
theorem Cz (e:oV):(jn e).length=3:=rfl
theorem Xt (e:oV):∀v∈jn e,v.oneCell'=true:=by simp[jn,Value.oneCell']
theorem ak2:ph prog 258 261 3 (.agg #[U 0,U 0,.bool false]) 24:=⟨by kernel_rfl,by kernel_rfl,by kernel_rfl,by kernel_rfl,rfl⟩
theorem ak3 {g:FuncId}{caps:List Value}{L:List oV}{h:ak}(eg:L.length<=1000000000000)
 (ak4:∀(y:Value) (S:List oV->(Nat->Prop)->ak->Prop),OW y (λx=> .agg (jn x).toArray) S 1000000000000->∀F aa,bL h aa->S [] F aa->(∀b,F b->h b=none)->aq g (y::caps) aa λ_ ad=>∃dZ,S L dZ ad/\bT F aa dZ ad) :
 aq 187 [.func (.func g) #[] caps.toArray] h λv af=>∃s,v=aZ s/\ct 3 jn h af s L/\bL h af:=by
 refine ak5 _ ?_;unfold Xu;have key:aq 203 [aZ ⟨none,0,0,none⟩,.func (.func g) #[] caps.toArray] h λv af=>∃s,v=aZ s/\ct 3 jn h af s L/\bL h af:=by
  refine ak6 ⟨none,0,0,none⟩ _ ?_;unfold Xv;refine bP λae aa f1 aH aD=>⟨trivial,λz k ah aQ=>?_⟩;have ak7:k≠ae:=λe=>by rw[e,aH] at ah;cases ah
  have sr:ae≠k:=λe=>ak7 e.symm;have rk:bL aa (bD aa k (eA z)):=(bL.refl aa).bD ah _;have ln:h k=none:=aD.free ah;let S:List oV->(Nat->Prop)->ak->Prop:=λl F af=>af k=some (eA z)/\∃s,hR 3 jn 258 af ae s l/\F=(λx=>x=k∨hC ae s x);have Xw:∀ {af:ak} {s:ao} {l:List oV} {o:Loop},hR 3 jn 258 af ae s l->af k=some (.loop o)->¬hC ae s k:=λB e ai=>by
   obtain⟨c,t,z7,h⟩:=B.cells ai;rw[e] at h;cases h
  have sink:OW (lM k) (λx=> .agg (jn x).toArray) S 1000000000000:=by
   refine⟨?_,?_,?_,rfl⟩
   .rintro l F ad x ⟨bn,s,tn,rfl⟩ aT;obtain⟨ay,aA,t1⟩:=x;refine⟨rfl,rfl,aQ ay aA t1 ad _ bn ?_⟩;refine bP λax an f3 b7 aG=>iH aG f3 b7 rfl λaJ bd b6 _=>⟨bd.get bn,?_⟩;have OX:¬hC ae s k:=Xw tn bn;have cG:bD aJ k (dn z) ae=some (.cells #[aZ s] 258 (0,0)):=by rw[cu _ _ sr];exact bd.get tn.cell
    have ak8:ax≠k:=λe=>by rw[e,bn] at f3;cases f3
    have dP:bD aJ k (dn z) ax=some (.cells #[U ay,U aA,.bool t1] 261 (0,0)):=by rw[cu _ _ ak8];exact b6
    have ak9:hR 3 jn 258 (bD aJ k (dn z)) ae s l:=(tn.bA bd).move λx ai=>cu _ _ λe=>OX (e▸ai);refine⟨s,az cG rfl,ay,az dP rfl,aA,az dP rfl,t1,az dP rfl,hR.push ak2 Cz Xt ak9 [⟨ay,aA,t1⟩] rfl rfl (by simp;omega) (by decide) λcE bj ak_ FT=>?_⟩;have ala:bj k=some (dn z):=FT.get (eC _ _ _) OX;have alb:¬hC ae cE k:=FT.out (by rw[eC];simp) OX;refine⟨ala,rfl,_,⟨eC _ _ _,cE,ak_.move λx ai=>cu _ _ (λe=>alb (e▸ai)),rfl⟩,?_,?_,?_⟩
    .rintro x (rfl|ai)
     .exact .inl (.inl rfl)
     .rcases FT.1 x ai with h|h
      .exact .inl (.inr h)
      .by_cases uK:x=k
       .exact .inl (.inl uK)
       .rw[cu _ _ uK] at h;exact .inr (bd.free h)
    .intro x ai aK
     have uK:x≠k:=λe=>aK (.inl e);have Xx:bD aJ k (dn z) x=ad x:=by rw[cu _ _ uK,bd x ai]
     rw[cu _ _ uK,FT.2.1 x (by rw[Xx];exact ai) (λhh=>aK (.inr hh)),Xx]
    .intro x ai
     have uK:x≠k:=λe=>by rw[e,eC] at ai;cases ai
     rw[cu _ _ uK] at ai;have Xy:=FT.2.2 x ai;rw[cu _ _ uK] at Xy;exact bd.free Xy
   .rintro l F ad an ⟨bn,s,tn,rfl⟩ hh;exact⟨by rw[hh k (.inl rfl)];exact bn,s,tn.move λx ai=>hh x (.inr ai),rfl⟩
   .rintro l F ad b ⟨bn,s,tn,rfl⟩ (rfl|ar)
    .rw[bn];simp
    .exact tn.dK ar
  have hf:S [] (λx=>x=k∨hC ae ⟨none,0,0,none⟩ x) (bD aa k (eA z)) :=
   ⟨eC _ _ _,_,⟨by rw[cu _ _ sr];exact aH,ct.gy _ _ _ _,λp aP=>by cases aP⟩,rfl⟩
  have f0:∀b,(b=k∨hC ae ⟨none,0,0,none⟩ b)->h b=none:=by
   rintro b (rfl|rfl|⟨p,aP,_⟩)
   .exact ln
   .exact f1
   .cases aP
  refine⟨rfl,?_⟩;refine(ak4 (lM k) S sink _ _ (aD.trans rk) hf f0).mono ?_;rintro _ ad ⟨dZ,⟨bn,s,tn,rfl⟩,m⟩;obtain⟨bW,FU⟩:=m.bA (aD.trans rk) f0;have tp:=Xw tn bn;refine⟨bn,s,az (by rw[cu _ _ sr];exact tn.cell) rfl,s,rfl,?_,bW.bD ln _⟩;exact OU (tn.own.move λp aP=>cu _ _ λe=>tp (.inr ⟨p,aP,e.symm⟩)) λp aP=>FU _ (.inr (.inr ⟨p,aP,rfl⟩))
 refine key.mono ?_;rintro _ aa ⟨s,rfl,o,k⟩;exact⟨_,rfl,_,rfl,o,k⟩
end Go.Proofs.Tryz
namespace Go.Proofs.Tryz
open Go Go.cR Go.RowKit
set_option maxRecDepth 8000
def jJ (n:Int):Nat:=if n<1 then 0 else min (Lib.bitLen (n-1).toNat) 62
theorem JZ (n:Int):ny n=2 ^ jJ n:=by unfold ny jJ;split<;>rfl
theorem OY {n:Int}{k:Nat}(ah:k<=62)(h:n<=2 ^ k):jJ n<=k:=by
 unfold jJ;split
 .omega
 .have cc:((2 ^ k:Nat):Int)=2 ^ k:=by simp
  have:=Lib.bitLen_le (n-1).toNat k (by omega) (by omega);omega
theorem FV (j:Nat):(2:Int)*2 ^ j=2 ^ (j+1):=by rw[Int.pow_succ];omega
theorem Xz {i b:Nat}(hi:i<2 ^ 63)(ar:b<63):oF .and .i64 (i:Int) ((2:Int) ^ b)=((i &&& 2 ^ b:Nat):Int):=by
 have e:((2:Int) ^ b)=((2 ^ b:Nat):Int):=by simp
 have aa:2 ^ b<2 ^ 64:=aFA (by decide) (by omega);rw[e];show(((BitVec.ofInt 64 (i:Int) &&& BitVec.ofInt 64 ((2 ^ b:Nat):Int)).toNat:Nat):Int)=_;rw[BitVec.toNat_and,aFB,aFB,aFQ,aFQ,aEF (by omega),aEF aa]
theorem alc {i b:Nat}(hi:i<2 ^ 63)(ar:b<63):oF .or .i64 (i:Int) ((2:Int) ^ b)=((i ||| 2 ^ b:Nat):Int):=by
 have e:((2:Int) ^ b)=((2 ^ b:Nat):Int):=by simp
 have aa:2 ^ b<2 ^ 64:=aFA (by decide) (by omega);rw[e];show(((BitVec.ofInt 64 (i:Int) ||| BitVec.ofInt 64 ((2 ^ b:Nat):Int)).toNat:Nat):Int)=_;rw[BitVec.toNat_or,aFB,aFB,aFQ,aFQ,aEF (by omega),aEF aa]
theorem XA:∀i:Fin 1024,∀b:Fin 11,decide (i.val &&& 2 ^ b.val=0)=decide (i.val/2 ^ b.val%2=0):=by decide +kernel
theorem ald:∀i:Fin 1024,∀b:Fin 10,i.val/2 ^ b.val%2=0->i.val ||| 2 ^ b.val=i.val+2 ^ b.val:=by decide +kernel
theorem XB (i b:Nat):i &&& 2 ^ b<=i:=Nat.and_le_left
def ov (k j n:Nat):List oV:=((List.range n).filter λi=>decide (i/j%2=0)).map λ(i:Nat)=>(⟨(i:Int),((i+j:Nat):Int),decide (i/k%2=0)⟩:oV)
theorem J0 (k j n:Nat):ov k j (n+1)=ov k j n++(if n/j%2=0 then [(⟨(n:Int),((n+j:Nat):Int),decide (n/k%2=0)⟩:oV)] else []):=by
 unfold ov;rw[aDQ,aFu,aD4];congr 1;by_cases h:n/j%2=0<;>simp[h]
theorem OZ (k j n:Nat):(ov k j n).length<=n:=by
 unfold ov;rw[aDF];exact aE_ (aEQ _ _) (by simp)
def ss (n a:Nat):Nat->List oV
 | 0=>[]
 | b+1=>ov (2 ^ (a+1)) (2 ^ b) n++ss n a b
theorem ale (n a b:Nat):(ss n a b).length<=b*n:=by
 induction b with
 | zero=>simp[ss]
 | succ b dI=>simp only[ss,aDs];have:=OZ (2 ^ (a+1)) (2 ^ b) n;rw[aFP];omega
def hl (n a:Nat):List oV:=(List.range a).flatMap λa=>ss n a (a+1)
theorem J1 (n a:Nat):hl n (a+1)=hl n a++ss n a (a+1):=by simp[hl,aDQ]
theorem O0 (n a:Nat):(hl n a).length<=a*a*n:=by
 induction a with
 | zero=>simp[hl]
 | succ a dI =>
  rw[J1,aDs];have aa:=ale n a (a+1);have ad:(a+1)*(a+1)*n=a*a*n+a*n+(a+1)*n:=by
   have e:(a+1)*(a+1)=a*a+a+(a+1):=by rw[aEU,aEM];omega
   rw[e,aEM,aEM]
  omega
def gk (K:Nat):List oV:=hl (2 ^ K) K
theorem z_ {K:Nat}(eL:K<=10):(gk K).length<=102400:=by
 have aa:=O0 (2 ^ K) K;have ad:2 ^ K<=2 ^ 10:=aDy (by decide) eL;have an:K*K<=10*10:=aDP eL eL;have aJ:K*K*2 ^ K<=100*1024:=aDP an ad;unfold gk;omega
def b0 (c:Nat):Int:=if c=0 then 0 else 2 ^ (c-1)
theorem FW (c:Nat):b0 (c+1)=2 ^ c:=by simp[b0]
theorem J2 {c:Nat}(a1:c<=10):al (((2:Int) ^ c).tdiv 2)=b0 c:=by
 cases c with
 | zero=>rw[show((2:Int) ^ 0).tdiv 2=0 from rfl,bt];rfl
 | succ c =>
  have ar:=lU (k:=c) (by omega);rw[FW,<-FV];have:(2*(2:Int) ^ c).tdiv 2=2 ^ c:=by rw[Int.tdiv_eq_ediv_of_nonneg (by omega)];omega
  rw[this,bt]
theorem alf {K:Nat}(eL:K<=10){y:Value}{S:List oV->(Nat->Prop)->ak->Prop}(O1:OW y (λx=> .agg (jn x).toArray) S 1000000000000){F:Nat->Prop}{h:ak}{b:Nat}
 (hf:S [] F h) (a1:bx h b 0=some (U (2 ^ K))) (ar:¬F b) :
 aq 204 [y,bm ⟨b,0⟩] h λ_ ad=>∃dZ,S (gk K) dZ ad/\bT F h dZ ad:=by
 have aK:h b≠none:=xY a1;have cell:∀ {dZ af},bT F h dZ af->bx af b 0=some (U (2 ^ K))/\¬dZ b:=λm=>⟨by rw[qH (m.2.1 b aK ar),a1],m.out aK ar⟩;have alg:=lU eL;have O2:2 ^ K<=1024:=aDy (n:=2) (by decide) eL;have O3:((2 ^ K:Nat):Int)=2 ^ K:=by simp
 refine alh y ⟨b,0⟩ ?_;unfold XC;refine⟨λv q n aa m=>v=y/\q=⟨b,0⟩/\∃a:Nat,n=2 ^ (a+1)/\a<=K/\(∃dZ,S (hl (2 ^ K) a) dZ aa/\bT F h dZ aa)/\m=K-a,⟨_,rfl,rfl,0,rfl,aDM _,⟨F,hf,bT.refl _ _⟩,rfl⟩,?_⟩;rintro v q n aa m ⟨rfl,rfl,a,FX,bY,⟨Aa,s1,mu⟩,rfl⟩;refine⟨_,(cell mu).1,cj (λhle=>?_) λCA=>?_⟩
 .have FY:a<K:=by
   rcases aDZ a K with h|h
   .exact h
   .have:a=K:=by omega
    subst this;rw[<-FV] at FX;omega
  have ali:=lU (k:=a+1) (by omega);have aB5:=lU (k:=a) (by omega);rw[FX,J2 (c:=a+1) (by omega)];refine⟨by decide,λv2 aI aA j ad m=>v2=v/\aI=⟨b,0⟩/\aA=2 ^ (a+1)/\∃c:Nat,j=b0 c/\c<=a+1/\(∃dZ l,S l dZ ad/\bT F h dZ ad/\l++ss (2 ^ K) a c=hl (2 ^ K) (a+1))/\c=m,
   ⟨_,rfl,rfl,rfl,a+1,rfl,aDt _,⟨Aa,_,s1,mu,(J1 _ _).symm⟩,rfl⟩,?_⟩
  rintro v2 aI aA j ad m ⟨rfl,rfl,CB,c,aU,alj,⟨Ab,l,s2,pH,aT⟩,rfl⟩;refine cj (λqB=>?_) λO4=>?_
  .cases c with
   | zero=>rw[aU] at qB;simp[b0] at qB
   | succ c =>
    rw[FW] at aU;have O5:=lU (k:=c) (by omega);refine⟨_,(cell pH).1,?_⟩;refine⟨λv3 bb bB br bq i an m=>v3=v2/\bb=⟨b,0⟩/\bB=2 ^ (a+1)/\br=2 ^ c/\bq=2 ^ K/\∃u:Nat,i=u/\u<=2 ^ K/\(∃dZ,S (l++ov (2 ^ (a+1)) (2 ^ c) u) dZ an/\bT F h dZ an)/\m=2 ^ K-u,
     ⟨_,rfl,rfl,CB,aU,rfl,0,rfl,aDM _,⟨Ab,by simpa [ov] using s2,pH⟩,rfl⟩,?_⟩
    rintro v3 bb bB br bq i an m ⟨rfl,rfl,XD,FZ,J3,u,rfl,hu,⟨rv,bz,uL⟩,rfl⟩;refine cj (λcl=>?_) λdH=>?_
    .have F1:u<2 ^ K:=by omega
     have O6:u<2 ^ 63:=by omega
     have Ac:=Xz (i:=u) (b:=c) O6 (by omega);have iX:=Xz (i:=u) (b:=a+1) O6 (by omega);have uM:=alc (i:=u) (b:=c) O6 (by omega);have oI:=XB u c;have bf:=XB u (a+1);have d1:=XA ⟨u,by omega⟩ ⟨c,by omega⟩;have d2:=XA ⟨u,by omega⟩ ⟨a+1,by omega⟩;simp only at d1 d2;rw[XD,FZ,Ac,iX,uM,iK (n:=((u &&& 2 ^ c:Nat):Int)) (by omega) (by omega),iK (n:=((u &&& 2 ^ (a+1):Nat):Int)) (by omega) (by omega)];have ju:∀ {aJ xZ},S (l++ov (2 ^ (a+1)) (2 ^ c) (u+1)) xZ aJ->bT F h xZ aJ->∃aG,aG<2 ^ K-u/\v3=v3/\(⟨b,0⟩:aF)=⟨b,0⟩/\(2:Int) ^ (a+1)=2 ^ (a+1)/\(2:Int) ^ c=2 ^ c/\bq=2 ^ K/\∃qI:Nat,al ((u:Int)+1)=qI/\qI<=2 ^ K/\(∃dZ,S (l++ov (2 ^ (a+1)) (2 ^ c) qI) dZ aJ/\bT F h dZ aJ)/\aG=2 ^ K-qI :=
      λg1 g2=>⟨_,by omega,rfl,rfl,rfl,rfl,J3,u+1,bt,by omega,⟨_,g1,g2⟩,rfl⟩
     refine cj (λbn=>?_) λbn=>?_
     .have uN:u/2 ^ c%2=0:=by
       have:decide (u &&& 2 ^ c=0)=true:=pa;rw[d1] at this;exact aDN this
      have ep:=ald ⟨u,by omega⟩ ⟨c,by omega⟩ uN;simp only at ep;have aB6:2 ^ c<=1024:=aDy (n:=2) (by decide) (show c<=10 by omega);rw[ep,iK (n:=((u+2 ^ c:Nat):Int)) (by omega) (by omega)];have b7:decide (((u &&& 2 ^ (a+1):Nat):Int)=0)=decide (u/2 ^ (a+1)%2=0):=by rw[<-d2];congr 1;simp
      rw[b7];have hlen:(l++ov (2 ^ (a+1)) (2 ^ c) u).length<1000000000000:=by
       have aa:=congrArg List.length aT;rw[aDs] at aa;have ad:=O0 (2 ^ K) (a+1);have an:=OZ (2 ^ (a+1)) (2 ^ c) u;have aJ:(a+1)*(a+1)*2 ^ K<=10*10*1024:=aDP (aDP (by omega) (by omega)) O2;rw[aDs];omega
      refine(O1.put _ _ _ ⟨(u:Int),((u+2 ^ c:Nat):Int),decide (u/2 ^ (a+1)%2=0)⟩ bz hlen).mono ?_;rintro _ aJ ⟨rfl,xZ,bZ,alk⟩;exact⟨_,rfl,b3 rfl (ju (by rw[J0,aDr uN,<-aDD];exact bZ) (uL.trans alk))⟩
     .have uN:¬u/2 ^ c%2=0:=λe=>by
       have:decide (u/2 ^ c%2=0)=true:=aDA e;rw[<-d1] at this;have:=aDN this;omega
      exact ju (by rw[J0,aDq uN,aD5];exact bz) uL
    .have:u=2 ^ K:=by omega
     rw[FZ,J2 (by omega)];refine⟨by decide,_,by omega,rfl,rfl,XD,c,rfl,by omega,⟨rv,_,bz,uL,?_⟩,rfl⟩;rw[this,aDD];exact aT
  .have:c=0:=by
    cases c with
    | zero=>rfl
    | succ c=>rw[aU,FW] at O4;have:=lU (k:=c) (by omega);omega
   subst this;simp only[ss,aD5] at aT;rw[CB,Int.mul_comm,FV];have se:=nz (show a+1+1<=11 by omega);rw[iK (by have:=nz (aDM (a+1+1));simp at this;omega) (by simp at se;omega)];exact⟨_,by omega,rfl,rfl,a+1,rfl,by omega,⟨Ab,by rw[<-aT];exact s2,pH⟩,rfl⟩
 .have FY:a=K:=by
   rcases aDZ a K with h|h
   .have:=nz (show a+1<=K by omega);omega
   .omega
  subst FY;exact⟨Aa,s1,mu⟩
theorem XE {k:Nat}(ah:k<=10):fc prog 186 [U (2 ^ k)] (.bool true):=by
 intro h;have ar:=lU ah;refine alm _ ?_;unfold XF;refine cj (λ_=>dF (by simp;omega) ⟨?_,bL.refl _⟩) λe=>absurd ar.1 e;rw[bt (n:=2 ^ k-1),Uy k ah,iK (by decide) (by decide)];rfl
theorem XG {K:Nat}(eL:K<=10)(h:ak):aq 165 [U (2 ^ K)] h λv af=>∃s,v=aZ s/\ct 3 jn h af s (gk K)/\bL h af:=by
 refine aln _ ?_;unfold XH;refine(XE eL).to λaa aD=>⟨_,rfl,b3 rfl ?_⟩;refine alo _ ?_;unfold XI;refine bP λb ad f2 a_ aB=>⟨_,rfl,?_⟩;have eg:=z_ eL;refine(ak3 (g:=204) (caps:=[bm ⟨b,0⟩]) (L:=gk K) (h:=ad) (by omega) λy S O1 F an aG hf f0=>?_).mono ?_
 .exact alf eL O1 hf (az (aG.get a_) rfl) λhh=>by rw[f0 b hh] at a_;cases a_
 .rintro _ an ⟨s,rfl,o,k⟩;exact⟨_,rfl,_,rfl,o.FR (aD.trans aB),(aD.trans aB).trans k⟩
def mG (fJ:Int)(p:oV):List dk:=[⟨fJ,p.i,false⟩,⟨fJ,p.j,false⟩,⟨fJ,p.i,true⟩,⟨fJ,p.j,true⟩]
def sb (fJ:Int)(K:Nat):List dk:=(gk K).flatMap (mG fJ)
theorem zC (fJ:Int)(l:List oV):(l.flatMap (mG fJ)).length=4*l.length:=by
 induction l with
 | nil=>rfl
 | cons p l dI=>simp[mG,dI];omega
theorem alp (fJ:Int){K:Nat}(eL:K<=10)(h:ak):aq 137 [U fJ,U (2 ^ K)] h λv af=>∃s,v=aZ s/\ct 3 iT h af s (sb fJ K)/\bL h af:=by
 refine alq _ _ ?_;unfold XJ;have eg:=z_ eL;refine(XG eL h).mono ?_;rintro _ aa ⟨s1,rfl,cy,aD⟩;have eD:=cy.rd;have hz:=eD.len;refine⟨_,rfl,λr s x l i ad k=>fJ=r/\s1=x/\l=s1.len/\∃j:Nat,i=j/\j<=s1.len/\ct 3 iT aa ad s (((gk K).take j).flatMap (mG fJ))/\bL aa ad/\k=s1.len-j,⟨_,rfl,rfl,rfl,0,rfl,aDM _,ct.gy _ _ _ _,bL.refl aa,rfl⟩,?_⟩;rintro r s x l i ad k ⟨rfl,rfl,rfl,j,rfl,aU,ly,aB,rfl⟩;refine cj (λcl=>?_) λdH=>?_
 .have kb:j<(gk K).length:=by omega
  refine(eD.bA Cz aB).cA Cz kb λq _ aQ=>?_;obtain⟨p,aP⟩:∃p,p=(gk K)[j]:=⟨_,rfl⟩;rw[<-aP] at aQ;have J4:(gk K).take (j+1)=(gk K).take j++[p]:=by rw[aP,List.take_append_getElem kb]
  obtain⟨pi,Ad,pu⟩:=p;obtain⟨g1,g2,g3,_⟩:=aQ;refine⟨_,g1,_,g2,_,g3,bP λae an f3 b7 aG=>iH aG f3 b7 rfl λaJ bd b6 _=>bP λax aR f5 cG bF=>?_⟩;have aB7:=bd.trans bF;have jS:e4 Value.bool aR ⟨some ⟨ax,0⟩,2,2,none⟩ [false,true]:=(c4.qs (f:=Value.bool) (h0:=aJ) (l:=[false,true]) f5 cG rfl rfl).rd;have alr:∀p,s.q=some p->p.b≠ae/\p.b≠ax:=λp aP =>
   ⟨λe=>(ly.bp aP).2 (e▸f3),λe=>by
    have:=f5;rw[<-e,bd _ (ly.bp aP).2] at this;exact(ly.bp aP).2 this⟩
  let base:=((gk K).take j).flatMap (mG fJ);let mid:Nat->List dk:=λu=>if u=0 then [] else if u=1 then [⟨fJ,pi,false⟩,⟨fJ,Ad,false⟩] else mG fJ ⟨pi,Ad,pu⟩
  refine⟨λr s q y a b z n v bj m=>fJ=r/\q=⟨ae,0⟩/\s1=y/\a=s1.len/\b=j/\z=⟨some ⟨ax,0⟩,2,2,none⟩/\n=2/\∃u:Nat,v=u/\u<=2/\ct 3 iT aa bj s (base++mid u)/\(∀p,s.q=some p->p.b≠ae/\p.b≠ax)/\bj ae=aR ae/\bj ax=aR ax/\bL aa bj/\m=2-u,
   ⟨_,rfl,rfl,rfl,rfl,rfl,rfl,rfl,0,rfl,by omega,by simpa [mid,base] using ly.bA (bd.trans bF),alr,rfl,rfl,aB.trans (bd.trans bF),rfl⟩,?_⟩
  rintro r s q y a b z n v bj m ⟨rfl,rfl,rfl,rfl,rfl,rfl,rfl,u,rfl,hu,nJ,vU,wh,zZ,cn,rfl⟩;have aB8:base.length<=409600:=by
   show(((gk K).take j).flatMap (mG fJ)).length<=409600;rw[zC,aEy];omega
  refine cj (λmE=>?_) λuw=>?_
  .have CC:u=0∨u=1:=by omega
   have dP:bj ae=some (.cells #[U pi,U Ad,.bool pu] 261 (0,0)):=by rw[wh];exact bF.get b6
   have fa:bj ax=some (.cells #[.bool false,.bool true] 4 (0,0)):=by rw[zZ];exact cG
   have aB9:(mid u).length<=2:=by rcases CC with rfl|rfl<;>simp[mid]
   refine(jS.move λq aj _=>by cases aj;exact zZ).cA (by simp;omega) λq _ O5=>⟨[false,true][u]'(by simp;omega),O5,_,az dP rfl,_,az dP rfl,?_⟩;refine ct.push tl n8 tk nJ [⟨fJ,pi,[false,true][u]'(by simp;omega)⟩,⟨fJ,Ad,[false,true][u]'(by simp;omega)⟩] rfl rfl (λb ar=>cn.free ar) (by simp only[aDs,aE6,aEW];omega) (by decide) ?_;intro cE bU eF f7 O7 _;refine⟨_,by omega,rfl,rfl,rfl,rfl,rfl,rfl,rfl,u+1,bt,by omega,?_,λp aP=>?_,?_,?_,tm nJ cn f7,rfl⟩
   .have:base++mid (u+1)=base++mid u++[⟨fJ,pi,[false,true][u]'(by simp;omega)⟩,⟨fJ,Ad,[false,true][u]'(by simp;omega)⟩]:=by
     rcases CC with rfl|rfl<;>simp[mid,mG]
    rw[this];exact eF
   .rcases O7 p aP with ⟨q,aj,h⟩|h
    .rw[h];exact vU q aj
    .exact⟨(λe=>by rw[e,dP] at h;cases h),(λe=>by rw[e,fa] at h;cases h)⟩
   .rw[f7 ae (by rw[dP];simp) λq aj e=>(vU q aj).1 e.symm,wh]
   .rw[f7 ax (by rw[fa];simp) λq aj e=>(vU q aj).2 e.symm,zZ]
  .have:u=2:=by omega
   subst this;exact⟨_,by omega,rfl,rfl,rfl,j+1,bt,by omega,by rw[J4,aEB];simpa [mid,base] using nJ,cn,rfl⟩
 .have:j=(gk K).length:=by omega
  subst this;rw[List.take_length] at ly;exact⟨_,rfl,ly.FR aD,aD.trans aB⟩
def iG (first:Int)(sp:List qD)(n:Nat):List dk:=(List.range n).flatMap λ(i:Nat)=>(if i<sp.length then [(⟨(sp.getD i ⟨0,0⟩).r,(sp.getD i ⟨0,0⟩).a,false⟩:dk)] else [])++[⟨first+2,i,true⟩]
theorem ud (first:Int)(sp:List qD)(n:Nat):iG first sp (n+1)=iG first sp n++((if n<sp.length then [(⟨(sp.getD n ⟨0,0⟩).r,(sp.getD n ⟨0,0⟩).a,false⟩:dk)] else [])++[⟨first+2,n,true⟩]):=by simp[iG,aDQ]
theorem F2 (first:Int)(sp:List qD)(n:Nat):(iG first sp n).length<=2*n:=by
 induction n with
 | zero=>simp[iG]
 | succ n dI=>rw[ud,aDs];split<;>simp<;>omega
def pv (first:Int)(sp:List qD)(n:Nat):List dk:=(List.range n).flatMap λ(i:Nat)=>[(⟨first+2,i,false⟩:dk),⟨(sp.getD i ⟨0,0⟩).r,(sp.getD i ⟨0,0⟩).a,true⟩]
theorem J5 (first:Int)(sp:List qD)(n:Nat):pv first sp (n+1)=pv first sp n++[(⟨first+2,n,false⟩:dk),⟨(sp.getD n ⟨0,0⟩).r,(sp.getD n ⟨0,0⟩).a,true⟩]:=by simp[pv,aDQ]
theorem ES (first:Int)(sp:List qD)(n:Nat):(pv first sp n).length=2*n:=by
 induction n with
 | zero=>rfl
 | succ n dI=>rw[J5,aDs,dI];simp;omega
def h5 (first:Int)(E:Nat):List dk:=writes (first+2) (2 ^ E)++sb (first+2) E
def k7 (k:Nat)(s t:Int)(first:Int)(leaf:Nat):List dk :=
 iG first (gC k s t first leaf) (2 ^ jJ (hL k s t))++h5 first (jJ (hL k s t))++h5 first (jJ (hL k s t))++pv first (gC k s t first leaf) (gC k s t first leaf).length
theorem Ae {h:ak}{b:Nat}{s:ao}{l:List dk}(B:hR 3 iT 59 h b s l)(r a:Int)(w:Bool)(aT:l.length<=10000000){K:Value->ak->Prop}
 (ah:∀cE af,hR 3 iT 59 af b cE (l++[⟨r,a,w⟩])->bT (hC b s) h (hC b cE) af->K (.tuple #[]) af) :
 fL prog (.func (.func 135) #[] #[bm ⟨b,0⟩]) [U r,U a,.bool w] h K:=by
 refine⟨rfl,?_⟩;refine als r a w ⟨b,0⟩ ?_;unfold XK;exact⟨s,az B.cell rfl,hR.push tl n8 tk B [⟨r,a,w⟩] rfl rfl (by simp;omega) (by decide) λcE af qG np=>ah cE af qG np⟩
theorem alu {k:Nat}{s t:Int}(o:lG k s t)(first:Int)(bc:0<=first/\first<=100){leaf:Nat}(aT:leaf<2 ^ k)(h:ak) :
 aq 82 [U first,.agg #[U (2 ^ k),U s,U t],U leaf] h λv af=>∃x,v=aZ x/\ct 3 iT h af x (k7 k s t first leaf)/\bL h af:=by
 have aP:=o.zv;have O3:((2 ^ k:Nat):Int)=2 ^ k:=by simp
 have jw:jJ (hL k s t)<=8:=OY (by omega) (by simp;omega);have XL:mj k s t=2 ^ jJ (hL k s t):=JZ _;have UM:((2 ^ jJ (hL k s t):Nat):Int)=2 ^ jJ (hL k s t):=by simp
 have gf:2 ^ jJ (hL k s t)<=256:=aDy (n:=2) (by decide) jw;have kq:=IW o first leaf
 have F3:=o.IM;refine alv _ _ _ _ _ ?_;unfold XM;refine bP λae aa f1 aH aD=>kQ aH ?_;refine(IN o).to λad aB=>⟨_,rfl,b3 rfl (b3 (by simp) (ga (aB.get aH) rfl (b3 (by simp;omega) (bP λax an f3 b7 aG=>?_))))⟩;have lH:=(aB.trans aG).get aH;refine kQ lH (kQ lH ?_);refine(Xp o first (by omega) aT an).mono ?_;rintro _ aJ ⟨sp,rfl,XN,bd⟩;have pO:=bd.get lH;refine⟨_,rfl,⟨az pO rfl,az pO rfl,az pO rfl,trivial⟩,?_⟩;refine(EL o).to λaR bF=>⟨_,rfl,?_⟩;have jM:=(aD.trans (aB.trans aG)).trans (bd.trans bF);have J6:fR mF aR sp (gC k s t first leaf):=(XN.bA bF).rd;have alw:=J6.len;generalize iL:gC k s t first leaf=cq at J6 alw kq
 rw[XL];generalize alx:jJ (hL k s t)=E at jw XL UM gf;have J7:aR ax=some (.cells #[aZ ⟨none,0,0,none⟩] 59 (0,0)):=(bd.trans bF).get b7;have hN:h ax=none:=aD.free (aB.free f3);have aly:hR 3 iT 59 aR ax ⟨none,0,0,none⟩ []:=⟨J7,ct.gy _ _ _ _,λp aP=>by cases aP⟩;let F0:=hC ax ⟨none,0,0,none⟩;have Af:∀b,F0 b->h b=none:=by
  rintro b (rfl|⟨p,aP,_⟩)
  .exact hN
  .cases aP
 have alz:∀q,sp.q=some q->¬F0 q.b:=by
  rintro q aj (e|⟨p,aP,_⟩)
  .have:=(XN.bp aj).1;rw[e,b7] at this;cases this
  .cases aP
 have XO:∀ {dZ af},bT F0 aR dZ af->fR mF af sp cq:=λm=>J6.move λq aj qB=>m.2.1 _ (J6.there mZ aj qB) (alz q aj);let CD:Value:= .func (.func 135) #[] #[bm ⟨ax,0⟩];refine⟨λcd q v x cJ db i bj m=>cd=first/\q=⟨ax,0⟩/\v=CD/\sp=x/\cJ=2 ^ E/\db=2 ^ E/\∃u:Nat,i=u/\u<=2 ^ E/\(∃b8,hR 3 iT 59 bj ax b8 (iG first cq u)/\bT F0 aR (hC ax b8) bj)/\m=2 ^ E-u,
  ⟨_,rfl,rfl,rfl,rfl,rfl,rfl,0,rfl,aDM _,⟨_,by simpa [iG] using aly,bT.refl _ _⟩,rfl⟩,?_⟩
 rintro cd q v x cJ db i bj m ⟨alA,rfl,rfl,rfl,XP,alB,u,rfl,hu,⟨b8,B,ow⟩,rfl⟩;subst alA;have a_:al (cd+2)=cd+2:=bt;refine cj (λcl=>?_) λdH=>?_
 .have x0:=XO ow;have o_:=F2 cd cq u;have ju:∀ {O8 bU},hR 3 iT 59 bU ax O8 (iG cd cq (u+1))->bT F0 aR (hC ax O8) bU->∃aG,aG<2 ^ E-u/\cd=cd/\(⟨ax,0⟩:aF)=⟨ax,0⟩/\CD=CD/\sp=sp/\cJ=2 ^ E/\db=2 ^ E/\∃qI:Nat,al ((u:Int)+1)=qI/\qI<=2 ^ E/\(∃b8,hR 3 iT 59 bU ax b8 (iG cd cq qI)/\bT F0 aR (hC ax b8) bU)/\aG=2 ^ E-qI :=
   λg1 g2=>⟨_,by omega,rfl,rfl,rfl,rfl,XP,alB,u+1,bt,by omega,⟨_,g1,g2⟩,rfl⟩
  refine cj (λuO=>?_) λaB_=>?_
  .have x1:u<cq.length:=by omega
   refine x0.cA mZ x1 λq aj aQ=>?_;obtain⟨g1,g2,_⟩:=aQ;have FD:cq.getD u ⟨0,0⟩=cq[u]:=by simp[aEg,x1]
   refine⟨_,g1,q,aj,by omega,by omega,_,g2,?_⟩;refine Ae B _ _ _ (by omega) λdV bU su O9=>⟨rfl,?_⟩;rw[a_];refine Ae su _ _ _ (by simp;omega) λdS bR O_ alC=>⟨rfl,ju ?_ (ow.trans (O9.trans alC))⟩;rw[ud,aDr x1,FD,<-aDD];exact O_
  .have x1:¬u<cq.length:=by omega
   rw[a_];refine Ae B _ _ _ (by omega) λdV bU su O9=>⟨rfl,ju ?_ (ow.trans O9)⟩;rw[ud,aDq x1,List.nil_append];exact su
 .have:u=2 ^ E:=by omega
  subst this;have o_:=F2 cd cq (2 ^ E);have J8:=z_ (K:=E) (by omega);have J9:(sb (cd+2) E).length=4*(gk E).length:=zC _ _;have q9:(h5 cd E).length<=500000:=by unfold h5;rw[aDs,n6,J9];omega
  let part:Nat->List dk:=λc=>iG cd cq (2 ^ E)++(if c=0 then [] else if c=1 then h5 cd E else h5 cd E++h5 cd E);have XQ:∀c,(part c).length<=1100000:=λc=>by
   simp only[part,aDs];split
   .simp;omega
   .split<;>(try simp only[aDs])<;>omega
  refine⟨λcw q v x e0 i bU m=>cw=cd/\q=⟨ax,0⟩/\v=CD/\sp=x/\e0=2 ^ E/\∃c:Nat,i=c/\c<=2/\(∃b8,hR 3 iT 59 bU ax b8 (part c)/\bT F0 aR (hC ax b8) bU)/\m=2-c,
   ⟨_,rfl,rfl,rfl,rfl,XP,0,rfl,by omega,⟨_,by simpa [part] using B,ow⟩,rfl⟩,?_⟩
  rintro cw q v x e0 i bU m ⟨rfl,rfl,rfl,rfl,XR,c,rfl,a1,⟨O8,XS,wi⟩,rfl⟩;refine cj (λmE=>?_) λuw=>?_
  .have lL:=XQ c;refine⟨λcU q v x fu ey eT i bR m=>cU=cw/\q=⟨ax,0⟩/\v=CD/\sp=x/\fu=2 ^ E/\ey=c/\eT=2 ^ E/\∃u:Nat,i=u/\u<=2 ^ E/\(∃b8,hR 3 iT 59 bR ax b8 (part c++writes (cw+2) u)/\bT F0 aR (hC ax b8) bR)/\m=2 ^ E-u,
    ⟨_,rfl,rfl,rfl,rfl,XR,rfl,XR,0,rfl,aDM _,⟨_,by simpa [writes] using XS,wi⟩,rfl⟩,?_⟩
   rintro cU q v x fu ey eT i bR m ⟨rfl,rfl,rfl,rfl,XT,rfl,alD,u,rfl,hu,⟨J_,nK,CE⟩,rfl⟩;have wl:=n6 (cU+2) u;refine cj (λalE=>?_) λalF=>?_
   .rw[a_];refine Ae nK _ _ _ (by rw[aDs,wl];omega) λfY b9 alG alH=>⟨rfl,?_⟩;refine Ae alG _ _ _ (by simp only[aDs,wl,aE6,aEW];omega) λgr cp CF Pa=>⟨rfl,?_⟩;refine⟨_,by omega,rfl,rfl,rfl,rfl,XT,rfl,alD,u+1,bt,by omega,⟨_,?_,CE.trans (alH.trans Pa)⟩,rfl⟩;rw[xW];simpa using CF
   .have:u=2 ^ E:=by omega
    subst this;refine⟨J_,az nK.cell rfl,?_⟩;rw[a_,XT];refine(alp (cU+2) (K:=E) (by omega) bR).mono ?_;rintro _ b9 ⟨x,rfl,Nn,en⟩;have CG:=nK.bA en;refine⟨_,rfl,⟨az CG.cell rfl,trivial⟩,?_⟩;refine hR.app tl n8 tk CG Nn.rd (by rw[aDs,wl,J9];omega) (by decide) λgr cp CF Pa=>?_;refine⟨_,by omega,rfl,rfl,rfl,rfl,rfl,c+1,bt,by omega,⟨_,?_,CE.trans ((hj en _).trans Pa)⟩,rfl⟩;have:part (c+1)=part c++writes (cU+2) (2 ^ E)++sb (cU+2) E:=by
     have F4:c=0∨c=1:=by omega
     rcases F4 with rfl|rfl<;>simp[part,h5]
    rw[this];exact CF
  .have:c=2:=by omega
   subst this;have lL:=XQ 2;refine⟨λn26 q v x n27 i bR m=>n26=cw/\q=⟨ax,0⟩/\v=CD/\sp=x/\n27=sp.len/\∃u:Nat,i=u/\u<=cq.length/\(∃b8,hR 3 iT 59 bR ax b8 (part 2++pv cw cq u)/\bT F0 aR (hC ax b8) bR)/\m=cq.length-u,
    ⟨_,rfl,rfl,rfl,rfl,rfl,0,rfl,aDM _,⟨_,by simpa [pv] using XS,wi⟩,rfl⟩,?_⟩
   rintro n26 q v x n27 i bR m ⟨rfl,rfl,rfl,rfl,alI,u,rfl,hu,⟨J_,nK,CE⟩,rfl⟩;have pU:=ES n26 cq u;refine cj (λalE=>?_) λalF=>?_
   .have x1:u<cq.length:=by omega
    refine(XO CE).cA mZ x1 λq aj aQ=>?_;obtain⟨g1,g2,_⟩:=aQ;have FD:cq.getD u ⟨0,0⟩=cq[u]:=by simp[aEg,x1]
    refine⟨_,g1,_,g2,bP λaM b9 f9 gm en=>iH en f9 gm rfl λcp eZ pe _=>?_⟩;rw[a_];have CG:=nK.bA eZ;have qv:¬hC ax J_ aM:=λai=>(nK.dK ai) f9;refine Ae CG _ _ _ (by rw[aDs,pU];omega) λhs cf Pb XU=>⟨rfl,?_⟩;have mr:=XU.get pe qv;refine⟨_,az mr rfl,_,az mr rfl,?_⟩;refine Ae Pb _ _ _ (by simp only[aDs,pU,aE6,aEW];omega) λgJ bN tq x2=>⟨rfl,?_⟩;refine⟨_,by omega,rfl,rfl,rfl,rfl,alI,u+1,bt,by omega,⟨_,?_,CE.trans ((hj eZ _).trans (XU.trans x2))⟩,rfl⟩;rw[J5,FD];simpa using tq
   .have:u=cq.length:=by omega
    subst this;obtain⟨bW,FU⟩:=CE.bA jM Af;refine⟨J_,az nK.cell rfl,_,rfl,?_,bW⟩;have:k7 k s t n26 leaf=part 2++pv n26 cq cq.length:=by
     simp[k7,part,iL,alx]
    rw[this];exact OU nK.own λp aP=>FU _ (.inr ⟨p,aP,rfl⟩)

import Derived.Test.YtegdpmgnhnccaaaGreatRefN
import Derived.Test.YtegdpmgnhnccaaaGreatEvC
namespace Go.Proofs.Tryz
open Go Go.cR Go.RowKit
set_option maxRecDepth 8000
set_option maxHeartbeats 2000000
theorem adk {k:Nat}(ah:k<=10):fc prog 181 [U (2 ^ k)] (.bool true):=by
 intro h;refine atL _ ?_;unfold acy;refine⟨λa x aa n=>a=2 ^ k/\∃j:Nat,x=2 ^ j/\j<=k/\aa=h/\n=k-j,⟨_,rfl,0,rfl,by omega,rfl,rfl⟩,?_⟩;rintro a x aa n ⟨rfl,j,rfl,aU,rfl,rfl⟩;have ar:=lU ah;have h0:=RD j;have eq:¬((2:Int) ^ j<2 ^ k)->j=k:=λe=>by
  rcases aDZ j k with h|h
  .have:=nz (show j+1<=k by omega);rw[<-yN] at this;omega
  .omega
 refine cj (λcl=>dF (by simp;omega) ?_) λdH=>⟨by rw[eq dH];simp,bL.refl _⟩;have DQ:j<k:=by
  rcases aDZ j k with h|h
  .exact h
  .have:j=k:=by omega
   subst this;omega
 have aP:=nz (show j+1<=10 by omega);rw[iK (by omega) (by rw[yN];simp at aP;omega),yN];exact⟨_,by omega,rfl,j+1,rfl,by omega,rfl,rfl⟩
theorem avi:ph prog 263 265 3 (.agg #[U 0,U 0,.bool false]) 24:=⟨by kernel_rfl,by kernel_rfl,by kernel_rfl,by kernel_rfl,rfl⟩
theorem adl {n:Nat}(h:n<=9223372036854775807):al (n:Int)=n:=bt
theorem adm (a b:Nat):(a:Int).tdiv (b:Int)=((a/b:Nat):Int):=rfl
theorem avj {K:Nat}(eL:K<=10)(h:ak):aq 166 [U (2 ^ K)] h λv af=>∃s,v=aZ s/\ct 3 jn h af s (gk K)/\bL h af:=by
 have alg:=lU eL;have O2:2 ^ K<=1024:=aDy (n:=2) (by decide) eL;have O3:((2 ^ K:Nat):Int)=2 ^ K:=by simp
 refine atr _ ?_;unfold acu;refine(adk eL).to λaa aD=>⟨_,rfl,b3 rfl ?_⟩;refine⟨λx s n ad m=>x=2 ^ K/\∃a:Nat,n=2 ^ (a+1)/\a<=K/\ct 3 jn h ad s (hl (2 ^ K) a)/\bL h ad/\m=K-a,⟨_,rfl,0,rfl,aDM _,ct.gy _ _ _ _,aD,rfl⟩,?_⟩;rintro x s n ad m ⟨rfl,a,FX,bY,s1,mu,rfl⟩;refine cj (λhle=>?_) λCA=>?_
 .have FY:a<K:=by
   rcases aDZ a K with h|h
   .exact h
   .have:a=K:=by omega
    subst this;rw[<-FV] at FX;omega
  have ali:=lU (k:=a+1) (by omega);rw[FX,J2 (c:=a+1) (by omega)];refine⟨by decide,λx s aA j an m=>x=2 ^ K/\aA=2 ^ (a+1)/\∃c:Nat,j=b0 c/\c<=a+1/\(∃l,ct 3 jn h an s l/\bL h an/\l++ss (2 ^ K) a c=hl (2 ^ K) (a+1))/\c=m,
   ⟨_,rfl,rfl,a+1,rfl,aDt _,⟨_,s1,mu,(J1 _ _).symm⟩,rfl⟩,?_⟩
  rintro x s aA j an m ⟨rfl,CB,c,aU,alj,⟨l,s2,pH,aT⟩,rfl⟩;refine cj (λqB=>?_) λO4=>?_
  .cases c with
   | zero=>rw[aU] at qB;simp[b0] at qB
   | succ c =>
    rw[FW] at aU;have O5:=lU (k:=c) (by omega);refine⟨λx s br bq i aJ m=>x=2 ^ K/\br=2 ^ (a+1)/\bq=2 ^ c/\∃u:Nat,i=u/\u<=2 ^ K/\ct 3 jn h aJ s (l++ov (2 ^ (a+1)) (2 ^ c) u)/\bL h aJ/\m=2 ^ K-u,
     ⟨_,rfl,CB,aU,0,rfl,aDM _,by simpa [ov] using s2,pH,rfl⟩,?_⟩
    rintro x s br bq i aJ m ⟨rfl,FZ,J3,u,rfl,hu,bz,uL,rfl⟩;have avk:((2 ^ c:Nat):Int)=2 ^ c:=by simp
    have Ac:((2 ^ (a+1):Nat):Int)=2 ^ (a+1):=by simp
    refine cj (λcl=>?_) λdH=>?_
    .have F1:u<2 ^ K:=by omega
     rw[FZ,J3];have ju:∀ {bZ aR},ct 3 jn h aR bZ (l++ov (2 ^ (a+1)) (2 ^ c) (u+1))->bL h aR->∃aG,aG<2 ^ K-u/\(2:Int) ^ K=2 ^ K/\(2:Int) ^ (a+1)=2 ^ (a+1)/\(2:Int) ^ c=2 ^ c/\∃qI:Nat,al ((u:Int)+1)=qI/\qI<=2 ^ K/\ct 3 jn h aR bZ (l++ov (2 ^ (a+1)) (2 ^ c) qI)/\bL h aR/\aG=2 ^ K-qI :=
      λg1 g2=>⟨_,by omega,rfl,rfl,rfl,u+1,bt,by omega,g1,g2,rfl⟩
     have aCO:=aEY u (2 ^ c);have aCP:=aEY u (2 ^ (a+1));have q1:al ((u:Int).tdiv (2 ^ c))=((u/2 ^ c:Nat):Int):=by rw[<-avk,adm,adl (by omega)]
     have aI:al ((u:Int).tdiv (2 ^ (a+1)))=((u/2 ^ (a+1):Nat):Int):=by rw[<-Ac,adm,adl (by omega)]
     have eD:∀z:Nat,(z:Int).tmod 2=((z%2:Nat):Int):=λz=>rfl;rw[q1,aI,eD,eD];refine⟨by omega,by decide,cj (λbn=>⟨by omega,by decide,?_⟩) λbn=>?_⟩
     .have uN:u/2 ^ c%2=0:=by omega
      have b7:decide (((u/2 ^ (a+1)%2:Nat):Int)=0)=decide (u/2 ^ (a+1)%2=0):=by
       generalize u/2 ^ (a+1)%2=z;exact decide_eq_decide.2 ⟨λh=>by omega,λh=>by omega⟩
      rw[b7,bt (n:=(u:Int)+2 ^ c)];have hlen:(l++ov (2 ^ (a+1)) (2 ^ c) u).length<1000000000:=by
       have aa:=congrArg List.length aT;rw[aDs] at aa;have ad:=O0 (2 ^ K) (a+1);have an:=OZ (2 ^ (a+1)) (2 ^ c) u;have aJ:(a+1)*(a+1)*2 ^ K<=10*10*1024:=aDP (aDP (by omega) (by omega)) O2;rw[aDs];omega
      refine ct.push avi Cz Xt bz [⟨(u:Int),((u+2 ^ c:Nat):Int),decide (u/2 ^ (a+1)%2=0)⟩] ?_ rfl (λb ar=>uL.free ar) (by simp only[aE6,aEW];omega) (by decide) ?_
      .simp[jn]
      intro cE aR cz f5 _ _;exact ju (by rw[J0,aDr uN,<-aDD];exact cz) (tm bz uL f5)
     .have uN:¬u/2 ^ c%2=0:=by omega
      exact ju (by rw[J0,aDq uN,aD5];exact bz) uL
    .have:u=2 ^ K:=by omega
     rw[J3,J2 (by omega)];refine⟨by decide,_,by omega,rfl,FZ,c,rfl,by omega,⟨_,bz,uL,?_⟩,rfl⟩;rw[this,aDD];exact aT
  .have:c=0:=by
    cases c with
    | zero=>rfl
    | succ c=>rw[aU,FW] at O4;have:=lU (k:=c) (by omega);omega
   subst this;simp only[ss,aD5] at aT;rw[CB,FV];have se:=nz (show a+1+1<=11 by omega);rw[iK (by have:=nz (aDM (a+1+1));simp at this;omega) (by simp at se;omega)];exact⟨_,by omega,rfl,a+1,rfl,by omega,by rw[<-aT];exact s2,pH,rfl⟩
 .have FY:a=K:=by
   rcases aDZ a K with h|h
   .have:=nz (show a+1<=K by omega);omega
   .omega
  subst FY;exact⟨_,rfl,s1,mu⟩
theorem adn {k leaf d:Nat}(b4:d<k):(fP k leaf (d+1)-1)/2=fP k leaf d/\0<fP k leaf (d+1):=by
 have e:leaf/2 ^ (k-d)=leaf/2 ^ (k-(d+1))/2:=by
  rw[aEo,<-aD_,show(k-(d+1)).succ=k-d by omega]
 have aP:0<2 ^ d:=aD8 (by decide);unfold fP;rw[e,aD_];generalize leaf/2 ^ (k-(d+1))=q;generalize 2 ^ d=P at aP ⊢;omega
theorem Rw {k leaf:Nat}(aT:leaf<2 ^ k):fP k leaf 0=0:=by unfold fP;rw[aFm,aEE aT]
theorem avl {k leaf:Nat}:fP k leaf k=2 ^ k-1+leaf:=by unfold fP;rw[Nat.sub_self];simp
def vh (k leaf d:Nat):List Int:=(List.range (k+1-d)).map λi=>(fP k leaf (d+i):Int)
theorem avm {k leaf d:Nat}(b4:d<k):vh k leaf d=(fP k leaf d:Int)::vh k leaf (d+1):=by
 unfold vh;rw[show k+1-d=(k+1-(d+1))+1 by omega,List.range_succ_eq_map,aEs,aEH];refine List.cons_eq_cons.2 ⟨rfl,aDU λi _=>?_⟩;simp only[Function.comp];rw[show d+i.succ=d+1+i by omega]
theorem avn {k leaf:Nat}:vh k leaf 0=nn k leaf (k+1):=by unfold vh nn;simp
theorem Rv {k leaf:Nat}(ah:k<=10)(aT:leaf<2 ^ k)(h:ak):aq 157 [U (2 ^ k),U leaf] h λv af=>∃s,v=aZ s/\c4 eo h af s (nn k leaf (k+1))/\bL h af:=by
 have ar:=lU ah;have O3:((2 ^ k:Nat):Int)=2 ^ k:=by simp
 have aK:2 ^ k<=1024:=aDy (n:=2) (by decide) ah;have aP:0<2 ^ k:=aD8 (by decide);refine ate _ _ ?_;unfold acp;refine(LH ah).to λaa aD=>⟨_,rfl,b3 rfl (b3 (by simp) (b3 (by simp;omega) (bP λae ad f2 a_ aB=>?_)))⟩;have xM:∀d,d<=k->fP k leaf d<=2047:=λd b4=>OT ah aT b4;have dM:al (al (2 ^ k-1)+(leaf:Int))=(fP k leaf k:Int):=by
  rw[bt (n:=(2:Int) ^ k-1),bt,avl];omega
 rw[dM] at a_ ⊢;have C6:c4 eo h ad ⟨some ⟨ae,0⟩,1,1,none⟩ (vh k leaf k):=c4.qs (aD.free f2) a_ (by unfold vh;rw[show k+1-k=1 by omega];rfl) (by simp[vh]);refine⟨λn s an m=>∃d:Nat,d<=k/\n=(fP k leaf d:Int)/\c4 eo h an s (vh k leaf d)/\bL h an/\d=m,⟨_,k,aDt _,rfl,C6,aD.trans aB,rfl⟩,?_⟩;rintro n s an m ⟨d,b4,rfl,os,aG,rfl⟩;refine cj (λcl=>?_) λdH=>?_
 .have RE:0<d:=by
   rcases aFq d with h|h
   .subst h;rw[Rw aT] at cl;simp at cl
   .exact h
  obtain⟨bO,rfl⟩:=Nat.exists_eq_succ_of_ne_zero (Nat.ne_of_gt RE);have hu:=adn (k:=k) (leaf:=leaf) (d:=bO) (by omega);have nG:=xM (bO+1) b4;have hN:=xM bO (by omega);have aH:al ((al ((fP k leaf (bO+1):Int)-1)).tdiv 2)=(fP k leaf bO:Int):=by
   rw[iK (n:=(fP k leaf (bO+1):Int)-1) (by omega) (by omega),show(fP k leaf (bO+1):Int)-1=((fP k leaf (bO+1)-1:Nat):Int) by omega];have:(((fP k leaf (bO+1)-1:Nat):Int)).tdiv 2=(((fP k leaf (bO+1)-1)/2:Nat):Int):=rfl;rw[this,hu.1,bt]
  rw[aH];refine⟨by decide,bP λax aJ f4 b6 bd=>?_⟩;have cg:c4 eo h aJ ⟨some ⟨ax,0⟩,1,1,none⟩ [(fP k leaf bO:Int)]:=c4.qs (aG.free f4) b6 rfl rfl;have vT:=aG.trans bd;refine c4.app xL Cj cg (os.bA bd).rd (λb ar=>vT.free ar) (by simp[vh];omega) (by decide) ?_;intro cE aR cz f5 _ _;exact⟨bO,by omega,bO,by omega,rfl,by rw[avm (k:=k) (leaf:=leaf) (d:=bO) (by omega)];exact cz,zR cg vT f5,rfl⟩
 .have RE:d=0:=by
   rcases aFq d with h|h
   .exact h
   .obtain⟨bO,rfl⟩:=Nat.exists_eq_succ_of_ne_zero (Nat.ne_of_gt h);have:=(adn (k:=k) (leaf:=leaf) (d:=bO) (by omega)).2;exact absurd (show(0:Int)<((fP k leaf (bO+1):Nat):Int) by omega) dH
  subst RE;rw[avn] at os;exact⟨_,rfl,os,aG⟩
theorem ado:ph prog 201 204 2 (.agg #[U 0,U 0]) 16:=⟨by kernel_rfl,by kernel_rfl,by kernel_rfl,by kernel_rfl,rfl⟩
theorem avo (f:Int)(x:Nat)(s:Int)(n:Nat):(qE f x s n).length=n:=by simp[qE]
theorem avp (f:Int)(n:Nat):(ru f n).length=n:=by simp[ru]
theorem auO {k:Nat}{s t:Int}(o:lG k s t)(first:Int)(bc:0<=first/\first<=1000){leaf:Nat}(aT:leaf<2 ^ k)(h:ak) :
 aq 122 [U first,.agg #[U (2 ^ k),U s,U t],U leaf] h λv af=>∃x,v=aZ x/\ct 2 mF h af x (gC k s t first leaf)/\bL h af:=by
 have ah:=o.k;have aV:=o.s;have bG:=o.t;refine asu _ _ s t leaf ?_;unfold acb;refine bP λae aa f1 aH aD=>ga aH rfl ?_;refine(Rv ah aT aa).mono ?_;rintro _ ad ⟨s1,rfl,cy,aB⟩;have eD:=cy.rd;have hz:=eD.len;rw[uJ] at hz;have fQ:=aD.trans aB;have adp:=JY k s first leaf
 refine⟨_,rfl,λn q s2 bz i an m=>n=first/\q=⟨ae,0⟩/\s1=bz/\∃d:Nat,i=d/\d<=k+1/\ct 2 mF ad an s2 (qF k s first leaf d)/\bL ad an/\m=k+1-d,⟨_,rfl,rfl,rfl,0,rfl,aDM _,ct.gy _ _ _ _,bL.refl _,rfl⟩,?_⟩;rintro n q s2 bz i an m ⟨rfl,rfl,rfl,d,rfl,b4,te,aG,rfl⟩;refine cj (λcl=>?_) λdH=>?_
 .have ade:d<k+1:=by omega
  have Gg:d<(nn k leaf (k+1)).length:=by rw[uJ];exact ade
  have Cy:=OT ah aT (show d<=k by omega);refine⟨λa q bZ cZ i j aJ m=>a=n/\q=⟨ae,0⟩/\s1=cZ/\i=d/\∃u:Nat,j=u/\u<=s.toNat/\ct 2 mF ad aJ bZ (qF k s n leaf d++qE n (fP k leaf d) s u)/\bL ad aJ/\m=s.toNat-u,⟨_,rfl,rfl,rfl,rfl,0,rfl,aDM _,by simpa [qE] using te,aG,rfl⟩,?_⟩;rintro a q bZ cZ i j aJ m ⟨rfl,rfl,rfl,rfl,u,rfl,hu,nJ,bd,rfl⟩;have b6:=(aB.trans bd).get aH;refine ga b6 rfl (cj (λmE=>?_) λuw=>?_)
  .refine(eD.bA bd).cA Gg λbb _ a1=>⟨_,a1,ga b6 rfl ?_⟩
   have dd:(nn k leaf (k+1))[d]=(fP k leaf d:Int):=by simp[nn]
   rw[dd];have hm:(0:Int)<=(fP k leaf d:Int)*s/\(fP k leaf d:Int)*s<=2047*8:=Xr (by omega) (by omega) (by omega) (by omega);rw[bt (n:=(fP k leaf d:Int)*s),bt (n:=(fP k leaf d:Int)*s+(u:Int))];have hlen:d*s.toNat<=11*8:=aDP (by omega) (by omega);refine ct.push ado mZ JW nJ [⟨a,(fP k leaf d:Int)*s+u⟩] rfl rfl (λb ar=>bd.free ar) (by rw[aDs,adp,avo];simp;omega) (by decide) ?_;intro cE aR cz f5 _ _;exact⟨_,by omega,rfl,rfl,rfl,rfl,u+1,bt,by omega,by rw[Xn,<-aDD];exact cz,tm nJ bd f5,rfl⟩
  .have:u=s.toNat:=by omega
   subst this;exact⟨_,by omega,rfl,rfl,rfl,d+1,bt,by omega,by rw[JX];exact nJ,bd,rfl⟩
 .have:d=k+1:=by omega
  subst this;have hlen:(k+1)*s.toNat<=11*8:=aDP (by omega) (by omega);refine⟨λa q x i aJ m=>a=n/\q=⟨ae,0⟩/\∃u:Nat,i=u/\u<=t.toNat/\ct 2 mF ad aJ x (qF k s n leaf (k+1)++ru n u)/\bL ad aJ/\m=t.toNat-u,⟨_,rfl,rfl,0,rfl,aDM _,by simpa [ru] using te,aG,rfl⟩,?_⟩;rintro a q x i aJ m ⟨rfl,rfl,u,rfl,hu,nJ,bd,rfl⟩;refine ga ((aB.trans bd).get aH) rfl (cj (λmE=>?_) λuw=>?_)
  .rw[bt (n:=a+1)];refine ct.push ado mZ JW nJ [⟨a+1,u⟩] rfl rfl (λb ar=>bd.free ar) (by rw[aDs,adp,avp];simp;omega) (by decide) ?_;intro cE aR cz f5 _ _;exact⟨_,by omega,rfl,rfl,u+1,bt,by omega,by rw[Xo,<-aDD];exact cz,tm nJ bd f5,rfl⟩
  .have:u=t.toNat:=by omega
   subst this;exact⟨_,rfl,nJ.FR fQ,fQ.trans bd⟩

import Derived.Test.YtegdpmgnhnccaaaGreatRun
import Derived.Test.YtegdpmgnhnccaaaGreatPla
namespace Go.cR
open Go Go.RowKit
theorem r6 {α:Type}{n:Nat}{d:Nat->α}{i:Nat}(hi:i<n){h:i<((List.range n).map d).length}:((List.range n).map d)[i]=d i:=by simp
theorem xx {α:Type}(d:Nat->α)(i j:Nat):ed d i j=ed d j i:=by
 funext x;unfold ed;by_cases aa:x=i
 .subst aa;by_cases ad:x=j
  .subst ad;simp
  .simp[ad]
 .by_cases ad:x=j
  .subst ad;simp[aa]
  .simp[aa,ad]
def r7 {α:Type}(P:Program)(D:Nat->Prop)(h0:ak)(v:Value)(enc:α->Value)(key:α->Nat)(A:α->Prop):Prop :=
 ∀h,eb D h0 h->∀x y,A x->A y->fL P v [enc x,enc y] h λr af=>∃m,r=U m/\(m<0↔key x<key y)/\bL h af
theorem xy {i j:Nat}(hi:i<4611686018427387904)(aU:j<4611686018427387904):al (((dX (cX (al ((i:Int)+j))) (UInt64.toNat 1)).toNat:Nat):Int)=(((i+j)/2:Nat):Int):=by
 have aH:al ((i:Int)+j)=((i+j:Nat):Int):=by rw[bt];omega
 have a_:(dX (cX ((i+j:Nat):Int)) (UInt64.toNat 1)).toNat=(i+j)/2:=by
  have b7:((cX ((i+j:Nat):Int)).toNat:Int)=((i+j:Nat):Int):=BN (by simp[zt];omega);have b6:(cX ((i+j:Nat):Int)).toNat=i+j:=by omega
  unfold dX;rw[show UInt64.toNat 1=1 from rfl];simp only[aFp,aDw,b6];have cG:min 1 64=1:=rfl;rw[cG];omega
 rw[aH,a_,bt]
theorem xz {c a b:Nat}(bY:c ∣ a)(ar:c ∣ b):a<b->a+c<=b:=by
 obtain⟨x,rfl⟩:=bY;obtain⟨y,rfl⟩:=ar;intro h;have aa:=Nat.lt_of_mul_lt_mul_left h;have:=Nat.mul_le_mul_left c (show x+1<=y by omega);rw[aEU,aEV] at this;exact this
theorem vy {α:Type}{k:Nat}{f:α->List Value}(bc:∀x,(f x).length=k){gA g:ak}{s:ao}{n:Nat}{d:Nat->α}(A:ct k f gA g s ((List.range n).map d)){q:aF}(aj:s.q=some q){i:Nat}(hi:i<n)(e:α){K:ak->Prop}
 (ah:∀bw,ct k f gA bw s ((List.range n).map λx=>if x=i then e else d x)->(∀b,b≠q.b->bw b=g b)->K bw):aW g ⟨q.b,q.o+Int.toNat (i:Int)*k⟩ (f e) K:=by
 have hlen:=A.len;simp only[aDF,aDL] at hlen;have vz:=A.cap;rcases A.own with ⟨aK,_⟩|⟨dE,c,t,aa,ad,an,aJ,aR⟩
 .rw[aj] at aK;cases aK
 .rw[aj] at aa;cases aa;have o_:(((List.range n).map d).flatMap f).length=n*k:=by rw[nx bc];simp
  have M8:i*k+k<=n*k:=by
   have:=aEm k (show i+1<=n by omega);rw[aEM,Nat.one_mul] at this;exact this
  have vA:n*k<=s.cap*k:=aEm k (by omega);have lj:Int.toNat (i:Int)=i:=by omega
  rw[lj];refine⟨c,t,an,by rw[bc];show q.o+i*k+k<=c.size;omega,ah _ ⟨by simp[hlen],vz,.inr ⟨q,_,t,aj,ad,eC _ _ _,by rw[BO];exact aJ,λj aU=>?_⟩⟩ λb ar=>cu _ _ ar⟩;have II:(((List.range n).map λx=>if x=i then e else d x).flatMap f).length=n*k:=by rw[nx bc];simp
  have k4:j<n*k:=by rw[<-II];exact aU
  rw[xA,bc];have Us:0<k:=by
   rcases aFq k with h|h
   .subst h;simp at k4
   .exact h
  have aBI:=aFr j k;have hm:=aEk j Us;have mi:j/k<n:=by rw[aEC Us];exact k4
  generalize ai:j/k=x at *;generalize aC:j%k=y at *;have lF:j=x*k+y:=by rw[aDW];omega
  have g2:=IJ (k:=k) bc (l:=(List.range n).map λx=>if x=i then e else d x) (i:=x) (by simpa using mi) (j:=y) hm;rw[aDx (by rw[II,<-lF];exact k4)] at g2;simp only[aFl,aFs] at g2;have a_:(((List.range n).map λx=>if x=i then e else d x).flatMap f)[j]'(by rw[II];exact k4)=(((List.range n).map λx=>if x=i then e else d x).flatMap f)[x*k+y]'(by rw[II,<-lF];exact k4):=by congr 1
  rw[<-a_] at g2;by_cases aS:x=i
  .subst aS;rw[aDr rfl] at g2;have a1:q.o+x*k<=q.o+j/\q.o+j<q.o+x*k+k/\q.o+j<c.size:=by
    refine⟨by omega,by omega,?_⟩;have:j<s.cap*k:=aEP k4 vA;omega
   rw[aDr a1,show q.o+j-(q.o+x*k)=y by omega,g2]
  .rw[aDq aS] at g2;have dA:¬(q.o+i*k<=q.o+j/\q.o+j<q.o+i*k+k/\q.o+j<c.size):=by
    rintro⟨av,aN,_⟩;rcases Nat.lt_or_gt_of_ne aS with h|h
    .have:=aEm k (show x+1<=i by omega);rw[aEM,Nat.one_mul] at this;omega
    .have:=aEm k (show i+1<=x by omega);rw[aEM,Nat.one_mul] at this;omega
   rw[aDq dA,aR j (by rw[o_];exact k4)];have g3:=IJ (k:=k) bc (l:=(List.range n).map d) (i:=x) (by simpa using mi) (j:=y) hm;rw[aDx (by rw[o_,<-lF];exact k4)] at g3;simp only[aFl,aFs] at g3;have b7:(((List.range n).map d).flatMap f)[j]'(by rw[o_];exact k4)=(((List.range n).map d).flatMap f)[x*k+y]'(by rw[o_,<-lF];exact k4):=by congr 1
   rw[g2,<-g3,b7]

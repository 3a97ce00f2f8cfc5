import Derived.Test.YtegdpmgnhnccaaaGreatRun
import Derived.Test.YtegdpmgnhnccaaaGreatPla
namespace Go.cQ
open Go Go.RowKit
theorem pQ {α:Type}{n:Nat}{d:Nat->α}{i:Nat}(hi:i<n){h:i<((List.range n).map d).length}:((List.range n).map d)[i]=d i:=by simp
theorem ur {α:Type}(d:Nat->α)(i j:Nat):dG d i j=dG d j i:=by
 funext x;unfold dG;by_cases aa:x=i
 .subst aa;by_cases ad:x=j
  .subst ad;simp
  .simp[ad]
 .by_cases ad:x=j
  .subst ad;simp[aa]
  .simp[aa,ad]
def pR {α:Type}(P:Program)(D:Nat->Prop)(h0:ai)(v:Value)(enc:α->Value)(key:α->Nat)(A:α->Prop):Prop :=
 ∀h,db D h0 h->∀x y,A x->A y->fo P v [enc x,enc y] h λr ag=>∃m,r=U m/\(m<0↔key x<key y)/\bB h ag
theorem uu {i j:Nat}(hi:i<4611686018427387904)(aL:j<4611686018427387904):al (((ds (cK (al ((i:Int)+j))) (UInt64.toNat 1)).toNat:Nat):Int)=(((i+j)/2:Nat):Int):=by
 have aC:al ((i:Int)+j)=((i+j:Nat):Int):=by rw[bl];omega
 have a7:(ds (cK ((i+j:Nat):Int)) (UInt64.toNat 1)).toNat=(i+j)/2:=by
  have b2:((cK ((i+j:Nat):Int)).toNat:Int)=((i+j:Nat):Int):=yq (by simp[wm];omega);have b5:(cK ((i+j:Nat):Int)).toNat=i+j:=by omega
  unfold ds;rw[show UInt64.toNat 1=1 from rfl];simp only[auT,ate,b5];have cD:min 1 64=1:=rfl;rw[cD];omega
 rw[aC,a7,bl]
theorem uv {c a b:Nat}(bV:c ∣ a)(au:c ∣ b):a<b->a+c<=b:=by
 obtain⟨x,rfl⟩:=bV;obtain⟨y,rfl⟩:=au;intro h;have aa:=Nat.lt_of_mul_lt_mul_left h;have:=Nat.mul_le_mul_left c (show x+1<=y by omega);rw[Nat.mul_add,auw] at this;exact this
theorem sN {α:Type}{k:Nat}{f:α->List Value}(bf:∀x,(f x).length=k){fW g:ai}{s:an}{n:Nat}{d:Nat->α}(A:cI k f fW g s ((List.range n).map d)){q:aG}(ah:s.q=some q){i:Nat}(hi:i<n)(e:α){K:ai->Prop}
 (ab:∀bg,cI k f fW bg s ((List.range n).map λx=>if x=i then e else d x)->(∀b,b≠q.b->bg b=g b)->K bg):a1 g ⟨q.b,q.o+Int.toNat (i:Int)*k⟩ (f e) K:=by
 have hlen:=A.len;simp only[ath,atj] at hlen;have sO:=A.cap;rcases A.own with ⟨aH,_⟩|⟨df,c,t,aa,ad,aq,aJ,aW⟩
 .rw[ah] at aH;cases aH
 .rw[ah] at aa;cases aa;have nZ:(((List.range n).map d).flatMap f).length=n*k:=by rw[mv bf];simp
  have HV:i*k+k<=n*k:=by
   have:=aug k (show i+1<=n by omega);rw[aul,Nat.one_mul] at this;exact this
  have sP:n*k<=s.cap*k:=aug k (by omega);have jI:Int.toNat (i:Int)=i:=by omega
  rw[jI];refine⟨c,t,aq,by rw[bf];show q.o+i*k+k<=c.size;omega,ab _ ⟨by simp[hlen],sO,.inr ⟨q,_,t,ah,ad,ea _ _ _,by rw[yr];exact aJ,λj aL=>?_⟩⟩ λb au=>cJ _ _ au⟩;have Ea:(((List.range n).map λx=>if x=i then e else d x).flatMap f).length=n*k:=by rw[mv bf];simp
  have jn:j<n*k:=by rw[<-Ea];exact aL
  rw[wo,bf];have OB:0<k:=by
   rcases auV k with h|h
   .subst h;simp at jn
   .exact h
  have arE:=auW j k;have hm:=aum j OB;have ku:j/k<n:=by rw[auc OB];exact jn
  generalize af:j/k=x at *;generalize aA:j%k=y at *;have jU:j=x*k+y:=by rw[atK];omega
  have g2:=HW (k:=k) bf (l:=(List.range n).map λx=>if x=i then e else d x) (i:=x) (by simpa using ku) (j:=y) hm;rw[atc (by rw[Ea,<-jU];exact jn)] at g2;simp only[au2,auX] at g2;have a7:(((List.range n).map λx=>if x=i then e else d x).flatMap f)[j]'(by rw[Ea];exact jn)=(((List.range n).map λx=>if x=i then e else d x).flatMap f)[x*k+y]'(by rw[Ea,<-jU];exact jn):=by congr 1
  rw[<-a7] at g2;by_cases aX:x=i
  .subst aX;rw[as8 rfl] at g2;have aT:q.o+x*k<=q.o+j/\q.o+j<q.o+x*k+k/\q.o+j<c.size:=by
    refine⟨by omega,by omega,?_⟩;have:j<s.cap*k:=aup jn sP;omega
   rw[as8 aT,show q.o+j-(q.o+x*k)=y by omega,g2]
  .rw[as7 aX] at g2;have cX:¬(q.o+i*k<=q.o+j/\q.o+j<q.o+i*k+k/\q.o+j<c.size):=by
    rintro⟨ar,aN,_⟩;rcases Nat.lt_or_gt_of_ne aX with h|h
    .have:=aug k (show x+1<=i by omega);rw[aul,Nat.one_mul] at this;omega
    .have:=aug k (show i+1<=x by omega);rw[aul,Nat.one_mul] at this;omega
   rw[as7 cX,aW j (by rw[nZ];exact jn)];have g3:=HW (k:=k) bf (l:=(List.range n).map d) (i:=x) (by simpa using ku) (j:=y) hm;rw[atc (by rw[nZ,<-jU];exact jn)] at g3;simp only[au2,auX] at g3;have b2:(((List.range n).map d).flatMap f)[j]'(by rw[nZ];exact jn)=(((List.range n).map d).flatMap f)[x*k+y]'(by rw[nZ,<-jU];exact jn):=by congr 1
   rw[g2,<-g3,b2]

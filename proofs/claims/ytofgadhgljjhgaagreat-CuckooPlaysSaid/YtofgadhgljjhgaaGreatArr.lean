import Derived.Test.YtofgadhgljjhgaaGreatRun
import Derived.Test.YtofgadhgljjhgaaGreatPla
namespace Go.cD
open Go Go.RowKit
theorem ri {α:Type}{n:Nat}{d:Nat->α}{i:Nat}(hi:i<n){h:i<((List.range n).map d).length}:((List.range n).map d)[i]=d i:=by simp
theorem wz {α:Type}(d:Nat->α)(i j:Nat):dQ d i j=dQ d j i:=by
 funext x;unfold dQ
 by_cases aa:x=i
 .subst aa
  by_cases ad:x=j
  .subst ad;simp
  .simp[ad]
 .by_cases ad:x=j
  .subst ad;simp[aa]
  .simp[aa,ad]
def rj {α:Type}(P:Program)(D:Nat->Prop)(h0:ak)(v:Value)(enc:α->Value)(key:α->Nat)(A:α->Prop):Prop :=
 ∀h,dN D h0 h->∀x y,A x->A y->gi P v [enc x,enc y] h λr ah=>∃m,r=U m/\(m<0↔key x<key y)/\bL h ah
theorem wA {i j:Nat}(hi:i<4611686018427387904)(aV:j<4611686018427387904):al (((dD (cI (al ((i:Int)+j))) (UInt64.toNat 1)).toNat:Nat):Int)=(((i+j)/2:Nat):Int):=by
 have aF:al ((i:Int)+j)=((i+j:Nat):Int):=by rw[bf (by omega) (by omega)];omega
 have a8:(dD (cI ((i+j:Nat):Int)) (UInt64.toNat 1)).toNat=(i+j)/2:=by
  have b0:((cI ((i+j:Nat):Int)).toNat:Int)=((i+j:Nat):Int):=AK (by simp[yv];omega)
  have b1:(cI ((i+j:Nat):Int)).toNat=i+j:=by omega
  unfold dD
  rw[show UInt64.toNat 1=1 from rfl]
  simp only[UInt64.toNat_shiftRight,UInt64.toNat_ofNat',b1]
  have cy:min 1 64=1:=rfl
  rw[cy]
  omega
 rw[aF,a8,bf (by omega) (by omega)]
theorem wB {c a b:Nat}(bO:c ∣ a)(au:c ∣ b):a<b->a+c<=b:=by
 obtain⟨x,rfl⟩:=bO
 obtain⟨y,rfl⟩:=au
 intro h
 have aa:=Nat.lt_of_mul_lt_mul_left h
 have:=Nat.mul_le_mul_left c (show x+1<=y by omega)
 rw[Nat.mul_add,Nat.mul_one] at this;exact this
theorem uD {α:Type}{k:Nat}{f:α->List Value}(a_:∀x,(f x).length=k){ga g:ak}{s:ar}{n:Nat}{d:Nat->α}(A:cF k f ga g s ((List.range n).map d)){q:aD}(aj:s.q=some q){i:Nat}(hi:i<n)(e:α){K:ak->Prop}
 (ag:∀bo,cF k f ga bo s ((List.range n).map λx=>if x=i then e else d x)->(∀b,b≠q.b->bo b=g b)->K bo):aX g ⟨q.b,q.o+Int.toNat (i:Int)*k⟩ (f e) K:=by
 have hlen:=A.len
 simp only[List.length_map,List.length_range] at hlen
 have uE:=A.cap
 rcases A.own with ⟨aH,_⟩|⟨dL,c,t,aa,ad,an,aK,aR⟩
 .rw[aj] at aH;cases aH
 .rw[aj] at aa;cases aa
  have pD:(((List.range n).map d).flatMap f).length=n*k:=by rw[nu a_];simp
  have Lz:i*k+k<=n*k:=by
   have:=Nat.mul_le_mul_right k (show i+1<=n by omega)
   rw[Nat.add_mul,Nat.one_mul] at this;exact this
  have uF:n*k<=s.cap*k:=Nat.mul_le_mul_right k (by omega)
  have kP:Int.toNat (i:Int)=i:=by omega
  rw[kP]
  refine⟨c,t,an,by rw[a_];show q.o+i*k+k<=c.size;omega,ag _ ⟨by simp[hlen],uE,.inr ⟨q,_,t,aj,ad,eH _ _ _,by rw[AL];exact aK,λj aV=>?_⟩⟩ λb au=>cQ _ _ au⟩
  have Hs:(((List.range n).map λx=>if x=i then e else d x).flatMap f).length=n*k:=by rw[nu a_];simp
  have kB:j<n*k:=by rw[<-Hs];exact aV
  rw[wC,a_]
  have SJ:0<k:=by
   rcases Nat.eq_zero_or_pos k with h|h
   .subst h;simp at kB
   .exact h
  have ayP:=Nat.div_add_mod j k
  have hm:=Nat.mod_lt j SJ
  have lQ:j/k<n:=by rw[Nat.div_lt_iff_lt_mul SJ];exact kB
  generalize ai:j/k=x at *
  generalize aB:j%k=y at *
  have k6:j=x*k+y:=by rw[Nat.mul_comm];omega
  have g2:=Ht (k:=k) a_ (l:=(List.range n).map λx=>if x=i then e else d x) (i:=x) (by simpa using lQ) (j:=y) hm
  rw[List.getElem?_eq_getElem (by rw[Hs,<-k6];exact kB)] at g2
  simp only[List.getElem_map,List.getElem_range] at g2
  have a8:(((List.range n).map λx=>if x=i then e else d x).flatMap f)[j]'(by rw[Hs];exact kB)=(((List.range n).map λx=>if x=i then e else d x).flatMap f)[x*k+y]'(by rw[Hs,<-k6];exact kB):=by congr 1
  rw[<-a8] at g2
  by_cases aQ:x=i
  .subst aQ
   rw[if_pos rfl] at g2
   have aZ:q.o+x*k<=q.o+j/\q.o+j<q.o+x*k+k/\q.o+j<c.size:=by
    refine⟨by omega,by omega,?_⟩
    have:j<s.cap*k:=Nat.lt_of_lt_of_le kB uF
    omega
   rw[if_pos aZ,show q.o+j-(q.o+x*k)=y by omega,g2]
  .rw[if_neg aQ] at g2
   have df:¬(q.o+i*k<=q.o+j/\q.o+j<q.o+i*k+k/\q.o+j<c.size):=by
    rintro⟨aq,aM,_⟩
    rcases Nat.lt_or_gt_of_ne aQ with h|h
    .have:=Nat.mul_le_mul_right k (show x+1<=i by omega)
     rw[Nat.add_mul,Nat.one_mul] at this;omega
    .have:=Nat.mul_le_mul_right k (show i+1<=x by omega)
     rw[Nat.add_mul,Nat.one_mul] at this;omega
   rw[if_neg df,aR j (by rw[pD];exact kB)]
   have g3:=Ht (k:=k) a_ (l:=(List.range n).map d) (i:=x) (by simpa using lQ) (j:=y) hm
   rw[List.getElem?_eq_getElem (by rw[pD,<-k6];exact kB)] at g3
   simp only[List.getElem_map,List.getElem_range] at g3
   have b0:(((List.range n).map d).flatMap f)[j]'(by rw[pD];exact kB)=(((List.range n).map d).flatMap f)[x*k+y]'(by rw[pD,<-k6];exact kB):=by congr 1
   rw[g2,<-g3,b0]

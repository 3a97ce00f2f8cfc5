import Derived.Test.YtofgadhgljjhgaaGreatStoC
import Derived.Test.YtofgadhgljjhgaaGreatMemN
namespace Go.Proofs.Tryz
open Go Go.cD Go.RowKit
set_option maxRecDepth 8000
theorem xP (j:Nat):(2:Int)*2 ^ j=2 ^ (j+1):=by rw[Int.pow_succ];omega
theorem PR (j:Nat):(1:Int)<=2 ^ j:=by have:=m1 (Nat.zero_le j);simpa using this
theorem Uu {n:Int}{j:Nat}(aV:j<=62)(aa:n<=2 ^ j)(ad:j=0∨2 ^ (j-1)<n):m0 n=2 ^ j:=by
 rcases ad with rfl|ad
 .simp at aa
  by_cases e:n<1
  .rw[m0,if_pos e];rfl
  .have:n=1:=by omega
   subst this;rfl
 .cases j with
  | zero =>
   simp at aa ad
   omega
  | succ j=>exact aeV (by omega) (by simpa using ad) aa
def as_ (a x:Int):Prop:=Value.int .i64 x=U (m0 a)
theorem MA {n:Int}(aH:n<=4611686018427387904):eW prog 79 [U n] (U (m0 n)):=by
 intro h
 refine aoE n ?_
 unfold Zt
 refine⟨λa x aa k=>a=n/\∃j:Nat,x=2 ^ j/\j<=62/\(j=0∨2 ^ (j-1)<n)/\aa=h/\k=62-j,⟨_,rfl,0,rfl,by omega,.inl rfl,rfl,rfl⟩,?_⟩
 rintro a x aa k ⟨rfl,j,ai,aV,aP,rfl,rfl⟩
 have zG:j=62->x=4611686018427387904:=λe=>by rw[ai,e];simp
 have h0:1<=x:=by rw[ai];exact PR j
 have aU:j<62->2*x=2 ^ (j+1)/\2*x<=4611686018427387904:=λe=>by
  have aS:=m1 (show j+1<=62 by omega)
  rw[ai,xP];simp at aS;exact⟨rfl,aS⟩
 have au:j<62->x<=2305843009213693952:=λe=>by have:=(aU e).2;omega
 have done:¬x<a->as_ a x:=λdx=>by
  show Value.int .i64 x=U (m0 a)
  rw[Uu aV (by rw[<-ai];omega) aP,ai]
 refine cd (λca=>cd (λmR=>?_) λdx=>⟨?_,bL.refl _⟩) λdx=>⟨done dx,bL.refl _⟩
 .have tv:j<62:=by
   rcases Nat.lt_or_ge j 62 with h|h
   .exact h
   .have:=zG (by omega);omega
  obtain⟨aF,a8⟩:=aU tv
  rw[bf (by omega) (by omega)]
  exact⟨_,by omega,rfl,j+1,aF,by omega,.inr (by simp only[Nat.add_sub_cancel];rw[<-ai];exact ca),rfl,rfl⟩
 .exfalso
  have:j=62:=by
   rcases Nat.lt_or_ge j 62 with h|h
   .have:=au h;omega
   .omega
  have:=zG this
  omega
theorem J_ {k:Nat}(ag:k<=10):eW prog 131 [U (2 ^ k)] (.bool true):=by
 intro h
 refine apV _ ?_
 unfold ZW
 refine⟨λa x aa n=>a=2 ^ k/\∃j:Nat,x=2 ^ j/\j<=k/\aa=h/\n=k-j,⟨_,rfl,0,rfl,by omega,rfl,rfl⟩,?_⟩
 rintro a x aa n ⟨rfl,j,rfl,aV,rfl,rfl⟩
 have au:=ln ag
 have h0:=PR j
 have eq:¬((2:Int) ^ j<2 ^ k)->j=k:=λe=>by
  rcases Nat.lt_or_ge j k with h|h
  .have:=m1 (show j+1<=k by omega)
   rw[<-xP] at this;omega
  .omega
 refine cd (λca=>dg (by simp;omega) ?_) λdx=>⟨by rw[eq dx];simp,bL.refl _⟩
 have CI:j<k:=by
  rcases Nat.lt_or_ge j k with h|h
  .exact h
  .have:j=k:=by omega
   subst this;omega
 have aS:=m1 (show j+1<=10 by omega)
 rw[bf (by omega) (by rw[xP];simp at aS;omega),xP]
 exact⟨_,by omega,rfl,j+1,rfl,by omega,rfl,rfl⟩
theorem ata {k:Nat}(ag:k<=10):eW prog 133 [U (2 ^ k)] (U k):=by
 intro h
 refine apZ _ ?_
 unfold ZY
 refine(J_ ag).to λaa aE=>⟨_,rfl,bS rfl ?_⟩
 refine⟨λx n ad m=>∃j:Nat,x=2 ^ (k-j)/\n=j/\j<=k/\bL h ad/\m=k-j,⟨_,0,rfl,rfl,by omega,aE,rfl⟩,?_⟩
 rintro x n ad m ⟨j,rfl,rfl,aV,aC,rfl⟩
 refine cd (λca=>⟨by decide,?_⟩) λdx=>⟨?_,aC⟩
 .have CI:j<k:=by
   rcases Nat.lt_or_ge j k with h|h
   .exact h
   .rw[show k-j=0 by omega] at ca;simp at ca
  have e:(2:Int) ^ (k-j)=2*2 ^ (k-(j+1)):=by rw[xP];congr 1;omega
  have au:=ln (k:=k-(j+1)) (by omega)
  obtain⟨z,bc⟩:∃z,z=(2:Int) ^ (k-(j+1)):=⟨_,rfl⟩
  rw[<-bc] at e au
  rw[e]
  have:(2*z).tdiv 2=z:=by rw[Int.tdiv_eq_ediv_of_nonneg (by omega)];omega
  rw[this,bf (by omega) (by omega),bf (by omega) (by omega)]
  exact⟨_,by omega,j+1,bc,by omega,by omega,aC,rfl⟩
 .rcases Nat.lt_or_ge j k with h|h
  .have:=m1 (show 1<=k-j by omega);simp at this;omega
  .congr 1;omega
theorem atb {k:Nat}(ag:k<=10):eW prog 106 [U (2 ^ k)] (U (2*2 ^ k-1)):=by
 intro h
 have au:=ln ag
 refine apq _ ?_
 unfold ZL
 refine(J_ ag).to λaa aE=>⟨_,rfl,bS rfl ⟨?_,aE⟩⟩
 rw[bf (n:=2*2 ^ k) (by omega) (by omega),bf (by omega) (by omega)]
theorem PN {d s t:Int}(o:uG d s t):eW prog 132 [.agg #[U d,U s,U t]] (.bool true):=by
 intro h
 have:=o.d;have:=o.s;have:=o.t
 refine apX d s t ?_
 unfold ZX
 refine bM λae aa _ aF aE=>gq aF rfl (dg (by simp;omega) (gq aF rfl (dg (by simp;omega) (gq aF rfl (dg (by simp;omega) (gq aF rfl (dg (by simp;omega) (gq aF rfl (dg (by simp;omega) (gq aF rfl ⟨?_,aE⟩))))))))))
 rw[cond_true,decide_eq_true (by omega)]
theorem J9 {d s t:Int}(o:uG d s t):eW prog 107 [.agg #[U d,U s,U t]] (U (s*(d+1)+t+1)):=by
 intro h
 have au:=yw o.s.1 o.s.2 o.d.1 o.d.2
 have bw:=o.t;have bV:=o.d
 refine aps d s t ?_
 unfold ZM
 refine bM λae aa _ aF aE=>k7 aF ?_
 refine(PN o).to λad aC=>⟨_,rfl,bS rfl (gq (aC.get aF) rfl (gq (aC.get aF) rfl (gq (aC.get aF) rfl ⟨?_,aE.trans aC⟩)))⟩
 rw[bf (n:=d+1) (by omega) (by omega),bf (n:=s*(d+1)) (by omega) (by omega),bf (n:=s*(d+1)+t) (by omega) (by omega),bf (by omega) (by omega)]
theorem Kg {k:Nat}{s t:Int}(o:lR k s t):eW prog 108 [.agg #[U (2 ^ k),U s,U t]] (.agg #[U k,U s,U t]):=by
 intro h
 refine apu _ s t ?_
 unfold ZN
 refine bM λae aa _ aF aE=>bM λay ad f2 a8 aC=>gq (aC.get aF) rfl (gq (aC.get aF) rfl (gq (aC.get aF) rfl ?_))
 refine(ata o.k).to λan aI=>⟨_,rfl,⟨az ((aC.trans aI).get aF) rfl,trivial⟩,⟨az ((aC.trans aI).get aF) rfl,trivial⟩,?_⟩
 refine pE ((aE.trans aC).trans aI) (aE.free f2) (aI.get a8) (by simp) λaK bh b1 _=>k7 b1 ⟨rfl,bh⟩
theorem Qc {k:Nat}{s t:Int}(o:lR k s t):eW prog 105 [.agg #[U (2 ^ k),U s,U t]] (.bool true):=by
 intro h
 refine apn _ s t ?_
 unfold ZK
 refine bM λae aa _ aF aE=>gq aF rfl ?_
 refine(J_ o.k).to λad aC=>⟨_,rfl,dg rfl (k7 (aC.get aF) ?_)⟩
 refine(Kg o).to λan aI=>⟨_,_,_,rfl,?_⟩
 refine(PN o.r6).to λaK bh=>⟨_,rfl,dg rfl (k7 ((aC.trans (aI.trans bh)).get aF) ?_)⟩
 refine(Kg o).to λaR bE=>⟨_,_,_,rfl,?_⟩
 refine(J9 o.r6).to λbp ch=>⟨_,rfl,?_⟩
 have:=o.AM;have:=o.LG
 refine(MA (n:=iw k s t) (by omega)).to λb3 c9=>⟨_,rfl,?_,(aE.trans aC).trans ((aI.trans bh).trans (bE.trans (ch.trans c9)))⟩
 rw[cond_true,decide_eq_true (show m0 (iw k s t)<=1024 by show mc k s t<=1024;omega)]
theorem Ps {k:Nat}{s t:Int}(o:lR k s t):eW prog 68 [.agg #[U (2 ^ k),U s,U t]] (.tuple #[U (s*(2*2 ^ k-1)),U t,U (mc k s t)]):=by
 intro h
 have au:=ln o.k;have:=o.AM
 refine aom _ s t ?_
 unfold Zn
 refine bM λae aa _ aF aE=>k7 aF ?_
 refine(Qc o).to λad aC=>⟨_,rfl,bS rfl (gq (aC.get aF) rfl (gq (aC.get aF) rfl (gq (aC.get aF) rfl (k7 (aC.get aF) ?_))))⟩
 refine(atb o.k).to λan aI=>⟨_,rfl,?_⟩
 have b0:=(aC.trans aI).get aF
 refine⟨⟨az b0 rfl,az b0 rfl,az b0 rfl,trivial⟩,⟨az b0 rfl,trivial⟩,⟨az b0 rfl,trivial⟩,?_⟩
 refine(Kg o).to λaK bh=>⟨_,_,_,rfl,?_⟩
 have b1:=bh.get b0
 refine⟨⟨az b1 rfl,trivial⟩,⟨az b1 rfl,trivial⟩,?_⟩
 refine(J9 o.r6).to λaR bE=>⟨_,rfl,?_⟩
 have cy:=bE.get b1
 refine⟨⟨az cy rfl,trivial⟩,⟨az cy rfl,trivial⟩,?_⟩
 refine(MA (n:=iw k s t) (by omega)).to λbp ch=>⟨_,rfl,?_⟩
 have dE:=ch.get cy
 refine⟨⟨az dE rfl,trivial⟩,⟨az dE rfl,trivial⟩,?_,(aE.trans aC).trans ((aI.trans bh).trans (bE.trans ch))⟩
 rw[bf]
 .rfl
 .have:=o.s
  have aa:0<=s*(2*2 ^ k-1):=Int.mul_nonneg (by omega) (by omega)
  omega
 .have aa:s*(2*2 ^ k-1)<=8*2047:=Int.mul_le_mul o.s.2 (by omega) (by omega) (by omega)
  omega
theorem Km {m:Nat}{s t:Int}{L:Nat}(o:o7 m s t L)(n:Nat)(aH:n<=100):eW prog 67 [v4 m s t L,U n] (U (2 ^ (m-2*n))):=by
 intro h
 refine aok _ s t L n ?_
 unfold Zm
 refine bM λae aa _ aF aE=>gq aF rfl ?_
 refine⟨λl x i ad k=>l=n/\∃j:Nat,i=j/\j<=n/\x=2 ^ (m-2*j)/\bL h ad/\k=n-j,⟨_,rfl,0,rfl,Nat.zero_le _,rfl,aE,rfl⟩,?_⟩
 rintro l x i ad k ⟨rfl,j,rfl,aV,rfl,aC,rfl⟩
 refine cd (λca=>⟨by decide,_,?_,rfl,j+1,bf (by omega) (by omega),by omega,?_,aC,rfl⟩) λdx=>?_
 .omega
 .rw[abE (by have:=o.m;omega)];rfl
 .have:j=n:=by omega
  subst this;exact⟨rfl,aC⟩
theorem Qd {m:Nat}{s t:Int}{L:Nat}(o:o7 m s t L)(n:Nat)(aH:n<=100):eW prog 69 [v4 m s t L,U n] (.agg #[U (2 ^ (m-2*n)),U s,U t]):=by
 intro h
 refine aoo _ s t L n ?_
 unfold Zo
 refine bM λae aa _ aF aE=>bM λay ad f2 a8 aC=>vU (aC.get aF) (gq (aC.get aF) rfl (gq (aC.get aF) rfl ?_))
 refine(Km o n aH).to λan aI=>⟨_,rfl,⟨az ((aC.trans aI).get aF) rfl,trivial⟩,⟨az ((aC.trans aI).get aF) rfl,trivial⟩,?_⟩
 exact pE ((aE.trans aC).trans aI) (aE.free f2) (aI.get a8) (by simp) λaK bh b1 _=>k7 b1 ⟨rfl,bh⟩
theorem abF {m:Nat}{s t:Int}{L:Nat}(o:o7 m s t L):eW prog 66 [v4 m s t L] (.bool true):=by
 intro h
 have dY:=o.L
 refine aoi _ s t L ?_
 unfold Zl
 refine bM λae aa f1 aF aE=>gq aF rfl (cd (λe=>absurd e (by omega)) λ_=>gq aF rfl (bS (by simp;omega) ?_))
 refine⟨λq i ad k=>q=⟨ae,0⟩/\∃j:Nat,i=j/\j<=L/\bL aa ad/\k=L-j,⟨_,rfl,0,rfl,Nat.zero_le _,bL.refl _,rfl⟩,?_⟩
 rintro q i ad k ⟨rfl,j,rfl,aV,aC,rfl⟩
 refine gq (aC.get aF) rfl (cd (λca=>vU (aC.get aF) ?_) λ_=>⟨rfl,aE.trans aC⟩)
 refine(Qd o j (by omega)).to λan aI=>⟨_,_,_,rfl,?_⟩
 refine(Qc (o.gy j)).to λaK bh=>⟨_,rfl,bS rfl ⟨_,by omega,rfl,j+1,bf (by omega) (by omega),by omega,aC.trans (aI.trans bh),rfl⟩⟩
theorem ag4 {m:Nat}{s t:Int}{L:Nat}(o:o7 m s t L)(h:ak):ao 33 [v4 m s t L] h λv ah=>∃x,v=bb x/\cW eR h ah x (rD m s t L L)/\bL h ah:=by
 have dY:=o.L
 refine ams _ s t L ?_
 unfold Yr
 refine bM λae aa f1 aF aE=>vU aF ?_
 refine(abF o).to λad aC=>⟨_,rfl,bS rfl (vU (aC.get aF) (gq (aC.get aF) rfl ?_))⟩
 rw[bf (by omega) (by omega),show(L:Int)-1=((L-1:Nat):Int) by omega]
 refine(Km o (L-1) (by omega)).to λan aI=>⟨_,rfl,λay hZ=>?_⟩
 have nw:=(aE.trans aC).trans aI
 have bh:bL an (bA an ay (.cells #[U (2 ^ (m-2*(L-1)))] 3)):=(bL.refl an).bA hZ _
 have cj:cW eR h (bA an ay (.cells #[U (2 ^ (m-2*(L-1)))] 3)) ⟨some ⟨ay,0⟩,1,1,none⟩ (rD m s t L 0):=cW.new (f:=eR) (l:=[2 ^ (m-2*(L-1))]) (nw.free hZ) 1 rfl
 have b1:=(aC.trans (aI.trans bh)).get aF
 have mG:=(aC.trans aI).get aF
 have o1:∀p,ar.q ⟨some ⟨ay,0⟩,1,1,none⟩=some p->ae≠p.b:=by
  intro p aS e
  cases aS
  rw[show ae=ay from e,hZ] at mG;cases mG
 refine⟨λq x i aR k=>q=⟨ae,0⟩/\∃j:Nat,i=j/\j<=L/\cW eR h aR x (rD m s t L j)/\(∀p,x.q=some p->ae≠p.b)/\aR ae=some (.cells #[U (2 ^ m),U s,U t,U L] 74 (0,0))/\bL h aR/\k=L-j,
  ⟨_,rfl,0,rfl,Nat.zero_le _,cj,o1,b1,nw.trans bh,rfl⟩,?_⟩
 rintro q x i aR k ⟨rfl,j,rfl,aV,tE,abG,cy,bE,rfl⟩
 refine gq cy rfl (cd (λca=>?_) λdx=>?_)
 .refine vU cy ?_
  refine(Qd o j (by omega)).to λbp ch=>⟨_,_,_,rfl,?_⟩
  refine(Ps (o.gy j)).to λb3 c9=>⟨_,_,_,rfl,bM λaN bW tl fP eN=>?_⟩
  have zV:=ch.trans c9
  have y:cW eR h bW ⟨some ⟨aN,0⟩,3,3,none⟩ (vb m s t j):=cW.qz (f:=eR) (l:=vb m s t j) (bE.free (zV.free tl)) fP rfl rfl
  have cm:=(tE.bD zV).bD eN
  have room:((rD m s t L j).length+(vb m s t j).length)*8<=140737488355328:=by rw[UA,show(vb m s t j).length=3 from rfl];omega
  refine cW.app yT Eh cm y.rd (λc aZ=>bE.free (zV.free (eN.free aZ))) room (by decide) ?_
  intro sx b7 eO f9 wJ D1
  refine⟨_,by omega,rfl,j+1,bf (by omega) (by omega),by omega,by rw[NB];exact eO,λeu Jg e=>?_,?_,?_,rfl⟩
  .rcases wJ eu Jg with ⟨p,aS,h⟩|h
   .exact abG p aS (e.trans h)
   .rw[<-e,(zV.trans eN).get cy] at h;cases h
  .rw[f9 ae (by rw[(zV.trans eN).get cy];simp) abG,(zV.trans eN).get cy]
  .intro c aZ
   have aa:aR c≠none:=by rw[bE c aZ];exact aZ
   have ad:bW c=aR c:=(zV.trans eN) c aa
   rw[f9 c (by rw[ad];exact aa) (λp aS e=>aZ (e▸(tE.bl aS).1)),ad,bE c aZ]
 .have:j=L:=by omega
  subst this;exact⟨_,rfl,tE,bE⟩
end Go.Proofs.Tryz
namespace Go.Proofs.Tryz
open Go Go.cD Go.RowKit
set_option maxRecDepth 8000
theorem ag6 {h:ak}{s:ar}{l:List Nat}(r:fi eR h s (l.map λn:Nat=>(n:Int)))(aa:1<=l.length)(ad:l.length<=16)(au:∀n∈l,1<=n/\n<=4096) :
 ao 35 [bb s] h λv ah=>∃(m:jw),v= .tuple #[bg ⟨m.b,0⟩,U 0]/\cV 53 m (λ_ _=>e6) [] ⟨none,0,0,none⟩ ah/\m.eX=l.length/\(∀i,m.cf i=l.getD i 0)/\(∀x,bF m ⟨none,0,0,none⟩ x->h x=none)/\bL h ah:=by
 have hlen:=r.len
 rw[List.length_map] at hlen
 refine HW _ ?_
 unfold Ys
 refine bS (decide_eq_false (by omega)) (bS (decide_eq_false (by omega)) ?_)
 refine bM λae g2 f1 aF aC=>?_
 have pJ:h ae=none:=f1
 let oA:List Nat->ak->Prop:=λb6 g=>∀j,j<b6.length->h (b6.getD j 0)=none/\∃c t,g (b6.getD j 0)=some (.cells c t (0,0))/\c.size=l.getD j 0*12/\∀a,a<l.getD j 0->∀k (ag:k<12),c[a*12+k]? =some (ab e6[k])
 refine⟨λs1 cj aA g bP=>s=s1/\cj=some ⟨ae,0⟩/\∃(i:Nat) (rs:ar) (b6:List Nat),aA=i/\i<=l.length/\bP=l.length-i/\b6.length=i/\g ae=some (.cells #[bb rs,bb ⟨none,0,0,none⟩,.bool false] 53 (0,0))/\cW bb h g rs (qQ l b6)/\oA b6 g/\b6.Nodup/\ae∉b6/\(∀q,rs.q=some q->q.b≠ae/\q.b∉b6)/\bL h g,
  ⟨l.length,rfl,rfl,0,_,[],rfl,by omega,rfl,rfl,aF,cW.gD ..,λj aV=>absurd aV (by simp),List.nodup_nil,by simp,(by intro q aj;cases aj),aC⟩,?_⟩
 rintro s1 cj aA g bP ⟨rfl,rfl,i,rs,b6,rfl,hi,rfl,rfl,iV,hL,qR,ir,e1,qS,cO⟩
 refine cd (λca=>?_) λdx=>?_
 .have b5:b6.length<l.length:=by omega
  have aH:=au _ (List.getElem_mem b5)
  have c_:l.getD b6.length 0=l[b6.length]:=by simp[List.getD,b5]
  rw[<-c_] at aH
  refine(r.bD cO).cp (i:=b6.length) (by simpa using b5) λq aj aZ=>?_
  have e:(l.map λn:Nat=>(n:Int))[b6.length]'(by simpa using b5)=((l.getD b6.length 0:Nat):Int):=by rw[c_];simp
  rw[e] at aZ
  generalize nC:l.getD b6.length 0=n at *
  have abH:(0:Int)<=(b6.length:Int):=by omega
  have Gk:(b6.length:Int)+1<=(s.len:Int):=by omega
  refine⟨_,aZ,bS (decide_eq_false (by omega)) ⟨q,aj,abH,Gk,_,aZ,bS (show decide ((4096:Int)<(n:Int))=false from decide_eq_false (by omega)) ⟨_,rfl,_,az iV rfl,q,aj,abH,Gk,_,aZ,by omega,by omega,by omega,by omega,bM λay g3 f2 a8 aI=>?_⟩⟩⟩
  have mv:Int.toNat (n:Int)=n:=by omega
  rw[mv]
  rw[mv] at a8
  have hZ:h ay=none:=cO.free f2
  have Om:=hL.bD aI
  refine cW.Bu Xm Xn Om ⟨some ⟨ay,0⟩,n,n,none⟩ (λb au=>cO.free (aI.free au)) (by simp[qQ];omega) (by decide) ?_
  intro Fc g4 Fe vp tC alb
  have zr:=aI.get iV
  have cZ:ay≠ae:=λe=>by rw[e,iV] at f2;cases f2
  have On:g4 ae=_:=(vp ae (by rw[zr];simp) λq aj e=>(qS q aj).1 e.symm).trans zr
  have EF:bL h g4:=λx ai=>by
   have an:g3 x≠none:=by rw[aI x (by rw[cO x ai];exact ai),cO x ai];exact ai
   rw[vp x an λq aj e=>ai (e▸(hL.bl aj).1),aI x (by rw[cO x ai];exact ai),cO x ai]
  have vq:∀q,Fc.q=some q->q.b≠ae/\q.b≠ay/\q.b∉b6:=λq aj=>by
   rcases tC q aj with ⟨p,aS,e⟩|aH
   .rw[e];exact⟨(qS p aS).1,λe=>(hL.bl aS).2 (e▸f2),(qS p aS).2⟩
   .refine⟨λe=>(by rw[e,zr] at aH;cases aH),λe=>(by rw[e,a8] at aH;cases aH),λhm=>?_⟩
    obtain⟨j,aV,e⟩:=List.getElem_of_mem hm
    obtain⟨_,c,t,aZ,_⟩:=qR j aV
    have:b6.getD j 0=q.b:=by simp[List.getD,aV,e]
    rw[this] at aZ
    rw[aI.get aZ] at aH;cases aH
  refine⟨_,rfl,pE EF pJ On (by simp) λg5 y1 cy cm=>⟨l.length-(b6.length+1),by omega,rfl,rfl,b6.length+1,Fc,b6++[ay],bf (by omega) (by omega),by omega,rfl,by simp,by rw[cy];rfl,?_,?_,?_,?_,?_,y1⟩⟩
  .rw[Xl,nC]
   exact Fe.move λq aj=>cm _ (vq q aj).1
  .intro j aV
   by_cases c:j<b6.length
   .have e:(b6++[ay]).getD j 0=b6.getD j 0:=by simp[List.getD,List.getElem?_append_left c]
    rw[e]
    obtain⟨h0,nH,t,aZ,aq,aM⟩:=qR j c
    have hm:b6.getD j 0∈b6:=by simp[List.getD,c]
    refine⟨h0,nH,t,?_,aq,aM⟩
    rw[cm _ λe=>e1 (e▸hm),vp _ (by rw[aI.get aZ];simp) λq aj e=>(qS q aj).2 (e▸hm),aI.get aZ]
   .have k6:j=b6.length:=by simp at aV;omega
    subst k6
    have e:(b6++[ay]).getD b6.length 0=ay:=by simp[List.getD]
    rw[e,nC]
    refine⟨hZ,_,_,by rw[cm _ cZ,vp _ (by rw[a8];simp) λq aj e=>(hL.bl aj).2 (e▸f2),a8],?_,λa bO k ag=>Xk bO ag⟩
    exact Mo _ _
  .rw[List.nodup_append]
   refine⟨ir,by simp,λa bO b au e=>?_⟩
   simp at au;subst au;subst e
   obtain⟨j,aV,e⟩:=List.getElem_of_mem bO
   obtain⟨_,c,t,aZ,_⟩:=qR j aV
   have:b6.getD j 0=a:=by simp[List.getD,aV,e]
   rw[this,f2] at aZ;cases aZ
  .intro hm
   rcases List.mem_append.1 hm with h|h
   .exact e1 h
   .simp at h;exact cZ h.symm
  .intro q aj
   refine⟨(vq q aj).1,λhm=>?_⟩
   rcases List.mem_append.1 hm with h|h
   .exact(vq q aj).2.2 h
   .simp at h;exact(vq q aj).2.1 h
 .have aH:b6.length=l.length:=by omega
  have y7:=hL.len
  simp only[qQ,List.length_map,List.length_range] at y7
  refine⟨⟨ae,rs,λj=>b6.getD j 0,λj=>l.getD j 0,l.length⟩,rfl,⟨iV,cF.gD ..,⟨(show 0<l.length by omega),ad⟩,(show rs.len=l.length by omega),?_,?_,?_,?_,?_,(by intro q aj;cases aj),?_⟩,rfl,λ_=>rfl,?_,cO⟩
  .intro j aV
   have aV:j<l.length:=aV
   obtain⟨q,aj,e⟩:=hL.rd.at (i:=j) (by simp[qQ];omega)
   refine⟨q,aj,?_⟩
   rw[e]
   simp[qQ]
  .intro j aV
   have aV:j<l.length:=aV
   obtain⟨_,c,t,aq,aM,a3⟩:=qR j (by omega)
   exact⟨c,t,aq,aM,a3⟩
  .intro j aV
   have aV:j<l.length:=aV
   have:l.getD j 0=l[j]:=by simp[List.getD,aV]
   show l.getD j 0<=4096
   rw[this];exact(au _ (List.getElem_mem aV)).2
  .intro j aV e
   have aV:j<l.length:=aV
   have hm:b6.getD j 0∈b6:=by simp[List.getD,show j<b6.length by omega]
   exact e1 ((show b6.getD j 0=ae from e)▸hm)
  .intro j k aV ag e
   have aV:j<l.length:=aV
   have ag:k<l.length:=ag
   exact BY ir (by omega) (by omega) e
  .intro q aj
   refine⟨(qS q aj).1,λj aV e=>?_,(by intro p aS;cases aS)⟩
   have aV:j<l.length:=aV
   have hm:b6.getD j 0∈b6:=by simp[List.getD,show j<b6.length by omega]
   exact(qS q aj).2 ((show q.b=b6.getD j 0 from e)▸hm)
  .rintro x (rfl|⟨q,aj,_⟩|⟨j,aV,rfl⟩|⟨q,aj,rfl⟩)
   .exact pJ
   .cases aj
   .have aV:j<l.length:=aV
    exact(qR j (by omega)).1
   .exact(hL.bl aj).1
theorem sq {T:TypeId}{m:jw}{R:dF}{a7:List de}{es:ar}{h:ak}(M:cV T m R a7 es h){r:Nat}(aP:r<m.eX):ao 22 [bg ⟨m.b,0⟩,U r] h λv ah=>v=U (m.cf r)/\ah=h:=by
 refine rA _ _ ?_
 unfold Yp
 have aT:=M.len
 obtain⟨q,aj,aZ⟩:=M.row r aP
 refine bS (decide_eq_false (by omega)) ⟨_,az M.top rfl,bS (show decide ((m.rs.len:Int)<=(r:Int))=false from decide_eq_false (by omega)) ⟨_,az M.top rfl,q,aj,by omega,by omega,⟨some ⟨m.jS r,0⟩,m.cf r,m.cf r,none⟩,?_,rfl,rfl⟩⟩
 rw[show q.o+Int.toNat (r:Int)*1=q.o+r by simp];exact aZ
theorem atc {T:TypeId}{m:jw}{R:dF}{a7:List de}{es:ar}{h:ak}(M:cV T m R a7 es h){k:Nat}{s t:Int}(o:lR k s t){f:Nat}(a_:f+2<m.eX)(aa:s*(2*2 ^ k-1)<=(m.cf f:Int))(ad:t<=(m.cf (f+1):Int))(an:mc k s t<=(m.cf (f+2):Int)) :
 ao 77 [bg ⟨m.b,0⟩,U f,.agg #[U (2 ^ k),U s,U t]] h λv ah=>∃b,v= .tuple #[bg ⟨b,0⟩,U 0]/\h b=none/\ah b=some (.cells #[bg ⟨m.b,0⟩,U f,U (2 ^ k),U s,U t,.bool false,bb ⟨none,0,0,none⟩] 137 (0,0))/\bL h ah:=by
 have md:=M.eX
 refine aoB _ _ _ _ _ ?_
 unfold Zs
 refine bM λae g1 f1 aF aE=>⟨_,az aF rfl,_,az aF rfl,_,az aF rfl,?_⟩
 refine(Ps o).to λg2 aC=>⟨_,_,_,rfl,?_⟩
 have a8:=aC.get aF
 refine⟨_,az a8 rfl,_,az a8 rfl,_,az a8 rfl,?_⟩
 refine(Qc o).to λg3 aI=>⟨_,rfl,bS rfl ?_⟩
 have nw:=(aE.trans aC).trans aI
 have gj:=M.bD nw
 refine(sq gj (r:=f) (by omega)).mono ?_
 rintro _ g4 ⟨rfl,rfl⟩
 refine⟨_,rfl,bS (show decide ((m.cf f:Int)<s*(2*2 ^ k-1))=false from decide_eq_false (by omega)) ?_⟩
 rw[show al ((f:Int)+1)=((f+1:Nat):Int) by rw[bf (by omega) (by omega)];rfl,show al ((f:Int)+2)=((f+2:Nat):Int) by rw[bf (by omega) (by omega)];rfl]
 refine(sq gj (r:=f+1) (by omega)).mono ?_
 rintro _ g5 ⟨rfl,rfl⟩
 refine⟨_,rfl,bS (show decide ((m.cf (f+1):Int)<t)=false from decide_eq_false (by omega)) ?_⟩
 refine(sq gj (r:=f+2) (by omega)).mono ?_
 rintro _ g6 ⟨rfl,rfl⟩
 have b0:=aI.get a8
 refine⟨_,rfl,bS (show decide ((m.cf (f+2):Int)<mc k s t)=false from decide_eq_false (by omega)) ⟨_,az b0 rfl,_,az b0 rfl,_,az b0 rfl,bM λay g7 f7 fo c9=>?_⟩⟩
 exact⟨ay,rfl,nw.free f7,fo,nw.trans c9⟩
theorem atd:vk prog 131 138 (.pointer none) 8:=⟨by kernel_rfl,by kernel_rfl,by kernel_rfl,by kernel_rfl,rfl⟩

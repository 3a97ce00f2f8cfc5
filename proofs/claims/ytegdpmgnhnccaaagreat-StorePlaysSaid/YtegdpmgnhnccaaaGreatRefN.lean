import Derived.Test.YtegdpmgnhnccaaaGreatStoC
import Derived.Test.YtegdpmgnhnccaaaGreatMemN
namespace Go.Proofs.Tryz
open Go Go.cQ Go.RowKit
set_option maxRecDepth 8000
theorem vy (j:Nat):(2:Int)*2 ^ j=2 ^ (j+1):=by rw[Int.pow_succ];omega
theorem LJ (j:Nat):(1:Int)<=2 ^ j:=by have:=lE (atx j);simpa using this
theorem alO {n:Int}{j:Nat}(aL:j<=62)(aa:n<=2 ^ j)(ad:j=0∨2 ^ (j-1)<n):l2 n=2 ^ j:=by
 rcases ad with rfl|ad
 .simp at aa;by_cases e:n<1
  .rw[l2,as8 e];rfl
  .have:n=1:=by omega
   subst this;rfl
 .cases j with
  | zero =>
   simp at aa ad;omega
  | succ j=>exact Z0 (by omega) (by simpa using ad) aa
def alP (a x:Int):Prop:=Value.int .i64 x=U (l2 a)
theorem WD {n:Int}(aH:n<=4611686018427387904):eu prog 106 [U n] (U (l2 n)):=by
 intro h;refine aip n ?_;unfold UW;refine⟨λa x aa k=>a=n/\∃j:Nat,x=2 ^ j/\j<=62/\(j=0∨2 ^ (j-1)<n)/\aa=h/\k=62-j,⟨_,rfl,0,rfl,by omega,.inl rfl,rfl,rfl⟩,?_⟩;rintro a x aa k ⟨rfl,j,af,aL,aK,rfl,rfl⟩;have xk:j=62->x=4611686018427387904:=λe=>by rw[af,e];simp
 have h0:1<=x:=by rw[af];exact LJ j
 have aR:j<62->2*x=2 ^ (j+1)/\2*x<=4611686018427387904:=λe=>by
  have aM:=lE (show j+1<=62 by omega);rw[af,vy];simp at aM;exact⟨rfl,aM⟩
 have au:j<62->x<=2305843009213693952:=λe=>by have:=(aR e).2;omega
 have done:¬x<a->alP a x:=λc3=>by
  show Value.int .i64 x=U (l2 a);rw[alO aL (by rw[<-af];omega) aK,af]
 refine b6 (λb1=>b6 (λlF=>?_) λc3=>⟨?_,bB.refl _⟩) λc3=>⟨done c3,bB.refl _⟩
 .have rA:j<62:=by
   rcases atF j 62 with h|h
   .exact h
   .have:=xk (by omega);omega
  obtain⟨aC,a7⟩:=aR rA;rw[bl];exact⟨_,by omega,rfl,j+1,aC,by omega,.inr (by simp only[auK];rw[<-af];exact b1),rfl,rfl⟩
 .exfalso;have:j=62:=by
   rcases atF j 62 with h|h
   .have:=au h;omega
   .omega
  have:=xk this;omega
theorem Gt {k:Nat}(ab:k<=10):eu prog 130 [U (2 ^ k)] (.bool true):=by
 intro h;refine ai2 _ ?_;unfold Va;refine⟨λa x aa n=>a=2 ^ k/\∃j:Nat,x=2 ^ j/\j<=k/\aa=h/\n=k-j,⟨_,rfl,0,rfl,by omega,rfl,rfl⟩,?_⟩;rintro a x aa n ⟨rfl,j,rfl,aL,rfl,rfl⟩;have au:=kb ab;have h0:=LJ j;have eq:¬((2:Int) ^ j<2 ^ k)->j=k:=λe=>by
  rcases atF j k with h|h
  .have:=lE (show j+1<=k by omega);rw[<-vy] at this;omega
  .omega
 refine b6 (λb1=>eh (by simp;omega) ?_) λc3=>⟨by rw[eq c3];simp,bB.refl _⟩;have z6:j<k:=by
  rcases atF j k with h|h
  .exact h
  .have:j=k:=by omega
   subst this;omega
 have aM:=lE (show j+1<=10 by omega);rw[iN (by omega) (by rw[vy];simp at aM;omega),vy];exact⟨_,by omega,rfl,j+1,rfl,by omega,rfl,rfl⟩
theorem alQ {k:Nat}(ab:k<=10):eu prog 153 [U (2 ^ k)] (U k):=by
 intro h;refine ajb _ ?_;unfold Vc;refine(Gt ab).to λaa aE=>⟨_,rfl,b0 rfl ?_⟩;refine⟨λx n ad m=>∃j:Nat,x=2 ^ (k-j)/\n=j/\j<=k/\bB h ad/\m=k-j,⟨_,0,rfl,rfl,by omega,aE,rfl⟩,?_⟩;rintro x n ad m ⟨j,rfl,rfl,aL,az,rfl⟩;refine b6 (λb1=>⟨by decide,?_⟩) λc3=>⟨?_,az⟩
 .have z6:j<k:=by
   rcases atF j k with h|h
   .exact h
   .rw[show k-j=0 by omega] at b1;simp at b1
  have e:(2:Int) ^ (k-j)=2*2 ^ (k-(j+1)):=by rw[vy];congr 1;omega
  have au:=kb (k:=k-(j+1)) (by omega);obtain⟨z,bt⟩:∃z,z=(2:Int) ^ (k-(j+1)):=⟨_,rfl⟩;rw[<-bt] at e au;rw[e];have:(2*z).tdiv 2=z:=by rw[Int.tdiv_eq_ediv_of_nonneg (by omega)];omega
  rw[this,bl,bl];exact⟨_,by omega,j+1,bt,by omega,by omega,az,rfl⟩
 .rcases atF j k with h|h
  .have:=lE (show 1<=k-j by omega);simp at this;omega
  .congr 1;omega
theorem alR {k:Nat}(ab:k<=10):eu prog 105 [U (2 ^ k)] (U (2*2 ^ k-1)):=by
 intro h;have au:=kb ab;refine ain _ ?_;unfold UU;refine(Gt ab).to λaa aE=>⟨_,rfl,b0 rfl ⟨?_,aE⟩⟩;rw[bl (n:=2*2 ^ k),bl]
theorem LF {d s t:Int}(o:sQ d s t):eu prog 131 [.agg #[U d,U s,U t]] (.bool true):=by
 intro h;have:=o.d;have:=o.s;have:=o.t;refine ai4 d s t ?_;unfold Vb;refine bL λaj aa _ aC aE=>fh aC rfl (eh (by simp;omega) (fh aC rfl (eh (by simp;omega) (fh aC rfl (eh (by simp;omega) (fh aC rfl (eh (by simp;omega) (fh aC rfl (eh (by simp;omega) (fh aC rfl ⟨?_,aE⟩))))))))));rw[aud,pS]
theorem Gs {d s t:Int}(o:sQ d s t):eu prog 107 [.agg #[U d,U s,U t]] (U (s*(d+1)+t+1)):=by
 intro h;have au:=wq o.s.1 o.s.2 o.d.1 o.d.2;have bz:=o.t;have bK:=o.d;refine air d s t ?_;unfold UX;refine bL λaj aa _ aC aE=>jV aC ?_;refine(LF o).to λad az=>⟨_,rfl,b0 rfl (fh (az.get aC) rfl (fh (az.get aC) rfl (fh (az.get aC) rfl ⟨?_,aE.trans az⟩)))⟩;rw[bl (n:=d+1),bl (n:=s*(d+1)),bl (n:=s*(d+1)+t),bl]
theorem Gu {k:Nat}{s t:Int}(o:kv k s t):eu prog 108 [.agg #[U (2 ^ k),U s,U t]] (.agg #[U k,U s,U t]):=by
 intro h;refine ait _ s t ?_;unfold UY;refine bL λaj aa _ aC aE=>bL λaB ad f2 a7 az=>fh (az.get aC) rfl (fh (az.get aC) rfl (fh (az.get aC) rfl ?_));refine(alQ o.k).to λaq aD=>⟨_,rfl,⟨aF ((az.trans aD).get aC) rfl,trivial⟩,⟨aF ((az.trans aD).get aC) rfl,trivial⟩,?_⟩;refine n0 ((aE.trans az).trans aD) (aE.free f2) (aD.get a7) (by simp) λaJ bc b5 _=>jV b5 ⟨rfl,bc⟩
theorem LX {k:Nat}{s t:Int}(o:kv k s t):eu prog 78 [.agg #[U (2 ^ k),U s,U t]] (.bool true):=by
 intro h;refine aic _ s t ?_;unfold UT;refine bL λaj aa _ aC aE=>fh aC rfl ?_;refine(Gt o.k).to λad az=>⟨_,rfl,eh rfl (jV (az.get aC) ?_)⟩;refine(Gu o).to λaq aD=>⟨_,_,_,rfl,?_⟩;refine(LF o.qz).to λaJ bc=>⟨_,rfl,eh rfl (jV ((az.trans (aD.trans bc)).get aC) ?_)⟩;refine(Gu o).to λaW bU=>⟨_,_,_,rfl,?_⟩;refine(Gs o.qz).to λbd cb=>⟨_,rfl,?_⟩;have:=o.ys;have:=o.H3;refine(WD (n:=ht k s t) (by omega)).to λcg cV=>⟨_,rfl,?_,(aE.trans az).trans ((aD.trans bc).trans (bU.trans (cb.trans cV)))⟩;rw[aud,atl (show l2 (ht k s t)<=1024 by show kO k s t<=1024;omega)]
theorem Lh {k:Nat}{s t:Int}(o:kv k s t):eu prog 51 [.agg #[U (2 ^ k),U s,U t]] (.tuple #[U (s*(2*2 ^ k-1)),U t,U (kO k s t)]):=by
 intro h;have au:=kb o.k;have:=o.ys;refine ahs _ s t ?_;unfold Uy;refine bL λaj aa _ aC aE=>jV aC ?_;refine(LX o).to λad az=>⟨_,rfl,b0 rfl (fh (az.get aC) rfl (fh (az.get aC) rfl (fh (az.get aC) rfl (jV (az.get aC) ?_))))⟩;refine(alR o.k).to λaq aD=>⟨_,rfl,?_⟩;have b2:=(az.trans aD).get aC;refine⟨⟨aF b2 rfl,aF b2 rfl,aF b2 rfl,trivial⟩,⟨aF b2 rfl,trivial⟩,⟨aF b2 rfl,trivial⟩,?_⟩;refine(Gu o).to λaJ bc=>⟨_,_,_,rfl,?_⟩;have b5:=bc.get b2;refine⟨⟨aF b5 rfl,trivial⟩,⟨aF b5 rfl,trivial⟩,?_⟩;refine(Gs o.qz).to λaW bU=>⟨_,rfl,?_⟩;have cD:=bU.get b5;refine⟨⟨aF cD rfl,trivial⟩,⟨aF cD rfl,trivial⟩,?_⟩;refine(WD (n:=ht k s t) (by omega)).to λbd cb=>⟨_,rfl,?_⟩;have dK:=cb.get cD;refine⟨⟨aF dK rfl,trivial⟩,⟨aF dK rfl,trivial⟩,?_,(aE.trans az).trans ((aD.trans bc).trans (bU.trans cb))⟩;rw[iN]
 .rfl
 .have:=o.s;have aa:0<=s*(2*2 ^ k-1):=Int.mul_nonneg (by omega) (by omega);omega
 .have aa:s*(2*2 ^ k-1)<=8*2047:=Int.mul_le_mul o.s.2 (by omega) (by omega) (by omega);omega
theorem GC {m:Nat}{s t:Int}{L:Nat}(o:mK m s t L)(n:Nat)(aH:n<=100):eu prog 50 [v4 m s t L,U n] (U (2 ^ (m-2*n))):=by
 intro h;refine ahq _ s t L n ?_;unfold Ux;refine bL λaj aa _ aC aE=>fh aC rfl ?_;refine⟨λl x i ad k=>l=n/\∃j:Nat,i=j/\j<=n/\x=2 ^ (m-2*j)/\bB h ad/\k=n-j,⟨_,rfl,0,rfl,atx _,rfl,aE,rfl⟩,?_⟩;rintro l x i ad k ⟨rfl,j,rfl,aL,rfl,az,rfl⟩;refine b6 (λb1=>⟨by decide,_,?_,rfl,j+1,bl,by omega,?_,az,rfl⟩) λc3=>?_
 .omega
 .rw[WE (by have:=o.m;omega)];rfl
 .have:j=n:=by omega
  subst this;exact⟨rfl,az⟩
theorem LY {m:Nat}{s t:Int}{L:Nat}(o:mK m s t L)(n:Nat)(aH:n<=100):eu prog 52 [v4 m s t L,U n] (.agg #[U (2 ^ (m-2*n)),U s,U t]):=by
 intro h;refine ahu _ s t L n ?_;unfold Uz;refine bL λaj aa _ aC aE=>bL λaB ad f2 a7 az=>qo (az.get aC) (fh (az.get aC) rfl (fh (az.get aC) rfl ?_));refine(GC o n aH).to λaq aD=>⟨_,rfl,⟨aF ((az.trans aD).get aC) rfl,trivial⟩,⟨aF ((az.trans aD).get aC) rfl,trivial⟩,?_⟩;exact n0 ((aE.trans az).trans aD) (aE.free f2) (aD.get a7) (by simp) λaJ bc b5 _=>jV b5 ⟨rfl,bc⟩
theorem WG {m:Nat}{s t:Int}{L:Nat}(o:mK m s t L):eu prog 33 [v4 m s t L] (.bool true):=by
 intro h;have fp:=o.L;refine ahg _ s t L ?_;unfold Uu;refine bL λaj aa f1 aC aE=>fh aC rfl (b6 (λe=>absurd e (by omega)) λ_=>fh aC rfl (b0 (by simp;omega) ?_));refine⟨λq i ad k=>q=⟨aj,0⟩/\∃j:Nat,i=j/\j<=L/\bB aa ad/\k=L-j,⟨_,rfl,0,rfl,atx _,bB.refl _,rfl⟩,?_⟩;rintro q i ad k ⟨rfl,j,rfl,aL,az,rfl⟩;refine fh (az.get aC) rfl (b6 (λb1=>qo (az.get aC) ?_) λ_=>⟨rfl,aE.trans az⟩);refine(LY o j (by omega)).to λaq aD=>⟨_,_,_,rfl,?_⟩;refine(LX (o.fu j)).to λaJ bc=>⟨_,rfl,b0 rfl ⟨_,by omega,rfl,j+1,bl,by omega,az.trans (aD.trans bc),rfl⟩⟩
theorem acw {m:Nat}{s t:Int}{L:Nat}(o:mK m s t L)(h:ai):aw 10 [v4 m s t L] h λv ag=>∃x,v=aU x/\b9 dg h ag x (mb m s t L L)/\bB h ag:=by
 have fp:=o.L;refine j3 _ s t L ?_;unfold S5;refine bL λaj aa f1 aC aE=>qo aC ?_;refine(WG o).to λad az=>⟨_,rfl,b0 rfl (qo (az.get aC) (fh (az.get aC) rfl ?_))⟩;rw[bl,show(L:Int)-1=((L-1:Nat):Int) by omega];refine(GC o (L-1) (by omega)).to λaq aD=>⟨_,rfl,λaB gI=>?_⟩;have jX:=(aE.trans az).trans aD;have bc:bB aq (bD aq aB (.cells #[U (2 ^ (m-2*(L-1)))] 3)):=(bB.refl aq).bD gI _;have cB:b9 dg h (bD aq aB (.cells #[U (2 ^ (m-2*(L-1)))] 3)) ⟨some ⟨aB,0⟩,1,1,none⟩ (mb m s t L 0):=b9.new (f:=dg) (l:=[2 ^ (m-2*(L-1))]) (jX.free gI) 1 rfl;have b5:=(az.trans (aD.trans bc)).get aC;have oS:=(az.trans aD).get aC;have oz:∀p,an.q ⟨some ⟨aB,0⟩,1,1,none⟩=some p->aj≠p.b:=by
  intro p aM e;cases aM;rw[show aj=aB from e,gI] at oS;cases oS
 refine⟨λq x i aW k=>q=⟨aj,0⟩/\∃j:Nat,i=j/\j<=L/\b9 dg h aW x (mb m s t L j)/\(∀p,x.q=some p->aj≠p.b)/\aW aj=some (.cells #[U (2 ^ m),U s,U t,U L] 39 (0,0))/\bB h aW/\k=L-j,
  ⟨_,rfl,0,rfl,atx _,cB,oz,b5,jX.trans bc,rfl⟩,?_⟩
 rintro q x i aW k ⟨rfl,j,rfl,aL,n8,CY,cD,bU,rfl⟩;refine fh cD rfl (b6 (λb1=>?_) λc3=>?_)
 .refine qo cD ?_;refine(LY o j (by omega)).to λbd cb=>⟨_,_,_,rfl,?_⟩;refine(Lh (o.fu j)).to λcg cV=>⟨_,_,_,rfl,bL λaS cl o3 gg dT=>?_⟩;have nT:=cb.trans cV;have y:b9 dg h cl ⟨some ⟨aS,0⟩,3,3,none⟩ (o1 m s t j):=b9.nu (f:=dg) (l:=o1 m s t j) (bU.free (nT.free o3)) gg rfl rfl;have cY:=(n8.bE nT).bE dT;have room:((mb m s t L j).length+(o1 m s t j).length)*8<=140737488355328:=by rw[EL,show(o1 m s t j).length=3 from rfl];omega
  refine b9.app oU qD cY y.rd (λc aT=>bU.free (nT.free (dT.free aT))) room (by decide) ?_;intro pT cL e2 f9 Af WH;refine⟨_,by omega,rfl,j+1,bl,by omega,by rw[EK];exact e2,λdF zi e=>?_,?_,?_,rfl⟩
  .rcases Af dF zi with ⟨p,aM,h⟩|h
   .exact CY p aM (e.trans h)
   .rw[<-e,(nT.trans dT).get cD] at h;cases h
  .rw[f9 aj (by rw[(nT.trans dT).get cD];simp) CY,(nT.trans dT).get cD]
  .intro c aT
   have aa:aW c≠none:=by rw[bU c aT];exact aT
   have ad:cl c=aW c:=(nT.trans dT) c aa;rw[f9 c (by rw[ad];exact aa) (λp aM e=>aT (e▸(n8.b_ aM).1)),ad,bU c aT]
 .have:j=L:=by omega
  subst this;exact⟨_,rfl,n8,bU⟩
end Go.Proofs.Tryz
namespace Go.Proofs.Tryz
open Go Go.cQ Go.RowKit
set_option maxRecDepth 8000
theorem acx {h:ai}{s:an}{l:List Nat}(r:ey dg h s (l.map λn:Nat=>(n:Int)))(aa:1<=l.length)(ad:l.length<=16)(au:∀n∈l,1<=n/\n<=4096) :
 aw 9 [aU s] h λv ag=>∃(m:jo),v= .tuple #[bu ⟨m.b,0⟩,U 0]/\cN 63 m (λ_ _=>gz) [] ⟨none,0,0,none⟩ ag/\m.ep=l.length/\(∀i,m.cq i=l.getD i 0)/\(∀x,bA m ⟨none,0,0,none⟩ x->h x=none)/\bB h ag:=by
 have hlen:=r.len;rw[ath] at hlen;refine jy _ ?_;unfold S4;refine b0 (hv) (b0 (hv) ?_);refine bL λaj g2 f1 aC az=>?_;have pV:h aj=none:=f1;let nH:List Nat->ai->Prop:=λbQ g=>∀j,j<bQ.length->h (bQ.getD j 0)=none/\∃c t,g (bQ.getD j 0)=dB c t/\c.size=l.getD j 0*12/\∀a,a<l.getD j 0->∀k (ab:k<12),c[a*12+k]? =some (ak gz[k]);refine⟨λs1 cB ay g bI=>s=s1/\cB=some ⟨aj,0⟩/\∃(i:Nat) (rs:an) (bQ:List Nat),ay=i/\i<=l.length/\bI=l.length-i/\bQ.length=i/\g aj=some (.cells #[aU rs,aU ⟨none,0,0,none⟩,.bool false] 63 (0,0))/\b9 aU h g rs (pd l bQ)/\nH bQ g/\bQ.Nodup/\aj∉bQ/\(∀q,rs.q=some q->q.b≠aj/\q.b∉bQ)/\bB h g,
  ⟨l.length,rfl,rfl,0,_,[],rfl,by omega,rfl,rfl,aC,b9.e9 ..,λj aL=>absurd aL (by simp),auG,by simp,(by intro q ah;cases ah),az⟩,?_⟩
 rintro s1 cB ay g bI ⟨rfl,rfl,i,rs,bQ,rfl,hi,rfl,rfl,hU,eY,pe,hk,gR,pf,cv⟩;refine b6 (λb1=>?_) λc3=>?_
 .have bN:bQ.length<l.length:=by omega
  have aH:=au _ (aty bN);have cR:l.getD bQ.length 0=l[bQ.length]:=by simp[List.getD,bN]
  rw[<-cR] at aH;refine(r.bE cv).e0 (i:=bQ.length) (by simpa using bN) λq ah aT=>?_;have e:(l.map λn:Nat=>(n:Int))[bQ.length]'(by simpa using bN)=((l.getD bQ.length 0:Nat):Int):=by rw[cR];simp
  rw[e] at aT;generalize m3:l.getD bQ.length 0=n at *;have WI:(0:Int)<=(bQ.length:Int):=by omega
  have CZ:(bQ.length:Int)+1<=(s.len:Int):=by omega
  refine⟨_,aT,b0 (hv) ⟨q,ah,WI,CZ,_,aT,b0 (show decide ((4096:Int)<(n:Int))=false from hv) ⟨_,rfl,_,aF hU rfl,q,ah,WI,CZ,_,aT,by omega,by omega,by omega,by omega,bL λaB g3 f2 a7 aD=>?_⟩⟩⟩;have kQ:Int.toNat (n:Int)=n:=by omega
  rw[kQ];rw[kQ] at a7;have gI:h aB=none:=cv.free f2;have J6:=eY.bE aD;refine b9.sU RX RY J6 ⟨some ⟨aB,0⟩,n,n,none⟩ (λb au=>cv.free (aD.free au)) (by simp[pd];omega) (by decide) ?_;intro B_ g4 Ca p6 rG aeI;have w_:=aD.get hU;have cE:aB≠aj:=λe=>by rw[e,hU] at f2;cases f2
  have J7:g4 aj=_:=(p6 aj (by rw[w_];simp) λq ah e=>(pf q ah).1 e.symm).trans w_;have Bm:bB h g4:=λx af=>by
   have aq:g3 x≠none:=by rw[aD x (by rw[cv x af];exact af),cv x af];exact af
   rw[p6 x aq λq ah e=>af (e▸(eY.b_ ah).1),aD x (by rw[cv x af];exact af),cv x af]
  have tq:∀q,B_.q=some q->q.b≠aj/\q.b≠aB/\q.b∉bQ:=λq ah=>by
   rcases rG q ah with ⟨p,aM,e⟩|aH
   .rw[e];exact⟨(pf p aM).1,λe=>(eY.b_ aM).2 (e▸f2),(pf p aM).2⟩
   .refine⟨λe=>(by rw[e,w_] at aH;cases aH),λe=>(by rw[e,a7] at aH;cases aH),λhm=>?_⟩;obtain⟨j,aL,e⟩:=atT hm;obtain⟨_,c,t,aT,_⟩:=pe j aL;have:bQ.getD j 0=q.b:=by simp[List.getD,aL,e]
    rw[this] at aT;rw[aD.get aT] at aH;cases aH
  refine⟨_,rfl,n0 Bm pV J7 (by simp) λg5 wx cD cY=>⟨l.length-(bQ.length+1),by omega,rfl,rfl,bQ.length+1,B_,bQ++[aB],bl,by omega,rfl,by simp,by rw[cD];rfl,?_,?_,?_,?_,?_,wx⟩⟩
  .rw[RW,m3];exact Ca.move λq ah=>cY _ (tq q ah).1
  .intro j aL
   by_cases c:j<bQ.length
   .have e:(bQ++[aB]).getD j 0=bQ.getD j 0:=by simp[List.getD,atB c]
    rw[e];obtain⟨h0,nh,t,aT,ar,aN⟩:=pe j c;have hm:bQ.getD j 0∈bQ:=by simp[List.getD,c]
    refine⟨h0,nh,t,?_,ar,aN⟩;rw[cY _ λe=>gR (e▸hm),p6 _ (by rw[aD.get aT];simp) λq ah e=>(pf q ah).2 (e▸hm),aD.get aT]
   .have jU:j=bQ.length:=by simp at aL;omega
    subst jU;have e:(bQ++[aB]).getD bQ.length 0=aB:=by simp[List.getD]
    rw[e,m3];refine⟨gI,_,_,by rw[cY _ cE,p6 _ (by rw[a7];simp) λq ah e=>(eY.b_ ah).2 (e▸f2),a7],?_,λa bV k ab=>RU bV ab⟩;exact RV _ _
  .rw[auP];refine⟨hk,by simp,λa bV b au e=>?_⟩;simp at au;subst au;subst e;obtain⟨j,aL,e⟩:=atT bV;obtain⟨_,c,t,aT,_⟩:=pe j aL;have:bQ.getD j 0=a:=by simp[List.getD,aL,e]
   rw[this,f2] at aT;cases aT
  .intro hm
   rcases atw.1 hm with h|h
   .exact gR h
   .simp at h;exact cE h.symm
  .intro q ah
   refine⟨(tq q ah).1,λhm=>?_⟩;rcases atw.1 hm with h|h
   .exact(tq q ah).2.2 h
   .simp at h;exact(tq q ah).2.1 h
 .have aH:bQ.length=l.length:=by omega
  have uH:=eY.len;simp only[pd,ath,atj] at uH;refine⟨⟨aj,rs,λj=>bQ.getD j 0,λj=>l.getD j 0,l.length⟩,rfl,⟨hU,cI.e9 ..,⟨(show 0<l.length by omega),ad⟩,(show rs.len=l.length by omega),?_,?_,?_,?_,?_,(by intro q ah;cases ah),?_⟩,rfl,λ_=>rfl,?_,cv⟩
  .intro j aL
   have aL:j<l.length:=aL;obtain⟨q,ah,e⟩:=eY.rd.at (i:=j) (by simp[pd];omega);refine⟨q,ah,?_⟩;rw[e];simp[pd]
  .intro j aL
   have aL:j<l.length:=aL;obtain⟨_,c,t,ar,aN,a3⟩:=pe j (by omega);exact⟨c,t,ar,aN,a3⟩
  .intro j aL
   have aL:j<l.length:=aL;have:l.getD j 0=l[j]:=by simp[List.getD,aL]
   show l.getD j 0<=4096;rw[this];exact(au _ (aty aL)).2
  .intro j aL e
   have aL:j<l.length:=aL;have hm:bQ.getD j 0∈bQ:=by simp[List.getD,show j<bQ.length by omega]
   exact gR ((show bQ.getD j 0=aj from e)▸hm)
  .intro j k aL ab e
   have aL:j<l.length:=aL;have ab:k<l.length:=ab;exact zj hk (by omega) (by omega) e
  .intro q ah
   refine⟨(pf q ah).1,λj aL e=>?_,(by intro p aM;cases aM)⟩;have aL:j<l.length:=aL;have hm:bQ.getD j 0∈bQ:=by simp[List.getD,show j<bQ.length by omega]
   exact(pf q ah).2 ((show q.b=bQ.getD j 0 from e)▸hm)
  .rintro x (rfl|⟨q,ah,_⟩|⟨j,aL,rfl⟩|⟨q,ah,rfl⟩)
   .exact pV
   .cases ah
   .have aL:j<l.length:=aL;exact(pe j (by omega)).1
   .exact(eY.b_ ah).1
theorem s9 {T:TypeId}{m:jo}{R:dw}{a_:List dt}{es:an}{h:ai}(M:cN T m R a_ es h){r:Nat}(aK:r<m.ep):aw 29 [bu ⟨m.b,0⟩,U r] h λv ag=>v=U (m.cq r)/\ag=h:=by
 refine ag_ _ _ ?_;unfold Ur;have aO:=M.len;obtain⟨q,ah,aT⟩:=M.row r aK;refine b0 (hv) ⟨_,aF M.top rfl,b0 (show decide ((m.rs.len:Int)<=(r:Int))=false from hv) ⟨_,aF M.top rfl,q,ah,by omega,by omega,⟨some ⟨m.kI r,0⟩,m.cq r,m.cq r,none⟩,?_,rfl,rfl⟩⟩;rw[show q.o+Int.toNat (r:Int)*1=q.o+r by simp];exact aT
theorem alS {T:TypeId}{m:jo}{R:dw}{a_:List dt}{es:an}{h:ai}(M:cN T m R a_ es h){k:Nat}{s t:Int}(o:kv k s t){f:Nat}(bf:f+2<m.ep)(aa:s*(2*2 ^ k-1)<=(m.cq f:Int))(ad:t<=(m.cq (f+1):Int))(aq:kO k s t<=(m.cq (f+2):Int)) :
 aw 53 [bu ⟨m.b,0⟩,U f,.agg #[U (2 ^ k),U s,U t]] h λv ag=>∃b,v= .tuple #[bu ⟨b,0⟩,U 0]/\h b=none/\ag b=some (.cells #[bu ⟨m.b,0⟩,U f,U (2 ^ k),U s,U t,.bool false,aU ⟨none,0,0,none⟩] 141 (0,0))/\bB h ag:=by
 have jq:=M.ep;refine ahw _ _ _ _ _ ?_;unfold UA;refine bL λaj g1 f1 aC aE=>⟨_,aF aC rfl,_,aF aC rfl,_,aF aC rfl,?_⟩;refine(Lh o).to λg2 az=>⟨_,_,_,rfl,?_⟩;have a7:=az.get aC;refine⟨_,aF a7 rfl,_,aF a7 rfl,_,aF a7 rfl,?_⟩;refine(LX o).to λg3 aD=>⟨_,rfl,b0 rfl ?_⟩;have jX:=(aE.trans az).trans aD;have fS:=M.bE jX;refine(s9 fS (r:=f) (by omega)).mono ?_;rintro _ g4 ⟨rfl,rfl⟩;refine⟨_,rfl,b0 (show decide ((m.cq f:Int)<s*(2*2 ^ k-1))=false from hv) ?_⟩;rw[show al ((f:Int)+1)=((f+1:Nat):Int) by rw[bl];rfl,show al ((f:Int)+2)=((f+2:Nat):Int) by rw[bl];rfl];refine(s9 fS (r:=f+1) (by omega)).mono ?_;rintro _ g5 ⟨rfl,rfl⟩;refine⟨_,rfl,b0 (show decide ((m.cq (f+1):Int)<t)=false from hv) ?_⟩;refine(s9 fS (r:=f+2) (by omega)).mono ?_;rintro _ g6 ⟨rfl,rfl⟩;have b2:=aD.get a7;refine⟨_,rfl,b0 (show decide ((m.cq (f+2):Int)<kO k s t)=false from hv) ⟨_,aF b2 rfl,_,aF b2 rfl,_,aF b2 rfl,bL λaB g7 f7 fq cV=>?_⟩⟩;exact⟨aB,rfl,jX.free f7,fq,jX.trans cV⟩
theorem alT:ti prog 64 106 (.pointer none) 8:=⟨by kernel_rfl,by kernel_rfl,by kernel_rfl,by kernel_rfl,rfl⟩

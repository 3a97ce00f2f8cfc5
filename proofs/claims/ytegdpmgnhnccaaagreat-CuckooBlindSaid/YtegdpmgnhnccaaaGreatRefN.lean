import Derived.Test.YtegdpmgnhnccaaaGreatStoC
import Derived.Test.YtegdpmgnhnccaaaGreatMemT
namespace Go.Proofs.Tryz
open Go Go.cR Go.RowKit
set_option maxRecDepth 8000
theorem yN (j:Nat):(2:Int)*2 ^ j=2 ^ (j+1):=by rw[Int.pow_succ];omega
theorem RD (j:Nat):(1:Int)<=2 ^ j:=by have:=nz (aDM j);simpa using this
theorem Wd {n:Int}{j:Nat}(aU:j<=62)(aa:n<=2 ^ j)(ad:j=0∨2 ^ (j-1)<n):ny n=2 ^ j:=by
 rcases ad with rfl|ad
 .simp at aa;by_cases e:n<1
  .rw[ny,aDr e];rfl
  .have:n=1:=by omega
   subst this;rfl
 .cases j with
  | zero =>
   simp at aa ad;omega
  | succ j=>exact ag9 (by omega) (by simpa using ad) aa
def av9 (a x:Int):Prop:=Value.int .i64 x=U (ny a)
theorem Oc {n:Int}(aK:n<=4611686018427387904):fc prog 106 [U n] (U (ny n)):=by
 intro h;refine ar6 n ?_;unfold ab3;refine⟨λa x aa k=>a=n/\∃j:Nat,x=2 ^ j/\j<=62/\(j=0∨2 ^ (j-1)<n)/\aa=h/\k=62-j,⟨_,rfl,0,rfl,by omega,.inl rfl,rfl,rfl⟩,?_⟩;rintro a x aa k ⟨rfl,j,ai,aU,aQ,rfl,rfl⟩;have AJ:j=62->x=4611686018427387904:=λe=>by rw[ai,e];simp
 have h0:1<=x:=by rw[ai];exact RD j
 have aV:j<62->2*x=2 ^ (j+1)/\2*x<=4611686018427387904:=λe=>by
  have aP:=nz (show j+1<=62 by omega);rw[ai,yN];simp at aP;exact⟨rfl,aP⟩
 have ar:j<62->x<=2305843009213693952:=λe=>by have:=(aV e).2;omega
 have done:¬x<a->av9 a x:=λdH=>by
  show Value.int .i64 x=U (ny a);rw[Wd aU (by rw[<-ai];omega) aQ,ai]
 refine cj (λcl=>cj (λmE=>?_) λdH=>⟨?_,bL.refl _⟩) λdH=>⟨done dH,bL.refl _⟩
 .have uC:j<62:=by
   rcases aDZ j 62 with h|h
   .exact h
   .have:=AJ (by omega);omega
  obtain⟨aH,a_⟩:=aV uC;rw[bt];exact⟨_,by omega,rfl,j+1,aH,by omega,.inr (by simp only[aFc];rw[<-ai];exact cl),rfl,rfl⟩
 .exfalso;have:j=62:=by
   rcases aDZ j 62 with h|h
   .have:=ar h;omega
   .omega
  have:=AJ this;omega
theorem LH {k:Nat}(ah:k<=10):fc prog 130 [U (2 ^ k)] (.bool true):=by
 intro h;refine asG _ ?_;unfold ach;refine⟨λa x aa n=>a=2 ^ k/\∃j:Nat,x=2 ^ j/\j<=k/\aa=h/\n=k-j,⟨_,rfl,0,rfl,by omega,rfl,rfl⟩,?_⟩;rintro a x aa n ⟨rfl,j,rfl,aU,rfl,rfl⟩;have ar:=lU ah;have h0:=RD j;have eq:¬((2:Int) ^ j<2 ^ k)->j=k:=λe=>by
  rcases aDZ j k with h|h
  .have:=nz (show j+1<=k by omega);rw[<-yN] at this;omega
  .omega
 refine cj (λcl=>dF (by simp;omega) ?_) λdH=>⟨by rw[eq dH];simp,bL.refl _⟩;have DQ:j<k:=by
  rcases aDZ j k with h|h
  .exact h
  .have:j=k:=by omega
   subst this;omega
 have aP:=nz (show j+1<=10 by omega);rw[iK (by omega) (by rw[yN];simp at aP;omega),yN];exact⟨_,by omega,rfl,j+1,rfl,by omega,rfl,rfl⟩
theorem av_ {k:Nat}(ah:k<=10):fc prog 153 [U (2 ^ k)] (U k):=by
 intro h;refine as8 _ ?_;unfold aco;refine(LH ah).to λaa aD=>⟨_,rfl,b3 rfl ?_⟩;refine⟨λx n ad m=>∃j:Nat,x=2 ^ (k-j)/\n=j/\j<=k/\bL h ad/\m=k-j,⟨_,0,rfl,rfl,by omega,aD,rfl⟩,?_⟩;rintro x n ad m ⟨j,rfl,rfl,aU,aB,rfl⟩;refine cj (λcl=>⟨by decide,?_⟩) λdH=>⟨?_,aB⟩
 .have DQ:j<k:=by
   rcases aDZ j k with h|h
   .exact h
   .rw[show k-j=0 by omega] at cl;simp at cl
  have e:(2:Int) ^ (k-j)=2*2 ^ (k-(j+1)):=by rw[yN];congr 1;omega
  have ar:=lU (k:=k-(j+1)) (by omega);obtain⟨z,bn⟩:∃z,z=(2:Int) ^ (k-(j+1)):=⟨_,rfl⟩;rw[<-bn] at e ar;rw[e];have:(2*z).tdiv 2=z:=by rw[Int.tdiv_eq_ediv_of_nonneg (by omega)];omega
  rw[this,bt,bt];exact⟨_,by omega,j+1,bn,by omega,by omega,aB,rfl⟩
 .rcases aDZ j k with h|h
  .have:=nz (show 1<=k-j by omega);simp at this;omega
  .congr 1;omega
theorem awa {k:Nat}(ah:k<=10):fc prog 105 [U (2 ^ k)] (U (2*2 ^ k-1)):=by
 intro h;have ar:=lU ah;refine ar4 _ ?_;unfold ab2;refine(LH ah).to λaa aD=>⟨_,rfl,b3 rfl ⟨?_,aD⟩⟩;rw[bt (n:=2*2 ^ k),bt]
theorem RA {d s t:Int}(o:vB d s t):fc prog 131 [.agg #[U d,U s,U t]] (.bool true):=by
 intro h;have:=o.d;have:=o.s;have:=o.t;refine asI d s t ?_;unfold aci;refine bP λae aa _ aH aD=>ga aH rfl (dF (by simp;omega) (ga aH rfl (dF (by simp;omega) (ga aH rfl (dF (by simp;omega) (ga aH rfl (dF (by simp;omega) (ga aH rfl (dF (by simp;omega) (ga aH rfl ⟨?_,aD⟩))))))))));rw[aED,pa]
theorem LG {d s t:Int}(o:vB d s t):fc prog 107 [.agg #[U d,U s,U t]] (U (s*(d+1)+t+1)):=by
 intro h;have ar:=zu o.s.1 o.s.2 o.d.1 o.d.2;have bG:=o.t;have b4:=o.d;refine ar8 d s t ?_;unfold ab4;refine bP λae aa _ aH aD=>kQ aH ?_;refine(RA o).to λad aB=>⟨_,rfl,b3 rfl (ga (aB.get aH) rfl (ga (aB.get aH) rfl (ga (aB.get aH) rfl ⟨?_,aD.trans aB⟩)))⟩;rw[bt (n:=d+1),bt (n:=s*(d+1)),bt (n:=s*(d+1)+t),bt]
theorem LO {k:Nat}{s t:Int}(o:lG k s t):fc prog 108 [.agg #[U (2 ^ k),U s,U t]] (.agg #[U k,U s,U t]):=by
 intro h;refine ar_ _ s t ?_;unfold ab5;refine bP λae aa _ aH aD=>bP λax ad f2 a_ aB=>ga (aB.get aH) rfl (ga (aB.get aH) rfl (ga (aB.get aH) rfl ?_));refine(av_ o.k).to λan aG=>⟨_,rfl,⟨az ((aB.trans aG).get aH) rfl,trivial⟩,⟨az ((aB.trans aG).get aH) rfl,trivial⟩,?_⟩;refine qh ((aD.trans aB).trans aG) (aD.free f2) (aG.get a_) (by simp) λaJ bd b6 _=>kQ b6 ⟨rfl,bd⟩
theorem RY {k:Nat}{s t:Int}(o:lG k s t):fc prog 78 [.agg #[U (2 ^ k),U s,U t]] (.bool true):=by
 intro h;refine arB _ s t ?_;unfold abS;refine bP λae aa _ aH aD=>ga aH rfl ?_;refine(LH o.k).to λad aB=>⟨_,rfl,dF rfl (kQ (aB.get aH) ?_)⟩;refine(LO o).to λan aG=>⟨_,_,_,rfl,?_⟩;refine(RA o.sM).to λaJ bd=>⟨_,rfl,dF rfl (kQ ((aB.trans (aG.trans bd)).get aH) ?_)⟩;refine(LO o).to λaR bF=>⟨_,_,_,rfl,?_⟩;refine(LG o.sM).to λbj cn=>⟨_,rfl,?_⟩;have:=o.zv;have:=o.IM;refine(Oc (n:=hL k s t) (by omega)).to λbU c3=>⟨_,rfl,?_,(aD.trans aB).trans ((aG.trans bd).trans (bF.trans (cn.trans c3)))⟩;rw[aED,aDA (show ny (hL k s t)<=1024 by show mj k s t<=1024;omega)]
theorem Rg {k:Nat}{s t:Int}(o:lG k s t):fc prog 51 [.agg #[U (2 ^ k),U s,U t]] (.tuple #[U (s*(2*2 ^ k-1)),U t,U (mj k s t)]):=by
 intro h;have ar:=lU o.k;have:=o.zv;refine aqR _ s t ?_;unfold aby;refine bP λae aa _ aH aD=>kQ aH ?_;refine(RY o).to λad aB=>⟨_,rfl,b3 rfl (ga (aB.get aH) rfl (ga (aB.get aH) rfl (ga (aB.get aH) rfl (kQ (aB.get aH) ?_))))⟩;refine(awa o.k).to λan aG=>⟨_,rfl,?_⟩;have b7:=(aB.trans aG).get aH;refine⟨⟨az b7 rfl,az b7 rfl,az b7 rfl,trivial⟩,⟨az b7 rfl,trivial⟩,⟨az b7 rfl,trivial⟩,?_⟩;refine(LO o).to λaJ bd=>⟨_,_,_,rfl,?_⟩;have b6:=bd.get b7;refine⟨⟨az b6 rfl,trivial⟩,⟨az b6 rfl,trivial⟩,?_⟩;refine(LG o.sM).to λaR bF=>⟨_,rfl,?_⟩;have cG:=bF.get b6;refine⟨⟨az cG rfl,trivial⟩,⟨az cG rfl,trivial⟩,?_⟩;refine(Oc (n:=hL k s t) (by omega)).to λbj cn=>⟨_,rfl,?_⟩;have dP:=cn.get cG;refine⟨⟨az dP rfl,trivial⟩,⟨az dP rfl,trivial⟩,?_,(aD.trans aB).trans ((aG.trans bd).trans (bF.trans cn))⟩;rw[iK]
 .rfl
 .have:=o.s;have aa:0<=s*(2*2 ^ k-1):=Int.mul_nonneg (by omega) (by omega);omega
 .have aa:s*(2*2 ^ k-1)<=8*2047:=Int.mul_le_mul o.s.2 (by omega) (by omega) (by omega);omega
theorem LV {m:Nat}{s t:Int}{L:Nat}(o:n7 m s t L)(n:Nat)(aK:n<=100):fc prog 50 [v4 m s t L,U n] (U (2 ^ (m-2*n))):=by
 intro h;refine aqP _ s t L n ?_;unfold abx;refine bP λae aa _ aH aD=>ga aH rfl ?_;refine⟨λl x i ad k=>l=n/\∃j:Nat,i=j/\j<=n/\x=2 ^ (m-2*j)/\bL h ad/\k=n-j,⟨_,rfl,0,rfl,aDM _,rfl,aD,rfl⟩,?_⟩;rintro l x i ad k ⟨rfl,j,rfl,aU,rfl,aB,rfl⟩;refine cj (λcl=>⟨by decide,_,?_,rfl,j+1,bt,by omega,?_,aB,rfl⟩) λdH=>?_
 .omega
 .rw[ad0 (by have:=o.m;omega)];rfl
 .have:j=n:=by omega
  subst this;exact⟨rfl,aB⟩
theorem RZ {m:Nat}{s t:Int}{L:Nat}(o:n7 m s t L)(n:Nat)(aK:n<=100):fc prog 52 [v4 m s t L,U n] (.agg #[U (2 ^ (m-2*n)),U s,U t]):=by
 intro h;refine aqT _ s t L n ?_;unfold abz;refine bP λae aa _ aH aD=>bP λax ad f2 a_ aB=>qJ (aB.get aH) (ga (aB.get aH) rfl (ga (aB.get aH) rfl ?_));refine(LV o n aK).to λan aG=>⟨_,rfl,⟨az ((aB.trans aG).get aH) rfl,trivial⟩,⟨az ((aB.trans aG).get aH) rfl,trivial⟩,?_⟩;exact qh ((aD.trans aB).trans aG) (aD.free f2) (aG.get a_) (by simp) λaJ bd b6 _=>kQ b6 ⟨rfl,bd⟩
theorem ad1 {m:Nat}{s t:Int}{L:Nat}(o:n7 m s t L):fc prog 33 [v4 m s t L] (.bool true):=by
 intro h;have eg:=o.L;refine aqA _ s t L ?_;unfold abu;refine bP λae aa f1 aH aD=>ga aH rfl (cj (λe=>absurd e (by omega)) λ_=>ga aH rfl (b3 (by simp;omega) ?_));refine⟨λq i ad k=>q=⟨ae,0⟩/\∃j:Nat,i=j/\j<=L/\bL aa ad/\k=L-j,⟨_,rfl,0,rfl,aDM _,bL.refl _,rfl⟩,?_⟩;rintro q i ad k ⟨rfl,j,rfl,aU,aB,rfl⟩;refine ga (aB.get aH) rfl (cj (λcl=>qJ (aB.get aH) ?_) λ_=>⟨rfl,aD.trans aB⟩);refine(RZ o j (by omega)).to λan aG=>⟨_,_,_,rfl,?_⟩;refine(RY (o.gS j)).to λaJ bd=>⟨_,rfl,b3 rfl ⟨_,by omega,rfl,j+1,bt,by omega,aB.trans (aG.trans bd),rfl⟩⟩
theorem ajn {m:Nat}{s t:Int}{L:Nat}(o:n7 m s t L)(h:ak):aq 10 [v4 m s t L] h λv af=>∃x,v=aZ x/\c4 eo h af x (sk m s t L L)/\bL h af:=by
 have eg:=o.L;refine jX _ s t L ?_;unfold aaK;refine bP λae aa f1 aH aD=>qJ aH ?_;refine(ad1 o).to λad aB=>⟨_,rfl,b3 rfl (qJ (aB.get aH) (ga (aB.get aH) rfl ?_))⟩;rw[bt,show(L:Int)-1=((L-1:Nat):Int) by omega];refine(LV o (L-1) (by omega)).to λan aG=>⟨_,rfl,λax hN=>?_⟩;have n4:=(aD.trans aB).trans aG;have bd:bL an (bD an ax (.cells #[U (2 ^ (m-2*(L-1)))] 3)):=(bL.refl an).bD hN _;have cy:c4 eo h (bD an ax (.cells #[U (2 ^ (m-2*(L-1)))] 3)) ⟨some ⟨ax,0⟩,1,1,none⟩ (sk m s t L 0):=c4.new (f:=eo) (l:=[2 ^ (m-2*(L-1))]) (n4.free hN) 1 rfl;have b6:=(aB.trans (aG.trans bd)).get aH;have lH:=(aB.trans aG).get aH;have pK:∀p,ao.q ⟨some ⟨ax,0⟩,1,1,none⟩=some p->ae≠p.b:=by
  intro p aP e;cases aP;rw[show ae=ax from e,hN] at lH;cases lH
 refine⟨λq x i aR k=>q=⟨ae,0⟩/\∃j:Nat,i=j/\j<=L/\c4 eo h aR x (sk m s t L j)/\(∀p,x.q=some p->ae≠p.b)/\aR ae=some (.cells #[U (2 ^ m),U s,U t,U L] 39 (0,0))/\bL h aR/\k=L-j,
  ⟨_,rfl,0,rfl,aDM _,cy,pK,b6,n4.trans bd,rfl⟩,?_⟩
 rintro q x i aR k ⟨rfl,j,rfl,aU,ly,ad2,cG,bF,rfl⟩;refine ga cG rfl (cj (λcl=>?_) λdH=>?_)
 .refine qJ cG ?_;refine(RZ o j (by omega)).to λbj cn=>⟨_,_,_,rfl,?_⟩;refine(Rg (o.gS j)).to λbU c3=>⟨_,_,_,rfl,bP λaM bR uk fO eO=>?_⟩;have A4:=cn.trans c3;have y:c4 eo h bR ⟨some ⟨aM,0⟩,3,3,none⟩ (wk m s t j):=c4.qs (f:=eo) (l:=wk m s t j) (bF.free (A4.free uk)) fO rfl rfl;have cz:=(ly.bA A4).bA eO;have room:((sk m s t L j).length+(wk m s t j).length)*8<=140737488355328:=by rw[Wi,show(wk m s t j).length=3 from rfl];omega
  refine c4.app xL Cj cz y.rd (λc a1=>bF.free (A4.free (eO.free a1))) room (by decide) ?_;intro tc b9 e3 f9 xE E9;refine⟨_,by omega,rfl,j+1,bt,by omega,by rw[Pv];exact e3,λeW KP e=>?_,?_,?_,rfl⟩
  .rcases xE eW KP with ⟨p,aP,h⟩|h
   .exact ad2 p aP (e.trans h)
   .rw[<-e,(A4.trans eO).get cG] at h;cases h
  .rw[f9 ae (by rw[(A4.trans eO).get cG];simp) ad2,(A4.trans eO).get cG]
  .intro c a1
   have aa:aR c≠none:=by rw[bF c a1];exact a1
   have ad:bR c=aR c:=(A4.trans eO) c aa;rw[f9 c (by rw[ad];exact aa) (λp aP e=>a1 (e▸(ly.bp aP).1)),ad,bF c a1]
 .have:j=L:=by omega
  subst this;exact⟨_,rfl,ly,bF⟩
end Go.Proofs.Tryz
namespace Go.Proofs.Tryz
open Go Go.cR Go.RowKit
set_option maxRecDepth 8000
theorem ajp {h:ak}{s:ao}{l:List Nat}(r:e4 eo h s (l.map λn:Nat=>(n:Int)))(aa:1<=l.length)(ad:l.length<=16)(ar:∀n∈l,1<=n/\n<=4096) :
 aq 9 [aZ s] h λv af=>∃(m:jQ),v= .tuple #[bm ⟨m.b,0⟩,U 0]/\c8 63 m (λ_ _=>fm) [] ⟨none,0,0,none⟩ af/\m.fl=l.length/\(∀i,m.cx i=l.getD i 0)/\(∀x,bS m ⟨none,0,0,none⟩ x->h x=none)/\bL h af:=by
 have hlen:=r.len;rw[aDF] at hlen;refine jH _ ?_;unfold aaJ;refine b3 (gT) (b3 (gT) ?_);refine bP λae g2 f1 aH aB=>?_;have nG:h ae=none:=f1;let pc:List Nat->ak->Prop:=λb8 g=>∀j,j<b8.length->h (b8.getD j 0)=none/\∃c t,g (b8.getD j 0)=ev c t/\c.size=l.getD j 0*12/\∀a,a<l.getD j 0->∀k (ah:k<12),c[a*12+k]? =some (ab fm[k]);refine⟨λs1 cy aA g bW=>s=s1/\cy=some ⟨ae,0⟩/\∃(i:Nat) (rs:ao) (b8:List Nat),aA=i/\i<=l.length/\bW=l.length-i/\b8.length=i/\g ae=some (.cells #[aZ rs,aZ ⟨none,0,0,none⟩,.bool false] 63 (0,0))/\c4 aZ h g rs (rH l b8)/\pc b8 g/\b8.Nodup/\ae∉b8/\(∀q,rs.q=some q->q.b≠ae/\q.b∉b8)/\bL h g,
  ⟨l.length,rfl,rfl,0,_,[],rfl,by omega,rfl,rfl,aH,c4.gy ..,λj aU=>absurd aU (by simp),aE7,by simp,(by intro q aj;cases aj),aB⟩,?_⟩
 rintro s1 cy aA g bW ⟨rfl,rfl,i,rs,b8,rfl,hi,rfl,rfl,iX,hv,rI,ja,e9,rJ,cY⟩;refine cj (λcl=>?_) λdH=>?_
 .have cb:b8.length<l.length:=by omega
  have aK:=ar _ (aDR cb);have dd:l.getD b8.length 0=l[b8.length]:=by simp[List.getD,cb]
  rw[<-dd] at aK;refine(r.bA cY).cA (i:=b8.length) (by simpa using cb) λq aj a1=>?_;have e:(l.map λn:Nat=>(n:Int))[b8.length]'(by simpa using cb)=((l.getD b8.length 0:Nat):Int):=by rw[dd];simp
  rw[e] at a1;generalize oc:l.getD b8.length 0=n at *;have ad3:(0:Int)<=(b8.length:Int):=by omega
  have HA:(b8.length:Int)+1<=(s.len:Int):=by omega
  refine⟨_,a1,b3 (gT) ⟨q,aj,ad3,HA,_,a1,b3 (show decide ((4096:Int)<(n:Int))=false from gT) ⟨_,rfl,_,az iX rfl,q,aj,ad3,HA,_,a1,by omega,by omega,by omega,by omega,bP λax g3 f2 a_ aG=>?_⟩⟩⟩;have mY:Int.toNat (n:Int)=n:=by omega
  rw[mY];rw[mY] at a_;have hN:h ax=none:=cY.free f2;have Gb:=hv.bA aG;refine c4.zX ZM ZN Gb ⟨some ⟨ax,0⟩,n,n,none⟩ (λb ar=>cY.free (aG.free ar)) (by simp[rH];omega) (by decide) ?_;intro Gs g4 Gt wE uI aom;have tr:=aG.get iX;have cU:ax≠ae:=λe=>by rw[e,iX] at f2;cases f2
  have Qg:g4 ae=_:=(wE ae (by rw[tr];simp) λq aj e=>(rJ q aj).1 e.symm).trans tr;have FN:bL h g4:=λx ai=>by
   have an:g3 x≠none:=by rw[aG x (by rw[cY x ai];exact ai),cY x ai];exact ai
   rw[wE x an λq aj e=>ai (e▸(hv.bp aj).1),aG x (by rw[cY x ai];exact ai),cY x ai]
  have wF:∀q,Gs.q=some q->q.b≠ae/\q.b≠ax/\q.b∉b8:=λq aj=>by
   rcases uI q aj with ⟨p,aP,e⟩|aK
   .rw[e];exact⟨(rJ p aP).1,λe=>(hv.bp aP).2 (e▸f2),(rJ p aP).2⟩
   .refine⟨λe=>(by rw[e,tr] at aK;cases aK),λe=>(by rw[e,a_] at aK;cases aK),λhm=>?_⟩;obtain⟨j,aU,e⟩:=aEh hm;obtain⟨_,c,t,a1,_⟩:=rI j aU;have:b8.getD j 0=q.b:=by simp[List.getD,aU,e]
    rw[this] at a1;rw[aG.get a1] at aK;cases aK
  refine⟨_,rfl,qh FN nG Qg (by simp) λg5 z2 cG cz=>⟨l.length-(b8.length+1),by omega,rfl,rfl,b8.length+1,Gs,b8++[ax],bt,by omega,rfl,by simp,by rw[cG];rfl,?_,?_,?_,?_,?_,z2⟩⟩
  .rw[ZL,oc];exact Gt.move λq aj=>cz _ (wF q aj).1
  .intro j aU
   by_cases c:j<b8.length
   .have e:(b8++[ax]).getD j 0=b8.getD j 0:=by simp[List.getD,aD0 c]
    rw[e];obtain⟨h0,om,t,a1,av,aN⟩:=rI j c;have hm:b8.getD j 0∈b8:=by simp[List.getD,c]
    refine⟨h0,om,t,?_,av,aN⟩;rw[cz _ λe=>e9 (e▸hm),wE _ (by rw[aG.get a1];simp) λq aj e=>(rJ q aj).2 (e▸hm),aG.get a1]
   .have lF:j=b8.length:=by simp at aU;omega
    subst lF;have e:(b8++[ax]).getD b8.length 0=ax:=by simp[List.getD]
    rw[e,oc];refine⟨hN,_,_,by rw[cz _ cU,wE _ (by rw[a_];simp) λq aj e=>(hv.bp aj).2 (e▸f2),a_],?_,λa bY k ah=>ZK bY ah⟩;exact N1 _ _
  .rw[aFg];refine⟨ja,by simp,λa bY b ar e=>?_⟩;simp at ar;subst ar;subst e;obtain⟨j,aU,e⟩:=aEh bY;obtain⟨_,c,t,a1,_⟩:=rI j aU;have:b8.getD j 0=a:=by simp[List.getD,aU,e]
   rw[this,f2] at a1;cases a1
  .intro hm
   rcases aDO.1 hm with h|h
   .exact e9 h
   .simp at h;exact cU h.symm
  .intro q aj
   refine⟨(wF q aj).1,λhm=>?_⟩;rcases aDO.1 hm with h|h
   .exact(wF q aj).2.2 h
   .simp at h;exact(wF q aj).2.1 h
 .have aK:b8.length=l.length:=by omega
  have ry:=hv.len;simp only[rH,aDF,aDL] at ry;refine⟨⟨ae,rs,λj=>b8.getD j 0,λj=>l.getD j 0,l.length⟩,rfl,⟨iX,ct.gy ..,⟨(show 0<l.length by omega),ad⟩,(show rs.len=l.length by omega),?_,?_,?_,?_,?_,(by intro q aj;cases aj),?_⟩,rfl,λ_=>rfl,?_,cY⟩
  .intro j aU
   have aU:j<l.length:=aU;obtain⟨q,aj,e⟩:=hv.rd.at (i:=j) (by simp[rH];omega);refine⟨q,aj,?_⟩;rw[e];simp[rH]
  .intro j aU
   have aU:j<l.length:=aU;obtain⟨_,c,t,av,aN,a3⟩:=rI j (by omega);exact⟨c,t,av,aN,a3⟩
  .intro j aU
   have aU:j<l.length:=aU;have:l.getD j 0=l[j]:=by simp[List.getD,aU]
   show l.getD j 0<=4096;rw[this];exact(ar _ (aDR aU)).2
  .intro j aU e
   have aU:j<l.length:=aU;have hm:b8.getD j 0∈b8:=by simp[List.getD,show j<b8.length by omega]
   exact e9 ((show b8.getD j 0=ae from e)▸hm)
  .intro j k aU ah e
   have aU:j<l.length:=aU;have ah:k<l.length:=ah;exact C5 ja (by omega) (by omega) e
  .intro q aj
   refine⟨(rJ q aj).1,λj aU e=>?_,(by intro p aP;cases aP)⟩;have aU:j<l.length:=aU;have hm:b8.getD j 0∈b8:=by simp[List.getD,show j<b8.length by omega]
   exact(rJ q aj).2 ((show q.b=b8.getD j 0 from e)▸hm)
  .rintro x (rfl|⟨q,aj,_⟩|⟨j,aU,rfl⟩|⟨q,aj,rfl⟩)
   .exact nG
   .cases aj
   .have aU:j<l.length:=aU;exact(rI j (by omega)).1
   .exact(hv.bp aj).1
theorem ux {T:TypeId}{m:jQ}{R:dY}{a8:List dk}{es:ao}{h:ak}(M:c8 T m R a8 es h){r:Nat}(aQ:r<m.fl):aq 29 [bm ⟨m.b,0⟩,U r] h λv af=>v=U (m.cx r)/\af=h:=by
 refine Cg _ _ ?_;unfold abr;have aT:=M.len;obtain⟨q,aj,a1⟩:=M.row r aQ;refine b3 (gT) ⟨_,az M.top rfl,b3 (show decide ((m.rs.len:Int)<=(r:Int))=false from gT) ⟨_,az M.top rfl,q,aj,by omega,by omega,⟨some ⟨m.jS r,0⟩,m.cx r,m.cx r,none⟩,?_,rfl,rfl⟩⟩;rw[show q.o+Int.toNat (r:Int)*1=q.o+r by simp];exact a1
theorem awb {T:TypeId}{m:jQ}{R:dY}{a8:List dk}{es:ao}{h:ak}(M:c8 T m R a8 es h){k:Nat}{s t:Int}(o:lG k s t){f:Nat}(bc:f+2<m.fl)(aa:s*(2*2 ^ k-1)<=(m.cx f:Int))(ad:t<=(m.cx (f+1):Int))(an:mj k s t<=(m.cx (f+2):Int)) :
 aq 53 [bm ⟨m.b,0⟩,U f,.agg #[U (2 ^ k),U s,U t]] h λv af=>∃b,v= .tuple #[bm ⟨b,0⟩,U 0]/\h b=none/\af b=some (.cells #[bm ⟨m.b,0⟩,U f,U (2 ^ k),U s,U t,.bool false,aZ ⟨none,0,0,none⟩] 141 (0,0))/\bL h af:=by
 have mO:=M.fl;refine aqV _ _ _ _ _ ?_;unfold abA;refine bP λae g1 f1 aH aD=>⟨_,az aH rfl,_,az aH rfl,_,az aH rfl,?_⟩;refine(Rg o).to λg2 aB=>⟨_,_,_,rfl,?_⟩;have a_:=aB.get aH;refine⟨_,az a_ rfl,_,az a_ rfl,_,az a_ rfl,?_⟩;refine(RY o).to λg3 aG=>⟨_,rfl,b3 rfl ?_⟩;have n4:=(aD.trans aB).trans aG;have gH:=M.bA n4;refine(ux gH (r:=f) (by omega)).mono ?_;rintro _ g4 ⟨rfl,rfl⟩;refine⟨_,rfl,b3 (show decide ((m.cx f:Int)<s*(2*2 ^ k-1))=false from gT) ?_⟩;rw[show al ((f:Int)+1)=((f+1:Nat):Int) by rw[bt];rfl,show al ((f:Int)+2)=((f+2:Nat):Int) by rw[bt];rfl];refine(ux gH (r:=f+1) (by omega)).mono ?_;rintro _ g5 ⟨rfl,rfl⟩;refine⟨_,rfl,b3 (show decide ((m.cx (f+1):Int)<t)=false from gT) ?_⟩;refine(ux gH (r:=f+2) (by omega)).mono ?_;rintro _ g6 ⟨rfl,rfl⟩;have b7:=aG.get a_;refine⟨_,rfl,b3 (show decide ((m.cx (f+2):Int)<mj k s t)=false from gT) ⟨_,az b7 rfl,_,az b7 rfl,_,az b7 rfl,bP λax g7 f7 fa c3=>?_⟩⟩;exact⟨ax,rfl,n4.free f7,fa,n4.trans c3⟩
theorem awc:wA prog 64 106 (.pointer none) 8:=⟨by kernel_rfl,by kernel_rfl,by kernel_rfl,by kernel_rfl,rfl⟩

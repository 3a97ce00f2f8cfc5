import Derived.Test.YtegdpmgnhnccaaaGreatRefN
import Derived.Test.YtegdpmgnhnccaaaGreatEvC
namespace Go.Proofs.Tryz
open Go Go.cQ Go.RowKit
set_option maxRecDepth 8000
set_option maxHeartbeats 2000000
theorem V8 {k:Nat}(ab:k<=10):eu prog 181 [U (2 ^ k)] (.bool true):=by
 intro h;refine ajJ _ ?_;unfold Vk;refine⟨λa x aa n=>a=2 ^ k/\∃j:Nat,x=2 ^ j/\j<=k/\aa=h/\n=k-j,⟨_,rfl,0,rfl,by omega,rfl,rfl⟩,?_⟩;rintro a x aa n ⟨rfl,j,rfl,aL,rfl,rfl⟩;have au:=kb ab;have h0:=LJ j;have eq:¬((2:Int) ^ j<2 ^ k)->j=k:=λe=>by
  rcases atF j k with h|h
  .have:=lE (show j+1<=k by omega);rw[<-vy] at this;omega
  .omega
 refine b6 (λb1=>eh (by simp;omega) ?_) λc3=>⟨by rw[eq c3];simp,bB.refl _⟩;have z6:j<k:=by
  rcases atF j k with h|h
  .exact h
  .have:j=k:=by omega
   subst this;omega
 have aM:=lE (show j+1<=10 by omega);rw[iN (by omega) (by rw[vy];simp at aM;omega),vy];exact⟨_,by omega,rfl,j+1,rfl,by omega,rfl,rfl⟩
theorem alb:oX prog 263 265 3 (.agg #[U 0,U 0,.bool false]) 24:=⟨by kernel_rfl,by kernel_rfl,by kernel_rfl,by kernel_rfl,rfl⟩
theorem V9 {n:Nat}(h:n<=9223372036854775807):al (n:Int)=n:=bl
theorem V_ (a b:Nat):(a:Int).tdiv (b:Int)=((a/b:Nat):Int):=rfl
theorem alc {K:Nat}(fr:K<=10)(h:ai):aw 166 [U (2 ^ K)] h λv ag=>∃s,v=aU s/\cI 3 hH h ag s (fX K)/\bB h ag:=by
 have abF:=kb fr;have IC:2 ^ K<=1024:=atg (n:=2) (by decide) fr;have P0:((2 ^ K:Nat):Int)=2 ^ K:=by simp
 refine ajv _ ?_;unfold Vh;refine(V8 fr).to λaa aE=>⟨_,rfl,b0 rfl ?_⟩;refine⟨λx s n ad m=>x=2 ^ K/\∃a:Nat,n=2 ^ (a+1)/\a<=K/\cI 3 hH h ad s (gU (2 ^ K) a)/\bB h ad/\m=K-a,⟨_,rfl,0,rfl,atx _,cI.e9 _ _ _ _,aE,rfl⟩,?_⟩;rintro x s n ad m ⟨rfl,a,Bw,bV,s1,mG,rfl⟩;refine b6 (λhle=>?_) λBx=>?_
 .have By:a<K:=by
   rcases atF a K with h|h
   .exact h
   .have:a=K:=by omega
    subst this;rw[<-Bt] at Bw;omega
  have abH:=kb (k:=a+1) (by omega);rw[Bw,EC (c:=a+1) (by omega)];refine⟨by decide,λx s ay j aq m=>x=2 ^ K/\ay=2 ^ (a+1)/\∃c:Nat,j=bH c/\c<=a+1/\(∃l,cI 3 hH h aq s l/\bB h aq/\l++p2 (2 ^ K) a c=gU (2 ^ K) (a+1))/\c=m,
   ⟨_,rfl,rfl,a+1,rfl,as_ _,⟨_,s1,mG,(EB _ _).symm⟩,rfl⟩,?_⟩
  rintro x s ay j aq m ⟨rfl,yI,c,aL,abI,⟨l,s2,m6,aO⟩,rfl⟩;refine b6 (λpY=>?_) λID=>?_
  .cases c with
   | zero=>rw[aL] at pY;simp[bH] at pY
   | succ c =>
    rw[Bv] at aL;have abJ:=kb (k:=c) (by omega);refine⟨λx s bh bo i aJ m=>x=2 ^ K/\bh=2 ^ (a+1)/\bo=2 ^ c/\∃u:Nat,i=u/\u<=2 ^ K/\cI 3 hH h aJ s (l++ma (2 ^ (a+1)) (2 ^ c) u)/\bB h aJ/\m=2 ^ K-u,
     ⟨_,rfl,yI,aL,0,rfl,atx _,by simpa [ma] using s2,m6,rfl⟩,?_⟩
    rintro x s bh bo i aJ m ⟨rfl,Bz,ED,u,rfl,hu,bj,rK,rfl⟩;have ald:((2 ^ c:Nat):Int)=2 ^ c:=by simp
    have wD:((2 ^ (a+1):Nat):Int)=2 ^ (a+1):=by simp
    refine b6 (λb1=>?_) λc3=>?_
    .have BA:u<2 ^ K:=by omega
     rw[Bz,ED];have rM:∀ {bM aW},cI 3 hH h aW bM (l++ma (2 ^ (a+1)) (2 ^ c) (u+1))->bB h aW->∃aD,aD<2 ^ K-u/\(2:Int) ^ K=2 ^ K/\(2:Int) ^ (a+1)=2 ^ (a+1)/\(2:Int) ^ c=2 ^ c/\∃sZ:Nat,al ((u:Int)+1)=sZ/\sZ<=2 ^ K/\cI 3 hH h aW bM (l++ma (2 ^ (a+1)) (2 ^ c) sZ)/\bB h aW/\aD=2 ^ K-sZ :=
      λg1 g2=>⟨_,by omega,rfl,rfl,rfl,u+1,bl,by omega,g1,g2,rfl⟩
     have asq:=auy u (2 ^ c);have asr:=auy u (2 ^ (a+1));have q1:al ((u:Int).tdiv (2 ^ c))=((u/2 ^ c:Nat):Int):=by rw[<-ald,V_,V9 (by omega)]
     have aP:al ((u:Int).tdiv (2 ^ (a+1)))=((u/2 ^ (a+1):Nat):Int):=by rw[<-wD,V_,V9 (by omega)]
     have ev:∀z:Nat,(z:Int).tmod 2=((z%2:Nat):Int):=λz=>rfl;rw[q1,aP,ev,ev];refine⟨by omega,by decide,b6 (λbt=>⟨by omega,by decide,?_⟩) λbt=>?_⟩
     .have rO:u/2 ^ c%2=0:=by omega
      have b2:decide (((u/2 ^ (a+1)%2:Nat):Int)=0)=decide (u/2 ^ (a+1)%2=0):=by
       generalize u/2 ^ (a+1)%2=z;exact decide_eq_decide.2 ⟨λh=>by omega,λh=>by omega⟩
      rw[b2,bl (n:=(u:Int)+2 ^ c)];have hlen:(l++ma (2 ^ (a+1)) (2 ^ c) u).length<1000000000:=by
       have aa:=congrArg List.length aO;rw[as9] at aa;have ad:=IA (2 ^ K) (a+1);have aq:=Iz (2 ^ (a+1)) (2 ^ c) u;have aJ:(a+1)*(a+1)*2 ^ K<=10*10*1024:=atI (atI (by omega) (by omega)) IC;rw[as9];omega
      refine cI.push alb Ez PQ bj [⟨(u:Int),((u+2 ^ c:Nat):Int),decide (u/2 ^ (a+1)%2=0)⟩] ?_ rfl (λb au=>rK.free au) (by simp only[List.length_cons,avc];omega) (by decide) ?_
      .simp[hH]
      intro cx aW cY f5 _ _;exact rM (by rw[EA,as8 rO,<-atr];exact cY) (wA bj rK f5)
     .have rO:¬u/2 ^ c%2=0:=by omega
      exact rM (by rw[EA,as7 rO,atU];exact bj) rK
    .have:u=2 ^ K:=by omega
     rw[ED,EC (by omega)];refine⟨by decide,_,by omega,rfl,Bz,c,rfl,by omega,⟨_,bj,rK,?_⟩,rfl⟩;rw[this,atr];exact aO
  .have:c=0:=by
    cases c with
    | zero=>rfl
    | succ c=>rw[aL,Bv] at ID;have:=kb (k:=c) (by omega);omega
   subst this;simp only[p2,atU] at aO;rw[yI,Bt];have BB:=lE (show a+1+1<=11 by omega);rw[iN (by have:=lE (atx (a+1+1));simp at this;omega) (by simp at BB;omega)];exact⟨_,by omega,rfl,a+1,rfl,by omega,by rw[<-aO];exact s2,m6,rfl⟩
 .have By:a=K:=by
   rcases atF a K with h|h
   .have:=lE (show a+1<=K by omega);omega
   .omega
  subst By;exact⟨_,rfl,s1,mG⟩
theorem Wa {k leaf d:Nat}(bK:d<k):(eT k leaf (d+1)-1)/2=eT k leaf d/\0<eT k leaf (d+1):=by
 have e:leaf/2 ^ (k-d)=leaf/2 ^ (k-(d+1))/2:=by
  rw[atZ,<-atP,show(k-(d+1)).succ=k-d by omega]
 have aM:0<2 ^ d:=at5 (by decide);unfold eT;rw[e,atP];generalize leaf/2 ^ (k-(d+1))=q;generalize 2 ^ d=P at aM ⊢;omega
theorem LA {k leaf:Nat}(aO:leaf<2 ^ k):eT k leaf 0=0:=by unfold eT;rw[auz,auo aO]
theorem ale {k leaf:Nat}:eT k leaf k=2 ^ k-1+leaf:=by unfold eT;rw[Nat.sub_self];simp
def ss (k leaf d:Nat):List Int:=(List.range (k+1-d)).map λi=>(eT k leaf (d+i):Int)
theorem alf {k leaf d:Nat}(bK:d<k):ss k leaf d=(eT k leaf d:Int)::ss k leaf (d+1):=by
 unfold ss;rw[show k+1-d=(k+1-(d+1))+1 by omega,List.range_succ_eq_map,at1,auf];refine List.cons_eq_cons.2 ⟨rfl,atv λi _=>?_⟩;simp only[Function.comp];rw[show d+i.succ=d+1+i by omega]
theorem alg {k leaf:Nat}:ss k leaf 0=lk k leaf (k+1):=by unfold ss lk;simp
theorem Lz {k leaf:Nat}(ab:k<=10)(aO:leaf<2 ^ k)(h:ai):aw 157 [U (2 ^ k),U leaf] h λv ag=>∃s,v=aU s/\b9 dg h ag s (lk k leaf (k+1))/\bB h ag:=by
 have au:=kb ab;have P0:((2 ^ k:Nat):Int)=2 ^ k:=by simp
 have aH:2 ^ k<=1024:=atg (n:=2) (by decide) ab;have aM:0<2 ^ k:=at5 (by decide);refine aji _ _ ?_;unfold Vd;refine(Gt ab).to λaa aE=>⟨_,rfl,b0 rfl (b0 (by simp) (b0 (by simp;omega) (bL λaj ad f2 a7 az=>?_)))⟩;have CS:∀d,d<=k->eT k leaf d<=2047:=λd bK=>Iu ab aO bK;have eg:al (al (2 ^ k-1)+(leaf:Int))=(eT k leaf k:Int):=by
  rw[bl (n:=(2:Int) ^ k-1),bl,ale];omega
 rw[eg] at a7 ⊢;have zk:b9 dg h ad ⟨some ⟨aj,0⟩,1,1,none⟩ (ss k leaf k):=b9.nu (aE.free f2) a7 (by unfold ss;rw[show k+1-k=1 by omega];rfl) (by simp[ss]);refine⟨λn s aq m=>∃d:Nat,d<=k/\n=(eT k leaf d:Int)/\b9 dg h aq s (ss k leaf d)/\bB h aq/\d=m,⟨_,k,as_ _,rfl,zk,aE.trans az,rfl⟩,?_⟩;rintro n s aq m ⟨d,bK,rfl,os,aD,rfl⟩;refine b6 (λb1=>?_) λc3=>?_
 .have LK:0<d:=by
   rcases auV d with h|h
   .subst h;rw[LA aO] at b1;simp at b1
   .exact h
  obtain⟨bq,rfl⟩:=Nat.exists_eq_succ_of_ne_zero (Nat.ne_of_gt LK);have hu:=Wa (k:=k) (leaf:=leaf) (d:=bq) (by omega);have pV:=CS (bq+1) bK;have gI:=CS bq (by omega);have aC:al ((al ((eT k leaf (bq+1):Int)-1)).tdiv 2)=(eT k leaf bq:Int):=by
   rw[iN (n:=(eT k leaf (bq+1):Int)-1) (by omega) (by omega),show(eT k leaf (bq+1):Int)-1=((eT k leaf (bq+1)-1:Nat):Int) by omega];have:(((eT k leaf (bq+1)-1:Nat):Int)).tdiv 2=(((eT k leaf (bq+1)-1)/2:Nat):Int):=rfl;rw[this,hu.1,bl]
  rw[aC];refine⟨by decide,bL λaB aJ f4 b5 bc=>?_⟩;have cU:b9 dg h aJ ⟨some ⟨aB,0⟩,1,1,none⟩ [(eT k leaf bq:Int)]:=b9.nu (aD.free f4) b5 rfl rfl;have Wb:=aD.trans bc;refine b9.app oU qD cU (os.bE bc).rd (λb au=>Wb.free au) (by simp[ss];omega) (by decide) ?_;intro cx aW cY f5 _ _;exact⟨bq,by omega,bq,by omega,rfl,by rw[alf (k:=k) (leaf:=leaf) (d:=bq) (by omega)];exact cY,qK cU Wb f5,rfl⟩
 .have LK:d=0:=by
   rcases auV d with h|h
   .exact h
   .obtain⟨bq,rfl⟩:=Nat.exists_eq_succ_of_ne_zero (Nat.ne_of_gt h);have:=(Wa (k:=k) (leaf:=leaf) (d:=bq) (by omega)).2;exact absurd (show(0:Int)<((eT k leaf (bq+1):Nat):Int) by omega) c3
  subst LK;rw[alg] at os;exact⟨_,rfl,os,aD⟩
theorem Wc:oX prog 201 204 2 (.agg #[U 0,U 0]) 16:=⟨by kernel_rfl,by kernel_rfl,by kernel_rfl,by kernel_rfl,rfl⟩
theorem alh (f:Int)(x:Nat)(s:Int)(n:Nat):(n_ f x s n).length=n:=by simp[n_]
theorem ali (f:Int)(n:Nat):(oY f n).length=n:=by simp[oY]
theorem akG {k:Nat}{s t:Int}(o:kv k s t)(first:Int)(bf:0<=first/\first<=1000){leaf:Nat}(aO:leaf<2 ^ k)(h:ai) :
 aw 122 [U first,.agg #[U (2 ^ k),U s,U t],U leaf] h λv ag=>∃x,v=aU x/\cI 2 ll h ag x (fV k s t first leaf)/\bB h ag:=by
 have ab:=o.k;have aR:=o.s;have bz:=o.t;refine aiO _ _ s t leaf ?_;unfold U5;refine bL λaj aa f1 aC aE=>fh aC rfl ?_;refine(Lz ab aO aa).mono ?_;rintro _ ad ⟨s1,rfl,cB,az⟩;have ev:=cB.rd;have g_:=ev.len;rw[rI] at g_;have eA:=aE.trans az;have Wd:=Ey k s first leaf
 refine⟨_,rfl,λn q s2 bj i aq m=>n=first/\q=⟨aj,0⟩/\s1=bj/\∃d:Nat,i=d/\d<=k+1/\cI 2 ll ad aq s2 (oa k s first leaf d)/\bB ad aq/\m=k+1-d,⟨_,rfl,rfl,rfl,0,rfl,atx _,cI.e9 _ _ _ _,bB.refl _,rfl⟩,?_⟩;rintro n q s2 bj i aq m ⟨rfl,rfl,rfl,d,rfl,bK,qB,aD,rfl⟩;refine b6 (λb1=>?_) λc3=>?_
 .have V1:d<k+1:=by omega
  have Js:d<(lk k leaf (k+1)).length:=by rw[rI];exact V1
  have yE:=Iu ab aO (show d<=k by omega);refine⟨λa q bM cZ i j aJ m=>a=n/\q=⟨aj,0⟩/\s1=cZ/\i=d/\∃u:Nat,j=u/\u<=s.toNat/\cI 2 ll ad aJ bM (oa k s n leaf d++n_ n (eT k leaf d) s u)/\bB ad aJ/\m=s.toNat-u,⟨_,rfl,rfl,rfl,rfl,0,rfl,atx _,by simpa [n_] using qB,aD,rfl⟩,?_⟩;rintro a q bM cZ i j aJ m ⟨rfl,rfl,rfl,rfl,u,rfl,hu,nA,bc,rfl⟩;have b5:=(az.trans bc).get aC;refine fh b5 rfl (b6 (λlF=>?_) λyF=>?_)
  .refine(ev.bE bc).e0 Js λbs _ aT=>⟨_,aT,fh b5 rfl ?_⟩
   have cR:(lk k leaf (k+1))[d]=(eT k leaf d:Int):=by simp[lk]
   rw[cR];have hm:(0:Int)<=(eT k leaf d:Int)*s/\(eT k leaf d:Int)*s<=2047*8:=PM (by omega) (by omega) (by omega) (by omega);rw[bl (n:=(eT k leaf d:Int)*s),bl (n:=(eT k leaf d:Int)*s+(u:Int))];have hlen:d*s.toNat<=11*8:=atI (by omega) (by omega);refine cI.push Wc l9 Ew nA [⟨a,(eT k leaf d:Int)*s+u⟩] rfl rfl (λb au=>bc.free au) (by rw[as9,Wd,alh];simp;omega) (by decide) ?_;intro cx aW cY f5 _ _;exact⟨_,by omega,rfl,rfl,rfl,rfl,u+1,bl,by omega,by rw[PJ,<-atr];exact cY,wA nA bc f5,rfl⟩
  .have:u=s.toNat:=by omega
   subst this;exact⟨_,by omega,rfl,rfl,rfl,d+1,bl,by omega,by rw[Ex];exact nA,bc,rfl⟩
 .have:d=k+1:=by omega
  subst this;have hlen:(k+1)*s.toNat<=11*8:=atI (by omega) (by omega);refine⟨λa q x i aJ m=>a=n/\q=⟨aj,0⟩/\∃u:Nat,i=u/\u<=t.toNat/\cI 2 ll ad aJ x (oa k s n leaf (k+1)++oY n u)/\bB ad aJ/\m=t.toNat-u,⟨_,rfl,rfl,0,rfl,atx _,by simpa [oY] using qB,aD,rfl⟩,?_⟩;rintro a q x i aJ m ⟨rfl,rfl,u,rfl,hu,nA,bc,rfl⟩;refine fh ((az.trans bc).get aC) rfl (b6 (λlF=>?_) λyF=>?_)
  .rw[bl (n:=a+1)];refine cI.push Wc l9 Ew nA [⟨a+1,u⟩] rfl rfl (λb au=>bc.free au) (by rw[as9,Wd,ali];simp;omega) (by decide) ?_;intro cx aW cY f5 _ _;exact⟨_,by omega,rfl,rfl,u+1,bl,by omega,by rw[PK,<-atr];exact cY,wA nA bc f5,rfl⟩
  .have:u=t.toNat:=by omega
   subst this;exact⟨_,rfl,nA.Iv eA,eA.trans bc⟩

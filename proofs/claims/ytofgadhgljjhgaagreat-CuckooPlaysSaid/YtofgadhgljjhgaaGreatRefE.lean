import Derived.Test.YtofgadhgljjhgaaGreatRefN
import Derived.Test.YtofgadhgljjhgaaGreatEvC
namespace Go.Proofs.Tryz
open Go Go.cD Go.RowKit
set_option maxRecDepth 8000
set_option maxHeartbeats 2000000
theorem aaX {k:Nat}(ag:k<=10):eW prog 182 [U (2 ^ k)] (.bool true):=by
 intro h
 refine aq3 _ ?_
 unfold aae
 refine⟨λa x aa n=>a=2 ^ k/\∃j:Nat,x=2 ^ j/\j<=k/\aa=h/\n=k-j,⟨_,rfl,0,rfl,by omega,rfl,rfl⟩,?_⟩
 rintro a x aa n ⟨rfl,j,rfl,aV,rfl,rfl⟩
 have au:=ln ag
 have h0:=PR j
 have eq:¬((2:Int) ^ j<2 ^ k)->j=k:=λe=>by
  rcases Nat.lt_or_ge j k with h|h
  .have:=m1 (show j+1<=k by omega)
   rw[<-xP] at this;omega
  .omega
 refine cd (λca=>dg (by simp;omega) ?_) λdx=>⟨by rw[eq dx];simp,bL.refl _⟩
 have CI:j<k:=by
  rcases Nat.lt_or_ge j k with h|h
  .exact h
  .have:j=k:=by omega
   subst this;omega
 have aS:=m1 (show j+1<=10 by omega)
 rw[bf (by omega) (by rw[xP];simp at aS;omega),xP]
 exact⟨_,by omega,rfl,j+1,rfl,by omega,rfl,rfl⟩
theorem asf:oZ prog 284 286 3 (.agg #[U 0,U 0,.bool false]) 24:=⟨by kernel_rfl,by kernel_rfl,by kernel_rfl,by kernel_rfl,rfl⟩
theorem aaY {n:Nat}(h:n<=9223372036854775807):al (n:Int)=n:=bf (by omega) (by omega)
theorem aaZ (a b:Nat):(a:Int).tdiv (b:Int)=((a/b:Nat):Int):=rfl
theorem asg {K:Nat}(eM:K<=10)(h:ak):ao 183 [U (2 ^ K)] h λv ah=>∃s,v=bb s/\cF 3 iN h ah s (gT K)/\bL h ah:=by
 have ai2:=ln eM
 have Nq:2 ^ K<=1024:=Nat.pow_le_pow_right (n:=2) (by decide) eM
 have VY:((2 ^ K:Nat):Int)=2 ^ K:=by simp
 refine aq5 _ ?_
 unfold aaf
 refine(aaX eM).to λaa aE=>⟨_,rfl,bS rfl ?_⟩
 refine⟨λx s n ad m=>x=2 ^ K/\∃a:Nat,n=2 ^ (a+1)/\a<=K/\cF 3 iN h ad s (h7 (2 ^ K) a)/\bL h ad/\m=K-a,⟨_,rfl,0,rfl,Nat.zero_le _,cF.gD _ _ _ _,aE,rfl⟩,?_⟩
 rintro x s n ad m ⟨rfl,a,EP,bO,s1,m7,rfl⟩
 refine cd (λhle=>?_) λER=>?_
 .have ES:a<K:=by
   rcases Nat.lt_or_ge a K with h|h
   .exact h
   .have:a=K:=by omega
    subst this;rw[<-EM] at EP;omega
  have ai4:=ln (k:=a+1) (by omega)
  rw[EP,IE (c:=a+1) (by omega)]
  refine⟨by decide,λx s aA j an m=>x=2 ^ K/\aA=2 ^ (a+1)/\∃c:Nat,j=bQ c/\c<=a+1/\(∃l,cF 3 iN h an s l/\bL h an/\l++rM (2 ^ K) a c=h7 (2 ^ K) (a+1))/\c=m,
   ⟨_,rfl,rfl,a+1,rfl,Nat.le_refl _,⟨_,s1,m7,(ID _ _).symm⟩,rfl⟩,?_⟩
  rintro x s aA j an m ⟨rfl,ET,c,aV,ai5,⟨l,s2,oY,aT⟩,rfl⟩
  refine cd (λrK=>?_) λNr=>?_
  .cases c with
   | zero=>rw[aV] at rK;simp[bQ] at rK
   | succ c =>
    rw[EO] at aV
    have ai6:=ln (k:=c) (by omega)
    refine⟨λx s bu bt i aK m=>x=2 ^ K/\bu=2 ^ (a+1)/\bt=2 ^ c/\∃u:Nat,i=u/\u<=2 ^ K/\cF 3 iN h aK s (l++nN (2 ^ (a+1)) (2 ^ c) u)/\bL h aK/\m=2 ^ K-u,
     ⟨_,rfl,ET,aV,0,rfl,Nat.zero_le _,by simpa [nN] using s2,oY,rfl⟩,?_⟩
    rintro x s bu bt i aK m ⟨rfl,EU,IF,u,rfl,hu,bG,tG,rfl⟩
    have ash:((2 ^ c:Nat):Int)=2 ^ c:=by simp
    have y6:((2 ^ (a+1):Nat):Int)=2 ^ (a+1):=by simp
    refine cd (λca=>?_) λdx=>?_
    .have EV:u<2 ^ K:=by omega
     rw[EU,IF]
     have jA:∀ {bX aR},cF 3 iN h aR bX (l++nN (2 ^ (a+1)) (2 ^ c) (u+1))->bL h aR->∃aI,aI<2 ^ K-u/\(2:Int) ^ K=2 ^ K/\(2:Int) ^ (a+1)=2 ^ (a+1)/\(2:Int) ^ c=2 ^ c/\∃u_:Nat,al ((u:Int)+1)=u_/\u_<=2 ^ K/\cF 3 iN h aR bX (l++nN (2 ^ (a+1)) (2 ^ c) u_)/\bL h aR/\aI=2 ^ K-u_ :=
      λg1 g2=>⟨_,by omega,rfl,rfl,rfl,u+1,bf (by omega) (by omega),by omega,g1,g2,rfl⟩
     have azE:=Nat.div_le_self u (2 ^ c);have azF:=Nat.div_le_self u (2 ^ (a+1))
     have q1:al ((u:Int).tdiv (2 ^ c))=((u/2 ^ c:Nat):Int):=by rw[<-ash,aaZ,aaY (by omega)]
     have aJ:al ((u:Int).tdiv (2 ^ (a+1)))=((u/2 ^ (a+1):Nat):Int):=by rw[<-y6,aaZ,aaY (by omega)]
     have ew:∀z:Nat,(z:Int).tmod 2=((z%2:Nat):Int):=λz=>rfl
     rw[q1,aJ,ew,ew]
     refine⟨by omega,by decide,cd (λbc=>⟨by omega,by decide,?_⟩) λbc=>?_⟩
     .have tI:u/2 ^ c%2=0:=by omega
      have b0:decide (((u/2 ^ (a+1)%2:Nat):Int)=0)=decide (u/2 ^ (a+1)%2=0):=by
       generalize u/2 ^ (a+1)%2=z
       exact decide_eq_decide.2 ⟨λh=>by omega,λh=>by omega⟩
      rw[b0,bf (n:=(u:Int)+2 ^ c) (by omega) (by omega)]
      have hlen:(l++nN (2 ^ (a+1)) (2 ^ c) u).length<1000000000:=by
       have aa:=congrArg List.length aT
       rw[List.length_append] at aa
       have ad:=No (2 ^ K) (a+1)
       have an:=Nn (2 ^ (a+1)) (2 ^ c) u
       have aK:(a+1)*(a+1)*2 ^ K<=10*10*1024:=Nat.mul_le_mul (Nat.mul_le_mul (by omega) (by omega)) Nq
       rw[List.length_append];omega
      refine cF.push asf IB VO bG [⟨(u:Int),((u+2 ^ c:Nat):Int),decide (u/2 ^ (a+1)%2=0)⟩] ?_ rfl (λb au=>tG.free au) (by simp only[List.length_cons,List.length_nil];omega) (by decide) ?_
      .simp[iN]
      intro cX aR cm f5 _ _
      exact jA (by rw[IC,if_pos tI,<-List.append_assoc];exact cm) (y3 bG tG f5)
     .have tI:¬u/2 ^ c%2=0:=by omega
      exact jA (by rw[IC,if_neg tI,List.append_nil];exact bG) tG
    .have:u=2 ^ K:=by omega
     rw[IF,IE (by omega)]
     refine⟨by decide,_,by omega,rfl,EU,c,rfl,by omega,⟨_,bG,tG,?_⟩,rfl⟩
     rw[this,List.append_assoc];exact aT
  .have:c=0:=by
    cases c with
    | zero=>rfl
    | succ c=>rw[aV,EO] at Nr;have:=ln (k:=c) (by omega);omega
   subst this
   simp only[rM,List.append_nil] at aT
   rw[ET,EM]
   have rq:=m1 (show a+1+1<=11 by omega)
   rw[bf (by have:=m1 (Nat.zero_le (a+1+1));simp at this;omega) (by simp at rq;omega)]
   exact⟨_,by omega,rfl,a+1,rfl,by omega,by rw[<-aT];exact s2,oY,rfl⟩
 .have ES:a=K:=by
   rcases Nat.lt_or_ge a K with h|h
   .have:=m1 (show a+1<=K by omega);omega
   .omega
  subst ES
  exact⟨_,rfl,s1,m7⟩
theorem aa0 {k leaf d:Nat}(bV:d<k):(fD k leaf (d+1)-1)/2=fD k leaf d/\0<fD k leaf (d+1):=by
 have e:leaf/2 ^ (k-d)=leaf/2 ^ (k-(d+1))/2:=by
  rw[Nat.div_div_eq_div_mul,<-Nat.pow_succ,show(k-(d+1)).succ=k-d by omega]
 have aS:0<2 ^ d:=Nat.pow_pos (by decide)
 unfold fD
 rw[e,Nat.pow_succ]
 generalize leaf/2 ^ (k-(d+1))=q
 generalize 2 ^ d=P at aS ⊢
 omega
theorem PJ {k leaf:Nat}(aT:leaf<2 ^ k):fD k leaf 0=0:=by unfold fD;rw[Nat.sub_zero,Nat.div_eq_of_lt aT]
theorem asi {k leaf:Nat}:fD k leaf k=2 ^ k-1+leaf:=by unfold fD;rw[Nat.sub_self];simp
def ug (k leaf d:Nat):List Int:=(List.range (k+1-d)).map λi=>(fD k leaf (d+i):Int)
theorem asj {k leaf d:Nat}(bV:d<k):ug k leaf d=(fD k leaf d:Int)::ug k leaf (d+1):=by
 unfold ug
 rw[show k+1-d=(k+1-(d+1))+1 by omega,List.range_succ_eq_map,List.map_cons,List.map_map]
 refine List.cons_eq_cons.2 ⟨rfl,List.map_congr_left λi _=>?_⟩
 simp only[Function.comp]
 rw[show d+i.succ=d+1+i by omega]
theorem asl {k leaf:Nat}:ug k leaf 0=mS k leaf (k+1):=by unfold ug mS;simp
theorem PI {k leaf:Nat}(ag:k<=10)(aT:leaf<2 ^ k)(h:ak):ao 161 [U (2 ^ k),U leaf] h λv ah=>∃s,v=bb s/\cW eR h ah s (mS k leaf (k+1))/\bL h ah:=by
 have au:=ln ag
 have VY:((2 ^ k:Nat):Int)=2 ^ k:=by simp
 have aH:2 ^ k<=1024:=Nat.pow_le_pow_right (n:=2) (by decide) ag
 have aS:0<2 ^ k:=Nat.pow_pos (by decide)
 refine aqz _ _ ?_
 unfold Z7
 refine(J_ ag).to λaa aE=>⟨_,rfl,bS rfl (bS (by simp) (bS (by simp;omega) (bM λae ad f2 a8 aC=>?_)))⟩
 have wR:∀d,d<=k->fD k leaf d<=2047:=λd bV=>Ni ag aT bV
 have dB:al (al (2 ^ k-1)+(leaf:Int))=(fD k leaf k:Int):=by
  rw[bf (n:=(2:Int) ^ k-1) (by omega) (by omega),bf (by omega) (by omega),asi];omega
 rw[dB] at a8 ⊢
 have BZ:cW eR h ad ⟨some ⟨ae,0⟩,1,1,none⟩ (ug k leaf k):=cW.qz (aE.free f2) a8 (by unfold ug;rw[show k+1-k=1 by omega];rfl) (by simp[ug])
 refine⟨λn s an m=>∃d:Nat,d<=k/\n=(fD k leaf d:Int)/\cW eR h an s (ug k leaf d)/\bL h an/\d=m,⟨_,k,Nat.le_refl _,rfl,BZ,aE.trans aC,rfl⟩,?_⟩
 rintro n s an m ⟨d,bV,rfl,os,aI,rfl⟩
 refine cd (λca=>?_) λdx=>?_
 .have PS:0<d:=by
   rcases Nat.eq_zero_or_pos d with h|h
   .subst h;rw[PJ aT] at ca;simp at ca
   .exact h
  obtain⟨bC,rfl⟩:=Nat.exists_eq_succ_of_ne_zero (Nat.ne_of_gt PS)
  have hu:=aa0 (k:=k) (leaf:=leaf) (d:=bC) (by omega)
  have pJ:=wR (bC+1) bV;have hZ:=wR bC (by omega)
  have aF:al ((al ((fD k leaf (bC+1):Int)-1)).tdiv 2)=(fD k leaf bC:Int):=by
   rw[bf (n:=(fD k leaf (bC+1):Int)-1) (by omega) (by omega),show(fD k leaf (bC+1):Int)-1=((fD k leaf (bC+1)-1:Nat):Int) by omega]
   have:(((fD k leaf (bC+1)-1:Nat):Int)).tdiv 2=(((fD k leaf (bC+1)-1)/2:Nat):Int):=rfl
   rw[this,hu.1,bf (by omega) (by omega)]
  rw[aF]
  refine⟨by decide,bM λay aK f4 b1 bh=>?_⟩
  have cb:cW eR h aK ⟨some ⟨ay,0⟩,1,1,none⟩ [(fD k leaf bC:Int)]:=cW.qz (aI.free f4) b1 rfl rfl
  have uU:=aI.trans bh
  refine cW.app yT Eh cb (os.bD bh).rd (λb au=>uU.free au) (by simp[ug];omega) (by decide) ?_
  intro cX aR cm f5 _ _
  exact⟨bC,by omega,bC,by omega,rfl,by rw[asj (k:=k) (leaf:=leaf) (d:=bC) (by omega)];exact cm,Bk cb uU f5,rfl⟩
 .have PS:d=0:=by
   rcases Nat.eq_zero_or_pos d with h|h
   .exact h
   .obtain⟨bC,rfl⟩:=Nat.exists_eq_succ_of_ne_zero (Nat.ne_of_gt h)
    have:=(aa0 (k:=k) (leaf:=leaf) (d:=bC) (by omega)).2
    exact absurd (show(0:Int)<((fD k leaf (bC+1):Nat):Int) by omega) dx
  subst PS
  rw[asl] at os
  exact⟨_,rfl,os,aI⟩
theorem aa1:oZ prog 236 239 2 (.agg #[U 0,U 0]) 16:=⟨by kernel_rfl,by kernel_rfl,by kernel_rfl,by kernel_rfl,rfl⟩
theorem asm (f:Int)(x:Nat)(s:Int)(n:Nat):(pX f x s n).length=n:=by simp[pX]
theorem asn (f:Int)(n:Nat):(qF f n).length=n:=by simp[qF]
theorem arL {k:Nat}{s t:Int}(o:lR k s t)(first:Int)(a_:0<=first/\first<=1000){leaf:Nat}(aT:leaf<2 ^ k)(h:ak) :
 ao 141 [U first,.agg #[U (2 ^ k),U s,U t],U leaf] h λv ah=>∃x,v=bb x/\cF 2 mT h ah x (gM k s t first leaf)/\bL h ah:=by
 have ag:=o.k;have aU:=o.s;have bw:=o.t
 refine ap9 _ _ s t leaf ?_
 unfold Z0
 refine bM λae aa f1 aF aE=>gq aF rfl ?_
 refine(PI ag aT aa).mono ?_
 rintro _ ad ⟨s1,rfl,cj,aC⟩
 have ew:=cj.rd
 have h_:=ew.len
 rw[tD] at h_
 have fE:=aE.trans aC
 have aa2:=IA k s first leaf
 refine⟨_,rfl,λn q s2 bG i an m=>n=first/\q=⟨ae,0⟩/\s1=bG/\∃d:Nat,i=d/\d<=k+1/\cF 2 mT ad an s2 (pY k s first leaf d)/\bL ad an/\m=k+1-d,⟨_,rfl,rfl,rfl,0,rfl,Nat.zero_le _,cF.gD _ _ _ _,bL.refl _,rfl⟩,?_⟩
 rintro n q s2 bG i an m ⟨rfl,rfl,rfl,d,rfl,bV,sz,aI,rfl⟩
 refine cd (λca=>?_) λdx=>?_
 .have aaQ:d<k+1:=by omega
  have E2:d<(mS k leaf (k+1)).length:=by rw[tD];exact aaQ
  have BA:=Ni ag aT (show d<=k by omega)
  refine⟨λa q bX c5 i j aK m=>a=n/\q=⟨ae,0⟩/\s1=c5/\i=d/\∃u:Nat,j=u/\u<=s.toNat/\cF 2 mT ad aK bX (pY k s n leaf d++pX n (fD k leaf d) s u)/\bL ad aK/\m=s.toNat-u,⟨_,rfl,rfl,rfl,rfl,0,rfl,Nat.zero_le _,by simpa [pX] using sz,aI,rfl⟩,?_⟩
  rintro a q bX c5 i j aK m ⟨rfl,rfl,rfl,rfl,u,rfl,hu,pd,bh,rfl⟩
  have b1:=(aC.trans bh).get aF
  refine gq b1 rfl (cd (λmR=>?_) λwP=>?_)
  .refine(ew.bD bh).cp E2 λbd _ aZ=>⟨_,aZ,gq b1 rfl ?_⟩
   have c_:(mS k leaf (k+1))[d]=(fD k leaf d:Int):=by simp[mS]
   rw[c_]
   have hm:(0:Int)<=(fD k leaf d:Int)*s/\(fD k leaf d:Int)*s<=2047*8:=VL (by omega) (by omega) (by omega) (by omega)
   rw[bf (n:=(fD k leaf d:Int)*s) (by omega) (by omega),bf (n:=(fD k leaf d:Int)*s+(u:Int)) (by omega) (by omega)]
   have hlen:d*s.toNat<=11*8:=Nat.mul_le_mul (by omega) (by omega)
   refine cF.push aa1 nL Iy pd [⟨a,(fD k leaf d:Int)*s+u⟩] rfl rfl (λb au=>bh.free au) (by rw[List.length_append,aa2,asm];simp;omega) (by decide) ?_
   intro cX aR cm f5 _ _
   exact⟨_,by omega,rfl,rfl,rfl,rfl,u+1,bf (by omega) (by omega),by omega,by rw[VI,<-List.append_assoc];exact cm,y3 pd bh f5,rfl⟩
  .have:u=s.toNat:=by omega
   subst this
   exact⟨_,by omega,rfl,rfl,rfl,d+1,bf (by omega) (by omega),by omega,by rw[Iz];exact pd,bh,rfl⟩
 .have:d=k+1:=by omega
  subst this
  have hlen:(k+1)*s.toNat<=11*8:=Nat.mul_le_mul (by omega) (by omega)
  refine⟨λa q x i aK m=>a=n/\q=⟨ae,0⟩/\∃u:Nat,i=u/\u<=t.toNat/\cF 2 mT ad aK x (pY k s n leaf (k+1)++qF n u)/\bL ad aK/\m=t.toNat-u,⟨_,rfl,rfl,0,rfl,Nat.zero_le _,by simpa [qF] using sz,aI,rfl⟩,?_⟩
  rintro a q x i aK m ⟨rfl,rfl,u,rfl,hu,pd,bh,rfl⟩
  refine gq ((aC.trans bh).get aF) rfl (cd (λmR=>?_) λwP=>?_)
  .rw[bf (n:=a+1) (by omega) (by omega)]
   refine cF.push aa1 nL Iy pd [⟨a+1,u⟩] rfl rfl (λb au=>bh.free au) (by rw[List.length_append,aa2,asn];simp;omega) (by decide) ?_
   intro cX aR cm f5 _ _
   exact⟨_,by omega,rfl,rfl,u+1,bf (by omega) (by omega),by omega,by rw[VJ,<-List.append_assoc];exact cm,y3 pd bh f5,rfl⟩
  .have:u=t.toNat:=by omega
   subst this
   exact⟨_,rfl,pd.Nj fE,fE.trans bh⟩

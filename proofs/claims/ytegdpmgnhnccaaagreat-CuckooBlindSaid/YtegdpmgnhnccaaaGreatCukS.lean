import Derived.Test.YtegdpmgnhnccaaaGreatCukU
import Derived.Test.YtegdpmgnhnccaaaGreatStoN
import Derived.Test.YtegdpmgnhnccaaaGreatShRec
namespace Go.Proofs.Tryz
open Go Go.cR Go.RowKit
set_option maxRecDepth 8000
theorem vE {c:Int}(aa: -9223372036854775808<=c)(ad:c<=9223372036854775807){n:Nat}(aK:0<n):fc prog 100 [U c,U n] (U (dN c n)):=by
 intro h;refine ai5 _ _ ?_;unfold V3;refine cj (λcl=>⟨by omega,?_,bL.refl h⟩) λdH=>⟨by omega,?_,bL.refl h⟩
 .have e:al (0-al (c+1))=((-(c+1)).toNat:Nat):=by rw[bt (n:=c+1),bt];omega
  rw[e];unfold dN;rw[aDr cl];congr 1
 .obtain⟨k,rfl⟩:=aE2 (show 0<=c by omega);unfold dN;rw[aDq dH];congr 1
def dg (n:Int):cq:=Fm (1+dN n 4) (1+dN (n.tdiv 64) 3) (4+dN (n.tdiv 192) 13) (1+dN (n.tdiv 2496) 2)
noncomputable def iM (n:Int)(x:km):eE:=⟨2 ^ dN n 4,ql x.a x.b x.c x.d (2 ^ dN n 4),1+dN (n.tdiv 4) 4,1+dN (n.tdiv 16) 4⟩
theorem Oa (n:Int):(dg n).dt:=by
 have aa:=kS n (n:=4) (by decide);have ad:=kS (n.tdiv 64) (n:=3) (by decide);have an:=kS (n.tdiv 192) (n:=13) (by decide);have aJ:=kS (n.tdiv 2496) (n:=2) (by decide);exact ai6 (by omega) (by omega) (by omega) (by omega)
theorem ai7 (n:Int)(x:km):qi (dg n) (iM n x):=by
 have aa:=kS n (n:=4) (by decide);have an:=kS (n.tdiv 16) (n:=4) (by decide);have sd:1<=2 ^ dN n 4:=aEf;have se:2 ^ dN n 4<=2 ^ 3:=aDy (by decide) (by omega);refine⟨Oa n,⟨sd,λt k=>ND sd (by omega),by show 1<=1+dN (n.tdiv 16) 4;omega⟩,?_,by show 2 ^ dN n 4<=1000;omega,by show 1+dN (n.tdiv 16) 4<=1000;omega,rfl⟩;show 2 ^ (1+dN n 4)=2*2 ^ dN n 4;rw[aFH]
theorem IY {n:Int}(aa: -9223372036854775808<=n)(ad:n<=9223372036854775807):fc prog 94 [U n] (.agg #[U ((2 ^ dN n 4:Nat):Int),U ((1+dN (n.tdiv 4) 4:Nat):Int),U ((1+dN (n.tdiv 16) 4:Nat):Int)]):=by
 intro h;have ho:=kS n (n:=4) (by decide);have iz:=kS (n.tdiv 4) (n:=4) (by decide);have zN:=kS (n.tdiv 16) (n:=4) (by decide);have t1:=Fo (k:=4) (by decide) aa ad;have t2:=Fo (k:=16) (by decide) aa ad;refine ai8 _ ?_;unfold V4;refine bP λae Ci f1 aH aD=>⟨by decide,by decide,?_⟩;rw[iK t1.1 t1.2,iK t2.1 t2.2];refine(vE aa ad (n:=4) (by decide)).to λg1 hz=>⟨_,rfl,by omega,?_⟩;refine(vE t1.1 t1.2 (n:=4) (by decide)).to λg2 gg=>⟨_,rfl,?_⟩;refine(vE t2.1 t2.2 (n:=4) (by decide)).to λg3 og=>⟨_,rfl,?_⟩;have V5:=(hz.trans gg).trans og;have Fp:min (Int.toNat ((dN n 4:Nat):Int)) 64=dN n 4:=by omega
 have zO:2 ^ dN n 4<=2 ^ 3:=aDy (by decide) (by omega);have ai9:(2:Int) ^ dN n 4=((2 ^ dN n 4:Nat):Int):=by simp
 rw[Fp];refine iH (aD.trans V5) f1 (V5.get aH) rfl λg5 nH cG _=>⟨_,az cG rfl,_,az cG rfl,_,az cG rfl,?_,nH⟩;rw[Int.one_mul,ai9];generalize 2 ^ dN n 4=y at *;rw[bt (n:=(y:Int)),iK (n:=1+((dN (n.tdiv 4) 4:Nat):Int)) (by omega) (by omega),iK (n:=1+((dN (n.tdiv 16) 4:Nat):Int)) (by omega) (by omega)];simp
theorem Nw {n b c:Int}(aa: -9223372036854775808<=n)(ad:n<=9223372036854775807):fc prog 95 [.agg #[U ((2 ^ dN n 4:Nat):Int),U b,U c],U n] (v4 (dg n).m (dg n).s (dg n).t (dg n).L):=by
 intro h;have ho:=kS n (n:=4) (by decide);have iz:=kS (n.tdiv 64) (n:=3) (by decide);have zN:=kS (n.tdiv 192) (n:=13) (by decide);have rm:=kS (n.tdiv 2496) (n:=2) (by decide);have t1:=Fo (k:=64) (by decide) aa ad;have t2:=Fo (k:=192) (by decide) aa ad;have t3:=Fo (k:=2496) (by decide) aa ad;refine ai_ _ _ _ _ ?_;unfold V6;refine bP λae Ci f1 aH aD=>bP λax si f2 a_ aB=>⟨_,az (aB.get aH) rfl,by decide,by decide,by decide,?_⟩;rw[iK t1.1 t1.2,iK t2.1 t2.2,iK t3.1 t3.2];have ik:=aB.get aH;refine(vE t1.1 t1.2 (n:=3) (by decide)).to λg2 gg=>⟨_,rfl,⟨az (gg.get ik) rfl,trivial⟩,?_⟩;refine(vE t2.1 t2.2 (n:=13) (by decide)).to λg3 og=>⟨_,rfl,⟨az ((gg.trans og).get ik) rfl,trivial⟩,?_⟩;refine(vE t3.1 t3.2 (n:=2) (by decide)).to λg4 vV=>⟨_,rfl,⟨az (((gg.trans og).trans vV).get ik) rfl,trivial⟩,?_⟩;have V7:=(gg.trans og).trans vV;have zO:2 ^ dN n 4<=2 ^ 3:=aDy (by decide) (by omega);refine iH ((aD.trans aB).trans V7) (aD.free f2) (V7.get a_) rfl λg5 nH cG _=>⟨_,az cG rfl,_,az cG rfl,_,az cG rfl,_,az cG rfl,?_,nH⟩;have hm:(2:Int) ^ (1+dN n 4)=2*((2 ^ dN n 4:Nat):Int):=by rw[Int.pow_add];simp
 show _=v4 (1+dN n 4) ((1+dN (n.tdiv 64) 3:Nat):Int) ((4+dN (n.tdiv 192) 13:Nat):Int) (1+dN (n.tdiv 2496) 2);unfold v4;rw[hm];generalize 2 ^ dN n 4=y at *;rw[bt (n:=2*(y:Int)),iK (n:=1+((dN (n.tdiv 64) 3:Nat):Int)) (by omega) (by omega),iK (n:=4+((dN (n.tdiv 192) 13:Nat):Int)) (by omega) (by omega),iK (n:=1+((dN (n.tdiv 2496) 2:Nat):Int)) (by omega) (by omega)];simp
def s6 (ws:List aE):Nat->bo 4
 | 0=>#v[0,0,0,0]
 | i+1=>if h:i<4 then (s6 ws i).set i (ws.getD i 0) else s6 ws i
theorem V8 {ws:List aE}{i:Nat}(h:i<4):s6 ws (i+1)=(s6 ws i).set i (ws.getD i 0):=dif_pos h
theorem aja {ws:List aE}{i:Nat}(h:i<4)(aT:ws.length<=i):s6 ws (i+1)=s6 ws i:=by
 rw[V8 h,show ws.getD i 0=0 by simp[List.getD,aEu aT]];have:i=0∨i=1∨i=2∨i=3:=by omega
 rcases this with rfl|rfl|rfl|rfl<;>(simp only[s6];rfl)
theorem ajb (ws:List aE):s6 ws 4=#v[ws.getD 0 0,ws.getD 1 0,ws.getD 2 0,ws.getD 3 0]:=rfl
theorem ajc {h:ak}{ed:ao}{ws:List aE}(r:e4 ab h ed ws):aq 97 [aZ ed] h λv af=>v= .agg #[ab (ws.getD 0 0),ab (ws.getD 1 0),ab (ws.getD 2 0),ab (ws.getD 3 0)]/\bL h af:=by
 refine ajd _ ?_;unfold V9;refine bP λae aa f1 aH aD=>bP λax ad f2 a_ aB=>?_;have f20:=aD.free f2;have d12:ae≠ax:=λe=>by rw[<-e,aH] at f2;cases f2
 have aT:=r.len;refine⟨λs1 q1 aI ay g bW=>ed=s1/\(⟨ae,0⟩:aF)=q1/\(⟨ax,0⟩:aF)=aI/\∃i:Nat,ay=i/\i<=4/\bW=4-i/\g ax=some (.cells (ag.cells (.ws 4 (s6 ws i))).toArray 236 (0,0))/\g ae=ad ae/\bL h g,
  ⟨4,rfl,rfl,rfl,0,rfl,by omega,rfl,a_,rfl,aD.trans aB⟩,?_⟩
 rintro s1 q1 aI ay g bW ⟨rfl,rfl,rfl,i,rfl,hi,rfl,g2,g1,cY⟩;refine cj (λcl=>?_) λdH=>?_
 .have V_:i<4:=by omega
  refine cj (λCe=>?_) λuw=>⟨4-(i+1),by omega,rfl,rfl,rfl,i+1,bt,by omega,rfl,by rw[aja V_ (by omega)];exact g2,g1,cY⟩;refine(r.bA cY).cA (i:=i) (by omega) λq aj a1=>⟨_,a1,by omega,by omega,?_⟩;rw[show 0+Int.toNat (i:Int)*1=i by simp];refine qu cY f20 g2 (by omega) λbw h9 Ob iF=>⟨4-(i+1),by omega,rfl,rfl,rfl,i+1,bt,by omega,rfl,?_,(iF ae d12).trans g1,h9⟩;rw[V8 V_,show ws.getD i 0=ws[i]'(by omega) by simp[List.getD,show i<ws.length by omega]];exact Ob
 .have:i=4:=by omega
  subst this;rw[ajb] at g2;refine⟨Int.NonNeg.mk _,Int.NonNeg.mk _,_,fs g2 (i:=0) (by decide),Int.NonNeg.mk _,Int.NonNeg.mk _,_,fs g2 (i:=1) (by decide),Int.NonNeg.mk _,Int.NonNeg.mk _,_,fs g2 (i:=2) (by decide),Int.NonNeg.mk _,Int.NonNeg.mk _,_,fs g2 (i:=3) (by decide),?_⟩;exact iH cY f1 (g1.trans (aB.get aH)) rfl λbw h_ cc _=>⟨_,az cc rfl,_,az cc rfl,_,az cc rfl,_,az cc rfl,rfl,h_⟩
theorem Jp {h:ak}{ed:ao}{ws:List aE}(r:e4 ab h ed ws)(i:Nat):aq 148 [aZ ed,U i] h λv af=>v=ab (ws.getD i 0)/\af=h:=by
 refine aje _ _ ?_;unfold Wa;have aT:=r.len;refine cj (λcl=>?_) λdH=>⟨?_,rfl⟩
 .refine r.cA (i:=i) (by omega) λq aj a1=>⟨_,a1,?_,rfl⟩;simp[List.getD,show i<ws.length by omega]
 .simp[List.getD,aEu (show ws.length<=i by omega)]
theorem ajf {h:ak}{ed:ao}{ws:List aE}(r:e4 ab h ed ws):aq 99 [aZ ed] h λv af=>v= .agg #[ab (ws.getD 0 0),ab (ws.getD 1 0),ab (ws.getD 2 0),ab (ws.getD 3 0)]/\bL h af:=by
 refine ajg _ ?_;unfold Wb;refine bP λae aa f1 aH aD=>?_;have eD:=r.bA aD;refine(Jp eD 0).mono ?_;rintro _ ad ⟨rfl,rfl⟩;refine⟨_,rfl,(Jp eD 1).mono ?_⟩;rintro _ an ⟨rfl,rfl⟩;refine⟨_,rfl,(Jp eD 2).mono ?_⟩;rintro _ aJ ⟨rfl,rfl⟩;refine⟨_,rfl,(Jp eD 3).mono ?_⟩;rintro _ aR ⟨rfl,rfl⟩;refine⟨_,rfl,iH aD f1 aH rfl λbw h_ cc _=>⟨_,az cc rfl,_,az cc rfl,_,az cc rfl,_,az cc rfl,rfl,h_⟩⟩
theorem Wc {k:Nat}(ah:k<=3):ny ((2 ^ k:Nat):Int)=((2 ^ k:Nat):Int):=by
 have:=Wd (n:=((2 ^ k:Nat):Int)) (j:=k) (by omega) (by simp) (by
  have:k=0∨k=1∨k=2∨k=3:=by omega
  rcases this with rfl|rfl|rfl|rfl<;>decide)
 rw[this];simp
theorem ajh {T:TypeId}{m:jQ}{R:dY}{a8:List dk}{es:ao}{h:ak}(M:c8 T m R a8 es h)(h0:1<=m.cx 0){k K:Nat}(ah:k<=3)(eL:1<=K/\K<=16)(cO:aF)(a b c d:aE) :
 aq 96 [bm cO,bm ⟨m.b,0⟩,U 0,U ((2 ^ k:Nat):Int),U K,.agg #[ab a,ab b,ab c,ab d]] h λv af=>∃cP,v= .tuple #[bm ⟨cP,0⟩,U 0]/\h cP=none/\af cP=some (.cells #[bm cO,bm ⟨m.b,0⟩,U 0,U ((2 ^ k:Nat):Int),U K,ab a,ab b,ab c,ab d] 224 (0,0))/\bL h af:=by
 have sd:1<=2 ^ k:=aEf;have se:2 ^ k<=2 ^ 3:=aDy (by decide) ah;refine aji _ _ _ _ _ _ _ _ _ ?_;unfold We;refine bP λae aa f1 aH aD=>b3 (gT) (b3 (show decide ((128:Int)<((2 ^ k:Nat):Int))=false from gT) ?_);have hw:=Uv ((2 ^ k:Nat):Int) (by omega);rw[Wc ah] at hw;refine hw.to λad aB=>⟨_,rfl,b3 (show(!decide (((2 ^ k:Nat):Int)=((2 ^ k:Nat):Int)))=false by simp) (b3 (show decide ((K:Int)<1)=false from gT) (b3 (show decide ((16:Int)<(K:Int))=false from gT) ?_))⟩;refine(tZ (M.bA (aD.trans aB)) (r:=0) M.fl.1).mono ?_;rintro _ an ⟨rfl,rfl⟩;have a_:=aB.get aH;refine⟨_,rfl,b3 (show decide ((m.cx 0:Int)=0)=false from gT) ⟨_,az a_ rfl,_,az a_ rfl,_,az a_ rfl,_,az a_ rfl,bP λax aJ f4 b6 bd=>⟨ax,rfl,(aD.trans aB).free f4,b6,(aD.trans aB).trans bd⟩⟩⟩
theorem ajj {T:TypeId}{m:jQ}{R:dY}{a8:List dk}{es:ao}{h:ak}(M:c8 T m R a8 es h)(h0:1<=m.cx 0){k K:Nat}(ah:k<=3)(eL:1<=K/\K<=16)(cO:aF)(a b c d:aE) :
 aq 98 [bm cO,bm ⟨m.b,0⟩,U 0,U ((2 ^ k:Nat):Int),U K,.agg #[ab a,ab b,ab c,ab d]] h λv af=>∃cP,v= .tuple #[bm ⟨cP,0⟩,U 0]/\h cP=none/\af cP=some (.cells #[bm cO,bm ⟨m.b,0⟩,U 0,U ((2 ^ k:Nat):Int),U K,ab a,ab b,ab c,ab d] 238 (0,0))/\bL h af:=by
 have sd:1<=2 ^ k:=aEf;have se:2 ^ k<=2 ^ 3:=aDy (by decide) ah;refine ajk _ _ _ _ _ _ _ _ _ ?_;unfold Wf;refine bP λae aa f1 aH aD=>b3 (gT) (b3 (show decide ((128:Int)<((2 ^ k:Nat):Int))=false from gT) ?_);have hw:=Oc (n:=((2 ^ k:Nat):Int)) (by omega);rw[Wc ah] at hw;refine hw.to λad aB=>⟨_,rfl,b3 (show(!decide (((2 ^ k:Nat):Int)=((2 ^ k:Nat):Int)))=false by simp) (b3 (show decide ((K:Int)<1)=false from gT) (b3 (show decide ((16:Int)<(K:Int))=false from gT) ?_))⟩;refine(ux (M.bA (aD.trans aB)) (r:=0) M.fl.1).mono ?_;rintro _ an ⟨rfl,rfl⟩;have a_:=aB.get aH;refine⟨_,rfl,b3 (show decide ((m.cx 0:Int)=0)=false from gT) ⟨_,az a_ rfl,_,az a_ rfl,_,az a_ rfl,_,az a_ rfl,bP λax aJ f4 b6 bd=>⟨ax,rfl,(aD.trans aB).free f4,b6,(aD.trans aB).trans bd⟩⟩⟩
end Go.Proofs.Tryz
namespace Go.Proofs.Tryz
open Go Go.cR Go.RowKit
set_option maxRecDepth 8000
def Fq (x:km)(mR:Nat):km:=⟨mR,x.a,x.b,x.c,x.d⟩
set_option maxHeartbeats 1000000 in
theorem Wg {n:Int}(ay: -9223372036854775808<=n)(aA:n<=9223372036854775807){h:ak}{ed:ao}{ws:List aE}(sj:e4 ab h ed ws)(Od:ws.length*8<=140737488355328) :
 aq 43 [U n,aZ ed] h λv af=>∃(B:j4) (x:km) (C:mn) (mR:Nat) (V:j5),v= .tuple #[.agg #[bm ⟨B.m.b,0⟩,bm ⟨B.cO,0⟩,bm ⟨x.cP,0⟩,bm ⟨C.m.b,0⟩,bm ⟨C.cO,0⟩,bm ⟨mR,0⟩],.bool true]/\ll (dg n) B (iM n x) x/\lW (dg n) C (iM n x) (Fq x mR)/\lK h (dg n) ws B (iM n x) x C (Fq x mR) 0 .nil zP [] gy gy V af:=by
 have ho:=kS n (n:=4) (by decide);have iz:=kS (n.tdiv 4) (n:=4) (by decide);have zN:=kS (n.tdiv 16) (n:=4) (by decide);have rm:=kS (n.tdiv 64) (n:=3) (by decide);have aBS:=kS (n.tdiv 192) (n:=13) (by decide);have Nv:=kS (n.tdiv 2496) (n:=2) (by decide);have o:=Oa n;have hm:(dg n).m=1+dN n 4:=rfl;have aV:(dg n).s=1+dN (n.tdiv 64) 3:=rfl;have bG:(dg n).t=4+dN (n.tdiv 192) 13:=rfl;have ajl:(dg n).L=1+dN (n.tdiv 2496) 2:=rfl;have bc:(dg n).f=1:=rfl;have jw:∀i,(dg n).E i=jJ (hL ((dg n).m-2*i) (dg n).s (dg n).t):=λ_=>rfl;have rn:=λx=>ai7 n x;have iL:∀x,(iM n x).sp=1+dN (n.tdiv 16) 4:=λ_=>rfl;have gf:∀x,(iM n x).T=2 ^ dN n 4:=λ_=>rfl;have eL:∀x,(iM n x).K=1+dN (n.tdiv 4) 4:=λ_=>rfl;have lL:∀x t key,(iM n x).pl t key=ql x.a x.b x.c x.d (iM n x).T t key:=λ_ _ _=>rfl;have fj:n7 (dg n).m (dg n).s (dg n).t (dg n).L:=o.st;refine ajm _ _ ?_;unfold Wh;refine bP λae aa f1 aH aD=>?_;refine(IY ay aA).to λad aB=>⟨_,_,_,rfl,bP λax an f3 b7 aG=>?_⟩;have f30:=aD.free (aB.free f3);refine iH ((aD.trans aB).trans aG) f30 b7 rfl λaJ bd b6 dq=>⟨_,az b6 rfl,_,az b6 rfl,_,az b6 rfl,?_⟩;have pO:aJ ae=_:=(dq ae λe=>by rw[<-e,aB.get aH] at f3;cases f3).trans (aG.get (aB.get aH));refine(Nw ay aA).to λaR bF=>⟨_,_,_,_,rfl,bP λaM bj f6 dP cn=>?_⟩;have xK:=(bd.trans bF).trans cn;have f60:=bd.free (bF.free f6);refine iH xK f60 dP rfl λbU c3 fa eF=>⟨_,az fa rfl,_,az fa rfl,_,az fa rfl,_,az fa rfl,bP λbM bR f8 fO eO=>?_⟩;have fq:∀ {b:Nat} {e7:Obj},aJ b=some e7->bU b=some e7:=λar=>(eF _ λe=>by rw[e] at ar;have:=bF.get ar;rw[f6] at this;cases this).trans (cn.get (bF.get ar));refine iH (c3.trans eO) (c3.free f8) fO rfl λb9 en gm e3=>?_;have gz:∀ {b:Nat} {e7:Obj},bU b=some e7->b9 b=some e7:=λar=>(e3 _ λe=>by rw[e,f8] at ar;cases ar).trans (eO.get ar);have uy:=gz (fq b6);have oh:=gz (fq pO);have Oe:=gz fa;refine⟨_,az uy rfl,_,az gm rfl,_,az gm rfl,_,az gm rfl,_,az gm rfl,?_⟩;refine(ajn fj b9).mono ?_;rintro _ cp ⟨s1,rfl,cy,eZ⟩;refine⟨s1,rfl,⟨az (eZ.get uy) rfl,trivial⟩,bP λb1 cf f11 mr gE=>?_⟩;have uz:=(en.trans eZ).trans gE;have e7:c4 eo h cf ⟨some ⟨b1,0⟩,1,1,none⟩ [((1+dN (n.tdiv 16) 4:Nat):Int)]:=c4.qs (en.free (eZ.free f11)) mr rfl rfl;have kq:=Wi (dg n).m (dg n).s (dg n).t (dg n).L (dg n).L;refine c4.app xL Cj e7 (cy.bA gE).rd (λb ar=>uz.free ar) (by simp[kq];omega) (by decide) ?_;intro s2 bN gP Wj aBT aBU;have zQ:=zR e7 uz Wj;have fr:∀ {b:Nat} {e7:Obj},b9 b=some e7->bN b=some e7:=λ{b Of} ar=>by
  have Wk:=gE.get (eZ.get ar);rw[Wj b (by rw[Wk];simp) λq aj e=>(by cases aj;have:=eZ.get ar;rw[show b=b1 from e,f11] at this;cases this),Wk]
 rw[show [((1+dN (n.tdiv 16) 4:Nat):Int)]++sk (dg n).m (dg n).s (dg n).t (dg n).L (dg n).L=((1+dN (n.tdiv 16) 4:Nat):Int)::sk (dg n).m (dg n).s (dg n).t (dg n).L (dg n).L from rfl,Wl] at gP;have aK:=Wm (1+dN (n.tdiv 16) 4) (dg n).m (dg n).s (dg n).t (dg n).L (dg n).L;have xM:∀z∈s7 (1+dN (n.tdiv 16) 4) (dg n).m (dg n).s (dg n).t (dg n).L (dg n).L,1<=z/\z<=4096:=by
  intro z Og;unfold s7 at Og;simp only[aEr,List.mem_flatMap,aDT] at Og;have aP:∀a,a<=8->1<=2 ^ a/\2 ^ a<=256:=λa bY=>⟨aEf,aDy (n:=2) (by decide) bY⟩;rcases Og with rfl|rfl|⟨i,_,hi⟩
  .omega
  .have:=aP ((dg n).m-2*((dg n).L-1)) (by omega);omega
  .unfold xN at hi;simp only[aEr,List.not_mem_nil,or_false] at hi;rcases hi with rfl|rfl|rfl
   .have aa:=aP ((dg n).m-2*i) (by omega);rw[aD_];generalize 2 ^ ((dg n).m-2*i)=y at *;have a_:(dg n).s*(y*2-1)<=8*511:=aDP (by omega) (by omega);have b7:1*1<=(dg n).s*(y*2-1):=aDP (by omega) (by omega);omega
   .omega
   .have:=aP (jJ (hL ((dg n).m-2*i) (dg n).s (dg n).t)) (o.gS i).E;omega
 refine(ajo gP.rd (by omega) (by omega) xM).mono ?_;rintro _ dB ⟨pP,mm,rfl,M,mO,pf,Wn,ia⟩;refine⟨some ⟨mm.b,0⟩,_,rfl,?_⟩;refine(ajp (gP.bA ia).rd (by omega) (by omega) xM).mono ?_;rintro _ cC ⟨pH,rfl,M2,Oh,uA,Jq,kD⟩;have vW:=ia.trans kD;have Fs:=vW.get (fr Oe);refine⟨some ⟨pH.b,0⟩,_,rfl,b3 rfl (b3 rfl ⟨_,az Fs rfl,_,az Fs rfl,_,az Fs rfl,_,az Fs rfl,?_⟩)⟩;have Jr:=zQ.trans vW;refine(ajq (sj.bA Jr) Od).mono ?_;rintro _ dT ⟨c5,tb,ef,rfl,ajr,Js,Ft,jK⟩;have Jt:=jK.get Fs;refine⟨some ⟨tb,0⟩,rfl,⟨az Jt rfl,az Jt rfl,az Jt rfl,az Jt rfl,trivial⟩,?_⟩;have ajs:=kD.trans jK;have ajt:=M.bA ajs;have pQ:∀i,i<(dg n).L->q8 mm ((dg n).ew i) ((dg n).base i):=λi hi=>by
  have iX:(dg n).base i=2+3*i+0:=by unfold cq.base;omega
  rw[iX];refine⟨by omega,by rw[mO,aK];omega,?_,?_,?_,rfl⟩
  .rw[pf,zS _ _ _ _ _ _ i 0 hi (by decide)];rfl
  .rw[pf,show 2+3*i+0+1=2+3*i+1 by omega,zS _ _ _ _ _ _ i 1 hi (by decide)];rfl
  .rw[pf,show 2+3*i+0+2=2+3*i+2 by omega,zS _ _ _ _ _ _ i 2 hi (by decide)];rfl
 have Fu:ef≠tb->dT ef≠none:=λdA=>(Ft dA).2;have Fv:¬bS mm ⟨none,0,0,none⟩ tb:=λOi=>(M.bA kD).dK Oi Js;have Oj:ef≠tb->¬bS mm ⟨none,0,0,none⟩ ef:=λdA Oi=>(M.bA kD).dK Oi (Ft dA).1;refine(aju (G:=dg n) (u:=0) o pQ (by rw[mO,aK];show 1<3*(dg n).L+2;omega) (by rw[pf];rfl) ajt ajr Fu Fv Oj).mono ?_;rintro _ cK ⟨B,rfl,xO,Ck,Ok,qq,ajv,Fw,lO⟩;have Wo:=Jr.trans jK;have Ju:=Wo.trans lO;have Jv:=lO.get (jK.get (vW.get (fr gm)));refine⟨some ⟨B.cO,0⟩,_,rfl,_,az Jv rfl,_,az Jv rfl,_,az Jv rfl,_,az Jv rfl,bP λdU du f17 pG iQ=>?_⟩;have Wp:=M2.bA ((jK.trans lO).trans iQ);have ajw:∀i,i<(dg n).L->q8 pH ((dg n).ew i) ((dg n).base i):=λi hi=>by
  have iX:(dg n).base i=2+3*i+0:=by unfold cq.base;omega
  rw[iX];refine⟨by omega,by rw[Oh,aK];omega,?_,?_,?_,rfl⟩
  .rw[uA,zS _ _ _ _ _ _ i 0 hi (by decide)];rfl
  .rw[uA,show 2+3*i+0+1=2+3*i+1 by omega,zS _ _ _ _ _ _ i 1 hi (by decide)];rfl
  .rw[uA,show 2+3*i+0+2=2+3*i+2 by omega,zS _ _ _ _ _ _ i 2 hi (by decide)];rfl
 have vX:∀q,ed.q=some q->0<ws.length->h q.b≠none:=λq aj aT=>sj.there aj aT;have vY:=Ju.trans iQ;refine(ajx (G:=dg n) (u:=0) o ajw (by rw[Oh,aK];show 1<3*(dg n).L+2;omega) (by rw[uA];rfl) Wp (sj.bA vY) pG (λhm=>(M2.bA (jK.trans lO)).dK hm f17) λq aj aT=>⟨λhm=>vX q aj aT ((zQ.trans ia).free (Jq _ hm)),λe=>vX q aj aT (e▸Ju.free f17)⟩).mono ?_;rintro _ ec ⟨C,V,rfl,Fx,ajy,Wq,ajz,vZ,ajA,ajB,nI⟩;have Ol:=vY.trans nI;have Om:=nI.get (iQ.get (lO.get (jK.get (vW.get (fr uy)))));refine⟨some ⟨C.cO,0⟩,_,rfl,b3 rfl (b3 rfl ⟨_,az Om rfl,_,az Om rfl,?_⟩)⟩;refine(ajc (sj.bA Ol)).mono ?_;rintro _ ds ⟨rfl,nk⟩;have On:=nk.get Om;refine⟨_,_,_,_,rfl,⟨az On rfl,trivial⟩,⟨az On rfl,trivial⟩,?_⟩;have ajC:=(iQ.trans nI).trans nk;have Oo:=qq.bA o ajC;have ajD:B.m.cx 0=1+dN (n.tdiv 16) 4:=by rw[xO,pf];rfl
 have rp:=ajh Oo.mem (by omega) (k:=dN n 4) (K:=1+dN (n.tdiv 4) 4) (by omega) (by omega) ⟨B.cO,0⟩ (ws.getD 0 0) (ws.getD 1 0) (ws.getD 2 0) (ws.getD 3 0);rw[xO] at rp;refine rp.mono ?_;rintro _ ej ⟨cP,rfl,Jw,Wr,oi⟩;have Oq:=oi.get On;refine⟨some ⟨cP,0⟩,_,rfl,_,az Oq rfl,_,az Oq rfl,?_⟩;have zT:=(Ol.trans nk).trans oi;refine(ajf (sj.bA zT)).mono ?_;rintro _ gh ⟨rfl,lr⟩;have Ws:=lr.get Oq;refine⟨_,_,_,_,rfl,⟨az Ws rfl,trivial⟩,⟨az Ws rfl,trivial⟩,?_⟩;have Wt:=((nI.trans nk).trans oi).trans lr;refine(ajj (Wp.bA Wt) (by rw[uA];show 1<=1+dN (n.tdiv 16) 4;omega) (k:=dN n 4) (K:=1+dN (n.tdiv 4) 4) (by omega) (by omega) ⟨C.cO,0⟩ (ws.getD 0 0) (ws.getD 1 0) (ws.getD 2 0) (ws.getD 3 0)).mono ?_;rintro _ eB ⟨mR,rfl,Jx,ajE,pq⟩;have ajF:=(Wt.trans pq).get (iQ.get (lO.get (jK.get (vW.get (fr oh)))));have Wu:=(zT.trans lr).trans pq;refine⟨some ⟨mR,0⟩,_,rfl,dF rfl (dF rfl ?_)⟩;refine iH Wu f1 ajF rfl λeR zU sf s8=>⟨_,az sf rfl,_,az sf rfl,_,az sf rfl,_,az sf rfl,_,az sf rfl,_,az sf rfl,?_⟩;have ajG:h cP=none:=((Ol.trans nk)).free Jw;have Ot:∀y,cV (dg n) B gy gy y->h y=none:=by
  rintro y (ai|⟨p,ai⟩)
  .rw[xO] at ai;exact zQ.free (Wn y ai)
  .by_cases aS:p= .tb
   .subst aS;have ai:y=B.tb:=ai;rw[ai,Ck];exact Jr.free Js
   .by_cases aY:p= .ef
    .subst aY;have aa:=ai.1;have ad:=ai.2;rw[Ok] at aa ad;rw[Ck] at ad;rw[aa];exact Jr.free (Ft ad).1
    .exact Wo.free (Fw p y aS aY ai)
 have oj:=(oi.trans lr).trans pq;have ajH:=Oo.bA o oj;have ajI:=(lr.trans pq).get Wr;have ajJ:=vZ.bA o (nk.trans oj);have Wv:∀z,cV (dg n) B gy gy z->cK z≠none:=λz bn=>qq.mT o bn;have Ou:∀z,dh C (dg n).L V z->bS pH gy z∨cK z=none:=by
  rintro z (hm|⟨p,bn⟩)
  .rw[Fx,ajz] at hm;exact .inl hm
  .by_cases c:p= .tb
   .subst c;rw[show z=dU from Eq.trans bn ajy];exact .inr f17
   .exact .inr (iQ.free (ajB p z c bn))
 have ajK:∀z,cV (dg n) B gy gy z->¬bS pH gy z:=λz bn hm=>by
  rcases bn with ai|⟨p,ai⟩
  .rw[xO] at ai;exact M.dK ai (Jq z hm)
  .have Fy:=M2.dK hm;by_cases aS:p= .tb
   .subst aS;rw[show z=tb from Eq.trans ai Ck] at Fy;exact Fy Js
   .by_cases aY:p= .ef
    .subst aY;have aa:=ai.1;have ad:=ai.2;rw[Ok] at aa ad;rw[Ck] at ad;rw[aa] at Fy;exact Fy (Ft ad).1
    .exact Fy (jK.free (Fw p z aS aY ai))
 have Ww:cK cP=none:=iQ.free (nI.free (nk.free Jw));have Jy:cK mR=none:=iQ.free (nI.free (nk.free (oi.free (lr.free Jx))));have Ov:=lO.get (jK.get (vW.get (fr oh)));have ajL:lK h (dg n) ws B (iM n ⟨cP,ws.getD 0 0,ws.getD 1 0,ws.getD 2 0,ws.getD 3 0⟩) ⟨cP,ws.getD 0 0,ws.getD 1 0,ws.getD 2 0,ws.getD 3 0⟩ C (Fq ⟨cP,ws.getD 0 0,ws.getD 1 0,ws.getD 2 0,ws.getD 3 0⟩ mR) 0 .nil zP [] gy gy V eB:=by
  refine⟨⟨ajH,⟨lk.zero (λ_ _=>rfl) rfl,rfl,rfl⟩,rfl,rfl,?_,λbc=>Oo.mT o bc Jw⟩,⟨ajJ,⟨lk.zero (λ_ _=>rfl) rfl,rfl,rfl⟩,rfl,rfl,?_,λbc=>(vZ.bA o ((nk.trans oi).trans lr)).mT o bc Jx,λq aj aT e=>?_,oe.zero λ_ _=>rfl,λ_=>aDt _⟩,?_,?_,?_,λq aj aT=>vX q (by rw[Wq] at aj;exact aj) aT,Wu⟩
  .show eB cP=_;rw[ajI];unfold I1;rw[gf,eL,xO]
  .show eB mR=_;rw[ajE];unfold Ow;rw[gf,eL,Fx];rfl
  .rw[Wq] at aj;exact vX q aj aT (e▸(zT.trans lr).free Jx)
  .rintro z (bn|bn) (aj|aj)
   .rcases Ou z aj with hm|my
    .exact ajK z bn hm
    .exact Wv z bn my
   .exact Wv z bn (by rw[show z=mR from aj];exact Jy)
   .exact vZ.mT o aj (by rw[show z=cP from bn];exact nk.free Jw)
   .have:=lr.get Wr;rw[show cP=mR from (show z=cP from bn).symm.trans aj,Jx] at this;cases this
  .rintro z (bn|rfl)
   .exact Ot z bn
   .exact ajG
  .rintro z (bn|bn)
   .rcases Ou z bn with hm|my
    .exact(zQ.trans ia).free (Jq z hm)
    .exact Ju.free my
   .rw[show z=mR from bn];exact Ju.free Jy
 refine⟨B,⟨cP,ws.getD 0 0,ws.getD 1 0,ws.getD 2 0,ws.getD 3 0⟩,C,mR,V,by rw[xO,Fx];rfl,⟨rn _,ajv,⟨dN n 4,by omega,gf _⟩,lL _,by rw[xO,mO,aK];omega,by rw[ajD,iL],by rw[eL];omega⟩,⟨rn _,ajA,⟨dN n 4,by omega,gf _⟩,λ_ _=>rfl,by rw[Fx,Oh,aK];omega,by rw[Fx,uA];rfl,by rw[eL];omega⟩,ajL.off f1 ?_ ?_ s8⟩
 .rintro (bn|bn)
  .rcases bn with ai|⟨p,ai⟩
   .rw[xO] at ai;have bN:=Wn ae ai;rw[fr oh] at bN;cases bN
   .by_cases aS:p= .tb
    .subst aS;have bN:=vW.get (fr oh);rw[show ae=tb from Eq.trans ai Ck,Js] at bN;cases bN
    .by_cases aY:p= .ef
     .subst aY;have aa:=ai.1;have ad:=ai.2;rw[Ok] at aa ad;rw[Ck] at ad;have bN:=vW.get (fr oh);rw[aa,(Ft ad).1] at bN;cases bN
     .have dT:=Fw p ae aS aY ai;rw[jK.get (vW.get (fr oh))] at dT;cases dT
  .have bn:ae=cP:=bn;rw[<-bn,Ov] at Ww;cases Ww
 .rintro (bn|bn)
  .rcases Ou ae bn with hm|my
   .have:=Jq ae hm;rw[ia.get (fr oh)] at this;cases this
   .rw[Ov] at my;cases my
  .have bn:ae=mR:=bn;rw[<-bn,Ov] at Jy;cases Jy
end Go.Proofs.Tryz
namespace Go.cR
open Go.Proofs.Tryz
structure gW (G:cq)(c:Nat)(S:c7):Prop where
 live:∃A,Live G S A
 Cl:j2 G S
 ids:(S.ids 0).length<=c
section
variable {G:cq} {w:Nat->aE} {X:eE}
theorem gW.le {c cr:Nat}{S:c7}(f:gW G c S)(h:c<=cr):gW G cr S:=⟨f.live,f.Cl,aE_ f.ids h⟩
theorem gW.acc (o:G.dt)(eg:G.L=1){a c:Nat}{S:c7}(p:iE G w a S)(bY:a<=100000)(f:gW G c S){op:fv}{x cr:Nat}(ai:x<2 ^ G.m)(a1:(meets op (cT x 0) (S.ids 0)).length<=cr)(bG:cr<=G.t):gW G cr (de G w op x S).1:=by
 obtain⟨A,gB,K,n⟩:=f.live;have hu:=p.us;have aa:2*G.L*a<=2*4*100000:=aDP (by omega) bY;have h0:(de G w op x S).1.ids 0=meets op (cT x 0) (S.ids 0):=by
  unfold de;rw[show G.L-1=0 by omega];rfl
 obtain⟨t_,jh,_,_,fin⟩:=UN o p.us (by omega) p.e2 p.n5 ai (BQ o ai) n (.inr λh b2=>⟨f.Cl h b2,by
  have:h=0:=by omega
  subst this;rw[h0];omega⟩)
 exact⟨⟨_,_,_,jh⟩,fin,by rw[h0];exact a1⟩
theorem gW.look (o:G.dt)(eg:G.L=1){a c:Nat}{S:c7}(p:iE G w a S)(bY:a<=100000)(f:gW G c S){x:Nat}(ai:x<2 ^ G.m)(bG:c<=G.t):gW G c (de G w .look x S).1:=f.acc o eg p bY ai f.ids bG
theorem gW.drop (o:G.dt)(eg:G.L=1){a c:Nat}{S:c7}(p:iE G w a S)(bY:a<=100000)(f:gW G c S){x:Nat}(ai:x<2 ^ G.m)(bG:c<=G.t):gW G c (de G w .drop x S).1:=f.acc o eg p bY ai f.ids bG
theorem gW.put (o:G.dt)(eg:G.L=1){a c:Nat}{S:c7}(p:iE G w a S)(bY:a<=100000)(f:gW G c S){x:Nat}(ai:x<2 ^ G.m)(d:c_)(bG:c+1<=G.t):gW G (c+1) (de G w (.put d) x S).1 :=
 f.acc o eg p bY ai (by have:=f.ids;simp only[meets];split<;>simp<;>omega) bG
theorem gW.ig (bc:G.f=1){c i:Nat}{om:cM}{S:c7}(f:gW G c S):gW G c (Go.cR.ig S (0,i) om):=⟨f.live.imp λ_ l=>l.ig bc,f.Cl,f.ids⟩
theorem gW.k6 (c:qi G X)(eg:G.L=1){b:Nat}(bG:b<=G.t):∀n a S,iE G w a S->a+n<=100000->gW G b S->gW G b (k6 G w n S)
 | 0,_,_,_,_,f=>f
 | n+1,a,S,p,h,f=>gW.k6 c eg bG n (a+1) _ (p.blank c.o (by omega)) (by omega) (f.look c.o eg p (by omega) (aD8 (by decide)) bG)
theorem gW.fo (c:qi G X)(eg:G.L=1):∀n i a b S e on eX,iE G w a S->a+n<=100000->b+n<=G.t->gW G b S->gW G (b+n) (fo G w X n i S e on eX).1
 | 0,_,_,_,_,_,_,_,_,_,_,f=>f
 | n+1,i,a,b,S,e,on,eX,p,h,bG,f=>by
  rw[show b+(n+1)=b+1+n by omega];cases on with
  | true =>
   have ar:X.bp (i%2) e.1<2 ^ G.m:=by rw[c.m];exact eE.ml c.fE (aEk _ (by decide)) _
   exact gW.fo c eg n (i+1) (a+1) (b+1) _ _ _ _ (p.acc c.o (by omega) ar) (by omega) (by omega) (f.put c.o eg p (by omega) ar (gb e) (by omega))
  | false=>exact gW.fo c eg n (i+1) (a+1) (b+1) _ e false eX (p.blank c.o (by omega)) (by omega) (by omega) ((f.look c.o eg p (by omega) (aD8 (by decide)) (by omega)).le (by omega))
theorem gW.m_ (c:qi G X)(eg:G.L=1):∀(l:List (Nat×c_)) a b S,iE G w a S->a+l.length<=100000->b+l.length<=G.t->(∀x∈l,x.1<2*X.T)->gW G b S->gW G (b+l.length) (m_ G w l S)
 | [],_,_,_,_,_,_,_,f=>f
 | (y,d)::l,a,b,S,p,h,bG,a1,f=>by
  have aT:((y,d)::l).length=l.length+1:=rfl;rw[aT] at h bG ⊢;have aC:y<2 ^ G.m:=by rw[c.m];exact a1 (y,d) (by simp)
  rw[show b+(l.length+1)=b+1+l.length by omega];exact gW.m_ c eg l (a+1) (b+1) _ (p.acc c.o (by omega) aC) (by omega) (by omega) (λx ai=>a1 x (by simp[ai])) (f.put c.o eg p (by omega) aC d (by omega))
theorem gW.ins (c:qi G X)(eg:G.L=1){a b:Nat}{S:c7}(p:iE G w a S)(bY:a+2*X.K<=100000)(bG:b+2*X.K<=G.t)(f:gW G b S)(key cell:aE)(on:Bool):gW G (b+2*X.K) (iy G w X key cell on S).1:=by
 obtain⟨aD,_⟩:=BU c.o c.fE c.m c.f X.K 0 a S (key,cell) on [] p (by omega);have Fa:=gW.fo c eg X.K 0 a b S (key,cell) on [] p (by omega) (by omega) f;have hlen:=EO (G:=G) (w:=w) (X:=X) X.K 0 S (key,cell) on [];have zJ:=EP (G:=G) (w:=w) c.fE X.K 0 S (key,cell) on [] (by simp);unfold iy;simp only;split
 .rename_i jR
  split
  .exact(gW.k6 c eg (by omega) X.K (a+X.K) _ (aD.ig c.f) (by omega) (Fa.ig c.f)).le (by omega)
  .have aT:=hlen jR;rw[aEW,aEX] at aT;have:=gW.m_ c eg _ (a+X.K) (b+X.K) _ aD (by rw[aE3,aT];omega) (by rw[aE3,aT];omega) (λx ai=>zJ x (List.mem_reverse.1 ai)) Fa;rw[aE3,aT] at this;exact this.le (by omega)
 .exact(gW.k6 c eg (by omega) X.K (a+X.K) _ aD (by omega) Fa).le (by omega)
theorem gW.find (c:qi G X)(eg:G.L=1){a b:Nat}{S:c7}(p:iE G w a S)(bY:a+2<=100000)(bG:b<=G.t)(f:gW G b S)(key:aE):gW G b (hg G w X key S).1:=by
 have gA:X.bp 0 key<2 ^ G.m:=by rw[c.m];exact eE.ml c.fE (by decide) _
 have ae:X.bp 1 key<2 ^ G.m:=by rw[c.m];exact eE.ml c.fE (by decide) _
 exact(f.look c.o eg p (by omega) gA bG).look c.o eg (p.acc c.o (by omega) gA) (by omega) ae bG
theorem gW.rem (c:qi G X)(eg:G.L=1){a b:Nat}{S:c7}(p:iE G w a S)(bY:a+2<=100000)(bG:b<=G.t)(f:gW G b S)(key:aE)(t:Int)(at_:aE)(on:Bool):gW G b (na G w X key t at_ on S):=by
 have h:gW G b (if on&&(t==0||t==1) then (de G w .drop (X.bp t.toNat key) S).1 else k5 G w S):=by
  split
  .rename_i h
   have ad:(t==0||t==1)=true:=(aEi _ _▸h).2;rw[Bool.or_eq_true,aFi,aFi] at ad;exact f.drop c.o eg p (by omega) (by rw[c.m];exact eE.ml c.fE (by omega) _) bG
  .exact f.look c.o eg p (by omega) (aD8 (by decide)) bG
 unfold na;simp only;split
 .exact h.ig c.f
 .exact h
theorem sR.zero (c:qi G X){S:c7}(jL:∀r i,S.R r i=fm):sR G X S (λ_=>none):=by
 intro _;refine⟨λ_=>none,⟨_,_,xP.zero jL⟩,⟨λn aK e he=>?_,λn jh e cc aa=>?_,λk v=>?_⟩,λi _=> .inl (jL 0 i)⟩
 .rw[BX aK] at he;cases he
 .rcases Np aa with ⟨_,h⟩|⟨i,_,_,h⟩
  .cases h
  .rw[jL] at h;cases h
 .constructor
  .intro h;cases h
  .rintro⟨n,aK⟩;rcases Np aK with ⟨_,h⟩|⟨i,_,_,h⟩
   .cases h
   .rw[jL] at h;cases h
end
end Go.cR
namespace Go.Proofs.Tryz
open Go Go.cR Go.RowKit
set_option maxRecDepth 8000
theorem ajM:fc prog 42 [] (.bool true):=by
 intro h;refine ajN ?_;unfold Wx;refine bP λae aa f1 aH aD=>?_;have sj:e4 ab aa ⟨some ⟨ae,0⟩,8,8,none⟩ [3,1,4,1,5,9,2,6]:=(c4.qs (f:=ab) (h0:=h) (l:=[3,1,4,1,5,9,2,6]) (n:=8) f1 aH rfl rfl).rd;refine(Wg (n:=22) (by decide) (by decide) sj (by decide)).mono ?_;rintro _ ad ⟨B,x,C,mR,V,rfl,F,_,T⟩;have R:=T.I;have Fw:=T.p0;have aB:=T.K;have eg:(dg 22).L=1:=rfl;have bG:(dg 22).t=4:=rfl;have eL:(iM 22 x).K=2:=rfl;have iL:(iM 22 x).sp=2:=rfl;have ajO:sR (dg 22) (iM 22 x) zP (λ_=>none):=sR.zero F.c λ_ _=>rfl;have ajP:gW (dg 22) 0 zP:=⟨⟨_,_,_,xP.zero (λ_ _=>rfl)⟩,λ_ _=>rfl,aDt _⟩;generalize hw:(λp=>List.getD [3,1,4,1,5,9,2,6] p (0:aE))=w at *;generalize Wy:([3,1,4,1,5,9,2,6]:List aE)=ws at *;subst hw;generalize dg 22=G at *;generalize iM 22 x=X at *;have zQ:=aD.trans aB;have ajQ:∀y,cV G B gy gy y->h y=none:=λy aC=>aD.free (Fw y (.inl aC));refine⟨some _,some _,some _,some _,some _,some _,_,rfl,bP λax an f3 b7 aG=>?_⟩;have ajR:=zQ.trans aG;refine iH ajR (zQ.free f3) b7 rfl λaJ bd b6 dq=>b3 rfl ⟨some ⟨x.cP,0⟩,az b6 rfl,?_⟩;have kU:=R.loc F f3 aG dq;have jT:¬cV G B gy gy ax:=R.r.out F.c.o f3;refine(U9 F kU (by omega) (by simp only[cW.jt,cW.Jz,cW.JA,cW.JB];omega) 5 1 true).mono ?_;rintro _ aR ⟨aBV,s9,aBW,rfl,jV,v5⟩;obtain⟨Fz,ajS⟩:=ahL (key:=5) (cell:=1) (on:=true) F.c kU.p (by omega) ajO (λ_=>rfl);have Ox:=gW.ins F.c eg kU.p (by omega) (by omega) ajP 5 1 true;rw[aEX,eL] at Ox;have cG:=v5.get b6 jT;have bh:=v5.out (by rw[b6];simp) jT;have b4:(iy G (wf ws) X 5 1 true zP).2=true:=by
  cases a1:(iy G (wf ws) X 5 1 true zP).2 with
  | true=>rfl
  | false =>
   have:=Nh ((ajS Ox.Cl).2 a1) 0 (by omega);cases this
 rw[b4] at Fz ⊢;obtain⟨Cm,zV⟩:=v5.bA bd ajQ;generalize (iy G (wf ws) X 5 1 true zP).1=hr at *;have Fz:sR G X hr (λy=>if y=5 then some 1 else none):=Fz;refine⟨_,rfl,some ⟨x.cP,0⟩,az cG rfl,(Ny F jV (by omega) (by simp only[cW.jt,cW.Jz,cW.JA,cW.JB];omega) 5).mono ?_⟩;rintro _ bj ⟨aBX,v7,ajT,rfl,mv,v6⟩;have Wz:=gW.find F.c eg jV.p (by omega) (by omega) Ox 5;obtain⟨_,ajU⟩:=U2 F.c jV.p (by omega) Fz (key:=5) (by decide);have WA:=ahM F.c jV.p (by omega) Fz (key:=5) (by decide) true;obtain⟨s_,ajV⟩:=v6.bA Cm zV;have dP:=v6.get cG bh;have bB:=v6.out (by rw[cG];simp) bh;have ajW:∃t at_,(hg G (wf ws) X 5 hr).2=(t,at_,1)/\0<=t:=by
  rcases ajU Wz.Cl with ⟨v,t,at_,aa,ad,an⟩|⟨aa,_⟩
  .rw[aDr rfl] at aa;cases aa;exact⟨t,at_,ad,an⟩
  .rw[aDr rfl] at aa;cases aa
 obtain⟨t,at_,aV,lu⟩:=ajW;rw[aV] at WA ⊢;have Nv:=mv.p;generalize (hg G (wf ws) X 5 hr).1=lv at *;refine⟨_,_,_,rfl,bP λaM bU f7 fa c3=>?_⟩;refine iH (s_.trans c3) (s_.free f7) fa rfl λbR eO fO e6=>?_;have s3:=mv.loc F f7 c3 e6;have d23:ax≠aM:=λe=>by rw[<-e,dP] at f7;cases f7
 have v8:bR ax=_:=(e6 ax d23).trans (c3.get dP);have qv:¬cV G B v7 ajT aM:=mv.r.out F.c.o f7;refine⟨some ⟨x.cP,0⟩,az v8 rfl,_,az fO rfl,_,az fO rfl,_,az fO rfl,(Va F s3 (by omega) (by simp only[cW.jt,cW.Jz,cW.JA,cW.JB];omega) 5 t at_ 1 true).mono ?_⟩;rintro _ b9 ⟨aBY,Cn,aBZ,rfl,nh,v9⟩;have ajX:=gW.rem F.c eg s3.p (by omega) (by omega) Wz 5 t at_ true;obtain⟨ajY,ajZ⟩:=v9.bA eO ajV;have uy:=v9.get v8 bB;have n29:=v9.out (by rw[v8];simp) bB;have Oe:=v9.get fO qv;have n39:=v9.out (by rw[fO];simp) qv;generalize na G (wf ws) X 5 t at_ true lv=xQ at *;refine⟨rfl,some ⟨x.cP,0⟩,az uy rfl,(Ny F nh (by omega) (by simp only[cW.jt,cW.Jz,cW.JA,cW.JB];omega) 5).mono ?_⟩;rintro _ cp ⟨aj0,aj1,aB0,rfl,JC,v10⟩;have aj2:=gW.find F.c eg nh.p (by omega) (by omega) ajX 5;obtain⟨_,aj3⟩:=U2 F.c nh.p (by omega) WA (key:=5) (by decide);obtain⟨WB,_⟩:=v10.bA ajY ajZ;have aj4:(hg G (wf ws) X 5 xQ).2=(-1,0,0):=by
  rcases aj3 aj2.Cl with ⟨v,t,at_,aa,_⟩|⟨_,ad⟩
  .have aa:(if (5:aE)=5 then none else if (5:aE)=5 then some (1:aE) else none)=some v:=aa;rw[aDr rfl] at aa;cases aa
  .exact ad
 rw[aj4];have JD:=v10.get Oe n39;refine⟨_,_,_,rfl,bP λbM cf f11 mr gE=>?_⟩;refine iH (WB.trans gE) (WB.free f11) mr rfl λbN jd ik gP=>?_;have WC:bN aM=_:=(gP aM λe=>by rw[<-e,JD] at f11;cases f11).trans (gE.get JD);exact dF rfl ⟨_,az WC rfl,dF rfl ⟨_,az WC rfl,dF (aDA lu) ⟨_,az ik rfl,rfl,jd⟩⟩⟩
end Go.Proofs.Tryz
namespace Go.cR
open Go Go.RowKit Go.ChangeShapes Go.WideShapes Go.ChangeAt
structure sS where
 op:Int
 key:aE
 cell:aE
 on:Bool
 lo: -9223372036854775808<=op
 hi:op<=9223372036854775807
def FA (x:sS):List Value:=[U x.op,ab x.key,ab x.cell,.bool x.on]
theorem xR (x:sS):(FA x).length=4:=rfl
section
variable {H:Type} {enc:TypeId×Value->H} {P:Program} {W:World} {base:Nat}
theorem aj5 {t e:TypeId}{gq:Array Field}{v:Value}{d:DataW H}{cN:List MemPlace}(bG:P.underlying t=some (.slice e))(he:P.underlying e=some (.struct gq))(a1:P.cellsOf e=4)
 (xS:gq.toList.map (λf=>(f.offset,P.cellsOf f.type,P.underlying f.type))=[(0,1,some (.int .i64)),(1,1,some (.int .u64)),(2,1,some (.int .u64)),(3,1,some .bool)])
 (nm:Value.okWide P W .any base t v) (b4:DataW.Trod enc P W 0 (λ_=>true) true t v d cN) :
 ∃(s:ao) (l:List sS),v=aZ s/\fR FA (rq W) s l/\((d= .nil/\l=[])∨∃el sp,d= .slice el sp/\el.length=l.length):=by
 have aV:gq.size=4:=by have:=congrArg List.length xS;simpa using this
 have dd:∀j:Nat,gq[j]? =gq.toList[j]?:=λj=>by simp
 have bc:∀(j:Nat) (k:Option IntKind),[some IntKind.i64,some .u64,some .u64,none][j]? =some k->∃f:Field,gq[j]? =some f/\f.offset=j/\P.cellsOf f.type=1/\P.underlying f.type=some (match k with|some k=> .int k|none=> .bool):=by
  intro j k ah;have aU:j<4:=(aES.1 ah).1;have WD:j<gq.toList.length:=by simpa [aV] using aU
  have aa:=congrArg (λl=>l[j]?) xS;simp only[List.getElem?_map,aDx WD,aEx] at aa;refine⟨gq.toList[j],by rw[dd,aDx WD],?_⟩;have an:j=0∨j=1∨j=2∨j=3:=by omega
  rcases an with rfl|rfl|rfl|rfl
  .cases ah;simp only[aDK,aEj,Prod.mk.injEq] at aa;exact aa
  .cases ah;simp only[aDK,aDJ,aEj,Prod.mk.injEq] at aa;exact aa
  .cases ah;simp only[aDK,aDJ,aEj,Prod.mk.injEq] at aa;exact aa
  .cases ah;simp only[aDK,aDJ,aEj,Prod.mk.injEq] at aa;exact aa
 obtain⟨s,l,aa,r,hw,ad⟩:=aj6 (ks:=[some .i64,some .u64,some .u64,none]) bG he a1 (by decide) aV bc nm b4;have key:∀x∈l,∃y:sS,FA y=x:=by
  intro x ai;obtain⟨hlen,b0⟩:=hw x ai;obtain⟨v0,g0,jx,rfl,l2⟩:=b0 0 (some .i64) rfl;obtain⟨v1,g1,ay,rfl,ji⟩:=b0 1 (some .u64) rfl;obtain⟨v2,g2,aA,rfl,h6⟩:=b0 2 (some .u64) rfl;obtain⟨v3,g3,aM,rfl⟩:=b0 3 none rfl;simp[Lit.wf,IntKind.min,IntKind.max,IntKind.signed,IntKind.bits] at l2 ji h6;refine⟨⟨jx,UInt64.ofNat ay.toNat,UInt64.ofNat aA.toNat,aM,by omega,by omega⟩,?_⟩
  match x,hlen with
  | [a,b,c,d],_ =>
   cases g0;cases g1;cases g2;cases g3;have t1:((UInt64.ofNat ay.toNat).toNat:Int)=ay:=by rw[aDw];omega
   have t2:((UInt64.ofNat aA.toNat).toNat:Int)=aA:=by rw[aDw];omega
   show [Value.int .i64 jx,Value.int .u64 ((UInt64.ofNat ay.toNat).toNat:Int),Value.int .u64 ((UInt64.ofNat aA.toNat).toNat:Int),Value.bool aM]=_;rw[t1,t2]
 classical
 let aj7:sS:=⟨0,0,0,false,by decide,by decide⟩;refine⟨s,l.map λx=>if ai:∃y:sS,FA y=x then Classical.choose ai else aj7,aa,r.map _ λx ai=>?_,?_⟩
 .rw[dif_pos (key x ai)];exact Classical.choose_spec (key x ai)
 .rcases ad with ⟨a,rfl⟩|⟨el,sp,a,b⟩
  .exact .inl ⟨a,rfl⟩
  .exact .inr ⟨el,sp,a,by simpa using b⟩
end
def aB1 (M:aE->Option aE)(i:Nat):List Nat:=(List.range i).filter λj=>(M (UInt64.ofNat j)).isSome

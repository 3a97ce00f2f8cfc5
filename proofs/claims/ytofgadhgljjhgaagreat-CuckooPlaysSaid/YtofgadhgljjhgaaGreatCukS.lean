import Derived.Test.YtofgadhgljjhgaaGreatCukU
import Derived.Test.YtofgadhgljjhgaaGreatStoN
import Derived.Test.YtofgadhgljjhgaaGreatShRec
namespace Go.Proofs.Tryz
open Go Go.cD Go.RowKit
set_option maxRecDepth 8000
theorem yF {c:Int}(aa: -9223372036854775808<=c)(ad:c<=9223372036854775807){n:Nat}(aH:0<n):eW prog 14 [U c,U n] (U (e_ c n)):=by
 intro h
 refine mh _ _ ?_
 unfold Ui
 refine cd (λca=>⟨by omega,?_,bL.refl h⟩) λdx=>⟨by omega,?_,bL.refl h⟩
 .have e:al (0-al (c+1))=((-(c+1)).toNat:Nat):=by rw[bf (n:=c+1) (by omega) (by omega),bf (by omega) (by omega)];omega
  rw[e];unfold e_;rw[if_pos ca]
  congr 1
 .obtain⟨k,rfl⟩:=Int.eq_ofNat_of_zero_le (show 0<=c by omega)
  unfold e_;rw[if_neg dx]
  congr 1
def eE (n:Int):cG:=Ee (1+e_ n 4) (1+e_ (n.tdiv 64) 3) (4+e_ (n.tdiv 192) 13) (1+e_ (n.tdiv 2496) 2)
noncomputable def o5 (n:Int)(x:ko):ek:=⟨2 ^ e_ n 4,pH x.a x.b x.c x.d (2 ^ e_ n 4),1+e_ (n.tdiv 4) 4,1+e_ (n.tdiv 16) 4⟩
theorem Uj (n:Int):(eE n).da:=by
 have aa:=mL n (n:=4) (by decide)
 have ad:=mL (n.tdiv 64) (n:=3) (by decide)
 have an:=mL (n.tdiv 192) (n:=13) (by decide)
 have aK:=mL (n.tdiv 2496) (n:=2) (by decide)
 exact agM (by omega) (by omega) (by omega) (by omega)
theorem agN (n:Int)(x:ko):pF (eE n) (o5 n x):=by
 have aa:=mL n (n:=4) (by decide)
 have an:=mL (n.tdiv 16) (n:=4) (by decide)
 have rp:1<=2 ^ e_ n 4:=Nat.one_le_two_pow
 have rq:2 ^ e_ n 4<=2 ^ 3:=Nat.pow_le_pow_right (by decide) (by omega)
 refine⟨Uj n,⟨rp,λt k=>L2 rp (by omega),by show 1<=1+e_ (n.tdiv 16) 4;omega⟩,?_,by show 2 ^ e_ n 4<=1000;omega,by show 1+e_ (n.tdiv 16) 4<=1000;omega,rfl⟩
 show 2 ^ (1+e_ n 4)=2*2 ^ e_ n 4
 rw[Nat.pow_add]
theorem agO {n:Int}(aa: -9223372036854775808<=n)(ad:n<=9223372036854775807):eW prog 26 [U n] (.agg #[U ((2 ^ e_ n 4:Nat):Int),U ((1+e_ (n.tdiv 4) 4:Nat):Int),U ((1+e_ (n.tdiv 16) 4:Nat):Int)]):=by
 intro h
 have gX:=mL n (n:=4) (by decide)
 have h9:=mL (n.tdiv 4) (n:=4) (by decide)
 have yP:=mL (n.tdiv 16) (n:=4) (by decide)
 have t1:=Ef (k:=4) (by decide) aa ad
 have t2:=Ef (k:=16) (by decide) aa ad
 refine yQ _ ?_
 unfold Uk
 refine bM λae Bj f1 aF aE=>⟨by decide,by decide,?_⟩
 rw[bf t1.1 t1.2,bf t2.1 t2.2]
 refine(yF aa ad (n:=4) (by decide)).to λg1 h_=>⟨_,rfl,by omega,?_⟩
 refine(yF t1.1 t1.2 (n:=4) (by decide)).to λg2 gx=>⟨_,rfl,?_⟩
 refine(yF t2.1 t2.2 (n:=4) (by decide)).to λg3 o6=>⟨_,rfl,?_⟩
 have Ul:=(h_.trans gx).trans o6
 have My:min (Int.toNat ((e_ n 4:Nat):Int)) 64=e_ n 4:=by omega
 have yR:2 ^ e_ n 4<=2 ^ 3:=Nat.pow_le_pow_right (by decide) (by omega)
 have agP:(2:Int) ^ e_ n 4=((2 ^ e_ n 4:Nat):Int):=by simp
 rw[My]
 refine jl (aE.trans Ul) f1 (Ul.get aF) rfl λg5 m_ cy _=>⟨_,az cy rfl,_,az cy rfl,_,az cy rfl,?_,m_⟩
 rw[Int.one_mul,agP]
 generalize 2 ^ e_ n 4=y at *
 rw[bf (n:=(y:Int)) (by omega) (by omega),bf (n:=1+((e_ (n.tdiv 4) 4:Nat):Int)) (by omega) (by omega),bf (n:=1+((e_ (n.tdiv 16) 4:Nat):Int)) (by omega) (by omega)]
 simp
theorem agQ {n b c:Int}(aa: -9223372036854775808<=n)(ad:n<=9223372036854775807):eW prog 29 [.agg #[U ((2 ^ e_ n 4:Nat):Int),U b,U c],U n] (v4 (eE n).m (eE n).s (eE n).t (eE n).L):=by
 intro h
 have gX:=mL n (n:=4) (by decide)
 have h9:=mL (n.tdiv 64) (n:=3) (by decide)
 have yP:=mL (n.tdiv 192) (n:=13) (by decide)
 have qB:=mL (n.tdiv 2496) (n:=2) (by decide)
 have t1:=Ef (k:=64) (by decide) aa ad
 have t2:=Ef (k:=192) (by decide) aa ad
 have t3:=Ef (k:=2496) (by decide) aa ad
 refine Bh _ _ _ _ ?_
 unfold Um
 refine bM λae Bj f1 aF aE=>bM λay rB f2 a8 aC=>⟨_,az (aC.get aF) rfl,by decide,by decide,by decide,?_⟩
 rw[bf t1.1 t1.2,bf t2.1 t2.2,bf t3.1 t3.2]
 have hQ:=aC.get aF
 refine(yF t1.1 t1.2 (n:=3) (by decide)).to λg2 gx=>⟨_,rfl,⟨az (gx.get hQ) rfl,trivial⟩,?_⟩
 refine(yF t2.1 t2.2 (n:=13) (by decide)).to λg3 o6=>⟨_,rfl,⟨az ((gx.trans o6).get hQ) rfl,trivial⟩,?_⟩
 refine(yF t3.1 t3.2 (n:=2) (by decide)).to λg4 uV=>⟨_,rfl,⟨az (((gx.trans o6).trans uV).get hQ) rfl,trivial⟩,?_⟩
 have Un:=(gx.trans o6).trans uV
 have yR:2 ^ e_ n 4<=2 ^ 3:=Nat.pow_le_pow_right (by decide) (by omega)
 refine jl ((aE.trans aC).trans Un) (aE.free f2) (Un.get a8) rfl λg5 m_ cy _=>⟨_,az cy rfl,_,az cy rfl,_,az cy rfl,_,az cy rfl,?_,m_⟩
 have hm:(2:Int) ^ (1+e_ n 4)=2*((2 ^ e_ n 4:Nat):Int):=by rw[Int.pow_add];simp
 show _=v4 (1+e_ n 4) ((1+e_ (n.tdiv 64) 3:Nat):Int) ((4+e_ (n.tdiv 192) 13:Nat):Int) (1+e_ (n.tdiv 2496) 2)
 unfold v4
 rw[hm]
 generalize 2 ^ e_ n 4=y at *
 rw[bf (n:=2*(y:Int)) (by omega) (by omega),bf (n:=1+((e_ (n.tdiv 64) 3:Nat):Int)) (by omega) (by omega),bf (n:=4+((e_ (n.tdiv 192) 13:Nat):Int)) (by omega) (by omega),bf (n:=1+((e_ (n.tdiv 2496) 2:Nat):Int)) (by omega) (by omega)]
 simp
def so (ws:List UInt64):Nat->Vector UInt64 4
 | 0=>#v[0,0,0,0]
 | i+1=>if h:i<4 then (so ws i).set i (ws.getD i 0) else so ws i
theorem Uo {ws:List UInt64}{i:Nat}(h:i<4):so ws (i+1)=(so ws i).set i (ws.getD i 0):=dif_pos h
theorem agR {ws:List UInt64}{i:Nat}(h:i<4)(aT:ws.length<=i):so ws (i+1)=so ws i:=by
 rw[Uo h,show ws.getD i 0=0 by simp[List.getD,List.getElem?_eq_none aT]]
 have:i=0∨i=1∨i=2∨i=3:=by omega
 rcases this with rfl|rfl|rfl|rfl<;>(simp only[so];rfl)
theorem agS (ws:List UInt64):so ws 4=#v[ws.getD 0 0,ws.getD 1 0,ws.getD 2 0,ws.getD 3 0]:=rfl
theorem agT {h:ak}{dQ:ar}{ws:List UInt64}(r:fi ab h dQ ws):ao 40 [bb dQ] h λv ah=>v= .agg #[ab (ws.getD 0 0),ab (ws.getD 1 0),ab (ws.getD 2 0),ab (ws.getD 3 0)]/\bL h ah:=by
 refine agU _ ?_
 unfold Up
 refine bM λae aa f1 aF aE=>bM λay ad f2 a8 aC=>?_
 have f20:=aE.free f2
 have d12:ae≠ay:=λe=>by rw[<-e,aF] at f2;cases f2
 have aT:=r.len
 refine⟨λs1 q1 aJ aw g bP=>dQ=s1/\(⟨ae,0⟩:aD)=q1/\(⟨ay,0⟩:aD)=aJ/\∃i:Nat,aw=i/\i<=4/\bP=4-i/\g ay=some (.cells (af.cells (.ws 4 (so ws i))).toArray 170 (0,0))/\g ae=ad ae/\bL h g,
  ⟨4,rfl,rfl,rfl,0,rfl,by omega,rfl,a8,rfl,aE.trans aC⟩,?_⟩
 rintro s1 q1 aJ aw g bP ⟨rfl,rfl,rfl,i,rfl,hi,rfl,g2,g1,cO⟩
 refine cd (λca=>?_) λdx=>?_
 .have Uq:i<4:=by omega
  refine cd (λBf=>?_) λwP=>⟨4-(i+1),by omega,rfl,rfl,rfl,i+1,bf (by omega) (by omega),by omega,rfl,by rw[agR Uq (by omega)];exact g2,g1,cO⟩
  refine(r.bD cO).cp (i:=i) (by omega) λq aj aZ=>⟨_,aZ,by omega,by omega,?_⟩
  rw[show 0+Int.toNat (i:Int)*1=i by simp]
  refine pQ cO f20 g2 (by omega) λbo hI Mz iE=>⟨4-(i+1),by omega,rfl,rfl,rfl,i+1,bf (by omega) (by omega),by omega,rfl,?_,(iE ae d12).trans g1,hI⟩
  rw[Uo Uq,show ws.getD i 0=ws[i]'(by omega) by simp[List.getD,show i<ws.length by omega]]
  exact Mz
 .have:i=4:=by omega
  subst this
  rw[agS] at g2
  refine⟨Int.NonNeg.mk _,Int.NonNeg.mk _,_,fb g2 (i:=0) (by decide),Int.NonNeg.mk _,Int.NonNeg.mk _,_,fb g2 (i:=1) (by decide),Int.NonNeg.mk _,Int.NonNeg.mk _,_,fb g2 (i:=2) (by decide),Int.NonNeg.mk _,Int.NonNeg.mk _,_,fb g2 (i:=3) (by decide),?_⟩
  exact jl cO f1 (g1.trans (aC.get aF)) rfl λbo hJ b4 _=>⟨_,az b4 rfl,_,az b4 rfl,_,az b4 rfl,_,az b4 rfl,rfl,hJ⟩
theorem H5 {h:ak}{dQ:ar}{ws:List UInt64}(r:fi ab h dQ ws)(i:Nat):ao 80 [bb dQ,U i] h λv ah=>v=ab (ws.getD i 0)/\ah=h:=by
 refine agV _ _ ?_
 unfold Ur
 have aT:=r.len
 refine cd (λca=>?_) λdx=>⟨?_,rfl⟩
 .refine r.cp (i:=i) (by omega) λq aj aZ=>⟨_,aZ,?_,rfl⟩
  simp[List.getD,show i<ws.length by omega]
 .simp[List.getD,List.getElem?_eq_none (show ws.length<=i by omega)]
theorem agW {h:ak}{dQ:ar}{ws:List UInt64}(r:fi ab h dQ ws):ao 42 [bb dQ] h λv ah=>v= .agg #[ab (ws.getD 0 0),ab (ws.getD 1 0),ab (ws.getD 2 0),ab (ws.getD 3 0)]/\bL h ah:=by
 refine agX _ ?_
 unfold Us
 refine bM λae aa f1 aF aE=>?_
 have ew:=r.bD aE
 refine(H5 ew 0).mono ?_
 rintro _ ad ⟨rfl,rfl⟩
 refine⟨_,rfl,(H5 ew 1).mono ?_⟩
 rintro _ an ⟨rfl,rfl⟩
 refine⟨_,rfl,(H5 ew 2).mono ?_⟩
 rintro _ aK ⟨rfl,rfl⟩
 refine⟨_,rfl,(H5 ew 3).mono ?_⟩
 rintro _ aR ⟨rfl,rfl⟩
 refine⟨_,rfl,jl aE f1 aF rfl λbo hJ b4 _=>⟨_,az b4 rfl,_,az b4 rfl,_,az b4 rfl,_,az b4 rfl,rfl,hJ⟩⟩
theorem Ut {k:Nat}(ag:k<=3):m0 ((2 ^ k:Nat):Int)=((2 ^ k:Nat):Int):=by
 have:=Uu (n:=((2 ^ k:Nat):Int)) (j:=k) (by omega) (by simp) (by
  have:k=0∨k=1∨k=2∨k=3:=by omega
  rcases this with rfl|rfl|rfl|rfl<;>decide)
 rw[this];simp
theorem agY {T:TypeId}{m:jw}{R:dF}{a7:List de}{es:ar}{h:ak}(M:cV T m R a7 es h)(h0:1<=m.cf 0){k K:Nat}(ag:k<=3)(eM:1<=K/\K<=16)(cr:aD)(a b c d:UInt64) :
 ao 39 [bg cr,bg ⟨m.b,0⟩,U 0,U ((2 ^ k:Nat):Int),U K,.agg #[ab a,ab b,ab c,ab d]] h λv ah=>∃cz,v= .tuple #[bg ⟨cz,0⟩,U 0]/\h cz=none/\ah cz=some (.cells #[bg cr,bg ⟨m.b,0⟩,U 0,U ((2 ^ k:Nat):Int),U K,ab a,ab b,ab c,ab d] 103 (0,0))/\bL h ah:=by
 have rp:1<=2 ^ k:=Nat.one_le_two_pow
 have rq:2 ^ k<=2 ^ 3:=Nat.pow_le_pow_right (by decide) ag
 refine agZ _ _ _ _ _ _ _ _ _ ?_
 unfold Uv
 refine bM λae aa f1 aF aE=>bS (decide_eq_false (by omega)) (bS (show decide ((128:Int)<((2 ^ k:Nat):Int))=false from decide_eq_false (by omega)) ?_)
 have hw:=SM ((2 ^ k:Nat):Int) (by omega)
 rw[Ut ag] at hw
 refine hw.to λad aC=>⟨_,rfl,bS (show(!decide (((2 ^ k:Nat):Int)=((2 ^ k:Nat):Int)))=false by simp) (bS (show decide ((K:Int)<1)=false from decide_eq_false (by omega)) (bS (show decide ((16:Int)<(K:Int))=false from decide_eq_false (by omega)) ?_))⟩
 refine(ta (M.bD (aE.trans aC)) (r:=0) M.eX.1).mono ?_
 rintro _ an ⟨rfl,rfl⟩
 have a8:=aC.get aF
 refine⟨_,rfl,bS (show decide ((m.cf 0:Int)=0)=false from decide_eq_false (by omega)) ⟨_,az a8 rfl,_,az a8 rfl,_,az a8 rfl,_,az a8 rfl,bM λay aK f4 b1 bh=>⟨ay,rfl,(aE.trans aC).free f4,b1,(aE.trans aC).trans bh⟩⟩⟩
theorem ag0 {T:TypeId}{m:jw}{R:dF}{a7:List de}{es:ar}{h:ak}(M:cV T m R a7 es h)(h0:1<=m.cf 0){k K:Nat}(ag:k<=3)(eM:1<=K/\K<=16)(cr:aD)(a b c d:UInt64) :
 ao 41 [bg cr,bg ⟨m.b,0⟩,U 0,U ((2 ^ k:Nat):Int),U K,.agg #[ab a,ab b,ab c,ab d]] h λv ah=>∃cz,v= .tuple #[bg ⟨cz,0⟩,U 0]/\h cz=none/\ah cz=some (.cells #[bg cr,bg ⟨m.b,0⟩,U 0,U ((2 ^ k:Nat):Int),U K,ab a,ab b,ab c,ab d] 172 (0,0))/\bL h ah:=by
 have rp:1<=2 ^ k:=Nat.one_le_two_pow
 have rq:2 ^ k<=2 ^ 3:=Nat.pow_le_pow_right (by decide) ag
 refine ag1 _ _ _ _ _ _ _ _ _ ?_
 unfold Uw
 refine bM λae aa f1 aF aE=>bS (decide_eq_false (by omega)) (bS (show decide ((128:Int)<((2 ^ k:Nat):Int))=false from decide_eq_false (by omega)) ?_)
 have hw:=MA (n:=((2 ^ k:Nat):Int)) (by omega)
 rw[Ut ag] at hw
 refine hw.to λad aC=>⟨_,rfl,bS (show(!decide (((2 ^ k:Nat):Int)=((2 ^ k:Nat):Int)))=false by simp) (bS (show decide ((K:Int)<1)=false from decide_eq_false (by omega)) (bS (show decide ((16:Int)<(K:Int))=false from decide_eq_false (by omega)) ?_))⟩
 refine(sq (M.bD (aE.trans aC)) (r:=0) M.eX.1).mono ?_
 rintro _ an ⟨rfl,rfl⟩
 have a8:=aC.get aF
 refine⟨_,rfl,bS (show decide ((m.cf 0:Int)=0)=false from decide_eq_false (by omega)) ⟨_,az a8 rfl,_,az a8 rfl,_,az a8 rfl,_,az a8 rfl,bM λay aK f4 b1 bh=>⟨ay,rfl,(aE.trans aC).free f4,b1,(aE.trans aC).trans bh⟩⟩⟩
end Go.Proofs.Tryz
namespace Go.Proofs.Tryz
open Go Go.cD Go.RowKit
set_option maxRecDepth 8000
def Eg (x:ko)(mg:Nat):ko:=⟨mg,x.a,x.b,x.c,x.d⟩
set_option maxHeartbeats 1000000 in
theorem Ux {n:Int}(aw: -9223372036854775808<=n)(aA:n<=9223372036854775807){h:ak}{dQ:ar}{ws:List UInt64}(rC:fi ab h dQ ws)(MB:ws.length*8<=140737488355328) :
 ao 11 [U n,bb dQ] h λv ah=>∃(B:jy) (x:ko) (C:lT) (mg:Nat) (V:jz),v= .tuple #[.agg #[bg ⟨B.m.b,0⟩,bg ⟨B.cr,0⟩,bg ⟨x.cz,0⟩,bg ⟨C.m.b,0⟩,bg ⟨C.cr,0⟩,bg ⟨mg,0⟩],.bool true]/\kR (eE n) B (o5 n x) x/\lq (eE n) C (o5 n x) (Eg x mg)/\k_ h (eE n) ws B (o5 n x) x C (Eg x mg) 0 .nil yS [] gD gD V ah:=by
 have gX:=mL n (n:=4) (by decide)
 have h9:=mL (n.tdiv 4) (n:=4) (by decide)
 have yP:=mL (n.tdiv 16) (n:=4) (by decide)
 have qB:=mL (n.tdiv 64) (n:=3) (by decide)
 have ay0:=mL (n.tdiv 192) (n:=13) (by decide)
 have ag2:=mL (n.tdiv 2496) (n:=2) (by decide)
 have o:=Uj n
 have hm:(eE n).m=1+e_ n 4:=rfl
 have aU:(eE n).s=1+e_ (n.tdiv 64) 3:=rfl
 have bw:(eE n).t=4+e_ (n.tdiv 192) 13:=rfl
 have ag3:(eE n).L=1+e_ (n.tdiv 2496) 2:=rfl
 have a_:(eE n).f=1:=rfl
 have jJ:∀i,(eE n).E i=lb (iw ((eE n).m-2*i) (eE n).s (eE n).t):=λ_=>rfl
 have qC:=λx=>agN n x
 have ix:∀x,(o5 n x).sp=1+e_ (n.tdiv 16) 4:=λ_=>rfl
 have fW:∀x,(o5 n x).T=2 ^ e_ n 4:=λ_=>rfl
 have eM:∀x,(o5 n x).K=1+e_ (n.tdiv 4) 4:=λ_=>rfl
 have lV:∀x t key,(o5 n x).pl t key=pH x.a x.b x.c x.d (o5 n x).T t key:=λ_ _ _=>rfl
 have e4:o7 (eE n).m (eE n).s (eE n).t (eE n).L:=o.st
 refine na _ _ ?_
 unfold Uy
 refine bM λae aa f1 aF aE=>?_
 refine(agO aw aA).to λad aC=>⟨_,_,_,rfl,bM λay an f3 b0 aI=>?_⟩
 have f30:=aE.free (aC.free f3)
 refine jl ((aE.trans aC).trans aI) f30 b0 rfl λaK bh b1 dr=>⟨_,az b1 rfl,_,az b1 rfl,_,az b1 rfl,?_⟩
 have uW:aK ae=_:=(dr ae λe=>by rw[<-e,aC.get aF] at f3;cases f3).trans (aI.get (aC.get aF))
 refine(agQ aw aA).to λaR bE=>⟨_,_,_,_,rfl,bM λaN bp f6 dE ch=>?_⟩
 have wQ:=(bh.trans bE).trans ch
 have f60:=bh.free (bE.free f6)
 refine jl wQ f60 dE rfl λb3 c9 fo eK=>⟨_,az fo rfl,_,az fo rfl,_,az fo rfl,_,az fo rfl,bM λbJ bW f8 fP eN=>?_⟩
 have fj:∀ {b:Nat} {e3:Obj},aK b=some e3->b3 b=some e3:=λau=>(eK _ λe=>by rw[e] at au;have:=bE.get au;rw[f6] at this;cases this).trans (ch.get (bE.get au))
 refine jl (c9.trans eN) (c9.free f8) fP rfl λb7 e9 gd eO=>?_
 have f_:∀ {b:Nat} {e3:Obj},b3 b=some e3->b7 b=some e3:=λau=>(eO _ λe=>by rw[e,f8] at au;cases au).trans (eN.get au)
 have tr:=f_ (fj b1)
 have nF:=f_ (fj uW)
 have MC:=f_ fo
 refine⟨_,az tr rfl,_,az gd rfl,_,az gd rfl,_,az gd rfl,_,az gd rfl,?_⟩
 refine(ag4 e4 b7).mono ?_
 rintro _ ct ⟨s1,rfl,cj,fC⟩
 refine⟨s1,rfl,⟨az (fC.get tr) rfl,trivial⟩,bM λbZ cw f11 nW hn=>?_⟩
 have Uz:=(e9.trans fC).trans hn
 have e3:cW eR h cw ⟨some ⟨bZ,0⟩,1,1,none⟩ [((1+e_ (n.tdiv 16) 4:Nat):Int)]:=cW.qz (e9.free (fC.free f11)) nW rfl rfl
 have kt:=UA (eE n).m (eE n).s (eE n).t (eE n).L (eE n).L
 refine cW.app yT Eh e3 (cj.bD hn).rd (λb au=>Uz.free au) (by simp[kt];omega) (by decide) ?_
 intro s2 bK gz UB ay1 ay2
 have yU:=Bk e3 Uz UB
 have fa:∀ {b:Nat} {e3:Obj},b7 b=some e3->bK b=some e3:=λ{b MD} au=>by
  have UC:=hn.get (fC.get au)
  rw[UB b (by rw[UC];simp) λq aj e=>(by cases aj;have:=fC.get au;rw[show b=bZ from e,f11] at this;cases this),UC]
 rw[show [((1+e_ (n.tdiv 16) 4:Nat):Int)]++rD (eE n).m (eE n).s (eE n).t (eE n).L (eE n).L=((1+e_ (n.tdiv 16) 4:Nat):Int)::rD (eE n).m (eE n).s (eE n).t (eE n).L (eE n).L from rfl,UD] at gz
 have aH:=UE (1+e_ (n.tdiv 16) 4) (eE n).m (eE n).s (eE n).t (eE n).L (eE n).L
 have wR:∀z∈sr (1+e_ (n.tdiv 16) 4) (eE n).m (eE n).s (eE n).t (eE n).L (eE n).L,1<=z/\z<=4096:=by
  intro z ME
  unfold sr at ME
  simp only[List.mem_cons,List.mem_flatMap,List.mem_range] at ME
  have aS:∀a,a<=8->1<=2 ^ a/\2 ^ a<=256:=λa bO=>⟨Nat.one_le_two_pow,Nat.pow_le_pow_right (n:=2) (by decide) bO⟩
  rcases ME with rfl|rfl|⟨i,_,hi⟩
  .omega
  .have:=aS ((eE n).m-2*((eE n).L-1)) (by omega);omega
  .unfold wS at hi
   simp only[List.mem_cons,List.not_mem_nil,or_false] at hi
   rcases hi with rfl|rfl|rfl
   .have aa:=aS ((eE n).m-2*i) (by omega)
    rw[Nat.pow_succ]
    generalize 2 ^ ((eE n).m-2*i)=y at *
    have a8:(eE n).s*(y*2-1)<=8*511:=Nat.mul_le_mul (by omega) (by omega)
    have b0:1*1<=(eE n).s*(y*2-1):=Nat.mul_le_mul (by omega) (by omega)
    omega
   .omega
   .have:=aS (lb (iw ((eE n).m-2*i) (eE n).s (eE n).t)) (o.gy i).E;omega
 refine(ag5 gz.rd (by omega) (by omega) wR).mono ?_
 rintro _ dI ⟨n1,mm,rfl,M,md,oD,UF,j9⟩
 refine⟨some ⟨mm.b,0⟩,_,rfl,?_⟩
 refine(ag6 (gz.bD j9).rd (by omega) (by omega) wR).mono ?_
 rintro _ cu ⟨oY,rfl,M2,MF,ts,H6,mO⟩
 have uX:=j9.trans mO
 have Ei:=uX.get (fa MC)
 refine⟨some ⟨oY.b,0⟩,_,rfl,bS rfl (bS rfl ⟨_,az Ei rfl,_,az Ei rfl,_,az Ei rfl,_,az Ei rfl,?_⟩)⟩
 have H7:=yU.trans uX
 refine(ag7 (rC.bD H7) MB).mono ?_
 rintro _ dM ⟨cS,tb,dR,rfl,ag8,H8,Ej,jK⟩
 have H9:=jK.get Ei
 refine⟨some ⟨tb,0⟩,rfl,⟨az H9 rfl,az H9 rfl,az H9 rfl,az H9 rfl,trivial⟩,?_⟩
 have ag9:=mO.trans jK
 have ag_:=M.bD ag9
 have o8:∀i,i<(eE n).L->qo mm ((eE n).d_ i) ((eE n).base i):=λi hi=>by
  have iV:(eE n).base i=2+3*i+0:=by unfold cG.base;omega
  rw[iV]
  refine⟨by omega,by rw[md,aH];omega,?_,?_,?_,rfl⟩
  .rw[oD,yV _ _ _ _ _ _ i 0 hi (by decide)];rfl
  .rw[oD,show 2+3*i+0+1=2+3*i+1 by omega,yV _ _ _ _ _ _ i 1 hi (by decide)];rfl
  .rw[oD,show 2+3*i+0+2=2+3*i+2 by omega,yV _ _ _ _ _ _ i 2 hi (by decide)];rfl
 have Ek:dR≠tb->dM dR≠none:=λdf=>(Ej df).2
 have El:¬bF mm ⟨none,0,0,none⟩ tb:=λMG=>(M.bD mO).dn MG H8
 have MH:dR≠tb->¬bF mm ⟨none,0,0,none⟩ dR:=λdf MG=>(M.bD mO).dn MG (Ej df).1
 refine(aha (G:=eE n) (u:=0) o o8 (by rw[md,aH];show 1<3*(eE n).L+2;omega) (by rw[oD];rfl) ag_ ag8 Ek El MH).mono ?_
 rintro _ cM ⟨B,rfl,wT,Bl,MI,pO,ahb,Em,mu⟩
 have UG:=H7.trans jK
 have H_:=UG.trans mu
 have Ia:=mu.get (jK.get (uX.get (fa gd)))
 refine⟨some ⟨B.cr,0⟩,_,rfl,_,az Ia rfl,_,az Ia rfl,_,az Ia rfl,_,az Ia rfl,bM λdC dX f17 tg kF=>?_⟩
 have UH:=M2.bD ((jK.trans mu).trans kF)
 have ahc:∀i,i<(eE n).L->qo oY ((eE n).d_ i) ((eE n).base i):=λi hi=>by
  have iV:(eE n).base i=2+3*i+0:=by unfold cG.base;omega
  rw[iV]
  refine⟨by omega,by rw[MF,aH];omega,?_,?_,?_,rfl⟩
  .rw[ts,yV _ _ _ _ _ _ i 0 hi (by decide)];rfl
  .rw[ts,show 2+3*i+0+1=2+3*i+1 by omega,yV _ _ _ _ _ _ i 1 hi (by decide)];rfl
  .rw[ts,show 2+3*i+0+2=2+3*i+2 by omega,yV _ _ _ _ _ _ i 2 hi (by decide)];rfl
 have uY:∀q,dQ.q=some q->0<ws.length->h q.b≠none:=λq aj aT=>rC.there aj aT
 have uZ:=H_.trans kF
 refine(ahd (G:=eE n) (u:=0) o ahc (by rw[MF,aH];show 1<3*(eE n).L+2;omega) (by rw[ts];rfl) UH (rC.bD uZ) tg (λhm=>(M2.bD (jK.trans mu)).dn hm f17) λq aj aT=>⟨λhm=>uY q aj aT ((yU.trans j9).free (H6 _ hm)),λe=>uY q aj aT (e▸H_.free f17)⟩).mono ?_
 rintro _ eU ⟨C,V,rfl,En,ahe,UI,ahf,u1,ahg,ahh,oL⟩
 have MJ:=uZ.trans oL
 have MK:=oL.get (kF.get (mu.get (jK.get (uX.get (fa tr)))))
 refine⟨some ⟨C.cr,0⟩,_,rfl,bS rfl (bS rfl ⟨_,az MK rfl,_,az MK rfl,?_⟩)⟩
 refine(agT (rC.bD MJ)).mono ?_
 rintro _ dy ⟨rfl,rE⟩
 have ML:=rE.get MK
 refine⟨_,_,_,_,rfl,⟨az ML rfl,trivial⟩,⟨az ML rfl,trivial⟩,?_⟩
 have ahi:=(kF.trans oL).trans rE
 have MM:=pO.bD o ahi
 have ahj:B.m.cf 0=1+e_ (n.tdiv 16) 4:=by rw[wT,oD];rfl
 have tt:=agY MM.mem (by omega) (k:=e_ n 4) (K:=1+e_ (n.tdiv 4) 4) (by omega) (by omega) ⟨B.cr,0⟩ (ws.getD 0 0) (ws.getD 1 0) (ws.getD 2 0) (ws.getD 3 0)
 rw[wT] at tt
 refine tt.mono ?_
 rintro _ eV ⟨cz,rfl,Ib,UJ,rF⟩
 have MN:=rF.get ML
 refine⟨some ⟨cz,0⟩,_,rfl,_,az MN rfl,_,az MN rfl,?_⟩
 have yW:=(MJ.trans rE).trans rF
 refine(agW (rC.bD yW)).mono ?_
 rintro _ gE ⟨rfl,l3⟩
 have UK:=l3.get MN
 refine⟨_,_,_,_,rfl,⟨az UK rfl,trivial⟩,⟨az UK rfl,trivial⟩,?_⟩
 have UL:=((oL.trans rE).trans rF).trans l3
 refine(ag0 (UH.bD UL) (by rw[ts];show 1<=1+e_ (n.tdiv 16) 4;omega) (k:=e_ n 4) (K:=1+e_ (n.tdiv 4) 4) (by omega) (by omega) ⟨C.cr,0⟩ (ws.getD 0 0) (ws.getD 1 0) (ws.getD 2 0) (ws.getD 3 0)).mono ?_
 rintro _ eA ⟨mg,rfl,Ic,ahk,pR⟩
 have ahl:=(UL.trans pR).get (kF.get (mu.get (jK.get (uX.get (fa nF)))))
 have UM:=(yW.trans l3).trans pR
 refine⟨some ⟨mg,0⟩,_,rfl,dg rfl (dg rfl ?_)⟩
 refine jl UM f1 ahl rfl λeP yX rr ss=>⟨_,az rr rfl,_,az rr rfl,_,az rr rfl,_,az rr rfl,_,az rr rfl,_,az rr rfl,?_⟩
 have ahm:h cz=none:=((MJ.trans rE)).free Ib
 have UN:∀y,cH (eE n) B gD gD y->h y=none:=by
  rintro y (ai|⟨p,ai⟩)
  .rw[wT] at ai;exact yU.free (UF y ai)
  .by_cases aQ:p= .tb
   .subst aQ
    have ai:y=B.tb:=ai
    rw[ai,Bl];exact H7.free H8
   .by_cases aY:p= .dR
    .subst aY
     have aa:=ai.1;have ad:=ai.2
     rw[MI] at aa ad;rw[Bl] at ad
     rw[aa];exact H7.free (Ej ad).1
    .exact UG.free (Em p y aQ aY ai)
 have nG:=(rF.trans l3).trans pR
 have ahn:=MM.bD o nG
 have aho:=(l3.trans pR).get UJ
 have ahp:=u1.bD o (rE.trans nG)
 have UO:∀z,cH (eE n) B gD gD z->cM z≠none:=λz bc=>pO.ml o bc
 have MO:∀z,c8 C (eE n).L V z->bF oY gD z∨cM z=none:=by
  rintro z (hm|⟨p,bc⟩)
  .rw[En,ahf] at hm;exact .inl hm
  .by_cases c:p= .tb
   .subst c
    rw[show z=dC from Eq.trans bc ahe];exact .inr f17
   .exact .inr (kF.free (ahh p z c bc))
 have ahq:∀z,cH (eE n) B gD gD z->¬bF oY gD z:=λz bc hm=>by
  rcases bc with ai|⟨p,ai⟩
  .rw[wT] at ai;exact M.dn ai (H6 z hm)
  .have Eo:=M2.dn hm
   by_cases aQ:p= .tb
   .subst aQ
    rw[show z=tb from Eq.trans ai Bl] at Eo;exact Eo H8
   .by_cases aY:p= .dR
    .subst aY
     have aa:=ai.1;have ad:=ai.2
     rw[MI] at aa ad;rw[Bl] at ad
     rw[aa] at Eo;exact Eo (Ej ad).1
    .exact Eo (jK.free (Em p z aQ aY ai))
 have UP:cM cz=none:=kF.free (oL.free (rE.free Ib))
 have Ie:cM mg=none:=kF.free (oL.free (rE.free (rF.free (l3.free Ic))))
 have MP:=mu.get (jK.get (uX.get (fa nF)))
 have ahr:k_ h (eE n) ws B (o5 n ⟨cz,ws.getD 0 0,ws.getD 1 0,ws.getD 2 0,ws.getD 3 0⟩) ⟨cz,ws.getD 0 0,ws.getD 1 0,ws.getD 2 0,ws.getD 3 0⟩ C (Eg ⟨cz,ws.getD 0 0,ws.getD 1 0,ws.getD 2 0,ws.getD 3 0⟩ mg) 0 .nil yS [] gD gD V eA:=by
  refine⟨⟨ahn,⟨kQ.zero (λ_ _=>rfl) rfl,rfl,rfl⟩,rfl,rfl,?_,λa_=>MM.ml o a_ Ib⟩,⟨ahp,⟨kQ.zero (λ_ _=>rfl) rfl,rfl,rfl⟩,rfl,rfl,?_,λa_=>(u1.bD o ((rE.trans rF).trans l3)).ml o a_ Ic,λq aj aT e=>?_,nE.zero λ_ _=>rfl,λ_=>Nat.le_refl _⟩,?_,?_,?_,λq aj aT=>uY q (by rw[UI] at aj;exact aj) aT,UM⟩
  .show eA cz=_
   rw[aho]
   unfold HF
   rw[fW,eM,wT]
  .show eA mg=_
   rw[ahk]
   unfold MQ
   rw[fW,eM,En];rfl
  .rw[UI] at aj
   exact uY q aj aT (e▸(yW.trans l3).free Ic)
  .rintro z (bc|bc) (aj|aj)
   .rcases MO z aj with hm|l1
    .exact ahq z bc hm
    .exact UO z bc l1
   .exact UO z bc (by rw[show z=mg from aj];exact Ie)
   .exact u1.ml o aj (by rw[show z=cz from bc];exact rE.free Ib)
   .have:=l3.get UJ
    rw[show cz=mg from (show z=cz from bc).symm.trans aj,Ic] at this;cases this
  .rintro z (bc|rfl)
   .exact UN z bc
   .exact ahm
  .rintro z (bc|bc)
   .rcases MO z bc with hm|l1
    .exact(yU.trans j9).free (H6 z hm)
    .exact H_.free l1
   .rw[show z=mg from bc];exact H_.free Ie
 refine⟨B,⟨cz,ws.getD 0 0,ws.getD 1 0,ws.getD 2 0,ws.getD 3 0⟩,C,mg,V,by rw[wT,En];rfl,⟨qC _,ahb,⟨e_ n 4,by omega,fW _⟩,lV _,by rw[wT,md,aH];omega,by rw[ahj,ix],by rw[eM];omega⟩,⟨qC _,ahg,⟨e_ n 4,by omega,fW _⟩,λ_ _=>rfl,by rw[En,MF,aH];omega,by rw[En,ts];rfl,by rw[eM];omega⟩,ahr.off f1 ?_ ?_ ss⟩
 .rintro (bc|bc)
  .rcases bc with ai|⟨p,ai⟩
   .rw[wT] at ai
    have bK:=UF ae ai
    rw[fa nF] at bK;cases bK
   .by_cases aQ:p= .tb
    .subst aQ
     have bK:=uX.get (fa nF)
     rw[show ae=tb from Eq.trans ai Bl,H8] at bK;cases bK
    .by_cases aY:p= .dR
     .subst aY
      have aa:=ai.1;have ad:=ai.2
      rw[MI] at aa ad;rw[Bl] at ad
      have bK:=uX.get (fa nF)
      rw[aa,(Ej ad).1] at bK;cases bK
     .have dM:=Em p ae aQ aY ai
      rw[jK.get (uX.get (fa nF))] at dM;cases dM
  .have bc:ae=cz:=bc
   rw[<-bc,MP] at UP;cases UP
 .rintro (bc|bc)
  .rcases MO ae bc with hm|l1
   .have:=H6 ae hm
    rw[j9.get (fa nF)] at this;cases this
   .rw[MP] at l1;cases l1
  .have bc:ae=mg:=bc
   rw[<-bc,MP] at Ie;cases Ie
end Go.Proofs.Tryz
namespace Go.cD
open Go.Proofs.Tryz
structure gB (G:cG)(c:Nat)(S:cU):Prop where
 live:∃A,Live G S A
 Bm:jx G S
 ids:(S.ids 0).length<=c
section
variable {G:cG} {w:Nat->UInt64} {X:ek}
theorem gB.le {c cc:Nat}{S:cU}(f:gB G c S)(h:c<=cc):gB G cc S:=⟨f.live,f.Bm,Nat.le_trans f.ids h⟩
theorem gB.acc (o:G.da)(dY:G.L=1){a c:Nat}{S:cU}(p:h3 G w a S)(bO:a<=100000)(f:gB G c S){op:fg}{x cc:Nat}(ai:x<2 ^ G.m)(aZ:(meets op (cE x 0) (S.ids 0)).length<=cc)(bw:cc<=G.t):gB G cc (c3 G w op x S).1:=by
 obtain⟨A,gb,K,n⟩:=f.live
 have hu:=p.us
 have aa:2*G.L*a<=2*4*100000:=Nat.mul_le_mul (by omega) bO
 have h0:(c3 G w op x S).1.ids 0=meets op (cE x 0) (S.ids 0):=by
  unfold c3
  rw[show G.L-1=0 by omega]
  rfl
 obtain⟨tc,iD,_,_,fin⟩:=S5 o p.us (by omega) p.eJ p.oy ai (AO o ai) n (.inr λh bR=>⟨f.Bm h bR,by
  have:h=0:=by omega
  subst this
  rw[h0];omega⟩)
 exact⟨⟨_,_,_,iD⟩,fin,by rw[h0];exact aZ⟩
theorem gB.look (o:G.da)(dY:G.L=1){a c:Nat}{S:cU}(p:h3 G w a S)(bO:a<=100000)(f:gB G c S){x:Nat}(ai:x<2 ^ G.m)(bw:c<=G.t):gB G c (c3 G w .look x S).1:=f.acc o dY p bO ai f.ids bw
theorem gB.drop (o:G.da)(dY:G.L=1){a c:Nat}{S:cU}(p:h3 G w a S)(bO:a<=100000)(f:gB G c S){x:Nat}(ai:x<2 ^ G.m)(bw:c<=G.t):gB G c (c3 G w .drop x S).1:=f.acc o dY p bO ai f.ids bw
theorem gB.put (o:G.da)(dY:G.L=1){a c:Nat}{S:cU}(p:h3 G w a S)(bO:a<=100000)(f:gB G c S){x:Nat}(ai:x<2 ^ G.m)(d:c0)(bw:c+1<=G.t):gB G (c+1) (c3 G w (.put d) x S).1 :=
 f.acc o dY p bO ai (by have:=f.ids;simp only[meets];split<;>simp<;>omega) bw
theorem gB.hO (a_:G.f=1){c i:Nat}{nH:cv}{S:cU}(f:gB G c S):gB G c (Go.cD.hO S (0,i) nH):=⟨f.live.imp λ_ l=>l.hO a_,f.Bm,f.ids⟩
theorem gB.kD (c:pF G X)(dY:G.L=1){b:Nat}(bw:b<=G.t):∀n a S,h3 G w a S->a+n<=100000->gB G b S->gB G b (kD G w n S)
 | 0,_,_,_,_,f=>f
 | n+1,a,S,p,h,f=>gB.kD c dY bw n (a+1) _ (p.blank c.o (by omega)) (by omega) (f.look c.o dY p (by omega) (Nat.pow_pos (by decide)) bw)
theorem gB.e7 (c:pF G X)(dY:G.L=1):∀n i a b S e on ey,h3 G w a S->a+n<=100000->b+n<=G.t->gB G b S->gB G (b+n) (e7 G w X n i S e on ey).1
 | 0,_,_,_,_,_,_,_,_,_,_,f=>f
 | n+1,i,a,b,S,e,on,ey,p,h,bw,f=>by
  rw[show b+(n+1)=b+1+n by omega]
  cases on with
  | true =>
   have au:X.bl (i%2) e.1<2 ^ G.m:=by rw[c.m];exact ek.lS c.fv (Nat.mod_lt _ (by decide)) _
   exact gB.e7 c dY n (i+1) (a+1) (b+1) _ _ _ _ (p.acc c.o (by omega) au) (by omega) (by omega) (f.put c.o dY p (by omega) au (fL e) (by omega))
  | false=>exact gB.e7 c dY n (i+1) (a+1) (b+1) _ e false ey (p.blank c.o (by omega)) (by omega) (by omega) ((f.look c.o dY p (by omega) (Nat.pow_pos (by decide)) (by omega)).le (by omega))
theorem gB.mH (c:pF G X)(dY:G.L=1):∀(l:List (Nat×c0)) a b S,h3 G w a S->a+l.length<=100000->b+l.length<=G.t->(∀x∈l,x.1<2*X.T)->gB G b S->gB G (b+l.length) (mH G w l S)
 | [],_,_,_,_,_,_,_,f=>f
 | (y,d)::l,a,b,S,p,h,bw,aZ,f=>by
  have aT:((y,d)::l).length=l.length+1:=rfl
  rw[aT] at h bw ⊢
  have aB:y<2 ^ G.m:=by rw[c.m];exact aZ (y,d) (by simp)
  rw[show b+(l.length+1)=b+1+l.length by omega]
  exact gB.mH c dY l (a+1) (b+1) _ (p.acc c.o (by omega) aB) (by omega) (by omega) (λx ai=>aZ x (by simp[ai])) (f.put c.o dY p (by omega) aB d (by omega))
theorem gB.ins (c:pF G X)(dY:G.L=1){a b:Nat}{S:cU}(p:h3 G w a S)(bO:a+2*X.K<=100000)(bw:b+2*X.K<=G.t)(f:gB G b S)(key cell:UInt64)(on:Bool):gB G (b+2*X.K) (hX G w X key cell on S).1:=by
 obtain⟨aE,_⟩:=AS c.o c.fv c.m c.f X.K 0 a S (key,cell) on [] p (by omega)
 have D3:=gB.e7 c dY X.K 0 a b S (key,cell) on [] p (by omega) (by omega) f
 have hlen:=DJ (G:=G) (w:=w) (X:=X) X.K 0 S (key,cell) on []
 have yL:=DK (G:=G) (w:=w) c.fv X.K 0 S (key,cell) on [] (by simp)
 unfold hX
 simp only
 split
 .rename_i jj
  split
  .exact(gB.kD c dY (by omega) X.K (a+X.K) _ (aE.hO c.f) (by omega) (D3.hO c.f)).le (by omega)
  .have aT:=hlen jj
   rw[List.length_nil,Nat.zero_add] at aT
   have:=gB.mH c dY _ (a+X.K) (b+X.K) _ aE (by rw[List.length_reverse,aT];omega) (by rw[List.length_reverse,aT];omega) (λx ai=>yL x (List.mem_reverse.1 ai)) D3
   rw[List.length_reverse,aT] at this
   exact this.le (by omega)
 .exact(gB.kD c dY (by omega) X.K (a+X.K) _ aE (by omega) D3).le (by omega)
theorem gB.find (c:pF G X)(dY:G.L=1){a b:Nat}{S:cU}(p:h3 G w a S)(bO:a+2<=100000)(bw:b<=G.t)(f:gB G b S)(key:UInt64):gB G b (gK G w X key S).1:=by
 have ga:X.bl 0 key<2 ^ G.m:=by rw[c.m];exact ek.lS c.fv (by decide) _
 have ae:X.bl 1 key<2 ^ G.m:=by rw[c.m];exact ek.lS c.fv (by decide) _
 exact(f.look c.o dY p (by omega) ga bw).look c.o dY (p.acc c.o (by omega) ga) (by omega) ae bw
theorem gB.rem (c:pF G X)(dY:G.L=1){a b:Nat}{S:cU}(p:h3 G w a S)(bO:a+2<=100000)(bw:b<=G.t)(f:gB G b S)(key:UInt64)(t:Int)(at_:UInt64)(on:Bool):gB G b (mI G w X key t at_ on S):=by
 have h:gB G b (if on&&(t==0||t==1) then (c3 G w .drop (X.bl t.toNat key) S).1 else kC G w S):=by
  split
  .rename_i h
   have ad:(t==0||t==1)=true:=(Bool.and_eq_true _ _▸h).2
   rw[Bool.or_eq_true,beq_iff_eq,beq_iff_eq] at ad
   exact f.drop c.o dY p (by omega) (by rw[c.m];exact ek.lS c.fv (by omega) _) bw
  .exact f.look c.o dY p (by omega) (Nat.pow_pos (by decide)) bw
 unfold mI
 simp only
 split
 .exact h.hO c.f
 .exact h
theorem sa.zero (c:pF G X){S:cU}(jd:∀r i,S.R r i=e6):sa G X S (λ_=>none):=by
 intro _
 refine⟨λ_=>none,⟨_,_,wU.zero jd⟩,⟨λn aH e he=>?_,λn iD e b4 aa=>?_,λk v=>?_⟩,λi _=> .inl (jd 0 i)⟩
 .rw[AV aH] at he;cases he
 .rcases LS aa with ⟨_,h⟩|⟨i,_,_,h⟩
  .cases h
  .rw[jd] at h;cases h
 .constructor
  .intro h;cases h
  .rintro⟨n,aH⟩
   rcases LS aH with ⟨_,h⟩|⟨i,_,_,h⟩
   .cases h
   .rw[jd] at h;cases h
end
end Go.cD
namespace Go.Proofs.Tryz
open Go Go.cD Go.RowKit
set_option maxRecDepth 8000
theorem ahs:eW prog 10 [] (.bool true):=by
 intro h
 refine jo ?_
 unfold UQ
 refine bM λae aa f1 aF aE=>?_
 have rC:fi ab aa ⟨some ⟨ae,0⟩,8,8,none⟩ [3,1,4,1,5,9,2,6]:=(cW.qz (f:=ab) (h0:=h) (l:=[3,1,4,1,5,9,2,6]) (n:=8) f1 aF rfl rfl).rd
 refine(Ux (n:=22) (by decide) (by decide) rC (by decide)).mono ?_
 rintro _ ad ⟨B,x,C,mg,V,rfl,F,_,T⟩
 have R:=T.I
 have Em:=T.p0
 have aC:=T.K
 have dY:(eE 22).L=1:=rfl
 have bw:(eE 22).t=4:=rfl
 have eM:(o5 22 x).K=2:=rfl
 have ix:(o5 22 x).sp=2:=rfl
 have aht:sa (eE 22) (o5 22 x) yS (λ_=>none):=sa.zero F.c λ_ _=>rfl
 have ahu:gB (eE 22) 0 yS:=⟨⟨_,_,_,wU.zero (λ_ _=>rfl)⟩,λ_ _=>rfl,Nat.le_refl _⟩
 generalize hw:(λp=>List.getD [3,1,4,1,5,9,2,6] p (0:UInt64))=w at *
 generalize UR:([3,1,4,1,5,9,2,6]:List UInt64)=ws at *
 subst hw
 generalize eE 22=G at *
 generalize o5 22 x=X at *
 have yU:=aE.trans aC
 have ahv:∀y,cH G B gD gD y->h y=none:=λy aB=>aE.free (Em y (.inl aB))
 refine⟨some _,some _,some _,some _,some _,some _,_,rfl,bM λay an f3 b0 aI=>?_⟩
 have ahw:=yU.trans aI
 refine jl ahw (yU.free f3) b0 rfl λaK bh b1 dr=>bS rfl ⟨some ⟨x.cz,0⟩,az b1 rfl,?_⟩
 have kr:=R.loc F f3 aI dr
 have kp:¬cH G B gD gD ay:=R.r.out F.c.o f3
 refine(Tp F kr (by omega) (by simp only[c1.iT,c1.MR,c1.MS,c1.MT];omega) 5 1 true).mono ?_
 rintro _ aR ⟨ay3,su,ay4,rfl,jm,v5⟩
 obtain⟨Ep,ahx⟩:=afA (key:=5) (cell:=1) (on:=true) F.c kr.p (by omega) aht (λ_=>rfl)
 have MU:=gB.ins F.c dY kr.p (by omega) (by omega) ahu 5 1 true
 rw[Nat.zero_add,eM] at MU
 have cy:=v5.get b1 kp
 have bm:=v5.out (by rw[b1];simp) kp
 have bV:(hX G (λp=>ws.getD p 0) X 5 1 true yS).2=true:=by
  cases aZ:(hX G (λp=>ws.getD p 0) X 5 1 true yS).2 with
  | true=>rfl
  | false =>
   have:=LL ((ahx MU.Bm).2 aZ) 0 (by omega)
   cases this
 rw[bV] at Ep ⊢
 obtain⟨Bn,yY⟩:=v5.bD bh ahv
 generalize (hX G (λp=>ws.getD p 0) X 5 1 true yS).1=gR at *
 have Ep:sa G X gR (λy=>if y=5 then some 1 else none):=Ep
 refine⟨_,rfl,some ⟨x.cz,0⟩,az cy rfl,(LY F jm (by omega) (by simp only[c1.iT,c1.MR,c1.MS,c1.MT];omega) 5).mono ?_⟩
 rintro _ bp ⟨ay5,u2,ahy,rfl,lX,v6⟩
 have US:=gB.find F.c dY jm.p (by omega) (by omega) MU 5
 obtain⟨_,ahz⟩:=Ti F.c jm.p (by omega) Ep (key:=5) (by decide)
 have UT:=afB F.c jm.p (by omega) Ep (key:=5) (by decide) true
 obtain⟨sv,ahA⟩:=v6.bD Bn yY
 have dE:=v6.get cy bm
 have bx:=v6.out (by rw[cy];simp) bm
 have ahB:∃t at_,(gK G (λp=>ws.getD p 0) X 5 gR).2=(t,at_,1)/\0<=t:=by
  rcases ahz US.Bm with ⟨v,t,at_,aa,ad,an⟩|⟨aa,_⟩
  .rw[if_pos rfl] at aa;cases aa;exact⟨t,at_,ad,an⟩
  .rw[if_pos rfl] at aa;cases aa
 obtain⟨t,at_,aU,kV⟩:=ahB
 rw[aU] at UT ⊢
 have ag2:=lX.p
 generalize (gK G (λp=>ws.getD p 0) X 5 gR).1=kW at *
 refine⟨_,_,_,rfl,bM λaN b3 f7 fo c9=>?_⟩
 refine jl (sv.trans c9) (sv.free f7) fo rfl λbW eN fP eT=>?_
 have sl:=lX.loc F f7 c9 eT
 have d23:ay≠aN:=λe=>by rw[<-e,dE] at f7;cases f7
 have MV:bW ay=_:=(eT ay d23).trans (c9.get dE)
 have u3:¬cH G B u2 ahy aN:=lX.r.out F.c.o f7
 refine⟨some ⟨x.cz,0⟩,az MV rfl,_,az fP rfl,_,az fP rfl,_,az fP rfl,(Tr F sl (by omega) (by simp only[c1.iT,c1.MR,c1.MS,c1.MT];omega) 5 t at_ 1 true).mono ?_⟩
 rintro _ b7 ⟨ay6,Bo,ay7,rfl,mN,v9⟩
 have ahC:=gB.rem F.c dY sl.p (by omega) (by omega) US 5 t at_ true
 obtain⟨ahD,ahE⟩:=v9.bD eN ahA
 have tr:=v9.get MV bx
 have n29:=v9.out (by rw[MV];simp) bx
 have MC:=v9.get fP u3
 have n39:=v9.out (by rw[fP];simp) u3
 generalize mI G (λp=>ws.getD p 0) X 5 t at_ true kW=wV at *
 refine⟨rfl,some ⟨x.cz,0⟩,az tr rfl,(LY F mN (by omega) (by simp only[c1.iT,c1.MR,c1.MS,c1.MT];omega) 5).mono ?_⟩
 rintro _ ct ⟨ahF,ahG,ay8,rfl,Ig,v10⟩
 have ahH:=gB.find F.c dY mN.p (by omega) (by omega) ahC 5
 obtain⟨_,ahI⟩:=Ti F.c mN.p (by omega) UT (key:=5) (by decide)
 obtain⟨UU,_⟩:=v10.bD ahD ahE
 have ahJ:(gK G (λp=>ws.getD p 0) X 5 wV).2=(-1,0,0):=by
  rcases ahI ahH.Bm with ⟨v,t,at_,aa,_⟩|⟨_,ad⟩
  .have aa:(if (5:UInt64)=5 then none else if (5:UInt64)=5 then some (1:UInt64) else none)=some v:=aa
   rw[if_pos rfl] at aa;cases aa
  .exact ad
 rw[ahJ]
 have Ih:=v10.get MC n39
 refine⟨_,_,_,rfl,bM λbJ cw f11 nW hn=>?_⟩
 refine jl (UU.trans hn) (UU.free f11) nW rfl λbK kU hQ gz=>?_
 have UW:bK aN=_:=(gz aN λe=>by rw[<-e,Ih] at f11;cases f11).trans (hn.get Ih)
 exact dg rfl ⟨_,az UW rfl,dg rfl ⟨_,az UW rfl,dg (decide_eq_true kV) ⟨_,az hQ rfl,rfl,kU⟩⟩⟩
end Go.Proofs.Tryz
namespace Go.cD
open Go Go.RowKit Go.ChangeShapes Go.WideShapes Go.ChangeAt
structure wE where
 op:Int
 key:UInt64
 cell:UInt64
 on:Bool
 lo: -9223372036854775808<=op
 hi:op<=9223372036854775807
def Er (x:wE):List Value:=[U x.op,ab x.key,ab x.cell,.bool x.on]
theorem UX (x:wE):(Er x).length=4:=rfl
section
variable {H:Type} {enc:TypeId×Value->H} {P:Program} {W:World} {base:Nat}
theorem ahK {t e:TypeId}{fU:Array Field}{v:Value}{d:DataW H}{cx:List MemPlace}(bw:P.underlying t=some (.slice e))(he:P.underlying e=some (.struct fU))(aZ:P.cellsOf e=4)
 (wW:fU.toList.map (λf=>(f.offset,P.cellsOf f.type,P.underlying f.type))=[(0,1,some (.int .i64)),(1,1,some (.int .u64)),(2,1,some (.int .u64)),(3,1,some .bool)])
 (mP:Value.okWide P W .any base t v) (bV:DataW.Trod enc P W 0 (λ_=>true) true t v d cx) :
 ∃(s:ar) (l:List wE),v=bb s/\fN Er (qD W) s l/\((d= .nil/\l=[])∨∃el sp,d= .slice el sp/\el.length=l.length):=by
 have aU:fU.size=4:=by have:=congrArg List.length wW;simpa using this
 have c_:∀j:Nat,fU[j]? =fU.toList[j]?:=λj=>by simp
 have a_:∀(j:Nat) (k:Option IntKind),[some IntKind.i64,some .u64,some .u64,none][j]? =some k->∃f:Field,fU[j]? =some f/\f.offset=j/\P.cellsOf f.type=1/\P.underlying f.type=some (match k with|some k=> .int k|none=> .bool):=by
  intro j k ag
  have aV:j<4:=(List.getElem?_eq_some_iff.1 ag).1
  have UY:j<fU.toList.length:=by simpa [aU] using aV
  have aa:=congrArg (λl=>l[j]?) wW
  simp only[List.getElem?_map,List.getElem?_eq_getElem UY,Option.map_some] at aa
  refine⟨fU.toList[j],by rw[c_,List.getElem?_eq_getElem UY],?_⟩
  have an:j=0∨j=1∨j=2∨j=3:=by omega
  rcases an with rfl|rfl|rfl|rfl
  .cases ag;simp only[List.getElem?_cons_zero,Option.some.injEq,Prod.mk.injEq] at aa;exact aa
  .cases ag;simp only[List.getElem?_cons_zero,List.getElem?_cons_succ,Option.some.injEq,Prod.mk.injEq] at aa;exact aa
  .cases ag;simp only[List.getElem?_cons_zero,List.getElem?_cons_succ,Option.some.injEq,Prod.mk.injEq] at aa;exact aa
  .cases ag;simp only[List.getElem?_cons_zero,List.getElem?_cons_succ,Option.some.injEq,Prod.mk.injEq] at aa;exact aa
 obtain⟨s,l,aa,r,hw,ad⟩:=ahL (ks:=[some .i64,some .u64,some .u64,none]) bw he aZ (by decide) aU a_ mP bV
 have key:∀x∈l,∃y:wE,Er y=x:=by
  intro x ai
  obtain⟨hlen,bQ⟩:=hw x ai
  obtain⟨v0,g0,iW,rfl,lz⟩:=bQ 0 (some .i64) rfl
  obtain⟨v1,g1,aw,rfl,lA⟩:=bQ 1 (some .u64) rfl
  obtain⟨v2,g2,aA,rfl,kG⟩:=bQ 2 (some .u64) rfl
  obtain⟨v3,g3,aN,rfl⟩:=bQ 3 none rfl
  simp[Lit.wf,IntKind.min,IntKind.max,IntKind.signed,IntKind.bits] at lz lA kG
  refine⟨⟨iW,UInt64.ofNat aw.toNat,UInt64.ofNat aA.toNat,aN,by omega,by omega⟩,?_⟩
  match x,hlen with
  | [a,b,c,d],_ =>
   cases g0;cases g1;cases g2;cases g3
   have t1:((UInt64.ofNat aw.toNat).toNat:Int)=aw:=by rw[UInt64.toNat_ofNat'];omega
   have t2:((UInt64.ofNat aA.toNat).toNat:Int)=aA:=by rw[UInt64.toNat_ofNat'];omega
   show [Value.int .i64 iW,Value.int .u64 ((UInt64.ofNat aw.toNat).toNat:Int),Value.int .u64 ((UInt64.ofNat aA.toNat).toNat:Int),Value.bool aN]=_
   rw[t1,t2]
 classical
 let ahM:wE:=⟨0,0,0,false,by decide,by decide⟩
 refine⟨s,l.map λx=>if ai:∃y:wE,Er y=x then Classical.choose ai else ahM,aa,r.map _ λx ai=>?_,?_⟩
 .rw[dif_pos (key x ai)];exact Classical.choose_spec (key x ai)
 .rcases ad with ⟨a,rfl⟩|⟨el,sp,a,b⟩
  .exact .inl ⟨a,rfl⟩
  .exact .inr ⟨el,sp,a,by simpa using b⟩
end
def ay9 (M:UInt64->Option UInt64)(i:Nat):List Nat:=(List.range i).filter λj=>(M (UInt64.ofNat j)).isSome

import Derived.Test.YtegdpmgnhnccaaaGreatRefT
import Derived.Test.YtegdpmgnhnccaaaGreatStoL
import Derived.Test.YtegdpmgnhnccaaaGreatMemU
namespace Go.Proofs.Tryz
open Go Go.cQ Go.RowKit
set_option maxRecDepth 8000
section
variable {G:c2} {ws:List a8} {B:kR} {C:p_} {S:fj} {a_:List dt} {es gs:an} {V:mc} {h:ai}
theorem WJ {m:Nat}(hm:m<=10){x:a8}(af:2 ^ m<=x.toNat):decide (cK ((2:Int) ^ m)<=x)=true:=by
 have WK:2 ^ m<=2 ^ 10:=atg (by decide) hm;rw[show(2:Int) ^ m=((2 ^ m:Nat):Int) by simp];generalize 2 ^ m=y at *;rw[jr (by omega)];refine atl (at9.2 ?_);rw[ate];omega
theorem acq (o:G.dk)(R:fM G ws B S a_ es gs h){k:Int}{x:a8}{d:ei}(au:¬(k=0∨k=1∨k=3)∨2 ^ G.m<=x.toNat) :
 aw 13 [bu ⟨B.cm,0⟩,U k,ak x,ec d] h λr ag=>r= .tuple #[ec kE,.bool false]/\bB h ag:=by
 refine k1 _ _ _ _ ?_;unfold Kz;refine bL λaj aa f1 aC aE=>bL λaB ad f2 a7 az=>bL λaS aq f3 b2 aD=>bL λb7 aJ f4 b5 bc=>bL λb4 aW f5 cD bU=>bL λdy bd f6 dK cb=>?_;have uM:=(aD.trans bc).trans (bU.trans cb);have nn:=az.trans uM;have p8:=aE.trans nn;have g1:=nn.get aC;have g2:=uM.get a7;have g3:=(bc.trans (bU.trans cb)).get b2;have g5:=cb.get cD;have rR:=R.bE o p8;have f50:h b4=none:=aE.free (az.free (aD.free (bc.free f5)));have f60:h dy=none:=aE.free (az.free (aD.free (bc.free (bU.free f6))));have n65:b4≠dy:=λe=>by rw[<-e,cD] at f6;cases f6
 have xE:(k=0∨k=1∨k=3)->decide (cK ((2:Int) ^ G.m)<=x)=true:=λab=>WJ o.m (au.elim (λh=>absurd ab h) id);refine⟨_,aF g2 rfl,mw (λh0=>⟨_,aF g2 rfl,mw (λqO=>⟨_,aF g2 rfl,mw (λq2=>?_) λq2=>⟨_,aF g3 rfl,some ⟨B.cm,0⟩,aF g1 rfl,_,rfl,_,aF rR.top rfl,eh (xE (.inr (.inr q2))) ?_⟩⟩) λqO=>⟨_,aF g3 rfl,some ⟨B.cm,0⟩,aF g1 rfl,_,rfl,_,aF rR.top rfl,eh (xE (.inr (.inl qO))) ?_⟩⟩) λh0=>⟨_,aF g3 rfl,some ⟨B.cm,0⟩,aF g1 rfl,_,rfl,_,aF rR.top rfl,eh (xE (.inl h0)) ?_⟩⟩
 all_goals exact kC p8 f50 g5 rfl λcg cV fq eU=>kC cV f60 ((eU _ (atf n65)).trans dK) rfl λcl dT gg e_=>⟨kE,da (n:=8) ((e_ _ n65).trans fq),false,aF gg rfl,rfl,dT⟩
theorem acr (o:G.dk)(R:fY G ws C S a_ V h){k:Int}{x:a8}{d:ei}(au:¬(k=0∨k=1∨k=3)∨2 ^ G.m<=x.toNat) :
 aw 15 [bu ⟨C.cm,0⟩,U k,ak x,ec d] h λr ag=>r= .tuple #[ec kE,.bool false]/\bB h ag:=by
 refine oB _ _ _ _ ?_;unfold Lc;refine bL λaj aa f1 aC aE=>bL λaB ad f2 a7 az=>?_;have eA:=aE.trans az;have fa:=R.bE o eA;have f20:h aB=none:=aE.free f2;have xE:(k=0∨k=1∨k=3)->decide (cK ((2:Int) ^ G.m)<=x)=true:=λab=>WJ o.m (au.elim (λh=>absurd ab h) id);refine⟨λ_ _ _ _ _ _=>False,mw (λh0=>mw (λqO=>mw (λq2=>?_) λq2=>⟨_,aF fa.top rfl,eh (xE (.inr (.inr q2))) ?_⟩) λqO=>⟨_,aF fa.top rfl,eh (xE (.inr (.inl qO))) ?_⟩) λh0=>⟨_,aF fa.top rfl,eh (xE (.inl h0)) ?_⟩,λ_ _ _ _ _ _ jZ=>jZ.elim⟩
 all_goals exact kC eA f20 a7 rfl λcg cV fq eU=>⟨kE,da (n:=8) fq,rfl,cV⟩
theorem acF (o:G.dk)(R:fY G ws C S a_ V h):aw 17 [bu ⟨C.cm,0⟩] h λv ag=>v= .bool ((List.range G.L).any S.over)/\ag=h:=by
 have fp:=o.L;have aO:=R.jE.len;simp only[ath,atj] at aO;refine sl _ ?_;unfold Ul;refine⟨λq1 ax g k=>q1=⟨C.cm,0⟩/\∃i:Nat,ax=i/\i<=G.L/\k=G.L-i/\g=h/\(List.range i).any S.over=false,⟨G.L,rfl,0,rfl,by omega,rfl,rfl,rfl⟩,?_⟩;rintro q1 ax g k ⟨rfl,i,rfl,hi,rfl,rfl,aR⟩;refine⟨_,aF R.top rfl,b6 (λb1=>?_) λc3=>⟨?_,rfl⟩⟩
 .have bN:i<G.L:=by omega
  obtain⟨q,ah,aT⟩:=R.jE.at (i:=i) (by simp;omega);simp at aT;refine⟨_,aF R.top rfl,q,ah,by omega,by omega,some ⟨C.aV i,0⟩,by rw[show q.o+Int.toNat (i:Int)*1=q.o+i by simp];exact aT,⟨C.aV i,0⟩,rfl,S.over i,aF (R.fu i bN) rfl,?_⟩;cases dQ:S.over i with
  | true =>
   refine eh rfl ⟨?_,rfl⟩;rw[List.any_eq_true.2 ⟨i,atq.2 bN,dQ⟩]
  | false =>
   refine b0 rfl ⟨G.L-(i+1),by omega,rfl,i+1,bl,by omega,rfl,rfl,?_⟩;rw[ato,List.any_append,aR];simp[dQ]
 .have:i=G.L:=by omega
  subst this;rw[aR]
theorem acH (o:G.dk)(R:fY G ws C S a_ V h)(BK:∀i,(S.ids i).length<1000000000000):aw 20 [bu ⟨C.cm,0⟩] h λv ag=>∃s,v=aU s/\b9 dg h ag s ((List.range G.L).map λi=>((S.ids i).length:Int))/\bB h ag:=by
 have fp:=o.L;have aO:=R.jE.len;simp only[ath,atj] at aO;refine xn _ ?_;unfold Un;refine⟨λq1 s2 ay g k=>q1=⟨C.cm,0⟩/\∃i:Nat,ay=i/\i<=G.L/\k=G.L-i/\b9 dg h g s2 ((List.range i).map λi=>((S.ids i).length:Int))/\bB h g,⟨G.L,rfl,0,rfl,by omega,rfl,b9.e9 ..,bB.refl h⟩,?_⟩;rintro q1 s2 ay g k ⟨rfl,i,rfl,hi,rfl,eY,cv⟩;have dE:=R.bE o cv;refine⟨_,aF dE.top rfl,b6 (λb1=>?_) λc3=>?_⟩
 .have bN:i<G.L:=by omega
  refine⟨_,aF dE.top rfl,dE.jE.e0 (i:=i) (by simpa using bN) λq _ aT=>?_⟩;have e:((List.range G.L).map C.aV)[i]'(by simpa using bN)=C.aV i:=by simp
  rw[e] at aT;refine⟨some ⟨C.aV i,0⟩,aT,⟨C.aV i,0⟩,rfl,_,aF (dE.fu i bN) rfl,bL λaj ad f2 a7 az=>?_⟩;have aH:=(R.ids i bN).len;have yI:=BK i;have n5:=cv.trans az;have one:b9 dg h ad ⟨some ⟨aj,0⟩,1,1,none⟩ [((S.ids i).length:Int)]:=b9.nu (cv.free f2) a7 (by rw[aH];rfl) rfl;refine b9.app oU qD (eY.bE az) one.rd (λb au=>n5.free au) (by simp;omega) (by decide) ?_;intro cx aq c9 JR _ _;refine⟨G.L-(i+1),by omega,rfl,i+1,bl,by omega,rfl,?_,qK (eY.bE az) n5 JR⟩;rw[ato,atD];exact c9
 .have bN:i=G.L:=by omega
  subst bN;exact⟨s2,rfl,eY,cv⟩
theorem acK (R:fY G ws C S a_ V h):aw 23 [bu ⟨C.tb,0⟩] h λv ag=>v= .bool (decide (ws.length<S.used))/\ag=h:=by
 have aO:=R.vD.len;refine xr _ ?_;unfold Uo;refine⟨_,aF R.kX rfl,_,aF R.kX rfl,?_,rfl⟩;rw[aO];congr 1;exact decide_eq_decide.2 (by omega)
end

import Derived.Test.YtegdpmgnhnccaaaGreatStoC
namespace Go.Proofs.Tryz
open Go Go.cQ Go.RowKit
set_option maxRecDepth 8000
theorem abY {m:Nat}{s t:Int}{L:Nat}(o:mK m s t L)(h:ai):aw 32 [v4 m s t L] h λv ag=>∃x,v=aU x/\b9 dg h ag x (mb m s t L L)/\bB h ag:=by
 have fp:=o.L;refine ahe _ s t L ?_;unfold Ut;refine bL λaj aa f1 aC aE=>qo aC ?_;refine(Zd o).to λad az=>⟨_,rfl,b0 rfl (qo (az.get aC) ?_)⟩;refine(Zb o).to λaq aD=>⟨_,rfl,λaB gI=>?_⟩;have jX:=(aE.trans az).trans aD;have bc:bB aq (bD aq aB (.cells #[U (2 ^ (m-2*(L-1)))] 3)):=(bB.refl aq).bD gI _;have cB:b9 dg h (bD aq aB (.cells #[U (2 ^ (m-2*(L-1)))] 3)) ⟨some ⟨aB,0⟩,1,1,none⟩ (mb m s t L 0):=b9.new (f:=dg) (l:=[2 ^ (m-2*(L-1))]) (jX.free gI) 1 rfl;have b5:=(az.trans (aD.trans bc)).get aC;have oS:=(az.trans aD).get aC;have oz:∀p,an.q ⟨some ⟨aB,0⟩,1,1,none⟩=some p->aj≠p.b:=by
  intro p aM e;cases aM;rw[show aj=aB from e,gI] at oS;cases oS
 refine fh b5 rfl ?_;refine⟨λq x l i aW k=>q=⟨aj,0⟩/\l=L/\∃j:Nat,i=j/\j<=L/\b9 dg h aW x (mb m s t L j)/\(∀p,x.q=some p->aj≠p.b)/\aW aj=some (.cells #[U (2 ^ m),U s,U t,U L] 26 (0,0))/\bB h aW/\k=L-j,
  ⟨_,rfl,rfl,0,rfl,atx _,cB,oz,b5,jX.trans bc,rfl⟩,?_⟩
 rintro q x l i aW k ⟨rfl,rfl,j,rfl,aL,n8,CY,cD,bU,rfl⟩;refine b6 (λb1=>?_) λc3=>?_
 .refine qo cD ?_;refine(Oa o j (by omega)).to λbd cb=>⟨_,_,_,rfl,?_⟩;refine(OS (o.fu j)).to λcg cV=>⟨_,_,_,rfl,bL λaS cl o3 gg dT=>?_⟩;have nT:=cb.trans cV;have y:b9 dg h cl ⟨some ⟨aS,0⟩,3,3,none⟩ (o1 m s t j):=b9.nu (f:=dg) (l:=o1 m s t j) (bU.free (nT.free o3)) gg rfl rfl;have cY:=(n8.bE nT).bE dT;have room:((mb m s t L j).length+(o1 m s t j).length)*8<=140737488355328:=by rw[EL,show(o1 m s t j).length=3 from rfl];omega
  refine b9.app oU qD cY y.rd (λc aT=>bU.free (nT.free (dT.free aT))) room (by decide) ?_;intro pT cL e2 f9 Af WH;refine⟨_,by omega,rfl,rfl,j+1,bl,by omega,by rw[EK];exact e2,λdF zi e=>?_,?_,?_,rfl⟩
  .rcases Af dF zi with ⟨p,aM,h⟩|h
   .exact CY p aM (e.trans h)
   .rw[<-e,(nT.trans dT).get cD] at h;cases h
  .rw[f9 aj (by rw[(nT.trans dT).get cD];simp) CY,(nT.trans dT).get cD]
  .intro c aT
   have aa:aW c≠none:=by rw[bU c aT];exact aT
   have ad:cl c=aW c:=(nT.trans dT) c aa;rw[f9 c (by rw[ad];exact aa) (λp aM e=>aT (e▸(n8.b_ aM).1)),ad,bU c aT]
 .have:j=L:=by omega
  subst this;exact⟨_,rfl,n8,bU⟩

import Derived.Test.YtegdpmgnhnccaaaGreatMem
import Derived.Test.YtegdpmgnhnccaaaGreatEvC
namespace Go.Proofs.Tryz
open Go Go.cQ Go.RowKit
set_option maxRecDepth 8000
theorem xA {i:Nat}(h:i<2 ^ 63):(cK (i:Int)).toNat=i:=by
 have a7:((cK (i:Int)).toNat:Int)=i:=yq (by simp[wm];omega);omega
theorem jr {i:Nat}(h:i<2 ^ 63):cK (i:Int)=UInt64.ofNat i:=by
 apply att.1;rw[xA h,ate];omega
theorem XF {i:Nat}(h:i<2 ^ 63)(x:a8):(cK (i:Int)==x)=decide (i=x.toNat):=by
 rw[atz];simp only[beq_iff_eq,aui];constructor
 .rintro rfl;exact(xA h).symm
 .intro e;apply att.1;rw[xA h,e]
theorem Gz (R:dw)(q:Nat×Nat):fs R q (R q.1 q.2)=R:=by
 funext r i;unfold fs;split
 .rename_i h;rw[h.1,h.2]
 .rfl
section
variable {T:TypeId} {m:jo} {R:dw} {a_:List dt} {es:an} {h:ai}
theorem amR (M:cN T m R a_ es h){r:Nat}(aK:r<m.ep)(x:a8)(aO:a_.length<4000000000000) :
 aw 58 [bu ⟨m.b,0⟩,U r,ak x] h λv ag=>∃bb,v=ec (if x.toNat<m.cq r then R r x.toNat else gz)/\cN T m R (a_++reads r (m.cq r)) bb ag/\cn (bA m es) h (bA m bb) ag:=by
 have ln:=M.cq r aK;refine ahF _ _ _ ?_;unfold UE;refine bL λaj aa f1 aC aE=>bL λaB ad f2 a7 az=>?_;have ct:aB≠aj:=λe=>by rw[e,aC] at f2;cases f2
 have M2:=M.bE (aE.trans az);refine(uw M2 aK).mono ?_;rintro _ _ ⟨rfl,rfl⟩;have f20:=aE.free f2;refine⟨_,rfl,λq1 ay bO aP bs aI aQ g k=>q1=⟨m.b,0⟩/\ay=r/\x=bO/\aP=⟨aj,0⟩/\bs=⟨aB,0⟩/\aI=(m.cq r:Nat)/\∃i bb,aQ=(i:Nat)/\i<=m.cq r/\k=m.cq r-i/\cN T m R (a_++reads r i) bb g/\cn (bA m es) h (bA m bb) g/\¬bA m bb aj/\¬bA m bb aB /\
  g aj=some (.cells (ae.cells (.ws 12 gz)).toArray 69 (0,0))/\g aB=some (.cells (ae.cells (.ws 12 (if x.toNat<i then R r x.toNat else gz))).toArray 69 (0,0)),
  ⟨m.cq r,rfl,rfl,rfl,rfl,rfl,rfl,0,es,rfl,by omega,rfl,by simpa [reads] using M2,iC (aE.trans az) _,M.out f1,M.out f20,az.get aC,a7⟩,?_⟩
 rintro q1 ay bO aP bs aI aQ g k ⟨rfl,rfl,rfl,rfl,rfl,rfl,i,bb,rfl,hi,rfl,ga,k0,gR,oh,g1,g2⟩;have tP:=Bo r i;refine b6 (λb1=>?_) λc3=>?_
 .have bN:i<m.cq r:=by omega
  refine⟨_,da g2,?_⟩;refine(XG _ _).to λbg gq=>⟨_,rfl,da (gq.get g2),?_⟩;refine(uO (ga.bE gq) aK bN (by rw[as9,tP];omega)).mono ?_;rintro _ g3 ⟨hO,rfl,fS,v3⟩;have vC:=(k0.more gq).trans v3;have qm:=v3.get (gq.get g1) gR;have CU:=v3.get (gq.get g2) oh;have pC:=v3.out (by rw[gq.get g1];simp) gR;have Aa:=v3.out (by rw[gq.get g2];simp) oh;refine⟨_,rfl,da CU,?_⟩;refine(XH _ _ _).to λg4 bc=>⟨_,rfl,?_⟩;refine fG (n:=12) (vC.more bc) f20 (bc.get CU) (by simp[ae.cells]) λg5 v5 cD cY=>⟨_,?_,rfl,rfl,rfl,rfl,rfl,rfl,i+1,hO,bl,by omega,rfl,?_,v5,pC,Aa,?_,?_⟩
  .omega
  .rw[PE,<-atr];exact(fS.bE bc).move λy aA=>cY y λe=>Aa (e▸aA)
  .rw[cY _ (atf ct)];exact bc.get qm
  .rw[cD];congr 4;rw[XF (by omega)];by_cases c:i=x.toNat
   .rw[atl c,as8 rfl,as8 (show x.toNat<i+1 by omega),c]
   .rw[ati c];by_cases aZ:x.toNat<i
    .rw[as7 (by simp),as8 aZ,as8 (show x.toNat<i+1 by omega)]
    .rw[as7 (by simp),as7 aZ,as7 (show ¬x.toNat<i+1 by omega)]
 .have:i=m.cq r:=by omega
  subst this;refine⟨_,da g2,fG (n:=12) k0 f1 g1 (by simp[ae.cells]) λg5 v5 cD cY=>⟨_,da cD,bb,rfl,ga.move λy aA=>cY y λe=>gR (e▸aA),v5⟩⟩
theorem amS (M:cN T m R a_ es h){r:Nat}(aK:r<m.ep)(x:a8)(c:cM)(d:Bool)(aO:a_.length<4000000000000) :
 aw 60 [bu ⟨m.b,0⟩,U r,ak x,ec c,ak (mask d)] h λv ag=>∃bb,v= .tuple #[]/\cN T m (if x.toNat<m.cq r/\d=true then fs R (r,x.toNat) c else R) (a_++writes r (m.cq r)) bb ag/\cn (bA m es) h (bA m bb) ag:=by
 have ln:=M.cq r aK;refine ahJ _ _ _ _ _ ?_;unfold UG;refine bL λaj aa f1 aC aE=>?_;have M2:=M.bE aE;refine(uw M2 aK).mono ?_;rintro _ _ ⟨rfl,rfl⟩;refine⟨_,rfl,λq1 ay bO ca aP aI aQ g k=>q1=⟨m.b,0⟩/\ay=r/\x=bO/\ca=mask d/\aP=⟨aj,0⟩/\aI=(m.cq r:Nat)/\∃i bb,aQ=(i:Nat)/\i<=m.cq r/\k=m.cq r-i/\cN T m (if x.toNat<i/\d=true then fs R (r,x.toNat) c else R) (a_++writes r i) bb g/\cn (bA m es) h (bA m bb) g/\¬bA m bb aj /\
  g aj=some (.cells (ae.cells (.ws 12 c)).toArray 69 (0,0)),
  ⟨m.cq r,rfl,rfl,rfl,rfl,rfl,rfl,0,es,rfl,by omega,rfl,by simpa [writes] using M2,iC aE _,M.out f1,aC⟩,?_⟩
 rintro q1 ay bO ca aP aI aQ g k ⟨rfl,rfl,rfl,rfl,rfl,rfl,i,bb,rfl,hi,rfl,ga,k0,gR,g1⟩;have uY:=rH r i;refine b6 (λb1=>?_) λc3=>?_
 .have bN:i<m.cq r:=by omega
  refine(XG _ _).to λbg gq=>⟨_,rfl,_,da (gq.get g1),?_⟩;refine(uO (ga.bE gq) aK bN (by rw[as9,uY];omega)).mono ?_;rintro _ g3 ⟨hO,rfl,fS,v3⟩;have qm:=v3.get (gq.get g1) gR;have pC:=v3.out (by rw[gq.get g1];simp) gR;refine⟨_,rfl,da qm,?_⟩;rw[amT];refine(XH _ _ _).to λg4 bc=>⟨_,rfl,?_⟩;refine(wX (fS.bE bc) aK bN _ (by simp only[as9,uY,atA];omega)).mono ?_;rintro _ g5 ⟨r1,rfl,iJ,v5⟩;have tQ:=v5.get (bc.get qm) pC;have amU:=v5.out (by rw[bc.get qm];simp) pC;refine⟨rfl,_,?_,rfl,rfl,rfl,rfl,rfl,rfl,i+1,r1,bl,by omega,rfl,?_,((k0.more gq).trans (v3.more bc)).trans v5,amU,tQ⟩
  .omega
  .rw[yD,show ∀a b:dt,a_++(writes r i++[a,b])=a_++writes r i++[a]++[b] by simp];rw[XF (by omega)] at iJ;have key:∀(fZ:dw),fZ=(if x.toNat<i/\d=true then fs R (r,x.toNat) c else R)->fs fZ (r,i) (if (decide (i=x.toNat)&&d)=true then c else fZ r i)=if x.toNat<i+1/\d=true then fs R (r,x.toNat) c else R:=by
    rintro fZ jc;by_cases aX:i=x.toNat
    .have aa:¬(x.toNat<i/\d=true):=by omega
     rw[as7 aa] at jc;cases d with
     | true=>rw[as8 (by simp[aX]),as8 ⟨by omega,rfl⟩,jc,aX]
     | false=>rw[as7 (by simp),as7 (by simp),jc];exact Gz R (r,i)
    .rw[as7 (by simp[aX])];have eg:fs fZ (r,i) (fZ r i)=fZ:=Gz fZ (r,i);rw[eg,jc];by_cases aZ:x.toNat<i/\d=true
     .rw[as8 aZ,as8 ⟨by omega,aZ.2⟩]
     .rw[as7 aZ,as7 (λh=>aZ ⟨by omega,h.2⟩)]
   rw[key _ rfl] at iJ;exact iJ
 .have:i=m.cq r:=by omega
  subst this;exact⟨bb,rfl,ga,k0⟩
end

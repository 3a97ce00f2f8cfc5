import Derived.Test.YtegdpmgnhnccaaaGreatMem
import Derived.Test.YtegdpmgnhnccaaaGreatEvC
namespace Go.Proofs.Tryz
open Go Go.cR Go.RowKit
set_option maxRecDepth 8000
theorem vi {i:Nat}(h:i<2 ^ 63):(cX (i:Int)).toNat=i:=by
 have a_:((cX (i:Int)).toNat:Int)=i:=BN (by simp[zt];omega);omega
theorem jU {i:Nat}(h:i<2 ^ 63):cX (i:Int)=UInt64.ofNat i:=by
 apply aDE.1;rw[vi h,aDw];omega
theorem aeU {i:Nat}(h:i<2 ^ 63)(x:aE):(cX (i:Int)==x)=decide (i=x.toNat):=by
 rw[aDV];simp only[aFi,aEJ];constructor
 .rintro rfl;exact(vi h).symm
 .intro e;apply aDE.1;rw[vi h,e]
theorem LR (R:dY)(q:Nat×Nat):fM R q (R q.1 q.2)=R:=by
 funext r i;unfold fM;split
 .rename_i h;rw[h.1,h.2]
 .rfl
theorem Ni (R:dY){q:Nat×Nat}{c:cM}{r i:Nat}(h:¬(r=q.1/\i=q.2)):fM R q c r i=R r i:=by unfold fM;rw[aDq h]
section
variable {T:TypeId} {m:jQ} {R:dY} {a8:List dk} {es:ao} {h:ak}
theorem aw_ (M:c8 T m R a8 es h){r:Nat}(aQ:r<m.fl)(x:aE)(aT:a8.length<4000000000000) :
 aq 58 [bm ⟨m.b,0⟩,U r,ab x] h λv af=>∃aX,v=ez (if x.toNat<m.cx r then R r x.toNat else fm)/\c8 T m R (a8++reads r (m.cx r)) aX af/\bT (bS m es) h (bS m aX) af:=by
 have pf:=M.cx r aQ;refine aq4 _ _ _ ?_;unfold abE;refine bP λae aa f1 aH aD=>bP λax ad f2 a_ aB=>?_;have cd:ax≠ae:=λe=>by rw[e,aH] at f2;cases f2
 have M2:=M.bA (aD.trans aB);refine(tZ M2 aQ).mono ?_;rintro _ _ ⟨rfl,rfl⟩;have f20:=aD.free f2;refine⟨_,rfl,λq1 aA bu aI bb aL aO g k=>q1=⟨m.b,0⟩/\aA=r/\x=bu/\aI=⟨ae,0⟩/\bb=⟨ax,0⟩/\aL=(m.cx r:Nat)/\∃i aX,aO=(i:Nat)/\i<=m.cx r/\k=m.cx r-i/\c8 T m R (a8++reads r i) aX g/\bT (bS m es) h (bS m aX) g/\¬bS m aX ae/\¬bS m aX ax /\
  g ae=some (.cells (ag.cells (.ws 12 fm)).toArray 69 (0,0))/\g ax=some (.cells (ag.cells (.ws 12 (if x.toNat<i then R r x.toNat else fm))).toArray 69 (0,0)),
  ⟨m.cx r,rfl,rfl,rfl,rfl,rfl,rfl,0,es,rfl,by omega,rfl,by simpa [reads] using M2,hj (aD.trans aB) _,M.out f1,M.out f20,aB.get aH,a_⟩,?_⟩
 rintro q1 aA bu aI bb aL aO g k ⟨rfl,rfl,rfl,rfl,rfl,rfl,i,aX,rfl,hi,rfl,gI,gl,e9,jT,g1,g2⟩;have rf:=rh r i;refine cj (λcl=>?_) λdH=>?_
 .have cb:i<m.cx r:=by omega
  refine⟨_,dL g2,?_⟩;refine(NF _ _).to λbw h9=>⟨_,rfl,dL (h9.get g2),?_⟩;refine(xC (gI.bA h9) aQ cb (by rw[aDs,rf];omega)).mono ?_;rintro _ g3 ⟨hp,rfl,gH,v3⟩;have lZ:=(gl.more h9).trans v3;have mS:=v3.get (h9.get g1) e9;have sZ:=v3.get (h9.get g2) jT;have n9:=v3.out (by rw[h9.get g1];simp) e9;have w7:=v3.out (by rw[h9.get g2];simp) jT;refine⟨_,rfl,dL sZ,?_⟩;refine(NG _ _ _).to λg4 bd=>⟨_,rfl,?_⟩;refine fN (n:=12) (lZ.more bd) f20 (bd.get sZ) (by simp[ag.cells]) λg5 v5 cG cz=>⟨_,?_,rfl,rfl,rfl,rfl,rfl,rfl,i+1,hp,bt,by omega,rfl,?_,v5,n9,w7,?_,?_⟩
  .omega
  .rw[EV,<-aDD];exact(gH.bA bd).move λy aC=>cz y λe=>w7 (e▸aC)
  .rw[cz _ (aDC cd)];exact bd.get mS
  .rw[cG];congr 4;rw[aeU (by omega)];by_cases c:i=x.toNat
   .rw[aDA c,aDr rfl,aDr (show x.toNat<i+1 by omega),c]
   .rw[aDz c];by_cases aY:x.toNat<i
    .rw[aDq (by simp),aDr aY,aDr (show x.toNat<i+1 by omega)]
    .rw[aDq (by simp),aDq aY,aDq (show ¬x.toNat<i+1 by omega)]
 .have:i=m.cx r:=by omega
  subst this;refine⟨_,dL g2,fN (n:=12) gl f1 g1 (by simp[ag.cells]) λg5 v5 cG cz=>⟨_,dL cG,aX,rfl,gI.move λy aC=>cz y λe=>e9 (e▸aC),v5⟩⟩
theorem Vr (M:c8 T m R a8 es h){r:Nat}(aQ:r<m.fl)(x:aE)(c:cM)(d:Bool)(aT:a8.length<4000000000000) :
 aq 60 [bm ⟨m.b,0⟩,U r,ab x,ez c,ab (mask d)] h λv af=>∃aX,v= .tuple #[]/\c8 T m (if x.toNat<m.cx r/\d=true then fM R (r,x.toNat) c else R) (a8++writes r (m.cx r)) aX af/\bT (bS m es) h (bS m aX) af:=by
 have pf:=M.cx r aQ;refine aq8 _ _ _ _ _ ?_;unfold abG;refine bP λae aa f1 aH aD=>?_;have M2:=M.bA aD;refine(tZ M2 aQ).mono ?_;rintro _ _ ⟨rfl,rfl⟩;refine⟨_,rfl,λq1 aA bu bK aI aL aO g k=>q1=⟨m.b,0⟩/\aA=r/\x=bu/\bK=mask d/\aI=⟨ae,0⟩/\aL=(m.cx r:Nat)/\∃i aX,aO=(i:Nat)/\i<=m.cx r/\k=m.cx r-i/\c8 T m (if x.toNat<i/\d=true then fM R (r,x.toNat) c else R) (a8++writes r i) aX g/\bT (bS m es) h (bS m aX) g/\¬bS m aX ae /\
  g ae=some (.cells (ag.cells (.ws 12 c)).toArray 69 (0,0)),
  ⟨m.cx r,rfl,rfl,rfl,rfl,rfl,rfl,0,es,rfl,by omega,rfl,by simpa [writes] using M2,hj aD _,M.out f1,aH⟩,?_⟩
 rintro q1 aA bu bK aI aL aO g k ⟨rfl,rfl,rfl,rfl,rfl,rfl,i,aX,rfl,hi,rfl,gI,gl,e9,g1⟩;have sW:=n6 r i;refine cj (λcl=>?_) λdH=>?_
 .have cb:i<m.cx r:=by omega
  refine(NF _ _).to λbw h9=>⟨_,rfl,_,dL (h9.get g1),?_⟩;refine(xC (gI.bA h9) aQ cb (by rw[aDs,sW];omega)).mono ?_;rintro _ g3 ⟨hp,rfl,gH,v3⟩;have mS:=v3.get (h9.get g1) e9;have n9:=v3.out (by rw[h9.get g1];simp) e9;refine⟨_,rfl,dL mS,?_⟩;rw[axa];refine(NG _ _ _).to λg4 bd=>⟨_,rfl,?_⟩;refine(An (gH.bA bd) aQ cb _ (by simp only[aDs,sW,aDS];omega)).mono ?_;rintro _ g5 ⟨s9,rfl,iU,v5⟩;have qm:=v5.get (bd.get mS) n9;have axb:=v5.out (by rw[bd.get mS];simp) n9;refine⟨rfl,_,?_,rfl,rfl,rfl,rfl,rfl,rfl,i+1,s9,bt,by omega,rfl,?_,((gl.more h9).trans (v3.more bd)).trans v5,axb,qm⟩
  .omega
  .rw[xW,show ∀a b:dk,a8++(writes r i++[a,b])=a8++writes r i++[a]++[b] by simp];rw[aeU (by omega)] at iU;have key:∀(fG:dY),fG=(if x.toNat<i/\d=true then fM R (r,x.toNat) c else R)->fM fG (r,i) (if (decide (i=x.toNat)&&d)=true then c else fG r i)=if x.toNat<i+1/\d=true then fM R (r,x.toNat) c else R:=by
    rintro fG jL;by_cases aS:i=x.toNat
    .have aa:¬(x.toNat<i/\d=true):=by omega
     rw[aDq aa] at jL;cases d with
     | true=>rw[aDr (by simp[aS]),aDr ⟨by omega,rfl⟩,jL,aS]
     | false=>rw[aDq (by simp),aDq (by simp),jL];exact LR R (r,i)
    .rw[aDq (by simp[aS])];have dM:fM fG (r,i) (fG r i)=fG:=LR fG (r,i);rw[dM,jL];by_cases aY:x.toNat<i/\d=true
     .rw[aDr aY,aDr ⟨by omega,aY.2⟩]
     .rw[aDq aY,aDq (λh=>aY ⟨by omega,h.2⟩)]
   rw[key _ rfl] at iU;exact iU
 .have:i=m.cx r:=by omega
  subst this;exact⟨aX,rfl,gI,gl⟩
end

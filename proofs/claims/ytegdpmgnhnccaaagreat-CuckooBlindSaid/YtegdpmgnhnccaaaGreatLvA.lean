import Derived.Test.YtegdpmgnhnccaaaGreatDealC
import Derived.Test.YtegdpmgnhnccaaaGreatPla
import Derived.Test.YtegdpmgnhnccaaaGreatSrtRow
namespace Go.Proofs.Tryz
open Go Go.cR Go.RowKit
set_option maxRecDepth 8000
theorem Y5 (x:Nat):Int.fdiv (x:Int) (2 ^ min (UInt64.toNat 1) 64)=((x/2:Nat):Int):=by
 show Int.fdiv (x:Int) ((2:Nat):Int)=_;cases x<;>rfl
theorem am7 {k a b:Nat}(ah:k<=10)(bY:a<2 ^ k)(ar:b<2 ^ k):fc prog 191 [U (2 ^ k),U a,U b] (U (k1 k a b)):=by
 intro h;have aP:2 ^ k<=2 ^ 10:=aDy (by decide) ah;refine am8 _ _ _ ?_;unfold Y6;refine(JV ah bY).to λaa aD=>⟨_,rfl,b3 rfl ?_⟩;refine(JV ah ar).to λad aB=>⟨_,rfl,b3 rfl ?_⟩;refine⟨λay aA aL aO g bW=>ay=2 ^ k/\∃j x y:Nat,aA=x/\aL=y/\aO=j/\j<=k/\bW=k-j/\x<2 ^ (k-j)/\y<2 ^ (k-j)/\qP k a b=j+qP (k-j) x y/\bL h g,
  ⟨k,rfl,0,a,b,rfl,rfl,rfl,by omega,rfl,bY,ar,by simp,aD.trans aB⟩,?_⟩
 rintro ay aA aL aO g bW ⟨rfl,j,x,y,rfl,rfl,rfl,aU,rfl,ai,aC,he,cY⟩;refine wb (λdA=>?_) λheq=>?_
 .have PU:x≠y:=λe=>dA (by rw[e]);have am9:j<k:=by
   rcases aDZ j k with c|c
   .exact c
   .rw[show k-j=0 by omega] at ai aC;simp at ai aC;omega
  have aH:k-j=(k-(j+1))+1:=by omega
  rw[aH] at he ai aC;rw[aD_] at ai aC;have a_:qP (k-(j+1)+1) x y=qP (k-(j+1)) (x/2) (y/2)+1:=by rw[qP,aDq PU]
  rw[a_] at he;refine⟨k-(j+1),by omega,rfl,j+1,x/2,y/2,Y5 x,Y5 y,bt,am9,rfl,by omega,by omega,by rw[he];omega,cY⟩
 .have PU:x=y:=by omega
  subst PU;refine(IL ah).to λg2 aB=>⟨_,rfl,?_,cY.trans aB⟩;have h0:qP (k-j) x x=0:=by
   cases k-j with
   | zero=>rfl
   | succ n=>unfold qP;rw[aDr rfl]
  rw[h0,aEe] at he;unfold k1;rw[he,bt];congr 1;omega
theorem wu (c:cM):ei c=decide (c[0]=1):=by unfold ei;rfl
theorem Y7 {c:cM}{k:Nat}(ah:k<=10)(h:c[2].toNat<2 ^ k):al ((c[2].toNat:Nat):Int)=((c[2].toNat:Nat):Int):=by
 have aP:2 ^ k<=2 ^ 10:=aDy (by decide) ah;exact bt
theorem am_ {P:dx}(o:P.dt){aw:Nat}(bc:aw<2 ^ P.k){c:cM}(a1:ei c=true->c[2].toNat<2 ^ P.k){h:ak}{bf:Nat}(aT:bx h bf 0=some (U (2 ^ P.k))) :
 aq 173 [bm ⟨bf,0⟩,ez c,U aw] h λv af=>v= .agg #[ab (jy P aw c).1,U (jy P aw c).2]/\bL h af:=by
 refine ana _ _ _ ?_;unfold Y8;refine bP λae aa f1 aH aD=>bP λax ad f2 a_ aB=>?_;have cU:ax≠ae:=λe=>by rw[e,aH] at f2;cases f2
 have px:=aB.get aH;have fQ:=aD.trans aB;refine⟨Int.NonNeg.mk 0,Int.NonNeg.mk 11,_,fs px (i:=0) (by decide),wb (λaK=>?_) λaC=>?_⟩
 .have ar:¬ei c=true:=by rw[wu];simpa using aK
  refine iH fQ (aD.free f2) a_ rfl λan aG b7 _=>⟨_,az b7 rfl,_,az b7 rfl,?_,aG⟩;unfold jy;rw[aDq ar]
 .have ar:ei c=true:=by rw[wu];simpa using aC
  refine⟨Int.NonNeg.mk 1,Int.NonNeg.mk 10,_,fs px (i:=1) (by decide),_,fQ.cell aT,Int.NonNeg.mk 2,Int.NonNeg.mk 9,_,fs px (i:=2) (by decide),?_⟩;rw[Y7 o.k (a1 ar)];refine(am7 o.k bc (a1 ar)).to λan aG=>⟨_,rfl,⟨fs (aG.get px) (i:=1) (by decide),trivial⟩,?_⟩;refine iH (fQ.trans aG) (aD.free f2) (aG.get a_) rfl λaJ bd b6 _=>⟨_,az b6 rfl,_,az b6 rfl,?_,bd⟩;unfold jy;rw[aDr ar]
theorem anb (d:c_):d.toList=[d[0],d[1],d[2],d[3],d[4],d[5],d[6],d[7]]:=by
 apply aEG
 .simp
 .intro i aa ad
  simp at aa;have h:i=0∨i=1∨i=2∨i=3∨i=4∨i=5∨i=6∨i=7:=by omega
  rcases h with rfl|rfl|rfl|rfl|rfl|rfl|rfl|rfl<;>simp
theorem Ky:wA prog 22 47 (.int .u64 0) 8:=⟨by kernel_rfl,by kernel_rfl,by kernel_rfl,by kernel_rfl,rfl⟩
theorem Jj {x y:ao}{h:ak}{l:List aE}(iO:e4 ab h y l){q:aF}(ai:x.q=some q){c:Nat}(a1:c=Nat.min l.length x.len){K:Nat->ak->Prop}(ah:aW h q ((l.take c).map ab) λaf=>K c af):mB prog 22 x (.s y) h K:=by
 subst a1;unfold mB;rw[Ky.FB];simp only[Ky.dR,td,oO,iO.len,ai];have hm:Nat.min l.length x.len<=l.length:=aEK _ _;refine⟨(l.take (Nat.min l.length x.len)).map ab,by simp,by simp only[aD2];rintro v ⟨a,_,rfl⟩;rfl,?_,ah⟩;cases e:y.q with
 | none=>have aa:=iO.nil e;have ad:=iO.cap;have an:=iO.len;have:l=[]:=aD9.1 (by omega);simp[this]
 | some p =>
  simp only;rw[JF];intro i hi;have cb:i<l.length:=by simp at hi;omega
  rw[iO.rd p e i cb];simp
theorem anc (a0 av aN a3 a4 a5 jf Kz ane a9 anf Y9 gA ae ax aM bM b1 dU eQ:Value):iI #[a0,av,aN,a3,a4,a5,jf,Kz,ane,a9,anf,Y9] 3 [gA,ae,ax,aM,bM,b1,dU,eQ]=#[a0,av,aN,gA,ae,ax,aM,bM,b1,dU,eQ,Y9]:=by
 apply Array.ext
 .rw[BO];rfl
 .intro i aa ad
  have h:i<12:=ad;apply aDX;rw[<-aFM,<-aFM,xA];have h:i=0∨i=1∨i=2∨i=3∨i=4∨i=5∨i=6∨i=7∨i=8∨i=9∨i=10∨i=11:=by omega
  rcases h with rfl|rfl|rfl|rfl|rfl|rfl|rfl|rfl|rfl|rfl|rfl|rfl<;>rfl
theorem ang (id l:aE)(d:c_):ag.cells (.ws 12 (lN id l d))=[ab 1,ab id,ab l,ab d[0],ab d[1],ab d[2],ab d[3],ab d[4],ab d[5],ab d[6],ab d[7],ab 0]:=by simp[ag.cells,lN]
theorem amO (id:aE){to:Nat}(bG:to<2 ^ 63)(d:c_):fc prog 155 [ab id,U to,ez d] (ez (lN id (UInt64.ofNat to) d)):=by
 intro h;refine anh _ _ _ ?_;unfold Y_;refine bP λae aa f1 aH aD=>bP λax ad f2 a_ aB=>bP λaM an f3 b7 aG=>?_;have cU:ax≠ae:=λe=>by rw[e,aH] at f2;cases f2
 have n31:aM≠ae:=λe=>by rw[e,aB.get aH] at f3;cases f3
 have n32:aM≠ax:=λe=>by rw[e,a_] at f3;cases f3
 have f30:=aD.free (aB.free f3);rw[jU bG];refine iH (aD.trans (aB.trans aG)) f30 b7 rfl λaJ bd b6 dq=>⟨Int.NonNeg.mk 11,Int.NonNeg.mk 1,Int.NonNeg.mk 3,Int.NonNeg.mk 8,?_⟩;have pO:=(dq _ (aDC n31)).trans ((aB.trans aG).get aH);have iO:e4 ab aJ ⟨fX (some ⟨ae,0⟩) 0 8 1,8,8,none⟩ d.toList:=by
  refine⟨by simp,aDt _,(by intro h;cases h),λq aj i hi=>?_⟩;cases aj;have cb:i<8:=by simpa using hi
  have:=fs pO cb;simpa using this
 refine Jj iO (q:=⟨aM,3⟩) rfl (c:=8) (by simp) ?_;refine qh bd f30 b6 (by simp) λaR bF cG cz=>?_;have uX:aR aM=some (.cells (ag.cells (.ws 12 (lN id (UInt64.ofNat to) d))).toArray 69 (0,0)):=by
  rw[cG,anb];have aH:List.map ab (List.take 8 [d[0],d[1],d[2],d[3],d[4],d[5],d[6],d[7]])=[ab d[0],ab d[1],ab d[2],ab d[3],ab d[4],ab d[5],ab d[6],ab d[7]]:=by simp
  rw[aH,anc,ang]
 refine⟨_,dL uX,?_⟩;refine pZ (n:=12) bF (aD.free f2) ((cz _ (aDC n32)).trans ((dq _ (aDC n32)).trans (aG.get a_))) rfl λbj cn dP _=>⟨_,dL dP,rfl,cn⟩
theorem ani {h:ak}{s:ao}{l:List Int}(r:e4 eo h s l)(aT:l.length<=1000000)(x:Int):aq 180 [aZ s,U x] h λv af=>v= .bool (decide (x∈l))/\af=h:=by
 refine anj _ _ ?_;unfold Za;refine ank _ _ ?_;unfold Zb;refine⟨λs1 ay aA aL g k=>s1=s/\ay=x/\aA=s.len/\g=h/\∃j:Nat,aL=j/\j<=s.len/\k=s.len-j/\x∉l.take j,⟨_,rfl,rfl,rfl,rfl,0,rfl,by omega,rfl,by simp⟩,?_⟩;rintro s1 ay aA aL g k ⟨rfl,rfl,rfl,rfl,j,rfl,wc,rfl,qw⟩;have hlen:=r.len;refine cj (λcl=>?_) λdH=>⟨_,rfl,?_,rfl⟩
 .have aU:j<l.length:=by omega
  refine r.cA aU λq _ a1=>⟨_,a1,cj (λe=>⟨_,rfl,?_,rfl⟩) λe=>⟨s1.len-(j+1),by omega,rfl,rfl,rfl,rfl,j+1,bt,by omega,rfl,λhm=>?_⟩⟩
  .rw[aDA (show(0:Int)<=(j:Int) by omega),aDA (by rw[e];exact aDR aU)]
  .rw[aEl,aDx aU] at hm;rcases aDO.1 hm with h|h
   .exact qw h
   .simp at h;exact e h
 .rw[aEd (by omega)] at qw;rw[aDz qw];rfl
theorem nd {A g_ B:Nat->Prop}{h af:ak}(v:bT A h g_ af):bT (λx=>A x∨B x) h (λx=>g_ x∨B x) af :=
 ⟨λb ar=>ar.elim (λx=>(v.1 b x).imp .inl id) λx=> .inl (.inr x),λb ar aK=>v.2.1 b ar λx=>aK (.inl x),v.2.2⟩
theorem B2 {A B qG:Nat->Prop}{h af:ak}(v:bT B h qG af):bT (λx=>A x∨B x) h (λx=>A x∨qG x) af :=
 ⟨λb ar=>ar.elim (λx=> .inl (.inl x)) λx=>(v.1 b x).imp .inr id,λb ar aK=>v.2.1 b ar λx=>aK (.inr x),v.2.2⟩
section
variable {T:TypeId} {m:jQ} {R:dY} {a8:List dk} {es:ao} {h:ak}
theorem Zc (M:c8 T m R a8 es h){bf f n:Nat}(bc:f<=1000)(aQ:f+2<m.fl)(aK:n<=m.cx (f+2))(aT:a8.length<3000000000000){v:Value}{fn:Nat->cM->cM}{S:Nat->(Nat->Prop)->ak->Prop}{F:Nat->Prop}
 (uY:S 0 F h) (b4:∀b,F b->¬bS m es b) (dK:∀i F g,S i F g->∀b,F b->g b≠none) (bA:∀i F g bw,S i F g->(∀b,F b->bw b=g b)->S i F bw)
 (gS:∀i F g,S i F g->bx g bf 3=some (bm ⟨m.b,0⟩)/\bx g bf 4=some (U f))
 (step:∀i F g,i<n->S i F g->fL prog v [U i,ez (R (f+2) i)] g λr bw=>r=ez (fn i (R (f+2) i))/\∃dZ,S (i+1) dZ bw/\bT F g dZ bw) :
 aq 171 [bm ⟨bf,0⟩,U n,v] h λr af=>∃aX dZ,r= .tuple #[]/\c8 T m (eP R (f+2) λi=>if i<n then fn i (R (f+2) i) else R (f+2) i) (a8++writes ((f:Int)+2) n) aX af/\S n dZ af/\(∀b,dZ b->¬bS m aX b)/\bT (λx=>bS m es x∨F x) h (λx=>bS m aX x∨dZ x) af:=by
 have pf:=M.cx _ aQ;refine anl _ _ _ ?_;unfold Zd;have hc:((f:Int)+2)=((f+2:Nat):Int):=by omega
 refine⟨λq1 v1 ay aA g bW=>q1=⟨bf,0⟩/\v1=v/\ay=(n:Nat)/\∃(i:Nat) (aX:ao) (dZ:Nat->Prop),aA=i/\i<=n/\bW=n-i/\c8 T m (eP R (f+2) λj=>if j<i then fn j (R (f+2) j) else R (f+2) j) (a8++writes ((f:Int)+2) i) aX g/\S i dZ g/\(∀b,dZ b->¬bS m aX b)/\bT (λx=>bS m es x∨F x) h (λx=>bS m aX x∨dZ x) g,
  ⟨n,rfl,rfl,rfl,0,es,F,rfl,by omega,rfl,?_,uY,b4,bT.refl _ _⟩,?_⟩
 .have e:(eP R (f+2) λj=>if j<0 then fn j (R (f+2) j) else R (f+2) j)=R:=by
   have:(λj=>if j<0 then fn j (R (f+2) j) else R (f+2) j)=R (f+2):=by funext j;simp
   rw[this];exact CS R _
  rw[e];simpa [writes] using M
 rintro q1 v1 ay aA g bW ⟨rfl,rfl,rfl,i,aX,dZ,rfl,hi,rfl,gI,nr,Ze,gl⟩;refine cj (λcl=>?_) λdH=>?_
 .have cb:i<n:=by omega
  obtain⟨og,vV⟩:=gS i dZ g nr;have sW:=n6 ((f:Int)+2) i;have iu:al ((f:Int)+2)=((f+2:Nat):Int):=by rw[bt];omega
  refine⟨some ⟨m.b,0⟩,og,_,vV,some ⟨m.b,0⟩,og,_,vV,?_⟩;rw[iu];refine(xC gI aQ (show i<m.cx (f+2) by omega) (by rw[aDs,sW];omega)).mono ?_;rintro _ g1 ⟨j6,rfl,oY,Zf⟩;obtain⟨s1,d1⟩:=mI Zf (dK i dZ g nr) Ze;have fz:=bA i dZ g g1 nr s1;obtain⟨anm,ann⟩:=gS i dZ g1 fz;have jL:eP R (f+2) (λj=>if j<i then fn j (R (f+2) j) else R (f+2) j) (f+2) i=R (f+2) i:=by unfold eP;rw[aDr rfl];exact aDq (Nat.lt_irrefl i)
  refine⟨_,rfl,⟨ann,trivial⟩,⟨anm,trivial⟩,?_⟩;rw[jL];refine(step i dZ g1 cb fz).mono ?_;rintro _ g2 ⟨rfl,Ab,fF,v2⟩;obtain⟨ano,anp⟩:=gS (i+1) Ab g2 fF;obtain⟨s2,d2⟩:=mI v2 (λx ai=>oY.dK ai) (λx ai hh=>d1 x hh ai);have M2:=oY.move s2;refine⟨_,rfl,⟨anp,trivial⟩,⟨ano,trivial⟩,?_⟩;refine(An M2 aQ (show i<m.cx (f+2) by omega) _ (by simp only[aDs,sW,aDS];omega)).mono ?_;rintro _ g3 ⟨hp,rfl,gH,v3⟩;obtain⟨bz,d3⟩:=mI v3 (dK (i+1) Ab g2 fF) (λx ai ub=>d2 x ub ai);have kI:=bA (i+1) Ab g2 g3 fF bz;refine⟨rfl,n-(i+1),by omega,rfl,rfl,rfl,i+1,hp,Ab,bt,by omega,rfl,?_,kI,d3,((gl.trans (nd Zf)).trans (B2 v2)).trans (nd v3)⟩;have aH:fM (eP R (f+2) λj=>if j<i then fn j (R (f+2) j) else R (f+2) j) (f+2,i) (fn i (R (f+2) i))=eP R (f+2) λj=>if j<i+1 then fn j (R (f+2) j) else R (f+2) j:=by
   funext fk j;unfold fM eP;show(if fk=f+2/\j=i then _ else if fk=f+2 then (if j<i then fn j (R (f+2) j) else R (f+2) j) else _)=if fk=f+2 then (if j<i+1 then fn j (R (f+2) j) else R (f+2) j) else _
   by_cases aS:fk=f+2
   .rw[aDr aS,aDr aS];by_cases aY:j=i
    .rw[aDr ⟨aS,aY⟩,eY,aY]
    .rw[aDq (λh=>aY h.2)];by_cases cB:j<i
     .rw[aDr cB,eY]
     .rw[aDq cB,cS]
   .rw[aDq (λh=>aS h.1),aDq aS,aDq aS]
  rw[aH] at gH;rw[xW,show ∀a b:dk,a8++(writes ((f:Int)+2) i++[a,b])=a8++writes ((f:Int)+2) i++[a]++[b] by simp,hc];rw[hc] at gH;exact gH
 .have:i=n:=by omega
  subst this;exact⟨aX,dZ,rfl,gI,nr,Ze,gl⟩
end
end Go.Proofs.Tryz
namespace Go.Proofs.Tryz
open Go Go.cR Go.RowKit
set_option maxRecDepth 8000
theorem _root_.Go.cR.dx.dt.gS {P:dx}(o:P.dt):lG P.k P.s P.t:=⟨o.k,by have:=o.s;omega,by have:=o.t;omega⟩
theorem Pt (P:dx):hL P.k P.s P.t=(P.n:Nat):=by unfold hL dx.n;simp
abbrev n3 (P:dx)(CX f:Nat)(fb:Bool)(mp:Nat):Array Value:=#[U (2 ^ P.k),U P.s,U P.t,bm ⟨CX,0⟩,U f,.bool fb,.map (some mp)]
def rowOf (P:dx)(aw i:Nat)(c:cM):Row:=⟨ox P aw i c,(jy P aw c).1,(jy P aw c).2⟩
theorem anq:ph prog 269 274 3 (.agg #[.int .u64 0,.int .u64 0,U 0]) 24:=⟨by kernel_rfl,by kernel_rfl,by kernel_rfl,by kernel_rfl,rfl⟩
theorem anr:ph prog 280 271 2 (.agg #[.int .u64 0,U 0]) 16:=⟨by kernel_rfl,by kernel_rfl,by kernel_rfl,by kernel_rfl,rfl⟩
theorem Zg {P:dx}{aw:Nat}{c:cM}(h:ei c=true):jy P aw c=(c[1],((k1 P.k aw c[2].toNat:Nat):Int)):=by unfold jy;rw[aDr h]
theorem PV (c:cM)(x y:aE):(c.set 11 x).set 11 y=c.set 11 y:=by
 apply aEO;intro i hi;simp[aEa]
theorem ans {P:dx}(o:P.dt){aw:Nat}(bc:aw<2 ^ P.k){bf ae ax aM bM b1:Nat}{g:ak}{T:TypeId}{s:ao}{l:List Row}
 (aH:bx g ae 0=some (bm ⟨bf,0⟩)) (dM:bx g bf 0=some (U (2 ^ P.k))) (a_:bx g ax 0=some (U aw)) (b6:bx g bM 0=some (U P.n)) (b7:bx g aM 0=some (U P.k))
 (B:hR 3 ya T g b1 s l) (aT:l.length<=100000) {i:Nat} (hi:i<100000) (c:cM) (a1:ei c=true->c[2].toNat<2 ^ P.k) :
 fL prog (.func (.func 172) #[] #[bm ⟨ae,0⟩,bm ⟨ax,0⟩,bm ⟨bM,0⟩,bm ⟨aM,0⟩,bm ⟨b1,0⟩]) [U i,ez c] g λr bw=>r=ez (c.set 11 (ox P aw i c))/\∃cE,hR 3 ya T bw b1 cE (l++[rowOf P aw i c])/\bT (hC b1 s) g (hC b1 cE) bw:=by
 refine⟨rfl,?_⟩;refine ant _ _ _ _ _ _ _ ?_;unfold Zh;refine bP λbu g1 f1 mw aD=>bP λbK g2 f2 k9 aB=>?_;have cU:bK≠bu:=λe=>by rw[e,mw] at f2;cases f2
 have uW:=aB.get mw;have fQ:=aD.trans aB;refine⟨some ⟨bf,0⟩,fQ.cell aH,_,dL uW,_,fQ.cell a_,?_⟩;refine(am_ o bc a1 (fQ.cell dM)).mono ?_;rintro _ g3 ⟨rfl,aG⟩;refine⟨_,_,rfl,bP λch g4 f4 s0 bd=>?_⟩;have n4:=fQ.trans aG;have wy:=n4.trans bd;have f40:g ch=none:=n4.free f4;have f20:g bK=none:=aD.free f2;have n31:ch≠bu:=λe=>by rw[e,aG.get uW] at f4;cases f4
 have n32:ch≠bK:=λe=>by rw[e,aG.get k9] at f4;cases f4
 refine iH wy f40 s0 rfl λg5 bF jk cz=>⟨Int.NonNeg.mk 11,Int.NonNeg.mk 0,?_⟩;have anu:g5 bu=_:=(cz _ (aDC n31)).trans ((aG.trans bd).get uW);have anv:g5 bK=_:=(cz _ (aDC n32)).trans ((aG.trans bd).get k9);refine qu bF f1 anu (i:=11) (by decide) λg6 cn pj ek=>?_;have Gl:=(ek _ n31).trans jk;have PW:=(ek _ cU).trans anv;rw[jU (show i<2 ^ 63 by omega)] at pj;have fin:∀(g7:ak) (key:aE),bL g g7->g7 bu=some (.cells (ag.cells (.ws 12 (c.set 11 key))).toArray 69 (0,0))->g7 ch=some (.cells #[ab (jy P aw c).1,U (jy P aw c).2] 271 (0,0))->(∃a t,g7 bK=ev a t/\a.size=12)->key=ox P aw i c ->
  ∃s1,bx g7 b1 0=some (aZ s1)/\Int.NonNeg 11/\Int.NonNeg 0/\∃dc,bx g7 bu 11=some (ab dc)/\∃er,bx g7 ch 0=some (ab er)/\∃bB,bx g7 ch (0+1)=some (U bB)/\bg g7 (.cells #[ab dc,ab er,U bB] 274) λbM bR=>eI prog 269 s1 (.s ⟨some ⟨bM,0⟩,1,1,none⟩) bR λs2 b9=>aW b9 ⟨b1,0⟩ [aZ s2] λcp=>∃aY:cM,b5 cp bu 0 aY/\aW cp ⟨bK,0⟩ (ag.cells (.ws 12 aY)) λcf=>∃cB:cM,b5 cf bK 0 cB /\
   (ez cB=ez (c.set 11 (ox P aw i c))/\∃cE,hR 3 ya T cf b1 cE (l++[rowOf P aw i c])/\bT (hC b1 s) g (hC b1 cE) cf):=by
  rintro g7 key c3 av a3 ⟨a,t,aN,KA⟩ rfl;have su:=B.bA c3;refine⟨_,az su.cell rfl,Int.NonNeg.mk 11,Int.NonNeg.mk 0,_,fs av (i:=11) (by decide),_,az a3 rfl,_,az a3 rfl,?_⟩;rw[yb];refine hR.push anq uZ anw su [rowOf P aw i c] (by rfl) rfl (by simp;omega) (by decide) λcE g8 O_ fh=>?_;have hG:∀x,g x=none->g7 x≠none->¬hC b1 s x:=λx aa _ h=>B.dK h aa;have dD:=fh.get av (hG bu f1 (by rw[av];simp));have h7:=fh.get aN (hG bK f20 (by rw[aN];simp));have aA:¬hC b1 cE bK:=fh.out (by rw[aN];simp) (hG bK f20 (by rw[aN];simp));refine⟨_,dL dD,?_⟩;refine fN (n:=12) ((hj c3 _).trans fh) f20 h7 KA λg9 v9 gm e3=>⟨_,dL gm,rfl,cE,O_.move λx ai=>e3 x λe=>aA (e▸ai),v9⟩
 refine⟨_,cn.cell b6,cj (λuO=>?_) λuO=>?_⟩
 .refine⟨Int.NonNeg.mk 0,Int.NonNeg.mk 11,_,fs pj (i:=0) (by decide),?_⟩;rw[Zi];refine iN (λar=>?_) λar=>?_
  .have hY:ei c=true:=by rw[wu];simpa using ar
   refine⟨_,cn.cell b7,_,az Gl rfl,_,az Gl rfl,Int.NonNeg.mk 11,Int.NonNeg.mk 0,?_⟩;refine qu cn f1 pj (i:=11) (by decide) λg7 c3 qo eF=>?_;rw[PV] at qo;refine fin g7 _ c3 qo ((eF _ n31).trans Gl) ⟨_,_,(eF _ cU).trans PW,rfl⟩ ?_;have b4:=CY P.k aw c[2].toNat;have ah:=o.k;rw[Zg hY];unfold ox;rw[aDr ⟨by omega,hY⟩];have cG:al ((P.k:Int)-((k1 P.k aw c[2].toNat:Nat):Int))=((P.k-k1 P.k aw c[2].toNat:Nat):Int):=by rw[bt];omega
   show cX (al ((P.k:Int)-((k1 P.k aw c[2].toNat:Nat):Int)))*(4294967296:aE)+c[1]=_;rw[cG,jU (by omega)]
  .have hY:¬ei c=true:=by rw[wu];simpa using ar
   refine fin g6 _ cn pj Gl ⟨_,_,PW,rfl⟩ ?_;unfold ox;rw[aDq λh=>hY h.2]
 .refine fin g6 _ cn pj Gl ⟨_,_,PW,rfl⟩ ?_;unfold ox;rw[aDq λh=>uO (by have:=h.1;omega)]
theorem CU:ag.cells (.ws 12 fm)=[ab 0,ab 0,ab 0,ab 0,ab 0,ab 0,ab 0,ab 0,ab 0,ab 0,ab 0,ab 0]:=by rfl
theorem mem_cast {l:List Nat}{i:Nat}:((i:Int)∈l.map λp:Nat=>(p:Int))↔i∈l:=by
 rw[aD2];constructor
 .rintro⟨a,aa,ad⟩;have:a=i:=by omega
  exact this▸aa
 .exact λh=>⟨i,h,rfl⟩
def CZ (n:Nat)(pl lo:List Nat)(i:Nat)(c:cM):cM:=(if i∈lo then fm else c).set 11 (if i<n then UInt64.ofNat (pl.getD i 0) else UInt64.ofNat i)
theorem anx {n:Nat}{pl lo:List Nat}{bM fS iR:Nat}{g:ak}{dS fY:ao}
 (gm:bx g iR 0=some (aZ fY)) (b6:bx g bM 0=some (U n)) (fO:bx g fS 0=some (aZ dS)) (anz:e4 eo g fY (lo.map λp:Nat=>(p:Int))) (anA:e4 eo g dS (pl.map λp:Nat=>(p:Int)))
 (aK:pl.length=n) (ar:∀x∈pl,x<2 ^ 63) (aT:lo.length<=1000000) {i:Nat} (hi:i<100000) (c:cM) :
 fL prog (.func (.func 179) #[] #[bm ⟨iR,0⟩,bm ⟨bM,0⟩,bm ⟨fS,0⟩]) [U i,ez c] g λr bw=>r=ez (CZ n pl lo i c)/\bL g bw:=by
 refine⟨rfl,?_⟩;refine anB _ _ _ _ _ ?_;unfold Zj;refine bP λbu g1 f1 mw aD=>bP λbK g2 f2 k9 aB=>?_;have cU:bK≠bu:=λe=>by rw[e,mw] at f2;cases f2
 have uW:=aB.get mw;have fQ:=aD.trans aB;have f20:g bK=none:=aD.free f2;refine⟨_,fQ.cell gm,?_⟩;refine(ani (anz.bA fQ) (by simpa using aT) (i:Int)).mono ?_;rintro _ g3 ⟨rfl,rfl⟩;refine⟨_,rfl,?_⟩;have fin:∀(g5:ak) (d:cM),bL g g5->g5 bu=some (.cells (ag.cells (.ws 12 (d.set 11 (UInt64.ofNat i)))).toArray 69 (0,0))->(∃a t,g5 bK=ev a t/\a.size=12)->d=(if i∈lo then fm else c) ->
  ∃ay,bx g5 bM 0=some (U ay)/\bl (decide ((i:Int)<ay)) (∃s2,bx g5 fS 0=some (aZ s2)/\∃q1,ao.q s2=some q1/\0<=(i:Int)/\(i:Int)+1<=(s2.len:Int)/\∃aA,bx g5 q1.b (q1.o+Int.toNat (i:Int)*1)=some (U aA)/\Int.NonNeg 11/\Int.NonNeg 0/\aW g5 ⟨bu,0+11⟩ [ab (cX aA)] λbj=>∃aS:cM,b5 bj bu 0 aS/\aW bj ⟨bK,0⟩ (ag.cells (.ws 12 aS)) λbU=>∃aY:cM,b5 bU bK 0 aY/\(ez aY=ez (CZ n pl lo i c)/\bL g bU))
   (∃cB:cM,b5 g5 bu 0 cB/\aW g5 ⟨bK,0⟩ (ag.cells (.ws 12 cB)) λbR=>∃dQ:cM,b5 bR bK 0 dQ/\(ez dQ=ez (CZ n pl lo i c)/\bL g bR)):=by
  rintro g5 d bF av ⟨a,t,aN,KA⟩ rfl;refine⟨_,bF.cell b6,cj (λuO=>?_) λuO=>?_⟩
  .have cb:i<pl.length:=by omega
   refine⟨_,bF.cell fO,?_⟩;refine(anA.bA bF).cA (i:=i) (by simpa using cb) λq _ a1=>?_;have dd:(pl.map λp:Nat=>(p:Int))[i]'(by simpa using cb)=((pl.getD i 0:Nat):Int):=by simp[List.getD,cb]
   rw[dd] at a1;have cl:pl.getD i 0<2 ^ 63:=by
    have:pl.getD i 0=pl[i]:=by simp[List.getD,cb]
    rw[this];exact ar _ (aDR cb)
   refine⟨_,a1,Int.NonNeg.mk 11,Int.NonNeg.mk 0,?_⟩;refine qu bF f1 av (i:=11) (by decide) λg6 cn pj ek=>?_;rw[PV,jU cl] at pj;refine⟨_,dL pj,pZ (n:=12) cn f20 ((ek _ cU).trans aN) KA λg7 c3 qo _=>⟨_,dL qo,?_,c3⟩⟩;unfold CZ;rw[aDr (show i<n by omega)]
  .refine⟨_,dL av,pZ (n:=12) bF f20 aN KA λg7 c3 qo _=>⟨_,dL qo,?_,c3⟩⟩;unfold CZ;rw[aDq (show ¬i<n by omega)]
 refine iN (λbG=>?_) λbG=>?_
 .have hm:i∈lo:=mem_cast.1 (aDN bG);rw[<-CU];refine pZ (n:=12) fQ f1 uW (by simp[ag.cells]) λg4 bd s0 dq=>⟨Int.NonNeg.mk 11,Int.NonNeg.mk 0,?_⟩;refine qu bd f1 s0 (i:=11) (by decide) λg5 bF jk cz=>?_;rw[jU (show i<2 ^ 63 by omega)] at jk;exact fin g5 fm bF jk ⟨_,_,(cz _ cU).trans ((dq _ cU).trans k9),rfl⟩ (by rw[aDr hm])
 .have hm:i∉lo:=λh=>aD3 bG (mem_cast.2 h);refine⟨Int.NonNeg.mk 11,Int.NonNeg.mk 0,?_⟩;refine qu fQ f1 uW (i:=11) (by decide) λg5 bF jk cz=>?_;rw[jU (show i<2 ^ 63 by omega)] at jk;exact fin g5 c bF jk ⟨_,_,(cz _ cU).trans k9,rfl⟩ (by rw[aDq hm])
theorem anC (D:Nat->Prop)(h0:ak):r7 prog D h0 (.func (.func 176) #[] #[]) C0 (λr=>r.key.toNat) (λ_=>True):=by
 intro h O x y _ _;refine⟨rfl,?_⟩;refine anD _ _ _ _ _ _ ?_;unfold Zk;refine bP λbu g1 f1 mw aD=>bP λbK g2 f2 k9 aB=>⟨_,az (aB.get mw) rfl,_,az k9 rfl,?_⟩;refine(WJ x.key y.key).to λg3 aG=>⟨_,rfl,_,rfl,?_,(aD.trans aB).trans aG⟩;rw[<-aEn];constructor
 .intro h;by_cases c:x.key<y.key
  .exact c
  .rw[aDq c] at h;split at h<;>omega
 .intro h;rw[aDr h];decide
end Go.Proofs.Tryz
namespace Go.Proofs.Tryz
open Go Go.cR Go.RowKit
set_option maxRecDepth 8000
theorem Zl {k a b:Nat}(ah:k<=1000)(h:a<=b):jY (oZ k a)<=jY (oZ k b):=by
 have neg:∀x:aE×Int,x.2<0->jY x=1001*18446744073709551616:=λx ai=>by unfold jY;rw[aDr ai]
 have le:∀c,jY (oZ k c)<=1001*18446744073709551616:=λc=>by
  unfold jY;split
  .exact aDt _
  .have:=(oZ k c).1.toNat_lt;omega
 by_cases ar:b<4611686018427387904
 .have bY:a<4611686018427387904:=by omega
  by_cases hG:(k:Int)-(b/4294967296:Nat)<0
  .rw[neg (oZ k b) (by unfold oZ;rw[aDr ar];exact hG)];exact le a
  .have anE:¬(k:Int)-(a/4294967296:Nat)<0:=by omega
   unfold oZ;rw[aDr ar,aDr bY];unfold jY;rw[aDq anE,aDq hG];have aH:(UInt64.ofNat (a%4294967296)).toNat=a%4294967296:=by rw[aDw];omega
   have a_:(UInt64.ofNat (b%4294967296)).toNat=b%4294967296:=by rw[aDw];omega
   show _*18446744073709551616+(UInt64.ofNat (a%4294967296)).toNat<=_*18446744073709551616+(UInt64.ofNat (b%4294967296)).toNat;rw[aH,a_];omega
 .rw[neg (oZ k b) (by unfold oZ;rw[aDq ar];decide)];exact le a
theorem bT.to {A B C:Nat->Prop}{h0 h:ak}(v:bT A h0 B h)(sy:∀x,C x->B x∨h0 x=none):bT A h0 C h :=
 ⟨λb ar=>(sy b ar).elim (v.1 b) .inr,v.2.1,v.2.2⟩
theorem PX {A B:Nat->Prop}{h0 h:ak}{b o:Nat}{c:Array Value}{t:TypeId}{l:List Value}{K:ak->Prop}(v:bT A h0 B h)(ar:B b)(e:h b=ev c t)(aV:o+l.length<=c.size)
 (ah:∀af,bT A h0 B af->af b=ev (iI c o l) t->(∀x,x≠b->af x=h x)->K af):aW h ⟨b,o⟩ l K:=by
 refine⟨c,t,e,aV,ah _ ⟨v.1,λx ai aK=>?_,λx ai=>?_⟩ (eC _ _ _) λx ai=>cu _ _ ai⟩
 .have:x≠b:=λe=>by subst e;exact(v.1 x ar).elim aK ai
  rw[cu _ _ this,v.2.1 x ai aK]
 .by_cases e:x=b
  .rw[e,eC] at ai;cases ai
  .rw[cu _ _ e] at ai;exact v.2.2 x ai
theorem anF {D F:Nat->Prop}{h af:ak}(O:eb D h af)(fA:∀x,D x->F x)(aK:∀x,D x->af x≠none):bT F h F af :=
 ⟨λ_ h=> .inl h,λx ai bc=>O x ai λd=>bc (fA x d),λx ai=>Classical.byContradiction λa1=>by
  by_cases d:D x
  .exact aK x d ai
  .rw[O x a1 d] at ai;exact a1 ai⟩
theorem fR.anG {α:Type}{k:Nat}{f:α->List Value}(bc:∀x,(f x).length=k){h:ak}{s:ao}{l:List α}(r:fR f h s l){n:Nat}(aK:n<=l.length):fR f h ⟨fX s.p 0 s.cap k,n-0,s.cap-0,hZ s.z 0 s.cap k⟩ (l.take n):=by
 have hlen:=r.len;have vz:=r.cap;have aj:ao.q ⟨fX s.p 0 s.cap k,n-0,s.cap-0,hZ s.z 0 s.cap k⟩=s.q:=by
  obtain⟨p,k,c,z⟩:=s;simp only[ao.q,hZ,fX,Nat.zero_mul,or_true,aEv];cases z with
  | some z=>rfl
  | none =>
   simp only;split
   .rfl
   .cases p<;>rfl
 refine⟨by simp;omega,by simp;omega,λe=>?_,λq nL=>?_⟩
 .rw[aj] at e;have:=r.nil e;simp;exact this
 .rw[aj] at nL;have e:l.flatMap f=(l.take n).flatMap f++(l.drop n).flatMap f:=by rw[<-aEB,aEz]
  have:=r.rd q nL;rw[pJ] at this ⊢;intro i hi;have:=this i (by rw[e,aDs];omega);rw[this];congr 1;simp only[e];rw[List.getElem_append_left hi]
theorem Ap (R:dY)(r:Nat)(f g:Nat->cM):eP (eP R r f) r g=eP R r g:=by
 funext fk i;unfold eP;by_cases c:fk=r
 .rw[aDr c,aDr c]
 .rw[aDq c,aDq c,aDq c]
theorem tw (R:dY)(r:Nat)(f:Nat->cM):eP R r f r=f:=by funext i;unfold eP;rw[aDr rfl]
section
variable {T:TypeId} {m:jQ} {R:dY} {a8:List dk} {es:ao} {h:ak}
theorem c8.congr (M:c8 T m R a8 es h){dG:dY}(jL:∀r,r<m.fl->∀j,j<m.cx r->dG r j=R r j):c8 T m dG a8 es h :=
 ⟨M.top,M.wj,M.fl,M.len,M.row,λi hi=>by
  obtain⟨c,t,e,aV,r⟩:=M.fJ i hi;refine⟨c,t,e,aV,λj aU k ah=>?_⟩;rw[jL i hi j aU];exact r j aU k ah,M.cx,M.d1,M.d2,M.d3,M.d4⟩
theorem c8.CV {r n:Nat}{f g:Nat->cM}(M:c8 T m (eP R r λi=>if i<n then f i else g i) a8 es h)(aK:m.cx r<=n):c8 T m (eP R r f) a8 es h :=
 M.congr λfk _ j aU=>by
  unfold eP;by_cases c:fk=r
  .subst c;rw[aDr rfl,aDr rfl];exact(aDr (show j<n by omega)).symm
  .rw[aDq c,aDq c]
end
end Go.Proofs.Tryz
namespace Go.Proofs.Tryz
open Go Go.cR Go.RowKit
set_option maxRecDepth 8000
section
variable {T:TypeId} {m:jQ} {R:dY} {a8:List dk} {es:ao} {h:ak}
theorem Zm (M:c8 T m R a8 es h){r K k N:Nat}(aQ:r<m.fl)(eL:K<=10)(jE:N=2 ^ K)(aK:N<=m.cx r)(ah:k<12)(aT:a8.length<3000000000000) :
 aq 174 [bm ⟨m.b,0⟩,U r,U N,U k] h λv af=>∃aX,v=U 0/\c8 T m (eP R r (iw (iS k ah) (jN K) (R r))) (a8++sb r K) aX af/\bT (bS m es) h (bS m aX) af:=by
 subst jE;have:=anH M aQ eL aK ah aT;rw[show(2:Int) ^ K=((2 ^ K:Nat):Int) by simp] at this;exact this
theorem KB (f E:Nat):writes ((f:Int)+2) (2 ^ E)++sb ((f+2:Nat):Int) E=h5 f E:=by
 unfold h5;rw[show((f+2:Nat):Int)=(f:Int)+2 by omega]
theorem Ki (f:Int){E:Nat}(jw:E<=8):(h5 f E).length<=512+4*102400:=by
 have aa:=z_ (K:=E) (by omega);have ad:2 ^ E<=256:=aDy (n:=2) (by decide) jw;unfold h5 sb;rw[aDs,n6,zC];omega
def Zn (P:dx)(r:Row):Prop:=(r.id,r.deep)=oZ P.k r.key.toNat
theorem amQ {P:dx}(o:P.dt)(M:c8 T m R a8 es h){jo:TypeId}{bf f mp:Nat}{fb:Bool}(jw:mj P.k P.s P.t=2 ^ P.E)(kW:h bf=ev (n3 P m.b f fb mp) jo)(wm:¬bS m es bf)
 (bc:f<=1000) (aQ:f+2<m.fl) (pf:m.cx (f+2)=2 ^ P.E) {aw:Nat} (hc:aw<2 ^ P.k) (ef:yc P (R (f+2))) (aT:a8.length<2000000000000) :
 aq 156 [bm ⟨bf,0⟩,U aw] h λv af=>∃aX,v= .tuple #[]/\c8 T m (eP R (f+2) (kH P aw (R (f+2)))) (a8++(h5 f P.E++h5 f P.E)) aX af /\
  af bf=ev (n3 P m.b f (fb||l9 P aw (R (f+2))) mp) jo/\¬bS m aX bf/\bT (λx=>bS m es x∨x=bf) h (λx=>bS m aX x∨x=bf) af:=by
 have ol:=o.gS;have anI:=Ai o;have Aj:=o.E;have q9:=Ki (f:Int) Aj;have aK:=o.n;have jE:(2:Int) ^ P.E=((2 ^ P.E:Nat):Int):=by simp
 rw[jE] at jw;generalize u1:2 ^ P.E=N at *;have iu:al ((f:Int)+2)=((f+2:Nat):Int):=by rw[bt];omega
 refine anJ _ _ ?_;unfold Zo;refine bP λae aa f1 aH aD=>bP λax ad f2 a_ aB=>?_;have cU:ax≠ae:=λe=>by rw[e,aH] at f2;cases f2
 have ik:=aB.get aH;have fQ:=aD.trans aB;have gg:=fQ.get kW;refine⟨some ⟨bf,0⟩,az ik rfl,_,rfl,_,az gg rfl,_,az gg rfl,_,az gg rfl,?_⟩;refine(Nd ol).to λan aG=>⟨_,_,_,rfl,bP λaM aJ f4 b6 bd=>?_⟩;have u2:=aG.trans bd;have wy:=fQ.trans u2;have f30:h aM=none:=(fQ.trans aG).free f4;have n31:aM≠ae:=λe=>by rw[e,aG.get ik] at f4;cases f4
 have n32:aM≠ax:=λe=>by rw[e,aG.get a_] at f4;cases f4
 have Zp:bf≠aM:=λe=>by rw[<-e,kW] at f30;cases f30
 refine iH wy f30 b6 rfl λaR bF cG cz=>⟨_,az cG rfl,_,az cG rfl,_,az cG rfl,?_⟩;have pd:=(cz _ (aDC n31)).trans (u2.get ik);have Gm:=(cz _ (aDC n32)).trans (u2.get a_);have nH:=bF.get kW;refine⟨some ⟨bf,0⟩,az pd rfl,_,rfl,_,az nH rfl,_,az nH rfl,_,az nH rfl,?_⟩;refine(Nc ol.sM).to λbj cn=>⟨_,rfl,⟨az (cn.get nH) rfl,az (cn.get nH) rfl,az (cn.get nH) rfl,trivial⟩,⟨az (cn.get pd) rfl,trivial⟩,?_⟩;refine(EL ol).to λbU c3=>⟨_,rfl,bP λbM bR f8 fO eO=>?_⟩;have lL:(P.s:Int)*((P.k:Int)+1)+(P.t:Int)+1=(P.n:Nat):=Pt P;rw[jw,lL];have As:=(cn.trans c3).trans eO;have KC:=bF.trans As;have f40:h bM=none:=(bF.trans (cn.trans c3)).free f8;have n41:bM≠ae:=λe=>by rw[e,(cn.trans c3).get pd] at f8;cases f8
 have n42:bM≠ax:=λe=>by rw[e,(cn.trans c3).get Gm] at f8;cases f8
 have n43:bM≠aM:=λe=>by rw[e,(cn.trans c3).get cG] at f8;cases f8
 refine iH KC f40 fO rfl λb9 en gm e3=>bP λb1 cp f10 pe eZ=>?_;have KD:=eZ.get ((e3 _ (aDC n41)).trans (As.get pd));have oq:=eZ.get ((e3 _ (aDC n42)).trans (As.get Gm));have wB:=eZ.get ((e3 _ (aDC n43)).trans (As.get cG));have o0:=eZ.get gm;have PY:=en.trans eZ;have KE:=PY.get kW;have f50:h b1=none:=en.free f10;have f20:h ax=none:=aD.free f2;let Z:Nat->Prop:=λx=>x=bf∨x=ae∨x=ax∨x=aM∨x=bM;have kJ:∀x,Z x->cp x≠none:=by
  rintro x (rfl|rfl|rfl|rfl|rfl)
  .rw[KE];simp
  .rw[KD];simp
  .rw[oq];simp
  .rw[wB];simp
  .rw[o0];simp
 have KF:∀x,Z x->x=bf∨h x=none:=by
  rintro x (rfl|rfl|rfl|rfl|rfl)
  .exact .inl rfl
  .exact .inr f1
  .exact .inr f20
  .exact .inr f30
  .exact .inr f40
 have anK:¬Z b1:=λz=>by
  have:=kJ b1 z;rcases z with e|e|e|e|e
  all_goals rw[e] at f10
  .rw[en.get kW] at f10;cases f10
  .rw[(e3 _ (aDC n41)).trans (As.get pd)] at f10;cases f10
  .rw[(e3 _ (aDC n42)).trans (As.get Gm)] at f10;cases f10
  .rw[(e3 _ (aDC n43)).trans (As.get cG)] at f10;cases f10
  .rw[gm] at f10;cases f10
 have anL:∀x,Z x->¬bS m es x:=λx z hm=>by
  rcases KF x z with rfl|ai
  .exact wm hm
  .exact M.dK hm ai
 have PZ:=M.bA PY;let anM:Nat->cM->cM:=λi c=>c.set 11 (ox P aw i c);let rows:Nat->List Row:=λi=>(List.range i).map λj=>rowOf P aw j (R (f+2) j);let S:Nat->(Nat->Prop)->ak->Prop:=λi F g=>∃s,F=(λx=>Z x∨hC b1 s x)/\hR 3 ya 269 g b1 s (rows i)/\(∀x,Z x->g x=cp x)/\(∀x,Z x->¬hC b1 s x);have anN:S 0 (λx=>Z x∨hC b1 ⟨none,0,0,none⟩ x) cp:=by
  refine⟨_,rfl,⟨pe,ct.gy ..,λp aP=>(by cases aP)⟩,λ_ _=>rfl,?_⟩;rintro x z (rfl|⟨p,aP,_⟩)
  .exact anK z
  .cases aP
 have Zq:∀i F g,S i F g->∀b,F b->g b≠none:=by
  rintro i _ g ⟨s,rfl,B,bn,_⟩ b (z|ar)
  .rw[bn b z];exact kJ b z
  .exact B.dK ar
 have anO:∀i F g bw,S i F g->(∀b,F b->bw b=g b)->S i F bw:=by
  rintro i _ g bw ⟨s,rfl,B,bn,aK⟩ aV;exact⟨s,rfl,B.move λx ai=>aV x (.inr ai),λx z=>(aV x (.inl z)).trans (bn x z),aK⟩
 have anP:∀i F g,S i F g->bx g bf 3=some (bm ⟨m.b,0⟩)/\bx g bf 4=some (U f):=by
  rintro i _ g ⟨s,rfl,B,bn,aK⟩;have:=(bn bf (.inl rfl)).trans KE;exact⟨az this rfl,az this rfl⟩
 refine⟨some ⟨bf,0⟩,az KD rfl,?_⟩;refine(Zc PZ bc aQ (n:=N) (by omega) (by omega) (fn:=anM) (S:=S) anN ?_ Zq anO anP ?_).mono ?_
 .rintro b (z|rfl|⟨p,aP,_⟩)
  .exact anL b z
  .exact λhm=>M.dK hm f50
  .cases aP
 .rintro i _ g hi ⟨s,rfl,B,bn,anQ⟩;have cW:=(bn bf (.inl rfl)).trans KE;have g1:=(bn ae (.inr (.inl rfl))).trans KD;have g2:=(bn ax (.inr (.inr (.inl rfl)))).trans oq;have g3:=(bn aM (.inr (.inr (.inr (.inl rfl))))).trans wB;have g4:=(bn bM (.inr (.inr (.inr (.inr rfl))))).trans o0;refine(ans o hc (az g1 rfl) (az cW rfl) (az g2 rfl) (az g4 rfl) (az g3 rfl) B (by simp[rows];omega) (i:=i) (by omega) (R (f+2) i) (λar=>ef.leaf i ar)).mono ?_;rintro _ bw ⟨rfl,cE,qG,gx⟩;have ap:=mI gx (λx z=>by rw[bn x z];exact kJ x z) anQ;refine⟨rfl,_,⟨cE,rfl,?_,λx z=>(ap.1 x z).trans (bn x z),ap.2⟩,B2 gx⟩;have e:rows (i+1)=rows i++[rowOf P aw i (R (f+2) i)]:=by simp[rows,aDQ]
  rw[e];exact qG
 rintro _ cf ⟨j6,Aa,rfl,Gn,Zr,d11,v11⟩;have wl:=n6 ((f:Int)+2) N;have KG:bT (λx=>bS m es x∨x=bf) h (λx=>bS m es x∨(Z x∨hC b1 ⟨none,0,0,none⟩ x)) cp:=(hj PY _).to λx ai=>by
  rcases ai with ai|z|rfl|⟨p,aP,_⟩
  .exact .inl (.inl ai)
  .exact(KF x z).imp .inr id
  .exact .inr f50
  .cases aP
 have P0:=KG.trans v11;have anR:=Zq N Aa cf Zr;have Gn:c8 T m (eP R (f+2) (hH P aw (R (f+2)))) _ _ _:=c8.CV (f:=hH P aw (R (f+2))) (g:=R (f+2)) Gn (by omega);obtain⟨s,rfl,Pb,C1,anS⟩:=Zr;have P1:=(C1 bf (.inl rfl)).trans KE;have P2:=(C1 ae (.inr (.inl rfl))).trans KD;have anT:=(C1 aM (.inr (.inr (.inr (.inl rfl))))).trans wB;have anU:=(C1 bM (.inr (.inr (.inr (.inr rfl))))).trans o0;refine⟨rfl,some ⟨bf,0⟩,az P2 rfl,_,rfl,some ⟨m.b,0⟩,az P1 rfl,some ⟨bf,0⟩,az P2 rfl,_,rfl,_,az P1 rfl,?_⟩;rw[iu];refine(Zm Gn aQ (by omega) u1.symm (by omega) (k:=11) (by decide) (by simp only[aDs,wl];omega)).mono ?_;rintro _ bN ⟨d_,rfl,At,iV⟩;have At:c8 T m (eP R (f+2) (fy P aw (R (f+2)))) (a8++h5 f P.E) d_ bN:=by
  rw[Ap,tw,aDD,<-u1,KB] at At;exact At
 obtain⟨gJ,d12⟩:=mI iV anR d11;have tq:=Pb.move λx ai=>gJ x (.inr ai);have P3:=P0.trans (nd iV);refine⟨_,rfl,s,az tq.cell rfl,?_⟩;let D:Nat->Prop:=λx=>∃q,s.q=some q/\x=q.b;refine(anV (anC D bN) (λq aj=>⟨q,aj,rfl⟩) (n:=N) (by omega) (d:=λj=>rowOf P aw j (R (f+2) j)) tq.own (eb.refl _ _) (λ_ _=>trivial)).mono ?_;rintro _ dB ⟨rfl,bO,C2,KH,Zs,j_,_⟩;have anW:∀x,D x->dB x≠none:=by rintro _ ⟨q,aj,rfl⟩;exact(C2.bp aj).2
 have C3:=P3.trans (anF KH (λx b4=> .inr (.inr (.inr b4))) anW);have Gp:∀x,Z x->dB x=cf x:=λx z=>by
  rw[KH x (by rw[gJ x (.inl z),C1 x z];exact kJ x z) λd=>anS x z (.inr d),gJ x (.inl z)]
 have KI:=At.move λx ai=>KH x (At.dK ai) λd=>d12 x (.inr (.inr d)) ai;have l_:dB b1=some (.cells #[aZ s] 269 (0,0)):=by
  rw[KH b1 (by rw[tq.cell];simp) fun⟨q,aj,e⟩=>tq.ne q aj e.symm,tq.cell]
 have H1:=(Gp ae (.inr (.inl rfl))).trans P2;have P4:=(Gp aM (.inr (.inr (.inr (.inl rfl))))).trans anT;have Zt:=(Gp bM (.inr (.inr (.inr (.inr rfl))))).trans anU;have anX:=(Gp bf (.inl rfl)).trans P1;have X_:=C2.len;have ac:=C2.cap;simp only[aDF,aDL] at X_;refine⟨rfl,s,az l_ rfl,_,az Zt rfl,by omega,by omega,?_⟩;let it:Nat->aE×Int:=λj=>((bO j).id,(bO j).deep);have vZ:=fR.anG uZ C2.rd (n:=P.n) (by simp;omega);refine⟨λcH di dW cw bz bZ e0 et g bW=>cH=⟨ae,0⟩/\di=⟨aM,0⟩/\dW=⟨bM,0⟩/\cw=(N:Nat)/\bZ=⟨fX s.p 0 s.cap 3,P.n-0,s.cap-0,hZ s.z 0 s.cap 3⟩/\e0=(P.n:Nat)/\∃i:Nat,et=i/\i<=P.n/\bW=P.n-i/\ct 2 pr dB g bz ((List.range i).map it)/\bL dB g,
  ⟨P.n,rfl,rfl,rfl,rfl,rfl,rfl,0,rfl,by omega,rfl,ct.gy ..,bL.refl _⟩,?_⟩
 rintro cH di dW cw bz bZ e0 et cC bW ⟨rfl,rfl,rfl,rfl,rfl,rfl,i,rfl,hi,rfl,eM,cY⟩;refine cj (λcl=>?_) λdH=>?_
 .have cb:i<P.n:=by omega
  refine(vZ.bA uZ cY).cA uZ (i:=i) (by simp;omega) λq aj k0=>?_;have e:(((List.range N).map bO).take P.n)[i]'(by simp;omega)=bO i:=by simp
  rw[e] at k0;obtain⟨aS,aY,cB,_⟩:=k0;rw[show(i:Int).toNat=i by omega];refine⟨_,aS,_,aY,_,cB,bP λdU g1 f6 dP cn=>?_⟩;refine iH (cY.trans cn) (cY.free f6) dP rfl λg2 ti Zu ek=>⟨_,az Zu rfl,_,az Zu rfl,?_⟩;have Zv:=(eM.bA cn).move (af:=g2) λq aj=>ek _ λe=>(eM.bp aj).2 (e▸f6);refine ct.push anr l3 WL Zv [it i] (by rfl) rfl (λb ar=>ti.free ar) (by simp;omega) (by decide) λcE g3 lQ anY _ aCt=>⟨P.n-(i+1),by omega,rfl,rfl,rfl,rfl,rfl,rfl,i+1,bt,by omega,rfl,?_,tm Zv ti anY⟩;have e:(List.range (i+1)).map it=(List.range i).map it++[it i]:=by simp[aDQ]
  rw[e];exact lQ
 have hi:i=P.n:=by omega
 subst hi;generalize anZ:R (f+2)=c5 at *;have an0:∀j,j<N->Zn P (bO j):=λj aU=>Zs.all (P:=Zn P) (λx _ ai=>by
  have aa:=Zw o (aw:=aw) ef (i:=x) (by omega);have ad:ht (hH P aw c5 x)=(ox P aw x (c5 x)).toNat:=by unfold ht hH;rw[yb]
  rw[ad] at aa;exact aa) (aDM _) aU
 have an1:((List.range (2 ^ P.E)).map λj=>(bO j).key.toNat).Perm ((List.range (2 ^ P.E)).map λi=>ht (hH P aw c5 i)):=by
  have aa:=Zs.2.map λr:Row=>r.key.toNat;rw[aEH,aEH,aFm,<-List.range_eq_range'] at aa;rw[u1];refine aa.trans (List.Perm.of_eq (aDU λx _=>?_));show(ox P aw x (c5 x)).toNat=_;unfold ht hH;rw[yb]
 have kR:∀j,j<N->it j=jy P aw (fy P aw c5 j):=λj aU=>by
  rw[<-an2 o (bO:=λj=>(bO j).key.toNat) ef an1 (λa b aa ad=>j_ a b (aDM _) aa (by omega)) (i:=j) (by omega)];exact an0 j aU
 have eg:(List.range P.n).map it=(List.range P.n).map λj=>jy P aw (fy P aw c5 j):=aDU λj aU=>kR j (by have:=aDT.1 aU;omega);rw[eg] at eM;have pR:((List.range P.n).map λj=>jy P aw (fy P aw c5 j)).map (·.2)=jb P aw c5:=by
  unfold jb;rw[aEH];exact aDU λj _=>KJ P aw _
 have mi:(jb P aw c5).length=P.n:=by simp[jb]
 have dl:=P5 P.k P.s P.t (by have:=o.s;omega) (jb P aw c5) (by rw[mi];unfold dx.n;omega);refine⟨_,az (cY.get P4) rfl,_,az (cY.get P4) rfl,_,az (cY.get P4) rfl,?_⟩;refine(akD (k:=P.k) (s:=P.s) (t:=P.t) ol.sM eM.rd (by simp[dx.n]) (λx ai=>?_) ?_).mono ?_
 .obtain⟨j,_,rfl⟩:=aD2.1 ai;rw[KJ];unfold wC;have:=CY P.k aw (fy P aw c5 j)[2].toNat;split<;>omega
 .intro a b aa ad
  have si:b<P.n:=by simpa using ad
  have Au:∀j,j<P.n->((List.range P.n).map λj=>jy P aw (fy P aw c5 j)).getD j sn=oZ P.k (ht (fy P aw c5 j)):=λj aU=>by
   rw[<-P6 o ef (by omega)];simp[List.getD,aU]
  rw[Au a (by omega),Au b si];exact Zl (by have:=o.k;omega) (Zx P aw c5 aa (by omega))
 rintro _ ds ⟨ck,dV,rfl,p2,qp,nk⟩;rw[pR] at p2 qp;have KK:(lx P.k P.s P.t (jb P aw c5)).length=P.n:=dl.len.trans mi;have P7:∀x∈lx P.k P.s P.t (jb P aw c5),x<2 ^ 63:=λx ai=>by have:=dl.lt x ai;omega
 have an3:(lP P.k P.s P.t (jb P aw c5)).length<=1000000:=by
  have aa:=aEQ (λi=>(iZ P.k P.s P.t (jb P aw c5) (hk P.k)).getD i none==none) (List.range (gF (jb P aw c5)));have ad:=uE (jb P aw c5);rw[aDL] at aa;unfold lP;omega
 have P8:=cY.trans nk;refine⟨ck,dV,rfl,bP λfS ej Zy Ji oi=>bP λiR gh KL an4 lr=>?_⟩;have C4:iR≠fS:=λe=>by rw[e,Ji] at KL;cases KL
 have an5:=(P8.trans oi).trans lr;have P9:dB fS=none:=P8.free Zy;have P_:dB iR=none:=(P8.trans oi).free KL;refine iH an5 P9 (lr.get Ji) rfl λeB pq an6 yd=>iH pq P_ ((yd _ C4).trans an4) rfl λeR zU sf s8=>?_;have Zz:=(s8 _ (aDC C4)).trans an6;have ZA:bL ds eR:=λx ai=>by
  have fB:x≠fS:=λe=>ai (e▸Zy);have gz:x≠iR:=λe=>by have:=oi x ai;rw[e,KL] at this;rw[e] at ai;exact ai this.symm
  rw[s8 x gz,yd x fB,lr x (by rw[oi x ai];exact ai),oi x ai]
 have Av:=zU.get H1;have Kk:=zU.get Zt;have Qa:=zU.get anX;have nQ:=p2.bA ZA;have nR:=qp.bA ZA;let p3:Nat->Prop:=λx=>Z x∨x=fS∨x=iR∨(∃q,ck.q=some q/\x=q.b)∨(∃q,dV.q=some q/\x=q.b);have Aw:∀x,p3 x->Z x∨dB x=none:=by
  rintro x (z|rfl|rfl|⟨q,aj,rfl⟩|⟨q,aj,rfl⟩)
  .exact .inl z
  .exact .inr P9
  .exact .inr P_
  .exact .inr (cY.free (p2.bp aj).1)
  .exact .inr (cY.free (qp.bp aj).1)
 have an7:∀x,p3 x->eR x≠none:=by
  rintro x (z|rfl|rfl|⟨q,aj,rfl⟩|⟨q,aj,rfl⟩)
  .have h0:dB x≠none:=by rw[Gp x z,C1 x z];exact kJ x z
   rw[zU x h0];exact h0
  .rw[Zz];simp
  .rw[sf];simp
  .exact(nQ.bp aj).2
  .exact(nR.bp aj).2
 have ZB:∀x,p3 x->¬bS m d_ x:=λx z hm=>(Aw x z).elim (λz=>d12 x (.inl z) hm) λai=>KI.dK hm ai;have ye:bT (λx=>bS m es x∨x=bf) h (λx=>bS m d_ x∨p3 x) eR:=(C3.more zU).to λx ai=>ai.elim (λhm=> .inl (.inl hm)) λz=>(Aw x z).elim (λz=> .inl (.inr (.inl z))) λai=> .inr (C3.2.2 x ai);have wD:=KI.bA zU;have nl:∀x,h x=none->x≠bf:=λx ai e=>by rw[e,kW] at ai;cases ai
 have fin:∀(g:ak) (kg:Bool),bT (λx=>bS m es x∨x=bf) h (λx=>bS m d_ x∨p3 x) g->c8 T m (eP R (f+2) (fy P aw c5)) (a8++h5 f P.E) d_ g->g bf=ev (n3 P m.b f kg mp) jo->(∀x,p3 x->x≠bf->g x=eR x)->kg=(fb||l9 P aw c5) ->
  ∃e3:Option aF,bx g ae 0=some (a7 e3)/\aq 171 [a7 e3,U N,.func (.func 179) #[] #[bm ⟨iR,0⟩,bm ⟨bM,0⟩,bm ⟨fS,0⟩]] g λfh fU=>fh= .tuple #[]/\∃fH:Option aF,bx fU ae 0=some (a7 fH)/\∃f_:aF,fH=some f_/\∃hq:Option aF,bx fU f_.b (f_.o+3)=some (a7 hq)/\∃gP:Option aF,bx fU ae 0=some (a7 gP)/\∃hn:aF,gP=some hn/\∃n26,bx fU hn.b (hn.o+4)=some (U n26) /\
   aq 174 [a7 hq,U (al (n26+2)),U N,U 11] fU λv9 gR=>∃n27,v9=U n27/\∃aX,Value.tuple #[]= .tuple #[]/\c8 T m (eP R (f+2) (kH P aw c5)) (a8++(h5 f P.E++h5 f P.E)) aX gR /\
  gR bf=ev (n3 P m.b f (fb||l9 P aw c5) mp) jo/\¬bS m aX bf/\bT (λx=>bS m es x∨x=bf) h (λx=>bS m aX x∨x=bf) gR:=by
  rintro g kg V gI cW bn rfl;have dD:p3 ae:= .inl (.inr (.inl rfl));have z4:p3 bM:= .inl (.inr (.inr (.inr (.inr rfl))));have Ks:p3 fS:= .inr (.inl rfl);have z9:p3 iR:= .inr (.inr (.inl rfl));have Gq:p3 bf:= .inl (.inl rfl);have an8:=nl fS (C3.2.2 _ P9);have an9:=nl iR (C3.2.2 _ P_);have g1:=(bn ae dD (nl _ f1)).trans Av;have g4:=(bn bM z4 (nl _ f40)).trans Kk;have g8:=(bn fS Ks an8).trans Zz;have g9:=(bn iR z9 an9).trans sf;have x0:=(nQ.move (af:=g) λq aj=>bn _ (.inr (.inr (.inr (.inl ⟨q,aj,rfl⟩)))) (nl _ (C3.2.2 _ (cY.free (p2.bp aj).1)))).rd;have ts:=(nR.move (af:=g) λq aj=>bn _ (.inr (.inr (.inr (.inr ⟨q,aj,rfl⟩)))) (nl _ (C3.2.2 _ (cY.free (qp.bp aj).1)))).rd;have Qb:∀x,p3 x->g x≠none:=λx z=>by
   by_cases c:x=bf
   .rw[c,cW];simp
   .rw[bn x z c];exact an7 x z
  refine⟨some ⟨bf,0⟩,az g1 rfl,?_⟩;refine(Zc gI bc aQ (n:=N) (by omega) (by simp only[aDs];omega) (fn:=CZ P.n (lx P.k P.s P.t (jb P aw c5)) (lP P.k P.s P.t (jb P aw c5))) (S:=λ_ F bw=>F=p3/\∀x,p3 x->bw x=g x) ⟨rfl,λ_ _=>rfl⟩ ZB ?_ ?_ ?_ ?_).mono ?_
  .rintro i _ bw ⟨rfl,aV⟩ b z;rw[aV b z];exact Qb b z
  .rintro i _ bw KM ⟨rfl,aV⟩ ad;exact⟨rfl,λx z=>(ad x z).trans (aV x z)⟩
  .rintro i _ bw ⟨rfl,aV⟩;have:=(aV bf Gq).trans cW;exact⟨az this rfl,az this rfl⟩
  .rintro i _ bw hi ⟨rfl,aV⟩;refine(anx (n:=P.n) (az ((aV iR z9).trans g9) rfl) (az ((aV bM z4).trans g4) rfl) (az ((aV fS Ks).trans g8) rfl) (ts.move λq aj _=>aV _ (.inr (.inr (.inr (.inr ⟨q,aj,rfl⟩))))) (x0.move λq aj _=>aV _ (.inr (.inr (.inr (.inl ⟨q,aj,rfl⟩))))) KK P7 an3 (i:=i) (by omega) _).mono ?_;rintro _ KM ⟨rfl,bW⟩;exact⟨rfl,p3,⟨rfl,λx z=>(bW x (by rw[aV x z];exact Qb x z)).trans (aV x z)⟩,hj bW _⟩
  rintro _ fU ⟨hp,rv,rfl,KN,⟨rfl,z25⟩,d25,v25⟩;rw[Ap,tw] at KN;have KN:c8 T m (eP R (f+2) (ma P aw c5)) _ _ _:=c8.CV (f:=ma P aw c5) (g:=fy P aw c5) KN (by omega);have q1:=(z25 ae dD).trans g1;have Qc:=(z25 bf Gq).trans cW;refine⟨rfl,some ⟨bf,0⟩,az q1 rfl,_,rfl,some ⟨m.b,0⟩,az Qc rfl,some ⟨bf,0⟩,az q1 rfl,_,rfl,_,az Qc rfl,?_⟩;rw[iu];refine(Zm KN aQ (by omega) u1.symm (by omega) (k:=11) (by decide) (by simp only[aDs,wl];omega)).mono ?_;rintro _ gR ⟨mU,rfl,ZC,KO⟩;rw[Ap,tw,aDD (a8++h5 f P.E),<-u1,KB,aDD] at ZC;obtain⟨Ax,d26⟩:=mI KO (λx z=>by rw[z25 x z];exact Qb x z) d25;refine⟨_,rfl,mU,rfl,ZC,(Ax bf Gq).trans Qc,d26 bf Gq,((V.trans v25).trans (nd KO)).to λx ai=>?_⟩;rcases ai with ai|rfl
  .exact .inl (.inl ai)
  .exact .inl (.inr Gq)
 have tz:∀x,bS m d_ x->x≠bf:=λx ai e=>ZB bf (.inl (.inl rfl)) (e▸ai);refine⟨some ⟨bf,0⟩,az Av rfl,some ⟨bf,0⟩,az Av rfl,_,rfl,_,az Qa rfl,?_⟩;refine iN (λbG=>?_) λbG=>?_
 .refine⟨_,rfl,PX ye (.inr (.inl (.inl rfl))) Qa (by simp) λfx Qd Qe sz=>?_⟩;exact fin fx true Qd (wD.move λx ai=>sz x (tz x ai)) (by rw[Qe];rfl) (λx z ai=>sz x ai) (by rw[bG];rfl)
 .refine⟨_,az sf rfl,_,rfl,PX ye (.inr (.inl (.inl rfl))) Qa (by simp) λfx Qd Qe sz=>?_⟩;refine fin fx _ Qd (wD.move λx ai=>sz x (tz x ai)) (by rw[Qe];rfl) (λx z ai=>sz x ai) ?_;rw[bG];show decide ((0:Int)<(dV.len:Int))=l9 P aw c5;rw[qp.len,aDF];unfold l9;cases lP P.k P.s P.t (jb P aw c5)<;>simp
end

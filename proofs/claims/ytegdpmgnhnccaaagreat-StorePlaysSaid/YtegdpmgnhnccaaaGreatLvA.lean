import Derived.Test.YtegdpmgnhnccaaaGreatDealC
import Derived.Test.YtegdpmgnhnccaaaGreatPla
import Derived.Test.YtegdpmgnhnccaaaGreatSrtRow
namespace Go.Proofs.Tryz
open Go Go.cQ Go.RowKit
set_option maxRecDepth 8000
theorem Rc (x:Nat):Int.fdiv (x:Int) (2 ^ min (UInt64.toNat 1) 64)=((x/2:Nat):Int):=by
 show Int.fdiv (x:Int) ((2:Nat):Int)=_;cases x<;>rfl
theorem adr {k a b:Nat}(ab:k<=10)(bV:a<2 ^ k)(au:b<2 ^ k):eu prog 191 [U (2 ^ k),U a,U b] (U (ji k a b)):=by
 intro h;have aM:2 ^ k<=2 ^ 10:=atg (by decide) ab;refine ads _ _ _ ?_;unfold Rd;refine(Ev ab bV).to λaa aE=>⟨_,rfl,b0 rfl ?_⟩;refine(Ev ab au).to λad az=>⟨_,rfl,b0 rfl ?_⟩;refine⟨λax ay aI aQ g bI=>ax=2 ^ k/\∃j x y:Nat,ay=x/\aI=y/\aQ=j/\j<=k/\bI=k-j/\x<2 ^ (k-j)/\y<2 ^ (k-j)/\ou k a b=j+ou (k-j) x y/\bB h g,
  ⟨k,rfl,0,a,b,rfl,rfl,rfl,by omega,rfl,bV,au,by simp,aE.trans az⟩,?_⟩
 rintro ax ay aI aQ g bI ⟨rfl,j,x,y,rfl,rfl,rfl,aL,rfl,af,aA,he,cv⟩;refine mw (λcX=>?_) λheq=>?_
 .have JE:x≠y:=λe=>cX (by rw[e]);have adt:j<k:=by
   rcases atF j k with c|c
   .exact c
   .rw[show k-j=0 by omega] at af aA;simp at af aA;omega
  have aC:k-j=(k-(j+1))+1:=by omega
  rw[aC] at he af aA;rw[atP] at af aA;have a7:ou (k-(j+1)+1) x y=ou (k-(j+1)) (x/2) (y/2)+1:=by rw[ou,as7 JE]
  rw[a7] at he;refine⟨k-(j+1),by omega,rfl,j+1,x/2,y/2,Rc x,Rc y,bl,adt,rfl,by omega,by omega,by rw[he];omega,cv⟩
 .have JE:x=y:=by omega
  subst JE;refine(Ec ab).to λg2 az=>⟨_,rfl,?_,cv.trans az⟩;have h0:ou (k-j) x x=0:=by
   cases k-j with
   | zero=>rfl
   | succ n=>unfold ou;rw[as8 rfl]
  rw[h0,atQ] at he;unfold ji;rw[he,bl];congr 1;omega
theorem te (c:cM):dm c=decide (c[0]=1):=by unfold dm;rfl
theorem Re {c:cM}{k:Nat}(ab:k<=10)(h:c[2].toNat<2 ^ k):al ((c[2].toNat:Nat):Int)=((c[2].toNat:Nat):Int):=by
 have aM:2 ^ k<=2 ^ 10:=atg (by decide) ab;exact bl
theorem adu {P:c1}(o:P.dk){ao:Nat}(bf:ao<2 ^ P.k){c:cM}(aT:dm c=true->c[2].toNat<2 ^ P.k){h:ai}{aV:Nat}(aO:bR h aV 0=some (U (2 ^ P.k))) :
 aw 173 [bu ⟨aV,0⟩,ec c,U ao] h λv ag=>v= .agg #[ak (hX P ao c).1,U (hX P ao c).2]/\bB h ag:=by
 refine adv _ _ _ ?_;unfold Rf;refine bL λaj aa f1 aC aE=>bL λaB ad f2 a7 az=>?_;have cE:aB≠aj:=λe=>by rw[e,aC] at f2;cases f2
 have ov:=az.get aC;have eA:=aE.trans az;refine⟨Int.NonNeg.mk 0,Int.NonNeg.mk 11,_,gi ov (i:=0) (by decide),mw (λaH=>?_) λaA=>?_⟩
 .have au:¬dm c=true:=by rw[te];simpa using aH
  refine kC eA (aE.free f2) a7 rfl λaq aD b2 _=>⟨_,aF b2 rfl,_,aF b2 rfl,?_,aD⟩;unfold hX;rw[as7 au]
 .have au:dm c=true:=by rw[te];simpa using aA
  refine⟨Int.NonNeg.mk 1,Int.NonNeg.mk 10,_,gi ov (i:=1) (by decide),_,eA.cell aO,Int.NonNeg.mk 2,Int.NonNeg.mk 9,_,gi ov (i:=2) (by decide),?_⟩;rw[Re o.k (aT au)];refine(adr o.k bf (aT au)).to λaq aD=>⟨_,rfl,⟨gi (aD.get ov) (i:=1) (by decide),trivial⟩,?_⟩;refine kC (eA.trans aD) (aE.free f2) (aD.get a7) rfl λaJ bc b5 _=>⟨_,aF b5 rfl,_,aF b5 rfl,?_,bc⟩;unfold hX;rw[as8 au]
theorem adw (d:ei):d.toList=[d[0],d[1],d[2],d[3],d[4],d[5],d[6],d[7]]:=by
 apply aue
 .simp
 .intro i aa ad
  simp at aa;have h:i=0∨i=1∨i=2∨i=3∨i=4∨i=5∨i=6∨i=7:=by omega
  rcases h with rfl|rfl|rfl|rfl|rfl|rfl|rfl|rfl<;>simp
theorem E_:ti prog 22 47 (.int .u64 0) 8:=⟨by kernel_rfl,by kernel_rfl,by kernel_rfl,by kernel_rfl,rfl⟩
theorem Jp {x y:an}{h:ai}{l:List a8}(iz:ey ak h y l){q:aG}(af:x.q=some q){c:Nat}(aT:c=Nat.min l.length x.len){K:Nat->ai->Prop}(ab:a1 h q ((l.take c).map ak) λag=>K c ag):kP prog 22 x (.s y) h K:=by
 subst aT;unfold kP;rw[E_.A9];simp only[E_.c4,qA,my,iz.len,af];have hm:Nat.min l.length x.len<=l.length:=auj _ _;refine⟨(l.take (Nat.min l.length x.len)).map ak,by simp,by simp only[atE];rintro v ⟨a,_,rfl⟩;rfl,?_,ab⟩;cases e:y.q with
 | none=>have aa:=iz.nil e;have ad:=iz.cap;have aq:=iz.len;have:l=[]:=atM.1 (by omega);simp[this]
 | some p =>
  simp only;rw[Ef];intro i hi;have bN:i<l.length:=by simp at hi;omega
  rw[iz.rd p e i bN];simp
theorem adx (a0 ar aN a3 a4 a5 hA Fa ady a9 adz Rg fW aj aB aS b7 b4 dy eQ:Value):hg #[a0,ar,aN,a3,a4,a5,hA,Fa,ady,a9,adz,Rg] 3 [fW,aj,aB,aS,b7,b4,dy,eQ]=#[a0,ar,aN,fW,aj,aB,aS,b7,b4,dy,eQ,Rg]:=by
 apply Array.ext
 .rw[yr];rfl
 .intro i aa ad
  have h:i<12:=ad;apply atH;rw[<-avd,<-avd,wo];have h:i=0∨i=1∨i=2∨i=3∨i=4∨i=5∨i=6∨i=7∨i=8∨i=9∨i=10∨i=11:=by omega
  rcases h with rfl|rfl|rfl|rfl|rfl|rfl|rfl|rfl|rfl|rfl|rfl|rfl<;>rfl
theorem adA (id l:a8)(d:ei):ae.cells (.ws 12 (kk id l d))=[ak 1,ak id,ak l,ak d[0],ak d[1],ak d[2],ak d[3],ak d[4],ak d[5],ak d[6],ak d[7],ak 0]:=by simp[ae.cells,kk]
theorem ac6 (id:a8){to:Nat}(bz:to<2 ^ 63)(d:ei):eu prog 155 [ak id,U to,ec d] (ec (kk id (UInt64.ofNat to) d)):=by
 intro h;refine adB _ _ _ ?_;unfold Rh;refine bL λaj aa f1 aC aE=>bL λaB ad f2 a7 az=>bL λaS aq f3 b2 aD=>?_;have cE:aB≠aj:=λe=>by rw[e,aC] at f2;cases f2
 have n31:aS≠aj:=λe=>by rw[e,az.get aC] at f3;cases f3
 have n32:aS≠aB:=λe=>by rw[e,a7] at f3;cases f3
 have f30:=aE.free (az.free f3);rw[jr bz];refine kC (aE.trans (az.trans aD)) f30 b2 rfl λaJ bc b5 ez=>⟨Int.NonNeg.mk 11,Int.NonNeg.mk 1,Int.NonNeg.mk 3,Int.NonNeg.mk 8,?_⟩;have JF:=(ez _ (atf n31)).trans ((az.trans aD).get aC);have iz:ey ak aJ ⟨fT (some ⟨aj,0⟩) 0 8 1,8,8,none⟩ d.toList:=by
  refine⟨by simp,as_ _,(by intro h;cases h),λq ah i hi=>?_⟩;cases ah;have bN:i<8:=by simpa using hi
  have:=gi JF bN;simpa using this
 refine Jp iz (q:=⟨aS,3⟩) rfl (c:=8) (by simp) ?_;refine n0 bc f30 b5 (by simp) λaW bU cD cY=>?_;have r3:aW aS=some (.cells (ae.cells (.ws 12 (kk id (UInt64.ofNat to) d))).toArray 69 (0,0)):=by
  rw[cD,adw];have aC:List.map ak (List.take 8 [d[0],d[1],d[2],d[3],d[4],d[5],d[6],d[7]])=[ak d[0],ak d[1],ak d[2],ak d[3],ak d[4],ak d[5],ak d[6],ak d[7]]:=by simp
  rw[aC,adx,adA]
 refine⟨_,da r3,?_⟩;refine m8 (n:=12) bU (aE.free f2) ((cY _ (atf n32)).trans ((ez _ (atf n32)).trans (aD.get a7))) rfl λbd cb dK _=>⟨_,da dK,rfl,cb⟩
theorem adC {h:ai}{s:an}{l:List Int}(r:ey dg h s l)(aO:l.length<=1000000)(x:Int):aw 180 [aU s,U x] h λv ag=>v= .bool (decide (x∈l))/\ag=h:=by
 refine adD _ _ ?_;unfold Ri;refine adE _ _ ?_;unfold Rj;refine⟨λs1 ax ay aI g k=>s1=s/\ax=x/\ay=s.len/\g=h/\∃j:Nat,aI=j/\j<=s.len/\k=s.len-j/\x∉l.take j,⟨_,rfl,rfl,rfl,rfl,0,rfl,by omega,rfl,by simp⟩,?_⟩;rintro s1 ax ay aI g k ⟨rfl,rfl,rfl,rfl,j,rfl,sT,rfl,mz⟩;have hlen:=r.len;refine b6 (λb1=>?_) λc3=>⟨_,rfl,?_,rfl⟩
 .have aL:j<l.length:=by omega
  refine r.e0 aL λq _ aT=>⟨_,aT,b6 (λe=>⟨_,rfl,?_,rfl⟩) λe=>⟨s1.len-(j+1),by omega,rfl,rfl,rfl,rfl,j+1,bl,by omega,rfl,λhm=>?_⟩⟩
  .rw[atl (show(0:Int)<=(j:Int) by omega),atl (by rw[e];exact aty aL)]
  .rw[atV,atc aL] at hm;rcases atw.1 hm with h|h
   .exact mz h
   .simp at h;exact e h
 .rw[at8 (by omega)] at mz;rw[ati mz];rfl
theorem mS {A oT B:Nat->Prop}{h ag:ai}(v:cn A h oT ag):cn (λx=>A x∨B x) h (λx=>oT x∨B x) ag :=
 ⟨λb au=>au.elim (λx=>(v.1 b x).imp .inl id) λx=> .inl (.inr x),λb au aH=>v.2.1 b au λx=>aH (.inl x),v.2.2⟩
theorem JG {A B yG:Nat->Prop}{h ag:ai}(v:cn B h yG ag):cn (λx=>A x∨B x) h (λx=>A x∨yG x) ag :=
 ⟨λb au=>au.elim (λx=> .inl (.inl x)) λx=>(v.1 b x).imp .inr id,λb au aH=>v.2.1 b au λx=>aH (.inr x),v.2.2⟩
section
variable {T:TypeId} {m:jo} {R:dw} {a_:List dt} {es:an} {h:ai}
theorem Rk (M:cN T m R a_ es h){aV f n:Nat}(bf:f<=1000)(aK:f+2<m.ep)(aH:n<=m.cq (f+2))(aO:a_.length<3000000000000){v:Value}{fn:Nat->cM->cM}{S:Nat->(Nat->Prop)->ai->Prop}{F:Nat->Prop}
 (r4:S 0 F h) (bK:∀b,F b->¬bA m es b) (dv:∀i F g,S i F g->∀b,F b->g b≠none) (bE:∀i F g bg,S i F g->(∀b,F b->bg b=g b)->S i F bg)
 (fu:∀i F g,S i F g->bR g aV 3=some (bu ⟨m.b,0⟩)/\bR g aV 4=some (U f))
 (step:∀i F g,i<n->S i F g->fo prog v [U i,ec (R (f+2) i)] g λr bg=>r=ec (fn i (R (f+2) i))/\∃dS,S (i+1) dS bg/\cn F g dS bg) :
 aw 171 [bu ⟨aV,0⟩,U n,v] h λr ag=>∃bb dS,r= .tuple #[]/\cN T m (dD R (f+2) λi=>if i<n then fn i (R (f+2) i) else R (f+2) i) (a_++writes ((f:Int)+2) n) bb ag/\S n dS ag/\(∀b,dS b->¬bA m bb b)/\cn (λx=>bA m es x∨F x) h (λx=>bA m bb x∨dS x) ag:=by
 have ln:=M.cq _ aK;refine adF _ _ _ ?_;unfold Rl;have fP:((f:Int)+2)=((f+2:Nat):Int):=by omega
 refine⟨λq1 v1 ax ay g bI=>q1=⟨aV,0⟩/\v1=v/\ax=(n:Nat)/\∃(i:Nat) (bb:an) (dS:Nat->Prop),ay=i/\i<=n/\bI=n-i/\cN T m (dD R (f+2) λj=>if j<i then fn j (R (f+2) j) else R (f+2) j) (a_++writes ((f:Int)+2) i) bb g/\S i dS g/\(∀b,dS b->¬bA m bb b)/\cn (λx=>bA m es x∨F x) h (λx=>bA m bb x∨dS x) g,
  ⟨n,rfl,rfl,rfl,0,es,F,rfl,by omega,rfl,?_,r4,bK,cn.refl _ _⟩,?_⟩
 .have e:(dD R (f+2) λj=>if j<0 then fn j (R (f+2) j) else R (f+2) j)=R:=by
   have:(λj=>if j<0 then fn j (R (f+2) j) else R (f+2) j)=R (f+2):=by funext j;simp
   rw[this];exact yZ R _
  rw[e];simpa [writes] using M
 rintro q1 v1 ax ay g bI ⟨rfl,rfl,rfl,i,bb,dS,rfl,hi,rfl,ga,lv,Rm,k0⟩;refine b6 (λb1=>?_) λc3=>?_
 .have bN:i<n:=by omega
  obtain⟨qP,uy⟩:=fu i dS g lv;have uY:=rH ((f:Int)+2) i;have hB:al ((f:Int)+2)=((f+2:Nat):Int):=by rw[bl];omega
  refine⟨some ⟨m.b,0⟩,qP,_,uy,some ⟨m.b,0⟩,qP,_,uy,?_⟩;rw[hB];refine(uO ga aK (show i<m.cq (f+2) by omega) (by rw[as9,uY];omega)).mono ?_;rintro _ g1 ⟨ir,rfl,mU,Rn⟩;obtain⟨s1,d1⟩:=kH Rn (dv i dS g lv) Rm;have hK:=bE i dS g g1 lv s1;obtain⟨adG,adH⟩:=fu i dS g1 hK;have jc:dD R (f+2) (λj=>if j<i then fn j (R (f+2) j) else R (f+2) j) (f+2) i=R (f+2) i:=by unfold dD;rw[as8 rfl];exact as7 (Nat.lt_irrefl i)
  refine⟨_,rfl,⟨adH,trivial⟩,⟨adG,trivial⟩,?_⟩;rw[jc];refine(step i dS g1 bN hK).mono ?_;rintro _ g2 ⟨rfl,wC,eV,v2⟩;obtain⟨adI,adJ⟩:=fu (i+1) wC g2 eV;obtain⟨s2,d2⟩:=kH v2 (λx af=>mU.dv af) (λx af jZ=>d1 x jZ af);have M2:=mU.move s2;refine⟨_,rfl,⟨adJ,trivial⟩,⟨adI,trivial⟩,?_⟩;refine(wX M2 aK (show i<m.cq (f+2) by omega) _ (by simp only[as9,uY,atA];omega)).mono ?_;rintro _ g3 ⟨hO,rfl,fS,v3⟩;obtain⟨bj,d3⟩:=kH v3 (dv (i+1) wC g2 eV) (λx af Bf=>d2 x Bf af);have iU:=bE (i+1) wC g2 g3 eV bj;refine⟨rfl,n-(i+1),by omega,rfl,rfl,rfl,i+1,hO,wC,bl,by omega,rfl,?_,iU,d3,((k0.trans (mS Rn)).trans (JG v2)).trans (mS v3)⟩;have aC:fs (dD R (f+2) λj=>if j<i then fn j (R (f+2) j) else R (f+2) j) (f+2,i) (fn i (R (f+2) i))=dD R (f+2) λj=>if j<i+1 then fn j (R (f+2) j) else R (f+2) j:=by
   funext ej j;unfold fs dD;show(if ej=f+2/\j=i then _ else if ej=f+2 then (if j<i then fn j (R (f+2) j) else R (f+2) j) else _)=if ej=f+2 then (if j<i+1 then fn j (R (f+2) j) else R (f+2) j) else _
   by_cases aX:ej=f+2
   .rw[as8 aX,as8 aX];by_cases aZ:j=i
    .rw[as8 ⟨aX,aZ⟩,d_,aZ]
    .rw[as7 (λh=>aZ h.2)];by_cases cp:j<i
     .rw[as8 cp,d_]
     .rw[as7 cp,cS]
   .rw[as7 (λh=>aX h.1),as7 aX,as7 aX]
  rw[aC] at fS;rw[yD,show ∀a b:dt,a_++(writes ((f:Int)+2) i++[a,b])=a_++writes ((f:Int)+2) i++[a]++[b] by simp,fP];rw[fP] at fS;exact fS
 .have:i=n:=by omega
  subst this;exact⟨bb,dS,rfl,ga,lv,Rm,k0⟩
end
end Go.Proofs.Tryz
namespace Go.Proofs.Tryz
open Go Go.cQ Go.RowKit
set_option maxRecDepth 8000
theorem _root_.Go.cQ.c1.dk.fu {P:c1}(o:P.dk):kv P.k P.s P.t:=⟨o.k,by have:=o.s;omega,by have:=o.t;omega⟩
theorem IM (P:c1):ht P.k P.s P.t=(P.n:Nat):=by unfold ht c1.n;simp
abbrev l3 (P:c1)(y6 f:Nat)(dV:Bool)(mp:Nat):Array Value:=#[U (2 ^ P.k),U P.s,U P.t,bu ⟨y6,0⟩,U f,.bool dV,.map (some mp)]
def rowOf (P:c1)(ao i:Nat)(c:cM):Row:=⟨me P ao i c,(hX P ao c).1,(hX P ao c).2⟩
theorem adK:oX prog 269 274 3 (.agg #[.int .u64 0,.int .u64 0,U 0]) 24:=⟨by kernel_rfl,by kernel_rfl,by kernel_rfl,by kernel_rfl,rfl⟩
theorem adL:oX prog 280 271 2 (.agg #[.int .u64 0,U 0]) 16:=⟨by kernel_rfl,by kernel_rfl,by kernel_rfl,by kernel_rfl,rfl⟩
theorem Ro {P:c1}{ao:Nat}{c:cM}(h:dm c=true):hX P ao c=(c[1],((ji P.k ao c[2].toNat:Nat):Int)):=by unfold hX;rw[as8 h]
theorem JH (c:cM)(x y:a8):(c.set 11 x).set 11 y=c.set 11 y:=by
 apply aub;intro i hi;simp[atL]
theorem adM {P:c1}(o:P.dk){ao:Nat}(bf:ao<2 ^ P.k){aV aj aB aS b7 b4:Nat}{g:ai}{T:TypeId}{s:an}{l:List Row}
 (aC:bR g aj 0=some (bu ⟨aV,0⟩)) (eg:bR g aV 0=some (U (2 ^ P.k))) (a7:bR g aB 0=some (U ao)) (b5:bR g b7 0=some (U P.n)) (b2:bR g aS 0=some (U P.k))
 (B:ju 3 uZ T g b4 s l) (aO:l.length<=100000) {i:Nat} (hi:i<100000) (c:cM) (aT:dm c=true->c[2].toNat<2 ^ P.k) :
 fo prog (.func (.func 172) #[] #[bu ⟨aj,0⟩,bu ⟨aB,0⟩,bu ⟨b7,0⟩,bu ⟨aS,0⟩,bu ⟨b4,0⟩]) [U i,ec c] g λr bg=>r=ec (c.set 11 (me P ao i c))/\∃cx,ju 3 uZ T bg b4 cx (l++[rowOf P ao i c])/\cn (kg b4 s) g (kg b4 cx) bg:=by
 refine⟨rfl,?_⟩;refine adN _ _ _ _ _ _ _ ?_;unfold Rp;refine bL λbO g1 f1 lP aE=>bL λca g2 f2 kj az=>?_;have cE:ca≠bO:=λe=>by rw[e,lP] at f2;cases f2
 have r2:=az.get lP;have eA:=aE.trans az;refine⟨some ⟨aV,0⟩,eA.cell aC,_,da r2,_,eA.cell a7,?_⟩;refine(adu o bf aT (eA.cell eg)).mono ?_;rintro _ g3 ⟨rfl,aD⟩;refine⟨_,_,rfl,bL λeG g4 f4 uW bc=>?_⟩;have jX:=eA.trans aD;have p7:=jX.trans bc;have f40:g eG=none:=jX.free f4;have f20:g ca=none:=aE.free f2;have n31:eG≠bO:=λe=>by rw[e,aD.get r2] at f4;cases f4
 have n32:eG≠ca:=λe=>by rw[e,aD.get kj] at f4;cases f4
 refine kC p7 f40 uW rfl λg5 bU ie cY=>⟨Int.NonNeg.mk 11,Int.NonNeg.mk 0,?_⟩;have adO:g5 bO=_:=(cY _ (atf n31)).trans ((aD.trans bc).get r2);have adP:g5 ca=_:=(cY _ (atf n32)).trans ((aD.trans bc).get kj);refine ob bU f1 adO (i:=11) (by decide) λg6 cb pc eI=>?_;have B1:=(eI _ n31).trans ie;have JI:=(eI _ cE).trans adP;rw[jr (show i<2 ^ 63 by omega)] at pc;have fin:∀(g7:ai) (key:a8),bB g g7->g7 bO=some (.cells (ae.cells (.ws 12 (c.set 11 key))).toArray 69 (0,0))->g7 eG=some (.cells #[ak (hX P ao c).1,U (hX P ao c).2] 271 (0,0))->(∃a t,g7 ca=dB a t/\a.size=12)->key=me P ao i c ->
  ∃s1,bR g7 b4 0=some (aU s1)/\Int.NonNeg 11/\Int.NonNeg 0/\∃e6,bR g7 bO 11=some (ak e6)/\∃gP,bR g7 eG 0=some (ak gP)/\∃bx,bR g7 eG (0+1)=some (U bx)/\bn g7 (.cells #[ak e6,ak gP,U bx] 274) λb7 cl=>en prog 269 s1 (.s ⟨some ⟨b7,0⟩,1,1,none⟩) cl λs2 cL=>a1 cL ⟨b4,0⟩ [aU s2] λcT=>∃aZ:cM,bP cT bO 0 aZ/\a1 cT ⟨ca,0⟩ (ae.cells (.ws 12 aZ)) λcO=>∃cp:cM,bP cO ca 0 cp /\
   (ec cp=ec (c.set 11 (me P ao i c))/\∃cx,ju 3 uZ T cO b4 cx (l++[rowOf P ao i c])/\cn (kg b4 s) g (kg b4 cx) cO):=by
  rintro g7 key cV ar a3 ⟨a,t,aN,Fb⟩ rfl;have uS:=B.bE cV;refine⟨_,aF uS.cell rfl,Int.NonNeg.mk 11,Int.NonNeg.mk 0,_,gi ar (i:=11) (by decide),_,aF a3 rfl,_,aF a3 rfl,?_⟩;rw[u1];refine ju.push adK r5 adQ uS [rowOf P ao i c] (by rfl) rfl (by simp;omega) (by decide) λcx g8 adR gr=>?_;have gA:∀x,g x=none->g7 x≠none->¬kg b4 s x:=λx aa _ h=>B.dv h aa;have fQ:=gr.get ar (gA bO f1 (by rw[ar];simp));have hC:=gr.get aN (gA ca f20 (by rw[aN];simp));have ay:¬kg b4 cx ca:=gr.out (by rw[aN];simp) (gA ca f20 (by rw[aN];simp));refine⟨_,da fQ,?_⟩;refine fG (n:=12) ((iC cV _).trans gr) f20 hC Fb λg9 v9 iE e2=>⟨_,da iE,rfl,cx,adR.move λx af=>e2 x λe=>ay (e▸af),v9⟩
 refine⟨_,cb.cell b5,b6 (λtj=>?_) λtj=>?_⟩
 .refine⟨Int.NonNeg.mk 0,Int.NonNeg.mk 11,_,gi pc (i:=0) (by decide),?_⟩;rw[Rq];refine hS (λau=>?_) λau=>?_
  .have hn:dm c=true:=by rw[te];simpa using au
   refine⟨_,cb.cell b2,_,aF B1 rfl,_,aF B1 rfl,Int.NonNeg.mk 11,Int.NonNeg.mk 0,?_⟩;refine ob cb f1 pc (i:=11) (by decide) λg7 cV q0 eU=>?_;rw[JH] at q0;refine fin g7 _ cV q0 ((eU _ n31).trans B1) ⟨_,_,(eU _ cE).trans JI,rfl⟩ ?_;have bK:=y7 P.k ao c[2].toNat;have ab:=o.k;rw[Ro hn];unfold me;rw[as8 ⟨by omega,hn⟩];have cD:al ((P.k:Int)-((ji P.k ao c[2].toNat:Nat):Int))=((P.k-ji P.k ao c[2].toNat:Nat):Int):=by rw[bl];omega
   show cK (al ((P.k:Int)-((ji P.k ao c[2].toNat:Nat):Int)))*(4294967296:a8)+c[1]=_;rw[cD,jr (by omega)]
  .have hn:¬dm c=true:=by rw[te];simpa using au
   refine fin g6 _ cb pc B1 ⟨_,_,JI,rfl⟩ ?_;unfold me;rw[as7 λh=>hn h.2]
 .refine fin g6 _ cb pc B1 ⟨_,_,JI,rfl⟩ ?_;unfold me;rw[as7 λh=>tj (by have:=h.1;omega)]
theorem y2:ae.cells (.ws 12 gz)=[ak 0,ak 0,ak 0,ak 0,ak 0,ak 0,ak 0,ak 0,ak 0,ak 0,ak 0,ak 0]:=by rfl
theorem mem_cast {l:List Nat}{i:Nat}:((i:Int)∈l.map λp:Nat=>(p:Int))↔i∈l:=by
 rw[atE];constructor
 .rintro⟨a,aa,ad⟩;have:a=i:=by omega
  exact this▸aa
 .exact λh=>⟨i,h,rfl⟩
def y8 (n:Nat)(pl lo:List Nat)(i:Nat)(c:cM):cM:=(if i∈lo then gz else c).set 11 (if i<n then UInt64.ofNat (pl.getD i 0) else UInt64.ofNat i)
theorem adS {n:Nat}{pl lo:List Nat}{b7 fI ho:Nat}{g:ai}{dC fK:an}
 (iE:bR g ho 0=some (aU fK)) (b5:bR g b7 0=some (U n)) (gg:bR g fI 0=some (aU dC)) (adT:ey dg g fK (lo.map λp:Nat=>(p:Int))) (adU:ey dg g dC (pl.map λp:Nat=>(p:Int)))
 (aH:pl.length=n) (au:∀x∈pl,x<2 ^ 63) (aO:lo.length<=1000000) {i:Nat} (hi:i<100000) (c:cM) :
 fo prog (.func (.func 179) #[] #[bu ⟨ho,0⟩,bu ⟨b7,0⟩,bu ⟨fI,0⟩]) [U i,ec c] g λr bg=>r=ec (y8 n pl lo i c)/\bB g bg:=by
 refine⟨rfl,?_⟩;refine adV _ _ _ _ _ ?_;unfold Rr;refine bL λbO g1 f1 lP aE=>bL λca g2 f2 kj az=>?_;have cE:ca≠bO:=λe=>by rw[e,lP] at f2;cases f2
 have r2:=az.get lP;have eA:=aE.trans az;have f20:g ca=none:=aE.free f2;refine⟨_,eA.cell iE,?_⟩;refine(adC (adT.bE eA) (by simpa using aO) (i:Int)).mono ?_;rintro _ g3 ⟨rfl,rfl⟩;refine⟨_,rfl,?_⟩;have fin:∀(g5:ai) (d:cM),bB g g5->g5 bO=some (.cells (ae.cells (.ws 12 (d.set 11 (UInt64.ofNat i)))).toArray 69 (0,0))->(∃a t,g5 ca=dB a t/\a.size=12)->d=(if i∈lo then gz else c) ->
  ∃ax,bR g5 b7 0=some (U ax)/\bp (decide ((i:Int)<ax)) (∃s2,bR g5 fI 0=some (aU s2)/\∃q1,an.q s2=some q1/\0<=(i:Int)/\(i:Int)+1<=(s2.len:Int)/\∃ay,bR g5 q1.b (q1.o+Int.toNat (i:Int)*1)=some (U ay)/\Int.NonNeg 11/\Int.NonNeg 0/\a1 g5 ⟨bO,0+11⟩ [ak (cK ay)] λbd=>∃aX:cM,bP bd bO 0 aX/\a1 bd ⟨ca,0⟩ (ae.cells (.ws 12 aX)) λcg=>∃aZ:cM,bP cg ca 0 aZ/\(ec aZ=ec (y8 n pl lo i c)/\bB g cg))
   (∃cp:cM,bP g5 bO 0 cp/\a1 g5 ⟨ca,0⟩ (ae.cells (.ws 12 cp)) λcl=>∃dc:cM,bP cl ca 0 dc/\(ec dc=ec (y8 n pl lo i c)/\bB g cl)):=by
  rintro g5 d bU ar ⟨a,t,aN,Fb⟩ rfl;refine⟨_,bU.cell b5,b6 (λtj=>?_) λtj=>?_⟩
  .have bN:i<pl.length:=by omega
   refine⟨_,bU.cell gg,?_⟩;refine(adU.bE bU).e0 (i:=i) (by simpa using bN) λq _ aT=>?_;have cR:(pl.map λp:Nat=>(p:Int))[i]'(by simpa using bN)=((pl.getD i 0:Nat):Int):=by simp[List.getD,bN]
   rw[cR] at aT;have b1:pl.getD i 0<2 ^ 63:=by
    have:pl.getD i 0=pl[i]:=by simp[List.getD,bN]
    rw[this];exact au _ (aty bN)
   refine⟨_,aT,Int.NonNeg.mk 11,Int.NonNeg.mk 0,?_⟩;refine ob bU f1 ar (i:=11) (by decide) λg6 cb pc eI=>?_;rw[JH,jr b1] at pc;refine⟨_,da pc,m8 (n:=12) cb f20 ((eI _ cE).trans aN) Fb λg7 cV q0 _=>⟨_,da q0,?_,cV⟩⟩;unfold y8;rw[as8 (show i<n by omega)]
  .refine⟨_,da ar,m8 (n:=12) bU f20 aN Fb λg7 cV q0 _=>⟨_,da q0,?_,cV⟩⟩;unfold y8;rw[as7 (show ¬i<n by omega)]
 refine hS (λbz=>?_) λbz=>?_
 .have hm:i∈lo:=mem_cast.1 (atC bz);rw[<-y2];refine m8 (n:=12) eA f1 r2 (by simp[ae.cells]) λg4 bc uW ez=>⟨Int.NonNeg.mk 11,Int.NonNeg.mk 0,?_⟩;refine ob bc f1 uW (i:=11) (by decide) λg5 bU ie cY=>?_;rw[jr (show i<2 ^ 63 by omega)] at ie;exact fin g5 gz bU ie ⟨_,_,(cY _ cE).trans ((ez _ cE).trans kj),rfl⟩ (by rw[as8 hm])
 .have hm:i∉lo:=λh=>atW bz (mem_cast.2 h);refine⟨Int.NonNeg.mk 11,Int.NonNeg.mk 0,?_⟩;refine ob eA f1 r2 (i:=11) (by decide) λg5 bU ie cY=>?_;rw[jr (show i<2 ^ 63 by omega)] at ie;exact fin g5 c bU ie ⟨_,_,(cY _ cE).trans kj,rfl⟩ (by rw[as7 hm])
theorem adW (D:Nat->Prop)(h0:ai):pR prog D h0 (.func (.func 176) #[] #[]) y9 (λr=>r.key.toNat) (λ_=>True):=by
 intro h O x y _ _;refine⟨rfl,?_⟩;refine adX _ _ _ _ _ _ ?_;unfold Rs;refine bL λbO g1 f1 lP aE=>bL λca g2 f2 kj az=>⟨_,aF (az.get lP) rfl,_,aF kj rfl,?_⟩;refine(O0 x.key y.key).to λg3 aD=>⟨_,rfl,_,rfl,?_,(aE.trans az).trans aD⟩;rw[<-atY];constructor
 .intro h;by_cases c:x.key<y.key
  .exact c
  .rw[as7 c] at h;split at h<;>omega
 .intro h;rw[as8 h];decide
end Go.Proofs.Tryz
namespace Go.Proofs.Tryz
open Go Go.cQ Go.RowKit
set_option maxRecDepth 8000
theorem Rt {k a b:Nat}(ab:k<=1000)(h:a<=b):ib (mV k a)<=ib (mV k b):=by
 have neg:∀x:a8×Int,x.2<0->ib x=1001*18446744073709551616:=λx af=>by unfold ib;rw[as8 af]
 have le:∀c,ib (mV k c)<=1001*18446744073709551616:=λc=>by
  unfold ib;split
  .exact as_ _
  .have:=(mV k c).1.toNat_lt;omega
 by_cases au:b<4611686018427387904
 .have bV:a<4611686018427387904:=by omega
  by_cases gA:(k:Int)-(b/4294967296:Nat)<0
  .rw[neg (mV k b) (by unfold mV;rw[as8 au];exact gA)];exact le a
  .have adY:¬(k:Int)-(a/4294967296:Nat)<0:=by omega
   unfold mV;rw[as8 au,as8 bV];unfold ib;rw[as7 adY,as7 gA];have aC:(UInt64.ofNat (a%4294967296)).toNat=a%4294967296:=by rw[ate];omega
   have a7:(UInt64.ofNat (b%4294967296)).toNat=b%4294967296:=by rw[ate];omega
   show _*18446744073709551616+(UInt64.ofNat (a%4294967296)).toNat<=_*18446744073709551616+(UInt64.ofNat (b%4294967296)).toNat;rw[aC,a7];omega
 .rw[neg (mV k b) (by unfold mV;rw[as7 au];decide)];exact le a
theorem cn.to {A B C:Nat->Prop}{h0 h:ai}(v:cn A h0 B h)(qg:∀x,C x->B x∨h0 x=none):cn A h0 C h :=
 ⟨λb au=>(qg b au).elim (v.1 b) .inr,v.2.1,v.2.2⟩
theorem JJ {A B:Nat->Prop}{h0 h:ai}{b o:Nat}{c:Array Value}{t:TypeId}{l:List Value}{K:ai->Prop}(v:cn A h0 B h)(au:B b)(e:h b=dB c t)(aR:o+l.length<=c.size)
 (ab:∀ag,cn A h0 B ag->ag b=dB (hg c o l) t->(∀x,x≠b->ag x=h x)->K ag):a1 h ⟨b,o⟩ l K:=by
 refine⟨c,t,e,aR,ab _ ⟨v.1,λx af aH=>?_,λx af=>?_⟩ (ea _ _ _) λx af=>cJ _ _ af⟩
 .have:x≠b:=λe=>by subst e;exact(v.1 x au).elim aH af
  rw[cJ _ _ this,v.2.1 x af aH]
 .by_cases e:x=b
  .rw[e,ea] at af;cases af
  .rw[cJ _ _ e] at af;exact v.2.2 x af
theorem adZ {D F:Nat->Prop}{h ag:ai}(O:db D h ag)(ew:∀x,D x->F x)(aH:∀x,D x->ag x≠none):cn F h F ag :=
 ⟨λ_ h=> .inl h,λx af bf=>O x af λd=>bf (ew x d),λx af=>Classical.byContradiction λaT=>by
  by_cases d:D x
  .exact aH x d af
  .rw[O x aT d] at af;exact aT af⟩
theorem fi.ad0 {α:Type}{k:Nat}{f:α->List Value}(bf:∀x,(f x).length=k){h:ai}{s:an}{l:List α}(r:fi f h s l){n:Nat}(aH:n<=l.length):fi f h ⟨fT s.p 0 s.cap k,n-0,s.cap-0,hE s.z 0 s.cap k⟩ (l.take n):=by
 have hlen:=r.len;have sO:=r.cap;have ah:an.q ⟨fT s.p 0 s.cap k,n-0,s.cap-0,hE s.z 0 s.cap k⟩=s.q:=by
  obtain⟨p,k,c,z⟩:=s;simp only[an.q,hE,fT,Nat.zero_mul,or_true,at2];cases z with
  | some z=>rfl
  | none =>
   simp only;split
   .rfl
   .cases p<;>rfl
 refine⟨by simp;omega,by simp;omega,λe=>?_,λq lQ=>?_⟩
 .rw[ah] at e;have:=r.nil e;simp;exact this
 .rw[ah] at lQ;have e:l.flatMap f=(l.take n).flatMap f++(l.drop n).flatMap f:=by rw[<-auE,aur]
  have:=r.rd q lQ;rw[qh] at this ⊢;intro i hi;have:=this i (by rw[e,as9];omega);rw[this];congr 1;simp only[e];rw[List.getElem_append_left hi]
theorem w0 (R:dw)(r:Nat)(f g:Nat->cM):dD (dD R r f) r g=dD R r g:=by
 funext ej i;unfold dD;by_cases c:ej=r
 .rw[as8 c,as8 c]
 .rw[as7 c,as7 c,as7 c]
theorem qY (R:dw)(r:Nat)(f:Nat->cM):dD R r f r=f:=by funext i;unfold dD;rw[as8 rfl]
section
variable {T:TypeId} {m:jo} {R:dw} {a_:List dt} {es:an} {h:ai}
theorem cN.congr (M:cN T m R a_ es h){e1:dw}(jc:∀r,r<m.ep->∀j,j<m.cq r->e1 r j=R r j):cN T m e1 a_ es h :=
 ⟨M.top,M.uN,M.ep,M.len,M.row,λi hi=>by
  obtain⟨c,t,e,aR,r⟩:=M.hG i hi;refine⟨c,t,e,aR,λj aL k ab=>?_⟩;rw[jc i hi j aL];exact r j aL k ab,M.cq,M.d1,M.d2,M.d3,M.d4⟩
theorem cN.y3 {r n:Nat}{f g:Nat->cM}(M:cN T m (dD R r λi=>if i<n then f i else g i) a_ es h)(aH:m.cq r<=n):cN T m (dD R r f) a_ es h :=
 M.congr λej _ j aL=>by
  unfold dD;by_cases c:ej=r
  .subst c;rw[as8 rfl,as8 rfl];exact(as8 (show j<n by omega)).symm
  .rw[as7 c,as7 c]
end
end Go.Proofs.Tryz
namespace Go.Proofs.Tryz
open Go Go.cQ Go.RowKit
set_option maxRecDepth 8000
section
variable {T:TypeId} {m:jo} {R:dw} {a_:List dt} {es:an} {h:ai}
theorem Ru (M:cN T m R a_ es h){r K k N:Nat}(aK:r<m.ep)(fr:K<=10)(kZ:N=2 ^ K)(aH:N<=m.cq r)(ab:k<12)(aO:a_.length<3000000000000) :
 aw 174 [bu ⟨m.b,0⟩,U r,U N,U k] h λv ag=>∃bb,v=U 0/\cN T m (dD R r (gQ (hc k ab) (h9 K) (R r))) (a_++uA r K) bb ag/\cn (bA m es) h (bA m bb) ag:=by
 subst kZ;have:=ad1 M aK fr aH ab aO;rw[show(2:Int) ^ K=((2 ^ K:Nat):Int) by simp] at this;exact this
theorem Fc (f E:Nat):writes ((f:Int)+2) (2 ^ E)++uA ((f+2:Nat):Int) E=hI f E:=by
 unfold hI;rw[show((f+2:Nat):Int)=(f:Int)+2 by omega]
theorem ET (f:Int){E:Nat}(h7:E<=8):(hI f E).length<=512+4*102400:=by
 have aa:=Bu (K:=E) (by omega);have ad:2 ^ E<=256:=atg (n:=2) (by decide) h7;unfold hI uA;rw[as9,rH,EE];omega
def Rv (P:c1)(r:Row):Prop:=(r.id,r.deep)=mV P.k r.key.toNat
theorem ac8 {P:c1}(o:P.dk)(M:cN T m R a_ es h){hN:TypeId}{aV f mp:Nat}{dV:Bool}(h7:kO P.k P.s P.t=2 ^ P.E)(jb:h aV=dB (l3 P m.b f dV mp) hN)(ta:¬bA m es aV)
 (bf:f<=1000) (aK:f+2<m.ep) (ln:m.cq (f+2)=2 ^ P.E) {ao:Nat} (fP:ao<2 ^ P.k) (dp:u2 P (R (f+2))) (aO:a_.length<2000000000000) :
 aw 156 [bu ⟨aV,0⟩,U ao] h λv ag=>∃bb,v= .tuple #[]/\cN T m (dD R (f+2) (iT P ao (R (f+2)))) (a_++(hI f P.E++hI f P.E)) bb ag /\
  ag aV=dB (l3 P m.b f (dV||ki P ao (R (f+2))) mp) hN/\¬bA m bb aV/\cn (λx=>bA m es x∨x=aV) h (λx=>bA m bb x∨x=aV) ag:=by
 have ol:=o.fu;have ad2:=wS o;have wT:=o.E;have qW:=ET (f:Int) wT;have aH:=o.n;have kZ:(2:Int) ^ P.E=((2 ^ P.E:Nat):Int):=by simp
 rw[kZ] at h7;generalize r6:2 ^ P.E=N at *;have hB:al ((f:Int)+2)=((f+2:Nat):Int):=by rw[bl];omega
 refine ad3 _ _ ?_;unfold Rw;refine bL λaj aa f1 aC aE=>bL λaB ad f2 a7 az=>?_;have cE:aB≠aj:=λe=>by rw[e,aC] at f2;cases f2
 have m_:=az.get aC;have eA:=aE.trans az;have hW:=eA.get jb;refine⟨some ⟨aV,0⟩,aF m_ rfl,_,rfl,_,aF hW rfl,_,aF hW rfl,_,aF hW rfl,?_⟩;refine(H4 ol).to λaq aD=>⟨_,_,_,rfl,bL λaS aJ f4 b5 bc=>?_⟩;have r7:=aD.trans bc;have p7:=eA.trans r7;have f30:h aS=none:=(eA.trans aD).free f4;have n31:aS≠aj:=λe=>by rw[e,aD.get m_] at f4;cases f4
 have n32:aS≠aB:=λe=>by rw[e,aD.get a7] at f4;cases f4
 have Rx:aV≠aS:=λe=>by rw[<-e,jb] at f30;cases f30
 refine kC p7 f30 b5 rfl λaW bU cD cY=>⟨_,aF cD rfl,_,aF cD rfl,_,aF cD rfl,?_⟩;have r8:=(cY _ (atf n31)).trans (r7.get m_);have B2:=(cY _ (atf n32)).trans (r7.get a7);have mM:=bU.get jb;refine⟨some ⟨aV,0⟩,aF r8 rfl,_,rfl,_,aF mM rfl,_,aF mM rfl,_,aF mM rfl,?_⟩;refine(H2 ol.qz).to λbd cb=>⟨_,rfl,⟨aF (cb.get mM) rfl,aF (cb.get mM) rfl,aF (cb.get mM) rfl,trivial⟩,⟨aF (cb.get r8) rfl,trivial⟩,?_⟩;refine(Ed ol).to λcg cV=>⟨_,rfl,bL λb7 cl f8 gg dT=>?_⟩;have oV:(P.s:Int)*((P.k:Int)+1)+(P.t:Int)+1=(P.n:Nat):=IM P;rw[h7,oV];have rT:=(cb.trans cV).trans dT;have Fe:=bU.trans rT;have f40:h b7=none:=(bU.trans (cb.trans cV)).free f8;have n41:b7≠aj:=λe=>by rw[e,(cb.trans cV).get r8] at f8;cases f8
 have n42:b7≠aB:=λe=>by rw[e,(cb.trans cV).get B2] at f8;cases f8
 have n43:b7≠aS:=λe=>by rw[e,(cb.trans cV).get cD] at f8;cases f8
 refine kC Fe f40 gg rfl λcL eX iE e2=>bL λb4 cT f10 uG f_=>?_;have Ff:=f_.get ((e2 _ (atf n41)).trans (rT.get r8));have l7:=f_.get ((e2 _ (atf n42)).trans (rT.get B2));have tk:=f_.get ((e2 _ (atf n43)).trans (rT.get cD));have mW:=f_.get iE;have JK:=eX.trans f_;have Fg:=JK.get jb;have f50:h b4=none:=eX.free f10;have f20:h aB=none:=aE.free f2;let Z:Nat->Prop:=λx=>x=aV∨x=aj∨x=aB∨x=aS∨x=b7;have iV:∀x,Z x->cT x≠none:=by
  rintro x (rfl|rfl|rfl|rfl|rfl)
  .rw[Fg];simp
  .rw[Ff];simp
  .rw[l7];simp
  .rw[tk];simp
  .rw[mW];simp
 have Fh:∀x,Z x->x=aV∨h x=none:=by
  rintro x (rfl|rfl|rfl|rfl|rfl)
  .exact .inl rfl
  .exact .inr f1
  .exact .inr f20
  .exact .inr f30
  .exact .inr f40
 have ad4:¬Z b4:=λz=>by
  have:=iV b4 z;rcases z with e|e|e|e|e
  all_goals rw[e] at f10
  .rw[eX.get jb] at f10;cases f10
  .rw[(e2 _ (atf n41)).trans (rT.get r8)] at f10;cases f10
  .rw[(e2 _ (atf n42)).trans (rT.get B2)] at f10;cases f10
  .rw[(e2 _ (atf n43)).trans (rT.get cD)] at f10;cases f10
  .rw[iE] at f10;cases f10
 have ad5:∀x,Z x->¬bA m es x:=λx z hm=>by
  rcases Fh x z with rfl|af
  .exact ta hm
  .exact M.dv hm af
 have JL:=M.bE JK;let ad6:Nat->cM->cM:=λi c=>c.set 11 (me P ao i c);let rows:Nat->List Row:=λi=>(List.range i).map λj=>rowOf P ao j (R (f+2) j);let S:Nat->(Nat->Prop)->ai->Prop:=λi F g=>∃s,F=(λx=>Z x∨kg b4 s x)/\ju 3 uZ 269 g b4 s (rows i)/\(∀x,Z x->g x=cT x)/\(∀x,Z x->¬kg b4 s x);have ad7:S 0 (λx=>Z x∨kg b4 ⟨none,0,0,none⟩ x) cT:=by
  refine⟨_,rfl,⟨uG,cI.e9 ..,λp aM=>(by cases aM)⟩,λ_ _=>rfl,?_⟩;rintro x z (rfl|⟨p,aM,_⟩)
  .exact ad4 z
  .cases aM
 have Ry:∀i F g,S i F g->∀b,F b->g b≠none:=by
  rintro i _ g ⟨s,rfl,B,bt,_⟩ b (z|au)
  .rw[bt b z];exact iV b z
  .exact B.dv au
 have ad8:∀i F g bg,S i F g->(∀b,F b->bg b=g b)->S i F bg:=by
  rintro i _ g bg ⟨s,rfl,B,bt,aH⟩ aR;exact⟨s,rfl,B.move λx af=>aR x (.inr af),λx z=>(aR x (.inl z)).trans (bt x z),aH⟩
 have ad9:∀i F g,S i F g->bR g aV 3=some (bu ⟨m.b,0⟩)/\bR g aV 4=some (U f):=by
  rintro i _ g ⟨s,rfl,B,bt,aH⟩;have:=(bt aV (.inl rfl)).trans Fg;exact⟨aF this rfl,aF this rfl⟩
 refine⟨some ⟨aV,0⟩,aF Ff rfl,?_⟩;refine(Rk JL bf aK (n:=N) (by omega) (by omega) (fn:=ad6) (S:=S) ad7 ?_ Ry ad8 ad9 ?_).mono ?_
 .rintro b (z|rfl|⟨p,aM,_⟩)
  .exact ad5 b z
  .exact λhm=>M.dv hm f50
  .cases aM
 .rintro i _ g hi ⟨s,rfl,B,bt,ad_⟩;have jO:=(bt aV (.inl rfl)).trans Fg;have g1:=(bt aj (.inr (.inl rfl))).trans Ff;have g2:=(bt aB (.inr (.inr (.inl rfl)))).trans l7;have g3:=(bt aS (.inr (.inr (.inr (.inl rfl))))).trans tk;have g4:=(bt b7 (.inr (.inr (.inr (.inr rfl))))).trans mW;refine(adM o fP (aF g1 rfl) (aF jO rfl) (aF g2 rfl) (aF g4 rfl) (aF g3 rfl) B (by simp[rows];omega) (i:=i) (by omega) (R (f+2) i) (λau=>dp.leaf i au)).mono ?_;rintro _ bg ⟨rfl,cx,yG,hp⟩;have ap:=kH hp (λx z=>by rw[bt x z];exact iV x z) ad_;refine⟨rfl,_,⟨cx,rfl,?_,λx z=>(ap.1 x z).trans (bt x z),ap.2⟩,JG hp⟩;have e:rows (i+1)=rows i++[rowOf P ao i (R (f+2) i)]:=by simp[rows,ato]
  rw[e];exact yG
 rintro _ cO ⟨ir,wB,rfl,B3,Rz,d11,v11⟩;have wl:=rH ((f:Int)+2) N;have JM:cn (λx=>bA m es x∨x=aV) h (λx=>bA m es x∨(Z x∨kg b4 ⟨none,0,0,none⟩ x)) cT:=(iC JK _).to λx af=>by
  rcases af with af|z|rfl|⟨p,aM,_⟩
  .exact .inl (.inl af)
  .exact(Fh x z).imp .inr id
  .exact .inr f50
  .cases aM
 have aea:=JM.trans v11;have aeb:=Ry N wB cO Rz;have B3:cN T m (dD R (f+2) (gm P ao (R (f+2)))) _ _ _:=cN.y3 (f:=gm P ao (R (f+2))) (g:=R (f+2)) B3 (by omega);obtain⟨s,rfl,aec,y_,aed⟩:=Rz;have JN:=(y_ aV (.inl rfl)).trans Fg;have JO:=(y_ aj (.inr (.inl rfl))).trans Ff;have aee:=(y_ aS (.inr (.inr (.inr (.inl rfl))))).trans tk;have aef:=(y_ b7 (.inr (.inr (.inr (.inr rfl))))).trans mW;refine⟨rfl,some ⟨aV,0⟩,aF JO rfl,_,rfl,some ⟨m.b,0⟩,aF JN rfl,some ⟨aV,0⟩,aF JO rfl,_,rfl,_,aF JN rfl,?_⟩;rw[hB];refine(Ru B3 aK (by omega) r6.symm (by omega) (k:=11) (by decide) (by simp only[as9,wl];omega)).mono ?_;rintro _ cH ⟨eO,rfl,rV,kF⟩;have rV:cN T m (dD R (f+2) (eB P ao (R (f+2)))) (a_++hI f P.E) eO cH:=by
  rw[w0,qY,atr,<-r6,Fc] at rV;exact rV
 obtain⟨gK,d12⟩:=kH kF aeb d11;have B4:=aec.move λx af=>gK x (.inr af);have JP:=aea.trans (mS kF);refine⟨_,rfl,s,aF B4.cell rfl,?_⟩;let D:Nat->Prop:=λx=>∃q,s.q=some q/\x=q.b;refine(aeg (adW D cH) (λq ah=>⟨q,ah,rfl⟩) (n:=N) (by omega) (d:=λj=>rowOf P ao j (R (f+2) j)) B4.own (db.refl _ _) (λ_ _=>trivial)).mono ?_;rintro _ dL ⟨rfl,bq,za,Fi,RA,mQ,_⟩;have aeh:∀x,D x->dL x≠none:=by rintro _ ⟨q,ah,rfl⟩;exact(za.b_ ah).2
 have zb:=JP.trans (adZ Fi (λx bK=> .inr (.inr (.inr bK))) aeh);have B5:∀x,Z x->dL x=cO x:=λx z=>by
  rw[Fi x (by rw[gK x (.inl z),y_ x z];exact iV x z) λd=>aed x z (.inr d),gK x (.inl z)]
 have Fj:=rV.move λx af=>Fi x (rV.dv af) λd=>d12 x (.inr (.inr d)) af;have k1:dL b4=some (.cells #[aU s] 269 (0,0)):=by
  rw[Fi b4 (by rw[B4.cell];simp) fun⟨q,ah,e⟩=>B4.ne q ah e.symm,B4.cell]
 have H1:=(B5 aj (.inr (.inl rfl))).trans JO;have JQ:=(B5 aS (.inr (.inr (.inr (.inl rfl))))).trans aee;have RB:=(B5 b7 (.inr (.inr (.inr (.inr rfl))))).trans aef;have aei:=(B5 aV (.inl rfl)).trans JN;have aej:=za.len;have ac:=za.cap;simp only[ath,atj] at aej;refine⟨rfl,s,aF k1 rfl,_,aF RB rfl,by omega,by omega,?_⟩;let it:Nat->a8×Int:=λj=>((bq j).id,(bq j).deep);have uI:=fi.ad0 r5 za.rd (n:=P.n) (by simp;omega);refine⟨λc0 dd dj ck bj bM eM dR g bI=>c0=⟨aj,0⟩/\dd=⟨aS,0⟩/\dj=⟨b7,0⟩/\ck=(N:Nat)/\bM=⟨fT s.p 0 s.cap 3,P.n-0,s.cap-0,hE s.z 0 s.cap 3⟩/\eM=(P.n:Nat)/\∃i:Nat,dR=i/\i<=P.n/\bI=P.n-i/\cI 2 m2 dL g bj ((List.range i).map it)/\bB dL g,
  ⟨P.n,rfl,rfl,rfl,rfl,rfl,rfl,0,rfl,by omega,rfl,cI.e9 ..,bB.refl _⟩,?_⟩
 rintro c0 dd dj ck bj bM eM dR dz bI ⟨rfl,rfl,rfl,rfl,rfl,rfl,i,rfl,hi,rfl,dZ,cv⟩;refine b6 (λb1=>?_) λc3=>?_
 .have bN:i<P.n:=by omega
  refine(uI.bE r5 cv).e0 r5 (i:=i) (by simp;omega) λq ah iI=>?_;have e:(((List.range N).map bq).take P.n)[i]'(by simp;omega)=bq i:=by simp
  rw[e] at iI;obtain⟨aX,aZ,cp,_⟩:=iI;rw[show(i:Int).toNat=i by omega];refine⟨_,aX,_,aZ,_,cp,bL λdy g1 f6 dK cb=>?_⟩;refine kC (cv.trans cb) (cv.free f6) dK rfl λg2 n5 RC eI=>⟨_,aF RC rfl,_,aF RC rfl,?_⟩;have RD:=(dZ.bE cb).move (ag:=g2) λq ah=>eI _ λe=>(dZ.b_ ah).2 (e▸f6);refine cI.push adL kc O2 RD [it i] (by rfl) rfl (λb au=>n5.free au) (by simp;omega) (by decide) λcx g3 k2 JR _ ar6=>⟨P.n-(i+1),by omega,rfl,rfl,rfl,rfl,rfl,rfl,i+1,bl,by omega,rfl,?_,wA RD n5 JR⟩;have e:(List.range (i+1)).map it=(List.range i).map it++[it i]:=by simp[ato]
  rw[e];exact k2
 have hi:i=P.n:=by omega
 subst hi;generalize aek:R (f+2)=cw at *;have ael:∀j,j<N->Rv P (bq j):=λj aL=>RA.all (P:=Rv P) (λx _ af=>by
  have aa:=RE o (ao:=ao) dp (i:=x) (by omega);have ad:gb (gm P ao cw x)=(me P ao x (cw x)).toNat:=by unfold gb gm;rw[u1]
  rw[ad] at aa;exact aa) (atx _) aL
 have aem:((List.range (2 ^ P.E)).map λj=>(bq j).key.toNat).Perm ((List.range (2 ^ P.E)).map λi=>gb (gm P ao cw i)):=by
  have aa:=RA.2.map λr:Row=>r.key.toNat;rw[auf,auf,auz,<-List.range_eq_range'] at aa;rw[r6];refine aa.trans (List.Perm.of_eq (atv λx _=>?_));show(me P ao x (cw x)).toNat=_;unfold gb gm;rw[u1]
 have aen:∀j,j<N->it j=hX P ao (eB P ao cw j):=λj aL=>by
  rw[<-aeo o (bq:=λj=>(bq j).key.toNat) dp aem (λa b aa ad=>mQ a b (atx _) aa (by omega)) (i:=j) (by omega)];exact ael j aL
 have fp:(List.range P.n).map it=(List.range P.n).map λj=>hX P ao (eB P ao cw j):=atv λj aL=>aen j (by have:=atq.1 aL;omega);rw[fp] at dZ;have nt:((List.range P.n).map λj=>hX P ao (eB P ao cw j)).map (·.2)=hq P ao cw:=by
  unfold hq;rw[auf];exact atv λj _=>Fk P ao _
 have ku:(hq P ao cw).length=P.n:=by simp[hq]
 have dl:=JS P.k P.s P.t (by have:=o.s;omega) (hq P ao cw) (by rw[ku];unfold c1.n;omega);refine⟨_,aF (cv.get JQ) rfl,_,aF (cv.get JQ) rfl,_,aF (cv.get JQ) rfl,?_⟩;refine(aaU (k:=P.k) (s:=P.s) (t:=P.t) ol.qz dZ.rd (by simp[c1.n]) (λx af=>?_) ?_).mono ?_
 .obtain⟨j,_,rfl⟩:=atE.1 af;rw[Fk];unfold tl;have:=y7 P.k ao (eB P ao cw j)[2].toNat;split<;>omega
 .intro a b aa ad
  have qZ:b<P.n:=by simpa using ad
  have w4:∀j,j<P.n->((List.range P.n).map λj=>hX P ao (eB P ao cw j)).getD j pW=mV P.k (gb (eB P ao cw j)):=λj aL=>by
   rw[<-JT o dp (by omega)];simp[List.getD,aL]
  rw[w4 a (by omega),w4 b qZ];exact Rt (by have:=o.k;omega) (RF P ao cw aa (by omega))
 rintro _ er ⟨b3,du,rfl,q4,og,yS⟩;rw[nt] at q4 og;have Fl:(jK P.k P.s P.t (hq P ao cw)).length=P.n:=dl.len.trans ku;have JU:∀x∈jK P.k P.s P.t (hq P ao cw),x<2 ^ 63:=λx af=>by have:=dl.lt x af;omega
 have aep:(jY P.k P.s P.t (hq P ao cw)).length<=1000000:=by
  have aa:=auq (λi=>(hh P.k P.s P.t (hq P ao cw) (fU P.k)).getD i none==none) (List.range (fc (hq P ao cw)));have ad:=rC (hq P ao cw);rw[atj] at aa;unfold jY;omega
 have JV:=cv.trans yS;refine⟨b3,du,rfl,bL λfI gh RG RH B6=>bL λho iG Fm aeq na=>?_⟩;have zc:ho≠fI:=λe=>by rw[e,RH] at Fm;cases Fm
 have aer:=(JV.trans B6).trans na;have JW:dL fI=none:=JV.free RG;have JX:dL ho=none:=(JV.trans B6).free Fm;refine kC aer JW (na.get RH) rfl λfO tm Jd uL=>kC tm JX ((uL _ zc).trans aeq) rfl λfe zd JY ze=>?_;have RI:=(ze _ (atf zc)).trans Jd;have RJ:bB er fe:=λx af=>by
  have hY:x≠fI:=λe=>af (e▸RG);have lx:x≠ho:=λe=>by have:=B6 x af;rw[e,Fm] at this;rw[e] at af;exact af this.symm
  rw[ze x lx,uL x hY,na x (by rw[B6 x af];exact af),B6 x af]
 have w5:=zd.get H1;have qS:=zd.get RB;have JZ:=zd.get aei;have lR:=q4.bE RJ;have lS:=og.bE RJ;let nG:Nat->Prop:=λx=>Z x∨x=fI∨x=ho∨(∃q,b3.q=some q/\x=q.b)∨(∃q,du.q=some q/\x=q.b);have w6:∀x,nG x->Z x∨dL x=none:=by
  rintro x (z|rfl|rfl|⟨q,ah,rfl⟩|⟨q,ah,rfl⟩)
  .exact .inl z
  .exact .inr JW
  .exact .inr JX
  .exact .inr (cv.free (q4.b_ ah).1)
  .exact .inr (cv.free (og.b_ ah).1)
 have aes:∀x,nG x->fe x≠none:=by
  rintro x (z|rfl|rfl|⟨q,ah,rfl⟩|⟨q,ah,rfl⟩)
  .have h0:dL x≠none:=by rw[B5 x z,y_ x z];exact iV x z
   rw[zd x h0];exact h0
  .rw[RI];simp
  .rw[JY];simp
  .exact(lR.b_ ah).2
  .exact(lS.b_ ah).2
 have RK:∀x,nG x->¬bA m eO x:=λx z hm=>(w6 x z).elim (λz=>d12 x (.inl z) hm) λaf=>Fj.dv hm af;have u3:cn (λx=>bA m es x∨x=aV) h (λx=>bA m eO x∨nG x) fe:=(zb.more zd).to λx af=>af.elim (λhm=> .inl (.inl hm)) λz=>(w6 x z).elim (λz=> .inl (.inr (.inl z))) λaf=> .inr (zb.2.2 x af);have tn:=Fj.bE zd;have nl:∀x,h x=none->x≠aV:=λx af e=>by rw[e,jb] at af;cases af
 have fin:∀(g:ai) (iu:Bool),cn (λx=>bA m es x∨x=aV) h (λx=>bA m eO x∨nG x) g->cN T m (dD R (f+2) (eB P ao cw)) (a_++hI f P.E) eO g->g aV=dB (l3 P m.b f iu mp) hN->(∀x,nG x->x≠aV->g x=fe x)->iu=(dV||ki P ao cw) ->
  ∃e2:Option aG,bR g aj 0=some (bZ e2)/\aw 171 [bZ e2,U N,.func (.func 179) #[] #[bu ⟨ho,0⟩,bu ⟨b7,0⟩,bu ⟨fI,0⟩]] g λgr hM=>gr= .tuple #[]/\∃hz:Option aG,bR hM aj 0=some (bZ hz)/\∃e3:aG,hz=some e3/\∃iF:Option aG,bR hM e3.b (e3.o+3)=some (bZ iF)/\∃je:Option aG,bR hM aj 0=some (bZ je)/\∃gu:aG,je=some gu/\∃n26,bR hM gu.b (gu.o+4)=some (U n26) /\
   aw 174 [bZ iF,U (al (n26+2)),U N,U 11] hM λv9 hb=>∃n27,v9=U n27/\∃bb,Value.tuple #[]= .tuple #[]/\cN T m (dD R (f+2) (iT P ao cw)) (a_++(hI f P.E++hI f P.E)) bb hb /\
  hb aV=dB (l3 P m.b f (dV||ki P ao cw) mp) hN/\¬bA m bb aV/\cn (λx=>bA m es x∨x=aV) h (λx=>bA m bb x∨x=aV) hb:=by
  rintro g iu V ga jO bt rfl;have fQ:nG aj:= .inl (.inr (.inl rfl));have z4:nG b7:= .inl (.inr (.inr (.inr (.inr rfl))));have E4:nG fI:= .inr (.inl rfl);have z9:nG ho:= .inr (.inr (.inl rfl));have B7:nG aV:= .inl (.inl rfl);have aet:=nl fI (zb.2.2 _ JW);have aeu:=nl ho (zb.2.2 _ JX);have g1:=(bt aj fQ (nl _ f1)).trans w5;have g4:=(bt b7 z4 (nl _ f40)).trans qS;have g8:=(bt fI E4 aet).trans RI;have g9:=(bt ho z9 aeu).trans JY;have zf:=(lR.move (ag:=g) λq ah=>bt _ (.inr (.inr (.inr (.inl ⟨q,ah,rfl⟩)))) (nl _ (zb.2.2 _ (cv.free (q4.b_ ah).1)))).rd;have zg:=(lS.move (ag:=g) λq ah=>bt _ (.inr (.inr (.inr (.inr ⟨q,ah,rfl⟩)))) (nl _ (zb.2.2 _ (cv.free (og.b_ ah).1)))).rd;have J0:∀x,nG x->g x≠none:=λx z=>by
   by_cases c:x=aV
   .rw[c,jO];simp
   .rw[bt x z c];exact aes x z
  refine⟨some ⟨aV,0⟩,aF g1 rfl,?_⟩;refine(Rk ga bf aK (n:=N) (by omega) (by simp only[as9];omega) (fn:=y8 P.n (jK P.k P.s P.t (hq P ao cw)) (jY P.k P.s P.t (hq P ao cw))) (S:=λ_ F bg=>F=nG/\∀x,nG x->bg x=g x) ⟨rfl,λ_ _=>rfl⟩ RK ?_ ?_ ?_ ?_).mono ?_
  .rintro i _ bg ⟨rfl,aR⟩ b z;rw[aR b z];exact J0 b z
  .rintro i _ bg Fo ⟨rfl,aR⟩ ad;exact⟨rfl,λx z=>(ad x z).trans (aR x z)⟩
  .rintro i _ bg ⟨rfl,aR⟩;have:=(aR aV B7).trans jO;exact⟨aF this rfl,aF this rfl⟩
  .rintro i _ bg hi ⟨rfl,aR⟩;refine(adS (n:=P.n) (aF ((aR ho z9).trans g9) rfl) (aF ((aR b7 z4).trans g4) rfl) (aF ((aR fI E4).trans g8) rfl) (zg.move λq ah _=>aR _ (.inr (.inr (.inr (.inr ⟨q,ah,rfl⟩))))) (zf.move λq ah _=>aR _ (.inr (.inr (.inr (.inl ⟨q,ah,rfl⟩))))) Fl JU aep (i:=i) (by omega) _).mono ?_;rintro _ Fo ⟨rfl,bI⟩;exact⟨rfl,nG,⟨rfl,λx z=>(bI x (by rw[aR x z];exact J0 x z)).trans (aR x z)⟩,iC bI _⟩
  rintro _ hM ⟨hO,oZ,rfl,Fp,⟨rfl,z25⟩,d25,v25⟩;rw[w0,qY] at Fp;have Fp:cN T m (dD R (f+2) (kl P ao cw)) _ _ _:=cN.y3 (f:=kl P ao cw) (g:=eB P ao cw) Fp (by omega);have q1:=(z25 aj fQ).trans g1;have J1:=(z25 aV B7).trans jO;refine⟨rfl,some ⟨aV,0⟩,aF q1 rfl,_,rfl,some ⟨m.b,0⟩,aF J1 rfl,some ⟨aV,0⟩,aF q1 rfl,_,rfl,_,aF J1 rfl,?_⟩;rw[hB];refine(Ru Fp aK (by omega) r6.symm (by omega) (k:=11) (by decide) (by simp only[as9,wl];omega)).mono ?_;rintro _ hb ⟨mO,rfl,RL,zh⟩;rw[w0,qY,atr (a_++hI f P.E),<-r6,Fc,atr] at RL;obtain⟨w7,d26⟩:=kH zh (λx z=>by rw[z25 x z];exact J0 x z) d25;refine⟨_,rfl,mO,rfl,RL,(w7 aV B7).trans J1,d26 aV B7,((V.trans v25).trans (mS zh)).to λx af=>?_⟩;rcases af with af|rfl
  .exact .inl (.inl af)
  .exact .inl (.inr B7)
 have q5:∀x,bA m eO x->x≠aV:=λx af e=>RK aV (.inl (.inl rfl)) (e▸af);refine⟨some ⟨aV,0⟩,aF w5 rfl,some ⟨aV,0⟩,aF w5 rfl,_,rfl,_,aF JZ rfl,?_⟩;refine hS (λbz=>?_) λbz=>?_
 .refine⟨_,rfl,JJ u3 (.inr (.inl (.inl rfl))) JZ (by simp) λgB J2 J3 tp=>?_⟩;exact fin gB true J2 (tn.move λx af=>tp x (q5 x af)) (by rw[J3];rfl) (λx z af=>tp x af) (by rw[bz];rfl)
 .refine⟨_,aF JY rfl,_,rfl,JJ u3 (.inr (.inl (.inl rfl))) JZ (by simp) λgB J2 J3 tp=>?_⟩;refine fin gB _ J2 (tn.move λx af=>tp x (q5 x af)) (by rw[J3];rfl) (λx z af=>tp x af) ?_;rw[bz];show decide ((0:Int)<(du.len:Int))=ki P ao cw;rw[og.len,ath];unfold ki;cases jY P.k P.s P.t (hq P ao cw)<;>simp
end

import Derived.Test.YtegdpmgnhnccaaaGreatLvA
import Derived.Test.YtegdpmgnhnccaaaGreatEvC
namespace Go.Proofs.Tryz
open Go Go.cR Go.RowKit
set_option maxRecDepth 8000
structure q8 (m:jQ)(P:dx)(f:Nat):Prop where
 bc:f<=100
 fl:f+2<m.fl
 iD:m.cx f=P.s*(2 ^ (P.k+1)-1)
 eD:m.cx (f+1)=P.t
 fK:m.cx (f+2)=2 ^ P.E
 E:P.E=jJ (hL P.k P.s P.t)
theorem q8.mj {m:jQ}{P:dx}{f:Nat}(L:q8 m P f):mj P.k P.s P.t=2 ^ P.E:=by rw[L.E];exact JZ _
def lz (P:dx)(f aw p:Nat):qD:=⟨((f+(spot P aw p).1:Nat):Int),(((spot P aw p).2:Nat):Int)⟩
theorem sv {P:dx}(o:P.dt)(f aw:Nat):gC P.k P.s P.t f aw=(List.range P.m).map (lz P f aw):=by
 have aV:0<P.s:=by have:=o.s;omega
 have tree:∀n,n<=P.k+1->qF P.k P.s f aw n=(List.range (P.s*n)).map (lz P f aw):=by
  intro n
  induction n with
  | zero=>intro _;simp[qF]
  | succ n dI =>
   intro aK;rw[JX,dI (by omega),Nat.mul_succ,List.range_add,aD4,aEH];congr 1;unfold qE;rw[show(P.s:Int).toNat=P.s by omega];refine aDU λi hi=>?_;have hi:=aDT.1 hi;have cl:P.s*n+i<P.s*(P.k+1):=by
    have:=Nat.mul_le_mul_left P.s aK;rw[Nat.mul_succ] at this;omega
   have I_:=CO (s:=P.s) (a:=n) hi;show _=lz P f aw (P.s*n+i);unfold lz;rw[x6 cl,aDW P.s n,I_.1,I_.2];simp[fP,l8]
 unfold gC dx.m;rw[tree _ (aDt _),List.range_add,aD4,aEH];congr 1;unfold ru;rw[show(P.t:Int).toNat=P.t by omega];refine aDU λi _=>?_;show _=lz P f aw (P.s*(P.k+1)+i);unfold lz;rw[x7 (by omega)];simp
theorem x8 {m:jQ}{P:dx}{f:Nat}(L:q8 m P f)(o:P.dt){aw p:Nat}(bc:aw<2 ^ P.k)(aP:p<P.m):f+(spot P aw p).1<m.fl/\(spot P aw p).2<m.cx (f+(spot P aw p).1)/\(spot P aw p).1<2:=by
 have:=L.fl;rcases mX o bc aP with ⟨aa,ad⟩|⟨aa,ad⟩
 .rw[aa,aEe,L.iD];exact⟨by omega,ad,by omega⟩
 .rw[aa,L.eD];exact⟨by omega,ad,by omega⟩
def YI (G:Nat->Prop)(h0:ak)(v:Value)(op:fv):Prop :=
 ∀g,(∀x,G x->g x=h0 x)->∀(d:c_) (b:Bool),fL prog v [ez d,.bool b] g λr bw=>(∃bO:c_,r= .tuple #[ez bO,.bool (op.now d b).isSome]/\∀x,op.now d b=some x->bO=x)/\bL g bw
section
variable {T:TypeId} {m:jQ} {R:dY} {a8:List dk} {es:ao} {h:ak}
theorem amG {P:dx}{f:Nat}(o:P.dt)(L:q8 m P f)(M:c8 T m R a8 es h){jo:TypeId}{bf mp:Nat}{fb:Bool}(kW:h bf=ev (n3 P m.b f fb mp) jo)(wm:¬bS m es bf)
 {aw to:Nat} (hc:aw<2 ^ P.k) (CP:to<2 ^ P.k) {bi:aE} (hO:bi.toNat<=2147483648) (mQ:rl P (kZ f R)) {op:fv} {v:Value} {G:Nat->Prop} (a2:∀x,G x->h x≠none/\¬bS m es x/\x≠bf) (b0:YI G h v op) (aT:a8.length<1000000000000) :
 aq 118 [bm ⟨bf,0⟩,ab bi,U aw,U to,v] h λr af=>∃aX,r= .tuple #[ez (kd P bi aw (kZ f R)).1,.bool (kd P bi aw (kZ f R)).2]/\c8 T m (lV f R (lI P op bi aw to (kZ f R))) (a8++k7 P.k P.s P.t f aw) aX af /\
  af bf=ev (n3 P m.b f (fb||tu P op bi aw to (kZ f R)) mp) jo/\¬bS m aX bf/\bT (λx=>bS m es x∨x=bf) h (λx=>bS m aX x∨x=bf) af:=by
 have ol:=o.gS;have amH:=Ai o;have Aj:=o.E;have aK:=o.n;have amI:P.n=P.m+1:=rfl;have jE:(2:Int) ^ P.E=((2 ^ P.E:Nat):Int):=by simp
 have bG:=L.mj;rw[jE] at bG;have q9:=Ki (f:Int) Aj;have CQ:∀n,(iG f (gC P.k P.s P.t f aw) n).length<=2*n:=λn=>F2 _ _ _;have amJ:=L.bc;have iu:al ((f:Int)+2)=((f+2:Nat):Int):=by rw[bt];omega
 have pW:(f:Int)+2=((f+2:Nat):Int):=by omega
 have nM:=L.fK;have mO:=L.fl;have zO:P.k<=10:=o.k;have rA:0<P.m:=by have:=o.t;unfold dx.m;omega
 refine amK _ _ _ _ _ ?_;unfold YJ;refine bP λae aa f1 aH aD=>?_;have hz:=aD.get kW;refine⟨_,az hz rfl,_,az hz rfl,_,az hz rfl,_,az hz rfl,?_⟩;refine(Xp ol (f:Int) (by omega) hc aa).mono ?_;rintro _ ad ⟨sp,rfl,ft,aB⟩;rw[sv o f aw] at ft;have fQ:=aD.trans aB;have CR:=ft.len;simp only[aDF,aDL] at CR;generalize Gc:kZ f R=eH at *;let X:Nat->Prop:=λx=>x=bf∨x=ae∨∃q,sp.q=some q/\x=q.b;let A:Nat->Prop:=λx=>bS m es x∨x=bf;have M2:=M.bA fQ;have sw:∀x,X x->x=bf∨h x=none:=by
  rintro x (rfl|rfl|⟨q,aj,rfl⟩)
  .exact .inl rfl
  .exact .inr f1
  .exact .inr (aD.free (ft.bp aj).1)
 have aCo:∀x,X x->ad x≠none:=by
  rintro x (rfl|rfl|⟨q,aj,rfl⟩)
  .rw[fQ.get kW];simp
  .rw[aB.get aH];simp
  .exact(ft.bp aj).2
 have amL:∀x,X x->¬bS m es x:=λx z hm=>by
  rcases sw x z with rfl|ai
  .exact wm hm
  .exact M.dK hm ai
 have ff:bT A h (λx=>bS m es x∨X x) ad:=(hj fQ _).to λx ai=>by
  rcases ai with ai|z
  .exact .inl (.inl ai)
  .exact(sw x z).imp .inr id
 have Gd:ae≠bf:=λe=>by rw[e,kW] at f1;cases f1
 have YK:∀q,sp.q=some q->q.b≠ae/\q.b≠bf:=λq aj=>⟨λe=>(by have:=(ft.bp aj).1;rw[e,aH] at this;cases this),λe=>(by have:=(ft.bp aj).1;rw[e,hz] at this;cases this)⟩;let gu:dY->List dk->ao->c_->ak->Prop:=λdG cm aX d g=>c8 T m dG cm aX g/\bT A h (λx=>bS m aX x∨X x) g/\(∀x,X x->¬bS m aX x)/\g bf=ev (n3 P m.b f fb mp) jo/\g ae=some (.cells (ag.cells (.ws 8 d)).toArray 49 (0,0))/\fR mF g sp ((List.range P.m).map (lz P f aw));let fG:Nat->dY:=λi=>eP R (f+2) λp=>if p<i then strip bi (fg P aw eH p) else R (f+2) p
 have YL:gu (fG 0) (a8++iG f (gC P.k P.s P.t f aw) 0) es j7 ad:=by
  have e:fG 0=R:=by
   have:(λp=>if p<0 then strip bi (fg P aw eH p) else R (f+2) p)=R (f+2):=by funext p;simp
   show eP R (f+2) _=R;rw[this];exact CS R _
  rw[e];exact⟨by simpa [iG] using M2,ff,amL,fQ.get kW,aB.get aH,ft.rd⟩
 refine⟨sp,rfl,λq1 bu bh bB v2 aI t1 s2 bz br bq g bW=>q1=⟨bf,0⟩/\bi=bu/\bh=aw/\bB=to/\v=v2/\aI=⟨ae,0⟩/\sp=s2/\sp=bz/\br=(P.m:Nat)/\∃(i:Nat) (aX:ao),bq=i/\i<=P.m/\bW=P.m-i/\t1=(iv bi (fg P aw eH) i).2/\gu (fG i) (a8++iG f (gC P.k P.s P.t f aw) i) aX (iv bi (fg P aw eH) i).1 g,
  ⟨P.m,rfl,rfl,rfl,rfl,rfl,rfl,rfl,rfl,by rw[CR],0,es,rfl,by omega,rfl,rfl,YL⟩,?_⟩
 rintro q1 bu bh bB v2 aI t1 s2 bz br bq g bW ⟨rfl,rfl,rfl,rfl,rfl,rfl,rfl,rfl,rfl,i,aX,rfl,hi,rfl,rfl,gI,kt,rB,cW,oX,dJ⟩;have Px:∀(i:Nat) (dG:dY),i<P.m->(∀r j,r≠f+2->dG r j=R r j)->dG (f+(spot P aw i).1) (spot P aw i).2=fg P aw eH i:=λi dG hi jL=>by
  have ad:=(x8 L o hc hi).2.2;rw[jL _ _ (by omega),<-Gc];rfl
 have Py:∀i r j,r≠f+2->fG i r j=R r j:=λi r j aQ=>by show eP R (f+2) _ r j=_;unfold eP;rw[aDq aQ]
 have amM:∀i,fM (fG i) (f+2,i) (strip bi (fg P aw eH i))=fG (i+1):=λi=>by
  funext r j;show(if r=f+2/\j=i then _ else if r=f+2 then (if j<i then strip bi (fg P aw eH j) else R (f+2) j) else R r j)=if r=f+2 then (if j<i+1 then strip bi (fg P aw eH j) else R (f+2) j) else R r j
  by_cases aS:r=f+2
  .rw[aDr aS,aDr aS];by_cases aY:j=i
   .rw[aDr ⟨aS,aY⟩,eY,aY]
   .rw[aDq (λh=>aY h.2)];by_cases cB:j<i
    .rw[aDr cB,eY]
    .rw[aDq cB,cS]
  .rw[aDq (λh=>aS h.1),aDq aS,aDq aS]
 refine cj (λcl=>?_) λdH=>?_
 .have cb:i<P.m:=by omega
  obtain⟨Ak,Al,Pz⟩:=x8 L o hc cb;have Am:=CQ i;refine dJ.cA mZ (i:=i) (by simp;omega) λq aj k0=>?_;have e:((List.range P.m).map (lz P f aw))[i]'(by simp;omega)=lz P f aw i:=by simp
  rw[e] at k0;obtain⟨aS,aY,_⟩:=k0;rw[show(i:Int).toNat=i by omega];refine⟨_,aS,_,aY,bP λax g1 f2 a_ aG=>?_⟩;have hN:h ax=none:=kt.2.2 _ f2;refine lY (kt.more aG) hN a_ (by simp) λg2 kG b7 da=>?_;have jT:∀x,g x≠none->x≠ax:=λx ai e=>ai (e▸f2);have nE:∀x,g x≠none->g2 x=g x:=λx ai=>by rw[da x (jT x ai),aG x ai]
  have gH:=gI.move λx ai=>nE x (gI.dK ai);have pX:=(nE bf (by rw[cW];simp)).trans cW;refine⟨some ⟨m.b,0⟩,az pX rfl,_,az b7 rfl,_,az b7 rfl,?_⟩;refine(xC gH Ak Al (by simp only[aDs];omega)).mono ?_;rintro _ g4 ⟨mU,rfl,tv,v4⟩;rw[Px i _ cb (Py i)];have Kj:∀x,X x->g2 x≠none:=λx z=>by
   have:g x≠none:=by
    rcases z with rfl|rfl|⟨q,aj,rfl⟩
    .rw[cW];simp
    .rw[oX];simp
    .exact dJ.there (k:=1) mZ aj (by simp;omega)
   rw[nE x this];exact this
  obtain⟨bZ,Kk⟩:=mI v4 Kj rB;have rC:=kG.trans (nd v4);have wo:=(bZ bf (.inl rfl)).trans pX;have CG:=(bZ ae (.inr (.inl rfl))).trans ((nE ae (by rw[oX];simp)).trans oX);have amN:fR mF g4 sp ((List.range P.m).map (lz P f aw)):=dJ.move λq aj aT=>(bZ _ (.inr (.inr ⟨q,aj,rfl⟩))).trans (nE _ (dJ.there (k:=1) mZ aj aT));refine⟨_,rfl,bP λaM g5 f5 cG bF=>?_⟩;have uk:h aM=none:=rC.2.2 _ f5;refine fN (n:=12) (rC.more bF) uk cG rfl λg6 rD dP ek=>?_;have qv:∀x,g4 x≠none->x≠aM:=λx ai e=>ai (e▸f5);have s_:∀x,g4 x≠none->g6 x=g4 x:=λx ai=>by rw[ek x (qv x ai),bF x ai]
  have Kl:∀x,X x->g4 x≠none:=λx z=>by rw[bZ x z];exact Kj x z
  have nN:=tv.move λx ai=>s_ x (tv.dK ai);have CT:=(s_ bf (Kl bf (.inl rfl))).trans wo;have PA:=(s_ ae (Kl ae (.inr (.inl rfl)))).trans CG;have PB:fR mF g6 sp ((List.range P.m).map (lz P f aw)):=amN.move λq aj aT=>s_ _ (Kl _ (.inr (.inr ⟨q,aj,rfl⟩)));have Ge:¬X aM:=λz=>Kl aM z f5;have PC:¬bS m mU aM:=tv.out f5;have fin:∀(g7:ak) (c:cM) (d:c_) (t:Bool),bT A h (λx=>bS m mU x∨X x) g7->c8 T m (fG i) (a8++iG f (gC P.k P.s P.t f aw) i++[⟨((f+(spot P aw i).1:Nat):Int),(((spot P aw i).2:Nat):Int),false⟩]) mU g7->g7 bf=ev (n3 P m.b f fb mp) jo->g7 ae=some (.cells (ag.cells (.ws 8 d)).toArray 49 (0,0))->fR mF g7 sp ((List.range P.m).map (lz P f aw))->g7 aM=some (.cells (ag.cells (.ws 12 c)).toArray 69 (0,0))->c=strip bi (fg P aw eH i)->(d,t)=iv bi (fg P aw eH) (i+1) ->
   ∃cg:Option aF,bx g7 bf (0+3)=some (a7 cg)/\∃cJ,bx g7 bf (0+4)=some (U cJ)/\∃aY:cM,b5 g7 aM 0 aY/\aq 115 [a7 cg,U (al (cJ+2)),U i,ez aY] g7 λv4 cf=>v4= .tuple #[]/\∃aG,aG<P.m-i/\((⟨bf,0⟩:aF)=⟨bf,0⟩/\bi=bi/\(aw:Int)=aw/\(to:Int)=to/\v=v/\(⟨ae,0⟩:aF)=⟨ae,0⟩/\sp=sp/\sp=sp/\((P.m:Nat):Int)=(P.m:Nat)/\∃(dO:Nat) (aX:ao),al ((i:Int)+1)=dO/\dO<=P.m/\aG=P.m-dO/\t=(iv bi (fg P aw eH) dO).2/\gu (fG dO) (a8++iG f (gC P.k P.s P.t f aw) dO) aX (iv bi (fg P aw eH) dO).1 cf):=by
   rintro g7 c d t mJ rE wq su Gf PD rfl YM;refine⟨some ⟨m.b,0⟩,az wq rfl,_,az wq rfl,_,dL PD,?_⟩;rw[iu];have PE:∀x,X x->g7 x≠none:=by
    rintro x (rfl|rfl|⟨q,aj,rfl⟩)
    .rw[wq];simp
    .rw[su];simp
    .exact Gf.there (k:=1) mZ aj (by simp;omega)
   refine(An rE mO (show i<m.cx (f+2) by omega) _ (by simp only[aDs,aDS];omega)).mono ?_;rintro _ g8 ⟨qK,rfl,qL,fh⟩;obtain⟨dS,PF⟩:=mI fh PE Kk;rw[amM] at qL;refine⟨rfl,P.m-(i+1),by omega,rfl,rfl,rfl,rfl,rfl,rfl,rfl,rfl,rfl,i+1,qK,bt,by omega,rfl,by rw[<-YM],?_,mJ.trans (nd fh),PF,(dS bf (.inl rfl)).trans wq,?_,Gf.move λq aj _=>dS _ (.inr (.inr ⟨q,aj,rfl⟩))⟩
   .rw[ud,aDr (by rw[sv o];simpa using cb)];have gm:(gC P.k P.s P.t f aw).getD i ⟨0,0⟩=lz P f aw i:=by rw[sv o];simp[List.getD,cb]
    rw[gm,show ∀(a b:List dk) (x y:dk),a++(b++([x]++[y]))=a++b++[x]++[y] by simp,pW];exact qL
   .rw[dS ae (.inr (.inl rfl)),su,<-YM]
  have kY:ei (fg P aw eH i)=decide ((fg P aw eH i)[0]=1):=wu _;refine⟨Int.NonNeg.mk 0,Int.NonNeg.mk 11,_,fs dP (i:=0) (by decide),cj (λwv=>?_) λwv=>?_⟩
  .have dC:ei (fg P aw eH i)=true:=by rw[kY];exact aDA wv
   refine⟨Int.NonNeg.mk 1,Int.NonNeg.mk 10,_,fs dP (i:=1) (by decide),iN (λPG=>?_) λPG=>?_⟩
   .have wx:(fg P aw eH i)[1]=bi:=aDN PG;refine⟨Int.NonNeg.mk 11,Int.NonNeg.mk 1,Int.NonNeg.mk 3,Int.NonNeg.mk 8,?_⟩;have iO:e4 ab g6 ⟨fX (some ⟨aM,0⟩) 3 12 1,8,9,none⟩ (kr (fg P aw eH i)).toList:=by
     refine⟨by simp,(show(8:Nat)<=9 by decide),(by intro h;cases h),λq aj j aU=>?_⟩;cases aj;have kb:j<8:=by simpa using aU
     have:=fs dP (i:=3+j) (by omega);show bx g6 aM (0+3*1+j)=_;rw[show 0+3*1+j=3+j by omega,this];congr 2;rcases (show j=0∨j=1∨j=2∨j=3∨j=4∨j=5∨j=6∨j=7 by omega) with rfl|rfl|rfl|rfl|rfl|rfl|rfl|rfl<;>simp[kr]
    refine Jj iO (q:=⟨ae,0⟩) rfl (c:=8) (by simp) ?_;have el:((kr (fg P aw eH i)).toList.take 8).map ab=ag.cells (.ws 8 (kr (fg P aw eH i))):=by
     rw[aEd (by simp)];rfl
    rw[el,<-CU];refine fN (n:=8) rD f1 PA (by simp[ag.cells]) λg7 mJ fa eF=>?_;have YN:aM≠ae:=λe=>Ge (.inr (.inl e));refine fN (n:=12) mJ uk ((eF _ YN).trans dP) (by simp[ag.cells]) λg8 uU fO e6=>?_;have PH:∀x,x≠ae->x≠aM->g8 x=g6 x:=λx aa an=>(e6 x an).trans (eF x aa);refine fin g8 fm _ true uU (nN.move λx ai=>PH x (λe=>Kk ae (.inr (.inl rfl)) (e▸ai)) λe=>PC (e▸ai)) ((PH bf (aDC Gd) λe=>Ge (.inl e.symm)).trans CT) ((e6 _ (aDC YN)).trans fa) (PB.move λq aj _=>PH _ (YK q aj).1 λe=>Ge (.inr (.inr ⟨q,aj,e.symm⟩))) fO ?_ ?_
    .unfold strip;rw[aDr ⟨dC,wx⟩]
    .rw[iv,aDr ⟨dC,wx⟩]
   .have wx:¬(fg P aw eH i)[1]=bi:=λh=>aD3 PG h;exact fin g6 _ _ _ rD nN CT PA PB dP (by unfold strip;rw[aDq λh=>wx h.2]) (by rw[iv,aDq λh=>wx h.2])
  .have dC:¬ei (fg P aw eH i)=true:=by rw[kY];simpa using wv
   exact fin g6 _ _ _ rD nN CT PA PB dP (by unfold strip;rw[aDq λh=>dC h.1]) (by rw[iv,aDq λh=>dC h.1])
 have hi:i=P.m:=by omega
 subst hi;generalize rp:Ao bi to (op.now (iv bi (fg P aw eH) P.m).1 (iv bi (fg P aw eH) P.m).2)=nO;let df:Nat->dY:=λi=>eP R (f+2) λp=>if p<i then kV P aw bi eH nO p else R (f+2) p
 have mx:fG P.m=df P.m:=by
  show eP R (f+2) _=eP R (f+2) _;congr 1;funext p;by_cases c:p<P.m
  .rw[aDr c,aDr c];unfold kV;rw[aDr c]
  .rw[aDq c,aDq c]
 have Km:∀i,fM (df i) (f+2,i) (kV P aw bi eH nO i)=df (i+1):=λi=>by
  funext r j;show(if r=f+2/\j=i then _ else if r=f+2 then (if j<i then kV P aw bi eH nO j else R (f+2) j) else R r j)=if r=f+2 then (if j<i+1 then kV P aw bi eH nO j else R (f+2) j) else R r j
  by_cases aS:r=f+2
  .rw[aDr aS,aDr aS];by_cases aY:j=i
   .rw[aDr ⟨aS,aY⟩,eY,aY]
   .rw[aDq (λh=>aY h.2)];by_cases cB:j<i
    .rw[aDr cB,eY]
    .rw[aDq cB,cS]
  .rw[aDq (λh=>aS h.1),aDq aS,aDq aS]
 rw[mx] at gI;have YO:P.m<=2 ^ P.E:=by omega
 refine⟨λbH dc dj dm ee cH t2 bZ cw g bW=>bH=⟨bf,0⟩/\bi=dc/\dj=aw/\dm=to/\v=ee/\cH=⟨ae,0⟩/\t2=(iv bi (fg P aw eH) P.m).2/\sp=bZ/\∃(i:Nat) (aX:ao),cw=i/\P.m<=i/\i<=2 ^ P.E/\bW=2 ^ P.E-i/\gu (df i) (a8++iG f (gC P.k P.s P.t f aw) i) aX (iv bi (fg P aw eH) P.m).1 g,
  ⟨2 ^ P.E-P.m,rfl,rfl,rfl,rfl,rfl,rfl,rfl,rfl,P.m,aX,by rw[CR],aDt _,YO,rfl,gI,kt,rB,cW,oX,dJ⟩,?_⟩
 clear gI kt rB cW oX dJ;rintro bH dc dj dm ee cH t2 bZ cw g0 bW ⟨rfl,rfl,rfl,rfl,rfl,rfl,rfl,rfl,i,d_,rfl,oQ,hi,rfl,gI,kt,rB,cW,oX,dJ⟩;refine⟨_,az cW rfl,_,az cW rfl,_,az cW rfl,?_⟩;refine(EL ol).to λg1 rF=>⟨_,rfl,?_⟩;rw[bG];have Am:=CQ i;refine cj (λcl=>?_) λdH=>?_
 .have cb:i<2 ^ P.E:=by omega
  refine bP λb1 g2 f5 cG bF=>⟨_,dL (bF.get (rF.get oX)),?_⟩;have Kn:=rF.trans bF;refine(b0 g2 (λx ai=>?_) _ _).mono ?_
  .have dd:=kt.2.1 x (a2 x ai).1 (λbY=>bY.elim (a2 x ai).2.1 (a2 x ai).2.2);rw[Kn x (by rw[dd];exact(a2 x ai).1),dd]
  rintro _ g3 ⟨⟨bO,rfl,pY⟩,aG⟩;refine⟨bO,_,rfl,bP λdU g4 f6 dP cn=>?_⟩;have wy:=(Kn.trans aG).trans cn;have um:h b1=none:=kt.2.2 _ (rF.free f5);have zK:h dU=none:=kt.2.2 _ ((Kn.trans aG).free f6);have n65:dU≠b1:=λe=>by rw[e,aG.get cG] at f6;cases f6
  refine fN (n:=8) (kt.more wy) zK dP rfl λg5 rG pj ek=>?_;have sx:∀x,X x->g0 x≠none:=by
   rintro x (rfl|rfl|⟨q,aj,rfl⟩)
   .rw[cW];simp
   .rw[oX];simp
   .exact dJ.there (k:=1) mZ aj (by simp;omega)
  have Cm:∀x,g0 x≠none->g5 x=g0 x:=λx ai=>by
   rw[ek x λe=>ai (e▸(Kn.trans aG).free f6),wy x ai]
  have iU:=gI.move λx ai=>Cm x (gI.dK ai);have Ko:=(Cm bf (sx bf (.inl rfl))).trans cW;have Kp:=(Cm ae (sx ae (.inr (.inl rfl)))).trans oX;have Kq:fR mF g5 sp ((List.range P.m).map (lz P f aw)):=dJ.move λq aj aT=>Cm _ (sx _ (.inr (.inr ⟨q,aj,rfl⟩)));have jk:g5 b1=some (.cells (ag.cells (.ws 12 fm)).toArray 69 (0,0)):=by
   rw[ek _ (aDC n65),(aG.trans cn).get cG,CU];rfl
  have x9:¬X b1:=λz=>sx b1 z (rF.free f5);have PI:¬bS m d_ b1:=gI.out (rF.free f5);have fin:∀(g7:ak) (c:cM),bT A h (λx=>bS m d_ x∨X x) g7->c8 T m (df i) (a8++iG f (gC P.k P.s P.t f aw) i) d_ g7->g7 bf=ev (n3 P m.b f fb mp) jo->g7 ae=some (.cells (ag.cells (.ws 8 (iv bi (fg P aw eH) P.m).1)).toArray 49 (0,0))->fR mF g7 sp ((List.range P.m).map (lz P f aw))->g7 b1=some (.cells (ag.cells (.ws 12 c)).toArray 69 (0,0))->c=kV P aw bi eH nO i ->
   ∃cg:Option aF,bx g7 bf (0+3)=some (a7 cg)/\∃cJ,bx g7 bf (0+4)=some (U cJ)/\∃aY:cM,b5 g7 b1 0 aY/\aq 115 [a7 cg,U (al (cJ+2)),U i,ez aY] g7 λv4 cf=>v4= .tuple #[]/\∃aG,aG<2 ^ P.E-i/\((⟨bf,0⟩:aF)=⟨bf,0⟩/\bi=bi/\(aw:Int)=aw/\(to:Int)=to/\v=v/\(⟨ae,0⟩:aF)=⟨ae,0⟩/\(iv bi (fg P aw eH) P.m).2=(iv bi (fg P aw eH) P.m).2/\sp=sp/\∃(dO:Nat) (aX:ao),al ((i:Int)+1)=dO/\P.m<=dO/\dO<=2 ^ P.E/\aG=2 ^ P.E-dO/\gu (df dO) (a8++iG f (gC P.k P.s P.t f aw) dO) aX (iv bi (fg P aw eH) P.m).1 cf):=by
   rintro g7 c mJ rE wq su Gf PD rfl;refine⟨some ⟨m.b,0⟩,az wq rfl,_,az wq rfl,_,dL PD,?_⟩;rw[iu];have PE:∀x,X x->g7 x≠none:=by
    rintro x (rfl|rfl|⟨q,aj,rfl⟩)
    .rw[wq];simp
    .rw[su];simp
    .exact Gf.there (k:=1) mZ aj (by simp;omega)
   refine(An rE mO (show i<m.cx (f+2) by omega) _ (by simp only[aDs];omega)).mono ?_;rintro _ g8 ⟨qK,rfl,qL,fh⟩;obtain⟨dS,PF⟩:=mI fh PE rB;rw[Km] at qL;refine⟨rfl,2 ^ P.E-(i+1),by omega,rfl,rfl,rfl,rfl,rfl,rfl,rfl,rfl,i+1,qK,bt,by omega,by omega,rfl,?_,mJ.trans (nd fh),PF,(dS bf (.inl rfl)).trans wq,(dS ae (.inr (.inl rfl))).trans su,Gf.move λq aj _=>dS _ (.inr (.inr ⟨q,aj,rfl⟩))⟩;rw[ud,aDq (by rw[sv o];simp;omega),List.nil_append,pW,<-aDD];exact qL
  refine iN (λah=>?_) λah=>?_
  .obtain⟨d,b4⟩:=Option.isSome_iff_exists.1 ah;have Gg:=pY d b4;subst Gg;refine iN (λhm=>?_) λhm=>?_
   .have PJ:i=P.m:=by
     have:(i:Int)=(sp.len:Int):=aDN hm;omega
    refine⟨_,dL pj,?_⟩;refine(amO bi (show to<2 ^ 63 by have:2 ^ P.k<=2 ^ 10:=aDy (by decide) zO;omega) bO).to λg6 c3=>⟨_,rfl,?_⟩;refine fN (n:=12) (rG.more c3) um (c3.get jk) (by simp[ag.cells]) λg7 mJ fa eF=>?_;have B1:∀x,g5 x≠none->x≠b1->g7 x=g5 x:=λx aa ad=>(eF x ad).trans (c3 x aa);refine fin g7 _ mJ (iU.move λx ai=>B1 x (iU.dK ai) λe=>PI (e▸ai)) ((B1 bf (by rw[Ko];simp) λe=>x9 (.inl e.symm)).trans Ko) ((B1 ae (by rw[Kp];simp) λe=>x9 (.inr (.inl e.symm))).trans Kp) (Kq.move λq aj aT=>B1 _ (Kq.there (k:=1) mZ aj aT) λe=>x9 (.inr (.inr ⟨q,aj,e.symm⟩))) fa ?_;unfold kV;rw[cS,aDr PJ,<-rp,b4];rfl
   .have PJ:¬i=P.m:=λe=>aD3 hm (by omega);refine fin g5 _ rG iU Ko Kp Kq jk ?_;unfold kV;rw[cS,aDq PJ]
  .have amP:op.now (iv bi (fg P aw eH) P.m).1 (iv bi (fg P aw eH) P.m).2=none:=by
    cases e:op.now (iv bi (fg P aw eH) P.m).1 (iv bi (fg P aw eH) P.m).2 with
    | none=>rfl
    | some d=>rw[e] at ah;cases ah
   refine fin g5 _ rG iU Ko Kp Kq jk ?_;unfold kV;rw[cS];split
   .rw[<-rp,amP];rfl
   .rfl
 have hi:i=2 ^ P.E:=by omega
 subst hi;have Gh:c8 T m (eP R (f+2) (iP P op bi aw to eH)) _ _ g1:=(c8.CV (f:=iP P op bi aw to eH) (g:=R (f+2)) (by subst rp;exact gI) (by omega)).bA rF;refine(amQ o Gh L.mj (rF.get cW) (rB bf (.inl rfl)) (by omega) mO nM hc (by rw[tw];exact zL o mQ hc CP hO) (by simp only[aDs];omega)).mono ?_;rintro _ g3 ⟨hp,rfl,gH,pX,aL,v3⟩;rw[Ap,tw] at gH;rw[tw] at pX;let j0:=kH P aw (iP P op bi aw to eH);let W:Nat->dY:=λk=>lV f R (qM P aw j0 (uV P j0 eH) k);have gH:c8 T m (W 0) _ hp g3:=gH.congr λr aQ j aU=>by
  show(if f<=r/\r<f+3 then (if r-f=2/\j<2 ^ P.E then j0 j else eH (r-f) j) else R r j)=if r=f+2 then j0 j else R r j
  by_cases aS:r=f+2
  .subst aS;rw[eY,aDr rfl,eY]
  .rw[aDq aS];by_cases aY:f<=r/\r<f+3
   .rw[aDr aY,cS,<-Gc];show R (f+(r-f)) j=_;rw[show f+(r-f)=r by omega]
   .rw[aDq aY]
 have PK:∀k i,i<2 ^ P.E->W k (f+2) i=j0 i:=λk i hi=>by
  show(if f<=f+2/\f+2<f+3 then qM P aw j0 (uV P j0 eH) k (f+2-f) i else R (f+2) i)=_;rw[eY,show f+2-f=2 by omega,Kr k λp aP e=>?_]
  .show(if 2=2/\i<2 ^ P.E then j0 i else eH 2 i)=_
   rw[aDr ⟨rfl,hi⟩]
  .unfold spot at e;split at e<;>simp at e
 have PL:∀k,k<P.m->fM (W k) (f+(spot P aw k).1,(spot P aw k).2) ((j0 k).set 11 0)=W (k+1):=λk ah=>by
  have s2:=(x8 L o hc ah).2.2;funext r j;show(if r=f+(spot P aw k).1/\j=(spot P aw k).2 then _ else if f<=r/\r<f+3 then qM P aw j0 (uV P j0 eH) k (r-f) j else R r j)=if f<=r/\r<f+3 then (if r-f=(spot P aw k).1/\j=(spot P aw k).2 then (j0 k).set 11 0 else qM P aw j0 (uV P j0 eH) k (r-f) j) else R r j
  by_cases aS:f<=r/\r<f+3
  .rw[aDr aS,aDr aS];by_cases aY:r=f+(spot P aw k).1/\j=(spot P aw k).2
   .rw[aDr aY,aDr ⟨by omega,aY.2⟩]
   .rw[aDq aY,aDq λh=>aY ⟨by omega,h.2⟩]
  .rw[aDq aS,aDq aS,cS]
 have PM:∀x,X x->g1 x≠none:=by
  rintro x (rfl|rfl|⟨q,aj,rfl⟩)
  .rw[rF.get cW];simp
  .rw[rF.get oX];simp
  .exact(dJ.bA (k:=1) mZ rF).there (k:=1) mZ aj (by simp;omega)
 have Y:∀x,X x->x≠bf->g3 x=g1 x/\¬bS m hp x:=λx z ai =>
  ⟨v3.2.1 x (PM x z) λh=>h.elim (rB x z) ai,λhm=>(v3.out (PM x z) λh=>h.elim (rB x z) ai) (.inl hm)⟩
 have kG:bT A h (λx=>bS m hp x∨X x) g3:=(((kt.more rF).to (C:=λx=>(bS m d_ x∨x=bf)∨X x) λx ai=>by
  rcases ai with (ai|rfl)|z
  .exact .inl (.inl ai)
  .exact .inl (.inr (.inl rfl))
  .exact .inl (.inr z)).trans (nd v3)).to λx ai=>by
  rcases ai with ai|z
  .exact .inl (.inl (.inl ai))
  .exact .inl (.inr z)
 have YP:∀x,X x->¬bS m hp x:=λx z=>by
  by_cases c:x=bf
  .rw[c];exact aL
  .exact(Y x z c).2
 have nK:=(Y ae (.inr (.inl rfl)) Gd).1.trans (rF.get oX);have YQ:fR mF g3 sp ((List.range P.m).map (lz P f aw)):=(dJ.bA (k:=1) mZ rF).move λq aj aT=>(Y q.b (.inr (.inr ⟨q,aj,rfl⟩)) (YK q aj).2).1;clear M2 YL;generalize PN:(fb||l9 P aw (iP P op bi aw to eH))=Aq at pX;generalize py:a8++iG f (gC P.k P.s P.t f aw) (2 ^ P.E)++(h5 f P.E++h5 f P.E)=oJ at gH;have amR:oJ.length<1000010000000:=by
  rw[<-py];simp only[aDs];omega
 have PO:∀n,(pv f (gC P.k P.s P.t f aw) n).length=2*n:=λn=>ES _ _ _;refine⟨rfl,λdi dW t4 cZ n26 n27 g bW=>di=⟨bf,0⟩/\dW=⟨ae,0⟩/\t4=(iv bi (fg P aw eH) P.m).2/\sp=cZ/\n26=(P.m:Nat)/\∃(i:Nat) (aX:ao),n27=i/\i<=P.m/\bW=P.m-i/\c8 T m (W i) (oJ++pv f (gC P.k P.s P.t f aw) i) aX g/\bT A h (λx=>bS m aX x∨X x) g/\(∀x,X x->¬bS m aX x)/\g bf=ev (n3 P m.b f Aq mp) jo/\g ae=some (.cells (ag.cells (.ws 8 (iv bi (fg P aw eH) P.m).1)).toArray 49 (0,0))/\fR mF g sp ((List.range P.m).map (lz P f aw)),
  ⟨P.m,rfl,rfl,rfl,rfl,by rw[CR],0,hp,rfl,by omega,rfl,by simpa [pv] using gH,kG,YP,pX,nK,YQ⟩,?_⟩
 clear gH kG YP pX nK YQ gI kt rB cW oX dJ Gh aL v3 Y PM;rintro di dW t4 cZ n26 n27 g bW ⟨rfl,rfl,rfl,rfl,rfl,i,mU,rfl,hi,rfl,gI,kt,rB,cW,oX,dJ⟩;have wz:=PO i;refine cj (λcl=>?_) λdH=>?_
 .have cb:i<P.m:=by omega
  obtain⟨Ak,Al,Pz⟩:=x8 L o hc cb;refine dJ.cA mZ (i:=i) (by simp;omega) λq aj k0=>?_;have e:((List.range P.m).map (lz P f aw))[i]'(by simp;omega)=lz P f aw i:=by simp
  rw[e] at k0;obtain⟨aS,aY,_⟩:=k0;rw[show(i:Int).toNat=i by omega];refine⟨_,aS,_,aY,bP λeQ Ci f7 fa c3=>?_⟩;have Cf:h eQ=none:=kt.2.2 _ f7;refine lY (kt.more c3) Cf fa (by simp) λsi amS qo eF=>?_;have nE:∀x,g x≠none->si x=g x:=λx ai=>by rw[eF x λe=>ai (e▸f7),c3 x ai]
  have sx:∀x,X x->g x≠none:=by
   rintro x (rfl|rfl|⟨q,aj,rfl⟩)
   .rw[cW];simp
   .rw[oX];simp
   .exact dJ.there (k:=1) mZ aj (by simp;omega)
  have M2:=gI.move λx ai=>nE x (gI.dK ai);have Jf:=(nE bf (sx bf (.inl rfl))).trans cW;refine⟨some ⟨m.b,0⟩,az Jf rfl,_,az Jf rfl,?_⟩;rw[iu];refine(xC M2 mO (show i<m.cx (f+2) by omega) (by simp only[aDs];omega)).mono ?_;rintro _ Gi ⟨s9,rfl,iU,v5⟩;obtain⟨cZ,amT⟩:=mI v5 (λx z=>by rw[nE x (sx x z)];exact sx x z) rB;rw[PK i i (by omega)];have YR:¬bS m mU eQ:=gI.out f7;have YS:=v5.get qo YR;have PQ:=v5.out (by rw[qo];simp) YR;refine⟨_,rfl,bP λfS Cw f8 fO eO=>?_⟩;have rG:=amS.trans (nd v5);have Jh:h fS=none:=rG.2.2 _ f8;refine fN (n:=12) (rG.more eO) Jh fO rfl λaCp rD B8 e6=>⟨Int.NonNeg.mk 11,Int.NonNeg.mk 0,?_⟩;refine nq rD Jh B8 (i:=11) (by decide) λYT mJ Ks amU=>?_;have s_:∀x,Gi x≠none->YT x=Gi x:=λx ai=>by
   have YU:x≠fS:=λe=>ai (e▸f8);rw[amU x YU,e6 x YU,eO x ai]
  have Kj:∀x,X x->Gi x≠none:=λx z=>by rw[cZ x z,nE x (sx x z)];exact sx x z
  have nN:=iU.move λx ai=>s_ x (iU.dK ai);have Gj:∀x,X x->YT x=g x:=λx z=>by rw[s_ x (Kj x z),cZ x z,nE x (sx x z)]
  have CT:=(Gj bf (.inl rfl)).trans cW;have YV:=(s_ eQ (by rw[YS];simp)).trans YS;refine⟨some ⟨m.b,0⟩,az CT rfl,_,az YV rfl,_,az YV rfl,_,dL Ks,?_⟩;refine(An nN Ak Al _ (by simp only[aDs,aDS];omega)).mono ?_;rintro _ aCq ⟨ri,rfl,rE,ee⟩;obtain⟨dV,amV⟩:=mI ee (λx z=>by rw[Gj x z];exact sx x z) amT;rw[PL i cb] at rE;refine⟨rfl,P.m-(i+1),by omega,rfl,rfl,rfl,rfl,rfl,i+1,ri,bt,by omega,rfl,?_,mJ.trans (nd ee),amV,(dV bf (.inl rfl)).trans CT,((dV ae (.inr (.inl rfl))).trans (Gj ae (.inr (.inl rfl)))).trans oX,dJ.move λq aj _=>(dV _ (.inr (.inr ⟨q,aj,rfl⟩))).trans (Gj _ (.inr (.inr ⟨q,aj,rfl⟩)))⟩;have gm:(gC P.k P.s P.t f aw).getD i ⟨0,0⟩=lz P f aw i:=by rw[sv o];simp[List.getD,cb]
  rw[J5,gm,show ∀(a b:List dk) (x y:dk),a++(b++[x,y])=a++b++[x]++[y] by simp,pW];exact rE
 .have hi:i=P.m:=by omega
  subst hi;refine⟨_,dL oX,?_⟩;refine fN (n:=8) kt f1 oX (by simp[ag.cells]) λbR uU fO e6=>⟨_,dL fO,mU,rfl,?_,?_,rB bf (.inl rfl),uU.to λx ai=>?_⟩
  .have gm:oJ++pv f (gC P.k P.s P.t f aw) P.m=a8++k7 P.k P.s P.t f aw:=by
    have kq:(gC P.k P.s P.t f aw).length=P.m:=by rw[sv o];simp
    unfold k7;rw[<-L.E,kq,<-py];simp
   rw[<-gm];exact gI.move λx ai=>e6 x λe=>rB ae (.inr (.inl rfl)) (e▸ai)
  .rw[e6 _ (aDC Gd),cW,<-PN];rfl
  .rcases ai with ai|rfl
   .exact .inl (.inl ai)
   .exact .inl (.inr (.inl rfl))
end
end Go.Proofs.Tryz
namespace Go.Proofs.Tryz
open Go Go.cR Go.RowKit
set_option maxRecDepth 8000
def nA (h:ak)(b:Nat)(ids:List aE):Prop:=∃(l:List (aE×Value×Nat)) (clock:Nat),h b=some (.map (l.map qN).toArray clock)/\l.map (·.1)=ids
theorem nA.move {h af:ak}{b:Nat}{ids:List aE}(m:nA h b ids)(e:af b=h b):nA af b ids:=by
 obtain⟨l,c,aa,ad⟩:=m;exact⟨l,c,by rw[e,aa],ad⟩
theorem nA.dK {h:ak}{b:Nat}{ids:List aE}(m:nA h b ids):h b≠none:=by
 obtain⟨l,c,aa,_⟩:=m;rw[aa];simp
theorem modify_keys {v:Value}(k:aE):∀(l:List (aE×Value×Nat)) (i:Nat),(∀h:i<l.length,l[i].1=k)->(l.modify i λe=>(k,v,e.2.2)).map (·.1)=l.map (·.1)
 | [],i,_=>by cases i<;>rfl
 | e::l,0,h=>by
  have:=h (by simp);simp at this;simp[List.modify,this]
 | e::l,i+1,h=>by
  have dI:=modify_keys (v:=v) k l i λhi=>by have:=h (by simpa using hi);simpa using this
  simp only[List.modify_succ_cons,aEs,dI]
theorem YW {h:ak}{b:Nat}{ids:List aE}{k:aE}{v:Value}{K:ak->Prop}(m:nA h b ids)(ah:∀af,nA af b (if k∈ids then ids else ids++[k])->(∀x,x≠b->af x=h x)->K af):tx h (some b) k v K:=by
 obtain⟨l,c,aa,ad⟩:=m;refine⟨b,l,c,rfl,aa,ah _ ?_ λx ai=>cu _ _ ai⟩;unfold PR;cases bc:l.findIdx? (λe=>e.1==k) with
 | some i =>
  rw[List.findIdx?_eq_some_iff_getElem] at bc;obtain⟨hi,he,_⟩:=bc;have he:l[i].1=k:=by simpa using he
  have hm:k∈ids:=by rw[<-ad,<-he];exact aD2.2 ⟨_,aDR hi,rfl⟩
  rw[aDr hm];refine⟨l.modify i λe=>(k,v,e.2.2),c,eC _ _ _,?_⟩;rw[modify_keys k l i λ_=>he,ad]
 | none =>
  rw[List.findIdx?_eq_none_iff] at bc;have hm:¬k∈ids:=by
   rw[<-ad];intro ai;obtain⟨e,he,rfl⟩:=aD2.1 ai;have:=bc e he;simp at this
  rw[aDq hm];exact⟨l++[(k,v,c)],c+1,eC _ _ _,by rw[aD4,ad];rfl⟩
def zD:fv->Int->Int->c_->Prop
 | .look,k,_,_=>k=0
 | .put bO,k,_,d=>k=1/\bO=d
 | .part a x y,k,at_,d=>k=2/\at_=a/\a<=6/\x=d[0]/\y=d[1]
 | .drop,k,_,_=>k=3
theorem amW {n:Nat}(c:bo n){i:Nat}(hi:i+1<n)(x y:aE):iI (ag.cells (.ws n c)).toArray i [ab x,ab y]=(ag.cells (.ws n ((c.setIfInBounds i x).setIfInBounds (i+1) y))).toArray:=by
 have aH:iI (ag.cells (.ws n c)).toArray i [ab x,ab y]=iI (iI (ag.cells (.ws n c)).toArray i [ab x]) (i+1) [ab y]:=rfl;rw[aH,Kt c (by omega),Kt _ hi];congr 2;have:(c.set i x).set (i+1) y=(c.setIfInBounds i x).setIfInBounds (i+1) y:=by
  apply aEO;intro j aU;simp[aEa,Vector.getElem_setIfInBounds]
 rw[this]
theorem amX {op:fv}{k at_:Int}{d:c_}(fV:zD op k at_ d){h0:ak}{ax aM bM:Nat}{t2 t3 t4:TypeId}(a_:h0 ax=some (.cells #[U k] t2 (0,0)))(b7:h0 aM=some (.cells #[U at_] t3 (0,0)))(b6:h0 bM=some (.cells (ag.cells (.ws 8 d)).toArray t4 (0,0))) :
 YI (λx=>x=ax∨x=aM∨x=bM) h0 (.func (.func 119) #[] #[bm ⟨ax,0⟩,bm ⟨bM,0⟩,bm ⟨aM,0⟩]) op:=by
 intro g dd old there;have g2:=(dd ax (.inl rfl)).trans a_;have g3:=(dd aM (.inr (.inl rfl))).trans b7;have g4:=(dd bM (.inr (.inr rfl))).trans b6;refine⟨rfl,?_⟩;refine amY _ _ _ _ _ ?_;unfold YX;refine bP λbu aa f1 mw aD=>bP λbK ad f2 k9 aB=>?_;have fQ:=aD.trans aB;have cU:bK≠bu:=λe=>by rw[e,mw] at f2;cases f2
 have f20:=aD.free f2;have uW:=aB.get mw;have aQ:=dL (fQ.get g4);refine⟨_,az (fQ.get g2) rfl,?_⟩;cases op with
 | look =>
  have ah:k=0:=fV;subst ah;refine b3 rfl (b3 rfl ⟨_,dL uW,iN (λbG=>?_) λbG=>?_⟩)
  .refine⟨_,az (fQ.get g2) rfl,pZ (n:=8) fQ f20 k9 rfl λan aG ni _=>⟨⟨az (aG.get g2) rfl,trivial⟩,_,dL ni,⟨old,?_,?_⟩,aG⟩⟩
   .rw[bG];rfl
   .intro x ai;rw[bG] at ai;exact aDX ai
  .refine pZ (n:=8) fQ f20 k9 rfl λan aG ni _=>⟨_,dL ni,⟨old,?_,?_⟩,aG⟩
   .rw[bG];rfl
   .intro x ai;rw[bG] at ai;cases ai
 | put bO =>
  obtain⟨rfl,rfl⟩:=fV;refine dF rfl ⟨_,aQ,pZ (n:=8) fQ f20 k9 rfl λan aG ni _=>⟨_,dL ni,⟨_,rfl,?_⟩,aG⟩⟩;intro x ai;exact aDX ai
 | drop =>
  have ah:k=3:=fV;subst ah;refine b3 rfl (b3 rfl ⟨_,dL uW,iN (λbG=>?_) λbG=>?_⟩)
  .refine⟨_,az (fQ.get g2) rfl,pZ (n:=8) fQ f20 k9 rfl λan aG ni _=>⟨⟨az (aG.get g2) rfl,trivial⟩,_,dL ni,⟨_,rfl,?_⟩,aG⟩⟩;intro x ai;cases ai
  .refine pZ (n:=8) fQ f20 k9 rfl λan aG ni _=>⟨_,dL ni,⟨_,rfl,?_⟩,aG⟩;intro x ai;cases ai
 | part a x y =>
  obtain⟨rfl,rfl,bY,rfl,rfl⟩:=fV;refine b3 rfl (dF rfl ⟨_,az (fQ.get g3) rfl,by omega,by omega,Int.NonNeg.mk 2,Int.NonNeg.mk 6,?_⟩);have iO:e4 ab ad ⟨fX (some ⟨bM,0⟩) 0 8 1,2,8,none⟩ [d[0],d[1]]:=by
   refine⟨rfl,(show(2:Nat)<=8 by decide),(by intro h;cases h),λq aj j aU=>?_⟩;cases aj;have kb:j=0∨j=1:=by simp at aU;omega
   rcases kb with rfl|rfl
   .exact fs (fQ.get g4) (i:=0) (by decide)
   .exact fs (fQ.get g4) (i:=1) (by decide)
  have Ac:Int.toNat (a:Int)=a:=by omega
  rw[Ac];refine Jj iO (q:=⟨bu,a⟩) ?_ (c:=2) ?_ ?_
  .show ao.q ⟨fX (some ⟨bu,0⟩) a 8 1,8-a,8-a,none⟩=_;unfold fX ao.q;rw[cS];simp
  .show 2=min 2 (8-a);omega
  .refine qh fQ f1 uW (by simp[ag.cells];omega) λan aG ni da=>?_;have amZ:an bu=some (.cells (ag.cells (.ws 8 ((old.setIfInBounds a d[0]).setIfInBounds (a+1) d[1]))).toArray 49 (0,0)):=by
    rw[ni,<-amW old (by omega)];rfl
   refine⟨_,dL amZ,pZ (n:=8) aG f20 ((da _ cU).trans k9) rfl λaJ bd s0 _=>⟨_,dL s0,⟨_,rfl,?_⟩,bd⟩⟩;intro x ai;exact aDX ai
end Go.Proofs.Tryz
namespace Go.Proofs.Tryz
open Go Go.cR Go.RowKit
set_option maxRecDepth 8000
theorem YY {h:ak}{ae bf k:Nat}(aH:bx h ae 0=some (bm ⟨bf,0⟩))(el:bx h bf 0=some (U (2 ^ k))){x:Nat}(ai:x<2 ^ k){K:Value->ak->Prop}(ah:K (.bool false) h) :
 aq 117 [U x,bm ⟨ae,0⟩] h K:=by
 refine am0 _ _ ?_;unfold YZ;have ad:((2 ^ k:Nat):Int)=2 ^ k:=by simp
 refine b3 (gT) ⟨some ⟨bf,0⟩,aH,_,rfl,_,el,?_⟩;have:(bif false then true else decide ((2:Int) ^ k<=(x:Int)))=false:=gT;rw[this];exact ah
section
variable {T:TypeId} {m:jQ} {R:dY} {a8:List dk} {es:ao} {h:ak}
theorem Y0 {P:dx}{f:Nat}(o:P.dt)(L:q8 m P f)(M:c8 T m R a8 es h){jo:TypeId}{bf mp:Nat}{fb:Bool}{ids:List aE}(kW:h bf=ev (n3 P m.b f fb mp) jo)(Ku:nA h mp ids)(wm:¬bS m es bf)(Y1:¬bS m es mp)
 {aw to:Nat} (hc:aw<2 ^ P.k) (CP:to<2 ^ P.k) {bi:aE} (hO:bi.toNat<=2147483648) (mQ:rl P (kZ f R)) {op:fv} {k at_:Int} {d:c_} (fV:zD op k at_ d) (aT:a8.length<1000000000000) :
 aq 64 [bm ⟨bf,0⟩,U k,ab bi,U at_,ez d,U aw,U to] h λr af=>∃aX,r= .tuple #[ez (kd P bi aw (kZ f R)).1,.bool (kd P bi aw (kZ f R)).2]/\c8 T m (lV f R (lI P op bi aw to (kZ f R))) (a8++k7 P.k P.s P.t f aw) aX af /\
  af bf=ev (n3 P m.b f (fb||tu P op bi aw to (kZ f R)) mp) jo/\nA af mp (meets op bi ids)/\¬bS m aX bf/\¬bS m aX mp/\bT (λx=>bS m es x∨x=bf∨x=mp) h (λx=>bS m aX x∨x=bf∨x=mp) af:=by
 have Y2:mp≠bf:=λe=>by obtain⟨l,c,aa,_⟩:=Ku;rw[e,kW] at aa;cases aa
 have ah:(k=0/\∀l,meets op bi l=l)∨(k=1/\∀l,meets op bi l=if bi∈l then l else l++[bi])∨(k=2/\0<=at_/\at_<=6/\∀l,meets op bi l=if bi∈l then l else l++[bi])∨(k=3/\∀l,meets op bi l=l):=by
  cases op with
  | look=>exact .inl ⟨fV,λ_=>rfl⟩
  | put bO=>exact .inr (.inl ⟨fV.1,λ_=>rfl⟩)
  | part a x y=>exact .inr (.inr (.inl ⟨fV.1,by have:=fV.2.1;omega,by have:=fV.2.1;have:=fV.2.2.1;omega,λ_=>rfl⟩))
  | drop=>exact .inr (.inr (.inr ⟨fV,λ_=>rfl⟩))
 refine am1 _ _ _ _ _ _ _ ?_;unfold Y3;refine bP λae aa f1 aH aD=>bP λax ad f2 a_ aB=>bP λaM an f3 b7 aG=>bP λbM aJ f4 b6 bd=>bP λb1 aR f5 cG bF=>?_;have jK:=(aB.trans aG).trans (bd.trans bF);have jM:=aD.trans jK;have g1:=jK.get aH;have g2:=((aG.trans bd).trans bF).get a_;have g3:=(bd.trans bF).get b7;have g4:=bF.get b6;have n5:=jM.get kW;have f50:h b1=none:=aD.free (aB.free (aG.free (bd.free f5)));have f20:h ax=none:=aD.free f2;have f30:h aM=none:=aD.free (aB.free f3);have f40:h bM=none:=aD.free (aB.free (aG.free f4));have iU:=M.bA jM;have Kv:nA aR mp ids:=Ku.move (jM mp Ku.dK);have Gk:∀x,h x=none->x≠bf:=λx ai e=>by rw[e,kW] at ai;cases ai
 have CW:∀x,h x=none->x≠mp:=λx ai e=>Ku.dK (e▸ai);have Kw:∀x,h x=none->¬bS m es x:=λx ai hm=>M.dK hm ai;have n52:b1≠ax:=λe=>by rw[e,((aG.trans bd)).get a_] at f5;cases f5
 have n53:b1≠aM:=λe=>by rw[e,bd.get b7] at f5;cases f5
 have n54:b1≠bM:=λe=>by rw[e,b6] at f5;cases f5
 have acc:∀(g:ak) (pz:List aE),(∀x,x≠mp->g x=aR x)->nA g mp pz->pz=meets op bi ids ->
  ∃da:Option aF,bx g ae 0=some (a7 da)/\aq 118 [a7 da,ab bi,U aw,U to,.func (.func 119) #[] #[bm ⟨ax,0⟩,bm ⟨bM,0⟩,bm ⟨aM,0⟩]] g λv3 cK=>∃hX:c_,∃t3,v3= .tuple #[ez hX,.bool t3]/\aW cK ⟨b1,0⟩ (ag.cells (.ws 8 hX)) λdu=>∃jH:c_,b5 du b1 0 jH /\
   ∃aX,Value.tuple #[ez jH,.bool t3]= .tuple #[ez (kd P bi aw (kZ f R)).1,.bool (kd P bi aw (kZ f R)).2]/\c8 T m (lV f R (lI P op bi aw to (kZ f R))) (a8++k7 P.k P.s P.t f aw) aX du /\
  du bf=ev (n3 P m.b f (fb||tu P op bi aw to (kZ f R)) mp) jo/\nA du mp (meets op bi ids)/\¬bS m aX bf/\¬bS m aX mp/\bT (λx=>bS m es x∨x=bf∨x=mp) h (λx=>bS m aX x∨x=bf∨x=mp) du:=by
  rintro g pz dd Kx rfl;have q1:=(dd ae (CW _ f1)).trans g1;have aI:=(dd ax (CW _ f20)).trans g2;have bb:=(dd aM (CW _ f30)).trans g3;have bH:=(dd bM (CW _ f40)).trans g4;have cH:=(dd b1 (CW _ f50)).trans cG;have p1:=(dd bf (aDC Y2)).trans n5;have gI:c8 T m R a8 es g:=iU.move λx ai=>dd x λe=>Y1 (e▸ai);have Pr:bT (λx=>bS m es x∨x=bf∨x=mp) h (λx=>bS m es x∨x=bf∨x=mp) g:=by
   refine⟨λx ai=> .inl ai,λx ai aK=>?_,λx ai=>?_⟩
   .rw[dd x λe=>aK (.inr (.inr e)),jM x ai]
   .by_cases e:x=mp
    .rw[e] at ai;exact absurd ai Kx.dK
    .rw[dd x e] at ai;exact jM.free ai
  refine⟨some ⟨bf,0⟩,az q1 rfl,?_⟩;refine(amG o L gI p1 wm hc CP hO mQ (op:=op) (G:=λx=>x=ax∨x=aM∨x=bM) ?_ (amX fV aI bb bH) aT).mono ?_
  .rintro x (rfl|rfl|rfl)
   .exact⟨by rw[aI];simp,Kw _ f20,Gk _ f20⟩
   .exact⟨by rw[bb];simp,Kw _ f30,Gk _ f30⟩
   .exact⟨by rw[bH];simp,Kw _ f40,Gk _ f40⟩
  rintro _ cK ⟨aX,rfl,am2,am3,dj,nP⟩;have x_:bT (λx=>bS m es x∨x=bf∨x=mp) h (λx=>bS m aX x∨x=bf∨x=mp) cK :=
   ((Pr.to (C:=λx=>(bS m es x∨x=bf)∨x=mp) λx ai=> .inl (ai.elim (λh=>h.elim .inl λh=> .inr (.inl h)) λh=> .inr (.inr h))).trans (nd nP)).to λx ai=> .inl (ai.elim (λh=> .inl (.inl h)) λh=>h.elim (λh=> .inl (.inr h)) .inr)
  have Y4:¬(bS m es mp∨mp=bf):=λh=>h.elim Y1 Y2;have F7:nA cK mp (meets op bi ids):=Kx.move (nP.2.1 mp Kx.dK Y4);have am4:¬bS m aX mp:=λh=>nP.out Kx.dK Y4 (.inl h);have Ar:¬(bS m es b1∨b1=bf):=λh=>h.elim (Kw _ f50) (Gk _ f50);have am5:=nP.get cH Ar;have PI:¬bS m aX b1:=λh=>nP.out (by rw[cH];simp) Ar (.inl h);refine⟨_,_,rfl,fN (n:=8) x_ f50 am5 rfl λdu PS pG qO=>⟨_,dL pG,aX,rfl,am2.move λx ai=>qO x λe=>PI (e▸ai),(qO _ (aDC (Gk _ f50))).trans am3,F7.move (qO _ (aDC (CW _ f50))),dj,am4,PS⟩⟩
 have aCr:0<=k/\k<=3:=by rcases ah with h|h|h|h<;>omega
 have wx:¬2147483648<bi:=λh=>by have:=aEn.1 h;have e:(2147483648:aE).toNat=2147483648:=rfl;omega
 refine⟨_,az g2 rfl,b3 (gT) ⟨_,az g2 rfl,b3 (gT) (b3 (aDz wx) ?_)⟩⟩;refine YY (az g1 rfl) (az n5 rfl) hc ⟨_,rfl,b3 rfl ?_⟩;refine YY (az g1 rfl) (az n5 rfl) CP ⟨_,rfl,b3 rfl ?_⟩;rcases ah with ⟨rfl,hm⟩|⟨rfl,hm⟩|⟨rfl,aCs,am6,hm⟩|⟨rfl,hm⟩
 .refine⟨_,az g2 rfl,b3 rfl ⟨_,az g2 rfl,b3 rfl ⟨_,az g2 rfl,b3 rfl ?_⟩⟩⟩;exact acc aR ids (λ_ _=>rfl) Kv (hm ids).symm
 .refine⟨_,az g2 rfl,b3 rfl ⟨_,az g2 rfl,dF rfl ⟨some ⟨bf,0⟩,az g1 rfl,_,rfl,some mp,az n5 rfl,YW Kv λdT PT mV=>?_⟩⟩⟩;exact acc dT _ mV PT (hm ids).symm
 .refine⟨_,az g2 rfl,dF rfl ⟨_,az g3 rfl,b3 (gT) ⟨_,az g3 rfl,b3 (gT) ⟨_,az g2 rfl,b3 rfl ⟨_,az g2 rfl,dF rfl ⟨some ⟨bf,0⟩,az g1 rfl,_,rfl,some mp,az n5 rfl,YW Kv λdT PT mV=>?_⟩⟩⟩⟩⟩⟩;exact acc dT _ mV PT (hm ids).symm
 .refine⟨_,az g2 rfl,b3 rfl ⟨_,az g2 rfl,b3 rfl ⟨_,az g2 rfl,b3 rfl ?_⟩⟩⟩;exact acc aR ids (λ_ _=>rfl) Kv (hm ids).symm
end

import Derived.Test.YtegdpmgnhnccaaaGreatEvC
namespace Go.Proofs.Tryz
open Go Go.cR Go.RowKit
set_option maxRecDepth 8000
theorem Po {F:Nat->Prop}{h:ak}{k:Nat}(hh:F k)(o:Obj):bT F h F (bD h k o) :=
 ⟨λ_ h=> .inl h,λb _ aK=>cu _ _ (λe=>aK (e▸hh)),λb ar=>by
  by_cases e:b=k
  .rw[e,eC] at ar;cases ar
  .rwa [cu _ _ e] at ar⟩
theorem amf {F dZ:Nat->Prop}{h ad:ak}{k:Nat}{cy cg:Obj}(ah:h k=none)(m:bT (λx=>x=k∨F x) (bD h k cy) (λx=>x=k∨dZ x) ad):bT F h dZ (bD ad k cg):=by
 refine⟨λb ar=>?_,λb ar aK=>?_,λb ar=>?_⟩
 .rcases m.1 b (.inr ar) with (aa|aa)|aa
  .rw[aa];exact .inr ah
  .exact .inl aa
  .by_cases e:b=k
   .rw[e];exact .inr ah
   .rw[cu _ _ e] at aa;exact .inr aa
 .have e:b≠k:=λe=>ar (e▸ah);rw[cu _ _ e,m.2.1 b (by rw[cu _ _ e];exact ar) (λaa=>by
   rcases aa with aa|aa
   .exact e aa
   .exact aK aa),cu _ _ e]
 .by_cases e:b=k
  .rw[e,eC] at ar;cases ar
  .rw[cu _ _ e] at ar;have:=m.2.2 b ar
   rwa [cu _ _ e] at this
theorem Kb {F dZ:Nat->Prop}{h af:ak}(m:bT F h dZ af)(G:Nat->Prop):bT (λx=>G x∨F x) h (λx=>G x∨dZ x) af :=
 ⟨λb ar=>by
  rcases ar with aa|aa
  .exact .inl (.inl aa)
  .exact(m.1 b aa).imp .inr id,λb ar aK=>m.2.1 b ar λaa=>aK (.inr aa),m.2.2⟩
def pw (m L:Nat):Nat:=2 ^ (m-2*(L-1))
def k8 (m:Nat)(s t:Int)(L:Nat)(first:Int)(ls:List Int)(n:Nat):List dk:=(List.range n).flatMap λi=>k7 (m-2*(L-1-i)) s t (first+1+3*((L-1-i:Nat):Int)) (ls.getD i 0).toNat
theorem vD (m:Nat)(s t:Int)(L:Nat)(first:Int)(ls:List Int)(n:Nat):k8 m s t L first ls (n+1)=k8 m s t L first ls n++k7 (m-2*(L-1-n)) s t (first+1+3*((L-1-n:Nat):Int)) (ls.getD n 0).toNat:=by simp[k8,aDQ]
def oH (m:Nat)(s t:Int)(L:Nat)(first:Int)(ls:List Int):List dk:=reads first (pw m L)++writes first (pw m L)++k8 m s t L first ls L
def oG (m:Nat)(s t:Int)(L:Nat)(first:Int)(bV:List Int)(n:Nat):List dk:=(List.range n).flatMap λc=>oH m s t L first (bV.drop (c*L))
theorem ER (m:Nat)(s t:Int)(L:Nat)(first:Int)(bV:List Int)(n:Nat):oG m s t L first bV (n+1)=oG m s t L first bV n++oH m s t L first (bV.drop (n*L)):=by simp[oG,aDQ]
theorem Yf {k:Nat}{s t:Int}(o:lG k s t)(first:Int)(leaf:Nat):(k7 k s t first leaf).length<=1000000:=by
 have aP:=o.zv;have jw:jJ (hL k s t)<=8:=OY (by omega) (by simp;omega);have gf:2 ^ jJ (hL k s t)<=256:=aDy (n:=2) (by decide) jw;have kq:=IW o first leaf
 have aa:=F2 first (gC k s t first leaf) (2 ^ jJ (hL k s t))
 have ad:=ES first (gC k s t first leaf) (gC k s t first leaf).length
 have J8:=z_ (K:=jJ (hL k s t)) (by omega);have J9:(sb (first+2) (jJ (hL k s t))).length=4*(gk (jJ (hL k s t))).length:=zC _ _;simp only[k7,h5,aDs,n6,J9];omega
theorem Kg {m:Nat}{s t:Int}{L:Nat}(o:n7 m s t L)(first:Int)(ls:List Int)(n:Nat):(k8 m s t L first ls n).length<=1000000*n:=by
 induction n with
 | zero=>simp[k8]
 | succ n dI=>rw[vD,aDs];have:=Yf (o.gS (L-1-n)) (first+1+3*((L-1-n:Nat):Int)) (ls.getD n 0).toNat;omega
theorem XW {m:Nat}{s t:Int}{L:Nat}(o:n7 m s t L):1<=pw m L/\pw m L<=1024/\((pw m L:Nat):Int)=2 ^ (m-2*(L-1)):=by
 have aa:2 ^ (m-2*(L-1))<=2 ^ 10:=aDy (by decide) (by have:=o.m;omega);have ad:0<2 ^ (m-2*(L-1)):=aD8 (by decide);exact⟨ad,aa,by simp[pw]⟩
theorem Vo {m:Nat}{s t:Int}{L:Nat}(o:n7 m s t L)(first:Int)(ls:List Int):(oH m s t L first ls).length<=5000000:=by
 have aa:=Kg o first ls L
 have ad:=XW o;have:=o.L;simp only[oH,aDs,rh,n6];omega
theorem X1 {m:Nat}{s t:Int}{L:Nat}(o:n7 m s t L)(first:Int)(bV:List Int)(n:Nat):(oG m s t L first bV n).length<=5000000*n:=by
 induction n with
 | zero=>simp[oG]
 | succ n dI=>rw[ER,aDs];have:=Vo o first (bV.drop (n*L));omega
end Go.Proofs.Tryz
namespace Go.Proofs.Tryz
open Go Go.cR Go.RowKit
set_option maxRecDepth 8000
theorem alJ {α:Type}{P:Program}{xX el:TypeId}{k:Nat}{z:Value}{by_:Nat}(rt:ph P xX el k z by_){f:α->List Value}(bc:∀x,(f x).length=k)(one:∀x,∀v∈f x,v.oneCell'=true){T:TypeId}{h:ak}{b:Nat}{s y:ao}{l m:List α}
 (B:hR k f T h b s l) (iO:fR f h y m) (room:(l.length+m.length)*by_<=140737488355328) (kX:0<by_) {X:ak->Prop} {K:ak->Prop}
 (F5:∀ad,(∀x,h x≠none->¬hC b s x->ad x=h x)->X ad)
 (ah:∀cE af,hR k f T af b cE (l++m)->bT (hC b s) h (hC b cE) af->K af):eI P xX s (.s y) h λs2 ad=>X ad/\aW ad ⟨b,0⟩ [aZ s2] K:=by
 refine ct.app rt bc one B.own iO (λ_ _=>rfl) room kX ?_;intro cE ad cg f2 h6 z8;have kY:h b≠none:=by rw[B.cell];simp
 have hN:ad b=h b:=f2 b kY λq aj e=>B.ne q aj e.symm;have ne':∀p,cE.q=some p->p.b≠b:=λp aP e=>by
  rcases h6 p aP with ⟨q,aj,h⟩|h
  .exact B.ne q aj (h▸e)
  .rw[e] at h;exact kY h
 refine⟨F5 ad λx ai aK=>f2 x ai λq aj e=>aK (.inr ⟨q,aj,e⟩),_,_,by rw[hN];exact B.cell,by simp,ah cE _ ⟨by rw[eC];rfl,cg.move λp aP=>cu _ _ (ne' p aP),ne'⟩ ⟨?_,?_,?_⟩⟩
 .rintro x (rfl|⟨p,aP,rfl⟩)
  .exact .inl (.inl rfl)
  .rcases h6 p aP with ⟨q,aj,h⟩|h
   .exact .inl (.inr ⟨q,aj,h⟩)
   .exact .inr h
 .intro x ai aK
  have OV:x≠b:=λe=>aK (.inl e);rw[cu _ _ OV,f2 x ai λq aj e=>aK (.inr ⟨q,aj,e⟩)]
 .intro x ai
  by_cases e:x=b
  .rw[e,eC] at ai;cases ai
  .rw[cu _ _ e] at ai;exact z8 x ai
theorem alK {k:Nat}{s t:Int}(first:Int)(leaf:Nat):0<(k7 k s t first leaf).length:=by
 have ad:0<2 ^ jJ (hL k s t):=aD8 (by decide);obtain⟨n,aK⟩:∃n,2 ^ jJ (hL k s t)=n+1:=⟨_,(Nat.succ_pred_eq_of_pos ad).symm⟩;simp only[k7,aDs,aK,ud];simp;omega
def uP (m L:Nat)(bV:List Int):Prop:=∀i (hi:i<bV.length),0<=bV[i]/\bV[i]<2 ^ (m-2*(L-1-i%L))
theorem Ka {m:Nat}{hf t:Int}{L:Nat}(o:n7 m hf t L)(first:Int)(bc:0<=first/\first<=10){h:ak}{x:ao}{bV:List Int}(rx:e4 eo h x bV){n:Nat}(aK:bV.length=n*L)(hw:uP m L bV)(CB:n<=10000) :
 aq 36 [U first,v4 m hf t L,aZ x] h λv af=>∃y,v=aZ y/\ct 3 iT h af y (oG m hf t L first bV n)/\bL h af:=by
 have eg:=o.L;have XV:=XW o;refine alL _ _ _ _ _ x ?_;unfold XX;refine bP λae aa f1 aH aD=>bP λax ad f2 a_ aB=>bP λaM an f3 b7 aG=>bP λbM aJ f4 b6 bd=>qJ ((aG.trans bd).get a_) ?_;refine(XY o).to λaR bF=>⟨_,rfl,b3 rfl (bP λb1 bU f5 cG c3=>?_)⟩;have pG:=((aB.trans aG).trans (bd.trans (bF.trans c3))).get aH;have uQ:=(aG.trans (bd.trans (bF.trans c3))).get a_;have alM:=(bd.trans (bF.trans c3)).get b7;have XZ:=(bF.trans c3).get b6;have we:bL h bU:=((aD.trans aB).trans (aG.trans bd)).trans (bF.trans c3);have ay:h ae=none:=f1;have aA:h ax=none:=aD.free f2;have aL:h aM=none:=(aD.trans aB).free f3;have aO:h bM=none:=((aD.trans aB).trans aG).free f4;have bh:h b1=none:=(((aD.trans aB).trans (aG.trans bd)).trans bF).free f5;have d12:ae≠ax:=λe=>by rw[<-e,aH] at f2;cases f2
 have d13:ae≠aM:=λe=>by rw[<-e,aB.get aH] at f3;cases f3
 have d14:ae≠bM:=λe=>by rw[<-e,(aB.trans aG).get aH] at f4;cases f4
 have d15:ae≠b1:=λe=>by rw[<-e,((aB.trans aG).trans (bd.trans bF)).get aH] at f5;cases f5
 have d23:ax≠aM:=λe=>by rw[<-e,a_] at f3;cases f3
 have d25:ax≠b1:=λe=>by rw[<-e,(aG.trans (bd.trans bF)).get a_] at f5;cases f5
 have d34:bM≠aM:=λe=>by rw[e,b7] at f4;cases f4
 have d35:aM≠b1:=λe=>by rw[<-e,(bd.trans bF).get b7] at f5;cases f5
 have d45:bM≠b1:=λe=>by rw[<-e,bF.get b6] at f5;cases f5
 let mH:ao->Nat->Prop:=λs x=>x=aM∨hC b1 s x;have Af:∀b,mH ⟨none,0,0,none⟩ b->h b=none:=by
  rintro b (rfl|rfl|⟨p,aP,_⟩)
  .exact aL
  .exact bh
  .cases aP
 have CH:∀b,b≠aM->b≠b1->¬mH ⟨none,0,0,none⟩ b:=by
  rintro b aa ad (h|h|⟨p,aP,_⟩)
  .exact aa h
  .exact ad h
  .cases aP
 let gu:List dk->Nat->ao->ao->ak->Prop:=λacc i s ls af=>hR 3 iT 59 af b1 s acc/\af aM=some (.cells #[aZ ls] 37 (0,0))/\e4 eo af ls (bV.drop i)/\(∀q,ls.q=some q->∃gU,x.q=some gU/\q.b=gU.b)/\(∀p,s.q=some p->p.b≠aM);have alN:∀gU,x.q=some gU->0<bV.length->h gU.b≠none:=λgU aj aT=>rx.there aj aT;refine⟨λq1 aI bb bH cH bR k=>q1=⟨ae,0⟩/\aI=⟨ax,0⟩/\bb=⟨aM,0⟩/\bH=⟨bM,0⟩/\cH=⟨b1,0⟩/\∃c:Nat,c<=n/\(∃s ls,gu (oG m hf t L first bV c) (c*L) s ls bR/\bT (mH ⟨none,0,0,none⟩) bU (mH s) bR)/\k=n-c,
  ⟨_,rfl,rfl,rfl,rfl,rfl,0,aDM _,⟨⟨none,0,0,none⟩,x,⟨⟨cG,ct.gy _ _ _ _,λp aP=>by cases aP⟩,alM,by simpa using rx.bA we,λq aj=>⟨q,aj,rfl⟩,λp aP=>by cases aP⟩,bT.refl _ _⟩,rfl⟩,?_⟩
 rintro q1 aI bb bH cH bR k ⟨rfl,rfl,rfl,rfl,rfl,c,a1,⟨s,ls,⟨B,el,ry,X0,alO⟩,ow⟩,rfl⟩;have alP:bU ae≠none:=by rw[pG];simp
 have alQ:bU ax≠none:=by rw[uQ];simp
 have alR:bU bM≠none:=by rw[XZ];simp
 have e9:¬mH s ae:=ow.out alP (CH ae d13 d15);have jT:¬mH s ax:=ow.out alQ (CH ax d23 d25);have pV:=ow.get pG (CH ae d13 d15);have v8:=ow.get uQ (CH ax d23 d25);have alS:=ow.get XZ (CH bM d34 d45);have alT:=ry.len;rw[aDY,aK] at alT;have aCa:c*L<=n*L:=aEm L a1;refine⟨ls,az el rfl,ga v8 rfl (cj (λhle=>?_) λCA=>?_)⟩
 .have rp:c<n:=by
   rcases aDZ c n with h|h
   .exact h
   .have:c=n:=by omega
    subst this;omega
  have aCb:c*L+L<=n*L:=by
   have:=aEm L (show c+1<=n by omega)
   rwa [aFP] at this
  have kf:=X1 o first bV c
  have aCc:=rh first (pw m L)
  have aCd:=n6 first (pw m L)
  refine⟨s,az B.cell rfl,ga pV rfl (qJ v8 ?_)⟩;refine(Pc o).to λb9 en=>⟨_,rfl,⟨az (en.get pV) rfl,trivial⟩,⟨az (en.get B.cell) rfl,trivial⟩,?_⟩;rw[<-XV.2.2];refine(JU first (pw m L) (by omega) b9).mono ?_;rintro _ cp ⟨bZ,rfl,dq,eZ⟩;have CF:=(B.bA en).bA eZ;refine⟨_,rfl,⟨az CF.cell rfl,trivial⟩,hR.app tl n8 tk CF dq.rd (by omega) (by decide) λcZ bN tq x2=>?_⟩;have Pd:bT (mH s) bR (mH cZ) bN:=(hj (en.trans eZ) _).trans (Kb x2 (λx=>x=aM));have F6:=Pd.get pV e9;have alU:=Pd.get v8 jT;refine⟨cZ,az tq.cell rfl,ga F6 rfl (qJ alU ?_)⟩;refine(Pc o).to λdB ia=>⟨_,rfl,⟨az (ia.get F6) rfl,trivial⟩,⟨az (ia.get tq.cell) rfl,trivial⟩,?_⟩;rw[<-XV.2.2];refine(OS first (pw m L) (by omega) dB).mono ?_;rintro _ cC ⟨dV,rfl,eF,kD⟩;have X2:=(tq.bA ia).bA kD;refine⟨_,rfl,⟨az X2.cell rfl,trivial⟩,hR.app tl n8 tk X2 eF.rd (by simp only[aDs];omega) (by decide) λdS cK alV F7=>?_⟩;have x3:bT (mH s) bR (mH dS) cK:=Pd.trans ((hj (ia.trans kD) _).trans (Kb F7 (λx=>x=aM)));have alW:=x3.get pV e9;have X3:=x3.get v8 jT;have qv:¬hC b1 s aM:=by
   rintro (h|⟨p,aP,h⟩)
   .exact d35 h
   .exact alO p aP h.symm
  have Pe:¬hC b1 cZ aM:=x2.out (by rw[(en.trans eZ).get el];simp) qv;have X4:=x2.get ((en.trans eZ).get el) qv;have alX:=F7.get ((ia.trans kD).get X4) Pe;have alY:¬hC b1 dS aM:=F7.out (by rw[(ia.trans kD).get X4];simp) Pe;have alZ:bL h cK:=((ow.trans x3).bA we Af).1;refine qJ X3 ?_;refine(Kc cK).mono ?_;rintro _ du ⟨CI,rfl,Ot,iX,iQ⟩;refine⟨_,rfl,trivial,λz k ah aQ=>⟨rfl,?_⟩⟩;have X5:bT (mH ⟨none,0,0,none⟩) bU (mH dS) du:=(ow.trans x3).trans (hj iQ _);have X6:bL h du:=alZ.trans iQ;have ln:h k=none:=X6.free ah;have X7:=iQ.get alW;have X8:=iQ.get X3;have Kd:=iQ.get alX;have X9:=alV.bA iQ;have tp:∀ {b o},du b=some o->b≠k:=λe a_=>by rw[a_,ah] at e;cases e
  have al0:¬mH dS ae:=x3.out (by rw[pV];simp) e9;have al1:¬mH dS ax:=x3.out (by rw[v8];simp) jT;let acc:=oG m hf t L first bV c++reads first (pw m L)++writes first (pw m L)
  have X_:acc.length<=5000000*c+4000:=by
   show(oG m hf t L first bV c++reads first (pw m L)++writes first (pw m L)).length<=_;simp only[aDs];omega
  let Ya:Nat->ak->Prop:=λi af=>af k=some (eA z)/\∃s ls,gu (acc++k8 m hf t L first (bV.drop (c*L)) i) (c*L+i) s ls af/\bT (λx=>x=k∨mH dS x) (bD du k (eA z)) (λx=>x=k∨mH s x) af;have Ke:∀ {ls:ao} {q:aF},(∀q,ls.q=some q->∃gU,x.q=some gU/\q.b=gU.b)->ls.q=some q->0<bV.length->h q.b≠none:=λb2 aj aT=>by
   obtain⟨gU,aa,ad⟩:=b2 _ aj;rw[ad];exact alN gU aa aT
  have Yb:e4 eo du ls (bV.drop (c*L)):=ry.move λq aj aT=>by
   have x4:0<bV.length:=by rw[aDY] at aT;omega
   have ai:=Ke X0 aj x4;have Yc:¬mH s q.b:=ow.out (by rw[we _ ai];exact ai) (λhh=>ai (Af _ hh));have Pf:bR q.b≠none:=by rw[ow.2.1 _ (by rw[we _ ai];exact ai) (λhh=>ai (Af _ hh)),we _ ai];exact ai
   rw[iQ _ (by rw[x3.2.1 _ Pf Yc];exact Pf),x3.2.1 _ Pf Yc]
  have init:Ya 0 (bD du k (eA z)):=by
   refine⟨eC _ _ _,dS,ls,⟨?_,?_,?_,X0,?_⟩,bT.refl _ _⟩
   .have:acc++k8 m hf t L first (bV.drop (c*L)) 0=acc:=by simp[k8]
    rw[this];exact X9.move λy aC=>cu _ _ (by
     obtain⟨aS,t1,z7,aa⟩:=X9.cells aC;exact tp aa)
   .rw[cu _ _ (tp Kd)];exact Kd
   .exact Yb.move λq aj aT=>cu _ _ λe=>by
     have:=Yb.there aj aT;rw[e,ah] at this;exact this rfl
   .exact λp aP e=>alY (.inr ⟨p,aP,e.symm⟩)
  refine(Pg (L:=L) (q:=⟨CI,0⟩) (y:=lM k) (by omega) Ya init (by rw[al2 (tp iX)];exact az iX rfl) ?_).mono ?_
  .rintro i af hi ⟨bn,cE,n_,⟨qG,Ph,uR,CJ,Pj⟩,F8⟩;refine⟨rfl,rfl,aQ _ af _ bn ⟨bn,?_⟩⟩;obtain⟨j,aU⟩:∃j:Nat,j=L-1-i:=⟨_,rfl⟩;have Ag:(L:Int)-1-i=(j:Int):=by omega
   rw[Ag];have gt:∀ {b o},du b=some o->¬mH dS b->af b=some o:=λe al3=>F8.get (by rw[cu _ _ (tp e)];exact e) (λh=>by
    rcases h with h|h
    .exact tp e h
    .exact al3 h)
   have px:=gt X7 al0;have oS:=gt X8 al1;have al4:ae≠k:=tp X7;have al5:ax≠k:=tp X8;have sg:aM≠k:=tp Kd;have wh:bD af k (dn z) ae=some (.cells #[U first] 3 (0,0)):=by rw[cu _ _ al4];exact px
   have zZ:bD af k (dn z) ax=some (.cells #[U (2 ^ m),U hf,U t,U L] 26 (0,0)):=by rw[cu _ _ al5];exact oS
   have tr:bD af k (dn z) aM=some (.cells #[aZ n_] 37 (0,0)):=by rw[cu _ _ sg];exact Ph
   have hlen:c*L+i<bV.length:=by omega
   have al6:=uR.len;rw[aDY] at al6;have al7:e4 eo (bD af k (dn z)) n_ (bV.drop (c*L+i)):=uR.move λq aj _=>cu _ _ λe=>Ke CJ aj (by omega) (e▸ln);obtain⟨q,aj,Pk⟩:=al7.at (i:=0) (by rw[aDY];omega);have dd:(bV.drop (c*L+i))[0]'(by rw[aDY];omega)=bV[c*L+i]:=by simp
   have Yd:=hw (c*L+i) hlen;have Kf:(c*L+i)%L=i:=by rw[aDW,Nat.mul_add_mod,aEF hi]
   rw[Kf,<-aU] at Yd;obtain⟨leaf,CK⟩:=aE2 Yd.1;have uS:leaf<2 ^ (m-2*j):=by
    have e:((2 ^ (m-2*j):Nat):Int)=2 ^ (m-2*j):=by simp
    omega
   rw[dd,CK] at Pk;refine ga wh rfl (qJ zZ ⟨n_,az tr rfl,q,aj,.mk 0,by omega,leaf,by simpa [eo] using Pk,?_⟩);refine(Pl o j (by omega)).to λds nk=>⟨_,_,_,rfl,⟨nk.cell (by simpa [eo] using Pk),trivial⟩,⟨az (nk.get tr) rfl,trivial⟩,⟨az (nk.get wh) rfl,trivial⟩,?_⟩;rw[bt (n:=first+1),bt (n:=3*(j:Int)),bt (n:=first+1+3*(j:Int))];refine(alu (o.gS j) (first+1+3*(j:Int)) (by omega) uS ds).mono ?_;rintro _ ej ⟨gr,rfl,fH,oi⟩;have sr:=nk.trans oi;obtain⟨eV,al8⟩:=fH.rd.ptr (alK _ _);refine⟨_,rfl,b3 (by rw[ao.zW al8];rfl) ?_⟩;have al9:hR 3 iT 59 (bD af k (dn z)) b1 cE (acc++k8 m hf t L first (bV.drop (c*L)) i):=qG.move λy aC=>cu _ _ (by
    obtain⟨aS,t1,z7,aa⟩:=qG.cells aC;intro e;rw[e,bn] at aa;cases aa)
   have Pm:=al9.bA sr;have F9:=sr.get tr;have Ye:=sr.get (show bD af k (dn z) k=some (dn z) from eC _ _ _);have Pn:¬hC b1 cE aM:=by
    rintro (h|⟨p,aP,h⟩)
    .exact d35 h
    .exact Pj p aP h.symm
   have al_:¬hC b1 cE k:=λh=>by
    obtain⟨aS,t1,z7,aa⟩:=Pm.cells h;rw[Ye] at aa;cases aa
   have ol:=Kg o first (bV.drop (c*L)) i
   have lvl:=Yf (o.gS j) (first+1+3*(j:Int)) leaf;refine⟨cE,az Pm.cell rfl,n_,az F9 rfl,.mk 1,by omega,alJ tl n8 tk Pm fH.rd (by rw[aDs];omega) (by decide) (λeB f22=>⟨(qH (f22 aM (by rw[F9];simp) Pn) _).trans (az F9 rfl),trivial⟩) λiB eR Yg F_=>?_⟩;have Yh:=F_.get F9 Pn;have Yi:=F_.get Ye al_;have Yj:¬hC b1 iB aM:=F_.out (by rw[F9];simp) Pn;refine⟨⟨az Yh rfl,trivial⟩,_,_,Yh,by simp,?_⟩;have ama:k≠aM:=λe=>sg e.symm;refine⟨by rw[cu _ _ ama];exact Yi,rfl,eC _ _ _,iB,⟨fX n_.p 1 n_.cap 1,n_.len-1,n_.cap-1,hZ n_.z 1 n_.cap 1⟩,⟨?_,?_,?_,?_,λp aP e=>Yj (.inr ⟨p,aP,e.symm⟩)⟩,?_⟩
   .have he:acc++k8 m hf t L first (bV.drop (c*L)) (i+1)=acc++k8 m hf t L first (bV.drop (c*L)) i++k7 (m-2*j) hf t (first+1+3*(j:Int)) leaf:=by
     have amb:((bV.drop (c*L)).getD i 0).toNat=leaf:=by
      have:(bV.drop (c*L)).getD i 0=bV[c*L+i]:=by simp[aEg,hlen]
      rw[this,CK];rfl
     rw[vD,amb,<-aDD,aU]
    rw[he];refine Yg.move λy aC=>?_;have ni:y≠aM:=λe=>Yj (e▸aC);have yk:y≠k:=λe=>by
     obtain⟨aS,t1,z7,aa⟩:=Yg.cells aC;rw[e,Yi] at aa;cases aa
    rw[cu _ _ yk,cu _ _ ni]
   .rw[cu _ _ sg,eC];rfl
   .have b4:=uR.drop (n:=1) (by rw[aDY];omega);rw[aFx] at b4;refine(show e4 eo af _ (bV.drop (c*L+(i+1))) by rw[<-Nat.add_assoc];exact b4).move λq aj aT=>?_;obtain⟨q1,nc,nG⟩:=JT uR.nil (by have:=uR.cap;omega) aj;have ai:=Ke CJ nc (by omega);rw[<-nG] at ai;have amc:q.b≠aM:=λe=>ai (e▸aL);have Ga:q.b≠k:=λe=>ai (e▸ln);have ar:bD af k (dn z) q.b≠none:=by
     rw[cu _ _ Ga,nG];exact uR.there nc (by rw[aDY];omega)
    have Yk:=sr _ ar;have amd:¬hC b1 cE q.b:=λhh=>by
     have aa:=F8.1 q.b (.inr (.inr hh));have ame:du q.b≠none:=by rw[X6 _ ai];exact ai
     rcases aa with (aa|aa)|aa
     .exact Ga aa
     .exact ai ((X5.bA we Af).2 _ aa)
     .rw[cu _ _ Ga] at aa;exact ame aa
    rw[cu _ _ Ga,cu _ _ amc,F_.2.1 _ (by rw[Yk];exact ar) amd,Yk,cu _ _ Ga]
   .intro q aj
    obtain⟨q1,nc,nG⟩:=JT uR.nil (by have:=uR.cap;omega) aj;obtain⟨gU,aa,ad⟩:=CJ q1 nc;exact⟨gU,aa,nG.trans ad⟩
   .refine F8.trans ?_;have av:bT (λx=>x=k∨mH cE x) af (λx=>x=k∨mH cE x) (bD af k (dn z)):=Po (.inl rfl) _;have aN:bT (λx=>x=k∨mH cE x) (bD af k (dn z)) (λx=>x=k∨mH iB x) eR:=(hj sr _).trans (Kb (Kb F_ (λx=>x=aM)) (λx=>x=k));exact av.trans (aN.trans ((Po (.inr (.inl rfl)) _).trans (Po (.inl rfl) _)))
  .rintro _ gR ⟨bn,cE,n_,⟨qG,Ph,uR,CJ,Pj⟩,F8⟩;have sg:aM≠k:=tp Kd;refine .inr ⟨bn,_,?_,rfl,rfl,rfl,rfl,rfl,c+1,by omega,⟨cE,n_,⟨?_,?_,?_,CJ,Pj⟩,X5.trans (amf ah F8)⟩,rfl⟩
   .omega
   .have:oG m hf t L first bV (c+1)=acc++k8 m hf t L first (bV.drop (c*L)) L:=by
     rw[ER];simp[acc,oH,aDD]
    rw[this];exact qG.move λy aC=>cu _ _ (by
     obtain⟨aS,t1,z7,aa⟩:=qG.cells aC;intro e;rw[e,bn] at aa;cases aa)
   .rw[cu _ _ sg];exact Ph
   .rw[show(c+1)*L=c*L+L by rw[aFP]];exact uR.move λq aj aT=>cu _ _ λe=>Ke CJ aj (by rw[aDY] at aT;omega) (e▸ln)
 .have rp:c=n:=by
   rcases aDZ c n with h|h
   .have:=aEm L (show c+1<=n by omega);rw[aFP] at this;omega
   .omega
  subst rp;obtain⟨bW,FU⟩:=ow.bA we Af;refine⟨s,az B.cell rfl,?_⟩;refine iH bW aO alS rfl λb9 en gm f9=>⟨s,az gm rfl,s,rfl,?_,en⟩;have amg:¬hC b1 s bM:=λh=>ow.out alR (CH bM d34 d45) (.inr h);exact OU (B.own.move λp aP=>f9 _ λe=>amg (.inr ⟨p,aP,e.symm⟩)) λp aP=>FU _ (.inr (.inr ⟨p,aP,rfl⟩))

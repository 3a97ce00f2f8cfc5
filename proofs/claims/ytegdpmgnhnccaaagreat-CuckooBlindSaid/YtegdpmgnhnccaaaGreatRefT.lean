import Derived.Test.YtegdpmgnhnccaaaGreatRefA
import Derived.Test.YtegdpmgnhnccaaaGreatStoL
namespace Go.Proofs.Tryz
open Go Go.cR Go.RowKit
set_option maxRecDepth 8000
set_option maxHeartbeats 1000000
structure mn where
 cO:Nat
 tb:Nat
 bV:ao
 bf:Nat->Nat
 jo:Nat->TypeId
 pP:TypeId
 sE:TypeId
 c5:TypeId
 m:jQ
 ed:ao
structure j5 where
 es:ao
 fj:ao
 le:ao
 is:Nat->ao
inductive LW where
 | cO
 | tb
 | bV
 | fj
 | le
 | bf (i:Nat)
 | is (i:Nat)
 deriving DecidableEq
def fD (B:mn)(L:Nat)(V:j5):LW->Nat->Prop
 | .cO,x=>x=B.cO
 | .tb,x=>x=B.tb
 | .bV,x=>∃q,B.bV.q=some q/\x=q.b
 | .fj,x=>∃q,V.fj.q=some q/\x=q.b
 | .le,x=>∃q,V.le.q=some q/\x=q.b
 | .bf i,x=>i<L/\x=B.bf i
 | .is i,x=>i<L/\∃q,(V.is i).q=some q/\x=q.b
def dh (B:mn)(L:Nat)(V:j5):Nat->Prop:=λx=>bS B.m V.es x∨∃p,fD B L V p x
def A5 (l:List (Nat×Nat)):List Int:=l.map λy=>(y.2:Int)
def yT (l:List (Nat×Nat)):List Int:=l.map λy=>(y.1:Int)
abbrev HB (G:cq)(B:mn)(fj le:ao):Array Value:=#[bm ⟨B.m.b,0⟩,U G.f,U (2 ^ G.m),U G.s,U G.t,U G.L,bm ⟨B.tb,0⟩,aZ B.bV,aZ fj,aZ le]
structure h4 (G:cq)(ws:List aE)(B:mn)(S:c7)(a8:List dk)(V:j5)(h:ak):Prop where
 top:h B.cO=ev (HB G B V.fj V.le) B.sE
 mem:c8 B.pP B.m S.R a8 V.es h
 qc:h B.tb=some (.cells #[aZ B.ed,U S.used] B.c5 (0,0))
 A6:e4 ab h B.ed ws
 oD:e4 (λb:Nat=>bm ⟨b,0⟩) h B.bV ((List.range G.L).map B.bf)
 gS:∀i,i<G.L->h (B.bf i)=ev (qT (G.ew i) B.m.b (G.base i) (S.over i) (V.is i)) (B.jo i)
 ids:∀i,i<G.L->c4 ab l6 h (V.is i) (S.ids i)
 DW:c4 eo l6 h V.fj (A5 S.gone)
 DX:c4 eo l6 h V.le (yT S.gone)
 jO:∀p eW x,fD B G.L V p x->fD B G.L V eW x->p=eW
 j1:∀p x,fD B G.L V p x->¬bS B.m V.es x
 kM:∀q,B.ed.q=some q->0<ws.length->h q.b≠none/\¬dh B G.L V q.b
structure RG (G:cq)(B:mn):Prop where
 pQ:∀i,i<G.L->q8 B.m (G.ew i) (G.base i)
 rV:G.f<B.m.fl
 rW:B.m.cx G.f=G.top
section
variable {G:cq} {ws:List aE} {B:mn} {S:c7} {a8:List dk} {V:j5} {h af:ak}
theorem h4.dK (R:h4 G ws B S a8 V h)(o:G.dt){p:LW}{x:Nat}(ai:fD B G.L V p x):h x≠none:=by
 cases p with
 | cO=>rw[show x=B.cO from ai,R.top];simp
 | tb=>rw[show x=B.tb from ai,R.qc];simp
 | bV=>obtain⟨q,aj,rfl⟩:=ai;exact R.oD.there aj (by have:=o.L;simp;omega)
 | fj=>obtain⟨q,aj,rfl⟩:=ai;exact(R.DW.bp aj).2
 | le=>obtain⟨q,aj,rfl⟩:=ai;exact(R.DX.bp aj).2
 | bf i=>rw[ai.2,R.gS i ai.1];simp
 | is i=>obtain⟨hi,q,aj,rfl⟩:=ai;exact((R.ids i hi).bp aj).2
theorem h4.mT (R:h4 G ws B S a8 V h)(o:G.dt){x:Nat}(ai:dh B G.L V x):h x≠none:=ai.elim R.mem.dK fun⟨_,aP⟩=>R.dK o aP
theorem h4.out (R:h4 G ws B S a8 V h)(o:G.dt){x:Nat}(ai:h x=none):¬dh B G.L V x:=λbc=>R.mT o bc ai
theorem h4.same (R:h4 G ws B S a8 V h)(aV:∀x,dh B G.L V x->af x=h x)(hw:∀q,B.ed.q=some q->0<ws.length->af q.b=h q.b):h4 G ws B S a8 V af:=by
 have aP:∀p x,fD B G.L V p x->af x=h x:=λp x ai=>aV x (.inr ⟨p,ai⟩);exact⟨by rw[aP .cO _ rfl];exact R.top,R.mem.move λx ai=>aV x (.inl ai),by rw[aP .tb _ rfl];exact R.qc,R.A6.move hw,R.oD.move λq aj _=>aP .bV _ ⟨q,aj,rfl⟩,λi hi=>by rw[aP (.bf i) _ ⟨hi,rfl⟩];exact R.gS i hi,
  λi hi=>(R.ids i hi).move λq aj=>aP (.is i) _ ⟨hi,q,aj,rfl⟩,R.DW.move λq aj=>aP .fj _ ⟨q,aj,rfl⟩,R.DX.move λq aj=>aP .le _ ⟨q,aj,rfl⟩,R.jO,R.j1,λq aj aT=>⟨by rw[hw q aj aT];exact(R.kM q aj aT).1,(R.kM q aj aT).2⟩⟩
theorem h4.bA (R:h4 G ws B S a8 V h)(o:G.dt)(k:bL h af):h4 G ws B S a8 V af:=R.same (λx ai=>k x (R.mT o ai)) λq aj aT=>k _ (R.kM q aj aT).1
theorem h4.loc (R:h4 G ws B S a8 V h){b:Nat}(ar:¬dh B G.L V b)(hw:∀q,B.ed.q=some q->0<ws.length->q.b≠b)(aV:∀y,y≠b->af y=h y):h4 G ws B S a8 V af:=R.same (λx ai=>aV x λe=>ar (e▸ai)) λq aj aT=>aV _ (hw q aj aT)
theorem h4.vL (R:h4 G ws B S a8 V h)(o:G.dt){dG:dY}{cm:List dk}{aX:ao}(M:c8 B.pP B.m dG cm aX af)(v:bT (bS B.m V.es) h (bS B.m aX) af):h4 G ws B { S with R:=dG } cm { V with es:=aX } af/\bT (dh B G.L V) h (dh B G.L { V with es:=aX }) af:=by
 have at_:∀p x,fD B G.L { V with es:=aX } p x↔fD B G.L V p x:=λp x=>by cases p<;>exact aD7
 have aP:∀p x,fD B G.L V p x->af x=h x:=λp x ai=>v.2.1 x (R.dK o ai) (R.j1 p x ai);have hw:∀q,B.ed.q=some q->0<ws.length->af q.b=h q.b:=λq aj aT=>v.2.1 _ (R.kM q aj aT).1 λhm=>(R.kM q aj aT).2 (.inl hm);refine⟨⟨by rw[aP .cO _ rfl];exact R.top,M,by rw[aP .tb _ rfl];exact R.qc,R.A6.move hw,R.oD.move λq aj _=>aP .bV _ ⟨q,aj,rfl⟩,λi hi=>by rw[aP (.bf i) _ ⟨hi,rfl⟩];exact R.gS i hi,
  λi hi=>(R.ids i hi).move λq aj=>aP (.is i) _ ⟨hi,q,aj,rfl⟩,R.DW.move λq aj=>aP .fj _ ⟨q,aj,rfl⟩,R.DX.move λq aj=>aP .le _ ⟨q,aj,rfl⟩,λp eW x aa ad=>R.jO p eW x ((at_ p x).1 aa) ((at_ eW x).1 ad),λp x ai=>v.out (R.dK o ((at_ p x).1 ai)) (R.j1 p x ((at_ p x).1 ai)),λq aj aT=>⟨by rw[hw q aj aT];exact(R.kM q aj aT).1,?_⟩⟩,?_⟩
 .rintro (hm|⟨p,ai⟩)
  .exact v.out (R.kM q aj aT).1 (λhm=>(R.kM q aj aT).2 (.inl hm)) hm
  .exact(R.kM q aj aT).2 (.inr ⟨p,(at_ p _).1 ai⟩)
 .refine(nd (B:=λx=>∃p,fD B G.L V p x) v).to λx ai=> .inl (ai.imp id fun⟨p,aP⟩=>⟨p,(at_ p x).1 aP⟩)
theorem ad4 {cQ:j5}{p0:LW}(jO:∀p eW x,fD B G.L V p x->fD B G.L V eW x->p=eW)(dK:∀p x,fD B G.L V p x->h x≠none)(aV:∀p,p≠p0->∀x,fD B G.L cQ p x->fD B G.L V p x)(aK:∀x,fD B G.L cQ p0 x->fD B G.L V p0 x∨h x=none):∀p eW x,fD B G.L cQ p x->fD B G.L cQ eW x->p=eW:=by
 intro p eW x aa ad;by_cases c:p=p0<;>by_cases cr:eW=p0
 .rw[c,cr]
 .subst c;have si:=aV eW cr x ad;rcases aK x aa with h|h
  .exact jO _ _ x h si
  .exact absurd h (dK _ _ si)
 .subst cr;have Ci:=aV p c x aa;rcases aK x ad with h|h
  .exact jO _ _ x Ci h
  .exact absurd h (dK _ _ Ci)
 .exact jO _ _ x (aV p c x aa) (aV eW cr x ad)
theorem h4.LX (R:h4 G ws B S a8 V h)(o:G.dt){cQ:j5}{p0:LW}(aV:∀p,p≠p0->∀x,fD B G.L cQ p x->fD B G.L V p x)(aK:∀x,fD B G.L cQ p0 x->fD B G.L V p0 x∨h x=none):∀p eW x,fD B G.L cQ p x->fD B G.L cQ eW x->p=eW:=ad4 R.jO (λ_ _ ai=>R.dK o ai) aV aK
theorem h4.HC (R:h4 G ws B S a8 V h)(o:G.dt){i:Nat}(hi:i<G.L){dG:dY}{cm:List dk}{aX e1:ao}{fb:Bool}{ids:List aE}(M:c8 B.pP B.m dG cm aX af)
 (aT:af (B.bf i)=ev (qT (G.ew i) B.m.b (G.base i) fb e1) (B.jo i)) (hm:c4 ab l6 af e1 ids) (nl:¬bS B.m aX (B.bf i)) (DY:∀q,e1.q=some q->q.b≠B.bf i/\¬bS B.m aX q.b) (awd:∀q,e1.q=some q->(∃p,(V.is i).q=some p/\q.b=p.b)∨h q.b=none)
 (v:bT (λx=>bS B.m V.es x∨sB (B.bf i) (V.is i) x) h (λx=>bS B.m aX x∨sB (B.bf i) e1 x) af) :
 h4 G ws B { S with R:=dG,over:=λx=>if x=i then fb else S.over x,ids:=λx=>if x=i then ids else S.ids x } cm { V with es:=aX,is:=λx=>if x=i then e1 else V.is x } af/\bT (dh B G.L V) h (dh B G.L { V with es:=aX,is:=λx=>if x=i then e1 else V.is x }) af:=by
 obtain⟨cQ,jA⟩:∃cQ,cQ={ V with es:=aX,is:=λx=>if x=i then e1 else V.is x }:=⟨_,rfl⟩;have LY:cQ.is i=e1:=by rw[jA];exact aDr rfl
 have R0:∀j,j≠i->cQ.is j=V.is j:=λj aU=>by rw[jA];exact aDq aU
 have at_:∀p,p≠.is i->∀x,fD B G.L cQ p x↔fD B G.L V p x:=λp aP x=>by
  cases p with
  | is j =>
   have aU:j≠i:=λe=>aP (by rw[e]);show(j<G.L/\∃q,(cQ.is j).q=some q/\x=q.b)↔_;rw[R0 j aU];exact aD7
  | _=>rw[jA];exact aD7
 have aK:∀p x,fD B G.L V p x->p≠.bf i->p≠.is i->¬(bS B.m V.es x∨sB (B.bf i) (V.is i) x):=λp x ai aa ad h=>by
  rcases h with h|h|⟨q,aj,h⟩
  .exact R.j1 p x ai h
  .exact aa (R.jO p (.bf i) x ai ⟨hi,h⟩)
  .exact ad (R.jO p (.is i) x ai ⟨hi,q,aj,h⟩)
 have aP:∀p x,fD B G.L V p x->p≠.bf i->p≠.is i->af x=h x:=λp x ai aa ad=>v.2.1 x (R.dK o ai) (aK p x ai aa ad);have ad5:∀q,B.ed.q=some q->0<ws.length->¬(bS B.m V.es q.b∨sB (B.bf i) (V.is i) q.b):=λq aj aT h=>(R.kM q aj aT).2 (by
  rcases h with h|h|⟨dE,eG,h⟩
  .exact .inl h
  .exact .inr ⟨.bf i,hi,h⟩
  .exact .inr ⟨.is i,hi,dE,eG,h⟩)
 have hw:∀q,B.ed.q=some q->0<ws.length->af q.b=h q.b:=λq aj aT=>v.2.1 _ (R.kM q aj aT).1 (ad5 q aj aT);have R1:∀x,fD B G.L cQ (.is i) x->fD B G.L V (.is i) x∨h x=none:=λx ⟨_,q,aj,e⟩=>by
  rw[LY] at aj;rcases awd q aj with ⟨p,aP,cc⟩|ai
  .exact .inl ⟨hi,p,aP,e.trans cc⟩
  .exact .inr (e▸ai)
 have LZ:cQ.es=aX:=by rw[jA]
 have J8:cQ.fj=V.fj:=by rw[jA]
 have hle:cQ.le=V.le:=by rw[jA]
 rw[<-jA];refine⟨⟨by rw[aP .cO _ rfl (by simp) (by simp),J8,hle];exact R.top,by rw[LZ];exact M,by rw[aP .tb _ rfl (by simp) (by simp)];exact R.qc,R.A6.move hw,R.oD.move λq aj _=>aP .bV _ ⟨q,aj,rfl⟩ (by simp) (by simp),λj aU=>?_,λj aU=>?_,by rw[J8];exact R.DW.move λq aj=>aP .fj _ ⟨q,aj,rfl⟩ (by simp) (by simp),by rw[hle];exact R.DX.move λq aj=>aP .le _ ⟨q,aj,rfl⟩ (by simp) (by simp),
  R.LX o (λp aP x=>(at_ p aP x).1) R1,λp x ai=>?_,λq aj aT=>⟨by rw[hw q aj aT];exact(R.kM q aj aT).1,λbc=>?_⟩⟩,?_⟩
 .show af (B.bf j)=ev (qT (G.ew j) B.m.b (G.base j) (if j=i then fb else S.over j) (cQ.is j)) (B.jo j);by_cases c:j=i
  .subst c;rw[aDr rfl,LY];exact aT
  .rw[aDq c,R0 j c,aP (.bf j) _ ⟨aU,rfl⟩ (by simpa using c) (by simp)];exact R.gS j aU
 .show c4 ab l6 af (cQ.is j) (if j=i then ids else S.ids j);by_cases c:j=i
  .subst c;rw[aDr rfl,LY];exact hm
  .rw[aDq c,R0 j c];exact(R.ids j aU).move λq aj=>aP (.is j) _ ⟨aU,q,aj,rfl⟩ (by simp) (by simpa using c)
 .rw[LZ];by_cases aY:p= .is i
  .subst aY;obtain⟨_,q,aj,rfl⟩:=ai;rw[LY] at aj;exact(DY q aj).2
  .have ai:=(at_ p aY x).1 ai;by_cases aS:p= .bf i
   .subst aS;rw[ai.2];exact nl
   .exact λh=>v.out (R.dK o ai) (aK p x ai aS aY) (.inl h)
 .have b4:=(R.kM q aj aT).1;rcases bc with A7|⟨p,ai⟩
  .rw[LZ] at A7;exact v.out b4 (ad5 q aj aT) (.inl A7)
  .by_cases aY:p= .is i
   .subst aY;rcases R1 _ ai with h|h
    .exact(R.kM q aj aT).2 (.inr ⟨_,h⟩)
    .exact b4 h
   .exact(R.kM q aj aT).2 (.inr ⟨p,(at_ p aY _).1 ai⟩)
 .refine⟨λx ai=>?_,λx ai my=>v.2.1 x ai λh=>my ?_,v.2.2⟩
  .rcases ai with A7|⟨p,ai⟩
   .rw[LZ] at A7;rcases v.1 x (.inl A7) with (h|h|⟨q,aj,h⟩)|h
    .exact .inl (.inl h)
    .exact .inl (.inr ⟨.bf i,hi,h⟩)
    .exact .inl (.inr ⟨.is i,hi,q,aj,h⟩)
    .exact .inr h
   .by_cases aY:p= .is i
    .subst aY;exact(R1 x ai).imp (λh=> .inr ⟨_,h⟩) id
    .exact .inl (.inr ⟨p,(at_ p aY x).1 ai⟩)
  .rcases h with h|h|⟨q,aj,h⟩
   .exact .inl h
   .exact .inr ⟨.bf i,hi,h⟩
   .exact .inr ⟨.is i,hi,q,aj,h⟩
theorem awe (R:h4 G ws B S a8 V h)(o:G.dt)(hu:S.used<2 ^ 62) :
 aq 120 [bm ⟨B.tb,0⟩] h λv af=>v= .tuple #[ab (ws.getD S.used 0),U S.used]/\h4 G ws B { S with used:=S.used+1 } a8 V af/\bT (dh B G.L V) h (dh B G.L V) af:=by
 refine asq _ ?_;unfold ab_;refine⟨_,az R.qc rfl,_,az R.qc rfl,_,_,R.qc,by simp,?_⟩;obtain⟨ad,b2⟩:∃ad,ad=bD h B.tb (.cells (iI #[aZ B.ed,U S.used] (0+1) [U (al ((S.used:Int)+1))]) B.c5 (0,0)):=⟨_,rfl⟩;have a_:ad B.tb=some (.cells #[aZ B.ed,U (S.used+1:Nat)] B.c5 (0,0)):=by rw[b2,eC,bt];rfl
 have cg:∀y,y≠B.tb->ad y=h y:=λy aC=>by rw[b2];exact cu _ _ aC
 rw[<-b2];have yM:∀p x,fD B G.L V p x->p≠.tb->ad x=h x:=λp x ai aP=>cg x λe=>aP (R.jO p .tb x ai e);have nw:∀q,B.ed.q=some q->0<ws.length->ad q.b=h q.b:=λq aj aT=>cg _ λe=>(R.kM q aj aT).2 (.inr ⟨.tb,e⟩);have df:h4 G ws B { S with used:=S.used+1 } a8 V ad:=⟨by rw[yM .cO _ rfl (by simp)];exact R.top,R.mem.move λx ai=>cg x λe=>R.j1 .tb x e ai,a_,R.A6.move nw,R.oD.move λq aj _=>yM .bV _ ⟨q,aj,rfl⟩ (by simp),λi hi=>by rw[yM (.bf i) _ ⟨hi,rfl⟩ (by simp)];exact R.gS i hi,
  λi hi=>(R.ids i hi).move λq aj=>yM (.is i) _ ⟨hi,q,aj,rfl⟩ (by simp),R.DW.move λq aj=>yM .fj _ ⟨q,aj,rfl⟩ (by simp),R.DX.move λq aj=>yM .le _ ⟨q,aj,rfl⟩ (by simp),R.jO,R.j1,λq aj aT=>⟨by rw[nw q aj aT];exact(R.kM q aj aT).1,(R.kM q aj aT).2⟩⟩
 have ff:bT (dh B G.L V) h (dh B G.L V) ad:=⟨λx ai=> .inl ai,λx ai aK=>cg x λe=>aK (.inr ⟨.tb,e⟩),λx ai=>by
  by_cases e:x=B.tb
  .rw[e,a_] at ai;cases ai
  .rw[cg x e] at ai;exact ai⟩
 have aT:=R.A6.len;refine⟨_,az a_ rfl,cj (λcl=>?_) λdH=>?_⟩
 .have DQ:S.used<ws.length:=by omega
  refine⟨_,az a_ rfl,df.A6.cA DQ λq _ c=>⟨_,c,?_,df,ff⟩⟩;simp[List.getD,DQ]
 .refine⟨?_,df,ff⟩;have:ws.getD S.used 0=0:=by simp[List.getD,aEu (show ws.length<=S.used by omega)]
  rw[this]
theorem ad6 (o:G.dt)(R:h4 G ws B S a8 V h){i:Nat}(hi:i<4)(hu:S.used<2 ^ 62) :
 aq 65 [bm ⟨B.cO,0⟩,U i] h λv af=>v= .agg #[U (G.leaf (wf ws) i S.used),U S.used]/\h4 G ws B { S with used:=S.used+1 } a8 V af/\bT (dh B G.L V) h (dh B G.L V) af:=by
 have fj:=o.st;refine arh _ _ ?_;unfold abK;refine bP λae aa f1 aH aD=>⟨some ⟨B.tb,0⟩,aD.cell (az R.top rfl),?_⟩;refine(awe (R.bA o aD) o hu).mono ?_;rintro _ ad ⟨rfl,df,v2⟩;refine⟨_,_,rfl,_,az df.top rfl,_,az df.top rfl,_,az df.top rfl,_,az df.top rfl,?_⟩;refine(LV fj i (by omega)).to λan aG=>⟨_,rfl,?_⟩;have ah:G.m-2*i<=10:=by have:=o.m;omega
 have sd:1<=2 ^ (G.m-2*i):=aEf;have se:2 ^ (G.m-2*i)<=2 ^ 10:=aDy (by decide) ah;have R2:(2:Int) ^ (G.m-2*i)=((2 ^ (G.m-2*i):Nat):Int):=by simp
 rw[R2,jU (by omega)];have HD:(UInt64.ofNat (2 ^ (G.m-2*i))).toNat=2 ^ (G.m-2*i):=by rw[aDw];omega
 have em:((ws.getD S.used 0)%UInt64.ofNat (2 ^ (G.m-2*i))).toNat=G.leaf (wf ws) i S.used:=by
  rw[aFo,HD];rfl
 have uS:G.leaf (wf ws) i S.used<1024:=yh o i S.used;have e9:¬dh B G.L V ae:=R.out o f1;have ik:=v2.get aH e9;refine⟨λe=>by have:=congrArg UInt64.toNat e;rw[HD] at this;simp at this,?_⟩;rw[em,bt];have kG:=((hj aD (dh B G.L V)).trans v2).more aG;refine lY kG f1 (aG.get ik) rfl λaJ rC b6 dq=>⟨_,az b6 rfl,_,az b6 rfl,rfl,?_,rC⟩;exact(df.bA o aG).loc e9 (λq aj aT e=>(R.kM q aj aT).1 (e▸f1)) dq
theorem awf (o:G.dt)(R:h4 G ws B S a8 V h){v p:aE}(b0:v.toNat<2 ^ 62)(aP:v≠0->p.toNat<2 ^ 62){sp:Nat×Nat}(dd:S.gone.length<1000000000000) :
 aq 69 [bm ⟨B.cO,0⟩,ab v,ab p,.agg #[U sp.1,U sp.2]] h λr af=>∃cQ,r=U (gd v p sp).1/\h4 G ws B { S with gone:=S.gone++[gd v p sp] } a8 cQ af/\bT (dh B G.L V) h (dh B G.L cQ) af:=by
 have note:∀(g:ak) (aw:Nat×Nat) (t1 t2:TypeId) (Av R3:ak->(Int->Prop)->Prop) (K:ak->Prop),bL h g->(∀E:Int->Prop,E aw.2->Av g E)->(∀bw,(∀y,g y≠none->¬dh B G.L V y->bw y=g y)->∀E:Int->Prop,E aw.1->R3 bw E)->(∀bw cQ,h4 G ws B { S with gone:=S.gone++[aw] } a8 cQ bw->bT (dh B G.L V) h (dh B G.L cQ) bw->(∀y,g y≠none->¬dh B G.L V y->bw y=g y)->K bw) ->
  ∃s1,bx g B.cO (0+8)=some (aZ s1)/\Av g λay=>bg g (.cells #[U ay] t1) λax ad=>eI prog 37 s1 (.s ⟨some ⟨ax,0⟩,1,1,none⟩) ad λs2 an=>aW an ⟨B.cO,0+8⟩ [aZ s2] λaJ=>∃bz,bx aJ B.cO (0+9)=some (aZ bz)/\R3 aJ λaA=>bg aJ (.cells #[U aA] t2) λaM aR=>eI prog 37 bz (.s ⟨some ⟨aM,0⟩,1,1,none⟩) aR λbZ bj=>aW bj ⟨B.cO,0+9⟩ [aZ bZ] λbU=>K bU:=by
  intro g aw t1 t2 Av R3 K cY awg awh eL;have dJ:=R.bA o cY;have vk:(A5 S.gone).length=S.gone.length:=by simp[A5]
  have aCV:(yT S.gone).length=S.gone.length:=by simp[yT]
  refine⟨_,az dJ.top rfl,awg _ <| Ct dJ.DW (λ_ _=>rfl) (aw.2:Int) (by omega) λs2 g2 ft f2 h6 aA=>?_⟩;have ad7:∀p x,fD B G.L V p x->p≠.fj->g2 x=g x:=λp x ai aP=>f2 x (dJ.dK o ai) λq aj e=>aP (R.jO p .fj x ai ⟨q,aj,e⟩);have R4:∀q,s2.q=some q->fD B G.L V .fj q.b∨g q.b=none:=λq aj=>(h6 q aj).imp (fun⟨p,aP,e⟩=>⟨p,aP,e⟩) id;have vR:∀q,s2.q=some q->∀p x,fD B G.L V p x->p≠.fj->q.b≠x:=λq aj p x ai aP e=>(R4 q aj).elim (λh=>aP (R.jO p .fj x ai (e▸h))) λar=>dJ.dK o ai (e▸ar);have aCW:∀q,s2.q=some q->¬bS B.m V.es q.b:=λq aj hm=>(R4 q aj).elim (λh=>R.j1 .fj _ h hm) λar=>dJ.mem.dK hm ar;have a_:=(ad7 .cO _ rfl (by simp)).trans dJ.top;refine⟨_,_,a_,by simp,_,az (eC _ _ _) rfl,awh _ (λy aC aK=>(cu _ _ λe=>aK (.inr ⟨.cO,e⟩)).trans (f2 y aC λq aj e=>aK (.inr ⟨.fj,q,aj,e⟩))) _ ?_⟩;obtain⟨g3,R5⟩:∃g3,g3=bD g2 B.cO (.cells (iI (HB G B V.fj V.le) (0+8) [aZ s2]) B.sE (0,0)):=⟨_,rfl⟩;have b7:g3 B.cO=ev (HB G B s2 V.le) B.sE:=by rw[R5,eC];rfl
  have da:∀y,y≠B.cO->g3 y=g2 y:=λy aC=>by rw[R5];exact cu _ _ aC
  rw[<-R5];have ad8:∀p x,fD B G.L V p x->p≠.cO->x≠B.cO:=λp x ai aP e=>aP (R.jO p .cO x ai e);have R6:∀p x,fD B G.L V p x->p≠.fj->p≠.cO->g3 x=g x:=λp x ai aa ad=>(da x (ad8 p x ai ad)).trans (ad7 p x ai aa);have pX:c4 eo l6 g3 V.le (yT S.gone):=dJ.DX.move λq aj=>R6 .le _ ⟨q,aj,rfl⟩ (by simp) (by simp);refine Ct pX (λ_ _=>rfl) (aw.1:Int) (by omega) λbZ g4 jv f4 uI aO=>?_;have aL:∀y,g3 y=none->g y=none:=λy aC=>aA y (by
   by_cases c:y=B.cO
   .rw[c,b7] at aC;cases aC
   .rw[da y c] at aC;exact aC)
  have uH:∀y,g3 y≠none->¬fD B G.L V .le y->g4 y=g3 y:=λy aC aK=>f4 y aC λq aj e=>aK ⟨q,aj,e⟩;have ad9:∀q,bZ.q=some q->fD B G.L V .le q.b∨g3 q.b=none:=λq aj=>(uI q aj).imp (fun⟨p,aP,e⟩=>⟨p,aP,e⟩) id;have b6:g4 B.cO=_:=(uH B.cO (by rw[b7];simp) λh=>by cases R.jO .cO .le _ rfl h).trans b7;have ad_:∀q,s2.q=some q->g2 q.b≠none:=λq aj=>(ft.bp aj).2;have R7:∀q,s2.q=some q->q.b≠B.cO:=λq aj=>vR q aj .cO _ rfl (by simp);have awi:∀q,s2.q=some q->¬fD B G.L V .le q.b:=λq aj h=>vR q aj .le _ h (by simp) rfl;refine⟨_,_,b6,by simp,?_⟩;obtain⟨g5,R8⟩:∃g5,g5=bD g4 B.cO (.cells (iI (HB G B s2 V.le) (0+9) [aZ bZ]) B.sE (0,0)):=⟨_,rfl⟩;have cG:g5 B.cO=ev (HB G B s2 bZ) B.sE:=by rw[R8,eC];rfl
  have cz:∀y,y≠B.cO->g5 y=g4 y:=λy aC=>by rw[R8];exact cu _ _ aC
  rw[<-R8];have d3:∀p x,fD B G.L V p x->p≠.fj->g3 x≠none:=λp x ai aa=>by
   by_cases c:p= .cO
   .subst c;rw[show x=B.cO from ai,b7];simp
   .rw[R6 p x ai aa c];exact dJ.dK o ai
  have L0:∀p x,fD B G.L V p x->p≠.fj->p≠.le->p≠.cO->g5 x=g x:=λp x ai aa ad an=>(cz x (ad8 p x ai an)).trans ((uH x (d3 p x ai aa) λh=>ad (R.jO p .le x ai h)).trans (R6 p x ai aa an));have awj:∀x,bS B.m V.es x->g5 x=g x:=λx ai=>by
   have HE:x≠B.cO:=λe=>R.j1 .cO x e ai;have an:g3 x=g x:=(da x HE).trans (f2 x (dJ.mem.dK ai) λq aj e=>R.j1 .fj x ⟨q,aj,e⟩ ai);rw[cz x HE,uH x (by rw[an];exact dJ.mem.dK ai) λh=>R.j1 .le x h ai,an]
  have R9:∀x,g x≠none->¬dh B G.L V x->g5 x=g x:=λx ai aK=>by
   have HE:x≠B.cO:=λe=>aK (.inr ⟨.cO,e⟩);have an:g3 x=g x:=(da x HE).trans (f2 x ai λq aj e=>aK (.inr ⟨.fj,q,aj,e⟩));rw[cz x HE,uH x (by rw[an];exact ai) λh=>aK (.inr ⟨.le,h⟩),an]
  have awk:∀x,g5 x=none->g x=none:=λx ai=>by
   by_cases c:x=B.cO
   .rw[c,cG] at ai;cases ai
   .rw[cz x c] at ai;exact aL x (aO x ai)
  have fF:c4 eo l6 g5 s2 (A5 (S.gone++[aw])):=by
   have e:A5 (S.gone++[aw])=A5 S.gone++[(aw.2:Int)]:=by simp[A5]
   rw[e];exact ft.move λq aj=>by
    have an:g3 q.b=g2 q.b:=da _ (R7 q aj);rw[cz _ (R7 q aj),uH _ (by rw[an];exact ad_ q aj) (awi q aj),an]
  have awl:∀q,bZ.q=some q->q.b≠B.cO:=λq aj e=>(ad9 q aj).elim (λh=>by cases R.jO .le .cO _ h e) λar=>by rw[e,b7] at ar;cases ar
  have h2:c4 eo l6 g5 bZ (yT (S.gone++[aw])):=by
   have e:yT (S.gone++[aw])=yT S.gone++[(aw.1:Int)]:=by simp[yT]
   rw[e];exact jv.move λq aj=>cz _ (awl q aj)
  obtain⟨cQ,jA⟩:∃cQ:j5,cQ={ V with fj:=s2,le:=bZ }:=⟨_,rfl⟩;have at_:∀q,q≠.fj->q≠.le->∀x,fD B G.L cQ q x↔fD B G.L V q x:=λq aa ad x=>by
   cases q with
   | fj=>exact absurd rfl aa
   | le=>exact absurd rfl ad
   | _=>rw[jA];exact aD7
  have R_:∀x,fD B G.L cQ .fj x->fD B G.L V .fj x∨g x=none:=λx ⟨q,aj,e⟩=>by
   rw[jA] at aj;rw[e];exact R4 q aj
  have Sa:∀x,fD B G.L cQ .le x->fD B G.L V .le x∨g3 x=none:=λx ⟨q,aj,e⟩=>by
   rw[jA] at aj;rw[e];exact ad9 q aj
  have awm:∀x,fD B G.L cQ .fj x->g3 x≠none:=λx ⟨q,aj,e⟩=>by
   rw[jA] at aj;rw[e,da _ (R7 q aj)];exact ad_ q aj
  obtain⟨A8,L1⟩:∃A8:j5,A8={ V with fj:=s2 }:=⟨_,rfl⟩;have av:∀p,p≠.fj->∀x,fD B G.L A8 p x->fD B G.L V p x:=λp aP x ai=>by
   cases p with
   | fj=>exact absurd rfl aP
   | _=>rw[L1] at ai;exact ai
  have aN:∀p,p≠.le->∀x,fD B G.L cQ p x->fD B G.L A8 p x:=λp aP x ai=>by
   cases p with
   | le=>exact absurd rfl aP
   | _=>rw[jA] at ai;rw[L1];exact ai
  have aea:∀x,fD B G.L A8 .fj x->fD B G.L cQ .fj x:=λx ai=>by rw[L1] at ai;rw[jA];exact ai
  have awn:∀x,fD B G.L V .le x->fD B G.L A8 .le x:=λx ai=>by rw[L1];exact ai
  have LX:=R.LX o (cQ:=A8) (p0:= .fj) av λx ai=>(R_ x (aea x ai)).imp id cY.free;have awo:=ad4 (h:=g3) LX (λp x ai=>by
   by_cases c:p= .fj
   .subst c;exact awm x (aea x ai)
   .exact d3 p x (av p c x ai) c) aN λx ai=>(Sa x ai).imp (awn x) id
  have aeb:∀x,fD B G.L cQ .fj x∨fD B G.L cQ .le x->dh B G.L V x∨g x=none:=λx ai=>by
   rcases ai with ai|ai
   .exact(R_ x ai).imp (λh=> .inr ⟨_,h⟩) id
   .exact(Sa x ai).imp (λh=> .inr ⟨_,h⟩) (aL x)
  have L2:cQ.es=V.es:=by rw[jA]
  have aec:cQ.is=V.is:=by rw[jA]
  have aed:∀p x,fD B G.L cQ p x->dh B G.L V x∨g x=none:=λp x ai=>by
   by_cases aS:p= .fj
   .subst aS;exact aeb x (.inl ai)
   .by_cases aY:p= .le
    .subst aY;exact aeb x (.inr ai)
    .exact .inl (.inr ⟨p,(at_ p aS aY x).1 ai⟩)
  have awp:∀p x,fD B G.L cQ p x->¬bS B.m V.es x:=λp x ai hm=>by
   by_cases aS:p= .fj
   .subst aS;exact(R_ x ai).elim (λh=>R.j1 _ x h hm) (dJ.mem.dK hm)
   .by_cases aY:p= .le
    .subst aY;exact(Sa x ai).elim (λh=>R.j1 _ x h hm) λh=>dJ.mem.dK hm (aL x h)
    .exact R.j1 p x ((at_ p aS aY x).1 ai) hm
  have hw:∀q,B.ed.q=some q->0<ws.length->g5 q.b=g q.b:=λq aj aT=>R9 _ (dJ.kM q aj aT).1 (dJ.kM q aj aT).2;refine eL g5 cQ ⟨by rw[jA];exact cG,by rw[L2];exact dJ.mem.move awj,by rw[L0 .tb _ rfl (by simp) (by simp) (by simp)];exact dJ.qc,dJ.A6.move hw,dJ.oD.move λq aj _=>L0 .bV _ ⟨q,aj,rfl⟩ (by simp) (by simp) (by simp),λi hi=>by rw[aec,L0 (.bf i) _ ⟨hi,rfl⟩ (by simp) (by simp) (by simp)];exact dJ.gS i hi,
   λi hi=>by rw[aec];exact(dJ.ids i hi).move λq aj=>L0 (.is i) _ ⟨hi,q,aj,rfl⟩ (by simp) (by simp) (by simp),by rw[jA];exact fF,by rw[jA];exact h2,awo,by rw[L2];exact awp,λq aj aT=>⟨by rw[hw q aj aT];exact(dJ.kM q aj aT).1,λbc=>?_⟩⟩ ⟨λx ai=>?_,λx ai aK=>?_,λx ai=>cY.free (awk x ai)⟩ R9
  .have b4:=dJ.kM q aj aT;rcases bc with hm|⟨p,ai⟩
   .rw[L2] at hm;exact b4.2 (.inl hm)
   .exact(aed p _ ai).elim b4.2 b4.1
  .rcases ai with hm|⟨p,ai⟩
   .rw[L2] at hm;exact .inl (.inl hm)
   .exact(aed p x ai).imp id cY.free
  .rw[R9 x (by rw[cY x ai];exact ai) aK,cY x ai]
 refine arq _ _ _ _ _ ?_;unfold abO;refine bP λae aa f1 aH aD=>?_;have e9:¬dh B G.L V ae:=R.out o f1;unfold gd;refine iN (λbn=>?_) λbn=>?_
 .have bn:v=0:=aDN bn;rw[aDr bn];refine note aa sp _ _ (λg E=>∃ay,bx g ae 1=some (U ay)/\E ay) (λg E=>∃ay,bx g ae 0=some (U ay)/\E ay) _ aD (λE jw=>⟨_,az aH rfl,jw⟩) (λbw aV E jw=>⟨_,az ((aV ae (by rw[aH];simp) e9).trans aH) rfl,jw⟩) λbw cQ dG gx aV=>⟨_,az ((aV ae (by rw[aH];simp) e9).trans aH) rfl,cQ,rfl,dG,gx⟩
 .have bn:v≠0:=aD3 bn;rw[aDq bn];have Ci:1<=v.toNat:=Nat.pos_of_ne_zero λe=>bn (aDE.1 e);have KP:=aP bn;rw[iK (n:=((p.toNat:Nat):Int)) (by omega) (by omega),iK (n:=((v.toNat:Nat):Int)) (by omega) (by omega),bt,show((v.toNat:Nat):Int)-1=((v.toNat-1:Nat):Int) by omega];exact note aa (v.toNat-1,p.toNat) _ _ (λ_ E=>E _) (λ_ E=>E _) _ aD (λE jw=>jw) (λbw _ E jw=>jw) λbw cQ dG gx aV=>⟨cQ,rfl,dG,gx⟩
end
end Go.Proofs.Tryz
namespace Go.Proofs.Tryz
open Go Go.cR Go.RowKit
set_option maxRecDepth 8000
theorem aee {n:Nat}(h:1<=n/\n<=4):lq (if n*2=0 then #[] else Value.cells (.agg #[U 0,U 0])) (n*2)=(((List.range n).map λ_=>((0:Nat),(0:Nat))).flatMap rX).toArray:=by
 have:n=1∨n=2∨n=3∨n=4:=by omega
 clear h;rcases this with rfl|rfl|rfl|rfl<;>(show _=_;kernel_rfl)
def HF (x:aE):List Value:=[ab x]
theorem Sb (x:aE):(HF x).length=1:=rfl
theorem awq {n:Nat}(h:1<=n/\n<=4):lq (if n*1=0 then #[] else Value.cells (.int .u64 0)) (n*1)=(((List.range n).map λ_=>(0:aE)).flatMap HF).toArray:=by
 have:n=1∨n=2∨n=3∨n=4:=by omega
 clear h;rcases this with rfl|rfl|rfl|rfl<;>(show _=_;kernel_rfl)
theorem aef {gA g:ak}{b n:Nat}{d:Nat->Nat×Nat}(A:ct 2 rX gA g ⟨some ⟨b,0⟩,n,n,none⟩ ((List.range n).map d)){j:Nat}(aU:j<n):bx g b (0+j*2)=some (U (d j).1)/\bx g b (0+j*2+1)=some (U (d j).2):=by
 have:=sT yU (A.rd.rd ⟨b,0⟩ rfl) (i:=j) (by simpa using aU);rw[r6 aU] at this;exact⟨this.1,this.2.1⟩
theorem awr {gA g:ak}{b n:Nat}{d:Nat->aE}(A:ct 1 HF gA g ⟨some ⟨b,0⟩,n,n,none⟩ ((List.range n).map d)){j:Nat}(aU:j<n):bx g b (0+j*1)=some (ab (d j)):=by
 have:=sT Sb (A.rd.rd ⟨b,0⟩ rfl) (i:=j) (by simpa using aU);rw[r6 aU] at this;exact this.1
theorem aeg (a:Nat):UInt64.ofNat a+1=UInt64.ofNat (a+1):=by
 apply aDE.1;rw[aEt,aDw,aDw];simp
section
variable {G:cq} {ws:List aE} {B:mn} {S:c7} {a8:List dk} {V:j5} {h:ak}
set_option maxHeartbeats 8000000 in
theorem avx (o:G.dt)(st:RG G B)(R:h4 G ws B S a8 V h){op:fv}{k:Int}{d:c_}(fV:zD op k 0 d)(ah:k=0∨k=1∨k=3){x u0 a:Nat}(ai:x<2 ^ G.m)(e2:lk G (wf ws) u0 S.used S)(hu:S.used=u0+2*G.L*a)(dd:S.gone.length=G.L*a)
 (pM:S.used<1000000000000) (aws:S.gone.length<100000000000) (aT:a8.length<100000000000) (LJ:∀i,(S.ids i).length<1000000000000) :
 aq 15 [bm ⟨B.cO,0⟩,U k,ab (UInt64.ofNat x),ez d] h λr af=>∃cm cQ,r= .tuple #[ez (de G (wf ws) op x S).2.1,.bool (de G (wf ws) op x S).2.2]/\h4 G ws B (de G (wf ws) op x S).1 cm cQ af/\bT (dh B G.L V) h (dh B G.L cQ) af /\
  cm=a8++oH G.m G.s G.t G.L G.f (((de G (wf ws) op x S).1.gone.drop S.gone.length).map λy=>(y.1:Int)):=by
 have fj:=o.st;have eg:=o.L;have hm:=o.m;have awt:2 ^ G.m<=2 ^ 10:=aDy (by decide) hm;have DZ:x<2 ^ 62:=by omega
 have awu:Int.toNat (G.L:Int)=G.L:=by omega
 refine nW _ _ _ _ ?_;unfold abp;refine bP λae aa f1 aH aD=>bP λax ad f2 a_ aB=>?_;have fQ:=aD.trans aB;have df:=R.bA o fQ;refine⟨λq1 aO bu aI bb g=>q1=⟨B.cO,0⟩/\k=aO/\UInt64.ofNat x=bu/\aI=⟨ae,0⟩/\bb=⟨ax,0⟩/\g=ad,?_,?_⟩
 .have cl:decide (cX ((2:Int) ^ G.m)<=UInt64.ofNat x)=false:=by
   rw[show(2:Int) ^ G.m=((2 ^ G.m:Nat):Int) by simp,jU (by omega)];refine aDz λhle=>?_;have:=aEN.1 hle;rw[aDw,aDw] at this;omega
  rcases ah with rfl|rfl|rfl
  .exact b3 rfl ⟨_,az df.top rfl,b3 cl ⟨rfl,rfl,rfl,rfl,rfl,rfl⟩⟩
  .exact dF rfl (b3 rfl ⟨_,az df.top rfl,b3 cl ⟨rfl,rfl,rfl,rfl,rfl,rfl⟩⟩)
  .exact dF rfl (dF rfl (b3 rfl ⟨_,az df.top rfl,b3 cl ⟨rfl,rfl,rfl,rfl,rfl,rfl⟩⟩))
 rintro q1 aO bu aI bb g ⟨rfl,rfl,rfl,rfl,rfl,rfl⟩;refine⟨_,az df.top rfl,by omega,by omega,by omega,by omega,bP λaM an f3 b7 aG=>⟨by omega,by omega,by omega,by omega,bP λbM aJ f4 b6 bd=>⟨by omega,by omega,by omega,by omega,bP λb1 aR f5 cG bF=>?_⟩⟩⟩;rw[awu] at b7 b6 cG ⊢;have tM:=(aG.trans bd).trans bF;have jM:=fQ.trans tM;have f20:h ax=none:=aD.free f2;have f30:h aM=none:=fQ.free f3;have f40:h bM=none:=fQ.free (aG.free f4);have f50:h b1=none:=fQ.free (aG.free (bd.free f5));have n34:aM≠bM:=λe=>by rw[<-e,b7] at f4;cases f4
 have n35:aM≠b1:=λe=>by rw[<-e,bd.get b7] at f5;cases f5
 have n45:bM≠b1:=λe=>by rw[<-e,b6] at f5;cases f5
 have jV:=R.bA o jM;let bz:ao:=⟨some ⟨aM,0⟩,G.L,G.L,none⟩;let bZ:ao:=⟨some ⟨bM,0⟩,G.L,G.L,none⟩;let cZ:ao:=⟨some ⟨b1,0⟩,G.L,G.L,none⟩;have kE:ct 2 rX h aR bz ((List.range G.L).map λ_=>((0:Nat),(0:Nat))):=ct.qs yU f30 ((bd.trans bF).get b7) (aee eg) (by simp);have hP:ct 2 rX h aR bZ ((List.range G.L).map λ_=>((0:Nat),(0:Nat))):=ct.qs yU f40 (bF.get b6) (aee eg) (by simp);have jZ:ct 1 HF h aR cZ ((List.range G.L).map λ_=>(0:aE)):=ct.qs Sb f50 cG (awq eg) (by simp);have g1:=(aB.trans tM).get aH;have g2:=tM.get a_;have hG:∀ {y:Nat},h y=none->¬dh B G.L V y:=λaC=>R.out o aC;have Sc:ae≠aM/\ae≠bM/\ae≠b1:=⟨(λe=>by rw[<-e,aB.get aH] at f3;cases f3),(λe=>by rw[<-e,(aB.trans aG).get aH] at f4;cases f4),λe=>by rw[<-e,((aB.trans aG).trans bd).get aH] at f5;cases f5⟩;have Sd:ax≠aM/\ax≠bM/\ax≠b1:=⟨(λe=>by rw[<-e,a_] at f3;cases f3),(λe=>by rw[<-e,aG.get a_] at f4;cases f4),λe=>by rw[<-e,(aG.trans bd).get a_] at f5;cases f5⟩;have ao9:∀j,j<G.L->G.bQ S.used j=S.used+2*(G.L-1-j):=λj _=>rfl;have wn:∀ {b:Nat},h b=none->∀q,B.ed.q=some q->0<ws.length->q.b≠b:=λar q aj aT e=>(R.kM q aj aT).1 (e▸ar);refine⟨λbH bB bK cH di br yQ Dm LP bq g bW=>bH=⟨B.cO,0⟩/\k=bB/\UInt64.ofNat x=bK/\cH=⟨ae,0⟩/\di=⟨ax,0⟩/\br=(G.L:Nat)/\yQ=bz/\Dm=bZ/\LP=cZ/\∃i:Nat,bq=(G.L:Int)-1-i/\i<=G.L/\bW=G.L-i/\h4 G ws B { S with used:=S.used+2*i } a8 V g/\bT (dh B G.L V) h (dh B G.L V) g/\ct 2 rX h g bz ((List.range G.L).map (drawn G (wf ws) S.used 0 (G.L-i)))/\ct 2 rX h g bZ ((List.range G.L).map (drawn G (wf ws) S.used 1 (G.L-i)))/\ct 1 HF h g cZ ((List.range G.L).map λy=>if G.L-i<=y then cT x y else 0)/\g ae=aR ae/\g ax=aR ax,
  ⟨G.L,rfl,rfl,rfl,rfl,rfl,rfl,rfl,rfl,rfl,0,by rw[bt];omega,by omega,rfl,jV,hj jM _,?_,?_,?_,rfl,rfl⟩,?_⟩
 .have e:(List.range G.L).map (drawn G (wf ws) S.used 0 (G.L-0))=(List.range G.L).map λ_=>((0:Nat),(0:Nat)):=aDU λy aC=>by unfold drawn;rw[aDq (by have:=aDT.1 aC;omega)]
  rw[e];exact kE
 .have e:(List.range G.L).map (drawn G (wf ws) S.used 1 (G.L-0))=(List.range G.L).map λ_=>((0:Nat),(0:Nat)):=aDU λy aC=>by unfold drawn;rw[aDq (by have:=aDT.1 aC;omega)]
  rw[e];exact hP
 .have e:(List.range G.L).map (λy=>if G.L-0<=y then cT x y else 0)=(List.range G.L).map λ_=>(0:aE):=aDU λy aC=>by rw[aDq (by have:=aDT.1 aC;omega)]
  rw[e];exact jZ
 clear kE hP jZ;rintro bH bB bK cH di br yQ Dm LP bq g bW ⟨rfl,rfl,rfl,rfl,rfl,rfl,rfl,rfl,rfl,i,rfl,hi,rfl,dJ,kt,kE,hP,jZ,rT,L3⟩;refine cj (λcl=>?_) λdH=>?_
 .have cb:i<G.L:=by omega
  obtain⟨j,aU⟩:∃j:Nat,j=G.L-1-i:=⟨_,rfl⟩;have Ag:(G.L:Int)-1-i=j:=by omega
  rw[Ag];have D0:G.bQ S.used j=S.used+2*i:=by unfold cq.bQ;omega
  have aeh:∀e:Nat,(λy=>if y=j then (G.leaf (wf ws) j (G.bQ S.used j+e),G.bQ S.used j+e) else drawn G (wf ws) S.used e (G.L-i) y)=drawn G (wf ws) S.used e (G.L-(i+1)):=λe=>by
   funext y;unfold drawn;by_cases c:y=j
   .subst c;rw[aDr rfl,eY]
   .rw[aDq c];by_cases aY:G.L-i<=y/\y<G.L
    .rw[aDr aY,eY]
    .rw[aDq aY,cS]
  have wi:∀ {h_:Nat} {α:Type} {f:α->List Value} {g bw:ak} {b:Nat} {l:List α},bT (dh B G.L V) g (dh B G.L V) bw->h b=none->ct h_ f h g ⟨some ⟨b,0⟩,G.L,G.L,none⟩ l->ct h_ f h bw ⟨some ⟨b,0⟩,G.L,G.L,none⟩ l:=λv ar A=>A.move λq aj=>(by cases aj;exact v.2.1 _ (A.bp (q:=⟨_,0⟩) rfl).2 (hG ar));have D1:∀ {h_:Nat} {α:Type} {f:α->List Value} {g bw:ak} {b c:Nat} {l:List α},(∀y,y≠c->bw y=g y)->b≠c->ct h_ f h g ⟨some ⟨b,0⟩,G.L,G.L,none⟩ l->ct h_ f h bw ⟨some ⟨b,0⟩,G.L,G.L,none⟩ l:=λv ar A=>A.move λq aj=>(by cases aj;exact v _ ar);refine(ad6 o dJ (i:=j) (by omega) (by show S.used+2*i<2 ^ 62;omega)).mono ?_;rintro _ qd ⟨rfl,js,kP⟩;refine⟨_,_,rfl,⟨aM,0⟩,rfl,by omega,by show(j:Int)+1<=(G.L:Nat);omega,?_⟩;refine vy yU (wi kP f30 kE) (q:=⟨aM,0⟩) rfl (i:=j) (by omega) (G.leaf (wf ws) j (S.used+2*i),S.used+2*i) λpE Se tO=>?_;have Se:ct 2 rX h pE bz ((List.range G.L).map (drawn G (wf ws) S.used 0 (G.L-(i+1)))):=by
   have e:=aeh 0;rw[aEe,D0] at e;rw[<-e];exact Se
  have qq:=js.loc (hG f30) (wn f30) tO;have Sf:bT (dh B G.L V) h (dh B G.L V) pE:=⟨(kt.trans kP).1,λy aC aK=>(tO y λe=>aC (e▸f30)).trans ((kt.trans kP).2.1 y aC aK),λy aC=>by
   by_cases c:y=aM
   .rw[c];exact f30
   .rw[tO y c] at aC;exact(kt.trans kP).2.2 y aC⟩
  refine(ad6 o qq (i:=j) (by omega) (by show S.used+2*i+1<2 ^ 62;omega)).mono ?_;rintro _ sF ⟨rfl,vZ,tP⟩;refine⟨_,_,rfl,⟨bM,0⟩,rfl,by omega,by show(j:Int)+1<=(G.L:Nat);omega,?_⟩;refine vy yU (wi tP f40 (D1 tO (aDC n34) (wi kP f40 hP))) (q:=⟨bM,0⟩) rfl (i:=j) (by omega) (G.leaf (wf ws) j (S.used+2*i+1),S.used+2*i+1) λD2 Sg mM=>?_;have Sg:ct 2 rX h D2 bZ ((List.range G.L).map (drawn G (wf ws) S.used 1 (G.L-(i+1)))):=by
   have e:=aeh 1;rw[D0] at e;rw[<-e];exact Sg
  rw[show al (2*(j:Int))=((2*j:Nat):Int) by rw[bt];omega,show Int.toNat ((2*j:Nat):Int)=2*j by omega,aei DZ (by omega)];refine⟨by omega,⟨b1,0⟩,rfl,by omega,by show(j:Int)+1<=(G.L:Nat);omega,?_⟩;refine vy Sb (D1 mM (aDC n45) (wi tP f50 (D1 tO (aDC n35) (wi kP f50 jZ)))) (q:=⟨b1,0⟩) rfl (i:=j) (by omega) (cT x j) λL4 awv tQ=>?_;have A9:=Sf.trans tP;have aej:∀ {y:Nat},h y=none->y≠aM->y≠bM->y≠b1->g y≠none->L4 y=g y:=λ{y} aC aL aO bh b4=>by
   have tt:=kP.2.1 y b4 (hG aC);have dC:=(tO y aL).trans tt;have sy:=(tP.2.1 y (by rw[dC];exact b4) (hG aC)).trans dC;rw[tQ y bh,mM y aO,sy]
  refine⟨G.L-(i+1),by omega,rfl,rfl,rfl,rfl,rfl,rfl,rfl,rfl,rfl,i+1,by rw[bt];omega,by omega,rfl,?_,?_,D1 tQ n35 (D1 mM n34 (wi tP f30 Se)),D1 tQ n45 Sg,?_,(aej f1 Sc.1 Sc.2.1 Sc.2.2 (by rw[rT,g1];simp)).trans rT,(aej f20 Sd.1 Sd.2.1 Sd.2.2 (by rw[L3,g2];simp)).trans L3⟩
  .have e:S.used+2*(i+1)=S.used+2*i+1+1:=by omega
   rw[e];exact((vZ.loc (hG f40) (wn f40) mM).loc (hG f50) (wn f50) tQ)
  .refine⟨A9.1,λy aC aK=>(tQ y λe=>aC (e▸f50)).trans ((mM y λe=>aC (e▸f40)).trans (A9.2.1 y aC aK)),λy aC=>?_⟩;by_cases fZ:y=b1
   .rw[fZ];exact f50
   .rw[tQ y fZ] at aC;by_cases dQ:y=bM
    .rw[dQ];exact f40
    .rw[mM y dQ] at aC;exact A9.2.2 y aC
  .have e:(λy=>if y=j then cT x j else if G.L-i<=y then cT x y else 0)=λy=>if G.L-(i+1)<=y then cT x y else 0:=by
    funext y;by_cases c:y=j
    .rw[aDr c,eY,c]
    .rw[aDq c];by_cases aY:G.L-i<=y
     .rw[aDr aY,eY]
     .rw[aDq aY,cS]
   rw[<-e];exact awv
 have hi:i=G.L:=by omega
 subst hi;clear dH;rw[Nat.sub_self] at kE hP jZ;let Y:Nat->Prop:=λy=>y=ae∨y=ax∨y=aM∨y=bM∨y=b1;have Aw:∀y,Y y->h y=none:=by rintro y (rfl|rfl|rfl|rfl|rfl)<;>assumption
 have m5:∀y,Y y->g y≠none:=by
  rintro y (rfl|rfl|rfl|rfl|rfl)
  .rw[rT,g1];simp
  .rw[L3,g2];simp
  .exact(kE.bp (q:=⟨_,0⟩) rfl).2
  .exact(hP.bp (q:=⟨_,0⟩) rfl).2
  .exact(jZ.bp (q:=⟨_,0⟩) rfl).2
 have aww:∀y,Y y->¬dh B G.L V y:=λy aC=>hG (Aw y aC);have mw:Y ae:= .inl rfl;have k9:Y ax:= .inr (.inl rfl);have ni:Y aM:= .inr (.inr (.inl rfl));have s0:Y bM:= .inr (.inr (.inr (.inl rfl)));have jk:Y b1:= .inr (.inr (.inr (.inr rfl)));have yV:∀e j,j<G.L->drawn G (wf ws) S.used e 0 j=(G.leaf (wf ws) j (G.bQ S.used j+e),G.bQ S.used j+e):=λe j aU=>by unfold drawn;rw[aDr ⟨aDM _,aU⟩]
 have HG:∀j:Nat,Int.toNat (j:Int)=j:=λj=>by omega
 have rv:∀ {bw:ak},(∀y,Y y->bw y=g y)->∀j,j<G.L->bx bw aM (0+Int.toNat (j:Int)*2)=some (U (G.leaf (wf ws) j (G.bQ S.used j)))/\bx bw aM (0+Int.toNat (j:Int)*2+1)=some (U (G.bQ S.used j)):=λaC j aU=>by
  have:=aef kE aU;rw[yV 0 j aU,aEe] at this;rw[HG,qH (aC aM ni),qH (aC aM ni)];exact this
 have xZ:∀ {bw:ak},(∀y,Y y->bw y=g y)->∀j,j<G.L->bx bw bM (0+Int.toNat (j:Int)*2)=some (U (G.leaf (wf ws) j (G.bQ S.used j+1)))/\bx bw bM (0+Int.toNat (j:Int)*2+1)=some (U ((G.bQ S.used j+1:Nat):Int)):=λaC j aU=>by
  have:=aef hP aU;rw[yV 1 j aU] at this;rw[HG,qH (aC bM s0),qH (aC bM s0)];exact this
 have zV:∀ {bw:ak},(∀y,Y y->bw y=g y)->∀j,j<G.L->bx bw b1 (0+Int.toNat (j:Int)*1)=some (ab (cT x j)):=λaC j aU=>by
  have:=awr jZ aU;rw[aDr (aDM _)] at this;rw[HG,qH (aC b1 jk)];exact this
 have Sh:∀j p,G.leaf (wf ws) j p<1024:=λj p=>yh (w:=wf ws) o j p;have L5:∀j,G.bQ S.used j<1000000000100:=λj=>by unfold cq.bQ;omega
 have Si:al ((G.L:Int)-1)=((G.L-1:Nat):Int):=by rw[bt];omega
 have wK:=(oM o ai (h:=G.L-1)).1;have tD:=BQ o ai;have HH:G.L-1<G.L:=by omega
 have L6:((G.L-1:Nat):Int)+1<=((G.L:Nat):Int):=by omega
 refine⟨some ⟨B.m.b,0⟩,az dJ.top rfl,_,az dJ.top rfl,?_⟩;rw[Si];refine⟨⟨b1,0⟩,rfl,by omega,L6,_,zV (λ_ _=>rfl) _ HH,?_⟩;refine(av1 dJ.mem st.rV (cT x (G.L-1)) (by omega)).mono ?_;rintro _ cC ⟨j6,rfl,D3,jI⟩;rw[wK,aDr (by rw[st.rW];exact tD)];obtain⟨vl,D4⟩:=dJ.vL o D3 jI;obtain⟨L7,aek⟩:=mI D4 m5 aww;have D5:=kt.trans D4;generalize tR:S.R G.f (x/4 ^ (G.L-1))=om;refine⟨om,rfl,bP λdU dT f6 dP jK=>?_⟩;have f60:h dU=none:=D5.2.2 _ f6;refine fN (n:=12) (D5.more jK) f60 dP rfl λcK x_ rS md=>bP λeQ du f7 fa iQ=>?_;have f70:h eQ=none:=x_.2.2 _ f7;have Dy:eQ≠dU:=λe=>by rw[e,rS] at f7;cases f7
 have vY:∀y,cC y≠none->du y=cC y:=λy aC=>by
  have e:cK y=cC y:=by rw[md y λe=>aC (e▸f6),jK y aC]
  rw[iQ y (by rw[e];exact aC),e]
 have ael:cC eQ=none:=by
  cases c:cC eQ with
  | none=>rfl
  | some e7 =>
   have:cK eQ=cC eQ:=by rw[md eQ Dy,jK eQ (by rw[c];simp)]
   rw[f7,c] at this;cases this
 have D6:=vl.bA (af:=du) o vY;have Sj:∀y,Y y->du y=g y:=λy aC=>by rw[vY y (by rw[L7 y aC];exact m5 y aC),L7 y aC]
 refine⟨⟨aM,0⟩,rfl,by omega,L6,_,(rv Sj _ HH).1,Int.NonNeg.mk _,Int.NonNeg.mk _,?_⟩;have aem:∀y,Y y->y≠eQ:=λy aC e=>m5 y aC (by rw[<-L7 y aC,e];exact ael);have aen:¬dh B G.L { V with es:=j6 } eQ:=vl.out o ael;have awx:¬dh B G.L { V with es:=j6 } dU:=vl.out o f6;refine nq (n:=12) (c:=fm) (i:=0) (x_.more iQ) f70 fa (by decide) λds L8 oh tF=>?_;have Sk:∀y,Y y->ds y=g y:=λy aC=>(tF y (aem y aC)).trans (Sj y aC);refine⟨⟨aM,0⟩,rfl,by omega,L6,_,(rv Sk _ HH).2,Int.NonNeg.mk _,Int.NonNeg.mk _,?_⟩;refine nq (n:=12) (i:=1) L8 f70 oh (by decide) λej L9 yW tG=>?_;have L_:∀y,Y y->ej y=g y:=λy aC=>(tG y (aem y aC)).trans (Sk y aC);have w9:=(D6.loc aen (wn f70) tF).loc aen (wn f70) tG;rw[jU (by have:=Sh (G.L-1) (G.bQ S.used (G.L-1));omega),jU (by have:=L5 (G.L-1);omega),aeg,aeo] at yW;have aep:ej dU=_:=((tG dU (aDC Dy)).trans (tF dU (aDC Dy))).trans (iQ.get rS);refine⟨some ⟨B.m.b,0⟩,az w9.top rfl,_,az w9.top rfl,⟨b1,0⟩,rfl,by omega,L6,_,zV L_ _ HH,_,dL yW,?_⟩;have rf:(reads (G.f:Int) (B.m.cx G.f)).length=B.m.cx G.f:=rh _ _;have pf:=R.mem.cx G.f st.rV;refine(adt w9.mem st.rV (cT x (G.L-1)) _ true (by simp only[aDs,rf];omega)).mono ?_;rintro _ eR ⟨d_,rfl,wD,yl⟩;rw[wK,aDr ⟨by rw[st.rW];exact tD,rfl⟩] at wD;obtain⟨tS,yX⟩:=w9.vL o wD yl;have Sl:=yX.get aep awx;obtain⟨Ma,aeq⟩:=mI yX (λy aC=>by rw[L_ y aC];exact m5 y aC) aek;have Ma:∀y,Y y->eR y=g y:=λy aC=>(Ma y aC).trans (L_ y aC);have ye:=L9.trans yX;have tS:h4 G ws B (G.begin (wf ws) (x/4 ^ (G.L-1)) S) _ { V with es:=d_ } eR:=tS;obtain⟨Mb,A_⟩:=Fl o hu (by omega) e2 tD;rw[tR] at A_;have HI:∀ {v p:aE} {o1 j:Nat} {hd:c7},s5 G (wf ws) u0 o1 j hd v p->v.toNat<2 ^ 62:=λ{v p o1 j hd} c=>by
  by_cases b0:v=0
  .rw[b0];decide
  .have:=(c.pc b0).1.val;have:=Sh j p.toNat;omega
 have D7:de G (wf ws) op x S=kl G (wf ws) S.used op x (G.L-1) om[0] om[1] (G.begin (wf ws) (x/4 ^ (G.L-1)) S):=by rw[<-tR];rfl
 generalize hh:de G (wf ws) op x S=F;rw[hh] at D7;have uA:B.m.cx G.f=pw G.m G.L:=st.rW;generalize vm:a8++reads (G.f:Int) (B.m.cx G.f)++writes (G.f:Int) (B.m.cx G.f)=pre at tS;have awy:pre.length<=a8.length+3*4096:=by
  rw[<-vm];simp only[aDs,rf,n6];omega
 have aer:=rT.trans g1;have awz:=L3.trans g2;refine⟨rfl,Int.NonNeg.mk _,Int.NonNeg.mk _,_,fs Sl (i:=0) (by decide),Int.NonNeg.mk _,Int.NonNeg.mk _,_,fs Sl (i:=1) (by decide),?_⟩;refine⟨λfC dm fq iq iW aes aet aeu v p cw bw bW=>fC=⟨B.cO,0⟩/\k=dm/\UInt64.ofNat x=fq/\iq=⟨ae,0⟩/\iW=⟨ax,0⟩/\aes=bz/\aet=bZ/\aeu=cZ/\∃(j:Nat) (hd:c7) (pF:List dk) (Ba:j5),cw=j/\j<G.L/\j=bW/\h4 G ws B hd pF Ba bw/\bT (dh B G.L V) h (dh B G.L Ba) bw/\(∀y,Y y->bw y=g y)/\(∀y,Y y->¬dh B G.L Ba y) /\
  kl G (wf ws) S.used op x j v p hd=F/\lk G (wf ws) u0 (G.bQ S.used j+1) hd/\s5 G (wf ws) u0 (G.bQ S.used j+1) j hd v p/\hd.gone.length=S.gone.length+(G.L-1-j)/\pF=pre++k8 G.m G.s G.t G.L G.f ((hd.gone.drop S.gone.length).map λy=>(y.1:Int)) (G.L-1-j)/\∀y,y<=j->hd.ids y=S.ids y,
  ⟨G.L-1,rfl,rfl,rfl,rfl,rfl,rfl,rfl,rfl,G.L-1,_,_,_,rfl,HH,rfl,tS,ye,Ma,aeq,D7.symm,Mb,A_,by rw[Nat.sub_self];rfl,by simp[k8],λ_ _=>rfl⟩,?_⟩
 clear tS ye Ma aeq Mb A_ D7 Sl yl wD yX w9 D6 vl L9 L8 x_ D5 D3 jI D4 L7 Sj Sk L_ aek aep yW oh rS dJ kt;rintro fC dm fq iq iW aes aet aeu v p cw bw bW ⟨rfl,rfl,rfl,rfl,rfl,rfl,rfl,rfl,j,hd,pF,Ba,rfl,lB,rfl,dJ,kt,qV,aev,u9,Mc,yY,vk,py,aew⟩;have Sm:((j:Nat):Int)+1<=((G.L:Nat):Int):=by omega
 have Sn:=HI yY;have awA:pF.length<100050000000:=by
  have:=Kg fj (G.f:Int) ((hd.gone.drop S.gone.length).map λy=>(y.1:Int)) (G.L-1-j);rw[py,aDs];omega
 have wz:=oM o ai (h:=j);have lvl:=dJ.oD.len;simp only[aDF,aDL] at lvl;have Md:∀ {g2:ak} {fF:c7} {fe:List dk} {ff:j5},h4 G ws B fF fe ff g2->∀ {p1:aF},B.bV.q=some p1->bx g2 p1.b (p1.o+j)=some (bm ⟨B.bf j,0⟩):=λ{_ _ _ _} df {p1} tT=>by
  obtain⟨aCX,aex,qx⟩:=df.oD.at (i:=j) (by simp;omega);rw[tT] at aex;cases aex;rw[qx];simp
 obtain⟨p1,tT,_⟩:=dJ.oD.at (i:=j) (by simp;omega);have aey:∀ {g2:ak} {fF:c7} {fe:List dk} {ff:j5},h4 G ws B fF fe ff g2->∀q,(ff.is j).q=some q->q.b≠B.bf j/\¬bS B.m ff.es q.b:=λdf q aj=>⟨λe=>(by cases df.jO (.is j) (.bf j) _ ⟨lB,q,aj,rfl⟩ ⟨lB,e⟩),df.j1 (.is j) _ ⟨lB,q,aj,rfl⟩⟩;obtain⟨hc,Bb⟩:=xJ o hu (by omega) Mc yY (by rw[vk,dd]);have aez:∀ {g2:ak},h4 G ws B hd pF Ba g2->aq 69 [bm ⟨B.cO,0⟩,ab v,ab p,.agg #[U (G.leaf (wf ws) j (G.bQ S.used j+1)),U ((G.bQ S.used j+1:Nat):Int)]] g2 λr af=>∃cQ,r=U (gd v p (G.leaf (wf ws) j (G.bQ S.used j+1),G.bQ S.used j+1)).1/\h4 G ws B { hd with gone:=hd.gone++[gd v p (G.leaf (wf ws) j (G.bQ S.used j+1),G.bQ S.used j+1)] } pF cQ af/\bT (dh B G.L Ba) g2 (dh B G.L cQ) af:=λdf =>
  awf o df Sn (λb0=>by have:=(yY.pc b0).1.lt;have:=L5 j;omega) (sp:=(G.leaf (wf ws) j (G.bQ S.used j+1),G.bQ S.used j+1)) (by omega)
 generalize HJ:gd v p (G.leaf (wf ws) j (G.bQ S.used j+1),G.bQ S.used j+1)=aw at *;have Lq:(hd.ids j).length<1000000000000:=by rw[aew j (aDt _)];exact LJ j
 refine cj (λqB=>?_) λqB=>?_
 .obtain⟨c6,rfl⟩:∃c6,j=c6+1:=⟨j-1,by omega⟩;have So:al (((c6+1:Nat):Int)-1)=(c6:Nat):=by rw[bt];omega
  rw[So];have Sp:((c6:Nat):Int)+1<=((G.L:Nat):Int):=by omega
  refine⟨⟨b1,0⟩,rfl,by omega,Sp,_,zV qV c6 (by omega),by decide,bP λfS sF f8 fO tU=>?_⟩;have f80:h fS=none:=kt.2.2 _ f8;have Me:¬dh B G.L Ba fS:=dJ.out o f8;have aeA:∀y,Y y->y≠fS:=λy aC e=>m5 y aC (by rw[<-qV y aC,e];exact f8);have Mf:∀y,Y y->sF y=g y:=λy aC=>(tU y (by rw[qV y aC];exact m5 y aC)).trans (qV y aC);refine⟨⟨aM,0⟩,rfl,by omega,Sp,_,(rv Mf c6 (by omega)).1,Int.NonNeg.mk _,Int.NonNeg.mk _,?_⟩;refine nq (n:=8) (c:=j7) (i:=0) (kt.more tU) f80 fO (by decide) λL4 Sq awB tQ=>?_;have aeB:∀y,Y y->L4 y=g y:=λy aC=>(tQ y (aeA y aC)).trans (Mf y aC);refine⟨⟨aM,0⟩,rfl,by omega,Sp,_,(rv aeB c6 (by omega)).2,Int.NonNeg.mk _,Int.NonNeg.mk _,?_⟩;refine nq (n:=8) (i:=1) Sq f80 awB (by decide) λD8 HK Mg HL=>?_;have D9:∀y,Y y->D8 y=g y:=λy aC=>(HL y (aeA y aC)).trans (aeB y aC);have yZ:=((dJ.bA o tU).loc Me (wn f80) tQ).loc Me (wn f80) HL;rw[jU (by have:=Sh c6 (G.bQ S.used c6);omega),jU (by have:=L5 c6;omega),aeg] at Mg;refine⟨_,az yZ.top rfl,p1,tT,by omega,by omega,some ⟨B.bf (c6+1),0⟩,by rw[HG,aEV];exact Md yZ tT,⟨b1,0⟩,rfl,by omega,Sm,_,zV D9 _ lB,_,dL Mg,⟨bM,0⟩,rfl,by omega,Sm,_,(xZ D9 _ lB).1,_,(xZ D9 _ lB).2,⟨aM,0⟩,rfl,by omega,Sm,_,(rv D9 _ lB).1,?_⟩;refine(aez yZ).mono ?_;rintro _ qd ⟨HM,rfl,js,kP⟩;obtain⟨qe,Sr⟩:=mI kP (λy aC=>by rw[D9 y aC];exact m5 y aC) aev;have qe:∀y,Y y->qd y=g y:=λy aC=>(qe y aC).trans (D9 y aC);have awC:=kP.get Mg Me;have aCY:=kP.out (by rw[Mg];simp) Me;have Ss:=HK.trans kP;refine⟨_,rfl,⟨(rv qe _ lB).1,trivial⟩,dL awC,⟨zV qe _ lB,trivial⟩,⟨by rw[HG,aEV];exact Md js tT,trivial⟩,⟨az js.top rfl,trivial⟩,?_⟩;have pg:=(oM o ai (h:=c6)).1;generalize aj:x/4 ^ c6%4=jB;have nL:jB<4:=by rw[<-aj];exact aEk _ (by decide)
  have St:al (2*al ((cT x c6%4).toNat:Int))=((2*jB:Nat):Int):=by
   have aH:(cT x c6%4).toNat=jB:=by
    rw[aFo,pg,<-aj];rfl
   rw[aH,bt (n:=(jB:Int)),bt];omega
  have Su:al (((2*jB:Nat):Int)+1)=((2*jB+1:Nat):Int):=by rw[bt];omega
  rw[St,Su];refine(acP (o.gS (c6+1)) (st.pQ (c6+1) lB) js.mem (js.gS (c6+1) lB) (js.ids (c6+1) lB) (js.j1 (.bf (c6+1)) _ ⟨lB,rfl⟩) (aey js) Lq (aw:=aw.1) (to:=G.leaf (wf ws) (c6+1) (G.bQ S.used (c6+1))) hc (G.pN _ (c6+1) _) (bi:=cT x (c6+1)) wz.2 (Bb.mQ (c6+1) lB)
   (op:= .part (2*jB) (UInt64.ofNat (G.leaf (wf ws) c6 (G.bQ S.used c6)+1)) (UInt64.ofNat (G.bQ S.used c6))) ⟨rfl,rfl,by omega,by simp,by simp⟩ (by omega)).mono ?_
  rintro _ D_ ⟨aeC,aCZ,rfl,Sv,Sw,awD,Sx,awE,awF,Sy⟩;obtain⟨HN,w_⟩:=js.HC o (i:=c6+1) lB Sv Sw awD Sx awE awF Sy;obtain⟨HO,awG⟩:=mI w_ (λy aC=>by rw[qe y aC];exact m5 y aC) Sr;have HO:∀y,Y y->D_ y=g y:=λy aC=>(HO y aC).trans (qe y aC);have HP:=Ss.trans w_;obtain⟨Sz,Ea⟩:=Fk o (u0:=u0) (u:=S.used) (h:=c6) (q1:=jB) (by omega) nL (by have:=L5 c6;omega) hu Bb (id:=cT x (c6+1)) wz.2 hc (G.pN (wf ws) (c6+1) (G.bQ S.used (c6+1)));refine⟨_,_,rfl,bP λiR awH f9 gm Eb=>?_⟩;have f90:h iR=none:=HP.2.2 _ f9;have awI:=HN.out o f9;have awJ:∀y,Y y->y≠iR:=λy aC e=>m5 y aC (by rw[<-HO y aC,e];exact f9);refine fN (n:=8) (HP.more Eb) f90 gm rfl λaeD SA aeE Mh=>?_;rw[xa _ (by omega),xa _ (by omega)] at Ea;refine⟨by omega,by omega,_,by rw[show 0+Int.toNat ((2*jB:Nat):Int)*1=2*jB by omega];exact fs aeE (by omega),by omega,by omega,_,by rw[show 0+Int.toNat ((2*jB+1:Nat):Int)*1=2*jB+1 by omega];exact fs aeE (by omega),?_⟩;refine⟨c6,by omega,rfl,rfl,rfl,rfl,rfl,rfl,rfl,rfl,c6,G.acc (c6+1) (.part (2*jB) (UInt64.ofNat (G.leaf (wf ws) c6 (G.bQ S.used c6)+1)) (UInt64.ofNat (G.bQ S.used c6))) (cT x (c6+1)) aw.1 (G.leaf (wf ws) (c6+1) (G.bQ S.used (c6+1))) { hd with gone:=hd.gone++[aw] },pF++k7 (G.ew (c6+1)).k (G.ew (c6+1)).s (G.ew (c6+1)).t (G.base (c6+1)) aw.1,_,rfl,by omega,rfl,(HN.bA o Eb).loc awI (wn f90) Mh,SA,λy aC=>(Mh y (awJ y aC)).trans ((Eb y (by rw[HO y aC];exact m5 y aC)).trans (HO y aC)),awG,?_,Sz,Ea,?_,?_,λy aC=>?_⟩
  .rw[<-xa _ (show 2*jB<8 by omega),<-xa _ (show 2*jB+1<8 by omega),<-u9,<-HJ,<-aj];rfl
  .show(hd.gone++[aw]).length=_;rw[aDs,vk];simp;omega
  .rw[py,Mi (j:=c6+1) vk (by omega),show G.L-1-c6=G.L-1-(c6+1)+1 by omega];rfl
  .show(if y=c6+1 then _ else hd.ids y)=_
   rw[cS];exact aew y (by omega)
 .have wc:j=0:=by omega
  subst wc;have SB:UInt64.ofNat x=cT x 0:=by unfold cT;simp
  have aeF:(1:Int)<=((G.L:Nat):Int):=by omega
  refine⟨_,az dJ.top rfl,p1,tT,Int.NonNeg.mk _,by omega,some ⟨B.bf 0,0⟩,Md dJ tT,d,dL ((qV ae mw).trans aer),⟨bM,0⟩,rfl,Int.NonNeg.mk _,aeF,_,(xZ qV 0 lB).1,_,(xZ qV 0 lB).2,⟨aM,0⟩,rfl,Int.NonNeg.mk _,aeF,_,(rv qV 0 lB).1,?_⟩;refine(aez dJ).mono ?_;rintro _ qd ⟨HM,rfl,js,kP⟩;obtain⟨qe,Sr⟩:=mI kP (λy aC=>by rw[qV y aC];exact m5 y aC) aev;have qe:∀y,Y y->qd y=g y:=λy aC=>(qe y aC).trans (qV y aC);have Ss:=kt.trans kP;refine⟨_,rfl,⟨(rv qe 0 lB).1,trivial⟩,dL ((qe ae mw).trans aer),⟨Md js tT,trivial⟩,⟨az js.top rfl,trivial⟩,?_⟩;rw[SB];refine(acP (o.gS 0) (st.pQ 0 lB) js.mem (js.gS 0 lB) (js.ids 0 lB) (js.j1 (.bf 0) _ ⟨lB,rfl⟩) (aey js) Lq (aw:=aw.1) (to:=G.leaf (wf ws) 0 (G.bQ S.used 0)) hc (G.pN _ 0 _) (bi:=cT x 0) wz.2 (Bb.mQ 0 lB) fV (by omega)).mono ?_;rintro _ pE ⟨aeG,aC0,rfl,SC,SD,awK,SE,awL,awM,SF⟩;obtain⟨qq,Bc⟩:=js.HC o (i:=0) lB SC SD awK SE awL awM SF;obtain⟨Bd,awN⟩:=mI Bc (λy aC=>by rw[qe y aC];exact m5 y aC) Sr;have Bd:∀y,Y y->pE y=g y:=λy aC=>(Bd y aC).trans (qe y aC);have SG:F=(G.acc 0 op (cT x 0) aw.1 (G.leaf (wf ws) 0 (G.bQ S.used 0)) { hd with gone:=hd.gone++[aw] },G.old 0 (cT x 0) aw.1 { hd with gone:=hd.gone++[aw] }):=by rw[<-u9,<-HJ];rfl
  subst SG;refine⟨_,_,rfl,fN (n:=8) (Ss.trans Bc) f20 ((Bd ax k9).trans awz) rfl λsy A9 SH HQ=>⟨_,dL SH,pF++k7 (G.ew 0).k (G.ew 0).s (G.ew 0).t (G.base 0) aw.1,_,rfl,qq.loc (awN ax k9) (wn f20) HQ,A9,?_⟩⟩;rw[py,Mi (j:=0) vk (by omega),<-vm,uA,show G.L-1-0+1=G.L by omega];unfold oH;simp only[aDD];rfl
end

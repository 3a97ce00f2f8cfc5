import Derived.Test.YtegdpmgnhnccaaaGreatRefA
import Derived.Test.YtegdpmgnhnccaaaGreatStoL
namespace Go.Proofs.Tryz
open Go Go.cQ Go.RowKit
set_option maxRecDepth 8000
set_option maxHeartbeats 1000000
structure p_ where
 cm:Nat
 tb:Nat
 bS:an
 aV:Nat->Nat
 hN:Nat->TypeId
 mN:TypeId
 qp:TypeId
 cw:TypeId
 m:jo
 dG:an
structure mc where
 es:an
 dX:an
 le:an
 is:Nat->an
inductive GD where
 | cm
 | tb
 | bS
 | dX
 | le
 | aV (i:Nat)
 | is (i:Nat)
 deriving DecidableEq
def eK (B:p_)(L:Nat)(V:mc):GD->Nat->Prop
 | .cm,x=>x=B.cm
 | .tb,x=>x=B.tb
 | .bS,x=>∃q,B.bS.q=some q/\x=q.b
 | .dX,x=>∃q,V.dX.q=some q/\x=q.b
 | .le,x=>∃q,V.le.q=some q/\x=q.b
 | .aV i,x=>i<L/\x=B.aV i
 | .is i,x=>i<L/\∃q,(V.is i).q=some q/\x=q.b
def fA (B:p_)(L:Nat)(V:mc):Nat->Prop:=λx=>bA B.m V.es x∨∃p,eK B L V p x
def xF (l:List (Nat×Nat)):List Int:=l.map λy=>(y.2:Int)
def vE (l:List (Nat×Nat)):List Int:=l.map λy=>(y.1:Int)
abbrev C0 (G:c2)(B:p_)(dX le:an):Array Value:=#[bu ⟨B.m.b,0⟩,U G.f,U (2 ^ G.m),U G.s,U G.t,U G.L,bu ⟨B.tb,0⟩,aU B.bS,aU dX,aU le]
structure fY (G:c2)(ws:List a8)(B:p_)(S:fj)(a_:List dt)(V:mc)(h:ai):Prop where
 top:h B.cm=dB (C0 G B V.dX V.le) B.qp
 mem:cN B.mN B.m S.R a_ V.es h
 kX:h B.tb=some (.cells #[aU B.dG,U S.used] B.cw (0,0))
 vD:ey ak h B.dG ws
 jE:ey (λb:Nat=>bu ⟨b,0⟩) h B.bS ((List.range G.L).map B.aV)
 fu:∀i,i<G.L->h (B.aV i)=dB (oC (G.dP i) B.m.b (G.base i) (S.over i) (V.is i)) (B.hN i)
 ids:∀i,i<G.L->b9 ak kf h (V.is i) (S.ids i)
 wQ:b9 dg kf h V.dX (xF S.gone)
 wR:b9 dg kf h V.le (vE S.gone)
 h_:∀p dF x,eK B G.L V p x->eK B G.L V dF x->p=dF
 ik:∀p x,eK B G.L V p x->¬bA B.m V.es x
 jv:∀q,B.dG.q=some q->0<ws.length->h q.b≠none/\¬fA B G.L V q.b
structure I5 (G:c2)(B:p_):Prop where
 nB:∀i,i<G.L->oR B.m (G.dP i) (G.base i)
 pD:G.f<B.m.ep
 pE:B.m.cq G.f=G.top
section
variable {G:c2} {ws:List a8} {B:p_} {S:fj} {a_:List dt} {V:mc} {h ag:ai}
theorem fY.dv (R:fY G ws B S a_ V h)(o:G.dk){p:GD}{x:Nat}(af:eK B G.L V p x):h x≠none:=by
 cases p with
 | cm=>rw[show x=B.cm from af,R.top];simp
 | tb=>rw[show x=B.tb from af,R.kX];simp
 | bS=>obtain⟨q,ah,rfl⟩:=af;exact R.jE.there ah (by have:=o.L;simp;omega)
 | dX=>obtain⟨q,ah,rfl⟩:=af;exact(R.wQ.b_ ah).2
 | le=>obtain⟨q,ah,rfl⟩:=af;exact(R.wR.b_ ah).2
 | aV i=>rw[af.2,R.fu i af.1];simp
 | is i=>obtain⟨hi,q,ah,rfl⟩:=af;exact((R.ids i hi).b_ ah).2
theorem fY.jM (R:fY G ws B S a_ V h)(o:G.dk){x:Nat}(af:fA B G.L V x):h x≠none:=af.elim R.mem.dv fun⟨_,aM⟩=>R.dv o aM
theorem fY.out (R:fY G ws B S a_ V h)(o:G.dk){x:Nat}(af:h x=none):¬fA B G.L V x:=λbf=>R.jM o bf af
theorem fY.same (R:fY G ws B S a_ V h)(aR:∀x,fA B G.L V x->ag x=h x)(hw:∀q,B.dG.q=some q->0<ws.length->ag q.b=h q.b):fY G ws B S a_ V ag:=by
 have aM:∀p x,eK B G.L V p x->ag x=h x:=λp x af=>aR x (.inr ⟨p,af⟩);exact⟨by rw[aM .cm _ rfl];exact R.top,R.mem.move λx af=>aR x (.inl af),by rw[aM .tb _ rfl];exact R.kX,R.vD.move hw,R.jE.move λq ah _=>aM .bS _ ⟨q,ah,rfl⟩,λi hi=>by rw[aM (.aV i) _ ⟨hi,rfl⟩];exact R.fu i hi,
  λi hi=>(R.ids i hi).move λq ah=>aM (.is i) _ ⟨hi,q,ah,rfl⟩,R.wQ.move λq ah=>aM .dX _ ⟨q,ah,rfl⟩,R.wR.move λq ah=>aM .le _ ⟨q,ah,rfl⟩,R.h_,R.ik,λq ah aO=>⟨by rw[hw q ah aO];exact(R.jv q ah aO).1,(R.jv q ah aO).2⟩⟩
theorem fY.bE (R:fY G ws B S a_ V h)(o:G.dk)(k:bB h ag):fY G ws B S a_ V ag:=R.same (λx af=>k x (R.jM o af)) λq ah aO=>k _ (R.jv q ah aO).1
theorem fY.loc (R:fY G ws B S a_ V h){b:Nat}(au:¬fA B G.L V b)(hw:∀q,B.dG.q=some q->0<ws.length->q.b≠b)(aR:∀y,y≠b->ag y=h y):fY G ws B S a_ V ag:=R.same (λx af=>aR x λe=>au (e▸af)) λq ah aO=>aR _ (hw q ah aO)
theorem fY.C1 (R:fY G ws B S a_ V h)(o:G.dk){e1:dw}{eJ:List dt}{bb:an}(M:cN B.mN B.m e1 eJ bb ag)(v:cn (bA B.m V.es) h (bA B.m bb) ag):fY G ws B { S with R:=e1 } eJ { V with es:=bb } ag/\cn (fA B G.L V) h (fA B G.L { V with es:=bb }) ag:=by
 have at_:∀p x,eK B G.L { V with es:=bb } p x↔eK B G.L V p x:=λp x=>by cases p<;>exact atJ
 have aM:∀p x,eK B G.L V p x->ag x=h x:=λp x af=>v.2.1 x (R.dv o af) (R.ik p x af);have hw:∀q,B.dG.q=some q->0<ws.length->ag q.b=h q.b:=λq ah aO=>v.2.1 _ (R.jv q ah aO).1 λhm=>(R.jv q ah aO).2 (.inl hm);refine⟨⟨by rw[aM .cm _ rfl];exact R.top,M,by rw[aM .tb _ rfl];exact R.kX,R.vD.move hw,R.jE.move λq ah _=>aM .bS _ ⟨q,ah,rfl⟩,λi hi=>by rw[aM (.aV i) _ ⟨hi,rfl⟩];exact R.fu i hi,
  λi hi=>(R.ids i hi).move λq ah=>aM (.is i) _ ⟨hi,q,ah,rfl⟩,R.wQ.move λq ah=>aM .dX _ ⟨q,ah,rfl⟩,R.wR.move λq ah=>aM .le _ ⟨q,ah,rfl⟩,λp dF x aa ad=>R.h_ p dF x ((at_ p x).1 aa) ((at_ dF x).1 ad),λp x af=>v.out (R.dv o ((at_ p x).1 af)) (R.ik p x ((at_ p x).1 af)),λq ah aO=>⟨by rw[hw q ah aO];exact(R.jv q ah aO).1,?_⟩⟩,?_⟩
 .rintro (hm|⟨p,af⟩)
  .exact v.out (R.jv q ah aO).1 (λhm=>(R.jv q ah aO).2 (.inl hm)) hm
  .exact(R.jv q ah aO).2 (.inr ⟨p,(at_ p _).1 af⟩)
 .refine(mS (B:=λx=>∃p,eK B G.L V p x) v).to λx af=> .inl (af.imp id fun⟨p,aM⟩=>⟨p,(at_ p x).1 aM⟩)
theorem WL {eL:mc}{p0:GD}(h_:∀p dF x,eK B G.L V p x->eK B G.L V dF x->p=dF)(dv:∀p x,eK B G.L V p x->h x≠none)(aR:∀p,p≠p0->∀x,eK B G.L eL p x->eK B G.L V p x)(aH:∀x,eK B G.L eL p0 x->eK B G.L V p0 x∨h x=none):∀p dF x,eK B G.L eL p x->eK B G.L eL dF x->p=dF:=by
 intro p dF x aa ad;by_cases c:p=p0<;>by_cases b8:dF=p0
 .rw[c,b8]
 .subst c;have qZ:=aR dF b8 x ad;rcases aH x aa with h|h
  .exact h_ _ _ x h qZ
  .exact absurd h (dv _ _ qZ)
 .subst b8;have qO:=aR p c x aa;rcases aH x ad with h|h
  .exact h_ _ _ x qO h
  .exact absurd h (dv _ _ qO)
 .exact h_ _ _ x (aR p c x aa) (aR dF b8 x ad)
theorem fY.GF (R:fY G ws B S a_ V h)(o:G.dk){eL:mc}{p0:GD}(aR:∀p,p≠p0->∀x,eK B G.L eL p x->eK B G.L V p x)(aH:∀x,eK B G.L eL p0 x->eK B G.L V p0 x∨h x=none):∀p dF x,eK B G.L eL p x->eK B G.L eL dF x->p=dF:=WL R.h_ (λ_ _ af=>R.dv o af) aR aH
theorem fY.C2 (R:fY G ws B S a_ V h)(o:G.dk){i:Nat}(hi:i<G.L){e1:dw}{eJ:List dt}{bb dM:an}{dV:Bool}{ids:List a8}(M:cN B.mN B.m e1 eJ bb ag)
 (aO:ag (B.aV i)=dB (oC (G.dP i) B.m.b (G.base i) dV dM) (B.hN i)) (hm:b9 ak kf ag dM ids) (nl:¬bA B.m bb (B.aV i)) (Ag:∀q,dM.q=some q->q.b≠B.aV i/\¬bA B.m bb q.b) (alU:∀q,dM.q=some q->(∃p,(V.is i).q=some p/\q.b=p.b)∨h q.b=none)
 (v:cn (λx=>bA B.m V.es x∨qk (B.aV i) (V.is i) x) h (λx=>bA B.m bb x∨qk (B.aV i) dM x) ag) :
 fY G ws B { S with R:=e1,over:=λx=>if x=i then dV else S.over x,ids:=λx=>if x=i then ids else S.ids x } eJ { V with es:=bb,is:=λx=>if x=i then dM else V.is x } ag/\cn (fA B G.L V) h (fA B G.L { V with es:=bb,is:=λx=>if x=i then dM else V.is x }) ag:=by
 obtain⟨eL,h3⟩:∃eL,eL={ V with es:=bb,is:=λx=>if x=i then dM else V.is x }:=⟨_,rfl⟩;have GG:eL.is i=dM:=by rw[h3];exact as8 rfl
 have LZ:∀j,j≠i->eL.is j=V.is j:=λj aL=>by rw[h3];exact as7 aL
 have at_:∀p,p≠.is i->∀x,eK B G.L eL p x↔eK B G.L V p x:=λp aM x=>by
  cases p with
  | is j =>
   have aL:j≠i:=λe=>aM (by rw[e]);show(j<G.L/\∃q,(eL.is j).q=some q/\x=q.b)↔_;rw[LZ j aL];exact atJ
  | _=>rw[h3];exact atJ
 have aH:∀p x,eK B G.L V p x->p≠.aV i->p≠.is i->¬(bA B.m V.es x∨qk (B.aV i) (V.is i) x):=λp x af aa ad h=>by
  rcases h with h|h|⟨q,ah,h⟩
  .exact R.ik p x af h
  .exact aa (R.h_ p (.aV i) x af ⟨hi,h⟩)
  .exact ad (R.h_ p (.is i) x af ⟨hi,q,ah,h⟩)
 have aM:∀p x,eK B G.L V p x->p≠.aV i->p≠.is i->ag x=h x:=λp x af aa ad=>v.2.1 x (R.dv o af) (aH p x af aa ad);have WM:∀q,B.dG.q=some q->0<ws.length->¬(bA B.m V.es q.b∨qk (B.aV i) (V.is i) q.b):=λq ah aO h=>(R.jv q ah aO).2 (by
  rcases h with h|h|⟨df,ek,h⟩
  .exact .inl h
  .exact .inr ⟨.aV i,hi,h⟩
  .exact .inr ⟨.is i,hi,df,ek,h⟩)
 have hw:∀q,B.dG.q=some q->0<ws.length->ag q.b=h q.b:=λq ah aO=>v.2.1 _ (R.jv q ah aO).1 (WM q ah aO);have L0:∀x,eK B G.L eL (.is i) x->eK B G.L V (.is i) x∨h x=none:=λx ⟨_,q,ah,e⟩=>by
  rw[GG] at ah;rcases alU q ah with ⟨p,aM,ch⟩|af
  .exact .inl ⟨hi,p,aM,e.trans ch⟩
  .exact .inr (e▸af)
 have GH:eL.es=bb:=by rw[h3]
 have II:eL.dX=V.dX:=by rw[h3]
 have hle:eL.le=V.le:=by rw[h3]
 rw[<-h3];refine⟨⟨by rw[aM .cm _ rfl (by simp) (by simp),II,hle];exact R.top,by rw[GH];exact M,by rw[aM .tb _ rfl (by simp) (by simp)];exact R.kX,R.vD.move hw,R.jE.move λq ah _=>aM .bS _ ⟨q,ah,rfl⟩ (by simp) (by simp),λj aL=>?_,λj aL=>?_,by rw[II];exact R.wQ.move λq ah=>aM .dX _ ⟨q,ah,rfl⟩ (by simp) (by simp),by rw[hle];exact R.wR.move λq ah=>aM .le _ ⟨q,ah,rfl⟩ (by simp) (by simp),
  R.GF o (λp aM x=>(at_ p aM x).1) L0,λp x af=>?_,λq ah aO=>⟨by rw[hw q ah aO];exact(R.jv q ah aO).1,λbf=>?_⟩⟩,?_⟩
 .show ag (B.aV j)=dB (oC (G.dP j) B.m.b (G.base j) (if j=i then dV else S.over j) (eL.is j)) (B.hN j);by_cases c:j=i
  .subst c;rw[as8 rfl,GG];exact aO
  .rw[as7 c,LZ j c,aM (.aV j) _ ⟨aL,rfl⟩ (by simpa using c) (by simp)];exact R.fu j aL
 .show b9 ak kf ag (eL.is j) (if j=i then ids else S.ids j);by_cases c:j=i
  .subst c;rw[as8 rfl,GG];exact hm
  .rw[as7 c,LZ j c];exact(R.ids j aL).move λq ah=>aM (.is j) _ ⟨aL,q,ah,rfl⟩ (by simp) (by simpa using c)
 .rw[GH];by_cases aZ:p= .is i
  .subst aZ;obtain⟨_,q,ah,rfl⟩:=af;rw[GG] at ah;exact(Ag q ah).2
  .have af:=(at_ p aZ x).1 af;by_cases aX:p= .aV i
   .subst aX;rw[af.2];exact nl
   .exact λh=>v.out (R.dv o af) (aH p x af aX aZ) (.inl h)
 .have bK:=(R.jv q ah aO).1;rcases bf with xG|⟨p,af⟩
  .rw[GH] at xG;exact v.out bK (WM q ah aO) (.inl xG)
  .by_cases aZ:p= .is i
   .subst aZ;rcases L0 _ af with h|h
    .exact(R.jv q ah aO).2 (.inr ⟨_,h⟩)
    .exact bK h
   .exact(R.jv q ah aO).2 (.inr ⟨p,(at_ p aZ _).1 af⟩)
 .refine⟨λx af=>?_,λx af ph=>v.2.1 x af λh=>ph ?_,v.2.2⟩
  .rcases af with xG|⟨p,af⟩
   .rw[GH] at xG;rcases v.1 x (.inl xG) with (h|h|⟨q,ah,h⟩)|h
    .exact .inl (.inl h)
    .exact .inl (.inr ⟨.aV i,hi,h⟩)
    .exact .inl (.inr ⟨.is i,hi,q,ah,h⟩)
    .exact .inr h
   .by_cases aZ:p= .is i
    .subst aZ;exact(L0 x af).imp (λh=> .inr ⟨_,h⟩) id
    .exact .inl (.inr ⟨p,(at_ p aZ x).1 af⟩)
  .rcases h with h|h|⟨q,ah,h⟩
   .exact .inl h
   .exact .inr ⟨.aV i,hi,h⟩
   .exact .inr ⟨.is i,hi,q,ah,h⟩
theorem alV (R:fY G ws B S a_ V h)(o:G.dk)(hu:S.used<2 ^ 62) :
 aw 120 [bu ⟨B.tb,0⟩] h λv ag=>v= .tuple #[ak (ws.getD S.used 0),U S.used]/\fY G ws B { S with used:=S.used+1 } a_ V ag/\cn (fA B G.L V) h (fA B G.L V) ag:=by
 refine aiK _ ?_;unfold U3;refine⟨_,aF R.kX rfl,_,aF R.kX rfl,_,_,R.kX,by simp,?_⟩;obtain⟨ad,bT⟩:∃ad,ad=bD h B.tb (.cells (hg #[aU B.dG,U S.used] (0+1) [U (al ((S.used:Int)+1))]) B.cw (0,0)):=⟨_,rfl⟩;have a7:ad B.tb=some (.cells #[aU B.dG,U (S.used+1:Nat)] B.cw (0,0)):=by rw[bT,ea,bl];rfl
 have cU:∀y,y≠B.tb->ad y=h y:=λy aA=>by rw[bT];exact cJ _ _ aA
 rw[<-bT];have vx:∀p x,eK B G.L V p x->p≠.tb->ad x=h x:=λp x af aM=>cU x λe=>aM (R.h_ p .tb x af e);have zY:∀q,B.dG.q=some q->0<ws.length->ad q.b=h q.b:=λq ah aO=>cU _ λe=>(R.jv q ah aO).2 (.inr ⟨.tb,e⟩);have fa:fY G ws B { S with used:=S.used+1 } a_ V ad:=⟨by rw[vx .cm _ rfl (by simp)];exact R.top,R.mem.move λx af=>cU x λe=>R.ik .tb x e af,a7,R.vD.move zY,R.jE.move λq ah _=>vx .bS _ ⟨q,ah,rfl⟩ (by simp),λi hi=>by rw[vx (.aV i) _ ⟨hi,rfl⟩ (by simp)];exact R.fu i hi,
  λi hi=>(R.ids i hi).move λq ah=>vx (.is i) _ ⟨hi,q,ah,rfl⟩ (by simp),R.wQ.move λq ah=>vx .dX _ ⟨q,ah,rfl⟩ (by simp),R.wR.move λq ah=>vx .le _ ⟨q,ah,rfl⟩ (by simp),R.h_,R.ik,λq ah aO=>⟨by rw[zY q ah aO];exact(R.jv q ah aO).1,(R.jv q ah aO).2⟩⟩
 have o6:cn (fA B G.L V) h (fA B G.L V) ad:=⟨λx af=> .inl af,λx af aH=>cU x λe=>aH (.inr ⟨.tb,e⟩),λx af=>by
  by_cases e:x=B.tb
  .rw[e,a7] at af;cases af
  .rw[cU x e] at af;exact af⟩
 have aO:=R.vD.len;refine⟨_,aF a7 rfl,b6 (λb1=>?_) λc3=>?_⟩
 .have z6:S.used<ws.length:=by omega
  refine⟨_,aF a7 rfl,fa.vD.e0 z6 λq _ c=>⟨_,c,?_,fa,o6⟩⟩;simp[List.getD,z6]
 .refine⟨?_,fa,o6⟩;have:ws.getD S.used 0=0:=by simp[List.getD,auM (show ws.length<=S.used by omega)]
  rw[this]
theorem WN (o:G.dk)(R:fY G ws B S a_ V h){i:Nat}(hi:i<4)(hu:S.used<2 ^ 62) :
 aw 65 [bu ⟨B.cm,0⟩,U i] h λv ag=>v= .agg #[U (G.leaf (wf ws) i S.used),U S.used]/\fY G ws B { S with used:=S.used+1 } a_ V ag/\cn (fA B G.L V) h (fA B G.L V) ag:=by
 have dX:=o.st;refine ahS _ _ ?_;unfold UK;refine bL λaj aa f1 aC aE=>⟨some ⟨B.tb,0⟩,aE.cell (aF R.top rfl),?_⟩;refine(alV (R.bE o aE) o hu).mono ?_;rintro _ ad ⟨rfl,fa,v2⟩;refine⟨_,_,rfl,_,aF fa.top rfl,_,aF fa.top rfl,_,aF fa.top rfl,_,aF fa.top rfl,?_⟩;refine(GC dX i (by omega)).to λaq aD=>⟨_,rfl,?_⟩;have ab:G.m-2*i<=10:=by have:=o.m;omega
 have alW:1<=2 ^ (G.m-2*i):=auJ;have BB:2 ^ (G.m-2*i)<=2 ^ 10:=atg (by decide) ab;have L1:(2:Int) ^ (G.m-2*i)=((2 ^ (G.m-2*i):Nat):Int):=by simp
 rw[L1,jr (by omega)];have C3:(UInt64.ofNat (2 ^ (G.m-2*i))).toNat=2 ^ (G.m-2*i):=by rw[ate];omega
 have em:((ws.getD S.used 0)%UInt64.ofNat (2 ^ (G.m-2*i))).toNat=G.leaf (wf ws) i S.used:=by
  rw[au9,C3];rfl
 have vB:G.leaf (wf ws) i S.used<1024:=u7 o i S.used;have gR:¬fA B G.L V aj:=R.out o f1;have m_:=v2.get aC gR;refine⟨λe=>by have:=congrArg UInt64.toNat e;rw[C3] at this;simp at this,?_⟩;rw[em,bl];have lN:=((iC aE (fA B G.L V)).trans v2).more aD;refine qe lN f1 (aD.get m_) rfl λaJ o8 b5 ez=>⟨_,aF b5 rfl,_,aF b5 rfl,rfl,?_,o8⟩;exact(fa.bE o aD).loc gR (λq ah aO e=>(R.jv q ah aO).1 (e▸f1)) ez
theorem alX (o:G.dk)(R:fY G ws B S a_ V h){v p:a8}(bH:v.toNat<2 ^ 62)(aM:v≠0->p.toNat<2 ^ 62){sp:Nat×Nat}(cR:S.gone.length<1000000000000) :
 aw 69 [bu ⟨B.cm,0⟩,ak v,ak p,.agg #[U sp.1,U sp.2]] h λr ag=>∃eL,r=U (fD v p sp).1/\fY G ws B { S with gone:=S.gone++[fD v p sp] } a_ eL ag/\cn (fA B G.L V) h (fA B G.L eL) ag:=by
 have note:∀(g:ai) (ao:Nat×Nat) (t1 t2:TypeId) (w5 L2:ai->(Int->Prop)->Prop) (K:ai->Prop),bB h g->(∀E:Int->Prop,E ao.2->w5 g E)->(∀bg,(∀y,g y≠none->¬fA B G.L V y->bg y=g y)->∀E:Int->Prop,E ao.1->L2 bg E)->(∀bg eL,fY G ws B { S with gone:=S.gone++[ao] } a_ eL bg->cn (fA B G.L V) h (fA B G.L eL) bg->(∀y,g y≠none->¬fA B G.L V y->bg y=g y)->K bg) ->
  ∃s1,bR g B.cm (0+8)=some (aU s1)/\w5 g λax=>bn g (.cells #[U ax] t1) λaB ad=>en prog 37 s1 (.s ⟨some ⟨aB,0⟩,1,1,none⟩) ad λs2 aq=>a1 aq ⟨B.cm,0+8⟩ [aU s2] λaJ=>∃bj,bR aJ B.cm (0+9)=some (aU bj)/\L2 aJ λay=>bn aJ (.cells #[U ay] t2) λaS aW=>en prog 37 bj (.s ⟨some ⟨aS,0⟩,1,1,none⟩) aW λbM bd=>a1 bd ⟨B.cm,0+9⟩ [aU bM] λcg=>K cg:=by
  intro g ao t1 t2 w5 L2 K cv alY alZ fr;have dE:=R.bE o cv;have oe:(xF S.gone).length=S.gone.length:=by simp[xF]
  have asw:(vE S.gone).length=S.gone.length:=by simp[vE]
  refine⟨_,aF dE.top rfl,alY _ <| yx dE.wQ (λ_ _=>rfl) (ao.2:Int) (by omega) λs2 g2 eR f2 iO ay=>?_⟩;have WO:∀p x,eK B G.L V p x->p≠.dX->g2 x=g x:=λp x af aM=>f2 x (dE.dv o af) λq ah e=>aM (R.h_ p .dX x af ⟨q,ah,e⟩);have L3:∀q,s2.q=some q->eK B G.L V .dX q.b∨g q.b=none:=λq ah=>(iO q ah).imp (fun⟨p,aM,e⟩=>⟨p,aM,e⟩) id;have WQ:∀q,s2.q=some q->∀p x,eK B G.L V p x->p≠.dX->q.b≠x:=λq ah p x af aM e=>(L3 q ah).elim (λh=>aM (R.h_ p .dX x af (e▸h))) λau=>dE.dv o af (e▸au);have asx:∀q,s2.q=some q->¬bA B.m V.es q.b:=λq ah hm=>(L3 q ah).elim (λh=>R.ik .dX _ h hm) λau=>dE.mem.dv hm au;have a7:=(WO .cm _ rfl (by simp)).trans dE.top;refine⟨_,_,a7,by simp,_,aF (ea _ _ _) rfl,alZ _ (λy aA aH=>(cJ _ _ λe=>aH (.inr ⟨.cm,e⟩)).trans (f2 y aA λq ah e=>aH (.inr ⟨.dX,q,ah,e⟩))) _ ?_⟩;obtain⟨g3,L4⟩:∃g3,g3=bD g2 B.cm (.cells (hg (C0 G B V.dX V.le) (0+8) [aU s2]) B.qp (0,0)):=⟨_,rfl⟩;have b2:g3 B.cm=dB (C0 G B s2 V.le) B.qp:=by rw[L4,ea];rfl
  have c9:∀y,y≠B.cm->g3 y=g2 y:=λy aA=>by rw[L4];exact cJ _ _ aA
  rw[<-L4];have WR:∀p x,eK B G.L V p x->p≠.cm->x≠B.cm:=λp x af aM e=>aM (R.h_ p .cm x af e);have L5:∀p x,eK B G.L V p x->p≠.dX->p≠.cm->g3 x=g x:=λp x af aa ad=>(c9 x (WR p x af ad)).trans (WO p x af aa);have nD:b9 dg kf g3 V.le (vE S.gone):=dE.wR.move λq ah=>L5 .le _ ⟨q,ah,rfl⟩ (by simp) (by simp);refine yx nD (λ_ _=>rfl) (ao.1:Int) (by omega) λbM g4 hT f4 rG aQ=>?_;have aI:∀y,g3 y=none->g y=none:=λy aA=>ay y (by
   by_cases c:y=B.cm
   .rw[c,b2] at aA;cases aA
   .rw[c9 y c] at aA;exact aA)
  have rF:∀y,g3 y≠none->¬eK B G.L V .le y->g4 y=g3 y:=λy aA aH=>f4 y aA λq ah e=>aH ⟨q,ah,e⟩;have WS:∀q,bM.q=some q->eK B G.L V .le q.b∨g3 q.b=none:=λq ah=>(rG q ah).imp (fun⟨p,aM,e⟩=>⟨p,aM,e⟩) id;have b5:g4 B.cm=_:=(rF B.cm (by rw[b2];simp) λh=>by cases R.h_ .cm .le _ rfl h).trans b2;have WT:∀q,s2.q=some q->g2 q.b≠none:=λq ah=>(eR.b_ ah).2;have L6:∀q,s2.q=some q->q.b≠B.cm:=λq ah=>WQ q ah .cm _ rfl (by simp);have al0:∀q,s2.q=some q->¬eK B G.L V .le q.b:=λq ah h=>WQ q ah .le _ h (by simp) rfl;refine⟨_,_,b5,by simp,?_⟩;obtain⟨g5,L7⟩:∃g5,g5=bD g4 B.cm (.cells (hg (C0 G B s2 V.le) (0+9) [aU bM]) B.qp (0,0)):=⟨_,rfl⟩;have cD:g5 B.cm=dB (C0 G B s2 bM) B.qp:=by rw[L7,ea];rfl
  have cY:∀y,y≠B.cm->g5 y=g4 y:=λy aA=>by rw[L7];exact cJ _ _ aA
  rw[<-L7];have d3:∀p x,eK B G.L V p x->p≠.dX->g3 x≠none:=λp x af aa=>by
   by_cases c:p= .cm
   .subst c;rw[show x=B.cm from af,b2];simp
   .rw[L5 p x af aa c];exact dE.dv o af
  have GI:∀p x,eK B G.L V p x->p≠.dX->p≠.le->p≠.cm->g5 x=g x:=λp x af aa ad aq=>(cY x (WR p x af aq)).trans ((rF x (d3 p x af aa) λh=>ad (R.h_ p .le x af h)).trans (L5 p x af aa aq));have al1:∀x,bA B.m V.es x->g5 x=g x:=λx af=>by
   have C4:x≠B.cm:=λe=>R.ik .cm x e af;have aq:g3 x=g x:=(c9 x C4).trans (f2 x (dE.mem.dv af) λq ah e=>R.ik .dX x ⟨q,ah,e⟩ af);rw[cY x C4,rF x (by rw[aq];exact dE.mem.dv af) λh=>R.ik .le x h af,aq]
  have L8:∀x,g x≠none->¬fA B G.L V x->g5 x=g x:=λx af aH=>by
   have C4:x≠B.cm:=λe=>aH (.inr ⟨.cm,e⟩);have aq:g3 x=g x:=(c9 x C4).trans (f2 x af λq ah e=>aH (.inr ⟨.dX,q,ah,e⟩));rw[cY x C4,rF x (by rw[aq];exact af) λh=>aH (.inr ⟨.le,h⟩),aq]
  have al2:∀x,g5 x=none->g x=none:=λx af=>by
   by_cases c:x=B.cm
   .rw[c,cD] at af;cases af
   .rw[cY x c] at af;exact aI x (aQ x af)
  have eV:b9 dg kf g5 s2 (xF (S.gone++[ao])):=by
   have e:xF (S.gone++[ao])=xF S.gone++[(ao.2:Int)]:=by simp[xF]
   rw[e];exact eR.move λq ah=>by
    have aq:g3 q.b=g2 q.b:=c9 _ (L6 q ah);rw[cY _ (L6 q ah),rF _ (by rw[aq];exact WT q ah) (al0 q ah),aq]
  have al3:∀q,bM.q=some q->q.b≠B.cm:=λq ah e=>(WS q ah).elim (λh=>by cases R.h_ .le .cm _ h e) λau=>by rw[e,b2] at au;cases au
  have gF:b9 dg kf g5 bM (vE (S.gone++[ao])):=by
   have e:vE (S.gone++[ao])=vE S.gone++[(ao.1:Int)]:=by simp[vE]
   rw[e];exact hT.move λq ah=>cY _ (al3 q ah)
  obtain⟨eL,h3⟩:∃eL:mc,eL={ V with dX:=s2,le:=bM }:=⟨_,rfl⟩;have at_:∀q,q≠.dX->q≠.le->∀x,eK B G.L eL q x↔eK B G.L V q x:=λq aa ad x=>by
   cases q with
   | dX=>exact absurd rfl aa
   | le=>exact absurd rfl ad
   | _=>rw[h3];exact atJ
  have L9:∀x,eK B G.L eL .dX x->eK B G.L V .dX x∨g x=none:=λx ⟨q,ah,e⟩=>by
   rw[h3] at ah;rw[e];exact L3 q ah
  have L_:∀x,eK B G.L eL .le x->eK B G.L V .le x∨g3 x=none:=λx ⟨q,ah,e⟩=>by
   rw[h3] at ah;rw[e];exact WS q ah
  have al4:∀x,eK B G.L eL .dX x->g3 x≠none:=λx ⟨q,ah,e⟩=>by
   rw[h3] at ah;rw[e,c9 _ (L6 q ah)];exact WT q ah
  obtain⟨xH,GJ⟩:∃xH:mc,xH={ V with dX:=s2 }:=⟨_,rfl⟩;have ar:∀p,p≠.dX->∀x,eK B G.L xH p x->eK B G.L V p x:=λp aM x af=>by
   cases p with
   | dX=>exact absurd rfl aM
   | _=>rw[GJ] at af;exact af
  have aN:∀p,p≠.le->∀x,eK B G.L eL p x->eK B G.L xH p x:=λp aM x af=>by
   cases p with
   | le=>exact absurd rfl aM
   | _=>rw[h3] at af;rw[GJ];exact af
  have WU:∀x,eK B G.L xH .dX x->eK B G.L eL .dX x:=λx af=>by rw[GJ] at af;rw[h3];exact af
  have al5:∀x,eK B G.L V .le x->eK B G.L xH .le x:=λx af=>by rw[GJ];exact af
  have GF:=R.GF o (eL:=xH) (p0:= .dX) ar λx af=>(L9 x (WU x af)).imp id cv.free;have al6:=WL (h:=g3) GF (λp x af=>by
   by_cases c:p= .dX
   .subst c;exact al4 x (WU x af)
   .exact d3 p x (ar p c x af) c) aN λx af=>(L_ x af).imp (al5 x) id
  have WV:∀x,eK B G.L eL .dX x∨eK B G.L eL .le x->fA B G.L V x∨g x=none:=λx af=>by
   rcases af with af|af
   .exact(L9 x af).imp (λh=> .inr ⟨_,h⟩) id
   .exact(L_ x af).imp (λh=> .inr ⟨_,h⟩) (aI x)
  have GK:eL.es=V.es:=by rw[h3]
  have WW:eL.is=V.is:=by rw[h3]
  have WX:∀p x,eK B G.L eL p x->fA B G.L V x∨g x=none:=λp x af=>by
   by_cases aX:p= .dX
   .subst aX;exact WV x (.inl af)
   .by_cases aZ:p= .le
    .subst aZ;exact WV x (.inr af)
    .exact .inl (.inr ⟨p,(at_ p aX aZ x).1 af⟩)
  have al7:∀p x,eK B G.L eL p x->¬bA B.m V.es x:=λp x af hm=>by
   by_cases aX:p= .dX
   .subst aX;exact(L9 x af).elim (λh=>R.ik _ x h hm) (dE.mem.dv hm)
   .by_cases aZ:p= .le
    .subst aZ;exact(L_ x af).elim (λh=>R.ik _ x h hm) λh=>dE.mem.dv hm (aI x h)
    .exact R.ik p x ((at_ p aX aZ x).1 af) hm
  have hw:∀q,B.dG.q=some q->0<ws.length->g5 q.b=g q.b:=λq ah aO=>L8 _ (dE.jv q ah aO).1 (dE.jv q ah aO).2;refine fr g5 eL ⟨by rw[h3];exact cD,by rw[GK];exact dE.mem.move al1,by rw[GI .tb _ rfl (by simp) (by simp) (by simp)];exact dE.kX,dE.vD.move hw,dE.jE.move λq ah _=>GI .bS _ ⟨q,ah,rfl⟩ (by simp) (by simp) (by simp),λi hi=>by rw[WW,GI (.aV i) _ ⟨hi,rfl⟩ (by simp) (by simp) (by simp)];exact dE.fu i hi,
   λi hi=>by rw[WW];exact(dE.ids i hi).move λq ah=>GI (.is i) _ ⟨hi,q,ah,rfl⟩ (by simp) (by simp) (by simp),by rw[h3];exact eV,by rw[h3];exact gF,al6,by rw[GK];exact al7,λq ah aO=>⟨by rw[hw q ah aO];exact(dE.jv q ah aO).1,λbf=>?_⟩⟩ ⟨λx af=>?_,λx af aH=>?_,λx af=>cv.free (al2 x af)⟩ L8
  .have bK:=dE.jv q ah aO;rcases bf with hm|⟨p,af⟩
   .rw[GK] at hm;exact bK.2 (.inl hm)
   .exact(WX p _ af).elim bK.2 bK.1
  .rcases af with hm|⟨p,af⟩
   .rw[GK] at hm;exact .inl (.inl hm)
   .exact(WX p x af).imp id cv.free
  .rw[L8 x (by rw[cv x af];exact af) aH,cv x af]
 refine ah0 _ _ _ _ _ ?_;unfold UO;refine bL λaj aa f1 aC aE=>?_;have gR:¬fA B G.L V aj:=R.out o f1;unfold fD;refine hS (λbt=>?_) λbt=>?_
 .have bt:v=0:=atC bt;rw[as8 bt];refine note aa sp _ _ (λg E=>∃ax,bR g aj 1=some (U ax)/\E ax) (λg E=>∃ax,bR g aj 0=some (U ax)/\E ax) _ aE (λE h7=>⟨_,aF aC rfl,h7⟩) (λbg aR E h7=>⟨_,aF ((aR aj (by rw[aC];simp) gR).trans aC) rfl,h7⟩) λbg eL e1 hp aR=>⟨_,aF ((aR aj (by rw[aC];simp) gR).trans aC) rfl,eL,rfl,e1,hp⟩
 .have bt:v≠0:=atW bt;rw[as7 bt];have qO:1<=v.toNat:=Nat.pos_of_ne_zero λe=>bt (att.1 e);have zi:=aM bt;rw[iN (n:=((p.toNat:Nat):Int)) (by omega) (by omega),iN (n:=((v.toNat:Nat):Int)) (by omega) (by omega),bl,show((v.toNat:Nat):Int)-1=((v.toNat-1:Nat):Int) by omega];exact note aa (v.toNat-1,p.toNat) _ _ (λ_ E=>E _) (λ_ E=>E _) _ aE (λE h7=>h7) (λbg _ E h7=>h7) λbg eL e1 hp aR=>⟨eL,rfl,e1,hp⟩
end

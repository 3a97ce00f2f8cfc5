import Derived.Test.YtofgadhgljjhgaaGreatRefA
import Derived.Test.YtofgadhgljjhgaaGreatStoL
namespace Go.Proofs.Tryz
open Go Go.cD Go.RowKit
set_option maxRecDepth 8000
set_option maxHeartbeats 1000000
structure lT where
 cr:Nat
 tb:Nat
 b2:ar
 ba:Nat->Nat
 iP:Nat->TypeId
 n1:TypeId
 rX:TypeId
 cS:TypeId
 m:jw
 dQ:ar
structure jz where
 es:ar
 e4:ar
 le:ar
 is:Nat->ar
inductive Kn where
 | cr
 | tb
 | b2
 | e4
 | le
 | ba (i:Nat)
 | is (i:Nat)
 deriving DecidableEq
def fu (B:lT)(L:Nat)(V:jz):Kn->Nat->Prop
 | .cr,x=>x=B.cr
 | .tb,x=>x=B.tb
 | .b2,x=>∃q,B.b2.q=some q/\x=q.b
 | .e4,x=>∃q,V.e4.q=some q/\x=q.b
 | .le,x=>∃q,V.le.q=some q/\x=q.b
 | .ba i,x=>i<L/\x=B.ba i
 | .is i,x=>i<L/\∃q,(V.is i).q=some q/\x=q.b
def c8 (B:lT)(L:Nat)(V:jz):Nat->Prop:=λx=>bF B.m V.es x∨∃p,fu B L V p x
def zW (l:List (Nat×Nat)):List Int:=l.map λy=>(y.2:Int)
def xW (l:List (Nat×Nat)):List Int:=l.map λy=>(y.1:Int)
abbrev Gl (G:cG)(B:lT)(e4 le:ar):Array Value:=#[bg ⟨B.m.b,0⟩,U G.f,U (2 ^ G.m),U G.s,U G.t,U G.L,bg ⟨B.tb,0⟩,bb B.b2,bb e4,bb le]
structure hr (G:cG)(ws:List UInt64)(B:lT)(S:cU)(a7:List de)(V:jz)(h:ak):Prop where
 top:h B.cr=some (.cells (Gl G B V.e4 V.le) B.rX (0,0))
 mem:cV B.n1 B.m S.R a7 V.es h
 py:h B.tb=some (.cells #[bb B.dQ,U S.used] B.cS (0,0))
 zX:fi ab h B.dQ ws
 l_:fi (λb:Nat=>bg ⟨b,0⟩) h B.b2 ((List.range G.L).map B.ba)
 gy:∀i,i<G.L->h (B.ba i)=some (.cells (qa (G.d_ i) B.m.b (G.base i) (S.over i) (V.is i)) (B.iP i) (0,0))
 ids:∀i,i<G.L->cW ab lE h (V.is i) (S.ids i)
 CO:cW eR lE h V.e4 (zW S.gone)
 CP:cW eR lE h V.le (xW S.gone)
 jf:∀p eu x,fu B G.L V p x->fu B G.L V eu x->p=eu
 jv:∀p x,fu B G.L V p x->¬bF B.m V.es x
 kj:∀q,B.dQ.q=some q->0<ws.length->h q.b≠none/\¬c8 B G.L V q.b
structure PU (G:cG)(B:lT):Prop where
 o8:∀i,i<G.L->qo B.m (G.d_ i) (G.base i)
 q5:G.f<B.m.eX
 q6:B.m.cf G.f=G.top
section
variable {G:cG} {ws:List UInt64} {B:lT} {S:cU} {a7:List de} {V:jz} {h ah:ak}
theorem hr.dn (R:hr G ws B S a7 V h)(o:G.da){p:Kn}{x:Nat}(ai:fu B G.L V p x):h x≠none:=by
 cases p with
 | cr=>rw[show x=B.cr from ai,R.top];simp
 | tb=>rw[show x=B.tb from ai,R.py];simp
 | b2=>obtain⟨q,aj,rfl⟩:=ai;exact R.l_.there aj (by have:=o.L;simp;omega)
 | e4=>obtain⟨q,aj,rfl⟩:=ai;exact(R.CO.bl aj).2
 | le=>obtain⟨q,aj,rfl⟩:=ai;exact(R.CP.bl aj).2
 | ba i=>rw[ai.2,R.gy i ai.1];simp
 | is i=>obtain⟨hi,q,aj,rfl⟩:=ai;exact((R.ids i hi).bl aj).2
theorem hr.ml (R:hr G ws B S a7 V h)(o:G.da){x:Nat}(ai:c8 B G.L V x):h x≠none:=ai.elim R.mem.dn fun⟨_,aS⟩=>R.dn o aS
theorem hr.out (R:hr G ws B S a7 V h)(o:G.da){x:Nat}(ai:h x=none):¬c8 B G.L V x:=λa_=>R.ml o a_ ai
theorem hr.same (R:hr G ws B S a7 V h)(aU:∀x,c8 B G.L V x->ah x=h x)(hw:∀q,B.dQ.q=some q->0<ws.length->ah q.b=h q.b):hr G ws B S a7 V ah:=by
 have aS:∀p x,fu B G.L V p x->ah x=h x:=λp x ai=>aU x (.inr ⟨p,ai⟩)
 exact⟨by rw[aS .cr _ rfl];exact R.top,R.mem.move λx ai=>aU x (.inl ai),by rw[aS .tb _ rfl];exact R.py,R.zX.move hw,R.l_.move λq aj _=>aS .b2 _ ⟨q,aj,rfl⟩,λi hi=>by rw[aS (.ba i) _ ⟨hi,rfl⟩];exact R.gy i hi,
  λi hi=>(R.ids i hi).move λq aj=>aS (.is i) _ ⟨hi,q,aj,rfl⟩,R.CO.move λq aj=>aS .e4 _ ⟨q,aj,rfl⟩,R.CP.move λq aj=>aS .le _ ⟨q,aj,rfl⟩,R.jf,R.jv,λq aj aT=>⟨by rw[hw q aj aT];exact(R.kj q aj aT).1,(R.kj q aj aT).2⟩⟩
theorem hr.bD (R:hr G ws B S a7 V h)(o:G.da)(k:bL h ah):hr G ws B S a7 V ah:=R.same (λx ai=>k x (R.ml o ai)) λq aj aT=>k _ (R.kj q aj aT).1
theorem hr.loc (R:hr G ws B S a7 V h){b:Nat}(au:¬c8 B G.L V b)(hw:∀q,B.dQ.q=some q->0<ws.length->q.b≠b)(aU:∀y,y≠b->ah y=h y):hr G ws B S a7 V ah:=R.same (λx ai=>aU x λe=>au (e▸ai)) λq aj aT=>aU _ (hw q aj aT)
theorem hr.uL (R:hr G ws B S a7 V h)(o:G.da){dm:dF}{b_:List de}{aW:ar}(M:cV B.n1 B.m dm b_ aW ah)(v:bT (bF B.m V.es) h (bF B.m aW) ah):hr G ws B { S with R:=dm } b_ { V with es:=aW } ah/\bT (c8 B G.L V) h (c8 B G.L { V with es:=aW }) ah:=by
 have at_:∀p x,fu B G.L { V with es:=aW } p x↔fu B G.L V p x:=λp x=>by cases p<;>exact Iff.rfl
 have aS:∀p x,fu B G.L V p x->ah x=h x:=λp x ai=>v.2.1 x (R.dn o ai) (R.jv p x ai)
 have hw:∀q,B.dQ.q=some q->0<ws.length->ah q.b=h q.b:=λq aj aT=>v.2.1 _ (R.kj q aj aT).1 λhm=>(R.kj q aj aT).2 (.inl hm)
 refine⟨⟨by rw[aS .cr _ rfl];exact R.top,M,by rw[aS .tb _ rfl];exact R.py,R.zX.move hw,R.l_.move λq aj _=>aS .b2 _ ⟨q,aj,rfl⟩,λi hi=>by rw[aS (.ba i) _ ⟨hi,rfl⟩];exact R.gy i hi,
  λi hi=>(R.ids i hi).move λq aj=>aS (.is i) _ ⟨hi,q,aj,rfl⟩,R.CO.move λq aj=>aS .e4 _ ⟨q,aj,rfl⟩,R.CP.move λq aj=>aS .le _ ⟨q,aj,rfl⟩,λp eu x aa ad=>R.jf p eu x ((at_ p x).1 aa) ((at_ eu x).1 ad),λp x ai=>v.out (R.dn o ((at_ p x).1 ai)) (R.jv p x ((at_ p x).1 ai)),λq aj aT=>⟨by rw[hw q aj aT];exact(R.kj q aj aT).1,?_⟩⟩,?_⟩
 .rintro (hm|⟨p,ai⟩)
  .exact v.out (R.kj q aj aT).1 (λhm=>(R.kj q aj aT).2 (.inl hm)) hm
  .exact(R.kj q aj aT).2 (.inr ⟨p,(at_ p _).1 ai⟩)
 .refine(mK (B:=λx=>∃p,fu B G.L V p x) v).to λx ai=> .inl (ai.imp id fun⟨p,aS⟩=>⟨p,(at_ p x).1 aS⟩)
theorem abI {cB:jz}{p0:Kn}(jf:∀p eu x,fu B G.L V p x->fu B G.L V eu x->p=eu)(dn:∀p x,fu B G.L V p x->h x≠none)(aU:∀p,p≠p0->∀x,fu B G.L cB p x->fu B G.L V p x)(aH:∀x,fu B G.L cB p0 x->fu B G.L V p0 x∨h x=none):∀p eu x,fu B G.L cB p x->fu B G.L cB eu x->p=eu:=by
 intro p eu x aa ad
 by_cases c:p=p0<;>by_cases cc:eu=p0
 .rw[c,cc]
 .subst c
  have rB:=aU eu cc x ad
  rcases aH x aa with h|h
  .exact jf _ _ x h rB
  .exact absurd h (dn _ _ rB)
 .subst cc
  have Bj:=aU p c x aa
  rcases aH x ad with h|h
  .exact jf _ _ x Bj h
  .exact absurd h (dn _ _ Bj)
 .exact jf _ _ x (aU p c x aa) (aU eu cc x ad)
theorem hr.Ko (R:hr G ws B S a7 V h)(o:G.da){cB:jz}{p0:Kn}(aU:∀p,p≠p0->∀x,fu B G.L cB p x->fu B G.L V p x)(aH:∀x,fu B G.L cB p0 x->fu B G.L V p0 x∨h x=none):∀p eu x,fu B G.L cB p x->fu B G.L cB eu x->p=eu:=abI R.jf (λ_ _ ai=>R.dn o ai) aU aH
theorem hr.Gm (R:hr G ws B S a7 V h)(o:G.da){i:Nat}(hi:i<G.L){dm:dF}{b_:List de}{aW eC:ar}{eS:Bool}{ids:List UInt64}(M:cV B.n1 B.m dm b_ aW ah)
 (aT:ah (B.ba i)=some (.cells (qa (G.d_ i) B.m.b (G.base i) eS eC) (B.iP i) (0,0))) (hm:cW ab lE ah eC ids) (nl:¬bF B.m aW (B.ba i)) (CQ:∀q,eC.q=some q->q.b≠B.ba i/\¬bF B.m aW q.b) (ate:∀q,eC.q=some q->(∃p,(V.is i).q=some p/\q.b=p.b)∨h q.b=none)
 (v:bT (λx=>bF B.m V.es x∨rU (B.ba i) (V.is i) x) h (λx=>bF B.m aW x∨rU (B.ba i) eC x) ah) :
 hr G ws B { S with R:=dm,over:=λx=>if x=i then eS else S.over x,ids:=λx=>if x=i then ids else S.ids x } b_ { V with es:=aW,is:=λx=>if x=i then eC else V.is x } ah/\bT (c8 B G.L V) h (c8 B G.L { V with es:=aW,is:=λx=>if x=i then eC else V.is x }) ah:=by
 obtain⟨cB,iZ⟩:∃cB,cB={ V with es:=aW,is:=λx=>if x=i then eC else V.is x }:=⟨_,rfl⟩
 have Kp:cB.is i=eC:=by rw[iZ];exact if_pos rfl
 have Qe:∀j,j≠i->cB.is j=V.is j:=λj aV=>by rw[iZ];exact if_neg aV
 have at_:∀p,p≠.is i->∀x,fu B G.L cB p x↔fu B G.L V p x:=λp aS x=>by
  cases p with
  | is j =>
   have aV:j≠i:=λe=>aS (by rw[e])
   show(j<G.L/\∃q,(cB.is j).q=some q/\x=q.b)↔_
   rw[Qe j aV];exact Iff.rfl
  | _=>rw[iZ];exact Iff.rfl
 have aH:∀p x,fu B G.L V p x->p≠.ba i->p≠.is i->¬(bF B.m V.es x∨rU (B.ba i) (V.is i) x):=λp x ai aa ad h=>by
  rcases h with h|h|⟨q,aj,h⟩
  .exact R.jv p x ai h
  .exact aa (R.jf p (.ba i) x ai ⟨hi,h⟩)
  .exact ad (R.jf p (.is i) x ai ⟨hi,q,aj,h⟩)
 have aS:∀p x,fu B G.L V p x->p≠.ba i->p≠.is i->ah x=h x:=λp x ai aa ad=>v.2.1 x (R.dn o ai) (aH p x ai aa ad)
 have abJ:∀q,B.dQ.q=some q->0<ws.length->¬(bF B.m V.es q.b∨rU (B.ba i) (V.is i) q.b):=λq aj aT h=>(R.kj q aj aT).2 (by
  rcases h with h|h|⟨dL,eB,h⟩
  .exact .inl h
  .exact .inr ⟨.ba i,hi,h⟩
  .exact .inr ⟨.is i,hi,dL,eB,h⟩)
 have hw:∀q,B.dQ.q=some q->0<ws.length->ah q.b=h q.b:=λq aj aT=>v.2.1 _ (R.kj q aj aT).1 (abJ q aj aT)
 have Qf:∀x,fu B G.L cB (.is i) x->fu B G.L V (.is i) x∨h x=none:=λx ⟨_,q,aj,e⟩=>by
  rw[Kp] at aj
  rcases ate q aj with ⟨p,aS,b4⟩|ai
  .exact .inl ⟨hi,p,aS,e.trans b4⟩
  .exact .inr (e▸ai)
 have Kq:cB.es=aW:=by rw[iZ]
 have Nw:cB.e4=V.e4:=by rw[iZ]
 have hle:cB.le=V.le:=by rw[iZ]
 rw[<-iZ]
 refine⟨⟨by rw[aS .cr _ rfl (by simp) (by simp),Nw,hle];exact R.top,by rw[Kq];exact M,by rw[aS .tb _ rfl (by simp) (by simp)];exact R.py,R.zX.move hw,R.l_.move λq aj _=>aS .b2 _ ⟨q,aj,rfl⟩ (by simp) (by simp),λj aV=>?_,λj aV=>?_,by rw[Nw];exact R.CO.move λq aj=>aS .e4 _ ⟨q,aj,rfl⟩ (by simp) (by simp),by rw[hle];exact R.CP.move λq aj=>aS .le _ ⟨q,aj,rfl⟩ (by simp) (by simp),
  R.Ko o (λp aS x=>(at_ p aS x).1) Qf,λp x ai=>?_,λq aj aT=>⟨by rw[hw q aj aT];exact(R.kj q aj aT).1,λa_=>?_⟩⟩,?_⟩
 .show ah (B.ba j)=some (.cells (qa (G.d_ j) B.m.b (G.base j) (if j=i then eS else S.over j) (cB.is j)) (B.iP j) (0,0))
  by_cases c:j=i
  .subst c;rw[if_pos rfl,Kp];exact aT
  .rw[if_neg c,Qe j c,aS (.ba j) _ ⟨aV,rfl⟩ (by simpa using c) (by simp)];exact R.gy j aV
 .show cW ab lE ah (cB.is j) (if j=i then ids else S.ids j)
  by_cases c:j=i
  .subst c;rw[if_pos rfl,Kp];exact hm
  .rw[if_neg c,Qe j c];exact(R.ids j aV).move λq aj=>aS (.is j) _ ⟨aV,q,aj,rfl⟩ (by simp) (by simpa using c)
 .rw[Kq]
  by_cases aY:p= .is i
  .subst aY;obtain⟨_,q,aj,rfl⟩:=ai;rw[Kp] at aj;exact(CQ q aj).2
  .have ai:=(at_ p aY x).1 ai
   by_cases aQ:p= .ba i
   .subst aQ;rw[ai.2];exact nl
   .exact λh=>v.out (R.dn o ai) (aH p x ai aQ aY) (.inl h)
 .have bV:=(R.kj q aj aT).1
  rcases a_ with zY|⟨p,ai⟩
  .rw[Kq] at zY;exact v.out bV (abJ q aj aT) (.inl zY)
  .by_cases aY:p= .is i
   .subst aY
    rcases Qf _ ai with h|h
    .exact(R.kj q aj aT).2 (.inr ⟨_,h⟩)
    .exact bV h
   .exact(R.kj q aj aT).2 (.inr ⟨p,(at_ p aY _).1 ai⟩)
 .refine⟨λx ai=>?_,λx ai l1=>v.2.1 x ai λh=>l1 ?_,v.2.2⟩
  .rcases ai with zY|⟨p,ai⟩
   .rw[Kq] at zY
    rcases v.1 x (.inl zY) with (h|h|⟨q,aj,h⟩)|h
    .exact .inl (.inl h)
    .exact .inl (.inr ⟨.ba i,hi,h⟩)
    .exact .inl (.inr ⟨.is i,hi,q,aj,h⟩)
    .exact .inr h
   .by_cases aY:p= .is i
    .subst aY;exact(Qf x ai).imp (λh=> .inr ⟨_,h⟩) id
    .exact .inl (.inr ⟨p,(at_ p aY x).1 ai⟩)
  .rcases h with h|h|⟨q,aj,h⟩
   .exact .inl h
   .exact .inr ⟨.ba i,hi,h⟩
   .exact .inr ⟨.is i,hi,q,aj,h⟩
theorem atf (R:hr G ws B S a7 V h)(o:G.da)(hu:S.used<2 ^ 62) :
 ao 140 [bg ⟨B.tb,0⟩] h λv ah=>v= .tuple #[ab (ws.getD S.used 0),U S.used]/\hr G ws B { S with used:=S.used+1 } a7 V ah/\bT (c8 B G.L V) h (c8 B G.L V) ah:=by
 refine ap7 _ ?_
 unfold ZZ
 refine⟨_,az R.py rfl,_,az R.py rfl,_,_,R.py,by simp,?_⟩
 obtain⟨ad,bR⟩:∃ad,ad=bA h B.tb (.cells (h5 #[bb B.dQ,U S.used] (0+1) [U (al ((S.used:Int)+1))]) B.cS (0,0)):=⟨_,rfl⟩
 have a8:ad B.tb=some (.cells #[bb B.dQ,U (S.used+1:Nat)] B.cS (0,0)):=by rw[bR,eH,bf (by omega) (by omega)];rfl
 have cb:∀y,y≠B.tb->ad y=h y:=λy aB=>by rw[bR];exact cQ _ _ aB
 rw[<-bR]
 have xO:∀p x,fu B G.L V p x->p≠.tb->ad x=h x:=λp x ai aS=>cb x λe=>aS (R.jf p .tb x ai e)
 have wY:∀q,B.dQ.q=some q->0<ws.length->ad q.b=h q.b:=λq aj aT=>cb _ λe=>(R.kj q aj aT).2 (.inr ⟨.tb,e⟩)
 have c4:hr G ws B { S with used:=S.used+1 } a7 V ad:=⟨by rw[xO .cr _ rfl (by simp)];exact R.top,R.mem.move λx ai=>cb x λe=>R.jv .tb x e ai,a8,R.zX.move wY,R.l_.move λq aj _=>xO .b2 _ ⟨q,aj,rfl⟩ (by simp),λi hi=>by rw[xO (.ba i) _ ⟨hi,rfl⟩ (by simp)];exact R.gy i hi,
  λi hi=>(R.ids i hi).move λq aj=>xO (.is i) _ ⟨hi,q,aj,rfl⟩ (by simp),R.CO.move λq aj=>xO .e4 _ ⟨q,aj,rfl⟩ (by simp),R.CP.move λq aj=>xO .le _ ⟨q,aj,rfl⟩ (by simp),R.jf,R.jv,λq aj aT=>⟨by rw[wY q aj aT];exact(R.kj q aj aT).1,(R.kj q aj aT).2⟩⟩
 have eY:bT (c8 B G.L V) h (c8 B G.L V) ad:=⟨λx ai=> .inl ai,λx ai aH=>cb x λe=>aH (.inr ⟨.tb,e⟩),λx ai=>by
  by_cases e:x=B.tb
  .rw[e,a8] at ai;cases ai
  .rw[cb x e] at ai;exact ai⟩
 have aT:=R.zX.len
 refine⟨_,az a8 rfl,cd (λca=>?_) λdx=>?_⟩
 .have CI:S.used<ws.length:=by omega
  refine⟨_,az a8 rfl,c4.zX.cp CI λq _ c=>⟨_,c,?_,c4,eY⟩⟩
  simp[List.getD,CI]
 .refine⟨?_,c4,eY⟩
  have:ws.getD S.used 0=0:=by simp[List.getD,List.getElem?_eq_none (show ws.length<=S.used by omega)]
  rw[this]
theorem abK (o:G.da)(R:hr G ws B S a7 V h){i:Nat}(hi:i<4)(hu:S.used<2 ^ 62) :
 ao 121 [bg ⟨B.cr,0⟩,U i] h λv ah=>v= .agg #[U (G.leaf (λp=>ws.getD p 0) i S.used),U S.used]/\hr G ws B { S with used:=S.used+1 } a7 V ah/\bT (c8 B G.L V) h (c8 B G.L V) ah:=by
 have e4:=o.st
 refine apH _ _ ?_
 unfold ZQ
 refine bM λae aa f1 aF aE=>⟨some ⟨B.tb,0⟩,aE.cell (az R.top rfl),?_⟩
 refine(atf (R.bD o aE) o hu).mono ?_
 rintro _ ad ⟨rfl,c4,v2⟩
 refine⟨_,_,rfl,_,az c4.top rfl,_,az c4.top rfl,_,az c4.top rfl,_,az c4.top rfl,?_⟩
 refine(Km e4 i (by omega)).to λan aI=>⟨_,rfl,?_⟩
 have ag:G.m-2*i<=10:=by have:=o.m;omega
 have rp:1<=2 ^ (G.m-2*i):=Nat.one_le_two_pow
 have rq:2 ^ (G.m-2*i)<=2 ^ 10:=Nat.pow_le_pow_right (by decide) ag
 have Qg:(2:Int) ^ (G.m-2*i)=((2 ^ (G.m-2*i):Nat):Int):=by simp
 rw[Qg,jk (by omega)]
 have Gn:(UInt64.ofNat (2 ^ (G.m-2*i))).toNat=2 ^ (G.m-2*i):=by rw[UInt64.toNat_ofNat'];omega
 have em:((ws.getD S.used 0)%UInt64.ofNat (2 ^ (G.m-2*i))).toNat=G.leaf (λp=>ws.getD p 0) i S.used:=by
  rw[UInt64.toNat_mod,Gn];rfl
 have xV:G.leaf (λp=>ws.getD p 0) i S.used<1024:=xj o i S.used
 have e1:¬c8 B G.L V ae:=R.out o f1
 have hQ:=v2.get aF e1
 refine⟨λe=>by have:=congrArg UInt64.toNat e;rw[Gn] at this;simp at this,?_⟩
 rw[em,bf (by omega) (by omega)]
 have kd:=((hF aE (c8 B G.L V)).trans v2).more aI
 refine lu kd f1 (aI.get hQ) rfl λaK qL b1 dr=>⟨_,az b1 rfl,_,az b1 rfl,rfl,?_,qL⟩
 exact(c4.bD o aI).loc e1 (λq aj aT e=>(R.kj q aj aT).1 (e▸f1)) dr
theorem atg (o:G.da)(R:hr G ws B S a7 V h){v p:UInt64}(bQ:v.toNat<2 ^ 62)(aS:v≠0->p.toNat<2 ^ 62){sp:Nat×Nat}(c_:S.gone.length<1000000000000) :
 ao 124 [bg ⟨B.cr,0⟩,ab v,ab p,.agg #[U sp.1,U sp.2]] h λr ah=>∃cB,r=U (fM v p sp).1/\hr G ws B { S with gone:=S.gone++[fM v p sp] } a7 cB ah/\bT (c8 B G.L V) h (c8 B G.L cB) ah:=by
 have note:∀(g:ak) (av:Nat×Nat) (t1 t2:TypeId) (zl Qh:ak->(Int->Prop)->Prop) (K:ak->Prop),bL h g->(∀E:Int->Prop,E av.2->zl g E)->(∀bo,(∀y,g y≠none->¬c8 B G.L V y->bo y=g y)->∀E:Int->Prop,E av.1->Qh bo E)->(∀bo cB,hr G ws B { S with gone:=S.gone++[av] } a7 cB bo->bT (c8 B G.L V) h (c8 B G.L cB) bo->(∀y,g y≠none->¬c8 B G.L V y->bo y=g y)->K bo) ->
  ∃s1,br g B.cr (0+8)=some (bb s1)/\zl g λaw=>bj g (.cells #[U aw] t1) λay ad=>fh prog 64 s1 (.s ⟨some ⟨ay,0⟩,1,1,none⟩) ad λs2 an=>aX an ⟨B.cr,0+8⟩ [bb s2] λaK=>∃bG,br aK B.cr (0+9)=some (bb bG)/\Qh aK λaA=>bj aK (.cells #[U aA] t2) λaN aR=>fh prog 64 bG (.s ⟨some ⟨aN,0⟩,1,1,none⟩) aR λbX bp=>aX bp ⟨B.cr,0+9⟩ [bb bX] λb3=>K b3:=by
  intro g av t1 t2 zl Qh K cO ath ati eM
  have du:=R.bD o cO
  have uj:(zW S.gone).length=S.gone.length:=by simp[zW]
  have azL:(xW S.gone).length=S.gone.length:=by simp[xW]
  refine⟨_,az du.top rfl,ath _ <| Bt du.CO (λ_ _=>rfl) (av.2:Int) (by omega) λs2 g2 fe f2 kG aA=>?_⟩
  have abL:∀p x,fu B G.L V p x->p≠.e4->g2 x=g x:=λp x ai aS=>f2 x (du.dn o ai) λq aj e=>aS (R.jf p .e4 x ai ⟨q,aj,e⟩)
  have Qi:∀q,s2.q=some q->fu B G.L V .e4 q.b∨g q.b=none:=λq aj=>(kG q aj).imp (fun⟨p,aS,e⟩=>⟨p,aS,e⟩) id
  have uS:∀q,s2.q=some q->∀p x,fu B G.L V p x->p≠.e4->q.b≠x:=λq aj p x ai aS e=>(Qi q aj).elim (λh=>aS (R.jf p .e4 x ai (e▸h))) λau=>du.dn o ai (e▸au)
  have azM:∀q,s2.q=some q->¬bF B.m V.es q.b:=λq aj hm=>(Qi q aj).elim (λh=>R.jv .e4 _ h hm) λau=>du.mem.dn hm au
  have a8:=(abL .cr _ rfl (by simp)).trans du.top
  refine⟨_,_,a8,by simp,_,az (eH _ _ _) rfl,ati _ (λy aB aH=>(cQ _ _ λe=>aH (.inr ⟨.cr,e⟩)).trans (f2 y aB λq aj e=>aH (.inr ⟨.e4,q,aj,e⟩))) _ ?_⟩
  obtain⟨g3,Qj⟩:∃g3,g3=bA g2 B.cr (.cells (h5 (Gl G B V.e4 V.le) (0+8) [bb s2]) B.rX (0,0)):=⟨_,rfl⟩
  have b0:g3 B.cr=some (.cells (Gl G B s2 V.le) B.rX (0,0)):=by rw[Qj,eH];rfl
  have c7:∀y,y≠B.cr->g3 y=g2 y:=λy aB=>by rw[Qj];exact cQ _ _ aB
  rw[<-Qj]
  have abM:∀p x,fu B G.L V p x->p≠.cr->x≠B.cr:=λp x ai aS e=>aS (R.jf p .cr x ai e)
  have Qk:∀p x,fu B G.L V p x->p≠.e4->p≠.cr->g3 x=g x:=λp x ai aa ad=>(c7 x (abM p x ai ad)).trans (abL p x ai aa)
  have pe:cW eR lE g3 V.le (xW S.gone):=du.CP.move λq aj=>Qk .le _ ⟨q,aj,rfl⟩ (by simp) (by simp)
  refine Bt pe (λ_ _=>rfl) (av.1:Int) (by omega) λbX g4 iU f4 tC aO=>?_
  have aL:∀y,g3 y=none->g y=none:=λy aB=>aA y (by
   by_cases c:y=B.cr
   .rw[c,b0] at aB;cases aB
   .rw[c7 y c] at aB;exact aB)
  have tB:∀y,g3 y≠none->¬fu B G.L V .le y->g4 y=g3 y:=λy aB aH=>f4 y aB λq aj e=>aH ⟨q,aj,e⟩
  have abN:∀q,bX.q=some q->fu B G.L V .le q.b∨g3 q.b=none:=λq aj=>(tC q aj).imp (fun⟨p,aS,e⟩=>⟨p,aS,e⟩) id
  have b1:g4 B.cr=_:=(tB B.cr (by rw[b0];simp) λh=>by cases R.jf .cr .le _ rfl h).trans b0
  have abO:∀q,s2.q=some q->g2 q.b≠none:=λq aj=>(fe.bl aj).2
  have Ql:∀q,s2.q=some q->q.b≠B.cr:=λq aj=>uS q aj .cr _ rfl (by simp)
  have atj:∀q,s2.q=some q->¬fu B G.L V .le q.b:=λq aj h=>uS q aj .le _ h (by simp) rfl
  refine⟨_,_,b1,by simp,?_⟩
  obtain⟨g5,Qm⟩:∃g5,g5=bA g4 B.cr (.cells (h5 (Gl G B s2 V.le) (0+9) [bb bX]) B.rX (0,0)):=⟨_,rfl⟩
  have cy:g5 B.cr=some (.cells (Gl G B s2 bX) B.rX (0,0)):=by rw[Qm,eH];rfl
  have cm:∀y,y≠B.cr->g5 y=g4 y:=λy aB=>by rw[Qm];exact cQ _ _ aB
  rw[<-Qm]
  have d3:∀p x,fu B G.L V p x->p≠.e4->g3 x≠none:=λp x ai aa=>by
   by_cases c:p= .cr
   .subst c;rw[show x=B.cr from ai,b0];simp
   .rw[Qk p x ai aa c];exact du.dn o ai
  have Kr:∀p x,fu B G.L V p x->p≠.e4->p≠.le->p≠.cr->g5 x=g x:=λp x ai aa ad an=>(cm x (abM p x ai an)).trans ((tB x (d3 p x ai aa) λh=>ad (R.jf p .le x ai h)).trans (Qk p x ai aa an))
  have atk:∀x,bF B.m V.es x->g5 x=g x:=λx ai=>by
   have Gp:x≠B.cr:=λe=>R.jv .cr x e ai
   have an:g3 x=g x:=(c7 x Gp).trans (f2 x (du.mem.dn ai) λq aj e=>R.jv .e4 x ⟨q,aj,e⟩ ai)
   rw[cm x Gp,tB x (by rw[an];exact du.mem.dn ai) λh=>R.jv .le x h ai,an]
  have Qn:∀x,g x≠none->¬c8 B G.L V x->g5 x=g x:=λx ai aH=>by
   have Gp:x≠B.cr:=λe=>aH (.inr ⟨.cr,e⟩)
   have an:g3 x=g x:=(c7 x Gp).trans (f2 x ai λq aj e=>aH (.inr ⟨.e4,q,aj,e⟩))
   rw[cm x Gp,tB x (by rw[an];exact ai) λh=>aH (.inr ⟨.le,h⟩),an]
  have atl:∀x,g5 x=none->g x=none:=λx ai=>by
   by_cases c:x=B.cr
   .rw[c,cy] at ai;cases ai
   .rw[cm x c] at ai;exact aL x (aO x ai)
  have fy:cW eR lE g5 s2 (zW (S.gone++[av])):=by
   have e:zW (S.gone++[av])=zW S.gone++[(av.2:Int)]:=by simp[zW]
   rw[e]
   exact fe.move λq aj=>by
    have an:g3 q.b=g2 q.b:=c7 _ (Ql q aj)
    rw[cm _ (Ql q aj),tB _ (by rw[an];exact abO q aj) (atj q aj),an]
  have atm:∀q,bX.q=some q->q.b≠B.cr:=λq aj e=>(abN q aj).elim (λh=>by cases R.jf .le .cr _ h e) λau=>by rw[e,b0] at au;cases au
  have hD:cW eR lE g5 bX (xW (S.gone++[av])):=by
   have e:xW (S.gone++[av])=xW S.gone++[(av.1:Int)]:=by simp[xW]
   rw[e]
   exact iU.move λq aj=>cm _ (atm q aj)
  obtain⟨cB,iZ⟩:∃cB:jz,cB={ V with e4:=s2,le:=bX }:=⟨_,rfl⟩
  have at_:∀q,q≠.e4->q≠.le->∀x,fu B G.L cB q x↔fu B G.L V q x:=λq aa ad x=>by
   cases q with
   | e4=>exact absurd rfl aa
   | le=>exact absurd rfl ad
   | _=>rw[iZ];exact Iff.rfl
  have Qo:∀x,fu B G.L cB .e4 x->fu B G.L V .e4 x∨g x=none:=λx ⟨q,aj,e⟩=>by
   rw[iZ] at aj;rw[e];exact Qi q aj
  have Qp:∀x,fu B G.L cB .le x->fu B G.L V .le x∨g3 x=none:=λx ⟨q,aj,e⟩=>by
   rw[iZ] at aj;rw[e];exact abN q aj
  have atn:∀x,fu B G.L cB .e4 x->g3 x≠none:=λx ⟨q,aj,e⟩=>by
   rw[iZ] at aj;rw[e,c7 _ (Ql q aj)];exact abO q aj
  obtain⟨zZ,Ks⟩:∃zZ:jz,zZ={ V with e4:=s2 }:=⟨_,rfl⟩
  have aq:∀p,p≠.e4->∀x,fu B G.L zZ p x->fu B G.L V p x:=λp aS x ai=>by
   cases p with
   | e4=>exact absurd rfl aS
   | _=>rw[Ks] at ai;exact ai
  have aM:∀p,p≠.le->∀x,fu B G.L cB p x->fu B G.L zZ p x:=λp aS x ai=>by
   cases p with
   | le=>exact absurd rfl aS
   | _=>rw[iZ] at ai;rw[Ks];exact ai
  have abP:∀x,fu B G.L zZ .e4 x->fu B G.L cB .e4 x:=λx ai=>by rw[Ks] at ai;rw[iZ];exact ai
  have ato:∀x,fu B G.L V .le x->fu B G.L zZ .le x:=λx ai=>by rw[Ks];exact ai
  have Ko:=R.Ko o (cB:=zZ) (p0:= .e4) aq λx ai=>(Qo x (abP x ai)).imp id cO.free
  have atp:=abI (h:=g3) Ko (λp x ai=>by
   by_cases c:p= .e4
   .subst c;exact atn x (abP x ai)
   .exact d3 p x (aq p c x ai) c) aM λx ai=>(Qp x ai).imp (ato x) id
  have abQ:∀x,fu B G.L cB .e4 x∨fu B G.L cB .le x->c8 B G.L V x∨g x=none:=λx ai=>by
   rcases ai with ai|ai
   .exact(Qo x ai).imp (λh=> .inr ⟨_,h⟩) id
   .exact(Qp x ai).imp (λh=> .inr ⟨_,h⟩) (aL x)
  have Kt:cB.es=V.es:=by rw[iZ]
  have abR:cB.is=V.is:=by rw[iZ]
  have abS:∀p x,fu B G.L cB p x->c8 B G.L V x∨g x=none:=λp x ai=>by
   by_cases aQ:p= .e4
   .subst aQ;exact abQ x (.inl ai)
   .by_cases aY:p= .le
    .subst aY;exact abQ x (.inr ai)
    .exact .inl (.inr ⟨p,(at_ p aQ aY x).1 ai⟩)
  have atq:∀p x,fu B G.L cB p x->¬bF B.m V.es x:=λp x ai hm=>by
   by_cases aQ:p= .e4
   .subst aQ;exact(Qo x ai).elim (λh=>R.jv _ x h hm) (du.mem.dn hm)
   .by_cases aY:p= .le
    .subst aY;exact(Qp x ai).elim (λh=>R.jv _ x h hm) λh=>du.mem.dn hm (aL x h)
    .exact R.jv p x ((at_ p aQ aY x).1 ai) hm
  have hw:∀q,B.dQ.q=some q->0<ws.length->g5 q.b=g q.b:=λq aj aT=>Qn _ (du.kj q aj aT).1 (du.kj q aj aT).2
  refine eM g5 cB ⟨by rw[iZ];exact cy,by rw[Kt];exact du.mem.move atk,by rw[Kr .tb _ rfl (by simp) (by simp) (by simp)];exact du.py,du.zX.move hw,du.l_.move λq aj _=>Kr .b2 _ ⟨q,aj,rfl⟩ (by simp) (by simp) (by simp),λi hi=>by rw[abR,Kr (.ba i) _ ⟨hi,rfl⟩ (by simp) (by simp) (by simp)];exact du.gy i hi,
   λi hi=>by rw[abR];exact(du.ids i hi).move λq aj=>Kr (.is i) _ ⟨hi,q,aj,rfl⟩ (by simp) (by simp) (by simp),by rw[iZ];exact fy,by rw[iZ];exact hD,atp,by rw[Kt];exact atq,λq aj aT=>⟨by rw[hw q aj aT];exact(du.kj q aj aT).1,λa_=>?_⟩⟩ ⟨λx ai=>?_,λx ai aH=>?_,λx ai=>cO.free (atl x ai)⟩ Qn
  .have bV:=du.kj q aj aT
   rcases a_ with hm|⟨p,ai⟩
   .rw[Kt] at hm;exact bV.2 (.inl hm)
   .exact(abS p _ ai).elim bV.2 bV.1
  .rcases ai with hm|⟨p,ai⟩
   .rw[Kt] at hm;exact .inl (.inl hm)
   .exact(abS p x ai).imp id cO.free
  .rw[Qn x (by rw[cO x ai];exact ai) aH,cO x ai]
 refine apN _ _ _ _ _ ?_
 unfold ZT
 refine bM λae aa f1 aF aE=>?_
 have e1:¬c8 B G.L V ae:=R.out o f1
 unfold fM
 refine h4 (λbc=>?_) λbc=>?_
 .have bc:v=0:=of_decide_eq_true bc
  rw[if_pos bc]
  refine note aa sp _ _ (λg E=>∃aw,br g ae 1=some (U aw)/\E aw) (λg E=>∃aw,br g ae 0=some (U aw)/\E aw) _ aE (λE jJ=>⟨_,az aF rfl,jJ⟩) (λbo aU E jJ=>⟨_,az ((aU ae (by rw[aF];simp) e1).trans aF) rfl,jJ⟩) λbo cB dm fZ aU=>⟨_,az ((aU ae (by rw[aF];simp) e1).trans aF) rfl,cB,rfl,dm,fZ⟩
 .have bc:v≠0:=of_decide_eq_false bc
  rw[if_neg bc]
  have Bj:1<=v.toNat:=Nat.pos_of_ne_zero λe=>bc (UInt64.toNat_inj.1 e)
  have Jg:=aS bc
  rw[bf (n:=((p.toNat:Nat):Int)) (by omega) (by omega),bf (n:=((v.toNat:Nat):Int)) (by omega) (by omega),bf (by omega) (by omega),show((v.toNat:Nat):Int)-1=((v.toNat-1:Nat):Int) by omega]
  exact note aa (v.toNat-1,p.toNat) _ _ (λ_ E=>E _) (λ_ E=>E _) _ aE (λE jJ=>jJ) (λbo _ E jJ=>jJ) λbo cB dm fZ aU=>⟨cB,rfl,dm,fZ⟩
end
end Go.Proofs.Tryz
namespace Go.Proofs.Tryz
open Go Go.cD Go.RowKit
set_option maxRecDepth 8000
theorem abT {n:Nat}(h:1<=n/\n<=4):kT (if n*2=0 then #[] else Value.cells (.agg #[U 0,U 0])) (n*2)=(((List.range n).map λ_=>((0:Nat),(0:Nat))).flatMap q7).toArray:=by
 have:n=1∨n=2∨n=3∨n=4:=by omega
 clear h
 rcases this with rfl|rfl|rfl|rfl<;>(show _=_;kernel_rfl)
def Gq (x:UInt64):List Value:=[ab x]
theorem Qq (x:UInt64):(Gq x).length=1:=rfl
theorem atr {n:Nat}(h:1<=n/\n<=4):kT (if n*1=0 then #[] else Value.cells (.int .u64 0)) (n*1)=(((List.range n).map λ_=>(0:UInt64)).flatMap Gq).toArray:=by
 have:n=1∨n=2∨n=3∨n=4:=by omega
 clear h
 rcases this with rfl|rfl|rfl|rfl<;>(show _=_;kernel_rfl)
theorem abU {ga g:ak}{b n:Nat}{d:Nat->Nat×Nat}(A:cF 2 q7 ga g ⟨some ⟨b,0⟩,n,n,none⟩ ((List.range n).map d)){j:Nat}(aV:j<n):br g b (0+j*2)=some (U (d j).1)/\br g b (0+j*2+1)=some (U (d j).2):=by
 have:=wD CR (A.rd.rd ⟨b,0⟩ rfl) (i:=j) (by simpa using aV)
 rw[ri aV] at this
 exact⟨this.1,this.2.1⟩
theorem att {ga g:ak}{b n:Nat}{d:Nat->UInt64}(A:cF 1 Gq ga g ⟨some ⟨b,0⟩,n,n,none⟩ ((List.range n).map d)){j:Nat}(aV:j<n):br g b (0+j*1)=some (ab (d j)):=by
 have:=wD Qq (A.rd.rd ⟨b,0⟩ rfl) (i:=j) (by simpa using aV)
 rw[ri aV] at this
 exact this.1
theorem abV (a:Nat):UInt64.ofNat a+1=UInt64.ofNat (a+1):=by
 apply UInt64.toNat_inj.1
 rw[UInt64.toNat_add,UInt64.toNat_ofNat',UInt64.toNat_ofNat'];simp
section
variable {G:cG} {ws:List UInt64} {B:lT} {S:cU} {a7:List de} {V:jz} {h:ak}
set_option maxHeartbeats 8000000 in
theorem asv (o:G.da)(st:PU G B)(R:hr G ws B S a7 V h){op:fg}{k:Int}{d:c0}(fY:yG op k 0 d)(ag:k=0∨k=1∨k=3){x u0 a:Nat}(ai:x<2 ^ G.m)(eJ:kQ G (λp=>ws.getD p 0) u0 S.used S)(hu:S.used=u0+2*G.L*a)(c_:S.gone.length=G.L*a)
 (o3:S.used<1000000000000) (atu:S.gone.length<100000000000) (aT:a7.length<100000000000) (Kb:∀i,(S.ids i).length<1000000000000) :
 ao 98 [bg ⟨B.cr,0⟩,U k,ab (UInt64.ofNat x),ea d] h λr ah=>∃b_ cB,r= .tuple #[ea (c3 G (λp=>ws.getD p 0) op x S).2.1,.bool (c3 G (λp=>ws.getD p 0) op x S).2.2]/\hr G ws B (c3 G (λp=>ws.getD p 0) op x S).1 b_ cB ah/\bT (c8 B G.L V) h (c8 B G.L cB) ah /\
  b_=a7++qw G.m G.s G.t G.L G.f (((c3 G (λp=>ws.getD p 0) op x S).1.gone.drop S.gone.length).map λy=>(y.1:Int)):=by
 have e4:=o.st
 have dY:=o.L
 have hm:=o.m
 have atv:2 ^ G.m<=2 ^ 10:=Nat.pow_le_pow_right (by decide) hm
 have CS:x<2 ^ 62:=by omega
 have atw:Int.toNat (G.L:Int)=G.L:=by omega
 refine apb _ _ _ _ ?_
 unfold ZE
 refine bM λae aa f1 aF aE=>bM λay ad f2 a8 aC=>?_
 have fE:=aE.trans aC
 have c4:=R.bD o fE
 refine⟨λq1 aO bq aJ bd g=>q1=⟨B.cr,0⟩/\k=aO/\UInt64.ofNat x=bq/\aJ=⟨ae,0⟩/\bd=⟨ay,0⟩/\g=ad,?_,?_⟩
 .have ca:decide (cI ((2:Int) ^ G.m)<=UInt64.ofNat x)=false:=by
   rw[show(2:Int) ^ G.m=((2 ^ G.m:Nat):Int) by simp,jk (by omega)]
   refine decide_eq_false λhle=>?_
   have:=UInt64.le_iff_toNat_le.1 hle
   rw[UInt64.toNat_ofNat',UInt64.toNat_ofNat'] at this
   omega
  rcases ag with rfl|rfl|rfl
  .exact bS rfl ⟨_,az c4.top rfl,bS ca ⟨rfl,rfl,rfl,rfl,rfl,rfl⟩⟩
  .exact dg rfl (bS rfl ⟨_,az c4.top rfl,bS ca ⟨rfl,rfl,rfl,rfl,rfl,rfl⟩⟩)
  .exact dg rfl (dg rfl (bS rfl ⟨_,az c4.top rfl,bS ca ⟨rfl,rfl,rfl,rfl,rfl,rfl⟩⟩))
 rintro q1 aO bq aJ bd g ⟨rfl,rfl,rfl,rfl,rfl,rfl⟩
 refine⟨_,az c4.top rfl,by omega,by omega,by omega,by omega,bM λaN an f3 b0 aI=>⟨by omega,by omega,by omega,by omega,bM λbJ aK f4 b1 bh=>⟨by omega,by omega,by omega,by omega,bM λbZ aR f5 cy bE=>?_⟩⟩⟩
 rw[atw] at b0 b1 cy ⊢
 have sW:=(aI.trans bh).trans bE
 have jL:=fE.trans sW
 have f20:h ay=none:=aE.free f2
 have f30:h aN=none:=fE.free f3
 have f40:h bJ=none:=fE.free (aI.free f4)
 have f50:h bZ=none:=fE.free (aI.free (bh.free f5))
 have n34:aN≠bJ:=λe=>by rw[<-e,b0] at f4;cases f4
 have n35:aN≠bZ:=λe=>by rw[<-e,bh.get b0] at f5;cases f5
 have n45:bJ≠bZ:=λe=>by rw[<-e,b1] at f5;cases f5
 have jm:=R.bD o jL
 let bG:ar:=⟨some ⟨aN,0⟩,G.L,G.L,none⟩
 let bX:ar:=⟨some ⟨bJ,0⟩,G.L,G.L,none⟩
 let c5:ar:=⟨some ⟨bZ,0⟩,G.L,G.L,none⟩
 have j_:cF 2 q7 h aR bG ((List.range G.L).map λ_=>((0:Nat),(0:Nat))):=cF.qz CR f30 ((bh.trans bE).get b0) (abT dY) (by simp)
 have hp:cF 2 q7 h aR bX ((List.range G.L).map λ_=>((0:Nat),(0:Nat))):=cF.qz CR f40 (bE.get b1) (abT dY) (by simp)
 have js:cF 1 Gq h aR c5 ((List.range G.L).map λ_=>(0:UInt64)):=cF.qz Qq f50 cy (atr dY) (by simp)
 have g1:=(aC.trans sW).get aF
 have g2:=sW.get a8
 have hg:∀ {y:Nat},h y=none->¬c8 B G.L V y:=λaB=>R.out o aB
 have Qr:ae≠aN/\ae≠bJ/\ae≠bZ:=⟨(λe=>by rw[<-e,aC.get aF] at f3;cases f3),(λe=>by rw[<-e,(aC.trans aI).get aF] at f4;cases f4),λe=>by rw[<-e,((aC.trans aI).trans bh).get aF] at f5;cases f5⟩
 have Qs:ay≠aN/\ay≠bJ/\ay≠bZ:=⟨(λe=>by rw[<-e,a8] at f3;cases f3),(λe=>by rw[<-e,aI.get a8] at f4;cases f4),λe=>by rw[<-e,(aI.trans bh).get a8] at f5;cases f5⟩
 have al4:∀j,j<G.L->G.bH S.used j=S.used+2*(G.L-1-j):=λj _=>rfl
 have wn:∀ {b:Nat},h b=none->∀q,B.dQ.q=some q->0<ws.length->q.b≠b:=λau q aj aT e=>(R.kj q aj aT).1 (e▸au)
 refine⟨λbI bx bz c2 dj bu xS Cf Kh bt g bP=>bI=⟨B.cr,0⟩/\k=bx/\UInt64.ofNat x=bz/\c2=⟨ae,0⟩/\dj=⟨ay,0⟩/\bu=(G.L:Nat)/\xS=bG/\Cf=bX/\Kh=c5/\∃i:Nat,bt=(G.L:Int)-1-i/\i<=G.L/\bP=G.L-i/\hr G ws B { S with used:=S.used+2*i } a7 V g/\bT (c8 B G.L V) h (c8 B G.L V) g/\cF 2 q7 h g bG ((List.range G.L).map (drawn G (λp=>ws.getD p 0) S.used 0 (G.L-i)))/\cF 2 q7 h g bX ((List.range G.L).map (drawn G (λp=>ws.getD p 0) S.used 1 (G.L-i)))/\cF 1 Gq h g c5 ((List.range G.L).map λy=>if G.L-i<=y then cE x y else 0)/\g ae=aR ae/\g ay=aR ay,
  ⟨G.L,rfl,rfl,rfl,rfl,rfl,rfl,rfl,rfl,rfl,0,by rw[bf (by omega) (by omega)];omega,by omega,rfl,jm,hF jL _,?_,?_,?_,rfl,rfl⟩,?_⟩
 .have e:(List.range G.L).map (drawn G (λp=>ws.getD p 0) S.used 0 (G.L-0))=(List.range G.L).map λ_=>((0:Nat),(0:Nat)):=List.map_congr_left λy aB=>by unfold drawn;rw[if_neg (by have:=List.mem_range.1 aB;omega)]
  rw[e];exact j_
 .have e:(List.range G.L).map (drawn G (λp=>ws.getD p 0) S.used 1 (G.L-0))=(List.range G.L).map λ_=>((0:Nat),(0:Nat)):=List.map_congr_left λy aB=>by unfold drawn;rw[if_neg (by have:=List.mem_range.1 aB;omega)]
  rw[e];exact hp
 .have e:(List.range G.L).map (λy=>if G.L-0<=y then cE x y else 0)=(List.range G.L).map λ_=>(0:UInt64):=List.map_congr_left λy aB=>by rw[if_neg (by have:=List.mem_range.1 aB;omega)]
  rw[e];exact js
 clear j_ hp js
 rintro bI bx bz c2 dj bu xS Cf Kh bt g bP ⟨rfl,rfl,rfl,rfl,rfl,rfl,rfl,rfl,rfl,i,rfl,hi,rfl,du,jY,j_,hp,js,q3,Ku⟩
 refine cd (λca=>?_) λdx=>?_
 .have b5:i<G.L:=by omega
  obtain⟨j,aV⟩:∃j:Nat,j=G.L-1-i:=⟨_,rfl⟩
  have Gr:(G.L:Int)-1-i=j:=by omega
  rw[Gr]
  have CT:G.bH S.used j=S.used+2*i:=by unfold cG.bH;omega
  have abW:∀e:Nat,(λy=>if y=j then (G.leaf (λp=>ws.getD p 0) j (G.bH S.used j+e),G.bH S.used j+e) else drawn G (λp=>ws.getD p 0) S.used e (G.L-i) y)=drawn G (λp=>ws.getD p 0) S.used e (G.L-(i+1)):=λe=>by
   funext y
   unfold drawn
   by_cases c:y=j
   .subst c;rw[if_pos rfl,if_pos (by omega)]
   .rw[if_neg c]
    by_cases aY:G.L-i<=y/\y<G.L
    .rw[if_pos aY,if_pos (by omega)]
    .rw[if_neg aY,if_neg (by omega)]
  have CU:∀ {hJ:Nat} {α:Type} {f:α->List Value} {g bo:ak} {b:Nat} {l:List α},bT (c8 B G.L V) g (c8 B G.L V) bo->h b=none->cF hJ f h g ⟨some ⟨b,0⟩,G.L,G.L,none⟩ l->cF hJ f h bo ⟨some ⟨b,0⟩,G.L,G.L,none⟩ l:=λv au A=>A.move λq aj=>(by cases aj;exact v.2.1 _ (A.bl (q:=⟨_,0⟩) rfl).2 (hg au))
  have CV:∀ {hJ:Nat} {α:Type} {f:α->List Value} {g bo:ak} {b c:Nat} {l:List α},(∀y,y≠c->bo y=g y)->b≠c->cF hJ f h g ⟨some ⟨b,0⟩,G.L,G.L,none⟩ l->cF hJ f h bo ⟨some ⟨b,0⟩,G.L,G.L,none⟩ l:=λv au A=>A.move λq aj=>(by cases aj;exact v _ au)
  refine(abK o du (i:=j) (by omega) (by show S.used+2*i<2 ^ 62;omega)).mono ?_
  rintro _ pz ⟨rfl,iS,km⟩
  refine⟨_,_,rfl,⟨aN,0⟩,rfl,by omega,by show(j:Int)+1<=(G.L:Nat);omega,?_⟩
  refine uD CR (CU km f30 j_) (q:=⟨aN,0⟩) rfl (i:=j) (by omega) (G.leaf (λp=>ws.getD p 0) j (S.used+2*i),S.used+2*i) λoU Qt sY=>?_
  have Qt:cF 2 q7 h oU bG ((List.range G.L).map (drawn G (λp=>ws.getD p 0) S.used 0 (G.L-(i+1)))):=by
   have e:=abW 0
   rw[Nat.add_zero,CT] at e
   rw[<-e];exact Qt
  have pO:=iS.loc (hg f30) (wn f30) sY
  have Qu:bT (c8 B G.L V) h (c8 B G.L V) oU:=⟨(jY.trans km).1,λy aB aH=>(sY y λe=>aB (e▸f30)).trans ((jY.trans km).2.1 y aB aH),λy aB=>by
   by_cases c:y=aN
   .rw[c];exact f30
   .rw[sY y c] at aB;exact(jY.trans km).2.2 y aB⟩
  refine(abK o pO (i:=j) (by omega) (by show S.used+2*i+1<2 ^ 62;omega)).mono ?_
  rintro _ rY ⟨rfl,u1,sZ⟩
  refine⟨_,_,rfl,⟨bJ,0⟩,rfl,by omega,by show(j:Int)+1<=(G.L:Nat);omega,?_⟩
  refine uD CR (CU sZ f40 (CV sY (Ne.symm n34) (CU km f40 hp))) (q:=⟨bJ,0⟩) rfl (i:=j) (by omega) (G.leaf (λp=>ws.getD p 0) j (S.used+2*i+1),S.used+2*i+1) λCW Qv ma=>?_
  have Qv:cF 2 q7 h CW bX ((List.range G.L).map (drawn G (λp=>ws.getD p 0) S.used 1 (G.L-(i+1)))):=by
   have e:=abW 1
   rw[CT] at e
   rw[<-e];exact Qv
  rw[show al (2*(j:Int))=((2*j:Nat):Int) by rw[bf (by omega) (by omega)];omega,show Int.toNat ((2*j:Nat):Int)=2*j by omega,abX CS (by omega)]
  refine⟨by omega,⟨bZ,0⟩,rfl,by omega,by show(j:Int)+1<=(G.L:Nat);omega,?_⟩
  refine uD Qq (CV ma (Ne.symm n45) (CU sZ f50 (CV sY (Ne.symm n35) (CU km f50 js)))) (q:=⟨bZ,0⟩) rfl (i:=j) (by omega) (cE x j) λKv atx s0=>?_
  have z1:=Qu.trans sZ
  have abY:∀ {y:Nat},h y=none->y≠aN->y≠bJ->y≠bZ->g y≠none->Kv y=g y:=λ{y} aB aL aO bm bV=>by
   have sH:=km.2.1 y bV (hg aB)
   have dh:=(sY y aL).trans sH
   have rR:=(sZ.2.1 y (by rw[dh];exact bV) (hg aB)).trans dh
   rw[s0 y bm,ma y aO,rR]
  refine⟨G.L-(i+1),by omega,rfl,rfl,rfl,rfl,rfl,rfl,rfl,rfl,rfl,i+1,by rw[bf (by omega) (by omega)];omega,by omega,rfl,?_,?_,CV s0 n35 (CV ma n34 (CU sZ f30 Qt)),CV s0 n45 Qv,?_,(abY f1 Qr.1 Qr.2.1 Qr.2.2 (by rw[q3,g1];simp)).trans q3,(abY f20 Qs.1 Qs.2.1 Qs.2.2 (by rw[Ku,g2];simp)).trans Ku⟩
  .have e:S.used+2*(i+1)=S.used+2*i+1+1:=by omega
   rw[e]
   exact((u1.loc (hg f40) (wn f40) ma).loc (hg f50) (wn f50) s0)
  .refine⟨z1.1,λy aB aH=>(s0 y λe=>aB (e▸f50)).trans ((ma y λe=>aB (e▸f40)).trans (z1.2.1 y aB aH)),λy aB=>?_⟩
   by_cases fJ:y=bZ
   .rw[fJ];exact f50
   .rw[s0 y fJ] at aB
    by_cases dz:y=bJ
    .rw[dz];exact f40
    .rw[ma y dz] at aB;exact z1.2.2 y aB
  .have e:(λy=>if y=j then cE x j else if G.L-i<=y then cE x y else 0)=λy=>if G.L-(i+1)<=y then cE x y else 0:=by
    funext y
    by_cases c:y=j
    .rw[if_pos c,if_pos (by omega),c]
    .rw[if_neg c]
     by_cases aY:G.L-i<=y
     .rw[if_pos aY,if_pos (by omega)]
     .rw[if_neg aY,if_neg (by omega)]
   rw[<-e];exact atx
 have hi:i=G.L:=by omega
 subst hi
 clear dx
 rw[Nat.sub_self] at j_ hp js
 let Y:Nat->Prop:=λy=>y=ae∨y=ay∨y=aN∨y=bJ∨y=bZ
 have zm:∀y,Y y->h y=none:=by rintro y (rfl|rfl|rfl|rfl|rfl)<;>assumption
 have mB:∀y,Y y->g y≠none:=by
  rintro y (rfl|rfl|rfl|rfl|rfl)
  .rw[q3,g1];simp
  .rw[Ku,g2];simp
  .exact(j_.bl (q:=⟨_,0⟩) rfl).2
  .exact(hp.bl (q:=⟨_,0⟩) rfl).2
  .exact(js.bl (q:=⟨_,0⟩) rfl).2
 have aty:∀y,Y y->¬c8 B G.L V y:=λy aB=>hg (zm y aB)
 have lY:Y ae:= .inl rfl
 have kE:Y ay:= .inr (.inl rfl)
 have nB:Y aN:= .inr (.inr (.inl rfl))
 have sk:Y bJ:= .inr (.inr (.inr (.inl rfl)))
 have iH:Y bZ:= .inr (.inr (.inr (.inr rfl)))
 have xX:∀e j,j<G.L->drawn G (λp=>ws.getD p 0) S.used e 0 j=(G.leaf (λp=>ws.getD p 0) j (G.bH S.used j+e),G.bH S.used j+e):=λe j aV=>by unfold drawn;rw[if_pos ⟨Nat.zero_le _,aV⟩]
 have Gs:∀j:Nat,Int.toNat (j:Int)=j:=λj=>by omega
 have qH:∀ {bo:ak},(∀y,Y y->bo y=g y)->∀j,j<G.L->br bo aN (0+Int.toNat (j:Int)*2)=some (U (G.leaf (λp=>ws.getD p 0) j (G.bH S.used j)))/\br bo aN (0+Int.toNat (j:Int)*2+1)=some (U (G.bH S.used j)):=λaB j aV=>by
  have:=abU j_ aV
  rw[xX 0 j aV,Nat.add_zero] at this
  rw[Gs,qG (aB aN nB),qG (aB aN nB)];exact this
 have w3:∀ {bo:ak},(∀y,Y y->bo y=g y)->∀j,j<G.L->br bo bJ (0+Int.toNat (j:Int)*2)=some (U (G.leaf (λp=>ws.getD p 0) j (G.bH S.used j+1)))/\br bo bJ (0+Int.toNat (j:Int)*2+1)=some (U ((G.bH S.used j+1:Nat):Int)):=λaB j aV=>by
  have:=abU hp aV
  rw[xX 1 j aV] at this
  rw[Gs,qG (aB bJ sk),qG (aB bJ sk)];exact this
 have yY:∀ {bo:ak},(∀y,Y y->bo y=g y)->∀j,j<G.L->br bo bZ (0+Int.toNat (j:Int)*1)=some (ab (cE x j)):=λaB j aV=>by
  have:=att js aV
  rw[if_pos (Nat.zero_le _)] at this
  rw[Gs,qG (aB bZ iH)];exact this
 have Qw:∀j p,G.leaf (λp=>ws.getD p 0) j p<1024:=λj p=>xj (w:=λp=>ws.getD p 0) o j p
 have Kw:∀j,G.bH S.used j<1000000000100:=λj=>by unfold cG.bH;omega
 have Qx:al ((G.L:Int)-1)=((G.L-1:Nat):Int):=by rw[bf (by omega) (by omega)];omega
 have vv:=(n0 o ai (h:=G.L-1)).1
 have sQ:=AO o ai
 have Gt:G.L-1<G.L:=by omega
 have Kx:((G.L-1:Nat):Int)+1<=((G.L:Nat):Int):=by omega
 refine⟨some ⟨B.m.b,0⟩,az du.top rfl,_,az du.top rfl,?_⟩
 rw[Qx]
 refine⟨⟨bZ,0⟩,rfl,by omega,Kx,_,yY (λ_ _=>rfl) _ Gt,?_⟩
 refine(as1 du.mem st.q5 (cE x (G.L-1)) (by omega)).mono ?_
 rintro _ cu ⟨ih,rfl,CX,jF⟩
 rw[vv,if_pos (by rw[st.q6];exact sQ)]
 obtain⟨uk,CY⟩:=du.uL o CX jF
 obtain⟨Ky,abZ⟩:=l6 CY mB aty
 have CZ:=jY.trans CY
 generalize s3:S.R G.f (x/4 ^ (G.L-1))=nH
 refine⟨nH,rfl,bM λdC dM f6 dE jK=>?_⟩
 have f60:h dC=none:=CZ.2.2 _ f6
 refine fB (n:=12) (CZ.more jK) f60 dE rfl λcM xb q2 lh=>bM λeo dX f7 fo kF=>?_
 have f70:h eo=none:=xb.2.2 _ f7
 have Ct:eo≠dC:=λe=>by rw[e,q2] at f7;cases f7
 have uZ:∀y,cu y≠none->dX y=cu y:=λy aB=>by
  have e:cM y=cu y:=by rw[lh y λe=>aB (e▸f6),jK y aB]
  rw[kF y (by rw[e];exact aB),e]
 have ab0:cu eo=none:=by
  cases c:cu eo with
  | none=>rfl
  | some e3 =>
   have:cM eo=cu eo:=by rw[lh eo Ct,jK eo (by rw[c];simp)]
   rw[f7,c] at this;cases this
 have C0:=uk.bD (ah:=dX) o uZ
 have Qy:∀y,Y y->dX y=g y:=λy aB=>by rw[uZ y (by rw[Ky y aB];exact mB y aB),Ky y aB]
 refine⟨⟨aN,0⟩,rfl,by omega,Kx,_,(qH Qy _ Gt).1,Int.NonNeg.mk _,Int.NonNeg.mk _,?_⟩
 have ab1:∀y,Y y->y≠eo:=λy aB e=>mB y aB (by rw[<-Ky y aB,e];exact ab0)
 have ab2:¬c8 B G.L { V with es:=ih } eo:=uk.out o ab0
 have atz:¬c8 B G.L { V with es:=ih } dC:=uk.out o f6
 refine mU (n:=12) (c:=e6) (i:=0) (xb.more kF) f70 fo (by decide) λdy Kz nF p8=>?_
 have Qz:∀y,Y y->dy y=g y:=λy aB=>(p8 y (ab1 y aB)).trans (Qy y aB)
 refine⟨⟨aN,0⟩,rfl,by omega,Kx,_,(qH Qz _ Gt).2,Int.NonNeg.mk _,Int.NonNeg.mk _,?_⟩
 refine mU (n:=12) (i:=1) Kz f70 nF (by decide) λeV KA xY pr=>?_
 have KB:∀y,Y y->eV y=g y:=λy aB=>(pr y (ab1 y aB)).trans (Qz y aB)
 have vV:=(C0.loc ab2 (wn f70) p8).loc ab2 (wn f70) pr
 rw[jk (by have:=Qw (G.L-1) (G.bH S.used (G.L-1));omega),jk (by have:=Kw (G.L-1);omega),abV,ab3] at xY
 have ab4:eV dC=_:=((pr dC (Ne.symm Ct)).trans (p8 dC (Ne.symm Ct))).trans (kF.get q2)
 refine⟨some ⟨B.m.b,0⟩,az vV.top rfl,_,az vV.top rfl,⟨bZ,0⟩,rfl,by omega,Kx,_,yY KB _ Gt,_,dv xY,?_⟩
 have qv:(reads (G.f:Int) (B.m.cf G.f)).length=B.m.cf G.f:=wG _ _
 have oD:=R.mem.cf G.f st.q5
 refine(aa6 vV.mem st.q5 (cE x (G.L-1)) _ true (by simp only[List.length_append,qv];omega)).mono ?_
 rintro _ eP ⟨ds,rfl,vo,xv⟩
 rw[vv,if_pos ⟨by rw[st.q6];exact sQ,rfl⟩] at vo
 obtain⟨s4,xZ⟩:=vV.uL o vo xv
 have QA:=xZ.get ab4 atz
 obtain⟨KC,ab5⟩:=l6 xZ (λy aB=>by rw[KB y aB];exact mB y aB) abZ
 have KC:∀y,Y y->eP y=g y:=λy aB=>(KC y aB).trans (KB y aB)
 have xg:=KA.trans xZ
 have s4:hr G ws B (G.begin (λp=>ws.getD p 0) (x/4 ^ (G.L-1)) S) _ { V with es:=ds } eP:=s4
 obtain⟨KD,z2⟩:=Ed o hu (by omega) eJ sQ
 rw[s3] at z2
 have Gu:∀ {v p:UInt64} {oo j:Nat} {gJ:cU},sn G (λp=>ws.getD p 0) u0 oo j gJ v p->v.toNat<2 ^ 62:=λ{v p oo j gJ} c=>by
  by_cases bQ:v=0
  .rw[bQ];decide
  .have:=(c.oA bQ).1.val
   have:=Qw j p.toNat
   omega
 have C1:c3 G (λp=>ws.getD p 0) op x S=jR G (λp=>ws.getD p 0) S.used op x (G.L-1) nH[0] nH[1] (G.begin (λp=>ws.getD p 0) (x/4 ^ (G.L-1)) S):=by rw[<-s3];rfl
 generalize hY:c3 G (λp=>ws.getD p 0) op x S=F
 rw[hY] at C1
 have ts:B.m.cf G.f=w5 G.m G.L:=st.q6
 generalize um:a7++reads (G.f:Int) (B.m.cf G.f)++writes (G.f:Int) (B.m.cf G.f)=pre at s4
 have atA:pre.length<=a7.length+3*4096:=by
  rw[<-um];simp only[List.length_append,qv,ru];omega
 have ab6:=q3.trans g1
 have atB:=Ku.trans g2
 refine⟨rfl,Int.NonNeg.mk _,Int.NonNeg.mk _,_,fb QA (i:=0) (by decide),Int.NonNeg.mk _,Int.NonNeg.mk _,_,fb QA (i:=1) (by decide),?_⟩
 refine⟨λft dp fj hS ik ab7 ab8 ab9 v p cC bo bP=>ft=⟨B.cr,0⟩/\k=dp/\UInt64.ofNat x=fj/\hS=⟨ae,0⟩/\ik=⟨ay,0⟩/\ab7=bG/\ab8=bX/\ab9=c5/\∃(j:Nat) (gJ:cU) (oV:List de) (z6:jz),cC=j/\j<G.L/\j=bP/\hr G ws B gJ oV z6 bo/\bT (c8 B G.L V) h (c8 B G.L z6) bo/\(∀y,Y y->bo y=g y)/\(∀y,Y y->¬c8 B G.L z6 y) /\
  jR G (λp=>ws.getD p 0) S.used op x j v p gJ=F/\kQ G (λp=>ws.getD p 0) u0 (G.bH S.used j+1) gJ/\sn G (λp=>ws.getD p 0) u0 (G.bH S.used j+1) j gJ v p/\gJ.gone.length=S.gone.length+(G.L-1-j)/\oV=pre++oc G.m G.s G.t G.L G.f ((gJ.gone.drop S.gone.length).map λy=>(y.1:Int)) (G.L-1-j)/\∀y,y<=j->gJ.ids y=S.ids y,
  ⟨G.L-1,rfl,rfl,rfl,rfl,rfl,rfl,rfl,rfl,G.L-1,_,_,_,rfl,Gt,rfl,s4,xg,KC,ab5,C1.symm,KD,z2,by rw[Nat.sub_self];rfl,by simp[oc],λ_ _=>rfl⟩,?_⟩
 clear s4 xg KC ab5 KD z2 C1 QA xv vo xZ vV C0 uk KA Kz xb CZ CX jF CY Ky Qy Qz KB abZ ab4 xY nF q2 du jY
 rintro ft dp fj hS ik ab7 ab8 ab9 v p cC bo bP ⟨rfl,rfl,rfl,rfl,rfl,rfl,rfl,rfl,j,gJ,oV,z6,rfl,k2,rfl,du,jY,qc,ab_,tY,KE,x0,uj,od,aca⟩
 have QB:((j:Nat):Int)+1<=((G.L:Nat):Int):=by omega
 have QC:=Gu x0
 have atC:oV.length<100050000000:=by
  have:=Nx e4 (G.f:Int) ((gJ.gone.drop S.gone.length).map λy=>(y.1:Int)) (G.L-1-j)
  rw[od,List.length_append];omega
 have vj:=n0 o ai (h:=j)
 have lvl:=du.l_.len
 simp only[List.length_map,List.length_range] at lvl
 have KF:∀ {g2:ak} {fy:cU} {eL:List de} {eY:jz},hr G ws B fy eL eY g2->∀ {ph:aD},B.b2.q=some ph->br g2 ph.b (ph.o+j)=some (bg ⟨B.ba j,0⟩):=λ{_ _ _ _} c4 {ph} s5=>by
  obtain⟨azN,acb,pS⟩:=c4.l_.at (i:=j) (by simp;omega)
  rw[s5] at acb;cases acb
  rw[pS];simp
 obtain⟨ph,s5,_⟩:=du.l_.at (i:=j) (by simp;omega)
 have acd:∀ {g2:ak} {fy:cU} {eL:List de} {eY:jz},hr G ws B fy eL eY g2->∀q,(eY.is j).q=some q->q.b≠B.ba j/\¬bF B.m eY.es q.b:=λc4 q aj=>⟨λe=>(by cases c4.jf (.is j) (.ba j) _ ⟨k2,q,aj,rfl⟩ ⟨k2,e⟩),c4.jv (.is j) _ ⟨k2,q,aj,rfl⟩⟩
 obtain⟨gI,z7⟩:=wO o hu (by omega) KE x0 (by rw[uj,c_])
 have ace:∀ {g2:ak},hr G ws B gJ oV z6 g2->ao 124 [bg ⟨B.cr,0⟩,ab v,ab p,.agg #[U (G.leaf (λp=>ws.getD p 0) j (G.bH S.used j+1)),U ((G.bH S.used j+1:Nat):Int)]] g2 λr ah=>∃cB,r=U (fM v p (G.leaf (λp=>ws.getD p 0) j (G.bH S.used j+1),G.bH S.used j+1)).1/\hr G ws B { gJ with gone:=gJ.gone++[fM v p (G.leaf (λp=>ws.getD p 0) j (G.bH S.used j+1),G.bH S.used j+1)] } oV cB ah/\bT (c8 B G.L z6) g2 (c8 B G.L cB) ah:=λc4 =>
  atg o c4 QC (λbQ=>by have:=(x0.oA bQ).1.lt;have:=Kw j;omega) (sp:=(G.leaf (λp=>ws.getD p 0) j (G.bH S.used j+1),G.bH S.used j+1)) (by omega)
 generalize Gv:fM v p (G.leaf (λp=>ws.getD p 0) j (G.bH S.used j+1),G.bH S.used j+1)=av at *
 have JU:(gJ.ids j).length<1000000000000:=by rw[aca j (Nat.le_refl _)];exact Kb j
 refine cd (λrK=>?_) λrK=>?_
 .obtain⟨cT,rfl⟩:∃cT,j=cT+1:=⟨j-1,by omega⟩
  have QD:al (((cT+1:Nat):Int)-1)=(cT:Nat):=by rw[bf (by omega) (by omega)];omega
  rw[QD]
  have QE:((cT:Nat):Int)+1<=((G.L:Nat):Int):=by omega
  refine⟨⟨bZ,0⟩,rfl,by omega,QE,_,yY qc cT (by omega),by decide,bM λfG rY f8 fP s6=>?_⟩
  have f80:h fG=none:=jY.2.2 _ f8
  have KG:¬c8 B G.L z6 fG:=du.out o f8
  have acf:∀y,Y y->y≠fG:=λy aB e=>mB y aB (by rw[<-qc y aB,e];exact f8)
  have KH:∀y,Y y->rY y=g y:=λy aB=>(s6 y (by rw[qc y aB];exact mB y aB)).trans (qc y aB)
  refine⟨⟨aN,0⟩,rfl,by omega,QE,_,(qH KH cT (by omega)).1,Int.NonNeg.mk _,Int.NonNeg.mk _,?_⟩
  refine mU (n:=8) (c:=jB) (i:=0) (jY.more s6) f80 fP (by decide) λKv QF atD s0=>?_
  have acg:∀y,Y y->Kv y=g y:=λy aB=>(s0 y (acf y aB)).trans (KH y aB)
  refine⟨⟨aN,0⟩,rfl,by omega,QE,_,(qH acg cT (by omega)).2,Int.NonNeg.mk _,Int.NonNeg.mk _,?_⟩
  refine mU (n:=8) (i:=1) QF f80 atD (by decide) λC2 Gw KI KJ=>?_
  have C3:∀y,Y y->C2 y=g y:=λy aB=>(KJ y (acf y aB)).trans (acg y aB)
  have x1:=((du.bD o s6).loc KG (wn f80) s0).loc KG (wn f80) KJ
  rw[jk (by have:=Qw cT (G.bH S.used cT);omega),jk (by have:=Kw cT;omega),abV] at KI
  refine⟨_,az x1.top rfl,ph,s5,by omega,by omega,some ⟨B.ba (cT+1),0⟩,by rw[Gs,Nat.mul_one];exact KF x1 s5,⟨bZ,0⟩,rfl,by omega,QB,_,yY C3 _ k2,_,dv KI,⟨bJ,0⟩,rfl,by omega,QB,_,(w3 C3 _ k2).1,_,(w3 C3 _ k2).2,⟨aN,0⟩,rfl,by omega,QB,_,(qH C3 _ k2).1,?_⟩
  refine(ace x1).mono ?_
  rintro _ pz ⟨Gx,rfl,iS,km⟩
  obtain⟨pA,QG⟩:=l6 km (λy aB=>by rw[C3 y aB];exact mB y aB) ab_
  have pA:∀y,Y y->pz y=g y:=λy aB=>(pA y aB).trans (C3 y aB)
  have atE:=km.get KI KG
  have azO:=km.out (by rw[KI];simp) KG
  have QH:=Gw.trans km
  refine⟨_,rfl,⟨(qH pA _ k2).1,trivial⟩,dv atE,⟨yY pA _ k2,trivial⟩,⟨by rw[Gs,Nat.mul_one];exact KF iS s5,trivial⟩,⟨az iS.top rfl,trivial⟩,?_⟩
  have oH:=(n0 o ai (h:=cT)).1
  generalize aj:x/4 ^ cT%4=i_
  have ng:i_<4:=by rw[<-aj];exact Nat.mod_lt _ (by decide)
  have QI:al (2*al ((cE x cT%4).toNat:Int))=((2*i_:Nat):Int):=by
   have aF:(cE x cT%4).toNat=i_:=by
    rw[UInt64.toNat_mod,oH,<-aj];rfl
   rw[aF,bf (n:=(i_:Int)) (by omega) (by omega),bf (by omega) (by omega)];omega
  have QJ:al (((2*i_:Nat):Int)+1)=((2*i_+1:Nat):Int):=by rw[bf (by omega) (by omega)];omega
  rw[QI,QJ]
  refine(aas (o.gy (cT+1)) (st.o8 (cT+1) k2) iS.mem (iS.gy (cT+1) k2) (iS.ids (cT+1) k2) (iS.jv (.ba (cT+1)) _ ⟨k2,rfl⟩) (acd iS) JU (av:=av.1) (to:=G.leaf (λp=>ws.getD p 0) (cT+1) (G.bH S.used (cT+1))) gI (G.o4 _ (cT+1) _) (bi:=cE x (cT+1)) vj.2 (z7.mf (cT+1) k2)
   (op:= .part (2*i_) (UInt64.ofNat (G.leaf (λp=>ws.getD p 0) cT (G.bH S.used cT)+1)) (UInt64.ofNat (G.bH S.used cT))) ⟨rfl,rfl,by omega,by simp,by simp⟩ (by omega)).mono ?_
  rintro _ C4 ⟨ach,azP,rfl,QK,QL,atF,QM,atG,atH,QN⟩
  obtain⟨Gy,vW⟩:=iS.Gm o (i:=cT+1) k2 QK QL atF QM atG atH QN
  obtain⟨Gz,atI⟩:=l6 vW (λy aB=>by rw[pA y aB];exact mB y aB) QG
  have Gz:∀y,Y y->C4 y=g y:=λy aB=>(Gz y aB).trans (pA y aB)
  have GA:=QH.trans vW
  obtain⟨QO,C5⟩:=Ec o (u0:=u0) (u:=S.used) (h:=cT) (q1:=i_) (by omega) ng (by have:=Kw cT;omega) hu z7 (id:=cE x (cT+1)) vj.2 gI (G.o4 (λp=>ws.getD p 0) (cT+1) (G.bH S.used (cT+1)))
  refine⟨_,_,rfl,bM λic atJ f9 gd C6=>?_⟩
  have f90:h ic=none:=GA.2.2 _ f9
  have atK:=Gy.out o f9
  have atL:∀y,Y y->y≠ic:=λy aB e=>mB y aB (by rw[<-Gz y aB,e];exact f9)
  refine fB (n:=8) (GA.more C6) f90 gd rfl λaci QP acj KK=>?_
  rw[vX _ (by omega),vX _ (by omega)] at C5
  refine⟨by omega,by omega,_,by rw[show 0+Int.toNat ((2*i_:Nat):Int)*1=2*i_ by omega];exact fb acj (by omega),by omega,by omega,_,by rw[show 0+Int.toNat ((2*i_+1:Nat):Int)*1=2*i_+1 by omega];exact fb acj (by omega),?_⟩
  refine⟨cT,by omega,rfl,rfl,rfl,rfl,rfl,rfl,rfl,rfl,cT,G.acc (cT+1) (.part (2*i_) (UInt64.ofNat (G.leaf (λp=>ws.getD p 0) cT (G.bH S.used cT)+1)) (UInt64.ofNat (G.bH S.used cT))) (cE x (cT+1)) av.1 (G.leaf (λp=>ws.getD p 0) (cT+1) (G.bH S.used (cT+1))) { gJ with gone:=gJ.gone++[av] },oV++ob (G.d_ (cT+1)).k (G.d_ (cT+1)).s (G.d_ (cT+1)).t (G.base (cT+1)) av.1,_,rfl,by omega,rfl,(Gy.bD o C6).loc atK (wn f90) KK,QP,λy aB=>(KK y (atL y aB)).trans ((C6 y (by rw[Gz y aB];exact mB y aB)).trans (Gz y aB)),atI,?_,QO,C5,?_,?_,λy aB=>?_⟩
  .rw[<-vX _ (show 2*i_<8 by omega),<-vX _ (show 2*i_+1<8 by omega),<-tY,<-Gv,<-aj];rfl
  .show(gJ.gone++[av]).length=_;rw[List.length_append,uj];simp;omega
  .rw[od,KL (j:=cT+1) uj (by omega),show G.L-1-cT=G.L-1-(cT+1)+1 by omega];rfl
  .show(if y=cT+1 then _ else gJ.ids y)=_
   rw[if_neg (by omega)];exact aca y (by omega)
 .have u7:j=0:=by omega
  subst u7
  have QQ:UInt64.ofNat x=cE x 0:=by unfold cE;simp
  have ack:(1:Int)<=((G.L:Nat):Int):=by omega
  refine⟨_,az du.top rfl,ph,s5,Int.NonNeg.mk _,by omega,some ⟨B.ba 0,0⟩,KF du s5,d,dv ((qc ae lY).trans ab6),⟨bJ,0⟩,rfl,Int.NonNeg.mk _,ack,_,(w3 qc 0 k2).1,_,(w3 qc 0 k2).2,⟨aN,0⟩,rfl,Int.NonNeg.mk _,ack,_,(qH qc 0 k2).1,?_⟩
  refine(ace du).mono ?_
  rintro _ pz ⟨Gx,rfl,iS,km⟩
  obtain⟨pA,QG⟩:=l6 km (λy aB=>by rw[qc y aB];exact mB y aB) ab_
  have pA:∀y,Y y->pz y=g y:=λy aB=>(pA y aB).trans (qc y aB)
  have QH:=jY.trans km
  refine⟨_,rfl,⟨(qH pA 0 k2).1,trivial⟩,dv ((pA ae lY).trans ab6),⟨KF iS s5,trivial⟩,⟨az iS.top rfl,trivial⟩,?_⟩
  rw[QQ]
  refine(aas (o.gy 0) (st.o8 0 k2) iS.mem (iS.gy 0 k2) (iS.ids 0 k2) (iS.jv (.ba 0) _ ⟨k2,rfl⟩) (acd iS) JU (av:=av.1) (to:=G.leaf (λp=>ws.getD p 0) 0 (G.bH S.used 0)) gI (G.o4 _ 0 _) (bi:=cE x 0) vj.2 (z7.mf 0 k2) fY (by omega)).mono ?_
  rintro _ oU ⟨acm,azQ,rfl,QR,QS,atM,QT,atN,atO,QU⟩
  obtain⟨pO,z8⟩:=iS.Gm o (i:=0) k2 QR QS atM QT atN atO QU
  obtain⟨z_,atP⟩:=l6 z8 (λy aB=>by rw[pA y aB];exact mB y aB) QG
  have z_:∀y,Y y->oU y=g y:=λy aB=>(z_ y aB).trans (pA y aB)
  have QV:F=(G.acc 0 op (cE x 0) av.1 (G.leaf (λp=>ws.getD p 0) 0 (G.bH S.used 0)) { gJ with gone:=gJ.gone++[av] },G.old 0 (cE x 0) av.1 { gJ with gone:=gJ.gone++[av] }):=by rw[<-tY,<-Gv];rfl
  subst QV
  refine⟨_,_,rfl,fB (n:=8) (QH.trans z8) f20 ((z_ ay kE).trans atB) rfl λrR z1 QW GB=>⟨_,dv QW,oV++ob (G.d_ 0).k (G.d_ 0).s (G.d_ 0).t (G.base 0) av.1,_,rfl,pO.loc (atP ay kE) (wn f20) GB,z1,?_⟩⟩
  rw[od,KL (j:=0) uj (by omega),<-um,ts,show G.L-1-0+1=G.L by omega]
  unfold qw
  simp only[List.append_assoc]
  rfl
end

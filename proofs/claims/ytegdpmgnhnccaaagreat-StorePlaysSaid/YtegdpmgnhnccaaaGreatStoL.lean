import Derived.Test.YtegdpmgnhnccaaaGreatBlk
import Derived.Test.YtegdpmgnhnccaaaGreatMemT
import Derived.Test.YtegdpmgnhnccaaaGreatPla
import Derived.Test.YtegdpmgnhnccaaaGreatStoC
import Derived.Test.YtegdpmgnhnccaaaGreatEvDa
namespace Go.Proofs.Tryz
open Go Go.cQ Go.RowKit
set_option maxRecDepth 8000
inductive Ze where
 | cm
 | tb
 | dp
 | bS
 | gs
 | aV (i:Nat)
 | mp (i:Nat)
 deriving DecidableEq
structure kR where
 cm:Nat
 tb:Nat
 dp:Nat
 bS:an
 aV:Nat->Nat
 mp:Nat->Nat
 hN:Nat->TypeId
 mN:TypeId
 qp:TypeId
 cw:TypeId
 m:jo
def kR.gS (B:kR)(L:Nat)(gs:an):Ze->Nat->Prop
 | .cm,x=>x=B.cm
 | .tb,x=>x=B.tb
 | .dp,x=>x=B.dp/\B.dp≠B.tb
 | .bS,x=>∃q,B.bS.q=some q/\x=q.b
 | .gs,x=>∃q,gs.q=some q/\x=q.b
 | .aV i,x=>i<L/\x=B.aV i
 | .mp i,x=>i<L/\x=B.mp i
def pF (x:Nat×Nat):List Value:=[U x.1,U x.2]
theorem sv (x:Nat×Nat):(pF x).length=2:=rfl
theorem aqz (x:Nat×Nat):∀v∈pF x,v.oneCell'=true:=by simp[pF,Value.oneCell']
theorem aqA:oX prog 110 114 2 (.agg #[U 0,U 0]) 16:=⟨by kernel_rfl,by kernel_rfl,by kernel_rfl,by kernel_rfl,rfl⟩
abbrev DY (G:c2)(B:kR)(gs:an):Array Value:=#[U (2 ^ G.m),U G.s,U G.t,U G.L,bu ⟨B.m.b,0⟩,U G.f,bu ⟨B.tb,0⟩,aU B.bS,aU gs]
structure fM (G:c2)(ws:List a8)(B:kR)(S:fj)(a_:List dt)(es gs:an)(h:ai):Prop where
 top:h B.cm=dB (DY G B gs) B.qp
 mem:cN B.mN B.m S.R a_ es h
 kX:ni B.cw B.tb B.dp ws S.used h
 A1:B.dp≠B.tb->h B.dp≠none
 jE:ey (λb:Nat=>bu ⟨b,0⟩) h B.bS ((List.range G.L).map B.aV)
 fu:∀i,i<G.L->h (B.aV i)=dB (l3 (G.dP i) B.m.b (G.base i) (S.over i) (B.mp i)) (B.hN i)
 map:∀i,i<G.L->lf h (B.mp i) (S.ids i)
 sK:cI 2 pF kf h gs S.gone
 h_:∀p dF x,B.gS G.L gs p x->B.gS G.L gs dF x->p=dF
 ik:∀p x,B.gS G.L gs p x->¬bA B.m es x
structure wG (G:c2)(B:kR):Prop where
 nB:∀i,i<G.L->oR B.m (G.dP i) (G.base i)
 pD:G.f<B.m.ep
 pE:B.m.cq G.f=G.top
def fv (G:c2)(B:kR)(es gs:an):Nat->Prop:=λx=>bA B.m es x∨∃p,B.gS G.L gs p x
theorem _root_.Go.cQ.c2.dk.st {G:c2}(o:G.dk):mK G.m G.s G.t G.L:=⟨o.m,by have:=(o.fu 0).s;show 1<=(G.s:Int)/\(G.s:Int)<=8;have aa:(G.dP 0).s=G.s:=rfl;omega,by have:=(o.fu 0).t;have aa:(G.dP 0).t=G.t:=rfl;omega,o.L⟩
section
variable {G:c2} {ws:List a8} {B:kR} {S:fj} {a_:List dt} {es gs:an} {h ag:ai}
theorem fM.dv (R:fM G ws B S a_ es gs h)(o:G.dk){p:Ze}{x:Nat}(af:B.gS G.L gs p x):h x≠none:=by
 cases p with
 | cm=>rw[show x=B.cm from af,R.top];simp
 | tb=>rw[show x=B.tb from af];exact R.kX.dv
 | dp=>rw[show x=B.dp from af.1];exact R.A1 af.2
 | bS=>obtain⟨q,ah,rfl⟩:=af;exact R.jE.there ah (by have:=o.L;simp;omega)
 | gs=>obtain⟨q,ah,rfl⟩:=af;exact(R.sK.b_ ah).2
 | aV i=>rw[af.2,R.fu i af.1];simp
 | mp i=>rw[af.2];exact(R.map i af.1).dv
theorem fM.same (R:fM G ws B S a_ es gs h)(aR:∀x,fv G B es gs x->ag x=h x):fM G ws B S a_ es gs ag:=by
 have aM:∀p x,B.gS G.L gs p x->ag x=h x:=λp x af=>aR x (.inr ⟨p,af⟩);refine⟨by rw[aM .cm _ rfl];exact R.top,R.mem.move λx af=>aR x (.inl af),R.kX.move (aM .tb _ rfl) (λcX _=>aM .dp _ ⟨rfl,cX⟩),λcX=>by rw[aM .dp _ ⟨rfl,cX⟩];exact R.A1 cX,R.jE.move λq ah _=>aM .bS _ ⟨q,ah,rfl⟩,
  λi hi=>by rw[aM (.aV i) _ ⟨hi,rfl⟩];exact R.fu i hi,λi hi=>(R.map i hi).move (aM (.mp i) _ ⟨hi,rfl⟩),R.sK.move λq ah=>aM .gs _ ⟨q,ah,rfl⟩,R.h_,R.ik⟩
theorem fM.jM (R:fM G ws B S a_ es gs h)(o:G.dk){x:Nat}(af:fv G B es gs x):h x≠none:=af.elim R.mem.dv fun⟨_,aM⟩=>R.dv o aM
theorem fM.bE (R:fM G ws B S a_ es gs h)(o:G.dk)(k:bB h ag):fM G ws B S a_ es gs ag:=R.same λx af=>k x (R.jM o af)
theorem fM.out (R:fM G ws B S a_ es gs h)(o:G.dk){x:Nat}(af:h x=none):¬fv G B es gs x:=λbf=>R.jM o bf af
theorem fM.C1 (R:fM G ws B S a_ es gs h)(o:G.dk){e1:dw}{eJ:List dt}{bb:an}(M:cN B.mN B.m e1 eJ bb ag)(v:cn (bA B.m es) h (bA B.m bb) ag):fM G ws B { S with R:=e1 } eJ bb gs ag/\cn (fv G B es gs) h (fv G B bb gs) ag:=by
 have aM:∀p x,B.gS G.L gs p x->ag x=h x:=λp x af=>v.2.1 x (R.dv o af) (R.ik p x af);refine⟨⟨by rw[aM .cm _ rfl];exact R.top,M,R.kX.move (aM .tb _ rfl) (λcX _=>aM .dp _ ⟨rfl,cX⟩),λcX=>by rw[aM .dp _ ⟨rfl,cX⟩];exact R.A1 cX,R.jE.move λq ah _=>aM .bS _ ⟨q,ah,rfl⟩,
  λi hi=>by rw[aM (.aV i) _ ⟨hi,rfl⟩];exact R.fu i hi,λi hi=>(R.map i hi).move (aM (.mp i) _ ⟨hi,rfl⟩),R.sK.move λq ah=>aM .gs _ ⟨q,ah,rfl⟩,R.h_,λp x af=>v.out (R.dv o af) (R.ik p x af)⟩,mS v⟩
theorem fM.tape (R:fM G ws B S a_ es gs h)(o:G.dk){u:Nat}(t:ni B.cw B.tb B.dp ws u ag)(aR:∀x,h x≠none->x≠B.tb->ag x=h x):fM G ws B { S with used:=u } a_ es gs ag:=by
 have aM:∀p x,B.gS G.L gs p x->p≠.tb->ag x=h x:=λp x af cX=>aR x (R.dv o af) λe=>cX (R.h_ p .tb x af e);exact⟨by rw[aM .cm _ rfl (by simp)];exact R.top,R.mem.move λx af=>aR x (R.mem.dv af) λe=>R.ik .tb x e af,t,λcX=>by rw[aM .dp _ ⟨rfl,cX⟩ (by simp)];exact R.A1 cX,R.jE.move λq ah _=>aM .bS _ ⟨q,ah,rfl⟩ (by simp),
  λi hi=>by rw[aM (.aV i) _ ⟨hi,rfl⟩ (by simp)];exact R.fu i hi,λi hi=>(R.map i hi).move (aM (.mp i) _ ⟨hi,rfl⟩ (by simp)),R.sK.move λq ah=>aM .gs _ ⟨q,ah,rfl⟩ (by simp),R.h_,R.ik⟩
theorem fM.C2 (R:fM G ws B S a_ es gs h)(o:G.dk){i:Nat}(hi:i<G.L){e1:dw}{eJ:List dt}{bb:an}{dV:Bool}{ids:List a8}(M:cN B.mN B.m e1 eJ bb ag)
 (aO:ag (B.aV i)=dB (l3 (G.dP i) B.m.b (G.base i) dV (B.mp i)) (B.hN i)) (hm:lf ag (B.mp i) ids) (nl:¬bA B.m bb (B.aV i)) (Ag:¬bA B.m bb (B.mp i))
 (v:cn (λx=>bA B.m es x∨x=B.aV i∨x=B.mp i) h (λx=>bA B.m bb x∨x=B.aV i∨x=B.mp i) ag) :
 fM G ws B { S with R:=e1,over:=λx=>if x=i then dV else S.over x,ids:=λx=>if x=i then ids else S.ids x } eJ bb gs ag/\cn (fv G B es gs) h (fv G B bb gs) ag:=by
 have aH:∀p x,B.gS G.L gs p x->p≠.aV i->p≠.mp i->¬(bA B.m es x∨x=B.aV i∨x=B.mp i):=λp x af aa ad h=>by
  rcases h with h|h|h
  .exact R.ik p x af h
  .exact aa (R.h_ p (.aV i) x af ⟨hi,h⟩)
  .exact ad (R.h_ p (.mp i) x af ⟨hi,h⟩)
 have aM:∀p x,B.gS G.L gs p x->p≠.aV i->p≠.mp i->ag x=h x:=λp x af aa ad=>v.2.1 x (R.dv o af) (aH p x af aa ad);refine⟨⟨by rw[aM .cm _ rfl (by simp) (by simp)];exact R.top,M,R.kX.move (aM .tb _ rfl (by simp) (by simp)) (λcX _=>aM .dp _ ⟨rfl,cX⟩ (by simp) (by simp)),λcX=>by rw[aM .dp _ ⟨rfl,cX⟩ (by simp) (by simp)];exact R.A1 cX,
  R.jE.move λq ah _=>aM .bS _ ⟨q,ah,rfl⟩ (by simp) (by simp),λj aL=>?_,λj aL=>?_,R.sK.move λq ah=>aM .gs _ ⟨q,ah,rfl⟩ (by simp) (by simp),R.h_,λp x af=>?_⟩,?_⟩
 .show ag (B.aV j)=dB (l3 (G.dP j) B.m.b (G.base j) (if j=i then dV else S.over j) (B.mp j)) (B.hN j);by_cases c:j=i
  .subst c;rw[as8 rfl];exact aO
  .rw[as7 c,aM (.aV j) _ ⟨aL,rfl⟩ (by simpa using c) (by simp)];exact R.fu j aL
 .show lf ag (B.mp j) (if j=i then ids else S.ids j);by_cases c:j=i
  .subst c;rw[as8 rfl];exact hm
  .rw[as7 c];exact(R.map j aL).move (aM (.mp j) _ ⟨aL,rfl⟩ (by simp) (by simpa using c))
 .by_cases aX:p= .aV i
  .subst aX;rw[af.2];exact nl
  .by_cases aZ:p= .mp i
   .subst aZ;rw[af.2];exact Ag
   .exact λh=>v.out (R.dv o af) (aH p x af aX aZ) (.inl h)
 .refine((cn.refl (fv G B es gs) h).to (C:=λx=>(bA B.m es x∨x=B.aV i∨x=B.mp i)∨∃p,B.gS G.L gs p x) λx af=> .inl ?_).trans (mS v) |>.to λx af=> .inl ?_
  .rcases af with (h|h|h)|h
   .exact .inl h
   .exact .inr ⟨.aV i,hi,h⟩
   .exact .inr ⟨.mp i,hi,h⟩
   .exact .inr h
  .exact af.elim (λh=> .inl (.inl h)) .inr
end
end Go.Proofs.Tryz
namespace Go.Proofs.Tryz
open Go Go.cQ Go.RowKit
set_option maxRecDepth 8000
section
variable {G:c2} {ws:List a8} {B:kR} {S:fj} {a_:List dt} {es gs:an} {h ag:ai}
theorem fM.Gi (R:fM G ws B S a_ es gs h)(o:G.dk){gl:an}{l:List (Nat×Nat)}(eY:cI 2 pF kf ag gl l)(top:ag B.cm=dB (DY G B gl) B.qp)
 (off:∀b,h b≠none->(∀q,gs.q=some q->b≠q.b)->b≠B.cm->ag b=h b) (loc:∀df,gl.q=some df->(∃q,gs.q=some q/\df.b=q.b)∨h df.b=none) (ao:∀b,ag b=none->h b=none) :
 fM G ws B { S with gone:=l } a_ es gl ag/\cn (fv G B es gs) h (fv G B es gl) ag:=by
 have old:∀p x,B.gS G.L gl p x->p≠.gs->B.gS G.L gs p x:=λp x af cX=>by cases p<;>first|exact af|exact absurd rfl cX
 have new:∀p x,B.gS G.L gs p x->p≠.gs->B.gS G.L gl p x:=λp x af cX=>by cases p<;>first|exact af|exact absurd rfl cX
 have aM:∀p x,B.gS G.L gs p x->p≠.gs->p≠.cm->ag x=h x:=λp x af aa ad=>off x (R.dv o af) (λq ah e=>aa (R.h_ p .gs x af ⟨q,ah,e⟩)) λe=>ad (R.h_ p .cm x af e);have HC:∀x,B.gS G.L gl .gs x->B.gS G.L gs .gs x∨h x=none:=by
  rintro x ⟨q,ah,rfl⟩;rcases loc q ah with ⟨gW,h0,e⟩|aH
  .exact .inl ⟨gW,h0,e⟩
  .exact .inr aH
 refine⟨⟨top,R.mem.move λx af=>off x (R.mem.dv af) (λq ah e=>R.ik .gs x ⟨q,ah,e⟩ af) λe=>R.ik .cm x e af,R.kX.move (aM .tb _ rfl (by simp) (by simp)) (λcX _=>aM .dp _ ⟨rfl,cX⟩ (by simp) (by simp)),λcX=>by rw[aM .dp _ ⟨rfl,cX⟩ (by simp) (by simp)];exact R.A1 cX,
  R.jE.move λq ah _=>aM .bS _ ⟨q,ah,rfl⟩ (by simp) (by simp),λi hi=>by rw[aM (.aV i) _ ⟨hi,rfl⟩ (by simp) (by simp)];exact R.fu i hi,λi hi=>(R.map i hi).move (aM (.mp i) _ ⟨hi,rfl⟩ (by simp) (by simp)),eY,λp dF x af gD=>?_,λp x af=>?_⟩,?_,?_,ao⟩
 .by_cases c:p= .gs
  .subst c;by_cases b8:dF= .gs
   .exact b8.symm
   .rcases HC x af with cR|aH
    .exact R.h_ .gs dF x cR (old dF x gD b8)
    .exact absurd aH (R.dv o (old dF x gD b8))
  .by_cases b8:dF= .gs
   .subst b8;rcases HC x gD with cR|aH
    .exact R.h_ p .gs x (old p x af c) cR
    .exact absurd aH (R.dv o (old p x af c))
   .exact R.h_ p dF x (old p x af c) (old dF x gD b8)
 .by_cases c:p= .gs
  .subst c;rcases HC x af with cR|aH
   .exact R.ik .gs x cR
   .exact λhm=>R.mem.dv hm aH
  .exact R.ik p x (old p x af c)
 .rintro x (hm|⟨p,af⟩)
  .exact .inl (.inl hm)
  .by_cases c:p= .gs
   .subst c;exact(HC x af).imp (λcR=> .inr ⟨.gs,cR⟩) id
   .exact .inl (.inr ⟨p,old p x af c⟩)
 .intro x af aH
  exact off x af (λq ah e=>aH (.inr ⟨.gs,q,ah,e⟩)) λe=>aH (.inr ⟨.cm,e⟩)
theorem Zf (o:G.dk)(R:fM G ws B S a_ es gs h){i:Nat}(hi:i<4)(hu:S.used<2 ^ 62) :
 aw 55 [bu ⟨B.cm,0⟩,U i] h λv ag=>v= .agg #[U (G.leaf (wf ws) i S.used),U S.used]/\fM G ws B { S with used:=S.used+1 } a_ es gs ag/\cn (fv G B es gs) h (fv G B es gs) ag:=by
 have dX:=o.st;refine ahA _ _ ?_;unfold UC;refine bL λaj aa f1 aC aE=>⟨some ⟨B.tb,0⟩,aE.cell (aF R.top rfl),?_⟩;have fZ:=R.bE o aE;refine(aeQ fZ.kX hu).mono ?_;rintro _ ad ⟨rfl,t2,cU⟩;have fa:=fZ.tape o t2 λx _ af=>cU x af;have v2:cn (fv G B es gs) aa (fv G B es gs) ad:=⟨λx af=> .inl af,λx af aH=>cU x λe=>aH (.inr ⟨.tb,e⟩),λx af=>by
  by_cases e:x=B.tb
  .rw[e] at af;exact absurd af t2.dv
  .rw[cU x e] at af;exact af⟩
 refine⟨_,_,rfl,_,aF fa.top rfl,_,aF fa.top rfl,_,aF fa.top rfl,_,aF fa.top rfl,?_⟩;refine(N_ dX i (by omega)).to λaq aD=>⟨_,rfl,?_⟩;have ab:G.m-2*i<=10:=by have:=o.m;omega
 have alW:1<=2 ^ (G.m-2*i):=auJ;have BB:2 ^ (G.m-2*i)<=2 ^ 10:=atg (by decide) ab;have L1:(2:Int) ^ (G.m-2*i)=((2 ^ (G.m-2*i):Nat):Int):=by simp
 rw[L1,jr (by omega)];have C3:(UInt64.ofNat (2 ^ (G.m-2*i))).toNat=2 ^ (G.m-2*i):=by rw[ate];omega
 have em:((ws.getD S.used 0)%UInt64.ofNat (2 ^ (G.m-2*i))).toNat=G.leaf (wf ws) i S.used:=by
  rw[au9,C3];rfl
 have vB:G.leaf (wf ws) i S.used<1024:=u7 o i S.used;have gR:¬fv G B es gs aj:=R.out o f1;have m_:=v2.get aC gR;refine⟨λe=>by have:=congrArg UInt64.toNat e;rw[C3] at this;simp at this,?_⟩;rw[em,bl];have lN:=((iC aE (fv G B es gs)).trans v2).more aD;refine qe lN f1 (aD.get m_) rfl λaJ o8 b5 ez=>⟨_,aF b5 rfl,_,aF b5 rfl,rfl,?_,o8⟩;exact(fa.bE o aD).same λx af=>ez x λe=>gR (e▸af)
noncomputable def Zg (v p:a8):Value:= .agg #[U ((v.toNat:Int)-1),U (al (p.toNat:Int))]
theorem Zh (v p:a8)(bH:v.toNat<2 ^ 62):eu prog 62 [ak v,ak p] (Zg v p):=by
 intro h;refine ahN _ _ ?_;unfold UI;refine bL λaj aa f1 aC aE=>?_;rw[bl (n:=(v.toNat:Int)),bl (n:=(v.toNat:Int)-1)];exact kC aE f1 aC rfl λad az a7 _=>⟨_,aF a7 rfl,_,aF a7 rfl,rfl,az⟩
theorem Zi {a b:Nat}(bV:a<2 ^ 62)(au:b<2 ^ 62):eu prog 59 [.agg #[U a,U b]] (.tuple #[ak (UInt64.ofNat (a+1)),ak (UInt64.ofNat b)]):=by
 intro h;refine ahH _ _ ?_;unfold UF;refine bL λaj aa f1 aC aE=>⟨_,aF aC rfl,_,aF aC rfl,?_,aE⟩;rw[jr (by omega),jr (by omega)];have:UInt64.ofNat a+1=UInt64.ofNat (a+1):=by
  apply att.1;rw[au8,ate,ate];have e:(1:a8).toNat=1:=rfl;rw[e];omega
 rw[this]
theorem aqB (o:G.dk)(R:fM G ws B S a_ es gs h){v p:a8}(bH:v.toNat<2 ^ 62)(aM:v≠0->p.toNat<2 ^ 62){sp:Nat×Nat}(cR:S.gone.length<1000000000000) :
 aw 63 [bu ⟨B.cm,0⟩,Zg v p,.agg #[U sp.1,U sp.2]] h λr ag=>∃gl,r=U (fD v p sp).1/\fM G ws B { S with gone:=S.gone++[fD v p sp] } a_ es gl ag/\cn (fv G B es gs) h (fv G B es gl) ag:=by
 refine ahP _ _ _ _ _ ?_;unfold UJ;refine bL λaj aa f1 aC aE=>bL λaB ad f2 a7 az=>?_;have eA:=aE.trans az;have cE:aB≠aj:=λe=>by rw[e,aC] at f2;cases f2
 have fin:∀(g:ai) (y:Nat×Nat),bB h g->g aj=some (.cells #[U y.1,U y.2] 114 (0,0))->y=fD v p sp ->
  ∃s1,bR g B.cm (0+8)=some (aU s1)/\∃aQ,bR g aj 0=some (U aQ)/\∃bm,bR g aj (0+1)=some (U bm)/\bn g (.cells #[U aQ,U bm] 114) λaS aJ=>en prog 110 s1 (.s ⟨some ⟨aS,0⟩,1,1,none⟩) aJ λs2 aW=>a1 aW ⟨B.cm,0+8⟩ [aU s2] λbd=>∃bx,bR bd aj 0=some (U bx) /\
   ∃gl,Value.int .i64 bx=U (fD v p sp).1/\fM G ws B { S with gone:=S.gone++[fD v p sp] } a_ es gl bd/\cn (fv G B es gs) h (fv G B es gl) bd:=by
  rintro g y cv iq rfl;have dE:=R.bE o cv;refine⟨gs,aF dE.top rfl,_,aF iq rfl,_,aF iq rfl,?_⟩;refine cI.push aqA sv aqz dE.sK [fD v p sp] (by rfl) rfl (λ_ _=>rfl) (by simp;omega) (by decide) ?_;intro gl g2 cU Oc iO Br;have Zj:∀q,gs.q=some q->B.cm≠q.b:=λq ah e=>by have:=dE.h_ .cm .gs B.cm rfl ⟨q,ah,e⟩;cases this
  have uJ:g2 B.cm=dB (DY G B gs) B.qp:=by rw[Oc _ (by rw[dE.top];simp) Zj,dE.top]
  have gR:aj≠B.cm:=λe=>by rw[e,R.top] at f1;cases f1
  have yi:∀q,gl.q=some q->q.b≠B.cm:=λq ah e=>by
   rcases iO q ah with ⟨gW,h0,eg⟩|aH
   .exact Zj gW h0 (e▸eg)
   .rw[e,dE.top] at aH;cases aH
  obtain⟨rR,v6⟩:=dE.Gi o (ag:=bD g2 B.cm (.cells (DY G B gl) B.qp (0,0))) (gl:=gl) (l:=S.gone++[fD v p sp]) (cU.move λq ah=>cJ _ _ (yi q ah)) (ea _ _ _)
   (λb au ah aR=>by rw[cJ _ _ aR,Oc b au ah]) (λq ah=>iO q ah) (λb au=>by
    by_cases e:b=B.cm
    .rw[e,ea] at au;cases au
    .rw[cJ _ _ e] at au;exact Br b au)
  have aqC:bD g2 B.cm (.cells (DY G B gl) B.qp (0,0)) aj=g aj:=by
   rw[cJ _ _ gR,Oc aj (by rw[iq];simp) λq ah e=>R.out o f1 (.inr ⟨.gs,q,ah,e⟩)]
  exact⟨_,_,uJ,by simp,_,aF (aqC.trans iq) rfl,gl,rfl,rR,(iC cv _).trans v6⟩
 refine⟨_,aF (az.get aC) rfl,b6 (λb1=>?_) λc3=>?_⟩
 .have A2:v=0:=att.1 (by show v.toNat=0;omega);refine⟨_,aF a7 rfl,_,aF a7 rfl,kC eA f1 (az.get aC) rfl λaq aD b2 _=>?_⟩;exact fin aq sp aD b2 (by unfold fD;rw[as8 A2])
 .have A2:¬v=0:=λe=>by rw[e] at c3;simp at c3
  refine fin ad (v.toNat-1,p.toNat) eA ?_ (by unfold fD;rw[as7 A2]);rw[az.get aC];have:(v.toNat:Int)-1=((v.toNat-1:Nat):Int):=by omega
  have aM:=aM A2;rw[this,bl]
end
end Go.Proofs.Tryz
namespace Go.Proofs.Tryz
open Go Go.cQ Go.RowKit
set_option maxRecDepth 8000
theorem aqD {h:ai}{q:aG}{L:Nat}(fp:L<=1000){y:Value}(S:Nat->ai->Prop)(E:ai->Prop)(h0:S 0 h)(aT:bR h q.b (q.o+3)=some (U L))
 (step:∀i ag,i<L->S i ag->fo prog y [U ((L:Int)-1-i)] ag λv gp=>(v= .bool true/\S (i+1) gp)∨(v= .bool false/\E gp)) :
 aw 109 [y,bu q] h λ_ ag=>S L ag∨E ag:=by
 refine UZ y q ?_;unfold Le;refine⟨L,aT,λv n aa k=>v=y/\∃i:Nat,n=(L:Int)-1-i/\i<=L/\S i aa/\k=L-i,⟨_,rfl,0,by rw[bl];simp,atx _,h0,rfl⟩,?_⟩;rintro v n aa k ⟨rfl,i,rfl,hi,aR,rfl⟩;refine b6 (λb1=>?_) λc3=>?_
 .refine(step i aa (by omega) aR).mono ?_
  rintro _ ad (⟨rfl,DR⟩|⟨rfl,he⟩)
  .exact⟨_,rfl,eh rfl ⟨_,by omega,rfl,i+1,by rw[bl];omega,by omega,DR,rfl⟩⟩
  .exact⟨_,rfl,b0 rfl (.inr he)⟩
 .have:i=L:=by omega
  subst this;exact .inl aR
theorem aqE:eu prog 57 [ak 4] (U 2):=by
 intro h;refine OF _ ?_;unfold HY;refine(HX 4).to λaa aE=>⟨_,rfl,?_,aE⟩;have:Lib.bitLen (UInt64.toNat 4)=3:=by decide
 rw[this,show al (((3:Nat):Int)-1)=2 by rw[bl];omega];rfl
theorem W2 {x i:Nat}(af:x<2 ^ 62)(hi:i<=4):ds (UInt64.ofNat x) (2*i)=cu x i:=by
 apply att.1;unfold ds cu;have aC:(UInt64.ofNat x).toNat=x:=by rw[ate];omega
 have ad:x/4 ^ i<=x:=auy _ _;have a7:(UInt64.ofNat (x/4 ^ i)).toNat=x/4 ^ i:=by rw[ate];generalize x/4 ^ i=z at *;omega
 rw[a7];have bN:i=0∨i=1∨i=2∨i=3∨i=4:=by omega
 rcases bN with rfl|rfl|rfl|rfl|rfl<;>(simp[auT,aC,Nat.shiftRight_eq_div_pow])<;>omega
theorem HD {g:ai}{aS x:Nat}(af:x<2 ^ 62)(b2:bR g aS 0=some (ak (UInt64.ofNat x))){i:Nat}(hi:i<=4){I:Int}(jI:I=i) :
 fo prog (.func (.func 56) #[] #[bu ⟨aS,0⟩]) [U I] g λr bg=>r=ak (cu x i)/\bB g bg:=by
 subst jI;refine⟨rfl,?_⟩;refine ahC _ _ ?_;unfold UD;refine⟨_,b2,aqE.to λaa aE=>⟨_,rfl,⟨aE.cell b2,trivial⟩,?_⟩⟩;have e:al (2*(i:Int))=((2*i:Nat):Int):=by rw[bl];omega
 rw[e];refine⟨by omega,?_,aE⟩;rw[show Int.toNat ((2*i:Nat):Int)=2*i by omega,W2 af hi]
abbrev yj (g:Nat->Nat×Nat):Array Value:=#[U (g 0).1,U (g 0).2,U (g 1).1,U (g 1).2,U (g 2).1,U (g 2).2,U (g 3).1,U (g 3).2]
theorem Zk (g:Nat->Nat×Nat){j:Nat}(aL:j<4)(y:Nat×Nat):hg (yj g) (j*2) [U y.1,U y.2]=yj λk=>if k=j then y else g k:=by
 have:j=0∨j=1∨j=2∨j=3:=by omega
 rcases this with rfl|rfl|rfl|rfl<;>rfl
theorem DZ {h:ai}{b:Nat}{g:Nat->Nat×Nat}{T:TypeId}(e:h b=dB (yj g) T){j:Nat}(aL:j<4):bR h b (0+j*2)=some (U (g j).1)/\bR h b (0+j*2+1)=some (U (g j).2):=by
 have:j=0∨j=1∨j=2∨j=3:=by omega
 rcases this with rfl|rfl|rfl|rfl<;>exact⟨aF e rfl,aF e rfl⟩
theorem W8 (a b:a8):(gz.set 0 a).set 1 b=sc a b:=by
 apply aub;intro i hi;have h:i=0∨i=1∨i=2∨i=3∨i=4∨i=5∨i=6∨i=7∨i=8∨i=9∨i=10∨i=11:=by omega
 rcases h with rfl|rfl|rfl|rfl|rfl|rfl|rfl|rfl|rfl|rfl|rfl|rfl<;>rfl
theorem Zl {m:Nat}{s t:Int}{L:Nat}{first:Int}(ls:List Int)(y:Int):∀n,n<=ls.length->mJ m s t L first (ls++[y]) n=mJ m s t L first ls n
 | 0,_=>rfl
 | n+1,h=>by
  rw[yJ,yJ,Zl ls y n (by omega)];have:(ls++[y]).getD n 0=ls.getD n 0:=by simp[List.getD,atB (show n<ls.length by omega)]
  rw[this]
theorem tT (d:ei){j:Nat}(aL:j<8):hJ d j=d[j]:=by unfold hJ;simp[aL]
theorem G2 {G:c2}{pre:List dt}{l:List (Nat×Nat)}{g0 i j:Nat}{ao:Nat×Nat}(aO:l.length=g0+i)(aL:j+i+1=G.L) :
 pre++mJ G.m G.s G.t G.L G.f ((l.drop g0).map λy=>(y.1:Int)) i++mI (G.dP j).k (G.dP j).s (G.dP j).t (G.base j) ao.1=pre++mJ G.m G.s G.t G.L G.f (((l++[ao]).drop g0).map λy=>(y.1:Int)) (i+1):=by
 rw[List.drop_append_of_le_length (by omega),atD,at1,List.map_nil,yJ,Zl _ _ i (by simp;omega),atr];have aa:(((l.drop g0).map λy=>(y.1:Int))++[(ao.1:Int)]).getD i 0=(ao.1:Int):=by
  have:((l.drop g0).map λy=>(y.1:Int)).length=i:=by simp;omega
  simp[List.getD,<-this]
 have ad:G.L-1-i=j:=by omega
 have aq:((G.base j:Nat):Int)=(G.f:Int)+1+3*(j:Int):=by unfold c2.base;omega
 rw[aa,ad,aq];rfl
end Go.Proofs.Tryz
namespace Go.Proofs.Tryz
open Go Go.cQ Go.RowKit
set_option maxRecDepth 8000
section
variable {G:c2} {ws:List a8} {B:kR} {S:fj} {a_:List dt} {es gs:an} {h:ai}
theorem BG (_o:G.dk){x:Nat}(af:x<2 ^ G.m):x/4 ^ (G.L-1)<G.top:=by
 unfold c2.top;refine Nat.div_lt_of_lt_mul (aup af ?_);rw[show 4 ^ (G.L-1)=2 ^ (2*(G.L-1)) by rw[Nat.pow_mul],<-Nat.pow_add];exact atg (by decide) (by omega)
def drawn (G:c2)(w:Nat->a8)(u e lo:Nat)(j:Nat):Nat×Nat:=if lo<=j/\j<G.L then (G.leaf w j (G.bG u j+e),G.bG u j+e) else (0,0)
set_option maxHeartbeats 4000000 in
theorem Qj (o:G.dk)(st:wG G B)(R:fM G ws B S a_ es gs h){op:fN}{k:Int}{d:ei}(fE:wH op k 0 d)(ab:k=0∨k=1∨k=3){x u0 a:Nat}(af:x<2 ^ G.m)(dY:kD G (wf ws) u0 S.used S)(hu:S.used=u0+2*G.L*a)(cR:S.gone.length=G.L*a)
 (pk:S.used<1000000000000) (QK:S.gone.length<100000000000) (aO:a_.length<100000000000) :
 aw 13 [bu ⟨B.cm,0⟩,U k,ak (UInt64.ofNat x),ec d] h λr ag=>∃eJ bb gl,r= .tuple #[ec (gV G (wf ws) op x S).2.1,.bool (gV G (wf ws) op x S).2.2]/\fM G ws B (gV G (wf ws) op x S).1 eJ bb gl ag/\cn (fv G B es gs) h (fv G B bb gl) ag /\
  eJ=a_++qM G.m G.s G.t G.L G.f (((gV G (wf ws) op x S).1.gone.drop S.gone.length).map λy=>(y.1:Int)):=by
 have dX:=o.st;have fp:=o.L;have hm:=o.m;have WK:2 ^ G.m<=2 ^ 10:=atg (by decide) hm;have Ah:x<2 ^ 62:=by omega
 refine k1 _ _ _ _ ?_;unfold Kz;refine bL λaj aa f1 aC aE=>bL λaB ad f2 a7 az=>bL λaS aq f3 b2 aD=>bL λb7 aJ f4 b5 bc=>bL λb4 aW f5 cD bU=>bL λdy bd f6 dK cb=>?_;have uM:=(aD.trans bc).trans (bU.trans cb);have nn:=az.trans uM;have p8:=aE.trans nn;have g1:=nn.get aC;have g2:=uM.get a7;have g3:=(bc.trans (bU.trans cb)).get b2;have g4:=(bU.trans cb).get b5;have g5:=cb.get cD;have rR:=R.bE o p8;have f20:h aB=none:=aE.free f2;have f30:h aS=none:=aE.free (az.free f3);have f40:h b7=none:=aE.free (az.free (aD.free f4));have f50:h b4=none:=aE.free (az.free (aD.free (bc.free f5)));have f60:h dy=none:=aE.free (az.free (aD.free (bc.free (bU.free f6))));rcases ab with rfl|rfl|rfl
 all_goals first
  | refine⟨_,aF g2 rfl,b0 rfl ?_⟩
  | refine⟨_,aF g2 rfl,eh rfl ⟨_,aF g2 rfl,b0 rfl ?_⟩⟩
  | refine⟨_,aF g2 rfl,eh rfl ⟨_,aF g2 rfl,eh rfl ⟨_,aF g2 rfl,b0 rfl ?_⟩⟩⟩
 all_goals
  refine⟨_,aF g3 rfl,some ⟨B.cm,0⟩,aF g1 rfl,_,rfl,_,aF rR.top rfl,b0 ?_ (bL λeQ cg f7 fq cV=>bL λfI cl f8 gg dT=>?_)⟩
  .have e:cK ((2:Int) ^ G.m)=UInt64.ofNat (2 ^ G.m):=by rw[show(2:Int) ^ G.m=((2 ^ G.m:Nat):Int) by simp,jr (by omega)]
   show decide (cK ((2:Int) ^ G.m)<=UInt64.ofNat x)=false;rw[e];refine ati λhle=>?_;have:=at9.1 hle;rw[ate,ate] at this;omega
  have ns:=cV.trans dT;have Fe:=p8.trans ns;have f70:h eQ=none:=p8.free f7;have f80:h fI=none:=(p8.trans cV).free f8;have HE:=R.bE o Fe;have CI:fI≠eQ:=λe=>by rw[e,fq] at f8;cases f8
  let Y:Nat->Prop:=λy=>y=aj∨y=aB∨y=aS∨y=b7∨y=b4∨y=dy;have w6:∀y,Y y->h y=none:=by rintro y (rfl|rfl|rfl|rfl|rfl|rfl)<;>assumption
  have k9:∀y,Y y->cl y≠none:=by
   rintro y (rfl|rfl|rfl|rfl|rfl|rfl)
   .rw[ns.get g1];simp
   .rw[ns.get g2];simp
   .rw[ns.get g3];simp
   .rw[ns.get g4];simp
   .rw[ns.get g5];simp
   .rw[ns.get dK];simp
  have Zm:∀y,Y y->y≠eQ/\y≠fI:=λy z=>by
   have HF:bd y≠none:=by
    have:=k9 y z;intro aH;rcases z with rfl|rfl|rfl|rfl|rfl|rfl
    .rw[g1] at aH;cases aH
    .rw[g2] at aH;cases aH
    .rw[g3] at aH;cases aH
    .rw[g4] at aH;cases aH
    .rw[g5] at aH;cases aH
    .rw[dK] at aH;cases aH
   exact⟨λe=>HF (e▸f7),λe=>by have:=cV y HF;rw[e,f8] at this;rw[e] at HF;exact HF this.symm⟩
  have Zn:∀y,Y y->¬fv G B es gs y:=λy z=>R.out o (w6 y z);have Od:¬fv G B es gs eQ:=R.out o f70;have Oe:¬fv G B es gs fI:=R.out o f80;refine⟨some ⟨B.cm,0⟩,aF (ns.get g1) rfl,_,rfl,_,aF HE.top rfl,_,aF HE.top rfl,_,aF HE.top rfl,_,aF HE.top rfl,?_⟩;refine(Ob cl).mono ?_;rintro _ cL ⟨Fz,rfl,fd,fg,eX⟩;refine⟨_,rfl,trivial,λz bI q6 aK=>⟨rfl,?_⟩⟩;have Of:=Fe.trans eX;have l6:h bI=none:=Of.free q6;have D0:¬fv G B es gs bI:=R.out o l6;have sY:bB cL (bD cL bI (eS z)):=(bB.refl cL).bD q6 _;have A3:∀y,Y y->y≠bI:=λy z e=>by have:=eX y (k9 y z);rw[e,q6] at this;exact k9 bI (e▸z) this.symm
  have A4:eQ≠bI:=λe=>by have:=(dT.trans eX).get fq;rw[e,q6] at this;cases this
  have A5:fI≠bI:=λe=>by have:=eX.get gg;rw[e,q6] at this;cases this
  have Zo:∀e,drawn G (wf ws) S.used e G.L=λ_=>(0,0):=λe=>by funext j;unfold drawn;rw[cS]
  refine(Zc (L:=G.L) (q:=⟨Fz,0⟩) (y:=lG bI) (by omega) (λi g=>g bI=some (eS z)/\fM G ws B { S with used:=S.used+2*i } a_ es gs g/\cn (fv G B es gs) h (fv G B es gs) g/\(∀y,Y y->g y=cl y) /\
   g eQ=dB (yj (drawn G (wf ws) S.used 0 (G.L-i))) 115/\g fI=dB (yj (drawn G (wf ws) S.used 1 (G.L-i))) 115)
   ⟨ea _ _ _,R.bE o (Of.trans sY),iC (Of.trans sY) _,λy aA=>(cJ _ _ (A3 y aA)).trans (eX y (k9 y aA)),?_,?_⟩ (aF (sY.get fg) rfl) ?_).mono ?_
  .rw[auz,Zo,cJ _ _ A4,(dT.trans eX).get fq];rfl
  .rw[auz,Zo,cJ _ _ A5,eX.get gg];rfl
  .rintro i g hi ⟨bt,dE,iH,oE,g7,g8⟩;refine⟨rfl,rfl,aK _ g _ bt ⟨bt,?_⟩⟩;obtain⟨j,aL⟩:∃j:Nat,j=G.L-1-i:=⟨_,rfl⟩;have C6:(G.L:Int)-1-i=j:=by omega
   rw[C6];have Ai:G.bG S.used j=S.used+2*i:=by unfold c2.bG;omega
   have Og:=iH.loc l6 (et z);have Oh:fM G ws B { S with used:=S.used+2*i } a_ es gs (bD g bI (et z)):=dE.same λy aA=>cJ _ _ λe=>D0 (e▸aA);refine⟨some ⟨B.cm,0⟩,aF ((cJ _ _ (A3 aj (.inl rfl))).trans ((oE aj (.inl rfl)).trans (ns.get g1))) rfl,?_⟩;refine(Zf o Oh (i:=j) (by omega) (by show S.used+2*i<2 ^ 62;omega)).mono ?_;rintro _ nU ⟨rfl,hR,i_⟩;have nV:∀y,Y y->nU y=cl y:=λy aA=>by rw[i_.2.1 y (by rw[cJ _ _ (A3 y aA),oE y aA];exact k9 y aA) (Zn y aA),cJ _ _ (A3 y aA),oE y aA]
   have aqF:=i_.get (show bD g bI (et z) eQ=_ from (cJ _ _ A4).trans g7) Od;have aqG:=i_.get (show bD g bI (et z) fI=_ from (cJ _ _ A5).trans g8) Oe;have nY:=i_.get (show bD g bI (et z) bI=_ from ea _ _ _) D0;refine⟨_,_,rfl,by omega,by omega,?_⟩;rw[show 0+Int.toNat (j:Int)*2=j*2 by omega];refine stM (Og.trans i_) f70 aqF (by simp;omega) λnp Me aqH rj=>?_;have s3:=hR.same (ag:=np) λy aA=>rj y λe=>Od (e▸aA);have xN:∀y,Y y->np y=cl y:=λy aA=>by rw[rj y (Zm y aA).1,nV y aA]
   refine⟨some ⟨B.cm,0⟩,aF ((xN aj (.inl rfl)).trans (ns.get g1)) rfl,?_⟩;refine(Zf o s3 (i:=j) (by omega) (by show S.used+2*i+1<2 ^ 62;omega)).mono ?_;rintro _ qq ⟨rfl,uI,rk⟩;have GZ:∀y,Y y->qq y=cl y:=λy aA=>by rw[rk.2.1 y (by rw[xN y aA];exact k9 y aA) (Zn y aA),xN y aA]
   have aqI:=rk.get aqH Od;have aqJ:=rk.get ((rj _ CI).trans aqG) Oe;have rq:=rk.get ((rj _ (atf A4)).trans nY) D0;refine⟨_,_,rfl,by omega,by omega,?_⟩;refine stM (Me.trans rk) f80 aqJ (by simp;omega) λAl Oi aqK kM=>⟨(kM _ (atf A5)).trans rq,rfl,ea _ _ _,?_,Oi.loc l6 _,λy aA=>?_,?_,?_⟩
   .have e:S.used+2*(i+1)=S.used+2*i+1+1:=by omega
    rw[e];exact(uI.same (ag:=Al) λy aA=>kM y λe=>Oe (e▸aA)).same λy aA=>cJ _ _ λe=>D0 (e▸aA)
   .rw[cJ _ _ (A3 y aA),kM y (Zm y aA).2,GZ y aA]
   .rw[cJ _ _ A4,kM _ (atf CI),aqI];have e:=Zk (drawn G (wf ws) S.used 0 (G.L-i)) (show j<4 by omega) (G.leaf (wf ws) j (S.used+2*i),S.used+2*i);refine congrArg (λx=>some (Obj.cells x _ (0,0))) (e.trans (congrArg yj ?_));funext y;unfold drawn;by_cases c:y=j
    .subst c;rw[as8 rfl,d_,atQ,Ai]
    .rw[as7 c];by_cases aZ:G.L-i<=y/\y<G.L
     .rw[as8 aZ,d_]
     .rw[as7 aZ,cS]
   .rw[cJ _ _ A5,aqK];have e:=Zk (drawn G (wf ws) S.used 1 (G.L-i)) (show j<4 by omega) (G.leaf (wf ws) j (S.used+2*i+1),S.used+2*i+1);refine congrArg (λx=>some (Obj.cells x _ (0,0))) (e.trans (congrArg yj ?_));funext y;unfold drawn;by_cases c:y=j
    .subst c;rw[as8 rfl,d_,Ai]
    .rw[as7 c];by_cases aZ:G.L-i<=y/\y<G.L
     .rw[as8 aZ,d_]
     .rw[as7 aZ,cS]
  rintro _ cT ⟨bt,s7,JM,aqL,g7,g8⟩;rw[Nat.sub_self] at g7 g8;refine⟨bt,bL λho cO f11 wL h8=>?_⟩;have Zp:=JM.loc l6 (h2 z none);have sL:=s7.same (ag:=bD cT bI (h2 z none)) λy aA=>cJ _ _ λe=>D0 (e▸aA);have f90:h ho=none:=Zp.2.2 _ f11;refine qe (Zp.more h8) f90 wL rfl λcH JP m_ je=>?_;have D1:∀y,bD cT bI (h2 z none) y≠none->cH y=bD cT bI (h2 z none) y:=λy aA=>by rw[je y λe=>aA (e▸f11),h8 y aA]
  have rS:=sL.same (ag:=cH) λy aA=>D1 y (sL.jM o aA);have we:∀y,Y y->cH y=cl y:=λy aA=>by
   have e:bD cT bI (h2 z none) y=cl y:=(cJ _ _ (A3 y aA)).trans (aqL y aA);rw[D1 y (by rw[e];exact k9 y aA),e]
  have i7:cH eQ=_:=(D1 eQ (by rw[cJ _ _ A4,g7];simp)).trans ((cJ _ _ A4).trans g7);have i8:cH fI=_:=(D1 fI (by rw[cJ _ _ A5,g8];simp)).trans ((cJ _ _ A5).trans g8);have i1:=(we aj (.inl rfl)).trans (ns.get g1);have i2:=(we aB (.inr (.inl rfl))).trans (ns.get g2);have i3:=(we aS (.inr (.inr (.inl rfl)))).trans (ns.get g3);have i4:=(we b7 (.inr (.inr (.inr (.inl rfl))))).trans (ns.get g4);have i5:=(we b4 (.inr (.inr (.inr (.inr (.inl rfl)))))).trans (ns.get g5);have i6:=(we dy (.inr (.inr (.inr (.inr (.inr rfl)))))).trans (ns.get dK);let Z:Nat->Prop:=λy=>Y y∨y=eQ∨y=fI∨y=ho;have iV:∀y,Z y->cH y≠none:=by
   rintro y (aA|rfl|rfl|rfl)
   .rw[we y aA];exact k9 y aA
   .rw[i7];simp
   .rw[i8];simp
   .rw[m_];simp
  have Fh:∀y,Z y->h y=none:=by
   rintro y (aA|rfl|rfl|rfl)
   .exact w6 y aA
   .exact f70
   .exact f80
   .exact f90
  have aqM:∀y,Z y->¬fv G B es gs y:=λy aA=>R.out o (Fh y aA);clear we D1 g7 g8 aK;have Mh:al ((G.L:Int)-1)=((G.L-1:Nat):Int):=by rw[bl];omega
  have tx:=(nL o af (h:=G.L-1)).1;have ra:=BG o af;refine⟨some ⟨B.cm,0⟩,aF i1 rfl,_,rfl,_,aF rS.top rfl,some ⟨B.cm,0⟩,aF i1 rfl,_,rfl,some ⟨B.m.b,0⟩,aF rS.top rfl,some ⟨B.cm,0⟩,aF i1 rfl,_,rfl,_,aF rS.top rfl,_,aF m_ rfl,rfl,?_⟩;rw[Mh];refine(HD Ah (aF i3 rfl) (i:=G.L-1) (by omega) rfl).mono ?_;rintro _ dL ⟨rfl,iS⟩;have HG:=rS.bE o iS;have CZ:=iS.get i1;refine⟨_,rfl,⟨aF HG.top rfl,trivial⟩,⟨aF CZ rfl,trivial⟩,⟨aF HG.top rfl,trivial⟩,⟨aF CZ rfl,trivial⟩,?_⟩;refine(amR HG.mem st.pD (cu x (G.L-1)) (by omega)).mono ?_;rintro _ dz ⟨ir,rfl,Am,kJ⟩;rw[tx,as8 (by rw[st.pE];exact ra)];obtain⟨sx,An⟩:=HG.C1 o Am kJ;obtain⟨D2,aqN⟩:=kH An (λy aA=>by rw[iS y (iV y aA)];exact iV y aA) aqM;have D2:∀y,Z y->dz y=cH y:=λy aA=>(D2 y aA).trans (iS y (iV y aA));have Ao:=(JP.more iS).trans An;generalize rm:S.R G.f (x/4 ^ (G.L-1))=nh;refine⟨nh,rfl,bL λoz eW f15 r8 jf=>?_⟩;have f100:h oz=none:=Ao.2.2 _ f15;refine fG (n:=12) (Ao.more jf) f100 r8 rfl λdr uX pz ps=>bL λmj eP f17 BQ lr=>?_;have f110:h mj=none:=uX.2.2 _ f17;have Zq:mj≠oz:=λe=>by rw[e,pz] at f17;cases f17
  have Ap:∀y,dz y≠none->eP y=dz y:=λy aA=>by
   have e:dr y=dz y:=by rw[ps y λe=>aA (e▸f15),jf y aA]
   rw[lr y (by rw[e];exact aA),e]
  have Oj:∀y,Z y->eP y=cH y:=λy aA=>by rw[Ap y (by rw[D2 y aA];exact iV y aA),D2 y aA]
  have Aq:=sx.same (ag:=eP) λy aA=>Ap y (sx.jM o aA);have asV:=SN G S.used;have vF:∀e j,j<G.L->drawn G (wf ws) S.used e 0 j=(G.leaf (wf ws) j (G.bG S.used j+e),G.bG S.used j+e):=λe j aL=>by unfold drawn;rw[as8 ⟨atx _,aL⟩]
  have dj:=DZ ((Oj eQ (.inr (.inl rfl))).trans i7) (j:=G.L-1) (by omega);rw[vF 0 _ (by omega),atQ] at dj;refine⟨by omega,by omega,_,by rw[show Int.toNat ((G.L-1:Nat):Int)=G.L-1 by omega];exact dj.1,_,by rw[show Int.toNat ((G.L-1:Nat):Int)=G.L-1 by omega];exact dj.2,?_⟩;have vB:=u7 (w:=wf ws) o (G.L-1) (G.bG S.used (G.L-1));refine(Zi (a:=G.leaf (wf ws) (G.L-1) (G.bG S.used (G.L-1))) (b:=G.bG S.used (G.L-1)) (by omega) (by omega)).to λfH tI=>⟨_,_,rfl,Int.NonNeg.mk 0,Int.NonNeg.mk 11,?_⟩;have qT:fH mj=some (.cells (ae.cells (.ws 12 gz)).toArray 69 (0,0)):=by rw[tI.get BQ,y2];rfl
  have JC:=(uX.more lr).more tI;refine nf JC f110 qT (i:=0) (by decide) λer GQ xD ve=>⟨Int.NonNeg.mk 1,Int.NonNeg.mk 10,?_⟩;refine nf GQ f110 xD (i:=1) (by decide) λgh GR qU vf=>?_;rw[W8] at qU;have Ok:∀y,eP y≠none->y≠mj->gh y=eP y:=λy aA aH=>by rw[vf y aH,ve y aH,tI y aA]
  have aqO:¬fv G B ir gs mj:=λbf=>Aq.jM o bf |> λbK=>by
   have:=sx.jM o bf;have e:=Ap mj this;have aqP:dr mj=none:=f17;have:dr mj=dz mj:=by rw[ps mj Zq,jf mj this]
   rw[aqP] at this;exact sx.jM o bf this.symm
  have tR:=Aq.same (ag:=gh) λy aA=>Ok y (Aq.jM o aA) λe=>aqO (e▸aA);have aqQ:∀y,Z y->y≠mj:=λy aA e=>by
   have HH:dz y≠none:=by rw[D2 y aA];exact iV y aA
   have:dr y=dz y:=by rw[ps y λe=>HH (e▸f15),jf y HH]
   rw[e] at this;rw[this] at f17;rw[e] at HH;exact HH f17
  have yl:∀y,Z y->gh y=cH y:=λy aA=>by rw[Ok y (by rw[Oj y aA];exact iV y aA) (aqQ y aA),Oj y aA]
  have aqR:gh oz=_:=(Ok oz (by rw[lr.get pz];simp) (atf Zq)).trans (lr.get pz);have g_:=(yl aj (.inl (.inl rfl))).trans i1;refine⟨some ⟨B.cm,0⟩,aF g_ rfl,_,rfl,some ⟨B.m.b,0⟩,aF tR.top rfl,some ⟨B.cm,0⟩,aF g_ rfl,_,rfl,_,aF tR.top rfl,_,aF ((yl ho (.inr (.inr (.inr rfl)))).trans m_) rfl,rfl,_,da qU,?_⟩;refine(HD Ah (aF ((yl aS (.inl (.inr (.inr (.inl rfl))))).trans i3) rfl) (i:=G.L-1) (by omega) rfl).mono ?_;rintro _ iG ⟨rfl,na⟩;have Ol:=tR.bE o na;have mG:=na.get g_;refine⟨_,rfl,da (na.get qU),⟨aF Ol.top rfl,trivial⟩,⟨aF mG rfl,trivial⟩,⟨aF Ol.top rfl,trivial⟩,⟨aF mG rfl,trivial⟩,?_⟩;refine(Zr 0).to λfO tm=>?_;have HI:=Ol.bE o tm;have Zs:=tm.get mG;refine⟨_,rfl,da ((na.trans tm).get qU),⟨aF HI.top rfl,trivial⟩,⟨aF Zs rfl,trivial⟩,⟨aF HI.top rfl,trivial⟩,⟨aF Zs rfl,trivial⟩,?_⟩;have tP:(reads (G.f:Int) (B.m.cq G.f)).length=B.m.cq G.f:=Bo _ _;have ln:=R.mem.cq G.f st.pD;refine(amS HI.mem st.pD (cu x (G.L-1)) _ true (by simp only[as9,tP];omega)).mono ?_;rintro _ fe ⟨eO,rfl,tn,sj⟩;rw[tx,as8 ⟨by rw[st.pE];exact ra,rfl⟩] at tn;obtain⟨rn,vG⟩:=HI.C1 o tn sj;have aqS:¬fv G B ir gs oz:=sx.out o f15;have Zt:=vG.get (show fO oz=_ from (na.trans tm).get aqR) aqS;obtain⟨A6,aqT⟩:=kH vG (λy aA=>by rw[(na.trans tm) y (by rw[yl y aA];exact iV y aA),yl y aA];exact iV y aA) aqN;have A6:∀y,Z y->fe y=cH y:=λy aA=>by rw[A6 y aA,(na.trans tm) y (by rw[yl y aA];exact iV y aA),yl y aA]
  have u3:=((GR.more na).more tm).trans vG;have rn:fM G ws B (G.begin (wf ws) (x/4 ^ (G.L-1)) S) _ eO gs fe:=rn;obtain⟨GV,xJ⟩:=FI o hu (by omega) dY ra;rw[rm] at xJ;have C_:∀ {v p:a8} {mX j:Nat} {fR:fj},sd G (wf ws) u0 mX j fR v p->v.toNat<2 ^ 62:=λ{v p mX j fR} c=>by
   by_cases bH:v=0
   .rw[bH];decide
   .have:=(c.nH bH).1.val;have:=u7 (w:=wf ws) o j p.toNat;omega
  have A2:=C_ xJ;refine⟨rfl,Int.NonNeg.mk 0,Int.NonNeg.mk 11,_,gi Zt (i:=0) (by decide),Int.NonNeg.mk 1,Int.NonNeg.mk 10,_,gi Zt (i:=1) (by decide),?_⟩;refine(Zh nh[0] nh[1] A2).to λgB r7=>⟨_,_,rfl,bL λmo hM f25 B2 ES=>?_⟩;have f120:h mo=none:=(u3.more r7).2.2 _ f25;refine qe ((u3.more r7).more ES) f120 B2 rfl λhb Zu Zv zG=>?_;have Zw:∀y,fe y≠none->hb y=fe y:=λy aA=>by
   have e:gB y≠none:=by rw[r7 y aA];exact aA
   rw[zG y λch=>e (ch▸f25),ES y e,r7 y aA]
  have wg:=rn.same (ag:=hb) λy aA=>Zw y (rn.jM o aA);have D3:∀y,Z y->hb y=cH y:=λy aA=>by rw[Zw y (by rw[A6 y aA];exact iV y aA),A6 y aA]
  have aqU:¬fv G B eO gs mo:=(rn.bE o r7).out o f25;have g_:=(D3 aj (.inl (.inl rfl))).trans i1;refine⟨some ⟨B.cm,0⟩,aF g_ rfl,_,rfl,_,aF wg.top rfl,_,aF wg.top rfl,_,aF wg.top rfl,_,aF wg.top rfl,?_⟩;refine(Ob hb).mono ?_;rintro _ hD ⟨FO,rfl,asW,aqV,wh⟩;refine⟨_,rfl,trivial,λhC gU D4 lM=>⟨rfl,?_⟩⟩;have D5:h gU=none:=(Zu.more wh).2.2 _ D4;have Zx:¬fv G B eO gs gU:=(wg.bE o wh).out o D4;have aqW:bB hD (bD hD gU (eS hC)):=(bB.refl hD).bD D4 _;have ym:∀y,Z y->y≠gU:=λy aA e=>by have aa:=wh y (by rw[D3 y aA];exact iV y aA);rw[e,D4] at aa;have:=D3 y aA;rw[e] at this;rw[<-aa] at this;exact iV gU (e▸aA) this.symm
  have HJ:mo≠gU:=λe=>by have:=wh.get Zv;rw[e,D4] at this;cases this
  have aqX:∀y,Z y->y≠mo:=λy aA e=>by
   have aqY:gB y≠none:=by rw[r7 y (by rw[A6 y aA];exact iV y aA),A6 y aA];exact iV y aA
   exact aqY (e▸f25)
  have Ar:gV G (wf ws) op x S=j2 G (wf ws) S.used op x (G.L-1) nh[0] nh[1] (G.begin (wf ws) (x/4 ^ (G.L-1)) S):=by rw[<-rm];rfl
  generalize jZ:gV G (wf ws) op x S=F;rw[jZ] at Ar;have rU:B.m.cq G.f=uB G.m G.L:=st.pE;generalize sy:a_++reads (G.f:Int) (B.m.cq G.f)++writes (G.f:Int) (B.m.cq G.f)=pre at wg;have ame:pre.length<=a_.length+3*4096:=by
   rw[<-sy];simp only[as9,tP,rH];omega
  refine(aqD (L:=G.L) (q:=⟨FO,0⟩) (y:=lG gU) (by omega) (λi g=>i<G.L/\g gU=some (eS hC)/\∃(v p:a8) (fR:fj) (nq:List dt) (wi yn:an),fM G ws B fR nq wi yn g/\cn (fv G B es gs) h (fv G B wi yn) g/\(∀y,Z y->g y=cH y)/\(∀y,Z y->¬fv G B wi yn y)/\¬fv G B wi yn mo/\¬fv G B wi yn gU /\
   g mo=some (.cells #[U ((v.toNat:Int)-1),U (al (p.toNat:Int))] 114 (0,0))/\j2 G (wf ws) S.used op x (G.L-1-i) v p fR=F/\kD G (wf ws) u0 (G.bG S.used (G.L-1-i)+1) fR/\sd G (wf ws) u0 (G.bG S.used (G.L-1-i)+1) (G.L-1-i) fR v p/\fR.gone.length=S.gone.length+i /\
   nq=pre++mJ G.m G.s G.t G.L G.f ((fR.gone.drop S.gone.length).map λy=>(y.1:Int)) i)
   (λg=>g gU=some (nM hC Code.ret)/\∃(eJ:List dt) (bb gl:an),fM G ws B F.1 eJ bb gl g/\cn (fv G B es gs) h (fv G B bb gl) g/\¬fv G B bb gl gU/\(∃T,g b4=some (.cells (ae.cells (.ws 8 F.2.1)).toArray T (0,0)))/\(∃T,g dy=some (.cells #[.bool F.2.2] T (0,0))) /\
    eJ=pre++mJ G.m G.s G.t G.L G.f ((F.1.gone.drop S.gone.length).map λy=>(y.1:Int)) G.L)
   ⟨by omega,ea _ _ _,nh[0],nh[1],_,_,eO,gs,wg.same λy aA=>?_,(Zu.more wh).loc D5 _,λy aA=>?_,aqT,aqU,Zx,?_,?_,GV,xJ,rfl,?_⟩ (aF (aqW.get aqV) rfl) ?_).mono ?_
  .have cX:y≠gU:=λe=>Zx (e▸aA);rw[cJ _ _ cX,wh y (wg.jM o aA)]
  .rw[cJ _ _ (ym y aA),wh y (by rw[D3 y aA];exact iV y aA),D3 y aA]
  .rw[cJ _ _ HJ,wh.get Zv]
  .exact Ar.symm
  .simp[mJ]
  .rintro i g hi ⟨_,bt,v,p,fR,nq,wi,yn,dE,iH,aqZ,aq0,Zy,Om,G6,sf,GW,vH,oe,nd⟩;refine⟨rfl,rfl,lM _ g _ bt ⟨bt,?_⟩⟩;obtain⟨j,aL⟩:∃j:Nat,j=G.L-1-i:=⟨_,rfl⟩;have C6:(G.L:Int)-1-i=j:=by omega
   rw[C6];rw[<-aL] at sf GW vH;have Ai:G.bG S.used j=S.used+2*i:=by unfold c2.bG;omega
   have Og:=iH.loc D5 (et hC);have Oh:fM G ws B fR nq wi yn (bD g gU (et hC)):=dE.same λy aA=>cJ _ _ λe=>Om (e▸aA);have HK:∀y,Z y->bD g gU (et hC) y=cH y:=λy aA=>(cJ _ _ (ym y aA)).trans (aqZ y aA);have HL:bD g gU (et hC) mo=_:=(cJ _ _ HJ).trans G6;have ef:=DZ ((HK fI (.inr (.inr (.inl rfl)))).trans i8) (j:=j) (by omega);rw[vF 1 j (by omega)] at ef;have jU:Int.toNat (j:Int)=j:=by omega
   rw[jU];refine⟨some ⟨B.cm,0⟩,aF ((HK aj (.inl (.inl rfl))).trans i1) rfl,_,aF HL rfl,_,aF HL rfl,by omega,by omega,_,ef.1,_,ef.2,?_⟩;have Mm:=C_ vH;refine(aqB o Oh (v:=v) (p:=p) Mm (λbH=>?_) (sp:=(G.leaf (wf ws) j (G.bG S.used j+1),G.bG S.used j+1)) (by omega)).mono ?_
   .have:=(vH.nH bH).1.lt;omega
   rintro _ nU ⟨On,rfl,hR,i_⟩;obtain⟨fP,xL⟩:=zB o hu (by omega) GW vH (by rw[oe,cR];omega);generalize Da:fD v p (G.leaf (wf ws) j (G.bG S.used j+1),G.bG S.used j+1)=ao at *;obtain⟨oO,Zz⟩:=kH i_ (λy aA=>by rw[HK y aA];exact iV y aA) aq0;have oO:∀y,Z y->nU y=cH y:=λy aA=>(oO y aA).trans (HK y aA);have HM:=i_.get HL Zy;have ZA:=i_.out (by rw[HL];simp) Zy;have nY:=i_.get (show bD g gU (et hC) gU=_ from ea _ _ _) Om;have HN:=i_.out (show bD g gU (et hC) gU≠none by rw[ea];simp) Om;have Dd:=Og.trans i_;have amg:nq.length<100050000000:=by
    have:=IJ dX (G.f:Int) ((fR.gone.drop S.gone.length).map λy=>(y.1:Int)) i;rw[nd,as9];omega
   have th:=nL o af (h:=j);have lvl:=hR.jE.len;simp only[ath,atj] at lvl;have ar:=(oO aj (.inl (.inl rfl))).trans i1;have Fa:=DZ ((oO eQ (.inr (.inl rfl))).trans i7) (j:=j) (by omega);rw[vF 0 j (by omega),atQ] at Fa;have asX:=u7 (w:=wf ws) o j (G.bG S.used j);obtain⟨nF,rp,n1⟩:=hR.jE.at (i:=j) (by simp;omega);have aq1:((List.range G.L).map B.aV)[j]'(by simp;omega)=B.aV j:=by simp
   rw[aq1] at n1;refine⟨_,rfl,?_⟩;refine b6 (λrO=>?_) λrO=>?_
   .have sT:j=0:=by omega
    subst sT;have MA:UInt64.ofNat x=cu x 0:=by unfold cu;simp
    refine⟨some ⟨B.cm,0⟩,aF ar rfl,_,rfl,B.bS,aF hR.top rfl,nF,rp,Int.NonNeg.mk 0,by omega,some ⟨B.aV 0,0⟩,n1,_,aF ((oO aB (.inl (.inr (.inl rfl)))).trans i2) rfl,_,aF ((oO aS (.inl (.inr (.inr (.inl rfl))))).trans i3) rfl,d,da ((oO b7 (.inl (.inr (.inr (.inr (.inl rfl)))))).trans i4),Int.NonNeg.mk 0,Int.NonNeg.mk 3,_,Fa.1,?_⟩;rw[MA];refine(Q8 (o.fu 0) (st.nB 0 (by omega)) hR.mem (hR.fu 0 (by omega)) (hR.map 0 (by omega)) (hR.ik (.aV 0) _ ⟨by omega,rfl⟩) (hR.ik (.mp 0) _ ⟨by omega,rfl⟩) (ao:=ao.1) (to:=G.leaf (wf ws) 0 (G.bG S.used 0)) fP (G.pj _ 0 _) (bi:=cu x 0) th.2 (xL.lK 0 (by omega)) fE (by omega)).mono ?_;rintro _ np ⟨Xp,rfl,MB,MC,aq2,MD,aq3,ME⟩;obtain⟨s3,xM⟩:=hR.C2 o (i:=0) (by omega) MB MC aq2 MD aq3 ME;obtain⟨HO,ZB⟩:=kH xM (λy aA=>by rw[oO y aA];exact iV y aA) Zz;have HO:∀y,Z y->np y=cH y:=λy aA=>(HO y aA).trans (oO y aA);have z5:Z b4:= .inl (.inr (.inr (.inr (.inr (.inl rfl)))));have kp:Z dy:= .inl (.inr (.inr (.inr (.inr (.inr rfl)))));have n65:dy≠b4:=λe=>by rw[e,cD] at f6;cases f6
    have pg:=xM.get nY HN;have ZC:=xM.out (by rw[nY];simp) HN;have MF:F=(G.acc 0 op (cu x 0) ao.1 (G.leaf (wf ws) 0 (G.bG S.used 0)) { fR with gone:=fR.gone++[ao] },G.old 0 (cu x 0) ao.1 { fR with gone:=fR.gone++[ao] }):=by rw[<-sf,<-Da];rfl
    subst MF;refine⟨_,_,rfl,fG (n:=8) (Dd.trans xM) f50 ((HO b4 z5).trans i5) rfl λqg xI MG Dh=>qe xI f60 ((Dh _ n65).trans ((HO dy kp).trans i6)) rfl λew Oi aq4 kM=>?_⟩;have HP:=ym b4 z5;have HQ:=ym dy kp;refine⟨(kM _ (atf HQ)).trans ((Dh _ (atf HP)).trans pg),.inr ⟨rfl,ea _ _ _,nq++mI (G.dP 0).k (G.dP 0).s (G.dP 0).t (G.base 0) ao.1,Xp,On,?_,Oi.loc D5 _,ZC,⟨49,?_⟩,⟨4,?_⟩,?_⟩⟩
    .exact s3.same λy aA=>by
      have aW:y≠b4:=λe=>ZB b4 z5 (e▸aA);have bd:y≠dy:=λe=>ZB dy kp (e▸aA);have ab:y≠gU:=λe=>ZC (e▸aA);rw[cJ _ _ ab,kM y bd,Dh y aW]
    .rw[cJ _ _ HP,kM _ (atf n65)];exact MG
    .rw[cJ _ _ HQ];exact aq4
    .rw[nd,G2 (j:=0) oe (by omega),show i+1=G.L by omega];rfl
   .obtain⟨cy,rfl⟩:∃cy,j=cy+1:=⟨j-1,by omega⟩;have Mn:al (((cy+1:Nat):Int)-1)=(cy:Nat):=by rw[bl];omega
    rw[Mn];have a3:=(oO aS (.inl (.inr (.inr (.inl rfl))))).trans i3;have a9:=(oO ho (.inr (.inr (.inr rfl)))).trans m_;refine⟨_,aF a9 rfl,rfl,?_⟩;refine(HD Ah (aF a3 rfl) (i:=cy) (by omega) rfl).mono ?_;rintro _ np ⟨rfl,pg⟩;refine⟨_,rfl,(by decide),bL λtA qq f13 oS rq=>⟨by omega,by omega,?_⟩⟩;have ZD:=pg.trans rq;have f130:h tA=none:=Dd.2.2 _ (pg.free f13);have aq5:Int.toNat (cy:Int)=cy:=by omega
    rw[aq5];have fL:=DZ (ZD.get ((oO eQ (.inr (.inl rfl))).trans i7)) (j:=cy) (by omega);rw[vF 0 cy (by omega),atQ] at fL;have asY:=u7 (w:=wf ws) o cy (G.bG S.used cy);have asZ:G.bG S.used cy<1000000000100:=by unfold c2.bG;omega
    refine⟨_,fL.1,_,fL.2,?_⟩;refine(Zi (a:=G.leaf (wf ws) cy (G.bG S.used cy)) (b:=G.bG S.used cy) (by omega) (by omega)).to λAl D6=>⟨_,_,rfl,Int.NonNeg.mk 0,Int.NonNeg.mk 7,?_⟩;have aq6:Al tA=some (.cells (ae.cells (.ws 8 kE)).toArray 49 (0,0)):=by rw[D6.get oS];rfl
    refine nf ((Dd.more ZD).more D6) f130 aq6 (i:=0) (by decide) λGM Mp aq7 rl=>⟨Int.NonNeg.mk 1,Int.NonNeg.mk 6,?_⟩;refine nf Mp f130 aq7 (i:=1) (by decide) λAs Db ZE Dc=>?_;have yo:∀y,nU y≠none->As y=nU y:=λy aA=>by
     have aa:np y=nU y:=pg y aA;have cX:y≠tA:=λe=>by rw[e] at aa aA;rw[f13] at aa;exact aA aa.symm
     rw[Dc y cX,rl y cX,D6 y (by rw[rq y (by rw[aa];exact aA),aa];exact aA),rq y (by rw[aa];exact aA),aa]
    have vI:=hR.same (ag:=As) λy aA=>yo y (hR.jM o aA);have wj:∀y,Z y->As y=cH y:=λy aA=>by rw[yo y (by rw[oO y aA];exact iV y aA),oO y aA]
    have wB:=(wj aj (.inl (.inl rfl))).trans i1;have oZ:=(wj aS (.inl (.inr (.inr (.inl rfl))))).trans i3;have BI:=DZ ((wj eQ (.inr (.inl rfl))).trans i7) (j:=cy+1) (by omega);rw[vF 0 (cy+1) (by omega),atQ] at BI;have ZF:bR As nF.b (nF.o+(cy+1))=some (bu ⟨B.aV (cy+1),0⟩):=by rw[mF (yo nF.b (p3 n1)),n1]
    have as0:¬fv G B wi On tA:=(hR.bE o pg).out o f13;refine⟨some ⟨B.cm,0⟩,aF wB rfl,_,rfl,B.bS,aF vI.top rfl,nF,rp,by omega,by omega,some ⟨B.aV (cy+1),0⟩,by rw[auw];exact ZF,_,aF ((wj ho (.inr (.inr (.inr rfl)))).trans m_) rfl,rfl,_,da ZE,by omega,by omega,_,BI.1,?_⟩;refine(HD Ah (aF oZ rfl) (i:=cy+1) (by omega) rfl).mono ?_;rintro _ ZG ⟨rfl,sM⟩;have sL:=vI.bE o sM;refine⟨_,rfl,⟨sM.cell BI.1,trivial⟩,da (sM.get ZE),⟨by rw[auw];exact sM.cell ZF,trivial⟩,⟨aF sL.top rfl,trivial⟩,⟨aF (sM.get wB) rfl,trivial⟩,?_⟩;have q9:=(nL o af (h:=cy)).1;generalize ah:x/4 ^ cy%4=h4;have lQ:h4<4:=by rw[<-ah];exact aum _ (by decide)
    have Ms:al (al ((cu x cy%4).toNat:Int)*2)=((2*h4:Nat):Int):=by
     have aC:(cu x cy%4).toNat=h4:=by
      rw[au9,q9,<-ah];rfl
     rw[aC,bl (n:=(h4:Int)),bl];omega
    rw[Ms];have Mt:al (((2*h4:Nat):Int)+1)=((2*h4+1:Nat):Int):=by rw[bl];omega
    rw[Mt];refine(Q8 (o.fu (cy+1)) (st.nB (cy+1) (by omega)) sL.mem (sL.fu (cy+1) (by omega)) (sL.map (cy+1) (by omega)) (sL.ik (.aV (cy+1)) _ ⟨by omega,rfl⟩) (sL.ik (.mp (cy+1)) _ ⟨by omega,rfl⟩) (ao:=ao.1) (to:=G.leaf (wf ws) (cy+1) (G.bG S.used (cy+1))) fP (G.pj _ (cy+1) _) (bi:=cu x (cy+1)) th.2 (xL.lK (cy+1) (by omega))
     (op:= .part (2*h4) (UInt64.ofNat (G.leaf (wf ws) cy (G.bG S.used cy)+1)) (UInt64.ofNat (G.bG S.used cy))) ⟨rfl,rfl,by omega,by simp,by simp⟩ (by omega)).mono ?_
    rintro _ Au ⟨Xl,rfl,Mu,Mv,aq8,Mw,aq9,Mx⟩;obtain⟨De,tS⟩:=sL.C2 o (i:=cy+1) (by omega) Mu Mv aq8 Mw aq9 Mx;obtain⟨HR,aq_⟩:=kH tS (λy aA=>by rw[sM y (by rw[wj y aA];exact iV y aA),wj y aA];exact iV y aA) Zz;have HR:∀y,Z y->Au y=cH y:=λy aA=>by rw[HR y aA,sM y (by rw[wj y aA];exact iV y aA),wj y aA]
    have ZH:ZG gU=_:=(sM gU (by rw[yo gU (by rw[nY];simp),nY];simp)).trans ((yo gU (by rw[nY];simp)).trans nY);have ZI:ZG mo=_:=(sM mo (by rw[yo mo (by rw[HM];simp),HM];simp)).trans ((yo mo (by rw[HM];simp)).trans HM);have ZJ:=tS.get ZH HN;have ZK:=tS.out (by rw[ZH];simp) HN;have ZL:=tS.get ZI ZA;have ZM:=tS.out (by rw[ZI];simp) ZA;have Dg:=(Db.more sM).trans tS;obtain⟨My,Av⟩:=FD o (u0:=u0) (u:=S.used) (h:=cy) (q1:=h4) (by omega) lQ (by omega) hu xL (id:=cu x (cy+1)) th.2 fP (G.pj (wf ws) (cy+1) (G.bG S.used (cy+1)));refine⟨_,_,rfl,bL λCq amn f14 JF Aw=>?_⟩;have f140:h Cq=none:=Dg.2.2 _ f14;refine fG (n:=8) (Dg.more Aw) f140 JF rfl λXm Mz ZN G1=>?_;refine⟨by omega,by omega,_,by rw[show 0+Int.toNat ((2*h4:Nat):Int)*1=2*h4 by omega];exact gi ZN (by omega),by omega,by omega,_,by rw[show 0+Int.toNat ((2*h4+1:Nat):Int)*1=2*h4+1 by omega];exact gi ZN (by omega),?_⟩;have hs:=C_ Av;rw[tT _ (by omega),tT _ (by omega)] at Av;rw[tT _ (by omega)] at hs;refine(Zh _ _ hs).to λara ZO=>⟨_,_,rfl,?_⟩;have HS:∀y,Au y≠none->ara y=Au y:=λy aA=>by
     have e:Xm y=Au y:=by rw[G1 y λe=>aA (e▸f14),Aw y aA]
     rw[ZO y (by rw[e];exact aA),e]
    have arb:=(HS mo (by rw[ZL];simp)).trans ZL;refine qe (Mz.more ZO) f120 arb rfl λas1 arc ard Oo=>⟨(Oo _ (atf HJ)).trans ((HS gU (by rw[ZJ];simp)).trans ZJ),.inl ⟨rfl,by omega,ea _ _ _,(G.old (cy+1) (cu x (cy+1)) ao.1 { fR with gone:=fR.gone++[ao] }).1[2*h4],(G.old (cy+1) (cu x (cy+1)) ao.1 { fR with gone:=fR.gone++[ao] }).1[2*h4+1],G.acc (cy+1) (.part (2*h4) (UInt64.ofNat (G.leaf (wf ws) cy (G.bG S.used cy)+1)) (UInt64.ofNat (G.bG S.used cy))) (cu x (cy+1)) ao.1 (G.leaf (wf ws) (cy+1) (G.bG S.used (cy+1))) { fR with gone:=fR.gone++[ao] },nq++mI (G.dP (cy+1)).k (G.dP (cy+1)).s (G.dP (cy+1)).t (G.base (cy+1)) ao.1,Xl,On,?_,arc.loc D5 _,λy aA=>?_,aq_,ZM,ZK,?_,?_,?_,?_,?_,?_⟩⟩
    .exact De.same λy aA=>by
      have aW:y≠mo:=λe=>ZM (e▸aA);have ab:y≠gU:=λe=>ZK (e▸aA);rw[cJ _ _ ab,Oo y aW,HS y (De.jM o aA)]
    .rw[cJ _ _ (ym y aA),Oo y (aqX y aA),HS y (by rw[HR y aA];exact iV y aA),HR y aA]
    .rw[cJ _ _ HJ];exact ard
    .rw[show G.L-1-(i+1)=cy by omega,<-tT _ (show 2*h4<8 by omega),<-tT _ (show 2*h4+1<8 by omega),<-sf,<-Da,<-ah];rfl
    .rw[show G.L-1-(i+1)=cy by omega];exact My
    .rw[show G.L-1-(i+1)=cy by omega];exact Av
    .show(fR.gone++[ao]).length=_;rw[as9,oe];simp;omega
    .rw[nd,G2 (j:=cy+1) oe (by omega)];rfl
  rintro _ hP (⟨as2,_⟩|⟨ku,eJ,bb,gl,vI,Db,are,⟨as3,uT⟩,⟨BZ,BX⟩,nd⟩)
  .omega
  have HP:=ym b4 (.inl (.inr (.inr (.inr (.inr (.inl rfl))))));have HQ:=ym dy (.inl (.inr (.inr (.inr (.inr (.inr rfl))))));refine .inl ⟨ku,F.2.1,da ((cJ _ _ HP).trans uT),F.2.2,aF ((cJ _ _ HQ).trans BX) rfl,eJ,bb,gl,rfl,vI.same λy aA=>cJ _ _ λe=>are (e▸aA),Db.loc D5 _,?_⟩;rw[nd,<-sy,rU];unfold qM;simp only[atr]
end
end Go.Proofs.Tryz
namespace Go.Proofs.Tryz
open Go Go.cQ Go.RowKit
set_option maxRecDepth 8000
section
variable {G:c2} {ws:List a8} {B:kR} {S:fj} {a_:List dt} {es gs:an} {h:ai}
theorem Qv (o:G.dk)(R:fM G ws B S a_ es gs h):aw 16 [bu ⟨B.cm,0⟩] h λv ag=>v= .bool ((List.range G.L).any S.over)/\ag=h:=by
 have fp:=o.L;have aO:=R.jE.len;simp only[ath,atj] at aO;refine rf _ ?_;unfold Uk;refine⟨_,aF R.top rfl,?_⟩;refine ah2 _ _ ?_;unfold UP;refine aiY _ _ ?_;unfold U_;refine⟨λs1 v1 ax ay g k=>B.bS=s1/\v1= .func (.func 71) #[] #[]/\ax=(G.L:Nat)/\∃i:Nat,ay=i/\i<=G.L/\k=G.L-i/\g=h/\(List.range i).any S.over=false,⟨G.L,rfl,rfl,by rw[aO],0,rfl,by omega,rfl,rfl,rfl⟩,?_⟩;rintro s1 v1 ax ay g k ⟨rfl,rfl,rfl,i,rfl,hi,rfl,rfl,mz⟩;refine b6 (λb1=>?_) λc3=>?_
 .have bN:i<G.L:=by omega
  refine R.jE.e0 (i:=i) (by simpa using bN) λq _ aT=>?_;have e:((List.range G.L).map B.aV)[i]'(by simpa using bN)=B.aV i:=by simp
  rw[e] at aT;refine⟨some ⟨B.aV i,0⟩,aT,rfl,?_⟩;refine(aak (R.fu i bN) rfl).mono ?_;rintro _ _ ⟨rfl,rfl⟩;refine⟨_,rfl,hS (λbz=>?_) λbz=>?_⟩
  .refine⟨_,rfl,_,rfl,?_,rfl⟩;rw[atl (show(0:Int)<=(i:Int) by omega)];have:(List.range G.L).any S.over=true:=List.any_eq_true.2 ⟨i,atq.2 bN,bz⟩;rw[this]
  .refine⟨G.L-(i+1),by omega,rfl,rfl,rfl,i+1,bl,by omega,rfl,rfl,?_⟩;rw[ato,List.any_append,mz];simpa using bz
 .have bN:i=G.L:=by omega
  subst bN;refine⟨_,rfl,_,rfl,?_,rfl⟩;rw[mz];rfl
theorem acG (o:G.dk)(R:fM G ws B S a_ es gs h):aw 19 [bu ⟨B.cm,0⟩] h λv ag=>∃s,v=aU s/\b9 dg h ag s ((List.range G.L).map λi=>((S.ids i).length:Int))/\bB h ag:=by
 have fp:=o.L;have aO:=R.jE.len;simp only[ath,atj] at aO;refine pv _ ?_;unfold Um;refine⟨_,aF R.top rfl,λs2 bj ax ay g k=>B.bS=bj/\ax=(G.L:Nat)/\∃i:Nat,ay=i/\i<=G.L/\k=G.L-i/\b9 dg h g s2 ((List.range i).map λi=>((S.ids i).length:Int))/\bB h g,⟨G.L,rfl,by rw[aO],0,rfl,by omega,rfl,b9.e9 ..,bB.refl h⟩,?_⟩;rintro s2 bj ax ay g k ⟨rfl,rfl,i,rfl,hi,rfl,eY,cv⟩;refine b6 (λb1=>?_) λc3=>?_
 .have bN:i<G.L:=by omega
  have dE:=R.bE o cv;refine dE.jE.e0 (i:=i) (by simpa using bN) λq _ aT=>?_;have e:((List.range G.L).map B.aV)[i]'(by simpa using bN)=B.aV i:=by simp
  rw[e] at aT;refine⟨some ⟨B.aV i,0⟩,aT,?_⟩;refine(aaj (dE.fu i bN) rfl (dE.map i bN)).mono ?_;rintro _ _ ⟨rfl,rfl⟩;refine⟨_,rfl,?_⟩;refine b9.sU oU qD eY ((S.ids i).length:Int) (λb au=>cv.free au) (by simp;omega) (by decide) λcx bg il D7 _ ZP=>⟨G.L-(i+1),by omega,rfl,rfl,i+1,bl,by omega,rfl,?_,qK eY cv D7⟩;rw[ato,atD];exact il
 .have bN:i=G.L:=by omega
  subst bN;exact⟨s2,rfl,eY,cv⟩
theorem acN (_o:G.dk)(R:fM G ws B S a_ es gs h)(cR:S.gone.length<1000000000000):aw 26 [bu ⟨B.cm,0⟩] h λv ag=>∃s,v=aU s/\b9 dg h ag s (S.gone.map λy=>(y.2:Int))/\bB h ag:=by
 have aO:=R.sK.len;refine xu _ ?_;unfold Up;refine⟨_,aF R.top rfl,λs2 bj ax ay g k=>gs=bj/\ax=(S.gone.length:Nat)/\∃i:Nat,ay=i/\i<=S.gone.length/\k=S.gone.length-i/\b9 dg h g s2 ((S.gone.take i).map λy=>(y.2:Int))/\bB h g,⟨S.gone.length,rfl,by rw[aO],0,rfl,by omega,rfl,b9.e9 ..,bB.refl h⟩,?_⟩;rintro s2 bj ax ay g k ⟨rfl,rfl,i,rfl,hi,rfl,eY,cv⟩;refine b6 (λb1=>?_) λc3=>?_
 .have bN:i<S.gone.length:=by omega
  refine(R.sK.rd.bE (k:=1) sv cv).e0 sv (i:=i) bN λq _ iI=>?_;obtain⟨aX,aZ,_⟩:=iI;rw[show Int.toNat (i:Int)=i by omega];refine⟨_,aX,_,aZ,bL λaj g1 f1 aC aE=>?_⟩;refine kC (cv.trans aE) (cv.free f1) aC rfl λg2 az a7 cU=>⟨_,aF a7 rfl,?_⟩;have D8:=(eY.bE aE).move (ag:=g2) λq ah=>cU _ λe=>(eY.b_ ah).2 (e▸f1);refine b9.sU oU qD D8 (S.gone[i].2:Int) (λb au=>az.free au) (by simp;omega) (by decide) λcx bg il D7 _ ZP=>⟨S.gone.length-(i+1),by omega,rfl,rfl,i+1,bl,by omega,rfl,?_,qK D8 az D7⟩;rw[atV,atc bN,atD];exact il
 .have bN:i=S.gone.length:=by omega
  subst bN;rw[List.take_length] at eY;exact⟨s2,rfl,eY,cv⟩
theorem acQ (_o:G.dk)(R:fM G ws B S a_ es gs h)(cR:S.gone.length<1000000000000):aw 27 [bu ⟨B.cm,0⟩] h λv ag=>∃s,v=aU s/\b9 dg h ag s (S.gone.map λy=>(y.1:Int))/\bB h ag:=by
 have aO:=R.sK.len;refine xv _ ?_;unfold Uq;refine⟨_,aF R.top rfl,λs2 bj ax ay g k=>gs=bj/\ax=(S.gone.length:Nat)/\∃i:Nat,ay=i/\i<=S.gone.length/\k=S.gone.length-i/\b9 dg h g s2 ((S.gone.take i).map λy=>(y.1:Int))/\bB h g,⟨S.gone.length,rfl,by rw[aO],0,rfl,by omega,rfl,b9.e9 ..,bB.refl h⟩,?_⟩;rintro s2 bj ax ay g k ⟨rfl,rfl,i,rfl,hi,rfl,eY,cv⟩;refine b6 (λb1=>?_) λc3=>?_
 .have bN:i<S.gone.length:=by omega
  refine(R.sK.rd.bE (k:=1) sv cv).e0 sv (i:=i) bN λq _ iI=>?_;obtain⟨aX,aZ,_⟩:=iI;rw[show Int.toNat (i:Int)=i by omega];refine⟨_,aX,_,aZ,bL λaj g1 f1 aC aE=>?_⟩;refine kC (cv.trans aE) (cv.free f1) aC rfl λg2 az a7 cU=>⟨_,aF a7 rfl,?_⟩;have D8:=(eY.bE aE).move (ag:=g2) λq ah=>cU _ λe=>(eY.b_ ah).2 (e▸f1);refine b9.sU oU qD D8 (S.gone[i].1:Int) (λb au=>az.free au) (by simp;omega) (by decide) λcx bg il D7 _ ZP=>⟨S.gone.length-(i+1),by omega,rfl,rfl,i+1,bl,by omega,rfl,?_,qK D8 az D7⟩;rw[atV,atc bN,atD];exact il
 .have bN:i=S.gone.length:=by omega
  subst bN;rw[List.take_length] at eY;exact⟨s2,rfl,eY,cv⟩
end

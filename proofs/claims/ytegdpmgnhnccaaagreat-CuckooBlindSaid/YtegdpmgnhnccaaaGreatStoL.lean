import Derived.Test.YtegdpmgnhnccaaaGreatBlk
import Derived.Test.YtegdpmgnhnccaaaGreatMemT
import Derived.Test.YtegdpmgnhnccaaaGreatPla
import Derived.Test.YtegdpmgnhnccaaaGreatStoC
import Derived.Test.YtegdpmgnhnccaaaGreatEvD
namespace Go.Proofs.Tryz
open Go Go.cR Go.RowKit
set_option maxRecDepth 8000
inductive agn where
 | cO
 | tb
 | ef
 | bV
 | gs
 | bf (i:Nat)
 | mp (i:Nat)
 deriving DecidableEq
structure j4 where
 cO:Nat
 tb:Nat
 ef:Nat
 bV:ao
 bf:Nat->Nat
 mp:Nat->Nat
 jo:Nat->TypeId
 pP:TypeId
 sE:TypeId
 c5:TypeId
 m:jQ
def j4.iC (B:j4)(L:Nat)(gs:ao):agn->Nat->Prop
 | .cO,x=>x=B.cO
 | .tb,x=>x=B.tb
 | .ef,x=>x=B.ef/\B.ef≠B.tb
 | .bV,x=>∃q,B.bV.q=some q/\x=q.b
 | .gs,x=>∃q,gs.q=some q/\x=q.b
 | .bf i,x=>i<L/\x=B.bf i
 | .mp i,x=>i<L/\x=B.mp i
def rX (x:Nat×Nat):List Value:=[U x.1,U x.2]
theorem yU (x:Nat×Nat):(rX x).length=2:=rfl
theorem aAH (x:Nat×Nat):∀v∈rX x,v.oneCell'=true:=by simp[rX,Value.oneCell']
theorem aAI:ph prog 110 114 2 (.agg #[U 0,U 0]) 16:=⟨by kernel_rfl,by kernel_rfl,by kernel_rfl,by kernel_rfl,rfl⟩
abbrev Iy (G:cq)(B:j4)(gs:ao):Array Value:=#[U (2 ^ G.m),U G.s,U G.t,U G.L,bm ⟨B.m.b,0⟩,U G.f,bm ⟨B.tb,0⟩,aZ B.bV,aZ gs]
structure h8 (G:cq)(ws:List aE)(B:j4)(S:c7)(a8:List dk)(es gs:ao)(h:ak):Prop where
 top:h B.cO=ev (Iy G B gs) B.sE
 mem:c8 B.pP B.m S.R a8 es h
 qc:qQ B.c5 B.tb B.ef ws S.used h
 ED:B.ef≠B.tb->h B.ef≠none
 oD:e4 (λb:Nat=>bm ⟨b,0⟩) h B.bV ((List.range G.L).map B.bf)
 gS:∀i,i<G.L->h (B.bf i)=ev (n3 (G.ew i) B.m.b (G.base i) (S.over i) (B.mp i)) (B.jo i)
 map:∀i,i<G.L->nA h (B.mp i) (S.ids i)
 zm:ct 2 rX l6 h gs S.gone
 jO:∀p eW x,B.iC G.L gs p x->B.iC G.L gs eW x->p=eW
 j1:∀p x,B.iC G.L gs p x->¬bS B.m es x
structure NH (G:cq)(B:j4):Prop where
 pQ:∀i,i<G.L->q8 B.m (G.ew i) (G.base i)
 rV:G.f<B.m.fl
 rW:B.m.cx G.f=G.top
def cV (G:cq)(B:j4)(es gs:ao):Nat->Prop:=λx=>bS B.m es x∨∃p,B.iC G.L gs p x
theorem _root_.Go.cR.cq.dt.st {G:cq}(o:G.dt):n7 G.m G.s G.t G.L:=⟨o.m,by have:=(o.gS 0).s;show 1<=(G.s:Int)/\(G.s:Int)<=8;have aa:(G.ew 0).s=G.s:=rfl;omega,by have:=(o.gS 0).t;have aa:(G.ew 0).t=G.t:=rfl;omega,o.L⟩
section
variable {G:cq} {ws:List aE} {B:j4} {S:c7} {a8:List dk} {es gs:ao} {h af:ak}
theorem h8.dK (R:h8 G ws B S a8 es gs h)(o:G.dt){p:agn}{x:Nat}(ai:B.iC G.L gs p x):h x≠none:=by
 cases p with
 | cO=>rw[show x=B.cO from ai,R.top];simp
 | tb=>rw[show x=B.tb from ai];exact R.qc.dK
 | ef=>rw[show x=B.ef from ai.1];exact R.ED ai.2
 | bV=>obtain⟨q,aj,rfl⟩:=ai;exact R.oD.there aj (by have:=o.L;simp;omega)
 | gs=>obtain⟨q,aj,rfl⟩:=ai;exact(R.zm.bp aj).2
 | bf i=>rw[ai.2,R.gS i ai.1];simp
 | mp i=>rw[ai.2];exact(R.map i ai.1).dK
theorem h8.same (R:h8 G ws B S a8 es gs h)(aV:∀x,cV G B es gs x->af x=h x):h8 G ws B S a8 es gs af:=by
 have aP:∀p x,B.iC G.L gs p x->af x=h x:=λp x ai=>aV x (.inr ⟨p,ai⟩);refine⟨by rw[aP .cO _ rfl];exact R.top,R.mem.move λx ai=>aV x (.inl ai),R.qc.move (aP .tb _ rfl) (λdA _=>aP .ef _ ⟨rfl,dA⟩),λdA=>by rw[aP .ef _ ⟨rfl,dA⟩];exact R.ED dA,R.oD.move λq aj _=>aP .bV _ ⟨q,aj,rfl⟩,
  λi hi=>by rw[aP (.bf i) _ ⟨hi,rfl⟩];exact R.gS i hi,λi hi=>(R.map i hi).move (aP (.mp i) _ ⟨hi,rfl⟩),R.zm.move λq aj=>aP .gs _ ⟨q,aj,rfl⟩,R.jO,R.j1⟩
theorem h8.mT (R:h8 G ws B S a8 es gs h)(o:G.dt){x:Nat}(ai:cV G B es gs x):h x≠none:=ai.elim R.mem.dK fun⟨_,aP⟩=>R.dK o aP
theorem h8.bA (R:h8 G ws B S a8 es gs h)(o:G.dt)(k:bL h af):h8 G ws B S a8 es gs af:=R.same λx ai=>k x (R.mT o ai)
theorem h8.out (R:h8 G ws B S a8 es gs h)(o:G.dt){x:Nat}(ai:h x=none):¬cV G B es gs x:=λbc=>R.mT o bc ai
theorem h8.vL (R:h8 G ws B S a8 es gs h)(o:G.dt){dG:dY}{cm:List dk}{aX:ao}(M:c8 B.pP B.m dG cm aX af)(v:bT (bS B.m es) h (bS B.m aX) af):h8 G ws B { S with R:=dG } cm aX gs af/\bT (cV G B es gs) h (cV G B aX gs) af:=by
 have aP:∀p x,B.iC G.L gs p x->af x=h x:=λp x ai=>v.2.1 x (R.dK o ai) (R.j1 p x ai);refine⟨⟨by rw[aP .cO _ rfl];exact R.top,M,R.qc.move (aP .tb _ rfl) (λdA _=>aP .ef _ ⟨rfl,dA⟩),λdA=>by rw[aP .ef _ ⟨rfl,dA⟩];exact R.ED dA,R.oD.move λq aj _=>aP .bV _ ⟨q,aj,rfl⟩,
  λi hi=>by rw[aP (.bf i) _ ⟨hi,rfl⟩];exact R.gS i hi,λi hi=>(R.map i hi).move (aP (.mp i) _ ⟨hi,rfl⟩),R.zm.move λq aj=>aP .gs _ ⟨q,aj,rfl⟩,R.jO,λp x ai=>v.out (R.dK o ai) (R.j1 p x ai)⟩,nd v⟩
theorem h8.tape (R:h8 G ws B S a8 es gs h)(o:G.dt){u:Nat}(t:qQ B.c5 B.tb B.ef ws u af)(aV:∀x,h x≠none->x≠B.tb->af x=h x):h8 G ws B { S with used:=u } a8 es gs af:=by
 have aP:∀p x,B.iC G.L gs p x->p≠.tb->af x=h x:=λp x ai dA=>aV x (R.dK o ai) λe=>dA (R.jO p .tb x ai e);exact⟨by rw[aP .cO _ rfl (by simp)];exact R.top,R.mem.move λx ai=>aV x (R.mem.dK ai) λe=>R.j1 .tb x e ai,t,λdA=>by rw[aP .ef _ ⟨rfl,dA⟩ (by simp)];exact R.ED dA,R.oD.move λq aj _=>aP .bV _ ⟨q,aj,rfl⟩ (by simp),
  λi hi=>by rw[aP (.bf i) _ ⟨hi,rfl⟩ (by simp)];exact R.gS i hi,λi hi=>(R.map i hi).move (aP (.mp i) _ ⟨hi,rfl⟩ (by simp)),R.zm.move λq aj=>aP .gs _ ⟨q,aj,rfl⟩ (by simp),R.jO,R.j1⟩
theorem h8.HC (R:h8 G ws B S a8 es gs h)(o:G.dt){i:Nat}(hi:i<G.L){dG:dY}{cm:List dk}{aX:ao}{fb:Bool}{ids:List aE}(M:c8 B.pP B.m dG cm aX af)
 (aT:af (B.bf i)=ev (n3 (G.ew i) B.m.b (G.base i) fb (B.mp i)) (B.jo i)) (hm:nA af (B.mp i) ids) (nl:¬bS B.m aX (B.bf i)) (DY:¬bS B.m aX (B.mp i))
 (v:bT (λx=>bS B.m es x∨x=B.bf i∨x=B.mp i) h (λx=>bS B.m aX x∨x=B.bf i∨x=B.mp i) af) :
 h8 G ws B { S with R:=dG,over:=λx=>if x=i then fb else S.over x,ids:=λx=>if x=i then ids else S.ids x } cm aX gs af/\bT (cV G B es gs) h (cV G B aX gs) af:=by
 have aK:∀p x,B.iC G.L gs p x->p≠.bf i->p≠.mp i->¬(bS B.m es x∨x=B.bf i∨x=B.mp i):=λp x ai aa ad h=>by
  rcases h with h|h|h
  .exact R.j1 p x ai h
  .exact aa (R.jO p (.bf i) x ai ⟨hi,h⟩)
  .exact ad (R.jO p (.mp i) x ai ⟨hi,h⟩)
 have aP:∀p x,B.iC G.L gs p x->p≠.bf i->p≠.mp i->af x=h x:=λp x ai aa ad=>v.2.1 x (R.dK o ai) (aK p x ai aa ad);refine⟨⟨by rw[aP .cO _ rfl (by simp) (by simp)];exact R.top,M,R.qc.move (aP .tb _ rfl (by simp) (by simp)) (λdA _=>aP .ef _ ⟨rfl,dA⟩ (by simp) (by simp)),λdA=>by rw[aP .ef _ ⟨rfl,dA⟩ (by simp) (by simp)];exact R.ED dA,
  R.oD.move λq aj _=>aP .bV _ ⟨q,aj,rfl⟩ (by simp) (by simp),λj aU=>?_,λj aU=>?_,R.zm.move λq aj=>aP .gs _ ⟨q,aj,rfl⟩ (by simp) (by simp),R.jO,λp x ai=>?_⟩,?_⟩
 .show af (B.bf j)=ev (n3 (G.ew j) B.m.b (G.base j) (if j=i then fb else S.over j) (B.mp j)) (B.jo j);by_cases c:j=i
  .subst c;rw[aDr rfl];exact aT
  .rw[aDq c,aP (.bf j) _ ⟨aU,rfl⟩ (by simpa using c) (by simp)];exact R.gS j aU
 .show nA af (B.mp j) (if j=i then ids else S.ids j);by_cases c:j=i
  .subst c;rw[aDr rfl];exact hm
  .rw[aDq c];exact(R.map j aU).move (aP (.mp j) _ ⟨aU,rfl⟩ (by simp) (by simpa using c))
 .by_cases aS:p= .bf i
  .subst aS;rw[ai.2];exact nl
  .by_cases aY:p= .mp i
   .subst aY;rw[ai.2];exact DY
   .exact λh=>v.out (R.dK o ai) (aK p x ai aS aY) (.inl h)
 .refine((bT.refl (cV G B es gs) h).to (C:=λx=>(bS B.m es x∨x=B.bf i∨x=B.mp i)∨∃p,B.iC G.L gs p x) λx ai=> .inl ?_).trans (nd v) |>.to λx ai=> .inl ?_
  .rcases ai with (h|h|h)|h
   .exact .inl h
   .exact .inr ⟨.bf i,hi,h⟩
   .exact .inr ⟨.mp i,hi,h⟩
   .exact .inr h
  .exact ai.elim (λh=> .inl (.inl h)) .inr
end
end Go.Proofs.Tryz
namespace Go.Proofs.Tryz
open Go Go.cR Go.RowKit
set_option maxRecDepth 8000
section
variable {G:cq} {ws:List aE} {B:j4} {S:c7} {a8:List dk} {es gs:ao} {h af:ak}
theorem h8.Lw (R:h8 G ws B S a8 es gs h)(o:G.dt){c0:ao}{l:List (Nat×Nat)}(hv:ct 2 rX l6 af c0 l)(top:af B.cO=ev (Iy G B c0) B.sE)
 (off:∀b,h b≠none->(∀q,gs.q=some q->b≠q.b)->b≠B.cO->af b=h b) (loc:∀dE,c0.q=some dE->(∃q,gs.q=some q/\dE.b=q.b)∨h dE.b=none) (aw:∀b,af b=none->h b=none) :
 h8 G ws B { S with gone:=l } a8 es c0 af/\bT (cV G B es gs) h (cV G B es c0) af:=by
 have old:∀p x,B.iC G.L c0 p x->p≠.gs->B.iC G.L gs p x:=λp x ai dA=>by cases p<;>first|exact ai|exact absurd rfl dA
 have new:∀p x,B.iC G.L gs p x->p≠.gs->B.iC G.L c0 p x:=λp x ai dA=>by cases p<;>first|exact ai|exact absurd rfl dA
 have aP:∀p x,B.iC G.L gs p x->p≠.gs->p≠.cO->af x=h x:=λp x ai aa ad=>off x (R.dK o ai) (λq aj e=>aa (R.jO p .gs x ai ⟨q,aj,e⟩)) λe=>ad (R.jO p .cO x ai e);have MP:∀x,B.iC G.L c0 .gs x->B.iC G.L gs .gs x∨h x=none:=by
  rintro x ⟨q,aj,rfl⟩;rcases loc q aj with ⟨gU,h0,e⟩|aK
  .exact .inl ⟨gU,h0,e⟩
  .exact .inr aK
 refine⟨⟨top,R.mem.move λx ai=>off x (R.mem.dK ai) (λq aj e=>R.j1 .gs x ⟨q,aj,e⟩ ai) λe=>R.j1 .cO x e ai,R.qc.move (aP .tb _ rfl (by simp) (by simp)) (λdA _=>aP .ef _ ⟨rfl,dA⟩ (by simp) (by simp)),λdA=>by rw[aP .ef _ ⟨rfl,dA⟩ (by simp) (by simp)];exact R.ED dA,
  R.oD.move λq aj _=>aP .bV _ ⟨q,aj,rfl⟩ (by simp) (by simp),λi hi=>by rw[aP (.bf i) _ ⟨hi,rfl⟩ (by simp) (by simp)];exact R.gS i hi,λi hi=>(R.map i hi).move (aP (.mp i) _ ⟨hi,rfl⟩ (by simp) (by simp)),hv,λp eW x ai hx=>?_,λp x ai=>?_⟩,?_,?_,aw⟩
 .by_cases c:p= .gs
  .subst c;by_cases cr:eW= .gs
   .exact cr.symm
   .rcases MP x ai with dd|aK
    .exact R.jO .gs eW x dd (old eW x hx cr)
    .exact absurd aK (R.dK o (old eW x hx cr))
  .by_cases cr:eW= .gs
   .subst cr;rcases MP x hx with dd|aK
    .exact R.jO p .gs x (old p x ai c) dd
    .exact absurd aK (R.dK o (old p x ai c))
   .exact R.jO p eW x (old p x ai c) (old eW x hx cr)
 .by_cases c:p= .gs
  .subst c;rcases MP x ai with dd|aK
   .exact R.j1 .gs x dd
   .exact λhm=>R.mem.dK hm aK
  .exact R.j1 p x (old p x ai c)
 .rintro x (hm|⟨p,ai⟩)
  .exact .inl (.inl hm)
  .by_cases c:p= .gs
   .subst c;exact(MP x ai).imp (λdd=> .inr ⟨.gs,dd⟩) id
   .exact .inl (.inr ⟨p,old p x ai c⟩)
 .intro x ai aK
  exact off x ai (λq aj e=>aK (.inr ⟨.gs,q,aj,e⟩)) λe=>aK (.inr ⟨.cO,e⟩)
theorem ago (o:G.dt)(R:h8 G ws B S a8 es gs h){i:Nat}(hi:i<4)(hu:S.used<2 ^ 62) :
 aq 55 [bm ⟨B.cO,0⟩,U i] h λv af=>v= .agg #[U (G.leaf (wf ws) i S.used),U S.used]/\h8 G ws B { S with used:=S.used+1 } a8 es gs af/\bT (cV G B es gs) h (cV G B es gs) af:=by
 have fj:=o.st;refine aqZ _ _ ?_;unfold abC;refine bP λae aa f1 aH aD=>⟨some ⟨B.tb,0⟩,aD.cell (az R.top rfl),?_⟩;have fG:=R.bA o aD;refine(aor fG.qc hu).mono ?_;rintro _ ad ⟨rfl,t2,cg⟩;have df:=fG.tape o t2 λx _ ai=>cg x ai;have v2:bT (cV G B es gs) aa (cV G B es gs) ad:=⟨λx ai=> .inl ai,λx ai aK=>cg x λe=>aK (.inr ⟨.tb,e⟩),λx ai=>by
  by_cases e:x=B.tb
  .rw[e] at ai;exact absurd ai t2.dK
  .rw[cg x e] at ai;exact ai⟩
 refine⟨_,_,rfl,_,az df.top rfl,_,az df.top rfl,_,az df.top rfl,_,az df.top rfl,?_⟩;refine(T6 fj i (by omega)).to λan aG=>⟨_,rfl,?_⟩;have ah:G.m-2*i<=10:=by have:=o.m;omega
 have sd:1<=2 ^ (G.m-2*i):=aEf;have se:2 ^ (G.m-2*i)<=2 ^ 10:=aDy (by decide) ah;have R2:(2:Int) ^ (G.m-2*i)=((2 ^ (G.m-2*i):Nat):Int):=by simp
 rw[R2,jU (by omega)];have HD:(UInt64.ofNat (2 ^ (G.m-2*i))).toNat=2 ^ (G.m-2*i):=by rw[aDw];omega
 have em:((ws.getD S.used 0)%UInt64.ofNat (2 ^ (G.m-2*i))).toNat=G.leaf (wf ws) i S.used:=by
  rw[aFo,HD];rfl
 have uS:G.leaf (wf ws) i S.used<1024:=yh o i S.used;have e9:¬cV G B es gs ae:=R.out o f1;have ik:=v2.get aH e9;refine⟨λe=>by have:=congrArg UInt64.toNat e;rw[HD] at this;simp at this,?_⟩;rw[em,bt];have kG:=((hj aD (cV G B es gs)).trans v2).more aG;refine lY kG f1 (aG.get ik) rfl λaJ rC b6 dq=>⟨_,az b6 rfl,_,az b6 rfl,rfl,?_,rC⟩;exact(df.bA o aG).same λx ai=>dq x λe=>e9 (e▸ai)
noncomputable def agp (v p:aE):Value:= .agg #[U ((v.toNat:Int)-1),U (al (p.toNat:Int))]
theorem agq (v p:aE)(b0:v.toNat<2 ^ 62):fc prog 62 [ab v,ab p] (agp v p):=by
 intro h;refine arb _ _ ?_;unfold abI;refine bP λae aa f1 aH aD=>?_;rw[bt (n:=(v.toNat:Int)),bt (n:=(v.toNat:Int)-1)];exact iH aD f1 aH rfl λad aB a_ _=>⟨_,az a_ rfl,_,az a_ rfl,rfl,aB⟩
theorem agr {a b:Nat}(bY:a<2 ^ 62)(ar:b<2 ^ 62):fc prog 59 [.agg #[U a,U b]] (.tuple #[ab (UInt64.ofNat (a+1)),ab (UInt64.ofNat b)]):=by
 intro h;refine aq6 _ _ ?_;unfold abF;refine bP λae aa f1 aH aD=>⟨_,az aH rfl,_,az aH rfl,?_,aD⟩;rw[jU (by omega),jU (by omega)];have:UInt64.ofNat a+1=UInt64.ofNat (a+1):=by
  apply aDE.1;rw[aEt,aDw,aDw];have e:(1:aE).toNat=1:=rfl;rw[e];omega
 rw[this]
theorem aAJ (o:G.dt)(R:h8 G ws B S a8 es gs h){v p:aE}(b0:v.toNat<2 ^ 62)(aP:v≠0->p.toNat<2 ^ 62){sp:Nat×Nat}(dd:S.gone.length<1000000000000) :
 aq 63 [bm ⟨B.cO,0⟩,agp v p,.agg #[U sp.1,U sp.2]] h λr af=>∃c0,r=U (gd v p sp).1/\h8 G ws B { S with gone:=S.gone++[gd v p sp] } a8 es c0 af/\bT (cV G B es gs) h (cV G B es c0) af:=by
 refine ard _ _ _ _ _ ?_;unfold abJ;refine bP λae aa f1 aH aD=>bP λax ad f2 a_ aB=>?_;have fQ:=aD.trans aB;have cU:ax≠ae:=λe=>by rw[e,aH] at f2;cases f2
 have fin:∀(g:ak) (y:Nat×Nat),bL h g->g ae=some (.cells #[U y.1,U y.2] 114 (0,0))->y=gd v p sp ->
  ∃s1,bx g B.cO (0+8)=some (aZ s1)/\∃aO,bx g ae 0=some (U aO)/\∃bh,bx g ae (0+1)=some (U bh)/\bg g (.cells #[U aO,U bh] 114) λaM aJ=>eI prog 110 s1 (.s ⟨some ⟨aM,0⟩,1,1,none⟩) aJ λs2 aR=>aW aR ⟨B.cO,0+8⟩ [aZ s2] λbj=>∃bB,bx bj ae 0=some (U bB) /\
   ∃c0,Value.int .i64 bB=U (gd v p sp).1/\h8 G ws B { S with gone:=S.gone++[gd v p sp] } a8 es c0 bj/\bT (cV G B es gs) h (cV G B es c0) bj:=by
  rintro g y cY jm rfl;have dJ:=R.bA o cY;refine⟨gs,az dJ.top rfl,_,az jm rfl,_,az jm rfl,?_⟩;refine ct.push aAI yU aAH dJ.zm [gd v p sp] (by rfl) rfl (λ_ _=>rfl) (by simp;omega) (by decide) ?_;intro c0 g2 cg T7 h6 z8;have ags:∀q,gs.q=some q->B.cO≠q.b:=λq aj e=>by have:=dJ.jO .cO .gs B.cO rfl ⟨q,aj,e⟩;cases this
  have j3:g2 B.cO=ev (Iy G B gs) B.sE:=by rw[T7 _ (by rw[dJ.top];simp) ags,dJ.top]
  have e9:ae≠B.cO:=λe=>by rw[e,R.top] at f1;cases f1
  have BG:∀q,c0.q=some q->q.b≠B.cO:=λq aj e=>by
   rcases h6 q aj with ⟨gU,h0,dM⟩|aK
   .exact ags gU h0 (e▸dM)
   .rw[e,dJ.top] at aK;cases aK
  obtain⟨mv,v6⟩:=dJ.Lw o (af:=bD g2 B.cO (.cells (Iy G B c0) B.sE (0,0))) (c0:=c0) (l:=S.gone++[gd v p sp]) (cg.move λq aj=>cu _ _ (BG q aj)) (eC _ _ _)
   (λb ar aj aV=>by rw[cu _ _ aV,T7 b ar aj]) (λq aj=>h6 q aj) (λb ar=>by
    by_cases e:b=B.cO
    .rw[e,eC] at ar;cases ar
    .rw[cu _ _ e] at ar;exact z8 b ar)
  have aAK:bD g2 B.cO (.cells (Iy G B c0) B.sE (0,0)) ae=g ae:=by
   rw[cu _ _ e9,T7 ae (by rw[jm];simp) λq aj e=>R.out o f1 (.inr ⟨.gs,q,aj,e⟩)]
  exact⟨_,_,j3,by simp,_,az (aAK.trans jm) rfl,c0,rfl,mv,(hj cY _).trans v6⟩
 refine⟨_,az (aB.get aH) rfl,cj (λcl=>?_) λdH=>?_⟩
 .have EE:v=0:=aDE.1 (by show v.toNat=0;omega);refine⟨_,az a_ rfl,_,az a_ rfl,iH fQ f1 (aB.get aH) rfl λan aG b7 _=>?_⟩;exact fin an sp aG b7 (by unfold gd;rw[aDr EE])
 .have EE:¬v=0:=λe=>by rw[e] at dH;simp at dH
  refine fin ad (v.toNat-1,p.toNat) fQ ?_ (by unfold gd;rw[aDq EE]);rw[aB.get aH];have:(v.toNat:Int)-1=((v.toNat-1:Nat):Int):=by omega
  have aP:=aP EE;rw[this,bt]
end
end Go.Proofs.Tryz
namespace Go.Proofs.Tryz
open Go Go.cR Go.RowKit
set_option maxRecDepth 8000
theorem aAL {h:ak}{q:aF}{L:Nat}(eg:L<=1000){y:Value}(S:Nat->ak->Prop)(E:ak->Prop)(h0:S 0 h)(a1:bx h q.b (q.o+3)=some (U L))
 (step:∀i af,i<L->S i af->fL prog y [U ((L:Int)-1-i)] af λv hQ=>(v= .bool true/\S (i+1) hQ)∨(v= .bool false/\E hQ)) :
 aq 109 [y,bm q] h λ_ af=>S L af∨E af:=by
 refine ab6 y q ?_;unfold Rb;refine⟨L,a1,λv n aa k=>v=y/\∃i:Nat,n=(L:Int)-1-i/\i<=L/\S i aa/\k=L-i,⟨_,rfl,0,by rw[bt];simp,aDM _,h0,rfl⟩,?_⟩;rintro v n aa k ⟨rfl,i,rfl,hi,aV,rfl⟩;refine cj (λcl=>?_) λdH=>?_
 .refine(step i aa (by omega) aV).mono ?_
  rintro _ ad (⟨rfl,Is⟩|⟨rfl,he⟩)
  .exact⟨_,rfl,dF rfl ⟨_,by omega,rfl,i+1,by rw[bt];omega,by omega,Is,rfl⟩⟩
  .exact⟨_,rfl,b3 rfl (.inr he)⟩
 .have:i=L:=by omega
  subst this;exact .inl aV
theorem aAM:fc prog 57 [ab 4] (U 2):=by
 intro h;refine Ux _ ?_;unfold M_;refine(M9 4).to λaa aD=>⟨_,rfl,?_,aD⟩;have:Lib.bitLen (UInt64.toNat 4)=3:=by decide
 rw[this,show al (((3:Nat):Int)-1)=2 by rw[bt];omega];rfl
theorem aei {x i:Nat}(ai:x<2 ^ 62)(hi:i<=4):dX (UInt64.ofNat x) (2*i)=cT x i:=by
 apply aDE.1;unfold dX cT;have aH:(UInt64.ofNat x).toNat=x:=by rw[aDw];omega
 have ad:x/4 ^ i<=x:=aEY _ _;have a_:(UInt64.ofNat (x/4 ^ i)).toNat=x/4 ^ i:=by rw[aDw];generalize x/4 ^ i=z at *;omega
 rw[a_];have cb:i=0∨i=1∨i=2∨i=3∨i=4:=by omega
 rcases cb with rfl|rfl|rfl|rfl|rfl<;>(simp[aFp,aH,Nat.shiftRight_eq_div_pow])<;>omega
theorem MQ {g:ak}{aM x:Nat}(ai:x<2 ^ 62)(b7:bx g aM 0=some (ab (UInt64.ofNat x))){i:Nat}(hi:i<=4){I:Int}(lj:I=i) :
 fL prog (.func (.func 56) #[] #[bm ⟨aM,0⟩]) [U I] g λr bw=>r=ab (cT x i)/\bL g bw:=by
 subst lj;refine⟨rfl,?_⟩;refine aq1 _ _ ?_;unfold abD;refine⟨_,b7,aAM.to λaa aD=>⟨_,rfl,⟨aD.cell b7,trivial⟩,?_⟩⟩;have e:al (2*(i:Int))=((2*i:Nat):Int):=by rw[bt];omega
 rw[e];refine⟨by omega,?_,aD⟩;rw[show Int.toNat ((2*i:Nat):Int)=2*i by omega,aei ai hi]
abbrev BH (g:Nat->Nat×Nat):Array Value:=#[U (g 0).1,U (g 0).2,U (g 1).1,U (g 1).2,U (g 2).1,U (g 2).2,U (g 3).1,U (g 3).2]
theorem agt (g:Nat->Nat×Nat){j:Nat}(aU:j<4)(y:Nat×Nat):iI (BH g) (j*2) [U y.1,U y.2]=BH λk=>if k=j then y else g k:=by
 have:j=0∨j=1∨j=2∨j=3:=by omega
 rcases this with rfl|rfl|rfl|rfl<;>rfl
theorem Iz {h:ak}{b:Nat}{g:Nat->Nat×Nat}{T:TypeId}(e:h b=ev (BH g) T){j:Nat}(aU:j<4):bx h b (0+j*2)=some (U (g j).1)/\bx h b (0+j*2+1)=some (U (g j).2):=by
 have:j=0∨j=1∨j=2∨j=3:=by omega
 rcases this with rfl|rfl|rfl|rfl<;>exact⟨az e rfl,az e rfl⟩
theorem aeo (a b:aE):(fm.set 0 a).set 1 b=u6 a b:=by
 apply aEO;intro i hi;have h:i=0∨i=1∨i=2∨i=3∨i=4∨i=5∨i=6∨i=7∨i=8∨i=9∨i=10∨i=11:=by omega
 rcases h with rfl|rfl|rfl|rfl|rfl|rfl|rfl|rfl|rfl|rfl|rfl|rfl<;>rfl
theorem agu {m:Nat}{s t:Int}{L:Nat}{first:Int}(ls:List Int)(y:Int):∀n,n<=ls.length->k8 m s t L first (ls++[y]) n=k8 m s t L first ls n
 | 0,_=>rfl
 | n+1,h=>by
  rw[vD,vD,agu ls y n (by omega)];have:(ls++[y]).getD n 0=ls.getD n 0:=by simp[List.getD,aD0 (show n<ls.length by omega)]
  rw[this]
theorem xa (d:c_){j:Nat}(aU:j<8):ih d j=d[j]:=by unfold ih;simp[aU]
theorem Mi {G:cq}{pre:List dk}{l:List (Nat×Nat)}{g0 i j:Nat}{aw:Nat×Nat}(aT:l.length=g0+i)(aU:j+i+1=G.L) :
 pre++k8 G.m G.s G.t G.L G.f ((l.drop g0).map λy=>(y.1:Int)) i++k7 (G.ew j).k (G.ew j).s (G.ew j).t (G.base j) aw.1=pre++k8 G.m G.s G.t G.L G.f (((l++[aw]).drop g0).map λy=>(y.1:Int)) (i+1):=by
 rw[aFv (by omega),aD4,aEs,List.map_nil,vD,agu _ _ i (by simp;omega),aDD];have aa:(((l.drop g0).map λy=>(y.1:Int))++[(aw.1:Int)]).getD i 0=(aw.1:Int):=by
  have:((l.drop g0).map λy=>(y.1:Int)).length=i:=by simp;omega
  simp[List.getD,<-this]
 have ad:G.L-1-i=j:=by omega
 have an:((G.base j:Nat):Int)=(G.f:Int)+1+3*(j:Int):=by unfold cq.base;omega
 rw[aa,ad,an];rfl
end Go.Proofs.Tryz
namespace Go.Proofs.Tryz
open Go Go.cR Go.RowKit
set_option maxRecDepth 8000
section
variable {G:cq} {ws:List aE} {B:j4} {S:c7} {a8:List dk} {es gs:ao} {h:ak}
theorem BQ (_o:G.dt){x:Nat}(ai:x<2 ^ G.m):x/4 ^ (G.L-1)<G.top:=by
 unfold cq.top;refine Nat.div_lt_of_lt_mul (aEP ai ?_);rw[show 4 ^ (G.L-1)=2 ^ (2*(G.L-1)) by rw[Nat.pow_mul],<-aFH];exact aDy (by decide) (by omega)
def drawn (G:cq)(w:Nat->aE)(u e lo:Nat)(j:Nat):Nat×Nat:=if lo<=j/\j<G.L then (G.leaf w j (G.bQ u j+e),G.bQ u j+e) else (0,0)
set_option maxHeartbeats 4000000 in
theorem aij (o:G.dt)(st:NH G B)(R:h8 G ws B S a8 es gs h){op:fv}{k:Int}{d:c_}(fV:zD op k 0 d)(ah:k=0∨k=1∨k=3){x u0 a:Nat}(ai:x<2 ^ G.m)(e2:lk G (wf ws) u0 S.used S)(hu:S.used=u0+2*G.L*a)(dd:S.gone.length=G.L*a)
 (pM:S.used<1000000000000) (aws:S.gone.length<100000000000) (aT:a8.length<100000000000) :
 aq 13 [bm ⟨B.cO,0⟩,U k,ab (UInt64.ofNat x),ez d] h λr af=>∃cm aX c0,r= .tuple #[ez (de G (wf ws) op x S).2.1,.bool (de G (wf ws) op x S).2.2]/\h8 G ws B (de G (wf ws) op x S).1 cm aX c0 af/\bT (cV G B es gs) h (cV G B aX c0) af /\
  cm=a8++oH G.m G.s G.t G.L G.f (((de G (wf ws) op x S).1.gone.drop S.gone.length).map λy=>(y.1:Int)):=by
 have fj:=o.st;have eg:=o.L;have hm:=o.m;have awt:2 ^ G.m<=2 ^ 10:=aDy (by decide) hm;have DZ:x<2 ^ 62:=by omega
 refine l_ _ _ _ _ ?_;unfold aaM;refine bP λae aa f1 aH aD=>bP λax ad f2 a_ aB=>bP λaM an f3 b7 aG=>bP λbM aJ f4 b6 bd=>bP λb1 aR f5 cG bF=>bP λdU bj f6 dP cn=>?_;have agv:=(aG.trans bd).trans (bF.trans cn);have lO:=aB.trans agv;have xK:=aD.trans lO;have g1:=lO.get aH;have g2:=agv.get a_;have g3:=(bd.trans (bF.trans cn)).get b7;have g4:=(bF.trans cn).get b6;have g5:=cn.get cG;have mv:=R.bA o xK;have f20:h ax=none:=aD.free f2;have f30:h aM=none:=aD.free (aB.free f3);have f40:h bM=none:=aD.free (aB.free (aG.free f4));have f50:h b1=none:=aD.free (aB.free (aG.free (bd.free f5)));have f60:h dU=none:=aD.free (aB.free (aG.free (bd.free (bF.free f6))));rcases ah with rfl|rfl|rfl
 all_goals first
  | refine⟨_,az g2 rfl,b3 rfl ?_⟩
  | refine⟨_,az g2 rfl,dF rfl ⟨_,az g2 rfl,b3 rfl ?_⟩⟩
  | refine⟨_,az g2 rfl,dF rfl ⟨_,az g2 rfl,dF rfl ⟨_,az g2 rfl,b3 rfl ?_⟩⟩⟩
 all_goals
  refine⟨_,az g3 rfl,some ⟨B.cO,0⟩,az g1 rfl,_,rfl,_,az mv.top rfl,b3 ?_ (bP λeQ bU f7 fa c3=>bP λfS bR f8 fO eO=>?_)⟩
  .have e:cX ((2:Int) ^ G.m)=UInt64.ofNat (2 ^ G.m):=by rw[show(2:Int) ^ G.m=((2 ^ G.m:Nat):Int) by simp,jU (by omega)]
   show decide (cX ((2:Int) ^ G.m)<=UInt64.ofNat x)=false;rw[e];refine aDz λhle=>?_;have:=aEN.1 hle;rw[aDw,aDw] at this;omega
  have nf:=c3.trans eO;have KC:=xK.trans nf;have f70:h eQ=none:=xK.free f7;have f80:h fS=none:=(xK.trans c3).free f8;have s3:=R.bA o KC;have Hd:fS≠eQ:=λe=>by rw[e,fa] at f8;cases f8
  let Y:Nat->Prop:=λy=>y=ae∨y=ax∨y=aM∨y=bM∨y=b1∨y=dU;have Aw:∀y,Y y->h y=none:=by rintro y (rfl|rfl|rfl|rfl|rfl|rfl)<;>assumption
  have m5:∀y,Y y->bR y≠none:=by
   rintro y (rfl|rfl|rfl|rfl|rfl|rfl)
   .rw[nf.get g1];simp
   .rw[nf.get g2];simp
   .rw[nf.get g3];simp
   .rw[nf.get g4];simp
   .rw[nf.get g5];simp
   .rw[nf.get dP];simp
  have agw:∀y,Y y->y≠eQ/\y≠fS:=λy z=>by
   have MR:bj y≠none:=by
    have:=m5 y z;intro aK;rcases z with rfl|rfl|rfl|rfl|rfl|rfl
    .rw[g1] at aK;cases aK
    .rw[g2] at aK;cases aK
    .rw[g3] at aK;cases aK
    .rw[g4] at aK;cases aK
    .rw[g5] at aK;cases aK
    .rw[dP] at aK;cases aK
   exact⟨λe=>MR (e▸f7),λe=>by have:=c3 y MR;rw[e,f8] at this;rw[e] at MR;exact MR this.symm⟩
  have agx:∀y,Y y->¬cV G B es gs y:=λy z=>R.out o (Aw y z);have T8:¬cV G B es gs eQ:=R.out o f70;have T9:¬cV G B es gs fS:=R.out o f80;refine⟨some ⟨B.cO,0⟩,az (nf.get g1) rfl,_,rfl,_,az s3.top rfl,_,az s3.top rfl,_,az s3.top rfl,_,az s3.top rfl,?_⟩;refine(Kc bR).mono ?_;rintro _ b9 ⟨CI,rfl,fd,gG,en⟩;refine⟨_,rfl,trivial,λz bW tA aQ=>⟨rfl,?_⟩⟩;have T_:=KC.trans en;have ln:h bW=none:=T_.free tA;have IA:¬cV G B es gs bW:=R.out o ln;have rk:bL b9 (bD b9 bW (eA z)):=(bL.refl b9).bD tA _;have EF:∀y,Y y->y≠bW:=λy z e=>by have:=en y (m5 y z);rw[e,tA] at this;exact m5 bW (e▸z) this.symm
  have EG:eQ≠bW:=λe=>by have:=(eO.trans en).get fa;rw[e,tA] at this;cases this
  have EH:fS≠bW:=λe=>by have:=en.get fO;rw[e,tA] at this;cases this
  have agy:∀e,drawn G (wf ws) S.used e G.L=λ_=>(0,0):=λe=>by funext j;unfold drawn;rw[cS]
  refine(Pg (L:=G.L) (q:=⟨CI,0⟩) (y:=lM bW) (by omega) (λi g=>g bW=some (eA z)/\h8 G ws B { S with used:=S.used+2*i } a8 es gs g/\bT (cV G B es gs) h (cV G B es gs) g/\(∀y,Y y->g y=bR y) /\
   g eQ=ev (BH (drawn G (wf ws) S.used 0 (G.L-i))) 115/\g fS=ev (BH (drawn G (wf ws) S.used 1 (G.L-i))) 115)
   ⟨eC _ _ _,R.bA o (T_.trans rk),hj (T_.trans rk) _,λy aC=>(cu _ _ (EF y aC)).trans (en y (m5 y aC)),?_,?_⟩ (az (rk.get gG) rfl) ?_).mono ?_
  .rw[aFm,agy,cu _ _ EG,(eO.trans en).get fa];rfl
  .rw[aFm,agy,cu _ _ EH,en.get fO];rfl
  .rintro i g hi ⟨bn,dJ,kt,qV,g7,g8⟩;refine⟨rfl,rfl,aQ _ g _ bn ⟨bn,?_⟩⟩;obtain⟨j,aU⟩:∃j:Nat,j=G.L-1-i:=⟨_,rfl⟩;have Ag:(G.L:Int)-1-i=j:=by omega
   rw[Ag];have D0:G.bQ S.used j=S.used+2*i:=by unfold cq.bQ;omega
   have Ua:=kt.loc ln (dn z);have Ub:h8 G ws B { S with used:=S.used+2*i } a8 es gs (bD g bW (dn z)):=dJ.same λy aC=>cu _ _ λe=>IA (e▸aC);refine⟨some ⟨B.cO,0⟩,az ((cu _ _ (EF ae (.inl rfl))).trans ((qV ae (.inl rfl)).trans (nf.get g1))) rfl,?_⟩;refine(ago o Ub (i:=j) (by omega) (by show S.used+2*i<2 ^ 62;omega)).mono ?_;rintro _ qd ⟨rfl,js,kP⟩;have qe:∀y,Y y->qd y=bR y:=λy aC=>by rw[kP.2.1 y (by rw[cu _ _ (EF y aC),qV y aC];exact m5 y aC) (agx y aC),cu _ _ (EF y aC),qV y aC]
   have aAN:=kP.get (show bD g bW (dn z) eQ=_ from (cu _ _ EG).trans g7) T8;have aAO:=kP.get (show bD g bW (dn z) fS=_ from (cu _ _ EH).trans g8) T9;have oj:=kP.get (show bD g bW (dn z) bW=_ from eC _ _ _) IA;refine⟨_,_,rfl,by omega,by omega,?_⟩;rw[show 0+Int.toNat (j:Int)*2=j*2 by omega];refine stM (Ua.trans kP) f70 aAN (by simp;omega) λpE Sf aAP tO=>?_;have qq:=js.same (af:=pE) λy aC=>tO y λe=>T8 (e▸aC);have Bd:∀y,Y y->pE y=bR y:=λy aC=>by rw[tO y (agw y aC).1,qe y aC]
   refine⟨some ⟨B.cO,0⟩,az ((Bd ae (.inl rfl)).trans (nf.get g1)) rfl,?_⟩;refine(ago o qq (i:=j) (by omega) (by show S.used+2*i+1<2 ^ 62;omega)).mono ?_;rintro _ sF ⟨rfl,vZ,tP⟩;have Mf:∀y,Y y->sF y=bR y:=λy aC=>by rw[tP.2.1 y (by rw[Bd y aC];exact m5 y aC) (agx y aC),Bd y aC]
   have aAQ:=tP.get aAP T8;have aAR:=tP.get ((tO _ Hd).trans aAO) T9;have tU:=tP.get ((tO _ (aDC EG)).trans oj) IA;refine⟨_,_,rfl,by omega,by omega,?_⟩;refine stM (Sf.trans tP) f80 aAR (by simp;omega) λD2 Uc aAS mM=>⟨(mM _ (aDC EH)).trans tU,rfl,eC _ _ _,?_,Uc.loc ln _,λy aC=>?_,?_,?_⟩
   .have e:S.used+2*(i+1)=S.used+2*i+1+1:=by omega
    rw[e];exact(vZ.same (af:=D2) λy aC=>mM y λe=>T9 (e▸aC)).same λy aC=>cu _ _ λe=>IA (e▸aC)
   .rw[cu _ _ (EF y aC),mM y (agw y aC).2,Mf y aC]
   .rw[cu _ _ EG,mM _ (aDC Hd),aAQ];have e:=agt (drawn G (wf ws) S.used 0 (G.L-i)) (show j<4 by omega) (G.leaf (wf ws) j (S.used+2*i),S.used+2*i);refine congrArg (λx=>some (Obj.cells x _ (0,0))) (e.trans (congrArg BH ?_));funext y;unfold drawn;by_cases c:y=j
    .subst c;rw[aDr rfl,eY,aEe,D0]
    .rw[aDq c];by_cases aY:G.L-i<=y/\y<G.L
     .rw[aDr aY,eY]
     .rw[aDq aY,cS]
   .rw[cu _ _ EH,aAS];have e:=agt (drawn G (wf ws) S.used 1 (G.L-i)) (show j<4 by omega) (G.leaf (wf ws) j (S.used+2*i+1),S.used+2*i+1);refine congrArg (λx=>some (Obj.cells x _ (0,0))) (e.trans (congrArg BH ?_));funext y;unfold drawn;by_cases c:y=j
    .subst c;rw[aDr rfl,eY,D0]
    .rw[aDq c];by_cases aY:G.L-i<=y/\y<G.L
     .rw[aDr aY,eY]
     .rw[aDq aY,cS]
  rintro _ cp ⟨bn,JC,KG,aAT,g7,g8⟩;rw[Nat.sub_self] at g7 g8;refine⟨bn,bP λiR cf f11 mr gE=>?_⟩;have agz:=KG.loc ln (im z none);have vw:=JC.same (af:=bD cp bW (im z none)) λy aC=>cu _ _ λe=>IA (e▸aC);have f90:h iR=none:=agz.2.2 _ f11;refine lY (agz.more gE) f90 mr rfl λbN P3 ik gP=>?_;have IB:∀y,bD cp bW (im z none) y≠none->bN y=bD cp bW (im z none) y:=λy aC=>by rw[gP y λe=>aC (e▸f11),gE y aC]
  have mx:=vw.same (af:=bN) λy aC=>IB y (vw.mT o aC);have zn:∀y,Y y->bN y=bR y:=λy aC=>by
   have e:bD cp bW (im z none) y=bR y:=(cu _ _ (EF y aC)).trans (aAT y aC);rw[IB y (by rw[e];exact m5 y aC),e]
  have i7:bN eQ=_:=(IB eQ (by rw[cu _ _ EG,g7];simp)).trans ((cu _ _ EG).trans g7);have i8:bN fS=_:=(IB fS (by rw[cu _ _ EH,g8];simp)).trans ((cu _ _ EH).trans g8);have i1:=(zn ae (.inl rfl)).trans (nf.get g1);have i2:=(zn ax (.inr (.inl rfl))).trans (nf.get g2);have i3:=(zn aM (.inr (.inr (.inl rfl)))).trans (nf.get g3);have i4:=(zn bM (.inr (.inr (.inr (.inl rfl))))).trans (nf.get g4);have i5:=(zn b1 (.inr (.inr (.inr (.inr (.inl rfl)))))).trans (nf.get g5);have i6:=(zn dU (.inr (.inr (.inr (.inr (.inr rfl)))))).trans (nf.get dP);let Z:Nat->Prop:=λy=>Y y∨y=eQ∨y=fS∨y=iR;have kJ:∀y,Z y->bN y≠none:=by
   rintro y (aC|rfl|rfl|rfl)
   .rw[zn y aC];exact m5 y aC
   .rw[i7];simp
   .rw[i8];simp
   .rw[ik];simp
  have KF:∀y,Z y->h y=none:=by
   rintro y (aC|rfl|rfl|rfl)
   .exact Aw y aC
   .exact f70
   .exact f80
   .exact f90
  have aAU:∀y,Z y->¬cV G B es gs y:=λy aC=>R.out o (KF y aC);clear zn IB g7 g8 aQ;have Si:al ((G.L:Int)-1)=((G.L-1:Nat):Int):=by rw[bt];omega
  have wK:=(oM o ai (h:=G.L-1)).1;have tD:=BQ o ai;refine⟨some ⟨B.cO,0⟩,az i1 rfl,_,rfl,_,az mx.top rfl,some ⟨B.cO,0⟩,az i1 rfl,_,rfl,some ⟨B.m.b,0⟩,az mx.top rfl,some ⟨B.cO,0⟩,az i1 rfl,_,rfl,_,az mx.top rfl,_,az ik rfl,rfl,?_⟩;rw[Si];refine(MQ DZ (az i3 rfl) (i:=G.L-1) (by omega) rfl).mono ?_;rintro _ dB ⟨rfl,ia⟩;have MS:=mx.bA o ia;have HA:=ia.get i1;refine⟨_,rfl,⟨az MS.top rfl,trivial⟩,⟨az HA rfl,trivial⟩,⟨az MS.top rfl,trivial⟩,⟨az HA rfl,trivial⟩,?_⟩;refine(aw_ MS.mem st.rV (cT x (G.L-1)) (by omega)).mono ?_;rintro _ cC ⟨j6,rfl,D3,jI⟩;rw[wK,aDr (by rw[st.rW];exact tD)];obtain⟨vl,D4⟩:=MS.vL o D3 jI;obtain⟨IC,aAV⟩:=mI D4 (λy aC=>by rw[ia y (kJ y aC)];exact kJ y aC) aAU;have IC:∀y,Z y->cC y=bN y:=λy aC=>(IC y aC).trans (ia y (kJ y aC));have D5:=(P3.more ia).trans D4;generalize tR:S.R G.f (x/4 ^ (G.L-1))=om;refine⟨om,rfl,bP λpK dT f15 pd jK=>?_⟩;have f100:h pK=none:=D5.2.2 _ f15;refine fN (n:=12) (D5.more jK) f100 pd rfl λcK x_ rS md=>bP λkp du f17 pG iQ=>?_;have f110:h kp=none:=x_.2.2 _ f17;have agA:kp≠pK:=λe=>by rw[e,rS] at f17;cases f17
  have vY:∀y,cC y≠none->du y=cC y:=λy aC=>by
   have e:cK y=cC y:=by rw[md y λe=>aC (e▸f15),jK y aC]
   rw[iQ y (by rw[e];exact aC),e]
  have Ud:∀y,Z y->du y=bN y:=λy aC=>by rw[vY y (by rw[IC y aC];exact kJ y aC),IC y aC]
  have D6:=vl.same (af:=du) λy aC=>vY y (vl.mT o aC);have aDe:=aat G S.used;have yV:∀e j,j<G.L->drawn G (wf ws) S.used e 0 j=(G.leaf (wf ws) j (G.bQ S.used j+e),G.bQ S.used j+e):=λe j aU=>by unfold drawn;rw[aDr ⟨aDM _,aU⟩]
  have dW:=Iz ((Ud eQ (.inr (.inl rfl))).trans i7) (j:=G.L-1) (by omega);rw[yV 0 _ (by omega),aEe] at dW;refine⟨by omega,by omega,_,by rw[show Int.toNat ((G.L-1:Nat):Int)=G.L-1 by omega];exact dW.1,_,by rw[show Int.toNat ((G.L-1:Nat):Int)=G.L-1 by omega];exact dW.2,?_⟩;have uS:=yh (w:=wf ws) o (G.L-1) (G.bQ S.used (G.L-1));refine(agr (a:=G.leaf (wf ws) (G.L-1) (G.bQ S.used (G.L-1))) (b:=G.bQ S.used (G.L-1)) (by omega) (by omega)).to λec nI=>⟨_,_,rfl,Int.NonNeg.mk 0,Int.NonNeg.mk 11,?_⟩;have pV:ec kp=some (.cells (ag.cells (.ws 12 fm)).toArray 69 (0,0)):=by rw[nI.get pG,CU];rfl
  have PS:=(x_.more iQ).more nI;refine nq PS f110 pV (i:=0) (by decide) λds L8 oh tF=>⟨Int.NonNeg.mk 1,Int.NonNeg.mk 10,?_⟩;refine nq L8 f110 oh (i:=1) (by decide) λej L9 yW tG=>?_;rw[aeo] at yW;have zT:∀y,du y≠none->y≠kp->ej y=du y:=λy aC aK=>by rw[tG y aK,tF y aK,nI y aC]
  have aAW:¬cV G B j6 gs kp:=λbc=>D6.mT o bc |> λb4=>by
   have:=vl.mT o bc;have e:=vY kp this;have aAX:cK kp=none:=f17;have:cK kp=cC kp:=by rw[md kp agA,jK kp this]
   rw[aAX] at this;exact vl.mT o bc this.symm
  have w9:=D6.same (af:=ej) λy aC=>zT y (D6.mT o aC) λe=>aAW (e▸aC);have aAY:∀y,Z y->y≠kp:=λy aC e=>by
   have MT:cC y≠none:=by rw[IC y aC];exact kJ y aC
   have:cK y=cC y:=by rw[md y λe=>MT (e▸f15),jK y MT]
   rw[e] at this;rw[this] at f17;rw[e] at MT;exact MT f17
  have BI:∀y,Z y->ej y=bN y:=λy aC=>by rw[zT y (by rw[Ud y aC];exact kJ y aC) (aAY y aC),Ud y aC]
  have aAZ:ej pK=_:=(zT pK (by rw[iQ.get rS];simp) (aDC agA)).trans (iQ.get rS);have hz:=(BI ae (.inl (.inl rfl))).trans i1;refine⟨some ⟨B.cO,0⟩,az hz rfl,_,rfl,some ⟨B.m.b,0⟩,az w9.top rfl,some ⟨B.cO,0⟩,az hz rfl,_,rfl,_,az w9.top rfl,_,az ((BI iR (.inr (.inr (.inr rfl)))).trans ik) rfl,rfl,_,dL yW,?_⟩;refine(MQ DZ (az ((BI aM (.inl (.inr (.inr (.inl rfl))))).trans i3) rfl) (i:=G.L-1) (by omega) rfl).mono ?_;rintro _ gh ⟨rfl,lr⟩;have Ue:=w9.bA o lr;have mu:=lr.get hz;refine⟨_,rfl,dL (lr.get yW),⟨az Ue.top rfl,trivial⟩,⟨az mu rfl,trivial⟩,⟨az Ue.top rfl,trivial⟩,⟨az mu rfl,trivial⟩,?_⟩;refine(NO 0).to λeB pq=>?_;have MU:=Ue.bA o pq;have x2:=pq.get mu;refine⟨_,rfl,dL ((lr.trans pq).get yW),⟨az MU.top rfl,trivial⟩,⟨az x2 rfl,trivial⟩,⟨az MU.top rfl,trivial⟩,⟨az x2 rfl,trivial⟩,?_⟩;have rf:(reads (G.f:Int) (B.m.cx G.f)).length=B.m.cx G.f:=rh _ _;have pf:=R.mem.cx G.f st.rV;refine(Vr MU.mem st.rV (cT x (G.L-1)) _ true (by simp only[aDs,rf];omega)).mono ?_;rintro _ eR ⟨d_,rfl,wD,yl⟩;rw[wK,aDr ⟨by rw[st.rW];exact tD,rfl⟩] at wD;obtain⟨tS,yX⟩:=MU.vL o wD yl;have aA0:¬cV G B j6 gs pK:=vl.out o f15;have agB:=yX.get (show eB pK=_ from (lr.trans pq).get aAZ) aA0;obtain⟨EI,aA1⟩:=mI yX (λy aC=>by rw[(lr.trans pq) y (by rw[BI y aC];exact kJ y aC),BI y aC];exact kJ y aC) aAV;have EI:∀y,Z y->eR y=bN y:=λy aC=>by rw[EI y aC,(lr.trans pq) y (by rw[BI y aC];exact kJ y aC),BI y aC]
  have ye:=((L9.more lr).more pq).trans yX;have tS:h8 G ws B (G.begin (wf ws) (x/4 ^ (G.L-1)) S) _ d_ gs eR:=tS;obtain⟨Mb,A_⟩:=Fl o hu (by omega) e2 tD;rw[tR] at A_;have HI:∀ {v p:aE} {o1 j:Nat} {hd:c7},s5 G (wf ws) u0 o1 j hd v p->v.toNat<2 ^ 62:=λ{v p o1 j hd} c=>by
   by_cases b0:v=0
   .rw[b0];decide
   .have:=(c.pc b0).1.val;have:=yh (w:=wf ws) o j p.toNat;omega
  have EE:=HI A_;refine⟨rfl,Int.NonNeg.mk 0,Int.NonNeg.mk 11,_,fs agB (i:=0) (by decide),Int.NonNeg.mk 1,Int.NonNeg.mk 10,_,fs agB (i:=1) (by decide),?_⟩;refine(agq om[0] om[1] EE).to λfx u2=>⟨_,_,rfl,bP λoB fU f25 Gm agC=>?_⟩;have f120:h oB=none:=(ye.more u2).2.2 _ f25;refine lY ((ye.more u2).more agC) f120 Gm rfl λgR agD agE wQ=>?_;have agF:∀y,eR y≠none->gR y=eR y:=λy aC=>by
   have e:fx y≠none:=by rw[u2 y aC];exact aC
   rw[wQ y λcc=>e (cc▸f25),agC y e,u2 y aC]
  have zo:=tS.same (af:=gR) λy aC=>agF y (tS.mT o aC);have ID:∀y,Z y->gR y=bN y:=λy aC=>by rw[agF y (by rw[EI y aC];exact kJ y aC),EI y aC]
  have aA2:¬cV G B d_ gs oB:=(tS.bA o u2).out o f25;have hz:=(ID ae (.inl (.inl rfl))).trans i1;refine⟨some ⟨B.cO,0⟩,az hz rfl,_,rfl,_,az zo.top rfl,_,az zo.top rfl,_,az zo.top rfl,_,az zo.top rfl,?_⟩;refine(Kc gR).mono ?_;rintro _ gY ⟨K7,rfl,aDf,aA3,zp⟩;refine⟨_,rfl,trivial,λh7 hl uT nM=>⟨rfl,?_⟩⟩;have IE:h hl=none:=(agD.more zp).2.2 _ uT;have agG:¬cV G B d_ gs hl:=(zo.bA o zp).out o uT;have aA4:bL gY (bD gY hl (eA h7)):=(bL.refl gY).bD uT _;have BJ:∀y,Z y->y≠hl:=λy aC e=>by have aa:=zp y (by rw[ID y aC];exact kJ y aC);rw[e,uT] at aa;have:=ID y aC;rw[e] at this;rw[<-aa] at this;exact kJ hl (e▸aC) this.symm
  have MV:oB≠hl:=λe=>by have:=zp.get agE;rw[e,uT] at this;cases this
  have aA5:∀y,Z y->y≠oB:=λy aC e=>by
   have aA6:fx y≠none:=by rw[u2 y (by rw[EI y aC];exact kJ y aC),EI y aC];exact kJ y aC
   exact aA6 (e▸f25)
  have D7:de G (wf ws) op x S=kl G (wf ws) S.used op x (G.L-1) om[0] om[1] (G.begin (wf ws) (x/4 ^ (G.L-1)) S):=by rw[<-tR];rfl
  generalize hh:de G (wf ws) op x S=F;rw[hh] at D7;have uA:B.m.cx G.f=pw G.m G.L:=st.rW;generalize vm:a8++reads (G.f:Int) (B.m.cx G.f)++writes (G.f:Int) (B.m.cx G.f)=pre at zo;have awy:pre.length<=a8.length+3*4096:=by
   rw[<-vm];simp only[aDs,rf,n6];omega
  refine(aAL (L:=G.L) (q:=⟨K7,0⟩) (y:=lM hl) (by omega) (λi g=>i<G.L/\g hl=some (eA h7)/\∃(v p:aE) (hd:c7) (pF:List dk) (zq BK:ao),h8 G ws B hd pF zq BK g/\bT (cV G B es gs) h (cV G B zq BK) g/\(∀y,Z y->g y=bN y)/\(∀y,Z y->¬cV G B zq BK y)/\¬cV G B zq BK oB/\¬cV G B zq BK hl /\
   g oB=some (.cells #[U ((v.toNat:Int)-1),U (al (p.toNat:Int))] 114 (0,0))/\kl G (wf ws) S.used op x (G.L-1-i) v p hd=F/\lk G (wf ws) u0 (G.bQ S.used (G.L-1-i)+1) hd/\s5 G (wf ws) u0 (G.bQ S.used (G.L-1-i)+1) (G.L-1-i) hd v p/\hd.gone.length=S.gone.length+i /\
   pF=pre++k8 G.m G.s G.t G.L G.f ((hd.gone.drop S.gone.length).map λy=>(y.1:Int)) i)
   (λg=>g hl=some (o4 h7 Code.ret)/\∃(cm:List dk) (aX c0:ao),h8 G ws B F.1 cm aX c0 g/\bT (cV G B es gs) h (cV G B aX c0) g/\¬cV G B aX c0 hl/\(∃T,g b1=some (.cells (ag.cells (.ws 8 F.2.1)).toArray T (0,0)))/\(∃T,g dU=some (.cells #[.bool F.2.2] T (0,0))) /\
    cm=pre++k8 G.m G.s G.t G.L G.f ((F.1.gone.drop S.gone.length).map λy=>(y.1:Int)) G.L)
   ⟨by omega,eC _ _ _,om[0],om[1],_,_,d_,gs,zo.same λy aC=>?_,(agD.more zp).loc IE _,λy aC=>?_,aA1,aA2,agG,?_,?_,Mb,A_,rfl,?_⟩ (az (aA4.get aA3) rfl) ?_).mono ?_
  .have dA:y≠hl:=λe=>agG (e▸aC);rw[cu _ _ dA,zp y (zo.mT o aC)]
  .rw[cu _ _ (BJ y aC),zp y (by rw[ID y aC];exact kJ y aC),ID y aC]
  .rw[cu _ _ MV,zp.get agE]
  .exact D7.symm
  .simp[k8]
  .rintro i g hi ⟨_,bn,v,p,hd,pF,zq,BK,dJ,kt,aA7,aA8,agH,Uf,sh,u9,Mc,yY,vk,py⟩;refine⟨rfl,rfl,nM _ g _ bn ⟨bn,?_⟩⟩;obtain⟨j,aU⟩:∃j:Nat,j=G.L-1-i:=⟨_,rfl⟩;have Ag:(G.L:Int)-1-i=j:=by omega
   rw[Ag];rw[<-aU] at u9 Mc yY;have D0:G.bQ S.used j=S.used+2*i:=by unfold cq.bQ;omega
   have Ua:=kt.loc IE (dn h7);have Ub:h8 G ws B hd pF zq BK (bD g hl (dn h7)):=dJ.same λy aC=>cu _ _ λe=>Uf (e▸aC);have MW:∀y,Z y->bD g hl (dn h7) y=bN y:=λy aC=>(cu _ _ (BJ y aC)).trans (aA7 y aC);have MX:bD g hl (dn h7) oB=_:=(cu _ _ MV).trans sh;have ea:=Iz ((MW fS (.inr (.inr (.inl rfl)))).trans i8) (j:=j) (by omega);rw[yV 1 j (by omega)] at ea;have lF:Int.toNat (j:Int)=j:=by omega
   rw[lF];refine⟨some ⟨B.cO,0⟩,az ((MW ae (.inl (.inl rfl))).trans i1) rfl,_,az MX rfl,_,az MX rfl,by omega,by omega,_,ea.1,_,ea.2,?_⟩;have Sn:=HI yY;refine(aAJ o Ub (v:=v) (p:=p) Sn (λb0=>?_) (sp:=(G.leaf (wf ws) j (G.bQ S.used j+1),G.bQ S.used j+1)) (by omega)).mono ?_
   .have:=(yY.pc b0).1.lt;omega
   rintro _ qd ⟨Ug,rfl,js,kP⟩;obtain⟨hc,Bb⟩:=xJ o hu (by omega) Mc yY (by rw[vk,dd];omega);generalize HJ:gd v p (G.leaf (wf ws) j (G.bQ S.used j+1),G.bQ S.used j+1)=aw at *;obtain⟨q6,agI⟩:=mI kP (λy aC=>by rw[MW y aC];exact kJ y aC) aA8;have q6:∀y,Z y->qd y=bN y:=λy aC=>(q6 y aC).trans (MW y aC);have MY:=kP.get MX agH;have agJ:=kP.out (by rw[MX];simp) agH;have oj:=kP.get (show bD g hl (dn h7) hl=_ from eC _ _ _) Uf;have MZ:=kP.out (show bD g hl (dn h7) hl≠none by rw[eC];simp) Uf;have HM:=Ua.trans kP;have awA:pF.length<100050000000:=by
    have:=Kg fj (G.f:Int) ((hd.gone.drop S.gone.length).map λy=>(y.1:Int)) i;rw[py,aDs];omega
   have wz:=oM o ai (h:=j);have lvl:=js.oD.len;simp only[aDF,aDL] at lvl;have av:=(q6 ae (.inl (.inl rfl))).trans i1;have Kz:=Iz ((q6 eQ (.inr (.inl rfl))).trans i7) (j:=j) (by omega);rw[yV 0 j (by omega),aEe] at Kz;have aDg:=yh (w:=wf ws) o j (G.bQ S.used j);obtain⟨p1,tT,qx⟩:=js.oD.at (i:=j) (by simp;omega);have aA9:((List.range G.L).map B.bf)[j]'(by simp;omega)=B.bf j:=by simp
   rw[aA9] at qx;refine⟨_,rfl,?_⟩;refine cj (λuN=>?_) λuN=>?_
   .have wc:j=0:=by omega
    subst wc;have SB:UInt64.ofNat x=cT x 0:=by unfold cT;simp
    refine⟨some ⟨B.cO,0⟩,az av rfl,_,rfl,B.bV,az js.top rfl,p1,tT,Int.NonNeg.mk 0,by omega,some ⟨B.bf 0,0⟩,qx,_,az ((q6 ax (.inl (.inr (.inl rfl)))).trans i2) rfl,_,az ((q6 aM (.inl (.inr (.inr (.inl rfl))))).trans i3) rfl,d,dL ((q6 bM (.inl (.inr (.inr (.inr (.inl rfl)))))).trans i4),Int.NonNeg.mk 0,Int.NonNeg.mk 3,_,Kz.1,?_⟩;rw[SB];refine(Y0 (o.gS 0) (st.pQ 0 (by omega)) js.mem (js.gS 0 (by omega)) (js.map 0 (by omega)) (js.j1 (.bf 0) _ ⟨by omega,rfl⟩) (js.j1 (.mp 0) _ ⟨by omega,rfl⟩) (aw:=aw.1) (to:=G.leaf (wf ws) 0 (G.bQ S.used 0)) hc (G.pN _ 0 _) (bi:=cT x 0) wz.2 (Bb.mQ 0 (by omega)) fV (by omega)).mono ?_;rintro _ pE ⟨aeG,rfl,SC,SD,aA_,SE,aBa,SF⟩;obtain⟨qq,Bc⟩:=js.HC o (i:=0) (by omega) SC SD aA_ SE aBa SF;obtain⟨M0,agK⟩:=mI Bc (λy aC=>by rw[q6 y aC];exact kJ y aC) agI;have M0:∀y,Z y->pE y=bN y:=λy aC=>(M0 y aC).trans (q6 y aC);have z5:Z b1:= .inl (.inr (.inr (.inr (.inr (.inl rfl)))));have mf:Z dU:= .inl (.inr (.inr (.inr (.inr (.inr rfl)))));have n65:dU≠b1:=λe=>by rw[e,cG] at f6;cases f6
    have rK:=Bc.get oj MZ;have agL:=Bc.out (by rw[oj];simp) MZ;have SG:F=(G.acc 0 op (cT x 0) aw.1 (G.leaf (wf ws) 0 (G.bQ S.used 0)) { hd with gone:=hd.gone++[aw] },G.old 0 (cT x 0) aw.1 { hd with gone:=hd.gone++[aw] }):=by rw[<-u9,<-HJ];rfl
    subst SG;refine⟨_,_,rfl,fN (n:=8) (HM.trans Bc) f50 ((M0 b1 z5).trans i5) rfl λsy A9 SH HQ=>lY A9 f60 ((HQ _ n65).trans ((M0 dU mf).trans i6)) rfl λfA Uc aBb mM=>?_⟩;have M1:=BJ b1 z5;have M3:=BJ dU mf;refine⟨(mM _ (aDC M3)).trans ((HQ _ (aDC M1)).trans rK),.inr ⟨rfl,eC _ _ _,pF++k7 (G.ew 0).k (G.ew 0).s (G.ew 0).t (G.base 0) aw.1,aeG,Ug,?_,Uc.loc IE _,agL,⟨49,?_⟩,⟨4,?_⟩,?_⟩⟩
    .exact qq.same λy aC=>by
      have aR:y≠b1:=λe=>agK b1 z5 (e▸aC);have bj:y≠dU:=λe=>agK dU mf (e▸aC);have ah:y≠hl:=λe=>agL (e▸aC);rw[cu _ _ ah,mM y bj,HQ y aR]
    .rw[cu _ _ M1,mM _ (aDC n65)];exact SH
    .rw[cu _ _ M3];exact aBb
    .rw[py,Mi (j:=0) vk (by omega),show i+1=G.L by omega];rfl
   .obtain⟨c6,rfl⟩:∃c6,j=c6+1:=⟨j-1,by omega⟩;have So:al (((c6+1:Nat):Int)-1)=(c6:Nat):=by rw[bt];omega
    rw[So];have a3:=(q6 aM (.inl (.inr (.inr (.inl rfl))))).trans i3;have a9:=(q6 iR (.inr (.inr (.inr rfl)))).trans ik;refine⟨_,az a9 rfl,rfl,?_⟩;refine(MQ DZ (az a3 rfl) (i:=c6) (by omega) rfl).mono ?_;rintro _ pE ⟨rfl,rK⟩;refine⟨_,rfl,(by decide),bP λwO sF f13 lH tU=>⟨by omega,by omega,?_⟩⟩;have agM:=rK.trans tU;have f130:h wO=none:=HM.2.2 _ (rK.free f13);have aBc:Int.toNat (c6:Int)=c6:=by omega
    rw[aBc];have gK:=Iz (agM.get ((q6 eQ (.inr (.inl rfl))).trans i7)) (j:=c6) (by omega);rw[yV 0 c6 (by omega),aEe] at gK;have aDh:=yh (w:=wf ws) o c6 (G.bQ S.used c6);have aDi:G.bQ S.used c6<1000000000100:=by unfold cq.bQ;omega
    refine⟨_,gK.1,_,gK.2,?_⟩;refine(agr (a:=G.leaf (wf ws) c6 (G.bQ S.used c6)) (b:=G.bQ S.used c6) (by omega) (by omega)).to λD2 IF=>⟨_,_,rfl,Int.NonNeg.mk 0,Int.NonNeg.mk 7,?_⟩;have aBd:D2 wO=some (.cells (ag.cells (.ws 8 j7)).toArray 49 (0,0)):=by rw[IF.get lH];rfl
    refine nq ((HM.more agM).more IF) f130 aBd (i:=0) (by decide) λL4 Sq aBe tQ=>⟨Int.NonNeg.mk 1,Int.NonNeg.mk 6,?_⟩;refine nq Sq f130 aBe (i:=1) (by decide) λD8 HK agN HL=>?_;have BL:∀y,qd y≠none->D8 y=qd y:=λy aC=>by
     have aa:pE y=qd y:=rK y aC;have dA:y≠wO:=λe=>by rw[e] at aa aC;rw[f13] at aa;exact aC aa.symm
     rw[HL y dA,tQ y dA,IF y (by rw[tU y (by rw[aa];exact aC),aa];exact aC),tU y (by rw[aa];exact aC),aa]
    have yZ:=js.same (af:=D8) λy aC=>BL y (js.mT o aC);have zr:∀y,Z y->D8 y=bN y:=λy aC=>by rw[BL y (by rw[q6 y aC];exact kJ y aC),q6 y aC]
    have Aa:=(zr ae (.inl (.inl rfl))).trans i1;have rv:=(zr aM (.inl (.inr (.inr (.inl rfl))))).trans i3;have Uh:=Iz ((zr eQ (.inr (.inl rfl))).trans i7) (j:=c6+1) (by omega);rw[yV 0 (c6+1) (by omega),aEe] at Uh;have agO:bx D8 p1.b (p1.o+(c6+1))=some (bm ⟨B.bf (c6+1),0⟩):=by rw[qH (BL p1.b (xY qx)),qx]
    have aDj:¬cV G B zq Ug wO:=(js.bA o rK).out o f13;refine⟨some ⟨B.cO,0⟩,az Aa rfl,_,rfl,B.bV,az yZ.top rfl,p1,tT,by omega,by omega,some ⟨B.bf (c6+1),0⟩,by rw[aEV];exact agO,_,az ((zr iR (.inr (.inr (.inr rfl)))).trans ik) rfl,rfl,_,dL agN,by omega,by omega,_,Uh.1,?_⟩;refine(MQ DZ (az rv rfl) (i:=c6+1) (by omega) rfl).mono ?_;rintro _ agP ⟨rfl,vx⟩;have vw:=yZ.bA o vx;refine⟨_,rfl,⟨vx.cell Uh.1,trivial⟩,dL (vx.get agN),⟨by rw[aEV];exact vx.cell agO,trivial⟩,⟨az vw.top rfl,trivial⟩,⟨az (vx.get Aa) rfl,trivial⟩,?_⟩;have pg:=(oM o ai (h:=c6)).1;generalize aj:x/4 ^ c6%4=jB;have nL:jB<4:=by rw[<-aj];exact aEk _ (by decide)
    have St:al (al ((cT x c6%4).toNat:Int)*2)=((2*jB:Nat):Int):=by
     have aH:(cT x c6%4).toNat=jB:=by
      rw[aFo,pg,<-aj];rfl
     rw[aH,bt (n:=(jB:Int)),bt];omega
    rw[St];have Su:al (((2*jB:Nat):Int)+1)=((2*jB+1:Nat):Int):=by rw[bt];omega
    rw[Su];refine(Y0 (o.gS (c6+1)) (st.pQ (c6+1) (by omega)) vw.mem (vw.gS (c6+1) (by omega)) (vw.map (c6+1) (by omega)) (vw.j1 (.bf (c6+1)) _ ⟨by omega,rfl⟩) (vw.j1 (.mp (c6+1)) _ ⟨by omega,rfl⟩) (aw:=aw.1) (to:=G.leaf (wf ws) (c6+1) (G.bQ S.used (c6+1))) hc (G.pN _ (c6+1) _) (bi:=cT x (c6+1)) wz.2 (Bb.mQ (c6+1) (by omega))
     (op:= .part (2*jB) (UInt64.ofNat (G.leaf (wf ws) c6 (G.bQ S.used c6)+1)) (UInt64.ofNat (G.bQ S.used c6))) ⟨rfl,rfl,by omega,by simp,by simp⟩ (by omega)).mono ?_
    rintro _ D_ ⟨aeC,rfl,Sv,Sw,aBf,Sx,aBg,Sy⟩;obtain⟨HN,w_⟩:=vw.HC o (i:=c6+1) (by omega) Sv Sw aBf Sx aBg Sy;obtain⟨M4,aBh⟩:=mI w_ (λy aC=>by rw[vx y (by rw[zr y aC];exact kJ y aC),zr y aC];exact kJ y aC) agI;have M4:∀y,Z y->D_ y=bN y:=λy aC=>by rw[M4 y aC,vx y (by rw[zr y aC];exact kJ y aC),zr y aC]
    have agQ:agP hl=_:=(vx hl (by rw[BL hl (by rw[oj];simp),oj];simp)).trans ((BL hl (by rw[oj];simp)).trans oj);have agR:agP oB=_:=(vx oB (by rw[BL oB (by rw[MY];simp),MY];simp)).trans ((BL oB (by rw[MY];simp)).trans MY);have agS:=w_.get agQ MZ;have agT:=w_.out (by rw[agQ];simp) MZ;have agU:=w_.get agR agJ;have agV:=w_.out (by rw[agR];simp) agJ;have HP:=(HK.more vx).trans w_;obtain⟨Sz,Ea⟩:=Fk o (u0:=u0) (u:=S.used) (h:=c6) (q1:=jB) (by omega) nL (by omega) hu Bb (id:=cT x (c6+1)) wz.2 hc (G.pN (wf ws) (c6+1) (G.bQ S.used (c6+1)));refine⟨_,_,rfl,bP λGJ awH f14 pO Eb=>?_⟩;have f140:h GJ=none:=HP.2.2 _ f14;refine fN (n:=8) (HP.more Eb) f140 pO rfl λaeD SA agW Mh=>?_;refine⟨by omega,by omega,_,by rw[show 0+Int.toNat ((2*jB:Nat):Int)*1=2*jB by omega];exact fs agW (by omega),by omega,by omega,_,by rw[show 0+Int.toNat ((2*jB+1:Nat):Int)*1=2*jB+1 by omega];exact fs agW (by omega),?_⟩;have jP:=HI Ea;rw[xa _ (by omega),xa _ (by omega)] at Ea;rw[xa _ (by omega)] at jP;refine(agq _ _ jP).to λaBi agX=>⟨_,_,rfl,?_⟩;have M5:∀y,D_ y≠none->aBi y=D_ y:=λy aC=>by
     have e:aeD y=D_ y:=by rw[Mh y λe=>aC (e▸f14),Eb y aC]
     rw[agX y (by rw[e];exact aC),e]
    have aBj:=(M5 oB (by rw[agU];simp)).trans agU;refine lY (SA.more agX) f120 aBj rfl λaDk aBk aBl Ui=>⟨(Ui _ (aDC MV)).trans ((M5 hl (by rw[agS];simp)).trans agS),.inl ⟨rfl,by omega,eC _ _ _,(G.old (c6+1) (cT x (c6+1)) aw.1 { hd with gone:=hd.gone++[aw] }).1[2*jB],(G.old (c6+1) (cT x (c6+1)) aw.1 { hd with gone:=hd.gone++[aw] }).1[2*jB+1],G.acc (c6+1) (.part (2*jB) (UInt64.ofNat (G.leaf (wf ws) c6 (G.bQ S.used c6)+1)) (UInt64.ofNat (G.bQ S.used c6))) (cT x (c6+1)) aw.1 (G.leaf (wf ws) (c6+1) (G.bQ S.used (c6+1))) { hd with gone:=hd.gone++[aw] },pF++k7 (G.ew (c6+1)).k (G.ew (c6+1)).s (G.ew (c6+1)).t (G.base (c6+1)) aw.1,aeC,Ug,?_,aBk.loc IE _,λy aC=>?_,aBh,agV,agT,?_,?_,?_,?_,?_,?_⟩⟩
    .exact HN.same λy aC=>by
      have aR:y≠oB:=λe=>agV (e▸aC);have ah:y≠hl:=λe=>agT (e▸aC);rw[cu _ _ ah,Ui y aR,M5 y (HN.mT o aC)]
    .rw[cu _ _ (BJ y aC),Ui y (aA5 y aC),M5 y (by rw[M4 y aC];exact kJ y aC),M4 y aC]
    .rw[cu _ _ MV];exact aBl
    .rw[show G.L-1-(i+1)=c6 by omega,<-xa _ (show 2*jB<8 by omega),<-xa _ (show 2*jB+1<8 by omega),<-u9,<-HJ,<-aj];rfl
    .rw[show G.L-1-(i+1)=c6 by omega];exact Sz
    .rw[show G.L-1-(i+1)=c6 by omega];exact Ea
    .show(hd.gone++[aw]).length=_;rw[aDs,vk];simp;omega
    .rw[py,Mi (j:=c6+1) vk (by omega)];rfl
  rintro _ hI (⟨ajl,_⟩|⟨mi,cm,aX,c0,yZ,HK,aBm,⟨aDl,um⟩,⟨Gj,zK⟩,py⟩)
  .omega
  have M1:=BJ b1 (.inl (.inr (.inr (.inr (.inr (.inl rfl))))));have M3:=BJ dU (.inl (.inr (.inr (.inr (.inr (.inr rfl))))));refine .inl ⟨mi,F.2.1,dL ((cu _ _ M1).trans um),F.2.2,az ((cu _ _ M3).trans zK) rfl,cm,aX,c0,rfl,yZ.same λy aC=>cu _ _ λe=>aBm (e▸aC),HK.loc IE _,?_⟩;rw[py,<-vm,uA];unfold oH;simp only[aDD]
end
end Go.Proofs.Tryz
namespace Go.Proofs.Tryz
open Go Go.cR Go.RowKit
set_option maxRecDepth 8000
section
variable {G:cq} {ws:List aE} {B:j4} {S:c7} {a8:List dk} {es gs:ao} {h:ak}
theorem Yt (_o:G.dt)(R:h8 G ws B S a8 es gs h)(dd:S.gone.length<1000000000000):aq 27 [bm ⟨B.cO,0⟩] h λv af=>∃s,v=aZ s/\c4 eo h af s (S.gone.map λy=>(y.1:Int))/\bL h af:=by
 have aT:=R.zm.len;refine AV _ ?_;unfold abq;refine⟨_,az R.top rfl,λs2 bz ay aA g k=>gs=bz/\ay=(S.gone.length:Nat)/\∃i:Nat,aA=i/\i<=S.gone.length/\k=S.gone.length-i/\c4 eo h g s2 ((S.gone.take i).map λy=>(y.1:Int))/\bL h g,⟨S.gone.length,rfl,by rw[aT],0,rfl,by omega,rfl,c4.gy ..,bL.refl h⟩,?_⟩;rintro s2 bz ay aA g k ⟨rfl,rfl,i,rfl,hi,rfl,hv,cY⟩;refine cj (λcl=>?_) λdH=>?_
 .have cb:i<S.gone.length:=by omega
  refine(R.zm.rd.bA (k:=1) yU cY).cA yU (i:=i) cb λq _ k0=>?_;obtain⟨aS,aY,_⟩:=k0;rw[show Int.toNat (i:Int)=i by omega];refine⟨_,aS,_,aY,bP λae g1 f1 aH aD=>?_⟩;refine iH (cY.trans aD) (cY.free f1) aH rfl λg2 aB a_ cg=>⟨_,az a_ rfl,?_⟩;have agY:=(hv.bA aD).move (af:=g2) λq aj=>cg _ λe=>(hv.bp aj).2 (e▸f1);refine c4.zX xL Cj agY (S.gone[i].1:Int) (λb ar=>aB.free ar) (by simp;omega) (by decide) λcE bw iF aBn _ aDm=>⟨S.gone.length-(i+1),by omega,rfl,rfl,i+1,bt,by omega,rfl,?_,zR agY aB aBn⟩;rw[aEl,aDx cb,aD4];exact iF
 .have cb:i=S.gone.length:=by omega
  subst cb;rw[List.take_length] at hv;exact⟨s2,rfl,hv,cY⟩
end

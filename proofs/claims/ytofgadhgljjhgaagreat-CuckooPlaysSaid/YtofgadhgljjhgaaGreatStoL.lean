import Derived.Test.YtofgadhgljjhgaaGreatBlk
import Derived.Test.YtofgadhgljjhgaaGreatMemT
import Derived.Test.YtofgadhgljjhgaaGreatPla
import Derived.Test.YtofgadhgljjhgaaGreatStoC
import Derived.Test.YtofgadhgljjhgaaGreatEvDa
namespace Go.Proofs.Tryz
open Go Go.cD Go.RowKit
set_option maxRecDepth 8000
inductive ad_ where
 | cr
 | tb
 | dR
 | b2
 | gs
 | ba (i:Nat)
 | mp (i:Nat)
 deriving DecidableEq
structure jy where
 cr:Nat
 tb:Nat
 dR:Nat
 b2:ar
 ba:Nat->Nat
 mp:Nat->Nat
 iP:Nat->TypeId
 n1:TypeId
 rX:TypeId
 cS:TypeId
 m:jw
def jy.h1 (B:jy)(L:Nat)(gs:ar):ad_->Nat->Prop
 | .cr,x=>x=B.cr
 | .tb,x=>x=B.tb
 | .dR,x=>x=B.dR/\B.dR≠B.tb
 | .b2,x=>∃q,B.b2.q=some q/\x=q.b
 | .gs,x=>∃q,gs.q=some q/\x=q.b
 | .ba i,x=>i<L/\x=B.ba i
 | .mp i,x=>i<L/\x=B.mp i
def q7 (x:Nat×Nat):List Value:=[U x.1,U x.2]
theorem CR (x:Nat×Nat):(q7 x).length=2:=rfl
theorem axP (x:Nat×Nat):∀v∈q7 x,v.oneCell'=true:=by simp[q7,Value.oneCell']
theorem axQ:oZ prog 115 149 2 (.agg #[U 0,U 0]) 16:=⟨by kernel_rfl,by kernel_rfl,by kernel_rfl,by kernel_rfl,rfl⟩
abbrev Hh (G:cG)(B:jy)(gs:ar):Array Value:=#[U (2 ^ G.m),U G.s,U G.t,U G.L,bg ⟨B.m.b,0⟩,U G.f,bg ⟨B.tb,0⟩,bb B.b2,bb gs]
structure hH (G:cG)(ws:List UInt64)(B:jy)(S:cU)(a7:List de)(es gs:ar)(h:ak):Prop where
 top:h B.cr=some (.cells (Hh G B gs) B.rX (0,0))
 mem:cV B.n1 B.m S.R a7 es h
 py:p6 B.cS B.tb B.dR ws S.used h
 Dy:B.dR≠B.tb->h B.dR≠none
 l_:fi (λb:Nat=>bg ⟨b,0⟩) h B.b2 ((List.range G.L).map B.ba)
 gy:∀i,i<G.L->h (B.ba i)=some (.cells (nv (G.d_ i) B.m.b (G.base i) (S.over i) (B.mp i)) (B.iP i) (0,0))
 map:∀i,i<G.L->m2 h (B.mp i) (S.ids i)
 Dz:cF 2 q7 lE h gs S.gone
 jf:∀p eu x,B.h1 G.L gs p x->B.h1 G.L gs eu x->p=eu
 jv:∀p x,B.h1 G.L gs p x->¬bF B.m es x
structure L5 (G:cG)(B:jy):Prop where
 o8:∀i,i<G.L->qo B.m (G.d_ i) (G.base i)
 q5:G.f<B.m.eX
 q6:B.m.cf G.f=G.top
def cH (G:cG)(B:jy)(es gs:ar):Nat->Prop:=λx=>bF B.m es x∨∃p,B.h1 G.L gs p x
theorem _root_.Go.cD.cG.da.st {G:cG}(o:G.da):o7 G.m G.s G.t G.L:=⟨o.m,by have:=(o.gy 0).s;show 1<=(G.s:Int)/\(G.s:Int)<=8;have aa:(G.d_ 0).s=G.s:=rfl;omega,by have:=(o.gy 0).t;have aa:(G.d_ 0).t=G.t:=rfl;omega,o.L⟩
section
variable {G:cG} {ws:List UInt64} {B:jy} {S:cU} {a7:List de} {es gs:ar} {h ah:ak}
theorem hH.dn (R:hH G ws B S a7 es gs h)(o:G.da){p:ad_}{x:Nat}(ai:B.h1 G.L gs p x):h x≠none:=by
 cases p with
 | cr=>rw[show x=B.cr from ai,R.top];simp
 | tb=>rw[show x=B.tb from ai];exact R.py.dn
 | dR=>rw[show x=B.dR from ai.1];exact R.Dy ai.2
 | b2=>obtain⟨q,aj,rfl⟩:=ai;exact R.l_.there aj (by have:=o.L;simp;omega)
 | gs=>obtain⟨q,aj,rfl⟩:=ai;exact(R.Dz.bl aj).2
 | ba i=>rw[ai.2,R.gy i ai.1];simp
 | mp i=>rw[ai.2];exact(R.map i ai.1).dn
theorem hH.same (R:hH G ws B S a7 es gs h)(aU:∀x,cH G B es gs x->ah x=h x):hH G ws B S a7 es gs ah:=by
 have aS:∀p x,B.h1 G.L gs p x->ah x=h x:=λp x ai=>aU x (.inr ⟨p,ai⟩)
 refine⟨by rw[aS .cr _ rfl];exact R.top,R.mem.move λx ai=>aU x (.inl ai),R.py.move (aS .tb _ rfl) (λdf _=>aS .dR _ ⟨rfl,df⟩),λdf=>by rw[aS .dR _ ⟨rfl,df⟩];exact R.Dy df,R.l_.move λq aj _=>aS .b2 _ ⟨q,aj,rfl⟩,
  λi hi=>by rw[aS (.ba i) _ ⟨hi,rfl⟩];exact R.gy i hi,λi hi=>(R.map i hi).move (aS (.mp i) _ ⟨hi,rfl⟩),R.Dz.move λq aj=>aS .gs _ ⟨q,aj,rfl⟩,R.jf,R.jv⟩
theorem hH.ml (R:hH G ws B S a7 es gs h)(o:G.da){x:Nat}(ai:cH G B es gs x):h x≠none:=ai.elim R.mem.dn fun⟨_,aS⟩=>R.dn o aS
theorem hH.bD (R:hH G ws B S a7 es gs h)(o:G.da)(k:bL h ah):hH G ws B S a7 es gs ah:=R.same λx ai=>k x (R.ml o ai)
theorem hH.out (R:hH G ws B S a7 es gs h)(o:G.da){x:Nat}(ai:h x=none):¬cH G B es gs x:=λa_=>R.ml o a_ ai
theorem hH.uL (R:hH G ws B S a7 es gs h)(o:G.da){dm:dF}{b_:List de}{aW:ar}(M:cV B.n1 B.m dm b_ aW ah)(v:bT (bF B.m es) h (bF B.m aW) ah):hH G ws B { S with R:=dm } b_ aW gs ah/\bT (cH G B es gs) h (cH G B aW gs) ah:=by
 have aS:∀p x,B.h1 G.L gs p x->ah x=h x:=λp x ai=>v.2.1 x (R.dn o ai) (R.jv p x ai)
 refine⟨⟨by rw[aS .cr _ rfl];exact R.top,M,R.py.move (aS .tb _ rfl) (λdf _=>aS .dR _ ⟨rfl,df⟩),λdf=>by rw[aS .dR _ ⟨rfl,df⟩];exact R.Dy df,R.l_.move λq aj _=>aS .b2 _ ⟨q,aj,rfl⟩,
  λi hi=>by rw[aS (.ba i) _ ⟨hi,rfl⟩];exact R.gy i hi,λi hi=>(R.map i hi).move (aS (.mp i) _ ⟨hi,rfl⟩),R.Dz.move λq aj=>aS .gs _ ⟨q,aj,rfl⟩,R.jf,λp x ai=>v.out (R.dn o ai) (R.jv p x ai)⟩,mK v⟩
theorem hH.tape (R:hH G ws B S a7 es gs h)(o:G.da){u:Nat}(t:p6 B.cS B.tb B.dR ws u ah)(aU:∀x,h x≠none->x≠B.tb->ah x=h x):hH G ws B { S with used:=u } a7 es gs ah:=by
 have aS:∀p x,B.h1 G.L gs p x->p≠.tb->ah x=h x:=λp x ai df=>aU x (R.dn o ai) λe=>df (R.jf p .tb x ai e)
 exact⟨by rw[aS .cr _ rfl (by simp)];exact R.top,R.mem.move λx ai=>aU x (R.mem.dn ai) λe=>R.jv .tb x e ai,t,λdf=>by rw[aS .dR _ ⟨rfl,df⟩ (by simp)];exact R.Dy df,R.l_.move λq aj _=>aS .b2 _ ⟨q,aj,rfl⟩ (by simp),
  λi hi=>by rw[aS (.ba i) _ ⟨hi,rfl⟩ (by simp)];exact R.gy i hi,λi hi=>(R.map i hi).move (aS (.mp i) _ ⟨hi,rfl⟩ (by simp)),R.Dz.move λq aj=>aS .gs _ ⟨q,aj,rfl⟩ (by simp),R.jf,R.jv⟩
theorem hH.Gm (R:hH G ws B S a7 es gs h)(o:G.da){i:Nat}(hi:i<G.L){dm:dF}{b_:List de}{aW:ar}{eS:Bool}{ids:List UInt64}(M:cV B.n1 B.m dm b_ aW ah)
 (aT:ah (B.ba i)=some (.cells (nv (G.d_ i) B.m.b (G.base i) eS (B.mp i)) (B.iP i) (0,0))) (hm:m2 ah (B.mp i) ids) (nl:¬bF B.m aW (B.ba i)) (CQ:¬bF B.m aW (B.mp i))
 (v:bT (λx=>bF B.m es x∨x=B.ba i∨x=B.mp i) h (λx=>bF B.m aW x∨x=B.ba i∨x=B.mp i) ah) :
 hH G ws B { S with R:=dm,over:=λx=>if x=i then eS else S.over x,ids:=λx=>if x=i then ids else S.ids x } b_ aW gs ah/\bT (cH G B es gs) h (cH G B aW gs) ah:=by
 have aH:∀p x,B.h1 G.L gs p x->p≠.ba i->p≠.mp i->¬(bF B.m es x∨x=B.ba i∨x=B.mp i):=λp x ai aa ad h=>by
  rcases h with h|h|h
  .exact R.jv p x ai h
  .exact aa (R.jf p (.ba i) x ai ⟨hi,h⟩)
  .exact ad (R.jf p (.mp i) x ai ⟨hi,h⟩)
 have aS:∀p x,B.h1 G.L gs p x->p≠.ba i->p≠.mp i->ah x=h x:=λp x ai aa ad=>v.2.1 x (R.dn o ai) (aH p x ai aa ad)
 refine⟨⟨by rw[aS .cr _ rfl (by simp) (by simp)];exact R.top,M,R.py.move (aS .tb _ rfl (by simp) (by simp)) (λdf _=>aS .dR _ ⟨rfl,df⟩ (by simp) (by simp)),λdf=>by rw[aS .dR _ ⟨rfl,df⟩ (by simp) (by simp)];exact R.Dy df,
  R.l_.move λq aj _=>aS .b2 _ ⟨q,aj,rfl⟩ (by simp) (by simp),λj aV=>?_,λj aV=>?_,R.Dz.move λq aj=>aS .gs _ ⟨q,aj,rfl⟩ (by simp) (by simp),R.jf,λp x ai=>?_⟩,?_⟩
 .show ah (B.ba j)=some (.cells (nv (G.d_ j) B.m.b (G.base j) (if j=i then eS else S.over j) (B.mp j)) (B.iP j) (0,0))
  by_cases c:j=i
  .subst c;rw[if_pos rfl];exact aT
  .rw[if_neg c,aS (.ba j) _ ⟨aV,rfl⟩ (by simpa using c) (by simp)];exact R.gy j aV
 .show m2 ah (B.mp j) (if j=i then ids else S.ids j)
  by_cases c:j=i
  .subst c;rw[if_pos rfl];exact hm
  .rw[if_neg c];exact(R.map j aV).move (aS (.mp j) _ ⟨aV,rfl⟩ (by simp) (by simpa using c))
 .by_cases aQ:p= .ba i
  .subst aQ;rw[ai.2];exact nl
  .by_cases aY:p= .mp i
   .subst aY;rw[ai.2];exact CQ
   .exact λh=>v.out (R.dn o ai) (aH p x ai aQ aY) (.inl h)
 .refine((bT.refl (cH G B es gs) h).to (C:=λx=>(bF B.m es x∨x=B.ba i∨x=B.mp i)∨∃p,B.h1 G.L gs p x) λx ai=> .inl ?_).trans (mK v) |>.to λx ai=> .inl ?_
  .rcases ai with (h|h|h)|h
   .exact .inl h
   .exact .inr ⟨.ba i,hi,h⟩
   .exact .inr ⟨.mp i,hi,h⟩
   .exact .inr h
  .exact ai.elim (λh=> .inl (.inl h)) .inr
end
end Go.Proofs.Tryz
namespace Go.Proofs.Tryz
open Go Go.cD Go.RowKit
set_option maxRecDepth 8000
section
variable {G:cG} {ws:List UInt64} {B:jy} {S:cU} {a7:List de} {es gs:ar} {h ah:ak}
theorem hH.J0 (R:hH G ws B S a7 es gs h)(o:G.da){cN:ar}{l:List (Nat×Nat)}(hL:cF 2 q7 lE ah cN l)(top:ah B.cr=some (.cells (Hh G B cN) B.rX (0,0)))
 (off:∀b,h b≠none->(∀q,gs.q=some q->b≠q.b)->b≠B.cr->ah b=h b) (loc:∀dL,cN.q=some dL->(∃q,gs.q=some q/\dL.b=q.b)∨h dL.b=none) (av:∀b,ah b=none->h b=none) :
 hH G ws B { S with gone:=l } a7 es cN ah/\bT (cH G B es gs) h (cH G B es cN) ah:=by
 have old:∀p x,B.h1 G.L cN p x->p≠.gs->B.h1 G.L gs p x:=λp x ai df=>by cases p<;>first|exact ai|exact absurd rfl df
 have new:∀p x,B.h1 G.L gs p x->p≠.gs->B.h1 G.L cN p x:=λp x ai df=>by cases p<;>first|exact ai|exact absurd rfl df
 have aS:∀p x,B.h1 G.L gs p x->p≠.gs->p≠.cr->ah x=h x:=λp x ai aa ad=>off x (R.dn o ai) (λq aj e=>aa (R.jf p .gs x ai ⟨q,aj,e⟩)) λe=>ad (R.jf p .cr x ai e)
 have Lh:∀x,B.h1 G.L cN .gs x->B.h1 G.L gs .gs x∨h x=none:=by
  rintro x ⟨q,aj,rfl⟩
  rcases loc q aj with ⟨iy,h0,e⟩|aH
  .exact .inl ⟨iy,h0,e⟩
  .exact .inr aH
 refine⟨⟨top,R.mem.move λx ai=>off x (R.mem.dn ai) (λq aj e=>R.jv .gs x ⟨q,aj,e⟩ ai) λe=>R.jv .cr x e ai,R.py.move (aS .tb _ rfl (by simp) (by simp)) (λdf _=>aS .dR _ ⟨rfl,df⟩ (by simp) (by simp)),λdf=>by rw[aS .dR _ ⟨rfl,df⟩ (by simp) (by simp)];exact R.Dy df,
  R.l_.move λq aj _=>aS .b2 _ ⟨q,aj,rfl⟩ (by simp) (by simp),λi hi=>by rw[aS (.ba i) _ ⟨hi,rfl⟩ (by simp) (by simp)];exact R.gy i hi,λi hi=>(R.map i hi).move (aS (.mp i) _ ⟨hi,rfl⟩ (by simp) (by simp)),hL,λp eu x ai gV=>?_,λp x ai=>?_⟩,?_,?_,av⟩
 .by_cases c:p= .gs
  .subst c
   by_cases cc:eu= .gs
   .exact cc.symm
   .rcases Lh x ai with c_|aH
    .exact R.jf .gs eu x c_ (old eu x gV cc)
    .exact absurd aH (R.dn o (old eu x gV cc))
  .by_cases cc:eu= .gs
   .subst cc
    rcases Lh x gV with c_|aH
    .exact R.jf p .gs x (old p x ai c) c_
    .exact absurd aH (R.dn o (old p x ai c))
   .exact R.jf p eu x (old p x ai c) (old eu x gV cc)
 .by_cases c:p= .gs
  .subst c
   rcases Lh x ai with c_|aH
   .exact R.jv .gs x c_
   .exact λhm=>R.mem.dn hm aH
  .exact R.jv p x (old p x ai c)
 .rintro x (hm|⟨p,ai⟩)
  .exact .inl (.inl hm)
  .by_cases c:p= .gs
   .subst c;exact(Lh x ai).imp (λc_=> .inr ⟨.gs,c_⟩) id
   .exact .inl (.inr ⟨p,old p x ai c⟩)
 .intro x ai aH
  exact off x ai (λq aj e=>aH (.inr ⟨.gs,q,aj,e⟩)) λe=>aH (.inr ⟨.cr,e⟩)
theorem aea (o:G.da)(R:hH G ws B S a7 es gs h){i:Nat}(hi:i<4)(hu:S.used<2 ^ 62) :
 ao 82 [bg ⟨B.cr,0⟩,U i] h λv ah=>v= .agg #[U (G.leaf (λp=>ws.getD p 0) i S.used),U S.used]/\hH G ws B { S with used:=S.used+1 } a7 es gs ah/\bT (cH G B es gs) h (cH G B es gs) ah:=by
 have e4:=o.st
 refine aoJ _ _ ?_
 unfold Zv
 refine bM λae aa f1 aF aE=>⟨some ⟨B.tb,0⟩,aE.cell (az R.top rfl),?_⟩
 have fz:=R.bD o aE
 refine(alj fz.py hu).mono ?_
 rintro _ ad ⟨rfl,t2,cb⟩
 have c4:=fz.tape o t2 λx _ ai=>cb x ai
 have v2:bT (cH G B es gs) aa (cH G B es gs) ad:=⟨λx ai=> .inl ai,λx ai aH=>cb x λe=>aH (.inr ⟨.tb,e⟩),λx ai=>by
  by_cases e:x=B.tb
  .rw[e] at ai;exact absurd ai t2.dn
  .rw[cb x e] at ai;exact ai⟩
 refine⟨_,_,rfl,_,az c4.top rfl,_,az c4.top rfl,_,az c4.top rfl,_,az c4.top rfl,?_⟩
 refine(Sl e4 i (by omega)).to λan aI=>⟨_,rfl,?_⟩
 have ag:G.m-2*i<=10:=by have:=o.m;omega
 have rp:1<=2 ^ (G.m-2*i):=Nat.one_le_two_pow
 have rq:2 ^ (G.m-2*i)<=2 ^ 10:=Nat.pow_le_pow_right (by decide) ag
 have Qg:(2:Int) ^ (G.m-2*i)=((2 ^ (G.m-2*i):Nat):Int):=by simp
 rw[Qg,jk (by omega)]
 have Gn:(UInt64.ofNat (2 ^ (G.m-2*i))).toNat=2 ^ (G.m-2*i):=by rw[UInt64.toNat_ofNat'];omega
 have em:((ws.getD S.used 0)%UInt64.ofNat (2 ^ (G.m-2*i))).toNat=G.leaf (λp=>ws.getD p 0) i S.used:=by
  rw[UInt64.toNat_mod,Gn];rfl
 have xV:G.leaf (λp=>ws.getD p 0) i S.used<1024:=xj o i S.used
 have e1:¬cH G B es gs ae:=R.out o f1
 have hQ:=v2.get aF e1
 refine⟨λe=>by have:=congrArg UInt64.toNat e;rw[Gn] at this;simp at this,?_⟩
 rw[em,bf (by omega) (by omega)]
 have kd:=((hF aE (cH G B es gs)).trans v2).more aI
 refine lu kd f1 (aI.get hQ) rfl λaK qL b1 dr=>⟨_,az b1 rfl,_,az b1 rfl,rfl,?_,qL⟩
 exact(c4.bD o aI).same λx ai=>dr x λe=>e1 (e▸ai)
noncomputable def aeb (v p:UInt64):Value:= .agg #[U ((v.toNat:Int)-1),U (al (p.toNat:Int))]
theorem aec (v p:UInt64)(bQ:v.toNat<2 ^ 62):eW prog 87 [ab v,ab p] (aeb v p):=by
 intro h
 refine aoS _ _ ?_
 unfold Zz
 refine bM λae aa f1 aF aE=>?_
 rw[bf (n:=(v.toNat:Int)) (by omega) (by omega),bf (n:=(v.toNat:Int)-1) (by omega) (by omega)]
 exact jl aE f1 aF rfl λad aC a8 _=>⟨_,az a8 rfl,_,az a8 rfl,rfl,aC⟩
theorem aed {a b:Nat}(bO:a<2 ^ 62)(au:b<2 ^ 62):eW prog 86 [.agg #[U a,U b]] (.tuple #[ab (UInt64.ofNat (a+1)),ab (UInt64.ofNat b)]):=by
 intro h
 refine aoQ _ _ ?_
 unfold Zy
 refine bM λae aa f1 aF aE=>⟨_,az aF rfl,_,az aF rfl,?_,aE⟩
 rw[jk (by omega),jk (by omega)]
 have:UInt64.ofNat a+1=UInt64.ofNat (a+1):=by
  apply UInt64.toNat_inj.1
  rw[UInt64.toNat_add,UInt64.toNat_ofNat',UInt64.toNat_ofNat']
  have e:(1:UInt64).toNat=1:=rfl
  rw[e];omega
 rw[this]
theorem axR (o:G.da)(R:hH G ws B S a7 es gs h){v p:UInt64}(bQ:v.toNat<2 ^ 62)(aS:v≠0->p.toNat<2 ^ 62){sp:Nat×Nat}(c_:S.gone.length<1000000000000) :
 ao 88 [bg ⟨B.cr,0⟩,aeb v p,.agg #[U sp.1,U sp.2]] h λr ah=>∃cN,r=U (fM v p sp).1/\hH G ws B { S with gone:=S.gone++[fM v p sp] } a7 es cN ah/\bT (cH G B es gs) h (cH G B es cN) ah:=by
 refine aoU _ _ _ _ _ ?_
 unfold ZA
 refine bM λae aa f1 aF aE=>bM λay ad f2 a8 aC=>?_
 have fE:=aE.trans aC
 have cZ:ay≠ae:=λe=>by rw[e,aF] at f2;cases f2
 have fin:∀(g:ak) (y:Nat×Nat),bL h g->g ae=some (.cells #[U y.1,U y.2] 149 (0,0))->y=fM v p sp ->
  ∃s1,br g B.cr (0+8)=some (bb s1)/\∃aO,br g ae 0=some (U aO)/\∃bm,br g ae (0+1)=some (U bm)/\bj g (.cells #[U aO,U bm] 149) λaN aK=>fh prog 115 s1 (.s ⟨some ⟨aN,0⟩,1,1,none⟩) aK λs2 aR=>aX aR ⟨B.cr,0+8⟩ [bb s2] λbp=>∃bx,br bp ae 0=some (U bx) /\
   ∃cN,Value.int .i64 bx=U (fM v p sp).1/\hH G ws B { S with gone:=S.gone++[fM v p sp] } a7 es cN bp/\bT (cH G B es gs) h (cH G B es cN) bp:=by
  rintro g y cO hB rfl
  have du:=R.bD o cO
  refine⟨gs,az du.top rfl,_,az hB rfl,_,az hB rfl,?_⟩
  refine cF.push axQ CR axP du.Dz [fM v p sp] (by rfl) rfl (λ_ _=>rfl) (by simp;omega) (by decide) ?_
  intro cN g2 cb Sn kG EK
  have aee:∀q,gs.q=some q->B.cr≠q.b:=λq aj e=>by have:=du.jf .cr .gs B.cr rfl ⟨q,aj,e⟩;cases this
  have ny:g2 B.cr=some (.cells (Hh G B gs) B.rX (0,0)):=by rw[Sn _ (by rw[du.top];simp) aee,du.top]
  have e1:ae≠B.cr:=λe=>by rw[e,R.top] at f1;cases f1
  have AD:∀q,cN.q=some q->q.b≠B.cr:=λq aj e=>by
   rcases kG q aj with ⟨iy,h0,dB⟩|aH
   .exact aee iy h0 (e▸dB)
   .rw[e,du.top] at aH;cases aH
  obtain⟨lX,v6⟩:=du.J0 o (ah:=bA g2 B.cr (.cells (Hh G B cN) B.rX (0,0))) (cN:=cN) (l:=S.gone++[fM v p sp]) (cb.move λq aj=>cQ _ _ (AD q aj)) (eH _ _ _)
   (λb au aj aU=>by rw[cQ _ _ aU,Sn b au aj]) (λq aj=>kG q aj) (λb au=>by
    by_cases e:b=B.cr
    .rw[e,eH] at au;cases au
    .rw[cQ _ _ e] at au;exact EK b au)
  have axS:bA g2 B.cr (.cells (Hh G B cN) B.rX (0,0)) ae=g ae:=by
   rw[cQ _ _ e1,Sn ae (by rw[hB];simp) λq aj e=>R.out o f1 (.inr ⟨.gs,q,aj,e⟩)]
  exact⟨_,_,ny,by simp,_,az (axS.trans hB) rfl,cN,rfl,lX,(hF cO _).trans v6⟩
 refine⟨_,az (aC.get aF) rfl,cd (λca=>?_) λdx=>?_⟩
 .have DA:v=0:=UInt64.toNat_inj.1 (by show v.toNat=0;omega)
  refine⟨_,az a8 rfl,_,az a8 rfl,jl fE f1 (aC.get aF) rfl λan aI b0 _=>?_⟩
  exact fin an sp aI b0 (by unfold fM;rw[if_pos DA])
 .have DA:¬v=0:=λe=>by rw[e] at dx;simp at dx
  refine fin ad (v.toNat-1,p.toNat) fE ?_ (by unfold fM;rw[if_neg DA])
  rw[aC.get aF]
  have:(v.toNat:Int)-1=((v.toNat-1:Nat):Int):=by omega
  have aS:=aS DA
  rw[this,bf (by omega) (by omega)]
end
end Go.Proofs.Tryz
namespace Go.Proofs.Tryz
open Go Go.cD Go.RowKit
set_option maxRecDepth 8000
theorem axT {h:ak}{q:aD}{L:Nat}(dY:L<=1000){y:Value}(S:Nat->ak->Prop)(E:ak->Prop)(h0:S 0 h)(aZ:br h q.b (q.o+3)=some (U L))
 (step:∀i ah,i<L->S i ah->gi prog y [U ((L:Int)-1-i)] ah λv hq=>(v= .bool true/\S (i+1) hq)∨(v= .bool false/\E hq)) :
 ao 114 [y,bg q] h λ_ ah=>S L ah∨E ah:=by
 refine ZP y q ?_
 unfold Pm
 refine⟨L,aZ,λv n aa k=>v=y/\∃i:Nat,n=(L:Int)-1-i/\i<=L/\S i aa/\k=L-i,⟨_,rfl,0,by rw[bf (by omega) (by omega)];simp,Nat.zero_le _,h0,rfl⟩,?_⟩
 rintro v n aa k ⟨rfl,i,rfl,hi,aU,rfl⟩
 refine cd (λca=>?_) λdx=>?_
 .refine(step i aa (by omega) aU).mono ?_
  rintro _ ad (⟨rfl,Hb⟩|⟨rfl,he⟩)
  .exact⟨_,rfl,dg rfl ⟨_,by omega,rfl,i+1,by rw[bf (by omega) (by omega)];omega,by omega,Hb,rfl⟩⟩
  .exact⟨_,rfl,bS rfl (.inr he)⟩
 .have:i=L:=by omega
  subst this;exact .inl aU
theorem axU:eW prog 84 [ab 4] (U 2):=by
 intro h
 refine SO _ ?_
 unfold LB
 refine(LA 4).to λaa aE=>⟨_,rfl,?_,aE⟩
 have:Lib.bitLen (UInt64.toNat 4)=3:=by decide
 rw[this,show al (((3:Nat):Int)-1)=2 by rw[bf (by omega) (by omega)];omega];rfl
theorem abX {x i:Nat}(ai:x<2 ^ 62)(hi:i<=4):dD (UInt64.ofNat x) (2*i)=cE x i:=by
 apply UInt64.toNat_inj.1
 unfold dD cE
 have aF:(UInt64.ofNat x).toNat=x:=by rw[UInt64.toNat_ofNat'];omega
 have ad:x/4 ^ i<=x:=Nat.div_le_self _ _
 have a8:(UInt64.ofNat (x/4 ^ i)).toNat=x/4 ^ i:=by rw[UInt64.toNat_ofNat'];generalize x/4 ^ i=z at *;omega
 rw[a8]
 have b5:i=0∨i=1∨i=2∨i=3∨i=4:=by omega
 rcases b5 with rfl|rfl|rfl|rfl|rfl<;>(simp[UInt64.toNat_shiftRight,aF,Nat.shiftRight_eq_div_pow])<;>omega
theorem Li {g:ak}{aN x:Nat}(ai:x<2 ^ 62)(b0:br g aN 0=some (ab (UInt64.ofNat x))){i:Nat}(hi:i<=4){I:Int}(kP:I=i) :
 gi prog (.func (.func 83) #[] #[bg ⟨aN,0⟩]) [U I] g λr bo=>r=ab (cE x i)/\bL g bo:=by
 subst kP
 refine⟨rfl,?_⟩
 refine aoL _ _ ?_
 unfold Zw
 refine⟨_,b0,axU.to λaa aE=>⟨_,rfl,⟨aE.cell b0,trivial⟩,?_⟩⟩
 have e:al (2*(i:Int))=((2*i:Nat):Int):=by rw[bf (by omega) (by omega)];omega
 rw[e]
 refine⟨by omega,?_,aE⟩
 rw[show Int.toNat ((2*i:Nat):Int)=2*i by omega,abX ai hi]
abbrev AE (g:Nat->Nat×Nat):Array Value:=#[U (g 0).1,U (g 0).2,U (g 1).1,U (g 1).2,U (g 2).1,U (g 2).2,U (g 3).1,U (g 3).2]
theorem aef (g:Nat->Nat×Nat){j:Nat}(aV:j<4)(y:Nat×Nat):h5 (AE g) (j*2) [U y.1,U y.2]=AE λk=>if k=j then y else g k:=by
 have:j=0∨j=1∨j=2∨j=3:=by omega
 rcases this with rfl|rfl|rfl|rfl<;>rfl
theorem Hi {h:ak}{b:Nat}{g:Nat->Nat×Nat}{T:TypeId}(e:h b=some (.cells (AE g) T (0,0))){j:Nat}(aV:j<4):br h b (0+j*2)=some (U (g j).1)/\br h b (0+j*2+1)=some (U (g j).2):=by
 have:j=0∨j=1∨j=2∨j=3:=by omega
 rcases this with rfl|rfl|rfl|rfl<;>exact⟨az e rfl,az e rfl⟩
theorem ab3 (a b:UInt64):(e6.set 0 a).set 1 b=tW a b:=by
 apply Vector.ext;intro i hi
 have h:i=0∨i=1∨i=2∨i=3∨i=4∨i=5∨i=6∨i=7∨i=8∨i=9∨i=10∨i=11:=by omega
 rcases h with rfl|rfl|rfl|rfl|rfl|rfl|rfl|rfl|rfl|rfl|rfl|rfl<;>rfl
theorem aeg {m:Nat}{s t:Int}{L:Nat}{first:Int}(ls:List Int)(y:Int):∀n,n<=ls.length->oc m s t L first (ls++[y]) n=oc m s t L first ls n
 | 0,_=>rfl
 | n+1,h=>by
  rw[BD,BD,aeg ls y n (by omega)]
  have:(ls++[y]).getD n 0=ls.getD n 0:=by simp[List.getD,List.getElem?_append_left (show n<ls.length by omega)]
  rw[this]
theorem vX (d:c0){j:Nat}(aV:j<8):hP d j=d[j]:=by unfold hP;simp[aV]
theorem KL {G:cG}{pre:List de}{l:List (Nat×Nat)}{g0 i j:Nat}{av:Nat×Nat}(aT:l.length=g0+i)(aV:j+i+1=G.L) :
 pre++oc G.m G.s G.t G.L G.f ((l.drop g0).map λy=>(y.1:Int)) i++ob (G.d_ j).k (G.d_ j).s (G.d_ j).t (G.base j) av.1=pre++oc G.m G.s G.t G.L G.f (((l++[av]).drop g0).map λy=>(y.1:Int)) (i+1):=by
 rw[List.drop_append_of_le_length (by omega),List.map_append,List.map_cons,List.map_nil,BD,aeg _ _ i (by simp;omega),List.append_assoc]
 have aa:(((l.drop g0).map λy=>(y.1:Int))++[(av.1:Int)]).getD i 0=(av.1:Int):=by
  have:((l.drop g0).map λy=>(y.1:Int)).length=i:=by simp;omega
  simp[List.getD,<-this]
 have ad:G.L-1-i=j:=by omega
 have an:((G.base j:Nat):Int)=(G.f:Int)+1+3*(j:Int):=by unfold cG.base;omega
 rw[aa,ad,an]
 rfl
end Go.Proofs.Tryz
namespace Go.Proofs.Tryz
open Go Go.cD Go.RowKit
set_option maxRecDepth 8000
section
variable {G:cG} {ws:List UInt64} {B:jy} {S:cU} {a7:List de} {es gs:ar} {h:ak}
theorem AO (_o:G.da){x:Nat}(ai:x<2 ^ G.m):x/4 ^ (G.L-1)<G.top:=by
 unfold cG.top
 refine Nat.div_lt_of_lt_mul (Nat.lt_of_lt_of_le ai ?_)
 rw[show 4 ^ (G.L-1)=2 ^ (2*(G.L-1)) by rw[Nat.pow_mul],<-Nat.pow_add]
 exact Nat.pow_le_pow_right (by decide) (by omega)
def drawn (G:cG)(w:Nat->UInt64)(u e lo:Nat)(j:Nat):Nat×Nat:=if lo<=j/\j<G.L then (G.leaf w j (G.bH u j+e),G.bH u j+e) else (0,0)
set_option maxHeartbeats 4000000 in
theorem af3 (o:G.da)(st:L5 G B)(R:hH G ws B S a7 es gs h){op:fg}{k:Int}{d:c0}(fY:yG op k 0 d)(ag:k=0∨k=1∨k=3){x u0 a:Nat}(ai:x<2 ^ G.m)(eJ:kQ G (λp=>ws.getD p 0) u0 S.used S)(hu:S.used=u0+2*G.L*a)(c_:S.gone.length=G.L*a)
 (o3:S.used<1000000000000) (atu:S.gone.length<100000000000) (aT:a7.length<100000000000) :
 ao 43 [bg ⟨B.cr,0⟩,U k,ab (UInt64.ofNat x),ea d] h λr ah=>∃b_ aW cN,r= .tuple #[ea (c3 G (λp=>ws.getD p 0) op x S).2.1,.bool (c3 G (λp=>ws.getD p 0) op x S).2.2]/\hH G ws B (c3 G (λp=>ws.getD p 0) op x S).1 b_ aW cN ah/\bT (cH G B es gs) h (cH G B aW cN) ah /\
  b_=a7++qw G.m G.s G.t G.L G.f (((c3 G (λp=>ws.getD p 0) op x S).1.gone.drop S.gone.length).map λy=>(y.1:Int)):=by
 have e4:=o.st
 have dY:=o.L
 have hm:=o.m
 have atv:2 ^ G.m<=2 ^ 10:=Nat.pow_le_pow_right (by decide) hm
 have CS:x<2 ^ 62:=by omega
 refine anR _ _ _ _ ?_
 unfold Yv
 refine bM λae aa f1 aF aE=>bM λay ad f2 a8 aC=>bM λaN an f3 b0 aI=>bM λbJ aK f4 b1 bh=>bM λbZ aR f5 cy bE=>bM λdC bp f6 dE ch=>?_
 have aeh:=(aI.trans bh).trans (bE.trans ch)
 have mu:=aC.trans aeh
 have wQ:=aE.trans mu
 have g1:=mu.get aF
 have g2:=aeh.get a8
 have g3:=(bh.trans (bE.trans ch)).get b0
 have g4:=(bE.trans ch).get b1
 have g5:=ch.get cy
 have lX:=R.bD o wQ
 have f20:h ay=none:=aE.free f2
 have f30:h aN=none:=aE.free (aC.free f3)
 have f40:h bJ=none:=aE.free (aC.free (aI.free f4))
 have f50:h bZ=none:=aE.free (aC.free (aI.free (bh.free f5)))
 have f60:h dC=none:=aE.free (aC.free (aI.free (bh.free (bE.free f6))))
 rcases ag with rfl|rfl|rfl
 all_goals first
  | refine⟨_,az g2 rfl,bS rfl ?_⟩
  | refine⟨_,az g2 rfl,dg rfl ⟨_,az g2 rfl,bS rfl ?_⟩⟩
  | refine⟨_,az g2 rfl,dg rfl ⟨_,az g2 rfl,dg rfl ⟨_,az g2 rfl,bS rfl ?_⟩⟩⟩
 all_goals
  refine⟨_,az g3 rfl,some ⟨B.cr,0⟩,az g1 rfl,_,rfl,_,az lX.top rfl,bS ?_ (bM λeo b3 f7 fo c9=>bM λfG bW f8 fP eN=>?_)⟩
  .have e:cI ((2:Int) ^ G.m)=UInt64.ofNat (2 ^ G.m):=by rw[show(2:Int) ^ G.m=((2 ^ G.m:Nat):Int) by simp,jk (by omega)]
   show decide (cI ((2:Int) ^ G.m)<=UInt64.ofNat x)=false
   rw[e]
   refine decide_eq_false λhle=>?_
   have:=UInt64.le_iff_toNat_le.1 hle
   rw[UInt64.toNat_ofNat',UInt64.toNat_ofNat'] at this
   omega
  have mM:=c9.trans eN
  have I4:=wQ.trans mM
  have f70:h eo=none:=wQ.free f7
  have f80:h fG=none:=(wQ.trans c9).free f8
  have sl:=R.bD o I4
  have F3:fG≠eo:=λe=>by rw[e,fo] at f8;cases f8
  let Y:Nat->Prop:=λy=>y=ae∨y=ay∨y=aN∨y=bJ∨y=bZ∨y=dC
  have zm:∀y,Y y->h y=none:=by rintro y (rfl|rfl|rfl|rfl|rfl|rfl)<;>assumption
  have mB:∀y,Y y->bW y≠none:=by
   rintro y (rfl|rfl|rfl|rfl|rfl|rfl)
   .rw[mM.get g1];simp
   .rw[mM.get g2];simp
   .rw[mM.get g3];simp
   .rw[mM.get g4];simp
   .rw[mM.get g5];simp
   .rw[mM.get dE];simp
  have aei:∀y,Y y->y≠eo/\y≠fG:=λy z=>by
   have Lj:bp y≠none:=by
    have:=mB y z
    intro aH
    rcases z with rfl|rfl|rfl|rfl|rfl|rfl
    .rw[g1] at aH;cases aH
    .rw[g2] at aH;cases aH
    .rw[g3] at aH;cases aH
    .rw[g4] at aH;cases aH
    .rw[g5] at aH;cases aH
    .rw[dE] at aH;cases aH
   exact⟨λe=>Lj (e▸f7),λe=>by have:=c9 y Lj;rw[e,f8] at this;rw[e] at Lj;exact Lj this.symm⟩
  have aej:∀y,Y y->¬cH G B es gs y:=λy z=>R.out o (zm y z)
  have So:¬cH G B es gs eo:=R.out o f70
  have Sp:¬cH G B es gs fG:=R.out o f80
  refine⟨some ⟨B.cr,0⟩,az (mM.get g1) rfl,_,rfl,_,az sl.top rfl,_,az sl.top rfl,_,az sl.top rfl,_,az sl.top rfl,?_⟩
  refine(Sm bW).mono ?_
  rintro _ b7 ⟨Jo,rfl,fd,gh,e9⟩
  refine⟨_,rfl,trivial,λz bP sN aP=>⟨rfl,?_⟩⟩
  have Sq:=I4.trans e9
  have mi:h bP=none:=Sq.free sN
  have Hj:¬cH G B es gs bP:=R.out o mi
  have qy:bL b7 (bA b7 bP (eD z)):=(bL.refl b7).bA sN _
  have DB:∀y,Y y->y≠bP:=λy z e=>by have:=e9 y (mB y z);rw[e,sN] at this;exact mB bP (e▸z) this.symm
  have DC:eo≠bP:=λe=>by have:=(eN.trans e9).get fo;rw[e,sN] at this;cases this
  have DD:fG≠bP:=λe=>by have:=e9.get fP;rw[e,sN] at this;cases this
  have aek:∀e,drawn G (λp=>ws.getD p 0) S.used e G.L=λ_=>(0,0):=λe=>by funext j;unfold drawn;rw[if_neg (by omega)]
  refine(ad9 (L:=G.L) (q:=⟨Jo,0⟩) (y:=l0 bP) (by omega) (λi g=>g bP=some (eD z)/\hH G ws B { S with used:=S.used+2*i } a7 es gs g/\bT (cH G B es gs) h (cH G B es gs) g/\(∀y,Y y->g y=bW y) /\
   g eo=some (.cells (AE (drawn G (λp=>ws.getD p 0) S.used 0 (G.L-i))) 174 (0,0))/\g fG=some (.cells (AE (drawn G (λp=>ws.getD p 0) S.used 1 (G.L-i))) 174 (0,0)))
   ⟨eH _ _ _,R.bD o (Sq.trans qy),hF (Sq.trans qy) _,λy aB=>(cQ _ _ (DB y aB)).trans (e9 y (mB y aB)),?_,?_⟩ (az (qy.get gh) rfl) ?_).mono ?_
  .rw[Nat.sub_zero,aek,cQ _ _ DC,(eN.trans e9).get fo];rfl
  .rw[Nat.sub_zero,aek,cQ _ _ DD,e9.get fP];rfl
  .rintro i g hi ⟨bc,du,jY,qc,g7,g8⟩
   refine⟨rfl,rfl,aP _ g _ bc ⟨bc,?_⟩⟩
   obtain⟨j,aV⟩:∃j:Nat,j=G.L-1-i:=⟨_,rfl⟩
   have Gr:(G.L:Int)-1-i=j:=by omega
   rw[Gr]
   have CT:G.bH S.used j=S.used+2*i:=by unfold cG.bH;omega
   have Sr:=jY.loc mi (dO z)
   have Ss:hH G ws B { S with used:=S.used+2*i } a7 es gs (bA g bP (dO z)):=du.same λy aB=>cQ _ _ λe=>Hj (e▸aB)
   refine⟨some ⟨B.cr,0⟩,az ((cQ _ _ (DB ae (.inl rfl))).trans ((qc ae (.inl rfl)).trans (mM.get g1))) rfl,?_⟩
   refine(aea o Ss (i:=j) (by omega) (by show S.used+2*i<2 ^ 62;omega)).mono ?_
   rintro _ pz ⟨rfl,iS,km⟩
   have pA:∀y,Y y->pz y=bW y:=λy aB=>by rw[km.2.1 y (by rw[cQ _ _ (DB y aB),qc y aB];exact mB y aB) (aej y aB),cQ _ _ (DB y aB),qc y aB]
   have axV:=km.get (show bA g bP (dO z) eo=_ from (cQ _ _ DC).trans g7) So
   have axW:=km.get (show bA g bP (dO z) fG=_ from (cQ _ _ DD).trans g8) Sp
   have nG:=km.get (show bA g bP (dO z) bP=_ from eH _ _ _) Hj
   refine⟨_,_,rfl,by omega,by omega,?_⟩
   rw[show 0+Int.toNat (j:Int)*2=j*2 by omega]
   refine stM (Sr.trans km) f70 axV (by simp;omega) λoU Qu axX sY=>?_
   have pO:=iS.same (ah:=oU) λy aB=>sY y λe=>So (e▸aB)
   have z_:∀y,Y y->oU y=bW y:=λy aB=>by rw[sY y (aei y aB).1,pA y aB]
   refine⟨some ⟨B.cr,0⟩,az ((z_ ae (.inl rfl)).trans (mM.get g1)) rfl,?_⟩
   refine(aea o pO (i:=j) (by omega) (by show S.used+2*i+1<2 ^ 62;omega)).mono ?_
   rintro _ rY ⟨rfl,u1,sZ⟩
   have KH:∀y,Y y->rY y=bW y:=λy aB=>by rw[sZ.2.1 y (by rw[z_ y aB];exact mB y aB) (aej y aB),z_ y aB]
   have axY:=sZ.get axX So
   have axZ:=sZ.get ((sY _ F3).trans axW) Sp
   have s6:=sZ.get ((sY _ (Ne.symm DC)).trans nG) Hj
   refine⟨_,_,rfl,by omega,by omega,?_⟩
   refine stM (Qu.trans sZ) f80 axZ (by simp;omega) λCW St ax0 ma=>⟨(ma _ (Ne.symm DD)).trans s6,rfl,eH _ _ _,?_,St.loc mi _,λy aB=>?_,?_,?_⟩
   .have e:S.used+2*(i+1)=S.used+2*i+1+1:=by omega
    rw[e]
    exact(u1.same (ah:=CW) λy aB=>ma y λe=>Sp (e▸aB)).same λy aB=>cQ _ _ λe=>Hj (e▸aB)
   .rw[cQ _ _ (DB y aB),ma y (aei y aB).2,KH y aB]
   .rw[cQ _ _ DC,ma _ (Ne.symm F3),axY]
    have e:=aef (drawn G (λp=>ws.getD p 0) S.used 0 (G.L-i)) (show j<4 by omega) (G.leaf (λp=>ws.getD p 0) j (S.used+2*i),S.used+2*i)
    refine congrArg (λx=>some (Obj.cells x _ (0,0))) (e.trans (congrArg AE ?_))
    funext y
    unfold drawn
    by_cases c:y=j
    .subst c;rw[if_pos rfl,if_pos (by omega),Nat.add_zero,CT]
    .rw[if_neg c]
     by_cases aY:G.L-i<=y/\y<G.L
     .rw[if_pos aY,if_pos (by omega)]
     .rw[if_neg aY,if_neg (by omega)]
   .rw[cQ _ _ DD,ax0]
    have e:=aef (drawn G (λp=>ws.getD p 0) S.used 1 (G.L-i)) (show j<4 by omega) (G.leaf (λp=>ws.getD p 0) j (S.used+2*i+1),S.used+2*i+1)
    refine congrArg (λx=>some (Obj.cells x _ (0,0))) (e.trans (congrArg AE ?_))
    funext y
    unfold drawn
    by_cases c:y=j
    .subst c;rw[if_pos rfl,if_pos (by omega),CT]
    .rw[if_neg c]
     by_cases aY:G.L-i<=y/\y<G.L
     .rw[if_pos aY,if_pos (by omega)]
     .rw[if_neg aY,if_neg (by omega)]
  rintro _ ct ⟨bc,Ig,I8,ax1,g7,g8⟩
  rw[Nat.sub_self] at g7 g8
  refine⟨bc,bM λic cw f11 nW hn=>?_⟩
  have ael:=I8.loc mi (ia z none)
  have uB:=Ig.same (ah:=bA ct bP (ia z none)) λy aB=>cQ _ _ λe=>Hj (e▸aB)
  have f90:h ic=none:=ael.2.2 _ f11
  refine lu (ael.more hn) f90 nW rfl λbK N9 hQ gz=>?_
  have Hk:∀y,bA ct bP (ia z none) y≠none->bK y=bA ct bP (ia z none) y:=λy aB=>by rw[gz y λe=>aB (e▸f11),hn y aB]
  have lZ:=uB.same (ah:=bK) λy aB=>Hk y (uB.ml o aB)
  have yp:∀y,Y y->bK y=bW y:=λy aB=>by
   have e:bA ct bP (ia z none) y=bW y:=(cQ _ _ (DB y aB)).trans (ax1 y aB)
   rw[Hk y (by rw[e];exact mB y aB),e]
  have i7:bK eo=_:=(Hk eo (by rw[cQ _ _ DC,g7];simp)).trans ((cQ _ _ DC).trans g7)
  have i8:bK fG=_:=(Hk fG (by rw[cQ _ _ DD,g8];simp)).trans ((cQ _ _ DD).trans g8)
  have i1:=(yp ae (.inl rfl)).trans (mM.get g1)
  have i2:=(yp ay (.inr (.inl rfl))).trans (mM.get g2)
  have i3:=(yp aN (.inr (.inr (.inl rfl)))).trans (mM.get g3)
  have i4:=(yp bJ (.inr (.inr (.inr (.inl rfl))))).trans (mM.get g4)
  have i5:=(yp bZ (.inr (.inr (.inr (.inr (.inl rfl)))))).trans (mM.get g5)
  have i6:=(yp dC (.inr (.inr (.inr (.inr (.inr rfl)))))).trans (mM.get dE)
  let Z:Nat->Prop:=λy=>Y y∨y=eo∨y=fG∨y=ic
  have kg:∀y,Z y->bK y≠none:=by
   rintro y (aB|rfl|rfl|rfl)
   .rw[yp y aB];exact mB y aB
   .rw[i7];simp
   .rw[i8];simp
   .rw[hQ];simp
  have I7:∀y,Z y->h y=none:=by
   rintro y (aB|rfl|rfl|rfl)
   .exact zm y aB
   .exact f70
   .exact f80
   .exact f90
  have ax2:∀y,Z y->¬cH G B es gs y:=λy aB=>R.out o (I7 y aB)
  clear yp Hk g7 g8 aP
  have Qx:al ((G.L:Int)-1)=((G.L-1:Nat):Int):=by rw[bf (by omega) (by omega)];omega
  have vv:=(n0 o ai (h:=G.L-1)).1
  have sQ:=AO o ai
  refine⟨some ⟨B.cr,0⟩,az i1 rfl,_,rfl,_,az lZ.top rfl,some ⟨B.cr,0⟩,az i1 rfl,_,rfl,some ⟨B.m.b,0⟩,az lZ.top rfl,some ⟨B.cr,0⟩,az i1 rfl,_,rfl,_,az lZ.top rfl,_,az hQ rfl,rfl,?_⟩
  rw[Qx]
  refine(Li CS (az i3 rfl) (i:=G.L-1) (by omega) rfl).mono ?_
  rintro _ dI ⟨rfl,j9⟩
  have Lk:=lZ.bD o j9
  have Gk:=j9.get i1
  refine⟨_,rfl,⟨az Lk.top rfl,trivial⟩,⟨az Gk rfl,trivial⟩,⟨az Lk.top rfl,trivial⟩,⟨az Gk rfl,trivial⟩,?_⟩
  refine(aud Lk.mem st.q5 (cE x (G.L-1)) (by omega)).mono ?_
  rintro _ cu ⟨ih,rfl,CX,jF⟩
  rw[vv,if_pos (by rw[st.q6];exact sQ)]
  obtain⟨uk,CY⟩:=Lk.uL o CX jF
  obtain⟨Hl,ax3⟩:=l6 CY (λy aB=>by rw[j9 y (kg y aB)];exact kg y aB) ax2
  have Hl:∀y,Z y->cu y=bK y:=λy aB=>(Hl y aB).trans (j9 y (kg y aB))
  have CZ:=(N9.more j9).trans CY
  generalize s3:S.R G.f (x/4 ^ (G.L-1))=nH
  refine⟨nH,rfl,bM λo1 dM f15 oC jK=>?_⟩
  have f100:h o1=none:=CZ.2.2 _ f15
  refine fB (n:=12) (CZ.more jK) f100 oC rfl λcM xb q2 lh=>bM λjV dX f17 tg kF=>?_
  have f110:h jV=none:=xb.2.2 _ f17
  have aem:jV≠o1:=λe=>by rw[e,q2] at f17;cases f17
  have uZ:∀y,cu y≠none->dX y=cu y:=λy aB=>by
   have e:cM y=cu y:=by rw[lh y λe=>aB (e▸f15),jK y aB]
   rw[kF y (by rw[e];exact aB),e]
  have Su:∀y,Z y->dX y=bK y:=λy aB=>by rw[uZ y (by rw[Hl y aB];exact kg y aB),Hl y aB]
  have C0:=uk.same (ah:=dX) λy aB=>uZ y (uk.ml o aB)
  have az6:=X8 G S.used
  have xX:∀e j,j<G.L->drawn G (λp=>ws.getD p 0) S.used e 0 j=(G.leaf (λp=>ws.getD p 0) j (G.bH S.used j+e),G.bH S.used j+e):=λe j aV=>by unfold drawn;rw[if_pos ⟨Nat.zero_le _,aV⟩]
  have dP:=Hi ((Su eo (.inr (.inl rfl))).trans i7) (j:=G.L-1) (by omega)
  rw[xX 0 _ (by omega),Nat.add_zero] at dP
  refine⟨by omega,by omega,_,by rw[show Int.toNat ((G.L-1:Nat):Int)=G.L-1 by omega];exact dP.1,_,by rw[show Int.toNat ((G.L-1:Nat):Int)=G.L-1 by omega];exact dP.2,?_⟩
  have xV:=xj (w:=λp=>ws.getD p 0) o (G.L-1) (G.bH S.used (G.L-1))
  refine(aed (a:=G.leaf (λp=>ws.getD p 0) (G.L-1) (G.bH S.used (G.L-1))) (b:=G.bH S.used (G.L-1)) (by omega) (by omega)).to λeU oL=>⟨_,_,rfl,Int.NonNeg.mk 0,Int.NonNeg.mk 11,?_⟩
  have vT:eU jV=some (.cells (af.cells (.ws 12 e6)).toArray 56 (0,0)):=by rw[oL.get tg,BL];rfl
  have NY:=(xb.more kF).more oL
  refine mU NY f110 vT (i:=0) (by decide) λdy Kz nF p8=>⟨Int.NonNeg.mk 1,Int.NonNeg.mk 10,?_⟩
  refine mU Kz f110 nF (i:=1) (by decide) λeV KA xY pr=>?_
  rw[ab3] at xY
  have yW:∀y,dX y≠none->y≠jV->eV y=dX y:=λy aB aH=>by rw[pr y aH,p8 y aH,oL y aB]
  have ax4:¬cH G B ih gs jV:=λa_=>C0.ml o a_ |> λbV=>by
   have:=uk.ml o a_
   have e:=uZ jV this
   have ax5:cM jV=none:=f17
   have:cM jV=cu jV:=by rw[lh jV aem,jK jV this]
   rw[ax5] at this
   exact uk.ml o a_ this.symm
  have vV:=C0.same (ah:=eV) λy aB=>yW y (C0.ml o aB) λe=>ax4 (e▸aB)
  have ax6:∀y,Z y->y≠jV:=λy aB e=>by
   have Ll:cu y≠none:=by rw[Hl y aB];exact kg y aB
   have:cM y=cu y:=by rw[lh y λe=>Ll (e▸f15),jK y Ll]
   rw[e] at this;rw[this] at f17;rw[e] at Ll;exact Ll f17
  have AF:∀y,Z y->eV y=bK y:=λy aB=>by rw[yW y (by rw[Su y aB];exact kg y aB) (ax6 y aB),Su y aB]
  have ax7:eV o1=_:=(yW o1 (by rw[kF.get q2];simp) (Ne.symm aem)).trans (kF.get q2)
  have h_:=(AF ae (.inl (.inl rfl))).trans i1
  refine⟨some ⟨B.cr,0⟩,az h_ rfl,_,rfl,some ⟨B.m.b,0⟩,az vV.top rfl,some ⟨B.cr,0⟩,az h_ rfl,_,rfl,_,az vV.top rfl,_,az ((AF ic (.inr (.inr (.inr rfl)))).trans hQ) rfl,rfl,_,dv xY,?_⟩
  refine(Li CS (az ((AF aN (.inl (.inr (.inr (.inl rfl))))).trans i3) rfl) (i:=G.L-1) (by omega) rfl).mono ?_
  rintro _ gE ⟨rfl,l3⟩
  have Sv:=vV.bD o l3
  have m7:=l3.get h_
  refine⟨_,rfl,dv (l3.get xY),⟨az Sv.top rfl,trivial⟩,⟨az m7 rfl,trivial⟩,⟨az Sv.top rfl,trivial⟩,⟨az m7 rfl,trivial⟩,?_⟩
  refine(Mb 0).to λeA pR=>?_
  have Lm:=Sv.bD o pR
  have aen:=pR.get m7
  refine⟨_,rfl,dv ((l3.trans pR).get xY),⟨az Lm.top rfl,trivial⟩,⟨az aen rfl,trivial⟩,⟨az Lm.top rfl,trivial⟩,⟨az aen rfl,trivial⟩,?_⟩
  have qv:(reads (G.f:Int) (B.m.cf G.f)).length=B.m.cf G.f:=wG _ _
  have oD:=R.mem.cf G.f st.q5
  refine(TG Lm.mem st.q5 (cE x (G.L-1)) _ true (by simp only[List.length_append,qv];omega)).mono ?_
  rintro _ eP ⟨ds,rfl,vo,xv⟩
  rw[vv,if_pos ⟨by rw[st.q6];exact sQ,rfl⟩] at vo
  obtain⟨s4,xZ⟩:=Lm.uL o vo xv
  have ax8:¬cH G B ih gs o1:=uk.out o f15
  have aeo:=xZ.get (show eA o1=_ from (l3.trans pR).get ax7) ax8
  obtain⟨DE,ax9⟩:=l6 xZ (λy aB=>by rw[(l3.trans pR) y (by rw[AF y aB];exact kg y aB),AF y aB];exact kg y aB) ax3
  have DE:∀y,Z y->eP y=bK y:=λy aB=>by rw[DE y aB,(l3.trans pR) y (by rw[AF y aB];exact kg y aB),AF y aB]
  have xg:=((KA.more l3).more pR).trans xZ
  have s4:hH G ws B (G.begin (λp=>ws.getD p 0) (x/4 ^ (G.L-1)) S) _ ds gs eP:=s4
  obtain⟨KD,z2⟩:=Ed o hu (by omega) eJ sQ
  rw[s3] at z2
  have Gu:∀ {v p:UInt64} {oo j:Nat} {gJ:cU},sn G (λp=>ws.getD p 0) u0 oo j gJ v p->v.toNat<2 ^ 62:=λ{v p oo j gJ} c=>by
   by_cases bQ:v=0
   .rw[bQ];decide
   .have:=(c.oA bQ).1.val
    have:=xj (w:=λp=>ws.getD p 0) o j p.toNat
    omega
  have DA:=Gu z2
  refine⟨rfl,Int.NonNeg.mk 0,Int.NonNeg.mk 11,_,fb aeo (i:=0) (by decide),Int.NonNeg.mk 1,Int.NonNeg.mk 10,_,fb aeo (i:=1) (by decide),?_⟩
  refine(aec nH[0] nH[1] DA).to λfw tS=>⟨_,_,rfl,bM λnS fR f25 E7 aep=>?_⟩
  have f120:h nS=none:=(xg.more tS).2.2 _ f25
  refine lu ((xg.more tS).more aep) f120 E7 rfl λg_ aeq aer vw=>?_
  have aes:∀y,eP y≠none->g_ y=eP y:=λy aB=>by
   have e:fw y≠none:=by rw[tS y aB];exact aB
   rw[vw y λb4=>e (b4▸f25),aep y e,tS y aB]
  have yq:=s4.same (ah:=g_) λy aB=>aes y (s4.ml o aB)
  have Hm:∀y,Z y->g_ y=bK y:=λy aB=>by rw[aes y (by rw[DE y aB];exact kg y aB),DE y aB]
  have ax_:¬cH G B ds gs nS:=(s4.bD o tS).out o f25
  have h_:=(Hm ae (.inl (.inl rfl))).trans i1
  refine⟨some ⟨B.cr,0⟩,az h_ rfl,_,rfl,_,az yq.top rfl,_,az yq.top rfl,_,az yq.top rfl,_,az yq.top rfl,?_⟩
  refine(Sm g_).mono ?_
  rintro _ gO ⟨Jz,rfl,az7,aya,yr⟩
  refine⟨_,rfl,trivial,λhG h7 Hn nb=>⟨rfl,?_⟩⟩
  have Ho:h h7=none:=(aeq.more yr).2.2 _ Hn
  have aet:¬cH G B ds gs h7:=(yq.bD o yr).out o Hn
  have ayb:bL gO (bA gO h7 (eD hG)):=(bL.refl gO).bA Hn _
  have AG:∀y,Z y->y≠h7:=λy aB e=>by have aa:=yr y (by rw[Hm y aB];exact kg y aB);rw[e,Hn] at aa;have:=Hm y aB;rw[e] at this;rw[<-aa] at this;exact kg h7 (e▸aB) this.symm
  have Ln:nS≠h7:=λe=>by have:=yr.get aer;rw[e,Hn] at this;cases this
  have ayc:∀y,Z y->y≠nS:=λy aB e=>by
   have ayd:fw y≠none:=by rw[tS y (by rw[DE y aB];exact kg y aB),DE y aB];exact kg y aB
   exact ayd (e▸f25)
  have C1:c3 G (λp=>ws.getD p 0) op x S=jR G (λp=>ws.getD p 0) S.used op x (G.L-1) nH[0] nH[1] (G.begin (λp=>ws.getD p 0) (x/4 ^ (G.L-1)) S):=by rw[<-s3];rfl
  generalize hY:c3 G (λp=>ws.getD p 0) op x S=F
  rw[hY] at C1
  have ts:B.m.cf G.f=w5 G.m G.L:=st.q6
  generalize um:a7++reads (G.f:Int) (B.m.cf G.f)++writes (G.f:Int) (B.m.cf G.f)=pre at yq
  have atA:pre.length<=a7.length+3*4096:=by
   rw[<-um];simp only[List.length_append,qv,ru];omega
  refine(axT (L:=G.L) (q:=⟨Jz,0⟩) (y:=l0 h7) (by omega) (λi g=>i<G.L/\g h7=some (eD hG)/\∃(v p:UInt64) (gJ:cU) (oV:List de) (ys AH:ar),hH G ws B gJ oV ys AH g/\bT (cH G B es gs) h (cH G B ys AH) g/\(∀y,Z y->g y=bK y)/\(∀y,Z y->¬cH G B ys AH y)/\¬cH G B ys AH nS/\¬cH G B ys AH h7 /\
   g nS=some (.cells #[U ((v.toNat:Int)-1),U (al (p.toNat:Int))] 149 (0,0))/\jR G (λp=>ws.getD p 0) S.used op x (G.L-1-i) v p gJ=F/\kQ G (λp=>ws.getD p 0) u0 (G.bH S.used (G.L-1-i)+1) gJ/\sn G (λp=>ws.getD p 0) u0 (G.bH S.used (G.L-1-i)+1) (G.L-1-i) gJ v p/\gJ.gone.length=S.gone.length+i /\
   oV=pre++oc G.m G.s G.t G.L G.f ((gJ.gone.drop S.gone.length).map λy=>(y.1:Int)) i)
   (λg=>g h7=some (ps hG Code.ret)/\∃(b_:List de) (aW cN:ar),hH G ws B F.1 b_ aW cN g/\bT (cH G B es gs) h (cH G B aW cN) g/\¬cH G B aW cN h7/\(∃T,g bZ=some (.cells (af.cells (.ws 8 F.2.1)).toArray T (0,0)))/\(∃T,g dC=some (.cells #[.bool F.2.2] T (0,0))) /\
    b_=pre++oc G.m G.s G.t G.L G.f ((F.1.gone.drop S.gone.length).map λy=>(y.1:Int)) G.L)
   ⟨by omega,eH _ _ _,nH[0],nH[1],_,_,ds,gs,yq.same λy aB=>?_,(aeq.more yr).loc Ho _,λy aB=>?_,ax9,ax_,aet,?_,?_,KD,z2,rfl,?_⟩ (az (ayb.get aya) rfl) ?_).mono ?_
  .have df:y≠h7:=λe=>aet (e▸aB)
   rw[cQ _ _ df,yr y (yq.ml o aB)]
  .rw[cQ _ _ (AG y aB),yr y (by rw[Hm y aB];exact kg y aB),Hm y aB]
  .rw[cQ _ _ Ln,yr.get aer]
  .exact C1.symm
  .simp[oc]
  .rintro i g hi ⟨_,bc,v,p,gJ,oV,ys,AH,du,jY,aye,ayf,aeu,Sw,rv,tY,KE,x0,uj,od⟩
   refine⟨rfl,rfl,nb _ g _ bc ⟨bc,?_⟩⟩
   obtain⟨j,aV⟩:∃j:Nat,j=G.L-1-i:=⟨_,rfl⟩
   have Gr:(G.L:Int)-1-i=j:=by omega
   rw[Gr]
   rw[<-aV] at tY KE x0
   have CT:G.bH S.used j=S.used+2*i:=by unfold cG.bH;omega
   have Sr:=jY.loc Ho (dO hG)
   have Ss:hH G ws B gJ oV ys AH (bA g h7 (dO hG)):=du.same λy aB=>cQ _ _ λe=>Sw (e▸aB)
   have Lo:∀y,Z y->bA g h7 (dO hG) y=bK y:=λy aB=>(cQ _ _ (AG y aB)).trans (aye y aB)
   have Lp:bA g h7 (dO hG) nS=_:=(cQ _ _ Ln).trans rv
   have dJ:=Hi ((Lo fG (.inr (.inr (.inl rfl)))).trans i8) (j:=j) (by omega)
   rw[xX 1 j (by omega)] at dJ
   have k6:Int.toNat (j:Int)=j:=by omega
   rw[k6]
   refine⟨some ⟨B.cr,0⟩,az ((Lo ae (.inl (.inl rfl))).trans i1) rfl,_,az Lp rfl,_,az Lp rfl,by omega,by omega,_,dJ.1,_,dJ.2,?_⟩
   have QC:=Gu x0
   refine(axR o Ss (v:=v) (p:=p) QC (λbQ=>?_) (sp:=(G.leaf (λp=>ws.getD p 0) j (G.bH S.used j+1),G.bH S.used j+1)) (by omega)).mono ?_
   .have:=(x0.oA bQ).1.lt;omega
   rintro _ pz ⟨Sx,rfl,iS,km⟩
   obtain⟨gI,z7⟩:=wO o hu (by omega) KE x0 (by rw[uj,c_];omega)
   generalize Gv:fM v p (G.leaf (λp=>ws.getD p 0) j (G.bH S.used j+1),G.bH S.used j+1)=av at *
   obtain⟨qm,aev⟩:=l6 km (λy aB=>by rw[Lo y aB];exact kg y aB) ayf
   have qm:∀y,Z y->pz y=bK y:=λy aB=>(qm y aB).trans (Lo y aB)
   have Lq:=km.get Lp aeu
   have aew:=km.out (by rw[Lp];simp) aeu
   have nG:=km.get (show bA g h7 (dO hG) h7=_ from eH _ _ _) Sw
   have Lr:=km.out (show bA g h7 (dO hG) h7≠none by rw[eH];simp) Sw
   have Gx:=Sr.trans km
   have atC:oV.length<100050000000:=by
    have:=Nx e4 (G.f:Int) ((gJ.gone.drop S.gone.length).map λy=>(y.1:Int)) i
    rw[od,List.length_append];omega
   have vj:=n0 o ai (h:=j)
   have lvl:=iS.l_.len
   simp only[List.length_map,List.length_range] at lvl
   have aq:=(qm ae (.inl (.inl rfl))).trans i1
   have I1:=Hi ((qm eo (.inr (.inl rfl))).trans i7) (j:=j) (by omega)
   rw[xX 0 j (by omega),Nat.add_zero] at I1
   have az8:=xj (w:=λp=>ws.getD p 0) o j (G.bH S.used j)
   obtain⟨ph,s5,pS⟩:=iS.l_.at (i:=j) (by simp;omega)
   have ayg:((List.range G.L).map B.ba)[j]'(by simp;omega)=B.ba j:=by simp
   rw[ayg] at pS
   refine⟨_,rfl,?_⟩
   refine cd (λtI=>?_) λtI=>?_
   .have u7:j=0:=by omega
    subst u7
    have QQ:UInt64.ofNat x=cE x 0:=by unfold cE;simp
    refine⟨some ⟨B.cr,0⟩,az aq rfl,_,rfl,B.b2,az iS.top rfl,ph,s5,Int.NonNeg.mk 0,by omega,some ⟨B.ba 0,0⟩,pS,_,az ((qm ay (.inl (.inr (.inl rfl)))).trans i2) rfl,_,az ((qm aN (.inl (.inr (.inr (.inl rfl))))).trans i3) rfl,d,dv ((qm bJ (.inl (.inr (.inr (.inr (.inl rfl)))))).trans i4),Int.NonNeg.mk 0,Int.NonNeg.mk 3,_,I1.1,?_⟩
    rw[QQ]
    refine(Wx (o.gy 0) (st.o8 0 (by omega)) iS.mem (iS.gy 0 (by omega)) (iS.map 0 (by omega)) (iS.jv (.ba 0) _ ⟨by omega,rfl⟩) (iS.jv (.mp 0) _ ⟨by omega,rfl⟩) (av:=av.1) (to:=G.leaf (λp=>ws.getD p 0) 0 (G.bH S.used 0)) gI (G.o4 _ 0 _) (bi:=cE x 0) vj.2 (z7.mf 0 (by omega)) fY (by omega)).mono ?_
    rintro _ oU ⟨acm,rfl,QR,QS,ayh,QT,ayi,QU⟩
    obtain⟨pO,z8⟩:=iS.Gm o (i:=0) (by omega) QR QS ayh QT ayi QU
    obtain⟨Ls,aex⟩:=l6 z8 (λy aB=>by rw[qm y aB];exact kg y aB) aev
    have Ls:∀y,Z y->oU y=bK y:=λy aB=>(Ls y aB).trans (qm y aB)
    have z5:Z bZ:= .inl (.inr (.inr (.inr (.inr (.inl rfl)))))
    have lN:Z dC:= .inl (.inr (.inr (.inr (.inr (.inr rfl)))))
    have n65:dC≠bZ:=λe=>by rw[e,cy] at f6;cases f6
    have qT:=z8.get nG Lr
    have aey:=z8.out (by rw[nG];simp) Lr
    have QV:F=(G.acc 0 op (cE x 0) av.1 (G.leaf (λp=>ws.getD p 0) 0 (G.bH S.used 0)) { gJ with gone:=gJ.gone++[av] },G.old 0 (cE x 0) av.1 { gJ with gone:=gJ.gone++[av] }):=by rw[<-tY,<-Gv];rfl
    subst QV
    refine⟨_,_,rfl,fB (n:=8) (Gx.trans z8) f50 ((Ls bZ z5).trans i5) rfl λrR z1 QW GB=>lu z1 f60 ((GB _ n65).trans ((Ls dC lN).trans i6)) rfl λfp St ayj ma=>?_⟩
    have Lt:=AG bZ z5
    have Lu:=AG dC lN
    refine⟨(ma _ (Ne.symm Lu)).trans ((GB _ (Ne.symm Lt)).trans qT),.inr ⟨rfl,eH _ _ _,oV++ob (G.d_ 0).k (G.d_ 0).s (G.d_ 0).t (G.base 0) av.1,acm,Sx,?_,St.loc Ho _,aey,⟨100,?_⟩,⟨4,?_⟩,?_⟩⟩
    .exact pO.same λy aB=>by
      have aR:y≠bZ:=λe=>aex bZ z5 (e▸aB)
      have bp:y≠dC:=λe=>aex dC lN (e▸aB)
      have ag:y≠h7:=λe=>aey (e▸aB)
      rw[cQ _ _ ag,ma y bp,GB y aR]
    .rw[cQ _ _ Lt,ma _ (Ne.symm n65)];exact QW
    .rw[cQ _ _ Lu];exact ayj
    .rw[od,KL (j:=0) uj (by omega),show i+1=G.L by omega];rfl
   .obtain⟨cT,rfl⟩:∃cT,j=cT+1:=⟨j-1,by omega⟩
    have QD:al (((cT+1:Nat):Int)-1)=(cT:Nat):=by rw[bf (by omega) (by omega)];omega
    rw[QD]
    have a3:=(qm aN (.inl (.inr (.inr (.inl rfl))))).trans i3
    have a9:=(qm ic (.inr (.inr (.inr rfl)))).trans hQ
    refine⟨_,az a9 rfl,rfl,?_⟩
    refine(Li CS (az a3 rfl) (i:=cT) (by omega) rfl).mono ?_
    rintro _ oU ⟨rfl,qT⟩
    refine⟨_,rfl,(by decide),bM λvF rY f13 mG s6=>⟨by omega,by omega,?_⟩⟩
    have aez:=qT.trans s6
    have f130:h vF=none:=Gx.2.2 _ (qT.free f13)
    have ayk:Int.toNat (cT:Int)=cT:=by omega
    rw[ayk]
    have gm:=Hi (aez.get ((qm eo (.inr (.inl rfl))).trans i7)) (j:=cT) (by omega)
    rw[xX 0 cT (by omega),Nat.add_zero] at gm
    have az9:=xj (w:=λp=>ws.getD p 0) o cT (G.bH S.used cT)
    have az_:G.bH S.used cT<1000000000100:=by unfold cG.bH;omega
    refine⟨_,gm.1,_,gm.2,?_⟩
    refine(aed (a:=G.leaf (λp=>ws.getD p 0) cT (G.bH S.used cT)) (b:=G.bH S.used cT) (by omega) (by omega)).to λCW Hp=>⟨_,_,rfl,Int.NonNeg.mk 0,Int.NonNeg.mk 7,?_⟩
    have ayl:CW vF=some (.cells (af.cells (.ws 8 jB)).toArray 100 (0,0)):=by rw[Hp.get mG];rfl
    refine mU ((Gx.more aez).more Hp) f130 ayl (i:=0) (by decide) λKv QF aym s0=>⟨Int.NonNeg.mk 1,Int.NonNeg.mk 6,?_⟩
    refine mU QF f130 aym (i:=1) (by decide) λC2 Gw aeA KJ=>?_
    have AI:∀y,pz y≠none->C2 y=pz y:=λy aB=>by
     have aa:oU y=pz y:=qT y aB
     have df:y≠vF:=λe=>by rw[e] at aa aB;rw[f13] at aa;exact aB aa.symm
     rw[KJ y df,s0 y df,Hp y (by rw[s6 y (by rw[aa];exact aB),aa];exact aB),s6 y (by rw[aa];exact aB),aa]
    have x1:=iS.same (ah:=C2) λy aB=>AI y (iS.ml o aB)
    have yt:∀y,Z y->C2 y=bK y:=λy aB=>by rw[AI y (by rw[qm y aB];exact kg y aB),qm y aB]
    have y4:=(yt ae (.inl (.inl rfl))).trans i1
    have qH:=(yt aN (.inl (.inr (.inr (.inl rfl))))).trans i3
    have Sy:=Hi ((yt eo (.inr (.inl rfl))).trans i7) (j:=cT+1) (by omega)
    rw[xX 0 (cT+1) (by omega),Nat.add_zero] at Sy
    have aeB:br C2 ph.b (ph.o+(cT+1))=some (bg ⟨B.ba (cT+1),0⟩):=by rw[qG (AI ph.b (w2 pS)),pS]
    have aAa:¬cH G B ys Sx vF:=(iS.bD o qT).out o f13
    refine⟨some ⟨B.cr,0⟩,az y4 rfl,_,rfl,B.b2,az x1.top rfl,ph,s5,by omega,by omega,some ⟨B.ba (cT+1),0⟩,by rw[Nat.mul_one];exact aeB,_,az ((yt ic (.inr (.inr (.inr rfl)))).trans hQ) rfl,rfl,_,dv aeA,by omega,by omega,_,Sy.1,?_⟩
    refine(Li CS (az qH rfl) (i:=cT+1) (by omega) rfl).mono ?_
    rintro _ aeC ⟨rfl,uC⟩
    have uB:=x1.bD o uC
    refine⟨_,rfl,⟨uC.cell Sy.1,trivial⟩,dv (uC.get aeA),⟨by rw[Nat.mul_one];exact uC.cell aeB,trivial⟩,⟨az uB.top rfl,trivial⟩,⟨az (uC.get y4) rfl,trivial⟩,?_⟩
    have oH:=(n0 o ai (h:=cT)).1
    generalize aj:x/4 ^ cT%4=i_
    have ng:i_<4:=by rw[<-aj];exact Nat.mod_lt _ (by decide)
    have QI:al (al ((cE x cT%4).toNat:Int)*2)=((2*i_:Nat):Int):=by
     have aF:(cE x cT%4).toNat=i_:=by
      rw[UInt64.toNat_mod,oH,<-aj];rfl
     rw[aF,bf (n:=(i_:Int)) (by omega) (by omega),bf (by omega) (by omega)];omega
    rw[QI]
    have QJ:al (((2*i_:Nat):Int)+1)=((2*i_+1:Nat):Int):=by rw[bf (by omega) (by omega)];omega
    rw[QJ]
    refine(Wx (o.gy (cT+1)) (st.o8 (cT+1) (by omega)) uB.mem (uB.gy (cT+1) (by omega)) (uB.map (cT+1) (by omega)) (uB.jv (.ba (cT+1)) _ ⟨by omega,rfl⟩) (uB.jv (.mp (cT+1)) _ ⟨by omega,rfl⟩) (av:=av.1) (to:=G.leaf (λp=>ws.getD p 0) (cT+1) (G.bH S.used (cT+1))) gI (G.o4 _ (cT+1) _) (bi:=cE x (cT+1)) vj.2 (z7.mf (cT+1) (by omega))
     (op:= .part (2*i_) (UInt64.ofNat (G.leaf (λp=>ws.getD p 0) cT (G.bH S.used cT)+1)) (UInt64.ofNat (G.bH S.used cT))) ⟨rfl,rfl,by omega,by simp,by simp⟩ (by omega)).mono ?_
    rintro _ C4 ⟨ach,rfl,QK,QL,ayn,QM,ayo,QN⟩
    obtain⟨Gy,vW⟩:=uB.Gm o (i:=cT+1) (by omega) QK QL ayn QM ayo QN
    obtain⟨Lv,ayp⟩:=l6 vW (λy aB=>by rw[uC y (by rw[yt y aB];exact kg y aB),yt y aB];exact kg y aB) aev
    have Lv:∀y,Z y->C4 y=bK y:=λy aB=>by rw[Lv y aB,uC y (by rw[yt y aB];exact kg y aB),yt y aB]
    have aeD:aeC h7=_:=(uC h7 (by rw[AI h7 (by rw[nG];simp),nG];simp)).trans ((AI h7 (by rw[nG];simp)).trans nG)
    have aeE:aeC nS=_:=(uC nS (by rw[AI nS (by rw[Lq];simp),Lq];simp)).trans ((AI nS (by rw[Lq];simp)).trans Lq)
    have aeF:=vW.get aeD Lr
    have aeG:=vW.out (by rw[aeD];simp) Lr
    have aeH:=vW.get aeE aew
    have aeI:=vW.out (by rw[aeE];simp) aew
    have GA:=(Gw.more uC).trans vW
    obtain⟨QO,C5⟩:=Ec o (u0:=u0) (u:=S.used) (h:=cT) (q1:=i_) (by omega) ng (by omega) hu z7 (id:=cE x (cT+1)) vj.2 gI (G.o4 (λp=>ws.getD p 0) (cT+1) (G.bH S.used (cT+1)))
    refine⟨_,_,rfl,bM λFH atJ f14 uW C6=>?_⟩
    have f140:h FH=none:=GA.2.2 _ f14
    refine fB (n:=8) (GA.more C6) f140 uW rfl λaci QP aeJ KK=>?_
    refine⟨by omega,by omega,_,by rw[show 0+Int.toNat ((2*i_:Nat):Int)*1=2*i_ by omega];exact fb aeJ (by omega),by omega,by omega,_,by rw[show 0+Int.toNat ((2*i_+1:Nat):Int)*1=2*i_+1 by omega];exact fb aeJ (by omega),?_⟩
    have jg:=Gu C5
    rw[vX _ (by omega),vX _ (by omega)] at C5
    rw[vX _ (by omega)] at jg
    refine(aec _ _ jg).to λayq aeK=>⟨_,_,rfl,?_⟩
    have Lw:∀y,C4 y≠none->ayq y=C4 y:=λy aB=>by
     have e:aci y=C4 y:=by rw[KK y λe=>aB (e▸f14),C6 y aB]
     rw[aeK y (by rw[e];exact aB),e]
    have ayr:=(Lw nS (by rw[aeH];simp)).trans aeH
    refine lu (QP.more aeK) f120 ayr rfl λaAb ays ayt Sz=>⟨(Sz _ (Ne.symm Ln)).trans ((Lw h7 (by rw[aeF];simp)).trans aeF),.inl ⟨rfl,by omega,eH _ _ _,(G.old (cT+1) (cE x (cT+1)) av.1 { gJ with gone:=gJ.gone++[av] }).1[2*i_],(G.old (cT+1) (cE x (cT+1)) av.1 { gJ with gone:=gJ.gone++[av] }).1[2*i_+1],G.acc (cT+1) (.part (2*i_) (UInt64.ofNat (G.leaf (λp=>ws.getD p 0) cT (G.bH S.used cT)+1)) (UInt64.ofNat (G.bH S.used cT))) (cE x (cT+1)) av.1 (G.leaf (λp=>ws.getD p 0) (cT+1) (G.bH S.used (cT+1))) { gJ with gone:=gJ.gone++[av] },oV++ob (G.d_ (cT+1)).k (G.d_ (cT+1)).s (G.d_ (cT+1)).t (G.base (cT+1)) av.1,ach,Sx,?_,ays.loc Ho _,λy aB=>?_,ayp,aeI,aeG,?_,?_,?_,?_,?_,?_⟩⟩
    .exact Gy.same λy aB=>by
      have aR:y≠nS:=λe=>aeI (e▸aB)
      have ag:y≠h7:=λe=>aeG (e▸aB)
      rw[cQ _ _ ag,Sz y aR,Lw y (Gy.ml o aB)]
    .rw[cQ _ _ (AG y aB),Sz y (ayc y aB),Lw y (by rw[Lv y aB];exact kg y aB),Lv y aB]
    .rw[cQ _ _ Ln];exact ayt
    .rw[show G.L-1-(i+1)=cT by omega,<-vX _ (show 2*i_<8 by omega),<-vX _ (show 2*i_+1<8 by omega),<-tY,<-Gv,<-aj];rfl
    .rw[show G.L-1-(i+1)=cT by omega];exact QO
    .rw[show G.L-1-(i+1)=cT by omega];exact C5
    .show(gJ.gone++[av]).length=_;rw[List.length_append,uj];simp;omega
    .rw[od,KL (j:=cT+1) uj (by omega)];rfl
  rintro _ hj (⟨ag3,_⟩|⟨lQ,b_,aW,cN,x1,Gw,ayu,⟨aAc,tm⟩,⟨va,yM⟩,od⟩)
  .omega
  have Lt:=AG bZ (.inl (.inr (.inr (.inr (.inr (.inl rfl))))))
  have Lu:=AG dC (.inl (.inr (.inr (.inr (.inr (.inr rfl))))))
  refine .inl ⟨lQ,F.2.1,dv ((cQ _ _ Lt).trans tm),F.2.2,az ((cQ _ _ Lu).trans yM) rfl,b_,aW,cN,rfl,x1.same λy aB=>cQ _ _ λe=>ayu (e▸aB),Gw.loc Ho _,?_⟩
  rw[od,<-um,ts]
  unfold qw
  simp only[List.append_assoc]
end
end Go.Proofs.Tryz
namespace Go.Proofs.Tryz
open Go Go.cD Go.RowKit
set_option maxRecDepth 8000
section
variable {G:cG} {ws:List UInt64} {B:jy} {S:cU} {a7:List de} {es gs:ar} {h:ak}
theorem ajk (o:G.da)(R:hH G ws B S a7 es gs h):ao 13 [bg ⟨B.cr,0⟩] h λv ah=>v= .bool ((List.range G.L).any S.over)/\ah=h:=by
 have dY:=o.L
 have aT:=R.l_.len
 simp only[List.length_map,List.length_range] at aT
 refine lI _ ?_
 unfold Yn
 refine⟨_,az R.top rfl,?_⟩
 refine anX _ _ ?_
 unfold Y9
 refine ao3 _ _ ?_
 unfold ZC
 refine⟨λs1 v1 aw aA g k=>B.b2=s1/\v1= .func (.func 49) #[] #[]/\aw=(G.L:Nat)/\∃i:Nat,aA=i/\i<=G.L/\k=G.L-i/\g=h/\(List.range i).any S.over=false,⟨G.L,rfl,rfl,by rw[aT],0,rfl,by omega,rfl,rfl,rfl⟩,?_⟩
 rintro s1 v1 aw aA g k ⟨rfl,rfl,rfl,i,rfl,hi,rfl,rfl,n4⟩
 refine cd (λca=>?_) λdx=>?_
 .have b5:i<G.L:=by omega
  refine R.l_.cp (i:=i) (by simpa using b5) λq _ aZ=>?_
  have e:((List.range G.L).map B.ba)[i]'(by simpa using b5)=B.ba i:=by simp
  rw[e] at aZ
  refine⟨some ⟨B.ba i,0⟩,aZ,rfl,?_⟩
  refine(afd (R.gy i b5) rfl).mono ?_
  rintro _ _ ⟨rfl,rfl⟩
  refine⟨_,rfl,h4 (λbw=>?_) λbw=>?_⟩
  .refine⟨_,rfl,_,rfl,?_,rfl⟩
   rw[decide_eq_true (show(0:Int)<=(i:Int) by omega)]
   have:(List.range G.L).any S.over=true:=List.any_eq_true.2 ⟨i,List.mem_range.2 b5,bw⟩
   rw[this]
  .refine⟨G.L-(i+1),by omega,rfl,rfl,rfl,i+1,bf (by omega) (by omega),by omega,rfl,rfl,?_⟩
   rw[List.range_succ,List.any_append,n4];simpa using bw
 .have b5:i=G.L:=by omega
  subst b5
  refine⟨_,rfl,_,rfl,?_,rfl⟩
  rw[n4];rfl
end

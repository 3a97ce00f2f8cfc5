import Derived.Test.YtofgadhgljjhgaaGreatCuk
namespace Go.cD
open Go.Proofs.Tryz
def j8 (d:c0):Prop:=d=fL (m3 d)∨d=jB
def nE (P:db)(M:dF):Prop:=∀r i,l2 P r i->dU (M r i)=true->j8 (jX (M r i))
theorem j8.e (e:gr):j8 (fL e):= .inl (by
 have h:=LJ e
 unfold hW at h
 rw[if_pos (show(fL e)[0]=1 from rfl)] at h
 rw[Option.some.inj h])
theorem j8.one {d:c0}(q:j8 d)(h:d[0]=1):d=fL (m3 d):=q.elim id λe=>by rw[e] at h;cases h
theorem agI {P:db}(o:P.da){id:UInt64}{av:Nat}{M:dF}(q:nE P M)(a_:av<2 ^ P.k):j8 (jH P id av M).1:=by
 unfold jH
 rcases Mw (id:=id) (f:=eZ P av M) P.m with h|⟨p,aS,au,_,h⟩
 .rw[h];exact .inr rfl
 .rw[h];exact q _ _ (mr o a_ aS) au
theorem agJ {P:db}(o:P.da){op:fg}{id:UInt64}{av to:Nat}{M:dF}(w:qA P M)(q:nE P M)(a_:av<2 ^ P.k)(bw:to<2 ^ P.k)(ho:id.toNat<=2147483648)(fY:∀x,op.now (jH P id av M).1 (jH P id av M).2=some x->j8 x):nE P (k8 P op id av to M):=by
 intro r i bQ au
 have dR:=yN o (op:=op) w a_ bw ho
 obtain⟨g,pK,_⟩:=Ea o av _ dR
 rcases yO o (op:=op) (id:=id) (to:=to) a_ M bQ with ⟨p,aS,_,e⟩|⟨_,e⟩
 .rw[e] at au ⊢
  rw[o2] at au
  rw[H3]
  obtain⟨_,ad,an,_⟩:=pK.bl p (tq o aS) au
  obtain⟨_,_,_,f3⟩:=Eb an
  rw[f3]
  generalize g p=z at ad ⊢
  unfold ib ku at ad ⊢
  by_cases aQ:z<P.m
  .rw[if_pos aQ] at ad ⊢
   unfold strip at ad ⊢
   split at ad
   .cases ad
   .rename_i c
    rw[if_neg c]
    exact q _ _ (mr o a_ aQ) ad
  .rw[if_neg aQ] at ad ⊢
   by_cases aY:z=P.m
   .rw[if_pos aY] at ad ⊢
    cases aH:op.now (jH P id av M).1 (jH P id av M).2 with
    | none=>rw[aH] at ad;cases ad
    | some x =>
     show j8 (jX (la id (UInt64.ofNat to) x))
     rw[Mx];exact fY x aH
   .rw[if_neg aY] at ad;cases ad
 .rw[e] at au ⊢;exact q r i bQ au
theorem nE.view {P:db}{M jI:dF}(q:nE P M)(h:∀r i,r<3->jI r i=M r i):nE P jI:=λr i bQ au=>by
 have aP:r<3:=by rcases bQ with ⟨h,_⟩|⟨h,_⟩<;>omega
 rw[h r i aP] at au ⊢;exact q r i bQ au
variable {G:cG} {w:Nat->UInt64}
theorem Uh (o:G.da){u0 a u:Nat}(hu:u=u0+2*G.L*a)(o3:u+2*G.L<2 ^ 63){op:fg}{x:Nat}(ai:x<2 ^ G.m)(fY:∀old there y,j8 old->op.now old there=some y->j8 y):∀h v p S,h<G.L->kQ G w u0 (G.bH u h+1) S->sn G w u0 (G.bH u h+1) h S v p->S.gone.length=G.L*a+(G.L-1-h)->nE (G.d_ 0) (G.b2 0 S.R) ->
 nE (G.d_ 0) (G.b2 0 (jR G w u op x h v p S).1.R)/\j8 (jR G w u op x h v p S).2.1
 | 0,v,p,S,bR,eJ,c,hlen,q=>by
  obtain⟨aa,ad⟩:=wO o hu bR eJ c hlen
  have pP:=agI (o.gy 0) (id:=cE x 0) q aa
  have agK:=agJ (o.gy 0) (op:=op) (to:=G.leaf w 0 (G.bH u 0)) (ad.mf 0 bR) q aa (G.o4 w 0 _) (n0 o ai).2 λy aB=>fY _ _ y pP aB
  exact⟨agK.view λr i aP=>H4 aP,pP⟩
 | h+1,v,p,S,bR,eJ,c,hlen,q=>by
  obtain⟨aa,ad⟩:=wO o hu bR eJ c hlen
  have au:G.bH u h<2 ^ 63:=by unfold cG.bH;omega
  obtain⟨gX,h9⟩:=Ec o bR (q1:=x/4 ^ (h+1-1)%4) (Nat.mod_lt _ (by decide)) au hu ad (id:=cE x (h+1)) (to:=G.leaf w (h+1) (G.bH u (h+1))) (n0 o ai).2 aa (G.o4 w (h+1) _)
  refine Uh o hu o3 ai fY h _ _ _ (by omega) gX h9 (by show(S.gone++[_]).length=_;rw[List.length_append,hlen];simp;omega) (q.view λr i aP=>?_)
  show lp (G.base (h+1)) S.R _ (G.base 0+r) i=S.R (G.base 0+r) i
  unfold lp cG.base
  rw[if_neg (by omega)]
theorem agL (o:G.da){a:Nat}{S:cU}(p:h3 G w a S)(bO:a<=100000){op:fg}{x:Nat}(ai:x<2 ^ G.m)(fY:∀old there y,j8 old->op.now old there=some y->j8 y)(q:nE (G.d_ 0) (G.b2 0 S.R)) :
 nE (G.d_ 0) (G.b2 0 (c3 G w op x S).1.R)/\j8 (c3 G w op x S).2.1:=by
 have dY:=o.L
 have aa:2*G.L*a<=2*4*100000:=Nat.mul_le_mul (by omega) bO
 have hu:=p.us
 obtain⟨s1,s2⟩:=Ed o p.us (by omega) p.eJ (AO o ai)
 refine Uh o p.us (by omega) ai fY (G.L-1) _ _ _ (by omega) s1 s2 (by show S.gone.length=_;have:=p.oy;omega) (q.view λr i aP=>?_)
 show fA S.R (G.f,_) _ (G.base 0+r) i=_
 unfold fA cG.base
 rw[if_neg (by simp;omega)];rfl
theorem nE.zero {P:db}{M:dF}(h:∀r i,M r i=e6):nE P M:=λr i _ au=>by rw[h] at au;cases au

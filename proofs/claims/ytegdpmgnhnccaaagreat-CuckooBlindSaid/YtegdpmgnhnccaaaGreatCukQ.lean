import Derived.Test.YtegdpmgnhnccaaaGreatCuk
namespace Go.cR
open Go.Proofs.Tryz
def kC (d:c_):Prop:=d=gb (nB d)∨d=j7
def oe (P:dx)(M:dY):Prop:=∀r i,mA P r i->ei (M r i)=true->kC (kr (M r i))
theorem kC.e (e:gN):kC (gb e):= .inl (by
 have h:=Nf e;unfold ix at h;rw[aDr (show(gb e)[0]=1 from rfl)] at h;rw[aDX h])
theorem kC.one {d:c_}(q:kC d)(h:d[0]=1):d=gb (nB d):=q.elim id λe=>by rw[e] at h;cases h
theorem ai1 {P:dx}(o:P.dt){id:aE}{aw:Nat}{M:dY}(q:oe P M)(bc:aw<2 ^ P.k):kC (kd P id aw M).1:=by
 unfold kd;rcases N9 (id:=id) (f:=fg P aw M) P.m with h|⟨p,aP,ar,_,h⟩
 .rw[h];exact .inr rfl
 .rw[h];exact q _ _ (mX o bc aP) ar
theorem ai2 {P:dx}(o:P.dt){op:fv}{id:aE}{aw to:Nat}{M:dY}(w:rl P M)(q:oe P M)(bc:aw<2 ^ P.k)(bG:to<2 ^ P.k)(hO:id.toNat<=2147483648)(fV:∀x,op.now (kd P id aw M).1 (kd P id aw M).2=some x->kC x):oe P (lI P op id aw to M):=by
 intro r i b0 ar;have ef:=zL o (op:=op) w bc bG hO;obtain⟨g,qn,_⟩:=Fi o aw _ ef;rcases zM o (op:=op) (id:=id) (to:=to) bc M b0 with ⟨p,aP,_,e⟩|⟨_,e⟩
 .rw[e] at ar ⊢;rw[pL] at ar;rw[Jn];obtain⟨_,ad,an,_⟩:=qn.bp p (uv o aP) ar;obtain⟨_,_,_,f3⟩:=Fj an;rw[f3];generalize g p=z at ad ⊢;unfold iP kV at ad ⊢;by_cases aS:z<P.m
  .rw[aDr aS] at ad ⊢;unfold strip at ad ⊢;split at ad
   .cases ad
   .rename_i c
    rw[aDq c];exact q _ _ (mX o bc aS) ad
  .rw[aDq aS] at ad ⊢;by_cases aY:z=P.m
   .rw[aDr aY] at ad ⊢;cases aK:op.now (kd P id aw M).1 (kd P id aw M).2 with
    | none=>rw[aK] at ad;cases ad
    | some x =>
     show kC (kr (lN id (UInt64.ofNat to) x));rw[N_];exact fV x aK
   .rw[aDq aY] at ad;cases ad
 .rw[e] at ar ⊢;exact q r i b0 ar
theorem oe.view {P:dx}{M ke:dY}(q:oe P M)(h:∀r i,r<3->ke r i=M r i):oe P ke:=λr i b0 ar=>by
 have aQ:r<3:=by rcases b0 with ⟨h,_⟩|⟨h,_⟩<;>omega
 rw[h r i aQ] at ar ⊢;exact q r i b0 ar
variable {G:cq} {w:Nat->aE}
theorem V2 (o:G.dt){u0 a u:Nat}(hu:u=u0+2*G.L*a)(pM:u+2*G.L<2 ^ 63){op:fv}{x:Nat}(ai:x<2 ^ G.m)(fV:∀old there y,kC old->op.now old there=some y->kC y):∀h v p S,h<G.L->lk G w u0 (G.bQ u h+1) S->s5 G w u0 (G.bQ u h+1) h S v p->S.gone.length=G.L*a+(G.L-1-h)->oe (G.ew 0) (G.bV 0 S.R) ->
 oe (G.ew 0) (G.bV 0 (kl G w u op x h v p S).1.R)/\kC (kl G w u op x h v p S).2.1
 | 0,v,p,S,b2,e2,c,hlen,q=>by
  obtain⟨aa,ad⟩:=xJ o hu b2 e2 c hlen;have qt:=ai1 (o.gS 0) (id:=cT x 0) q aa;have ai3:=ai2 (o.gS 0) (op:=op) (to:=G.leaf w 0 (G.bQ u 0)) (ad.mQ 0 b2) q aa (G.pN w 0 _) (oM o ai).2 λy aC=>fV _ _ y qt aC;exact⟨ai3.view λr i aQ=>Jo aQ,qt⟩
 | h+1,v,p,S,b2,e2,c,hlen,q=>by
  obtain⟨aa,ad⟩:=xJ o hu b2 e2 c hlen;have ar:G.bQ u h<2 ^ 63:=by unfold cq.bQ;omega
  obtain⟨ho,iz⟩:=Fk o b2 (q1:=x/4 ^ (h+1-1)%4) (aEk _ (by decide)) ar hu ad (id:=cT x (h+1)) (to:=G.leaf w (h+1) (G.bQ u (h+1))) (oM o ai).2 aa (G.pN w (h+1) _);refine V2 o hu pM ai fV h _ _ _ (by omega) ho iz (by show(S.gone++[_]).length=_;rw[aDs,hlen];simp;omega) (q.view λr i aQ=>?_);show lV (G.base (h+1)) S.R _ (G.base 0+r) i=S.R (G.base 0+r) i;unfold lV cq.base;rw[cS]
theorem ai4 (o:G.dt){a:Nat}{S:c7}(p:iE G w a S)(bY:a<=100000){op:fv}{x:Nat}(ai:x<2 ^ G.m)(fV:∀old there y,kC old->op.now old there=some y->kC y)(q:oe (G.ew 0) (G.bV 0 S.R)) :
 oe (G.ew 0) (G.bV 0 (de G w op x S).1.R)/\kC (de G w op x S).2.1:=by
 have eg:=o.L;have aa:2*G.L*a<=2*4*100000:=aDP (by omega) bY;have hu:=p.us;obtain⟨s1,s2⟩:=Fl o p.us (by omega) p.e2 (BQ o ai);refine V2 o p.us (by omega) ai fV (G.L-1) _ _ _ (by omega) s1 s2 (by show S.gone.length=_;have:=p.n5;omega) (q.view λr i aQ=>?_);show fM S.R (G.f,_) _ (G.base 0+r) i=_;unfold fM cq.base;rw[aDq (by simp;omega)];rfl
theorem oe.zero {P:dx}{M:dY}(h:∀r i,M r i=fm):oe P M:=λr i _ ar=>by rw[h] at ar;cases ar

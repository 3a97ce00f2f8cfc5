import Derived.Test.YtegdpmgnhnccaaaGreatRefK
import Derived.Test.YtegdpmgnhnccaaaGreatRefU
namespace Go.Proofs.Tryz
open Go Go.cR Go.RowKit
set_option maxRecDepth 8000
theorem cW.JB:cW.nil.n=0:=rfl
theorem cW.Jz (l:cW):l.rd.n=l.n+1:=rfl
theorem cW.JA (l:cW):l.wr.n=l.n+1:=rfl
structure lK (h0:ak)(G:cq)(ws:List aE)(B:j4)(X:eE)(x:km)(C:mn)(y:km)(a:Nat)(e:cW)(S:c7)(a8:List dk)(es gs:ao)(V:j5)(h:ak):Prop where
 I:gw G ws B X x a e S a8 es gs h
 Q:gQ G ws C X y a e S a8 V h
 d:∀z,cV G B es gs z∨z=x.cP->¬(dh C G.L V z∨z=y.cP)
 p0:∀z,cV G B es gs z∨z=x.cP->h0 z=none
 gU:∀z,dh C G.L V z∨z=y.cP->h0 z=none
 l2:∀q,C.ed.q=some q->0<ws.length->h0 q.b≠none
 K:bL h0 h
section
variable {h0:ak} {G:cq} {ws:List aE} {B:j4} {X:eE} {x:km} {C:mn} {y:km} {a:Nat} {e:cW} {S:c7} {a8:List dk} {es gs:ao} {V:j5} {h af:ak}
theorem gQ.same (R:gQ G ws C X y a e S a8 V h)(aV:∀z,dh C G.L V z∨z=y.cP->af z=h z)(hw:∀q,C.ed.q=some q->0<ws.length->af q.b=h q.b):gQ G ws C X y a e S a8 V af :=
 ⟨R.r.same (λz bn=>aV z (.inl bn)) hw,R.p,R.oa,R.oI,(aV _ (.inr rfl)).trans R.cA,R.ju,R.ta,R.q,R.xT⟩
theorem lK.prog (T:lK h0 G ws B X x C y a e S a8 es gs V h)(F:ll G B X x)(E:lW G C X y){eh:Nat}{cc:cW}{mq:c7}{cm:List dk}{aX c0:ao}(I:gw G ws B X x eh cc mq cm aX c0 af)(v:bT (cV G B es gs) h (cV G B aX c0) af) :
 gQ G ws C X y a e S a8 V af/\(∀z,cV G B aX c0 z∨z=x.cP->¬(dh C G.L V z∨z=y.cP))/\(∀z,cV G B aX c0 z∨z=x.cP->h0 z=none)/\bL h0 af:=by
 have nw:∀z,h0 z≠none->¬cV G B es gs z:=λz bn aV=>bn (T.p0 z (.inl aV));have bX:bL h0 af:=λz bn=>by rw[v.2.1 z (by rw[T.K z bn];exact bn) (nw z bn),T.K z bn]
 refine⟨T.Q.same (λz bn=>v.2.1 z (T.Q.dK E bn) λaV=>T.d z (.inl aV) bn) λq aj aT=>?_,λz bn aj=>?_,λz bn=>?_,bX⟩
 .have:=T.l2 q aj aT;rw[bX _ this,T.K _ this]
 .rcases bn with bn|bn
  .rcases v.1 z bn with aa|aa
   .exact T.d z (.inl aa) aj
   .exact T.Q.dK E aj aa
  .exact T.d z (.inr bn) aj
 .rcases bn with bn|bn
  .rcases v.1 z bn with aa|aa
   .exact T.p0 z (.inl aa)
   .exact T.K.free aa
  .exact T.p0 z (.inr bn)
theorem lK.Nz {aa:ak}(T:lK h0 G ws B X x C y a e S a8 es gs V h)(F:ll G B X x){eh:Nat}{cc:cW}{mq:c7}{cm fe:List dk}{aX c0:ao}{cQ:j5}(I:gw G ws B X x eh cc mq cm aX c0 aa)(d:∀z,cV G B aX c0 z∨z=x.cP->¬(dh C G.L V z∨z=y.cP))(p0:∀z,cV G B aX c0 z∨z=x.cP->h0 z=none)(sU:bL h0 aa)
 (Q:gQ G ws C X y eh cc mq fe cQ af) (v:bT (dh C G.L V) aa (dh C G.L cQ) af):lK h0 G ws B X x C y eh cc mq cm aX c0 cQ af:=by
 have he:fe=cm:=by rw[Q.oa,I.oa]
 subst he;have bX:bL h0 af:=λz bn=>by rw[v.2.1 z (by rw[sU z bn];exact bn) (λaV=>bn (T.gU z (.inl aV))),sU z bn]
 refine⟨I.same λz bn=>v.2.1 z (I.dK F bn) λaV=>d z bn (.inl aV),Q,λz bn aj=>?_,p0,λz bn=>?_,T.l2,bX⟩
 .rcases aj with aj|aj
  .rcases v.1 z aj with ad|ad
   .exact d z bn (.inl ad)
   .exact I.dK F bn ad
  .exact d z bn (.inr aj)
 .rcases bn with bn|bn
  .rcases v.1 z bn with ad|ad
   .exact T.gU z (.inl ad)
   .exact sU.free ad
  .exact T.gU z (.inr bn)
theorem lK.bA (T:lK h0 G ws B X x C y a e S a8 es gs V h)(F:ll G B X x)(E:lW G C X y)(k:bL h af):lK h0 G ws B X x C y a e S a8 es gs V af :=
 ⟨T.I.bA F k,T.Q.bA E k,T.d,T.p0,T.gU,T.l2,T.K.trans k⟩
theorem lK.loc (T:lK h0 G ws B X x C y a e S a8 es gs V h)(F:ll G B X x)(E:lW G C X y){b:Nat}{aa ad:ak}(f:h b=none)(k:bL h aa)(cz:∀z,z≠b->ad z=aa z):lK h0 G ws B X x C y a e S a8 es gs V ad :=
 ⟨T.I.loc F f k cz,T.Q.loc E f k cz,T.d,T.p0,T.gU,T.l2,λz bn=>by rw[cz z λe=>bn (by rw[e];exact T.K.free f),k z (by rw[T.K z bn];exact bn),T.K z bn]⟩
theorem lK.off (T:lK h0 G ws B X x C y a e S a8 es gs V h){b:Nat}(ar:h0 b=none)(ay:¬(cV G B es gs b∨b=x.cP))(aA:¬(dh C G.L V b∨b=y.cP))(cz:∀z,z≠b->af z=h z):lK h0 G ws B X x C y a e S a8 es gs V af :=
 ⟨T.I.same λz bn=>cz z λe=>ay (e▸bn),T.Q.same (λz bn=>cz z λe=>aA (e▸bn)) λq aj aT=>cz _ λe=>T.l2 q aj aT (e▸ar),T.d,T.p0,T.gU,T.l2,λz bn=>by rw[cz z λe=>bn (e▸ar),T.K z bn]⟩
end

import Derived.Test.YtofgadhgljjhgaaGreatRefK
import Derived.Test.YtofgadhgljjhgaaGreatRefU
namespace Go.Proofs.Tryz
open Go Go.cD Go.RowKit
set_option maxRecDepth 8000
theorem c1.MT:c1.nil.n=0:=rfl
theorem c1.MR (l:c1):l.rd.n=l.n+1:=rfl
theorem c1.MS (l:c1):l.wr.n=l.n+1:=rfl
structure k_ (h0:ak)(G:cG)(ws:List UInt64)(B:jy)(X:ek)(x:ko)(C:lT)(y:ko)(a:Nat)(e:c1)(S:cU)(a7:List de)(es gs:ar)(V:jz)(h:ak):Prop where
 I:fX G ws B X x a e S a7 es gs h
 Q:gw G ws C X y a e S a7 V h
 d:∀z,cH G B es gs z∨z=x.cz->¬(c8 C G.L V z∨z=y.cz)
 p0:∀z,cH G B es gs z∨z=x.cz->h0 z=none
 iy:∀z,c8 C G.L V z∨z=y.cz->h0 z=none
 lz:∀q,C.dQ.q=some q->0<ws.length->h0 q.b≠none
 K:bL h0 h
section
variable {h0:ak} {G:cG} {ws:List UInt64} {B:jy} {X:ek} {x:ko} {C:lT} {y:ko} {a:Nat} {e:c1} {S:cU} {a7:List de} {es gs:ar} {V:jz} {h ah:ak}
theorem gw.same (R:gw G ws C X y a e S a7 V h)(aU:∀z,c8 C G.L V z∨z=y.cz->ah z=h z)(hw:∀q,C.dQ.q=some q->0<ws.length->ah q.b=h q.b):gw G ws C X y a e S a7 V ah :=
 ⟨R.r.same (λz bc=>aU z (.inl bc)) hw,R.p,R.oF,R.oG,(aU _ (.inr rfl)).trans R.cp,R.jA,R.sw,R.q,R.wX⟩
theorem k_.prog (T:k_ h0 G ws B X x C y a e S a7 es gs V h)(F:kR G B X x)(E:lq G C X y){dT:Nat}{b4:c1}{pG:cU}{b_:List de}{aW cN:ar}(I:fX G ws B X x dT b4 pG b_ aW cN ah)(v:bT (cH G B es gs) h (cH G B aW cN) ah) :
 gw G ws C X y a e S a7 V ah/\(∀z,cH G B aW cN z∨z=x.cz->¬(c8 C G.L V z∨z=y.cz))/\(∀z,cH G B aW cN z∨z=x.cz->h0 z=none)/\bL h0 ah:=by
 have wY:∀z,h0 z≠none->¬cH G B es gs z:=λz bc aU=>bc (T.p0 z (.inl aU))
 have bN:bL h0 ah:=λz bc=>by rw[v.2.1 z (by rw[T.K z bc];exact bc) (wY z bc),T.K z bc]
 refine⟨T.Q.same (λz bc=>v.2.1 z (T.Q.dn E bc) λaU=>T.d z (.inl aU) bc) λq aj aT=>?_,λz bc aj=>?_,λz bc=>?_,bN⟩
 .have:=T.lz q aj aT
  rw[bN _ this,T.K _ this]
 .rcases bc with bc|bc
  .rcases v.1 z bc with aa|aa
   .exact T.d z (.inl aa) aj
   .exact T.Q.dn E aj aa
  .exact T.d z (.inr bc) aj
 .rcases bc with bc|bc
  .rcases v.1 z bc with aa|aa
   .exact T.p0 z (.inl aa)
   .exact T.K.free aa
  .exact T.p0 z (.inr bc)
theorem k_.LZ {aa:ak}(T:k_ h0 G ws B X x C y a e S a7 es gs V h)(F:kR G B X x){dT:Nat}{b4:c1}{pG:cU}{b_ eL:List de}{aW cN:ar}{cB:jz}(I:fX G ws B X x dT b4 pG b_ aW cN aa)(d:∀z,cH G B aW cN z∨z=x.cz->¬(c8 C G.L V z∨z=y.cz))(p0:∀z,cH G B aW cN z∨z=x.cz->h0 z=none)(sc:bL h0 aa)
 (Q:gw G ws C X y dT b4 pG eL cB ah) (v:bT (c8 C G.L V) aa (c8 C G.L cB) ah):k_ h0 G ws B X x C y dT b4 pG b_ aW cN cB ah:=by
 have he:eL=b_:=by rw[Q.oF,I.oF]
 subst he
 have bN:bL h0 ah:=λz bc=>by rw[v.2.1 z (by rw[sc z bc];exact bc) (λaU=>bc (T.iy z (.inl aU))),sc z bc]
 refine⟨I.same λz bc=>v.2.1 z (I.dn F bc) λaU=>d z bc (.inl aU),Q,λz bc aj=>?_,p0,λz bc=>?_,T.lz,bN⟩
 .rcases aj with aj|aj
  .rcases v.1 z aj with ad|ad
   .exact d z bc (.inl ad)
   .exact I.dn F bc ad
  .exact d z bc (.inr aj)
 .rcases bc with bc|bc
  .rcases v.1 z bc with ad|ad
   .exact T.iy z (.inl ad)
   .exact sc.free ad
  .exact T.iy z (.inr bc)
theorem k_.bD (T:k_ h0 G ws B X x C y a e S a7 es gs V h)(F:kR G B X x)(E:lq G C X y)(k:bL h ah):k_ h0 G ws B X x C y a e S a7 es gs V ah :=
 ⟨T.I.bD F k,T.Q.bD E k,T.d,T.p0,T.iy,T.lz,T.K.trans k⟩
theorem k_.loc (T:k_ h0 G ws B X x C y a e S a7 es gs V h)(F:kR G B X x)(E:lq G C X y){b:Nat}{aa ad:ak}(f:h b=none)(k:bL h aa)(cm:∀z,z≠b->ad z=aa z):k_ h0 G ws B X x C y a e S a7 es gs V ad :=
 ⟨T.I.loc F f k cm,T.Q.loc E f k cm,T.d,T.p0,T.iy,T.lz,λz bc=>by rw[cm z λe=>bc (by rw[e];exact T.K.free f),k z (by rw[T.K z bc];exact bc),T.K z bc]⟩
theorem k_.off (T:k_ h0 G ws B X x C y a e S a7 es gs V h){b:Nat}(au:h0 b=none)(aw:¬(cH G B es gs b∨b=x.cz))(aA:¬(c8 C G.L V b∨b=y.cz))(cm:∀z,z≠b->ah z=h z):k_ h0 G ws B X x C y a e S a7 es gs V ah :=
 ⟨T.I.same λz bc=>cm z λe=>aw (e▸bc),T.Q.same (λz bc=>cm z λe=>aA (e▸bc)) λq aj aT=>cm _ λe=>T.lz q aj aT (e▸au),T.d,T.p0,T.iy,T.lz,λz bc=>by rw[cm z λe=>bc (e▸au),T.K z bc]⟩
end

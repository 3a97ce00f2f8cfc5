import Derived.Test.YtegdpmgnhnccaaaGreatRdL
import Derived.Test.YtegdpmgnhnccaaaGreatCukD
import Derived.Test.YtegdpmgnhnccaaaGreatEvD
namespace Go.Proofs.Tryz
open Go Go.cR Go.RowKit
set_option maxRecDepth 8000
section
variable {G:cq} {X:eE} {w:List Int}
abbrev qj (G:cq)(w:List Int)(n:Nat):List dk:=oG G.m G.s G.t G.L G.f w n
theorem BZ {sp:Nat}:∀(n:Nat) (e:cW),ij G sp w (e+n)=ij G sp w e++qj G (w.drop (G.L*e.a)) n
 | 0,e=>by show ij G sp w e=_;simp[oG]
 | n+1,e=>by
  show ij G sp w (e+n)++oH G.m G.s G.t G.L G.f (w.drop (G.L*(e+n).a))=_;rw[BZ n e,show qj G (w.drop (G.L*e.a)) (n+1)=_ from ER _ _ _ _ _ _ _,<-aDD,cW.IV,aFx,aEU,aDW n]
theorem Nu {n k:Nat}(h:n*G.L<=k)(ah:k<=w.length):qj G w n=qj G (w.take k) n:=by
 have:=ahN (m:=G.m) (s:=G.s) (t:=G.t) (first:=G.f) (l:=w.take k) (fw:=w.drop k) (L:=G.L) n (by rw[aEy];omega);rw[aEz] at this;exact this
def sa (G:cq)(X:eE)(op:Nat):Nat:=if op<2 then 2*G.L else if op<5 then 2*X.K*G.L else 3*G.L
def vC (G:cq)(X:eE)(op:Nat)(nw:List Int):List dk :=
 if op<2 then qj G (nw.take (2*G.L)) 2++reads ((0:Nat):Int) X.sp
 else if op<5 then qj G (nw.take (X.K*G.L)) X.K++reads ((0:Nat):Int) X.sp++writes ((0:Nat):Int) X.sp++qj G ((nw.take (2*(X.K*G.L))).drop (X.K*G.L)) X.K
 else qj G (nw.take (2*G.L)) 2++reads ((0:Nat):Int) X.sp++qj G ((nw.take (3*G.L)).drop (2*G.L)) 1++writes ((0:Nat):Int) X.sp
theorem ahO {op:Nat}{e:cW}(aT:(w.drop (G.L*e.a)).length=sa G X op):ij G X.sp w (uc X op e)=ij G X.sp w e++vC G X op (w.drop (G.L*e.a)):=by
 unfold uc vC;unfold sa at aT;by_cases c:op<2
 .rw[aDr c] at aT ⊢;rw[aDr c];show ij G X.sp w (e+2)++reads ((0:Nat):Int) X.sp=_;rw[BZ,Nu (k:=2*G.L) (aDt _) (by omega),aDD]
 .rw[aDq c] at aT ⊢;rw[aDq c];by_cases aY:op<5
  .rw[aDr aY] at aT ⊢;rw[aDr aY];have ah:2*(X.K*G.L)=2*X.K*G.L:=(aFF _ _ _).symm;rw[BZ];show ij G X.sp w (e+X.K)++reads ((0:Nat):Int) X.sp++writes ((0:Nat):Int) X.sp++qj G (w.drop (G.L*(e+X.K).a)) X.K=_;rw[BZ,Nu (w:=w.drop (G.L*e.a)) (k:=X.K*G.L) (aDt _) (by omega),cW.IV,aEU,<-aFx,aDW G.L X.K];have b4:(w.drop (G.L*e.a)).take (2*(X.K*G.L))=w.drop (G.L*e.a):=aEd (by omega);rw[b4];simp only[aDD]
  .rw[aDq aY] at aT ⊢;rw[aDq aY];have aa:ij G X.sp w (cW.rd (e+2)+1)=(ij G X.sp w (e+2)++reads ((0:Nat):Int) X.sp)++qj G (w.drop (G.L*(e+2).a)) 1:=BZ 1 (cW.rd (e+2));have ad:ij G X.sp w (e+2)=ij G X.sp w e++qj G (w.drop (G.L*e.a)) 2:=BZ 2 e;have an:qj G (w.drop (G.L*e.a)) 2=qj G ((w.drop (G.L*e.a)).take (2*G.L)) 2:=Nu (aDt _) (by omega);have aJ:w.drop (G.L*(e+2).a)=(w.drop (G.L*e.a)).drop (2*G.L):=by rw[aFx,cW.IV,aEU,aDW G.L 2]
   show ij G X.sp w (cW.rd (e+2)+1)++writes ((0:Nat):Int) X.sp=_;rw[aa,ad,an,aJ];have b4:(w.drop (G.L*e.a)).take (3*G.L)=w.drop (G.L*e.a):=aEd (by omega);rw[b4];simp only[aDD]
theorem ahP {k:Nat}{s t:Int}(o:lG k s t)(f1 f2:Int)(hz gg:Nat):(k7 k s t f1 hz).length=(k7 k s t f2 gg).length:=by
 have aa:=IW o f1 hz;have ad:=IW o f2 gg;have he:(gC k s t f1 hz).length=(gC k s t f2 gg).length:=by omega
 have bc:∀n,(iG f1 (gC k s t f1 hz) n).length=(iG f2 (gC k s t f2 gg) n).length:=λn=>by
  induction n with
  | zero=>rfl
  | succ n dI =>
   rw[ud,ud,aDs,aDs,aDs,aDs,dI];by_cases h:n<(gC k s t f1 hz).length
   .rw[aDr h,eY];rfl
   .rw[aDq h,cS];rfl
 have aV:∀r E,(sb r E).length=4*(gk E).length:=λr E=>zC r _;simp only[k7,h5,aDs,n6,ES,aV,bc,he]
theorem ahQ {m:Nat}{s t:Int}{L:Nat}(o:n7 m s t L)(f1 f2:Int)(ji h6:List Int)(n:Nat):(k8 m s t L f1 ji n).length=(k8 m s t L f2 h6 n).length:=by
 induction n with
 | zero=>rfl
 | succ n dI=>rw[vD,vD,aDs,aDs,dI,ahP (o.gS _) _ (f2+1+3*((L-1-n:Nat):Int)) _ (h6.getD n 0).toNat]
theorem IX (o:G.dt){sp:Nat}(ji h6:List Int):∀e:cW,(ij G sp ji e).length=(ij G sp h6 e).length
 | .nil=>rfl
 | .rd e=>by show(ij G sp ji e++_).length=(ij G sp h6 e++_).length;rw[aDs,aDs,IX o ji h6 e]
 | .wr e=>by show(ij G sp ji e++_).length=(ij G sp h6 e++_).length;rw[aDs,aDs,IX o ji h6 e]
 | .ac e=>by
  show(ij G sp ji e++_).length=(ij G sp h6 e++_).length;rw[aDs,aDs,IX o ji h6 e];simp only[oH,aDs,ahQ o.st G.f G.f (ji.drop (G.L*e.a)) (h6.drop (G.L*e.a))]
end
theorem ahR {n:Int}(ay: -9223372036854775808<=n)(aA:n<=9223372036854775807)(x:km)(s:sS):fc prog 46 [U n,.agg #[U s.op,ab s.key,ab s.cell,.bool s.on]] (U (sa (dg n) (iM n x) (dN s.op 7):Nat)):=by
 intro h;have iz:=kS (n.tdiv 4) (n:=4) (by decide);have Nv:=kS (n.tdiv 2496) (n:=2) (by decide);have eg:(dg n).L=1+dN (n.tdiv 2496) 2:=rfl;have eL:(iM n x).K=1+dN (n.tdiv 4) 4:=rfl;refine ahS _ _ _ _ _ ?_;unfold U3;refine bP λae aa f1 aH aD=>?_;refine(IY ay aA).to λad aB=>⟨_,_,_,rfl,(Nw ay aA).to λan aG=>⟨_,_,_,_,rfl,_,az (aG.get (aB.get aH)) rfl,(vE s.lo s.hi (n:=7) (by decide)).to λaJ bd=>⟨_,rfl,?_⟩⟩⟩;have Nx:=((aD.trans aB).trans aG).trans bd;generalize dN s.op 7=op at *;unfold sa;refine cj (λcl=>⟨?_,Nx⟩) λdH=>cj (λaJ=>⟨?_,Nx⟩) λaJ=>?_
 .rw[eY,bt,aEA];rfl
 .rw[cS,cS,bt,aEA];rfl
 .refine(IY ay aA).to λaR bF=>⟨_,_,_,rfl,?_,Nx.trans bF⟩
  have hm:(1+dN (n.tdiv 4) 4)*(1+dN (n.tdiv 2496) 2)<=4*2:=aDP (by omega) (by omega);have ar:((1+dN (n.tdiv 4) 4:Nat):Int)*((1+dN (n.tdiv 2496) 2:Nat):Int)=(((1+dN (n.tdiv 4) 4)*(1+dN (n.tdiv 2496) 2):Nat):Int):=(aEA _ _).symm;rw[cS,eY,iK (n:=2*((1+dN (n.tdiv 4) 4:Nat):Int)) (by omega) (by omega),eg,eL,Int.mul_assoc,ar,bt,aFF];rfl
end Go.Proofs.Tryz
namespace Go.Proofs.Tryz
open Go Go.cR Go.RowKit
set_option maxRecDepth 8000
theorem amh {X:eE}(h:X.K<=16)(op a:Nat):uf X op a<=a+32:=by unfold uf;split<;>(try split)<;>omega
theorem ami {X:eE}(h:X.K<=16)(op:Nat)(e:cW):(uc X op e).n<=e.n+34:=by
 unfold uc;split
 .show(e+2).n+1<=_;rw[cW.jt];omega
 .split
  .rw[cW.jt];show(e+X.K).n+1+1+X.K<=_;rw[cW.jt];omega
  .show(cW.rd (e+2)+1).n+1<=_;rw[cW.jt];show(e+2).n+1+1+1<=_;rw[cW.jt];omega
theorem CL {h0 h:ak}{s y:ao}{l m:List dk}(o:ct 3 iT h0 h s l)(k:bL h0 h)(r:fR iT h y m)(aT:l.length+m.length<=5000000000000){K:ao->ak->Prop}(ah:∀cE af,ct 3 iT h0 af cE (l++m)->bL h0 af->K cE af):eI prog 59 s (.s y) h K :=
 ct.app tl n8 tk o r (λ_ ar=>k.free ar) (by omega) (by decide) λcE af iF off _ _=>ah cE af iF (tm o k off)
theorem Yl {h:ak}{s:ao}{l:List Int}(r:e4 eo h s l){a b:Nat}(Pp:a<=b)(ar:b<=l.length):e4 eo h ⟨fX s.p a s.cap 1,b-a,s.cap-a,hZ s.z a s.cap 1⟩ ((l.take b).drop a):=by
 have hlen:=r.len;have vz:=r.cap;have fK:e4 eo h ⟨s.p,b,s.cap,s.z⟩ (l.take b):=by
  refine⟨by simp;omega,by show b<=s.cap;omega,λe=>r.nil e,λq aj i hi=>?_⟩;have cb:i<l.length:=by simp at hi;omega
  have:=r.rd q aj i cb;rw[this];simp
 exact fK.drop (n:=a) (by simp;omega)
theorem Pq {α:Type}{k:Nat}{f:α->List Value}{h0 aa h:ak}{s:ao}{l:List α}(bW:bL h0 aa)(o:ct k f aa h s l):ct k f h0 h s l:=⟨o.len,o.cap,o.own.imp id fun⟨q,c,t,a,b,r⟩=>⟨q,c,t,a,bW.free b,r⟩⟩
theorem amj {G:cq}{w:Nat->aE}{u:Nat}{g:List (Nat×Nat)}(go:Ym G w 0 u g):uP G.m G.L (ng g):=by
 intro i hi;have cb:i<g.length:=by simpa [ng] using hi
 have b0:=go.val i g[i] (aDx cb);show 0<=(g.map λy=>(y.1:Int))[i]'(by simpa using cb)/\(g.map λy=>(y.1:Int))[i]'(by simpa using cb)<_;rw[aFl];have aP:(2:Int) ^ (G.m-2*(G.L-1-i%G.L))=((2 ^ (G.m-2*(G.L-1-i%G.L)):Nat):Int):=by simp
 rw[aP];have cl:g[i].1<2 ^ (G.m-2*(G.L-1-i%G.L)):=by rw[b0];exact aEk _ (aD8 (by decide))
 exact⟨by omega,Int.ofNat_lt.2 cl⟩
theorem uP.drop {m L c:Nat}{l:List Int}(h:uP m L l):uP m L (l.drop (c*L)):=λi hi=>by
 have cb:c*L+i<l.length:=by simp at hi;omega
 have:=h (c*L+i) cb;rw[List.getElem_drop];rw[show(c*L+i)%L=i%L by rw[aDW,Nat.mul_add_mod]] at this;exact this
theorem uP.take {m L c:Nat}{l:List Int}(h:uP m L l):uP m L (l.take c):=λi hi=>by
 have cb:i<l.length:=by simp at hi;omega
 rw[List.getElem_take];exact h i cb
theorem amk {n:Int}(ay: -9223372036854775808<=n)(aA:n<=9223372036854775807)(x:km)(s:sS){h:ak}{y:ao}{nw:List Int}(iO:e4 eo h y nw)(aT:nw.length=sa (dg n) (iM n x) (dN s.op 7))(CM:uP (dg n).m (dg n).L nw) :
 aq 49 [U n,.agg #[U s.op,ab s.key,ab s.cell,.bool s.on],aZ y] h λv af=>∃z,v=aZ z/\ct 3 iT h af z (vC (dg n) (iM n x) (dN s.op 7) nw)/\bL h af:=by
 suffices H:∀Q:Value->ak->Prop,(∀z af,ct 3 iT h af z (vC (dg n) (iM n x) (dN s.op 7) nw)->bL h af->Q (aZ z) af)->aq 49 [U n,.agg #[U s.op,ab s.key,ab s.cell,.bool s.on],aZ y] h Q from H _ λz af a b=>⟨z,rfl,a,b⟩
 intro Q fI;have ho:=kS (n.tdiv 16) (n:=4) (by decide);have iz:=kS (n.tdiv 4) (n:=4) (by decide);have Nv:=kS (n.tdiv 2496) (n:=2) (by decide);have NA:=vE s.lo s.hi (n:=7) (by decide);have o:=Oa n;have eg:(dg n).L=1+dN (n.tdiv 2496) 2:=rfl;have iL:(iM n x).sp=1+dN (n.tdiv 16) 4:=rfl;have eL:(iM n x).K=1+dN (n.tdiv 4) 4:=rfl;have bc:(dg n).f=1:=rfl;have oW:=iO.len;have aCe:=iO.cap;have hm:(iM n x).K*(dg n).L<=4*2:=aDP (by omega) (by omega);have aCf:1*(dg n).L<=(iM n x).K*(dg n).L:=aDP (by omega) (aDt _);have Kh:2*(iM n x).K*(dg n).L=2*((iM n x).K*(dg n).L):=aFF _ _ _;have aj:dN s.op 7<7:=kS s.op (by decide);generalize dN s.op 7=op at *;have aml:2*(dg n).L<=nw.length:=by
  rw[aT];unfold sa;split
  .omega
  .split
   .omega
   .omega
 refine amm _ _ _ _ _ _ ?_;unfold Yn;refine bP λae aa f1 aH aD=>?_;refine(IY ay aA).to λad aB=>⟨_,_,_,rfl,bP λax an f3 b7 aG=>?_⟩;refine iH ((aD.trans aB).trans aG) (aD.free (aB.free f3)) b7 rfl λaJ bd b6 dq=>⟨_,az b6 rfl,_,az b6 rfl,_,az b6 rfl,?_⟩;have pO:aJ ae=_:=(dq ae λe=>by rw[<-e,aB.get aH] at f3;cases f3).trans (aG.get (aB.get aH));refine(Nw ay aA).to λaR bF=>⟨_,_,_,_,rfl,bP λaM bj f6 dP cn=>?_⟩;have f60:h aM=none:=bd.free (bF.free f6);refine iH ((bd.trans bF).trans cn) f60 dP rfl λbU c3 fa eF=>?_;have fq:∀ {b:Nat} {e7:Obj},aJ b=some e7->bU b=some e7:=λar=>(eF _ λe=>by rw[e] at ar;have:=bF.get ar;rw[f6] at this;cases this).trans (cn.get (bF.get ar));have pG:=fq pO;have uQ:=fq b6;have ts:=iO.bA c3;have iu:∀ {c d:Nat},c*d<=100->al ((c:Int)*(d:Int))=((c*d:Nat):Int):=λ{c d} aCg=>by rw[show(c:Int)*(d:Int)=((c*d:Nat):Int) from (aEA _ _).symm,bt]
 have pW:al (2*((dg n).L:Int))=((2*(dg n).L:Nat):Int):=iu (c:=2) (by omega);have amn:al (3*((dg n).L:Int))=((3*(dg n).L:Nat):Int):=iu (c:=3) (by omega);refine⟨_,az fa rfl,_,az fa rfl,_,az fa rfl,_,az fa rfl,_,az fa rfl,?_⟩;rw[pW];refine⟨by omega,by omega,_,az uQ rfl,?_⟩;refine(Ka o.st 1 (by omega) (ts.JG (n:=2*(dg n).L) aml) (n:=2) (by rw[aEy];omega) CM.take (by omega)).mono ?_;rintro _ bR ⟨s1,rfl,cy,eO⟩;have ls:∀(w:List Int) (k:Nat),k<=4->(oG (dg n).m (dg n).s (dg n).t (dg n).L 1 w k).length<=20000000:=λw k ah=>by
  have:=X1 o.st 1 w k;omega
 have CN:∀k:Nat,(reads 0 k).length=k:=λk=>rh 0 k;have lw:∀k:Nat,(writes 0 k).length=2*k:=λk=>n6 0 k;refine⟨s1,rfl,⟨az (eO.get uQ) rfl,trivial⟩,(JU 0 (1+dN (n.tdiv 16) 4) (by omega) bR).mono ?_⟩;rintro _ b9 ⟨s2,rfl,cg,en⟩;refine⟨s2,rfl,CL (cy.bA en) (eO.trans en) cg.rd (by have:=ls (nw.take (2*(dg n).L)) 2 (by omega);rw[CN];omega) λbz cp da eZ=>⟨_,az (eZ.get pG) rfl,NA.to λcf gE=>⟨_,rfl,?_⟩⟩⟩;have uz:=eZ.trans gE;have Yo:=da.bA gE;have f1:=gE.get (eZ.get fa);have f2:=gE.get (eZ.get uQ);refine cj (λcl=>?_) λdH=>cj (λaJ=>?_) λaJ=>?_
 .refine fI _ _ ?_ (c3.trans uz);unfold vC;rw[eY];exact Pq c3 Yo
 .have amo:3*(dg n).L<=nw.length:=by rw[aT];unfold sa;rw[cS,cS];exact aDt _
  refine⟨_,az f1 rfl,_,az f1 rfl,_,az f1 rfl,_,az f1 rfl,_,az f1 rfl,_,az f1 rfl,?_⟩;rw[pW,amn];refine⟨by omega,by omega,by omega,by omega,?_⟩;refine(Ka o.st 1 (by omega) (Yl (ts.bA uz) (a:=2*(dg n).L) (b:=3*(dg n).L) (by omega) amo) (n:=1) (by rw[aDY,aEy];omega) CM.take.drop (by omega)).mono ?_;rintro _ bN ⟨bZ,rfl,dq,jd⟩;refine⟨bZ,rfl,CL (Yo.bA jd) (uz.trans jd) dq.rd (by have:=ls (nw.take (2*(dg n).L)) 2 (by omega);have:=ls ((nw.take (3*(dg n).L)).drop (2*(dg n).L)) 1 (by omega);rw[aDs,CN];omega) λcZ dB cz ia=>⟨_,az (ia.get uQ) rfl,(OS 0 (1+dN (n.tdiv 16) 4) (by omega) dB).mono ?_⟩⟩;rintro _ cC ⟨ck,rfl,ek,kD⟩;refine⟨ck,rfl,CL (cz.bA kD) (ia.trans kD) ek.rd (by have:=ls (nw.take (2*(dg n).L)) 2 (by omega);have:=ls ((nw.take (3*(dg n).L)).drop (2*(dg n).L)) 1 (by omega);rw[aDs,aDs,CN,lw];omega) λdV dT eF jK=>fI _ _ ?_ (c3.trans jK)⟩;unfold vC;rw[cS,cS];exact Pq c3 eF
 .have amp:2*((iM n x).K*(dg n).L)<=nw.length:=by rw[aT];unfold sa;rw[cS,eY];omega
  have amq:al (((1+dN (n.tdiv 4) 4:Nat):Int)*((dg n).L:Int))=(((iM n x).K*(dg n).L:Nat):Int):=iu (c:=1+dN (n.tdiv 4) 4) (by rw[<-eL];omega);have amr:al (2*(((iM n x).K*(dg n).L:Nat):Int))=((2*((iM n x).K*(dg n).L):Nat):Int):=iu (c:=2) (by omega);refine⟨_,az f2 rfl,_,az f1 rfl,_,az f1 rfl,_,az f1 rfl,_,az f1 rfl,_,az f1 rfl,?_⟩;rw[amq];generalize uT:(iM n x).K*(dg n).L=hl at *;refine⟨by omega,by omega,?_⟩;refine(Ka o.st 1 (by omega) ((ts.bA uz).JG (n:=hl) (by omega)) (n:=(iM n x).K) (by rw[aEy,uT];omega) CM.take (by omega)).mono ?_;rintro _ cK ⟨dS,rfl,e6,lO⟩;have f16:=lO.get f2;refine⟨dS,rfl,_,az f16 rfl,(JU 0 (1+dN (n.tdiv 16) 4) (by omega) cK).mono ?_⟩;rintro _ du ⟨fY,rfl,e3,iQ⟩;refine⟨fY,rfl,CL (e6.bA iQ) (lO.trans iQ) e3.rd (by have:=ls (nw.take hl) (iM n x).K (by omega);rw[CN];omega) λgr ec fH nI=>⟨_,az (nI.get f2) rfl,(OS 0 (1+dN (n.tdiv 16) 4) (by omega) ec).mono ?_⟩⟩;rintro _ ds ⟨hs,rfl,hq,nk⟩;refine⟨hs,rfl,CL (fH.bA nk) (nI.trans nk) hq.rd (by have:=ls (nw.take hl) (iM n x).K (by omega);rw[aDs,CN,lw];omega) λgJ ej gP oi=>?_⟩;have g1:=oi.get f1;refine⟨_,az g1 rfl,_,az g1 rfl,_,az g1 rfl,_,az g1 rfl,?_⟩;rw[amr];refine⟨by omega,by omega,by omega,by omega,?_⟩;refine(Ka o.st 1 (by omega) (Yl (ts.bA (uz.trans oi)) (a:=hl) (b:=2*hl) (by omega) amp) (n:=(iM n x).K) (by rw[aDY,aEy,uT];omega) (by rw[<-uT];exact CM.take.drop) (by omega)).mono ?_;rintro _ gh ⟨iB,rfl,j_,lr⟩;refine⟨iB,rfl,CL (gP.bA lr) (oi.trans lr) j_.rd (by have:=ls (nw.take hl) (iM n x).K (by omega);have:=ls ((nw.take (2*hl)).drop hl) (iM n x).K (by omega);rw[aDs,aDs,CN,lw];omega) λmD eB ka pq=>fI _ _ ?_ ((c3.trans uz).trans pq)⟩;unfold vC;rw[cS,eY,uT];exact Pq (c3.trans uz) ka
theorem ams {T:TypeId}{m:jQ}{R:dY}{a8:List dk}{es:ao}{h:ak}(M:c8 T m R a8 es h):aq 44 [bm ⟨m.b,0⟩] h λv af=>v=U a8.length/\af=h:=by
 refine amt _ ?_;unfold Yp;refine⟨_,az M.top rfl,?_,rfl⟩;rw[M.wj.len]
theorem amu {α:Type}{k:Nat}{f:α->List Value}(bc:∀x,(f x).length=k){h:ak}{s:ao}{l:List α}(r:fR f h s l){n:Nat}(aK:n<=l.length):fR f h ⟨fX s.p n s.len k,s.len-n,s.len-n,hZ s.z n s.len k⟩ (l.drop n):=by
 have hlen:=r.len;by_cases dM:n=l.length
 .subst dM;exact⟨by simp[hlen],by simp,λe=>by simp[hlen],λq aj=>by simp[fW]⟩
 obtain⟨gU,Ah⟩:=r.ptr (by omega);have aP:=ao.zW Ah;have bn:s.z=none:=by
  obtain⟨p,k,c,z⟩:=s;cases z with
  | some z=>cases Ah
  | none=>rfl
 have aj:ao.q ⟨fX s.p n s.len k,s.len-n,s.len-n,hZ s.z n s.len k⟩=some ⟨gU.b,gU.o+n*k⟩:=by
  simp only[ao.q,hZ,bn,ite_self,fX,aP,aEx];rw[cS]
 refine⟨by simp[hlen],by simp,(λe=>by rw[aj] at e;cases e),λq nL=>?_⟩;rw[aj] at nL;cases nL;have e:l.flatMap f=(l.take n).flatMap f++(l.drop n).flatMap f:=by rw[<-aEB,aEz]
 have aT:((l.take n).flatMap f).length=n*k:=by rw[nx bc,aEy,aEq aK]
 have aQ:=r.rd gU Ah;rw[pJ] at aQ ⊢;intro i hi;have:=aQ (n*k+i) (by rw[e,aDs];omega);rw[show gU.o+n*k+i=gU.o+(n*k+i) by omega,this];congr 1;simp only[e];rw[aFL (by omega)];congr 1;omega
theorem amv {T:TypeId}{m:jQ}{R:dY}{a8:List dk}{es:ao}{h:ak}(M:c8 T m R a8 es h)(aT:a8.length<5000000000000){k:Nat}(ah:k<=a8.length):aq 48 [bm ⟨m.b,0⟩,U k] h λv af=>∃s,v=aZ s/\ct 3 iT h af s (a8.drop k)/\bL h af:=by
 have a1:=M.wj.cap;have aK:=M.wj.len;refine amw _ _ ?_;unfold Yq;have dM:max (0:Int) (min (k:Int) (es.len:Int))=(k:Int):=by omega
 refine⟨es,az M.top rfl,es,az M.top rfl,?_⟩;rw[dM];refine⟨by omega,by omega,by omega,by omega,by omega,by omega,?_⟩;rw[show Int.toNat (k:Int)=k from rfl];refine(amx (l:=a8.drop k) ?_ (by rw[aDY];omega)).mono ?_
 .exact amu n8 M.wj.rd ah
 rintro _ aa ⟨cE,rfl,o,bW⟩;exact⟨cE,rfl,cE,rfl,o,bW⟩
set_option maxHeartbeats 1000000 in
theorem amy {h:ak}{n:Int}(ay: -9223372036854775808<=n)(aA:n<=9223372036854775807){ed:ao}{ws:List aE}(sj:e4 ab h ed ws)(Od:ws.length*8<=140737488355328){kf:ao}{l:List sS}(ry:fR FA h kf l)(_:l.length*32<=140737488355328) :
 aq 5 [U n,aZ ed,aZ kf] h λv af=>v= .bool true/\bL h af:=by
 refine fZ _ _ _ ?_;unfold Yr;refine ajM.to λaa aD=>⟨_,rfl,b3 rfl (iN (λ_=>⟨rfl,aD⟩) λamz=>iN (λ_=>⟨rfl,aD⟩) λ_=>?_)⟩;have hlen:l.length<=10:=by
  have:¬(10:Int)<(kf.len:Int):=aD3 amz;have:=ry.len;omega
 refine(Wg ay aA (sj.bA aD) Od).mono ?_;rintro _ ad ⟨B,x,C,mR,Pr,rfl,F,E,T⟩;refine⟨some _,some _,some _,some _,some _,some _,_,rfl,bP λae an f3 b7 aG=>?_⟩;have f10:aa ae=none:=T.K.free f3;refine iH (T.K.trans aG) f10 b7 rfl λaJ bd b6 dq=>b3 rfl ?_;have j0:=T.loc F E f3 aG dq;have e9:=T.out F E f3;have b6:aJ ae=ev (ET B x C (Fq x mR).cP) 89:=b6;have kq:=ry.len;have eL:=F.K;have Ys:=λs=>ahR ay aA x s;have amA:=λ(s:sS) {h:ak} {y:ao} {nw:List Int}=>amk ay aA x s (h:=h) (y:=y) (nw:=nw);clear T;generalize Fq x mR=y at *;generalize dg n=G at *;generalize iM n x=X at *;have o:=F.c.o;have eg:=o.L;refine⟨λmu s1 q1 ay g bW=>n=mu/\kf=s1/\(⟨ae,0⟩:aF)=q1/\∃(i a:Nat) (e:cW) (S:c7) (a8:List dk) (es gs:ao) (V:j5),ay=i/\i<=l.length/\bW=l.length-i/\a<=100*i/\e.n<=100*i/\lK aa G ws B X x C y a e S a8 es gs V g/\¬mo G B es gs C V ae/\g ae=ev (ET B x C y.cP) 89,
  ⟨l.length,rfl,rfl,rfl,0,0,.nil,_,[],gy,gy,Pr,rfl,by omega,rfl,by omega,aDt _,j0,e9,b6⟩,?_⟩
 rintro mu s1 q1 Fb g bW ⟨rfl,rfl,rfl,i,a,e,S,a8,es,gs,V,rfl,hi,rfl,bY,he,qk,Cq,jm⟩;refine cj (λcl=>?_) λ_=>⟨rfl,aD.trans qk.K⟩;have cb:i<l.length:=by omega
 have j3:Int.toNat (i:Int)=i:=by omega
 refine⟨some ⟨B.m.b,0⟩,az jm rfl,(ams qk.I.r.mem).mono ?_⟩;rintro _ _ ⟨rfl,rfl⟩;have dd:=qk.I.p.n5;have aCh:G.L*a<=4*1000:=aDP (by omega) (by omega);refine⟨_,rfl,some ⟨B.cO,0⟩,az jm rfl,(Yt o qk.I.r (by omega)).mono ?_⟩;rintro _ bU ⟨s2,rfl,cg,c3⟩;have Yu:=qk.bA F E c3;have x5:=c3.get jm;have gg:=cg.rd.len;rw[aDF,dd] at gg;have Yv:=ry.bA xR (aD.trans Yu.K);obtain⟨q,aj⟩:=Yv.ptr (by omega);obtain⟨ha,aS,aY,cB,_⟩:=sT xR (Yv.rd q aj) cb;refine⟨s2,rfl,some ⟨B.m.b,0⟩,az x5 rfl,some ⟨B.cO,0⟩,az x5 rfl,some ⟨x.cP,0⟩,az x5 rfl,some ⟨C.m.b,0⟩,az x5 rfl,some ⟨C.cO,0⟩,az x5 rfl,some ⟨y.cP,0⟩,az x5 rfl,q,aj,by omega,by omega,_,by rw[j3];exact ha,_,by rw[j3];exact aS,_,by rw[j3];exact aY,_,by rw[j3];exact cB,(ah0 F E Yu (by omega) (by omega) l[i]).mono ?_⟩;rintro _ bR ⟨mq,cm,aX,c0,cQ,rfl,vG,u8⟩;have fO:=u8.get x5 Cq;have bq:=u8.out (by rw[x5];simp) Cq;have tt:=amh eL (dN l[i].op 7) a;have jE:=ami eL (dN l[i].op 7) e;have rz:=vG.I.p.n5;have aCi:=kS l[i].op (n:=7) (by decide);have Yw:G.L*uf X (dN l[i].op 7) a=G.L*a+sa G X (dN l[i].op 7):=by
  unfold uf sa;split
  .rw[aEU,aDW G.L 2]
  .split
   .rw[aEU,aDW G.L (2*X.K)]
   .rw[show a+2+1=a+3 from rfl,aEU,aDW G.L 3]
 have aCj:G.L*uf X (dN l[i].op 7) a<=4*2000:=aDP (by omega) (by omega);have aCk:=vG.I.el F;refine⟨_,rfl,some ⟨B.cO,0⟩,az fO rfl,(Yt o vG.I.r (by omega)).mono ?_⟩;rintro _ b9 ⟨bz,rfl,da,en⟩;have Yx:=vG.bA F E en;have gm:=en.get fO;have og:=da.rd.len;rw[aDF,rz] at og;have aCl:=da.rd.cap;have Fp:min (s2.len:Int) (bz.len:Int)=((G.L*a:Nat):Int):=by omega
 have Yy:=ry.bA xR (aD.trans Yx.K);obtain⟨dE,eG,_⟩:∃dE,kf.q=some dE/\True:=by obtain⟨dE,h⟩:=Yy.ptr (by omega);exact⟨dE,h,trivial⟩
 obtain⟨d0,d1,d2,d3,_⟩:=sT xR (Yy.rd dE eG) cb;refine⟨bz,rfl,by omega,by omega,dE,eG,by omega,by omega,_,by rw[j3];exact d0,_,by rw[j3];exact d1,_,by rw[j3];exact d2,_,by rw[j3];exact d3,?_⟩;rw[Fp,show Int.toNat ((G.L*a:Nat):Int)=G.L*a from rfl];refine(Ys l[i]).to λcp eZ=>⟨_,rfl,b3 ?_ ?_⟩
 .rw[og,Yw,aE1];simp
 have ug:=Yx.bA F E eZ;have pe:=eZ.get gm;have amB:=ry.bA xR (aD.trans ug.K);obtain⟨g0,g1,g2,g3,_⟩:=sT xR (amB.rd dE eG) cb;have amC:a8=ij G X.sp (ng S.gone) e:=qk.I.oa;have Yz:cm=ij G X.sp (ng mq.gone) (uc X (dN l[i].op 7) e):=vG.I.oa;have vK:e.a=a:=qk.I.oI;have sW:(ng mq.gone).length=G.L*a+sa G X (dN l[i].op 7):=by unfold ng;rw[aDF,rz,Yw]
 have qz:((ng mq.gone).drop (G.L*e.a)).length=sa G X (dN l[i].op 7):=by rw[aDY,sW,vK];omega
 have fV:=ahO (G:=G) (X:=X) qz;have YA:a8.length=(ij G X.sp (ng mq.gone) e).length:=by rw[amC];exact IX o _ _ e
 have YB:cm.drop a8.length=vC G X (dN l[i].op 7) ((ng mq.gone).drop (G.L*a)):=by
  rw[Yz,fV,YA,aFR,vK]
 have hle:a8.length<=cm.length:=by rw[YA,Yz,fV,aDs];omega
 refine⟨some ⟨B.m.b,0⟩,az pe rfl,dE,eG,by omega,by omega,_,by rw[j3];exact g0,_,by rw[j3];exact g1,_,by rw[j3];exact g2,_,by rw[j3];exact g3,(amv ug.I.r.mem (by omega) hle).mono ?_⟩;rintro _ cf ⟨bZ,rfl,dq,gE⟩;have YC:=ug.bA F E gE;have mr:=gE.get pe;have amD:=ry.bA xR (aD.trans YC.K);obtain⟨a0,av,aN,a3,_⟩:=sT xR (amD.rd dE eG) cb;refine⟨bZ,rfl,⟨by rw[j3];exact a0,by rw[j3];exact av,by rw[j3];exact aN,by rw[j3];exact a3,trivial⟩,?_⟩;have Gb:e4 eo cf bz (ng mq.gone):=(da.bA (eZ.trans gE)).rd;have CM:uP G.m G.L ((ng mq.gone).drop (G.L*a)):=by rw[aDW];exact(amj vG.I.p.e2.gone).drop
 refine(amA l[i] (Gb.drop (n:=G.L*a) (by omega)) (by rw[<-vK];exact qz) CM).mono ?_;rintro _ bN ⟨cZ,rfl,cz,jd⟩;rw[YB] at dq;have Ps:(vC G X (dN l[i].op 7) ((ng mq.gone).drop (G.L*a))).length<4000000000000:=by rw[<-YB,aDY];omega
 refine⟨cZ,rfl,(ahT (dq.bA jd).rd cz.rd Ps).mono ?_⟩;rintro _ _ ⟨rfl,rfl⟩;exact⟨_,rfl,b3 rfl ⟨l.length-(i+1),by omega,rfl,rfl,rfl,i+1,_,_,mq,cm,aX,c0,cQ,bt,by omega,rfl,by omega,by omega,YC.bA F E jd,bq,jd.get mr⟩⟩

import Derived.Test.YtegdpmgnhnccaaaGreatRdL
import Derived.Test.YtegdpmgnhnccaaaGreatLaw
import Derived.Test.YtegdpmgnhnccaaaGreatRefO
import Derived.Test.YtegdpmgnhnccaaaGreatRefU
import Derived.Test.YtegdpmgnhnccaaaGreatShRec
namespace Go.Proofs.Tryz
open Go Go.cQ Go.RowKit
set_option maxRecDepth 8000
structure p9 (h0:ai)(G:c2)(ws:List a8)(B:kR)(C:p_)(a:Nat)(S:fj)(a_:List dt)(es gs:an)(eV:fj)(hL:List dt)(V:mc)(h:ai):Prop where
 I:nC G ws B a S a_ es gs h
 Q:fY G ws C eV hL V h
 d:∀z,fv G B es gs z->¬fA C G.L V z
 p0:∀z,fv G B es gs z->h0 z=none
 gW:∀z,fA C G.L V z->h0 z=none
 kA:∀q,C.dG.q=some q->0<ws.length->h0 q.b≠none
 yO:∀i,(S.ids i).length<=a
 K:bB h0 h
section
variable {h0:ai} {G:c2} {ws:List a8} {B:kR} {C:p_} {a:Nat} {S:fj} {a_:List dt} {es gs:an} {eV:fj} {hL:List dt} {V:mc} {h ag:ai}
theorem p9.bE (T:p9 h0 G ws B C a S a_ es gs eV hL V h)(o:G.dk)(k:bB h ag):p9 h0 G ws B C a S a_ es gs eV hL V ag :=
 ⟨T.I.bE o k,T.Q.bE o k,T.d,T.p0,T.gW,T.kA,T.yO,T.K.trans k⟩
theorem p9.loc (T:p9 h0 G ws B C a S a_ es gs eV hL V h)(o:G.dk){b:Nat}{aa ad:ai}(f:h b=none)(k:bB h aa)(cY:∀z,z≠b->ad z=aa z):p9 h0 G ws B C a S a_ es gs eV hL V ad:=by
 have ax:∀ {z},h z≠none->ad z=h z:=λ{z} bt=>by rw[cY z λe=>bt (e▸f),k z bt]
 exact⟨⟨T.I.r.same λx af=>ax (T.I.r.jM o af),T.I.dY,T.I.us,T.I.kT,T.I.a_⟩,T.Q.same (λx af=>ax (T.Q.jM o af)) (λq ah aO=>ax (T.Q.jv q ah aO).1),T.d,T.p0,T.gW,T.kA,T.yO,λz bt=>by rw[ax (by rw[T.K z bt];exact bt),T.K z bt]⟩
theorem ack (o:G.dk)(st:wG G B)(acm:I5 G C)(T:p9 h0 G ws B C a S a_ es gs S a_ V h)(bV:a<=900){k:Int}{x:a8}{d:ei} :
 aw 13 [bu ⟨B.cm,0⟩,U k,ak x,ec d] h λr aa=>∃(dq:Nat) (yP:fj) (eJ:List dt) (bb gl:an) (z:ei×Bool),r= .tuple #[ec z.1,.bool z.2]/\dq<=a+1/\p9 h0 G ws B C dq yP eJ bb gl S a_ V aa /\
  ∀ad,p9 h0 G ws B C dq yP eJ bb gl S a_ V ad->aw 15 [bu ⟨C.cm,0⟩,U k,ak x,ec d] ad λr aq=>∃eL,r= .tuple #[ec z.1,.bool z.2]/\p9 h0 G ws B C dq yP eJ bb gl yP eJ eL aq/\cn (fA C G.L V) ad (fA C G.L eL) aq:=by
 by_cases cR:(k=0∨k=1∨k=3)/\x.toNat<2 ^ G.m
 .obtain⟨ab,af⟩:=cR;obtain⟨y,rfl,aA⟩:∃y,x=UInt64.ofNat y/\y<2 ^ G.m:=⟨x.toNat,by simp,af⟩;clear af;have fE:=acj ab d;generalize Qw k d=op at *;have R:=T.I;have fp:=o.L;have aa:2*G.L*a<=2*4*1000:=atI (by omega) (by omega);have ad:G.L*a<=4*1000:=atI (by omega) (by omega);have hu:=R.us;have oe:=R.kT;have wI:=IK o.st (G.f:Int) (S.gone.map λy=>(y.1:Int)) a;rw[<-R.a_] at wI;obtain⟨aj,aB,aS⟩:=Qi o R.us (by omega) R.dY R.kT (op:=op) aA (BG o aA);have jJ:S.used<1000000000000:=by omega
  have iO:S.gone.length<100000000000:=by omega
  have n2:a_.length<100000000000:=by omega
  have A:=Qj o st R.r fE ab aA R.dY R.us R.kT jJ iO n2;refine A.mono ?_;rintro _ g ⟨eJ,bb,gl,rfl,e1,v,he⟩;have fZ:nC G ws B (a+1) (gV G (wf ws) op y S).1 eJ bb gl g:=by
   refine⟨e1,by rw[aS];exact aj,by rw[aS,hu,Nat.mul_succ];omega,aB,?_⟩;obtain⟨l,aO⟩:=Qf (G:=G) (w:=wf ws) (op:=op) (x:=y) (S:=S);rw[aO] at he ⊢;rw[he,R.a_,List.drop_left,atD,BD,Qh a (by rw[ath,oe,atK];exact as_ _)];have:(S.gone.map (λy=>(y.1:Int))++l.map λy=>(y.1:Int)).drop (a*G.L)=l.map λy=>(y.1:Int):=by
    rw[show a*G.L=(S.gone.map λy=>(y.1:Int)).length by rw[ath,oe,atK],List.drop_left]
   rw[this]
  have BK:=λi=>yL (G:=G) (w:=wf ws) op y S i;refine⟨a+1,_,eJ,bb,gl,(gV G (wf ws) op y S).2,rfl,as_ _,⟨fZ,T.Q.same (λz bt=>v.2.1 z (T.Q.jM o bt) λaR=>T.d z aR bt) (λq ah aO=>v.2.1 _ (T.Q.jv q ah aO).1 λaR=>T.kA q ah aO (T.p0 _ aR)),λz bt=>?_,λz bt=>?_,T.gW,T.kA,λi=>?_,λz bt=>?_⟩,λg2 kV=>?_⟩
  .exact(v.1 z bt).elim (T.d z) λaH ah=>T.Q.jM o ah aH
  .exact(v.1 z bt).elim (T.p0 z) λaH=>T.K.free aH
  .have:=T.yO i;have:=BK i;omega
  .rw[v.2.1 z (by rw[T.K z bt];exact bt) (λaR=>bt (T.p0 z aR)),T.K z bt]
  refine(acn o acm kV.Q fE ab aA R.dY R.us R.kT (by omega) (by omega) (by omega) (λi=>by have:=T.yO i;omega)).mono ?_;rintro _ g3 ⟨hL,eL,rfl,kW,v2,aco⟩;have acp:hL=eJ:=by rw[aco,he]
  subst acp;refine⟨eL,rfl,⟨⟨kV.I.r.same λz bt=>v2.2.1 z (kV.I.r.jM o bt) (kV.d z bt),kV.I.dY,kV.I.us,kV.I.kT,kV.I.a_⟩,kW,λz bt ah=>(v2.1 z ah).elim (kV.d z bt) (kV.I.r.jM o bt),kV.p0,λz bt=>(v2.1 z bt).elim (kV.gW z) λaH=>kV.K.free aH,kV.kA,kV.yO,λz bt=>by rw[v2.2.1 z (by rw[kV.K z bt];exact bt) (λaR=>bt (kV.gW z aR)),kV.K z bt]⟩,v2⟩
 .have au:¬(k=0∨k=1∨k=3)∨2 ^ G.m<=x.toNat:=by
   by_cases c:k=0∨k=1∨k=3
   .exact .inr (Nat.le_of_not_lt λaO=>cR ⟨c,aO⟩)
   .exact .inl c
  refine(acq o T.I.r au).mono ?_;rintro _ g ⟨rfl,aE⟩;refine⟨a,S,a_,es,gs,(kE,false),rfl,by omega,T.bE o aE,λad kV=>(acr o kV.Q au).mono ?_⟩;rintro _ aq ⟨rfl,aD⟩;exact⟨V,rfl,kV.bE o aD,iC aD _⟩
end
theorem Qx {m:Nat}{s t:Int}{L:Nat}:eu prog 11 [v4 m s t L] (v4 m s t L):=by
 intro h;refine lH _ _ _ _ ?_;unfold Qy;refine bL λaj aa f1 aC aE=>bL λaB ad f2 a7 az=>?_;have aX:=az.get aC;exact⟨_,aF aX rfl,_,aF aX rfl,_,aF aX rfl,_,aF aX rfl,kC (aE.trans az) (aE.free f2) a7 rfl λaq aD b2 c9=>⟨_,aF b2 rfl,_,aF b2 rfl,_,aF b2 rfl,_,aF b2 rfl,rfl,aD⟩⟩
theorem I6 {h:ai}{s1 s2:an}{l:List Int}(ev:ey dg h s1 l)(e5:ey dg h s2 l)(aO:l.length<1000000000000):aw 18 [aU s1,aU s2] h λv ag=>v= .bool true/\ag=h:=by
 have g_:=ev.len;have hW:=e5.len;refine o2 s1 s2 ?_;unfold Qz;refine mw (λcX=>absurd (by omega) cX) λ_=>?_;refine⟨λa b i aa k=>s1=a/\s2=b/\h=aa/\∃j:Nat,i=j/\k=l.length-j,⟨_,rfl,rfl,rfl,0,rfl,rfl⟩,?_⟩;rintro a b i aa k ⟨rfl,rfl,rfl,j,rfl,rfl⟩;refine b6 (λb1=>?_) λc3=>⟨rfl,rfl⟩;have aL:j<l.length:=by omega
 refine ev.e0 aL λq1 _ g1=>⟨_,g1,e5.e0 aL λaP _ g2=>⟨_,g2,b0 (by simp) ⟨_,?_,rfl,rfl,rfl,j+1,bl,rfl⟩⟩⟩;omega
theorem acs {h:ai}{s1 s2:an}{l:List dt}(ev:fi qJ h s1 l)(e5:fi qJ h s2 l)(aO:l.length<=1000000000000):aw 24 [aU s1,aU s2] h λv ag=>v= .bool true/\ag=h:=by
 have g_:=ev.len;have hW:=e5.len;refine wM s1 s2 ?_;unfold QA;refine mw (λcX=>absurd (by omega) cX) λ_=>?_;refine⟨λa b i aa k=>s1=a/\s2=b/\h=aa/\∃j:Nat,i=j/\k=l.length-j,⟨_,rfl,rfl,rfl,0,rfl,rfl⟩,?_⟩;rintro a b i aa k ⟨rfl,rfl,rfl,j,rfl,rfl⟩;refine b6 (λb1=>?_) λc3=>⟨rfl,rfl⟩;have aL:j<l.length:=by omega
 refine ev.e0 yC aL λq1 _ g1=>?_;refine⟨_,g1.1,_,g1.2.1,_,g1.2.2.1,?_⟩;refine e5.e0 yC aL λaP _ g2=>?_;refine⟨_,g2.1,_,g2.2.1,_,g2.2.2.1,b0 (by simp) ⟨_,?_,rfl,rfl,rfl,j+1,bl,rfl⟩⟩;omega
theorem I7 (b:Bool):(bif false then true else !(b==b))=false:=by cases b<;>rfl
set_option maxHeartbeats 4000000 in
theorem acu {h:ai}{n:Int}(ax: -9223372036854775808<=n)(ay:n<=9223372036854775807){dG:an}{ws:List a8}(p5:ey ak h dG ws)(BE:ws.length*8<=140737488355328){iA:an}{l:List wN}(uH:fi BL h iA l)(_:l.length*24<=140737488355328) :
 aw 3 [U n,aU dG,aU iA] h λv ag=>v= .bool true/\bB h ag:=by
 have hF:=p4 n (n:=6) (by decide);have jt:=p4 (n.tdiv 6) (n:=3) (by decide);have yK:=p4 (n.tdiv 18) (n:=8) (by decide);have sW:=p4 (n.tdiv 144) (n:=3) (by decide);refine cp _ _ _ ?_;unfold QB;refine ab9.to λaa aE=>⟨_,rfl,b0 rfl (hS (λ_=>⟨rfl,aE⟩) λacv=>hS (λ_=>⟨rfl,aE⟩) λ_=>?_)⟩;have hlen:l.length<=16:=by
  have:¬(16:Int)<(iA.len:Int):=atW acv;have:=uH.len;omega
 refine(abV ax ay).to λad az=>⟨_,_,_,_,rfl,bL λaj aq f3 b2 aD=>?_⟩;refine kC (az.trans aD) (az.free f3) b2 rfl λaJ bc b5 _=>⟨_,aF b5 rfl,_,aF b5 rfl,_,aF b5 rfl,_,aF b5 rfl,?_⟩;have BH:=aE.trans bc;refine(Qb (m:=hV n 6) (s:=1+hV (n.tdiv 6) 3) (t:=1+hV (n.tdiv 18) 8) (L:=1+hV (n.tdiv 144) 3) (by omega) (by omega) (by omega) (by omega) (p5.bE BH) BE).mono ?_;rintro _ aW ⟨B,rfl,wJ,st,uD,bU,jq,ln⟩;have lp:=Qa (m:=hV n 6) (s:=1+hV (n.tdiv 6) 3) (t:=1+hV (n.tdiv 18) 8) (L:=1+hV (n.tdiv 144) 3) (by omega) (by omega) (by omega) (by omega);have wJ:fM (iD n) ws B qQ [] e9 e9 aW:=wJ;have st:wG (iD n) B:=st;have uD:∀x,fv (iD n) B e9 e9 x->aJ x=none:=uD;have jq:B.m.ep=3*(iD n).L+2:=jq;have ln:∀i,B.m.cq i=(oc (iD n).m (iD n).s (iD n).t (iD n).L (iD n).L).getD i 0:=ln;have lp:∀z∈oc (iD n).m (iD n).s (iD n).t (iD n).L (iD n).L,1<=z/\z<=4096:=lp;have b5:aJ aj=some (.cells #[U (2 ^ (iD n).m),U ((iD n).s:Int),U ((iD n).t:Int),U ((iD n).L:Int)] 26 (0,0)):=b5;have o:=abU n;have dX:=o.st;have bf:(iD n).f=1:=rfl;have h7:∀i,(iD n).E i=j1 (ht ((iD n).m-2*i) (iD n).s (iD n).t):=λ_=>rfl;refine⟨some ⟨B.m.b,0⟩,some ⟨B.tb,0⟩,some ⟨B.cm,0⟩,rfl,bL λaB bd f6 dK cb=>?_⟩;have BM:=cb.get (bU.get b5);have ct:aj≠aB:=λe=>by rw[<-e,bU.get b5] at f6;cases f6
 generalize iD n=G at *;have fp:=o.L;refine⟨_,aF BM rfl,_,aF BM rfl,_,aF BM rfl,_,aF BM rfl,?_⟩;refine Qx.to λcg cV=>⟨_,_,_,_,rfl,?_⟩;refine(acw dX cg).mono ?_;rintro _ cl ⟨s1,rfl,cB,dT⟩;refine⟨s1,rfl,?_⟩;have fJ:b9 dg aW cl ⟨some ⟨aB,0⟩,1,1,none⟩ [1]:=b9.nu f6 (dT.get (cV.get dK)) rfl rfl;have rT:=cb.trans (cV.trans dT);have jd:=EL G.m G.s G.t G.L G.L;refine b9.app oU qD fJ cB.rd (λb au=>rT.free au) (by simp[jd];omega) (by decide) ?_;intro s2 cL e2 wO _ _;have I8:=qK fJ rT wO;have aH:=IS G.m G.s G.t G.L G.L;rw[show [(1:Int)]++mb G.m G.s G.t G.L G.L=(1:Int)::mb G.m G.s G.t G.L G.L from rfl,IT] at e2;refine(acx e2.rd (by omega) (by omega) lp).mono ?_;rintro _ cT ⟨m6,rfl,M2,I9,rU,QC,f_⟩;refine⟨some ⟨m6.b,0⟩,_,rfl,b0 rfl (b0 rfl (b0 rfl (bL λaS cO f11 wL h8=>?_)))⟩;have gg:=(cV.trans dT).get BM;have BN:cO aj=_:=h8.get (f_.get ((wO aj (by rw[gg];simp) λq ah e=>by cases ah;exact ct e).trans gg));refine⟨_,aF BN rfl,_,aF BN rfl,_,aF BN rfl,_,aF BN rfl,?_⟩;refine Qx.to λcH lq=>⟨_,_,_,_,rfl,?_⟩;have rV:=M2.bE (h8.trans lq);have QD:∀i,i<G.L->oR m6 (G.dP i) (G.base i):=λi hi=>by
  have hU:G.base i=2+3*i+0:=by unfold c2.base;omega
  rw[hU];refine⟨by omega,by rw[I9,aH];omega,?_,?_,?_,?_⟩
  .rw[rU,wF _ _ _ _ _ i 0 hi (by decide)];rfl
  .rw[rU,show 2+3*i+0+1=2+3*i+1 by omega,wF _ _ _ _ _ i 1 hi (by decide)];rfl
  .rw[rU,show 2+3*i+0+2=2+3*i+2 by omega,wF _ _ _ _ _ i 2 hi (by decide)];exact congrArg (2 ^ ·) (h7 i).symm
  .exact h7 i
 have BJ:bB aW cH:=I8.trans (f_.trans (h8.trans lq));have acy:=BH.trans bU;have s8:∀q,dG.q=some q->0<ws.length->aa q.b≠none:=λq ah aO=>(p5.bE aE).there ah aO;have jf:=bc.trans bU;have I_:∀z,bA m6 ⟨none,0,0,none⟩ z->aW z=none:=λz bt=>I8.free (QC z bt);have o3:aW aS=none:=(I8.trans f_).free f11;have ar:G.f<m6.ep:=by rw[I9,aH];omega
 have aN:m6.cq G.f=G.top:=by rw[rU,bf];rfl
 have a3:=lq.get wL;have a4:¬bA m6 ⟨none,0,0,none⟩ aS:=λhm=>M2.dv hm f11;have a5:∀q,dG.q=some q->0<ws.length->¬bA m6 ⟨none,0,0,none⟩ q.b/\q.b≠aS:=λq ah aO=>⟨λhm=>s8 q ah aO (jf.free (I_ _ hm)),λe=>s8 q ah aO (e▸jf.free o3)⟩;have hA:=p5.bE (acy.trans BJ);have A:=acz (G:=G) (u:=0) o QD ar aN rV hA a3 a4 a5;rw[bf] at A;refine A.mono ?_;rintro _ dL ⟨C,V,rfl,BO,Ja,acA,QE,uI,acB,QF,iS⟩;refine⟨some ⟨C.cm,0⟩,_,rfl,b0 rfl ?_⟩;have Jb:∀z,fA C G.L V z->aW z=none:=by
  rintro z (bt|⟨p,bt⟩)
  .rw[BO,QE] at bt;exact I_ z bt
  .by_cases c:p= .tb
   .subst c;rw[show z=C.tb from bt,Ja];exact o3
   .exact BJ.free (QF p z c bt)
 have QG:=BJ.trans iS;have acC:p9 aa G ws B C 0 qQ [] e9 e9 qQ [] V dL:=⟨nC.zero (wJ.bE o QG),uI,λz bt ah=>wJ.jM o bt (Jb z ah),λz bt=>bc.free (uD z bt),λz bt=>jf.free (Jb z bt),λq ah aO=>by rw[acA] at ah;exact s8 q ah aO,λ_=>as_ _,jf.trans QG⟩;have arY:C.m.ep=B.m.ep:=by rw[BO,I9,aH,jq]
 have QH:∀i,C.m.cq i=B.m.cq i:=λi=>by rw[BO,rU,ln]
 rw[<-BO,<-Ja];clear lp ln rU rV M2 QC QD I_ QF uI wJ uD BN BO Ja QE s8 Jb e2 cB fJ;have jd:=uH.len;refine⟨λbj eI eU e_ e2 hz iF n27 g bI=>iA=bj/\eI=some ⟨B.m.b,0⟩/\eU=some ⟨B.tb,0⟩/\e_=some ⟨B.cm,0⟩/\e2=some ⟨C.m.b,0⟩/\hz=some ⟨C.tb,0⟩/\iF=some ⟨C.cm,0⟩/\∃(i a:Nat) (S:fj) (a_:List dt) (es gs:an) (V:mc),n27=i/\i<=l.length/\bI=l.length-i/\a<=i/\p9 aa G ws B C a S a_ es gs S a_ V g,
  ⟨l.length,rfl,rfl,rfl,rfl,rfl,rfl,rfl,0,0,_,[],e9,e9,V,rfl,by omega,rfl,as_ _,acC⟩,?_⟩
 rintro bj eI eU e_ e2 hz iF n27 g bI ⟨rfl,rfl,rfl,rfl,rfl,rfl,rfl,i,a,S,a_,es,gs,V,rfl,hi,rfl,bV,wP⟩;refine b6 (λb1=>?_) λ_=>?_
 .have bN:i<l.length:=by omega
  have QI:=uH.bE EN (aE.trans wP.K);obtain⟨q,ah⟩:=QI.ptr (by omega);obtain⟨lh,aX,aZ,_⟩:=BP EN (QI.rd q ah) bN;have uJ:Int.toNat (i:Int)=i:=by omega
  have yQ:(0:Int)<=(i:Int):=by omega
  have yR:(i:Int)+1<=(iA.len:Int):=by omega
  rw[uJ];refine⟨q,ah,yQ,yR,_,lh,q,ah,yQ,yR,_,aX,q,ah,yQ,yR,_,aZ,?_⟩;refine(EG l[i].n).to λeW jf=>⟨_,rfl,⟨(mF (jf _ (p3 aX)) _).trans aX,trivial⟩,⟨(mF (jf _ (p3 lh)) _).trans lh,trivial⟩,?_⟩;refine(ack o st acB (wP.bE o jf) (by omega)).mono ?_;rintro _ dr ⟨dq,yP,eJ,bb,gl,z,rfl,arZ,EO,cont⟩;refine⟨_,_,rfl,bL λb7 eP f17 BQ lr=>?_⟩;refine fG (n:=8) (iC (EO.K.trans lr) (λ_=>False)) (EO.K.free f17) BQ rfl λfH uK qT EP=>?_;have QJ:=EO.loc o f17 lr EP;have acD:=uH.bE EN (aE.trans QJ.K);obtain⟨d0,d1,d2,_⟩:=BP EN (acD.rd q ah) bN;refine⟨q,ah,yQ,yR,_,d0,q,ah,yQ,yR,_,d1,q,ah,yQ,yR,_,d2,?_⟩;refine(EG l[i].n).to λer yS=>⟨_,rfl,⟨(mF (yS _ (p3 d1)) _).trans d1,trivial⟩,⟨(mF (yS _ (p3 d0)) _).trans d0,trivial⟩,?_⟩;refine(cont er (QJ.bE o yS)).mono ?_;rintro _ gh ⟨eL,rfl,Jc,v20⟩;have qU:=v20.get (yS.get qT) (EO.Q.out o f17);refine⟨_,_,rfl,bL λb4 iG f21 acE na=>?_⟩;refine fG (n:=8) (iC (Jc.K.trans na) (λ_=>False)) (Jc.K.free f21) acE rfl λfO v22 Jd uL=>?_;have ER:=Jc.loc o f21 na uL;have n45:b7≠b4:=λe=>by rw[<-e,qU] at f21;cases f21
  refine⟨_,da ((uL _ n45).trans (na.get qU)),_,da Jd,b0 (by simp) (b0 (I7 _) ?_)⟩;refine(Qv o ER.I.r).mono ?_;rintro _ _ ⟨rfl,rfl⟩;refine⟨_,rfl,(acF o ER.Q).mono ?_⟩;rintro _ _ ⟨rfl,rfl⟩;refine⟨_,rfl,b0 (I7 _) ((acG o ER.I.r).mono ?_)⟩;rintro _ hM ⟨bM,rfl,hT,ES⟩;have Je:=ER.bE o ES;refine⟨bM,rfl,(acH o Je.Q λi=>by have:=Je.yO i;omega).mono ?_⟩;rintro _ hb ⟨cZ,rfl,mP,uM⟩;have yT:=Je.bE o uM;refine⟨cZ,rfl,(I6 (hT.bE uM).rd mP.rd (by simp;omega)).mono ?_⟩;rintro _ _ ⟨rfl,rfl⟩;refine⟨_,rfl,b0 rfl ⟨⟨C.tb,0⟩,rfl,_,aF yT.Q.kX rfl,(acI yT.I.r.kX).mono ?_⟩⟩;rintro _ _ ⟨rfl,rfl⟩;refine⟨_,rfl,⟨aF yT.Q.kX rfl,trivial⟩,b0 (by simp) ((acJ yT.I.r.kX).mono ?_)⟩;rintro _ _ ⟨rfl,rfl⟩;refine⟨_,rfl,(acK yT.Q).mono ?_⟩;rintro _ _ ⟨rfl,rfl⟩;exact⟨_,rfl,b0 (I7 _) ⟨l.length-(i+1),by omega,rfl,rfl,rfl,rfl,rfl,rfl,rfl,i+1,dq,yP,eJ,bb,gl,eL,bl,by omega,rfl,by omega,yT⟩⟩
 have wI:=IK o.st (G.f:Int) (S.gone.map λy=>(y.1:Int)) a;rw[<-wP.I.a_] at wI;have oe:=wP.I.kT;have QK:G.L*a<=4*16:=atI (by omega) (by omega);refine⟨⟨C.m.b,0⟩,rfl,V.es,aF wP.Q.mem.top rfl,(acL wP.I.r.mem (by omega)).mono ?_⟩;rintro _ jw ⟨du,rfl,og,acM⟩;have BR:=wP.bE o acM;refine⟨_,rfl,⟨aF BR.Q.mem.top rfl,trivial⟩,(acs og.rd BR.Q.mem.uN.rd (by omega)).mono ?_⟩;rintro _ _ ⟨rfl,rfl⟩;refine⟨_,rfl,b0 rfl ⟨⟨C.cm,0⟩,rfl,V.dX,aF BR.Q.top rfl,(acN o BR.I.r (by omega)).mono ?_⟩⟩;rintro _ kG ⟨fK,rfl,acO,acP⟩;have BS:=BR.bE o acP;refine⟨_,rfl,⟨aF BS.Q.top rfl,trivial⟩,(I6 acO.rd BS.Q.wQ.rd (by simp;omega)).mono ?_⟩;rintro _ _ ⟨rfl,rfl⟩;refine⟨_,rfl,b0 rfl ⟨⟨C.cm,0⟩,rfl,V.le,aF BS.Q.top rfl,(acQ o BS.I.r (by omega)).mono ?_⟩⟩;rintro _ nb ⟨gL,rfl,acR,o4⟩;have rW:=BS.bE o o4;refine⟨_,rfl,⟨aF rW.Q.top rfl,trivial⟩,(I6 acR.rd rW.Q.wR.rd (by simp;omega)).mono ?_⟩;rintro _ _ ⟨rfl,rfl⟩;refine⟨_,rfl,b0 rfl ((acS rW.I.r.mem).mono ?_)⟩;rintro _ _ ⟨rfl,rfl⟩;refine⟨_,rfl,b0 rfl ?_⟩;have jq:=rW.I.r.mem.ep;let I:Nat->List dt->List dt->an->an->ai->Prop:=λj lI hL ir eO bg=>cN B.mN B.m S.R lI ir bg/\cN C.mN C.m S.R hL eO bg/\lI.length<=a_.length+j/\hL.length<=a_.length+j/\(∀z,bA B.m ir z->¬bA C.m eO z)/\(∀z,bA B.m ir z->aa z=none)/\(∀z,bA C.m eO z->aa z=none)/\bB aa bg;have acT:I 0 a_ a_ es V.es _:=⟨rW.I.r.mem,rW.Q.mem,as_ _,as_ _,λz aa ad=>rW.d z (.inl aa) (.inl ad),λz bt=>rW.p0 z (.inl bt),λz bt=>rW.gW z (.inl bt),rW.K⟩;refine⟨λje mQ n32 bg bI=>je=some ⟨B.m.b,0⟩/\mQ=some ⟨C.m.b,0⟩/\∃(r:Nat) (lI hL:List dt) (ir eO:an),n32=r/\r<=B.m.ep/\bI=B.m.ep-r/\I (r*4096) lI hL ir eO bg,
  ⟨B.m.ep,rfl,rfl,0,a_,a_,es,V.es,rfl,atx _,(auz _).symm,by rw[Nat.zero_mul];exact acT⟩,?_⟩
 rintro je mQ n32 bg bI ⟨rfl,rfl,r,lI,hL,ir,eO,rfl,aK,rfl,gZ,dn,g_,hW,d,p0,gW,rX⟩;have acU:=dn.len;refine⟨⟨C.m.b,0⟩,rfl,C.m.rs,aF dn.top rfl,b6 (λb1=>?_) λ_=>⟨rfl,aE.trans rX⟩⟩;have yU:r<B.m.ep:=by omega
 have ar0:r*4096<=65536:=by omega
 have ln:=gZ.cq r yU;have QL:I (r*4096) lI hL ir eO bg:=⟨gZ,dn,g_,hW,d,p0,gW,rX⟩;refine⟨λnc md n33 n34 bg bI=>nc=some ⟨B.m.b,0⟩/\md=some ⟨C.m.b,0⟩/\n33=r/\∃(j:Nat) (lI hL:List dt) (ir eO:an),n34=j/\j<=B.m.cq r/\bI=B.m.cq r-j/\I (r*4096+j) lI hL ir eO bg,
  ⟨B.m.cq r,rfl,rfl,rfl,0,lI,hL,ir,eO,rfl,atx _,(auz _).symm,by show I (r*4096+0) _ _ _ _ _;rw[atQ];exact QL⟩,?_⟩
 clear QL gZ dn g_ hW d p0 gW rX acU lI hL ir eO;rintro nc md n33 n34 bg bI ⟨rfl,rfl,rfl,j,lI,hL,ir,eO,rfl,aL,rfl,gZ,dn,g_,hW,d,p0,gW,rX⟩;refine(s9 dn (by omega)).mono ?_;rintro _ _ ⟨rfl,rfl⟩;rw[QH];refine⟨_,rfl,b6 (λb1=>?_) λc3=>?_⟩
 .have lg:j<B.m.cq r:=by omega
  refine(uO gZ yU lg (by omega)).mono ?_;rintro _ g2 ⟨QM,rfl,Bd,v1⟩;have H9:=dn.move λz bt=>v1.2.1 z (dn.dv bt) λh=>d z h bt;have bq:∀z,bA B.m QM z->¬bA C.m eO z:=λz bt ad=>(v1.1 z bt).elim (λh=>d z h ad) (dn.dv ad);refine⟨_,rfl,(s_ H9 (r:=r) (a:=j) (by omega) (by rw[QH];exact lg) (by omega)).mono ?_⟩;rintro _ g3 ⟨acV,rfl,acW,v2⟩;refine⟨_,rfl,b0 (by simp) ⟨B.m.cq r-(j+1),by omega,rfl,rfl,rfl,j+1,_,_,QM,acV,bl,by omega,rfl,Bd.move λz bt=>v2.2.1 z (Bd.dv bt) (bq z bt),acW,by simp;omega,by simp;omega,λz bt ad=>(v2.1 z ad).elim (bq z bt) (Bd.dv bt),λz bt=>(v1.1 z bt).elim (p0 z) rX.free,λz bt=>(v2.1 z bt).elim (gW z) λh=>?_,?_⟩⟩
  .exact rX.free (v1.2.2 z h)
  .intro z bt
   have aa:=v1.2.1 z (by rw[rX z bt];exact bt) λh=>bt (p0 z h);rw[v2.2.1 z (by rw[aa,rX z bt];exact bt) λh=>bt (gW z h),aa,rX z bt]
 .refine⟨B.m.ep-(r+1),by omega,rfl,rfl,r+1,lI,hL,ir,eO,bl,by omega,rfl,gZ,dn,?_,?_,d,p0,gW,rX⟩
  .rw[Nat.succ_mul];omega
  .rw[Nat.succ_mul];omega

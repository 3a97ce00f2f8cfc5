import Derived.Test.YtegdpmgnhnccaaaGreatRefD
import Derived.Test.YtegdpmgnhnccaaaGreatLevG
namespace Go.Proofs.Tryz
open Go Go.cQ Go.RowKit
set_option maxRecDepth 8000
theorem alj (c:cM){j:Nat}(aL:j<8):(jh c)[j]=c[3+j]:=by
 rcases (show j=0∨j=1∨j=2∨j=3∨j=4∨j=5∨j=6∨j=7 by omega) with rfl|rfl|rfl|rfl|rfl|rfl|rfl|rfl<;>simp[jh]
def upto {n:Nat}(z c:bk n)(i:Nat):bk n:=Vector.ofFn λj:Fin n=>if j.val<i then c[j.val] else z[j.val]
theorem We {n:Nat}(z c:bk n){i:Nat}(hi:i<n):(upto z c i).set i c[i]=upto z c (i+1):=by
 apply aub;intro j aL;unfold upto;rw[atL];simp only[auD];by_cases e:i=j
 .subst e;rw[as8 rfl,d_]
 .rw[as7 e];by_cases aX:j<i
  .rw[as8 aX,d_]
  .rw[as7 aX,cS]
theorem alk {n:Nat}(z c:bk n):upto z c 0=z:=by
 apply aub;intro j aL;unfold upto;simp
theorem Wf {n:Nat}{z c:bk n}{i:Nat}(h:∀j (aL:j<n),i<=j->z[j]=c[j]):upto z c i=c:=by
 apply aub;intro j aL;unfold upto;simp only[auD];by_cases aX:j<i
 .rw[as8 aX]
 .rw[as7 aX];exact h j aL (by omega)
theorem akI (c:cM):eu prog 123 [ec c] (ec (jh c)):=by
 intro h;refine aiQ _ ?_;unfold U6;refine bL λaj aa f1 aC aE=>bL λaB ad f2 a7 az=>bL λaS aq f3 b2 aD=>?_;have jX:=(aE.trans az).trans aD;have f30:=aE.free (az.free f3);have n31:aS≠aj:=λe=>by rw[e,az.get aC] at f3;cases f3
 have n32:aS≠aB:=λe=>by rw[e,a7] at f3;cases f3
 refine⟨λq1 aP bs ax g bI=>q1=⟨aj,0⟩/\aP=⟨aB,0⟩/\bs=⟨aS,0⟩/\∃i:Nat,ax=i/\i<=8/\bI=8-i/\bB h g/\g aj=aq aj/\g aB=aq aB/\g aS=some (.cells (ae.cells (.ws 8 (upto kE (jh c) i))).toArray 49 (0,0)),
  ⟨8,rfl,rfl,rfl,0,rfl,by omega,rfl,jX,rfl,rfl,by rw[alk];exact b2⟩,?_⟩
 rintro q1 aP bs ax g bI ⟨rfl,rfl,rfl,i,rfl,hi,rfl,cv,g1,g2,g3⟩;refine b6 (λb1=>?_) λc3=>?_
 .have bN:i<8:=by omega
  rw[show al (3+(i:Int))=((3+i:Nat):Int) by rw[bl];omega];refine⟨by omega,by omega,_,by rw[show 0+Int.toNat ((3+i:Nat):Int)*1=3+i by omega];exact gi (g1.trans ((az.trans aD).get aC)) (i:=3+i) (by omega),by omega,by omega,?_⟩;rw[show 0+Int.toNat (i:Int)*1=i by omega];refine ob cv f30 g3 bN λbg hd ch il=>⟨8-(i+1),by omega,rfl,rfl,rfl,i+1,bl,by omega,rfl,hd,(il aj (atf n31)).trans g1,(il aB (atf n32)).trans g2,?_⟩;rw[ch,<-alj c bN,We _ _ bN]
 .have:i=8:=by omega
  subst this;rw[Wf λj aL cl=>absurd cl (by omega)] at g3;exact⟨_,da g3,m8 (n:=8) cv (aE.free f2) (g2.trans (aD.get a7)) rfl λbg hd ch _=>⟨_,da ch,rfl,hd⟩⟩
theorem akM (id:a8){to:Nat}(bz:to<2 ^ 63)(d:ei):eu prog 124 [ak id,U to,ec d] (ec (kk id (UInt64.ofNat to) d)):=by
 intro h;refine aiS _ _ _ ?_;unfold U7;refine bL λaj aa f1 aC aE=>bL λaB ad f2 a7 az=>bL λaS aq f3 b2 aD=>⟨Int.NonNeg.mk _,Int.NonNeg.mk _,?_⟩;have jX:=(aE.trans az).trans aD;have f30:=aE.free (az.free f3);have n31:aS≠aj:=λe=>by rw[e,az.get aC] at f3;cases f3
 have n32:aS≠aB:=λe=>by rw[e,a7] at f3;cases f3
 refine ob (n:=12) (c:=gz) (i:=0) jX f30 b2 (by decide) λaJ bc b5 ez=>⟨Int.NonNeg.mk _,Int.NonNeg.mk _,?_⟩;refine ob (n:=12) (i:=1) bc f30 b5 (by decide) λaW bU cD cY=>⟨Int.NonNeg.mk _,Int.NonNeg.mk _,?_⟩;refine ob (n:=12) (i:=2) bU f30 cD (by decide) λbd cb dK eI=>?_;have vd:bd aj=aq aj:=((eI _ (atf n31)).trans (cY _ (atf n31))).trans (ez _ (atf n31));have xk:bd aB=aq aB:=((eI _ (atf n32)).trans (cY _ (atf n32))).trans (ez _ (atf n32));have alm:((gz.set 0 1).set 1 id).set 2 (cK (to:Int))=upto gz (kk id (UInt64.ofNat to) d) 3:=by
  rw[jr bz];apply aub;intro j aL;unfold upto;simp only[auD];rcases (show j=0∨j=1∨j=2∨3<=j by omega) with rfl|rfl|rfl|aq
  .simp[kk]
  .simp[kk]
  .simp[kk]
  .rw[cS,atL,cS,atL,cS,atL,cS]
 rw[alm] at dK;refine⟨λq1 aP bs ax g bI=>q1=⟨aj,0⟩/\aP=⟨aB,0⟩/\bs=⟨aS,0⟩/\∃i:Nat,ax=i/\i<=8/\bI=8-i/\bB h g/\g aj=aq aj/\g aB=aq aB/\g aS=some (.cells (ae.cells (.ws 12 (upto gz (kk id (UInt64.ofNat to) d) (3+i)))).toArray 69 (0,0)),
  ⟨8,rfl,rfl,rfl,0,rfl,by omega,rfl,cb,vd,xk,dK⟩,?_⟩
 rintro q1 aP bs ax g bI ⟨rfl,rfl,rfl,i,rfl,hi,rfl,cv,g1,g2,g3⟩;refine b6 (λb1=>?_) λc3=>?_
 .have bN:i<8:=by omega
  refine⟨by omega,by omega,_,by rw[show 0+Int.toNat (i:Int)*1=i by omega];exact gi (g1.trans ((az.trans aD).get aC)) bN,?_⟩;rw[show al (3+(i:Int))=((3+i:Nat):Int) by rw[bl];omega,show 0+Int.toNat ((3+i:Nat):Int)*1=3+i by omega];refine⟨by omega,by omega,ob cv f30 g3 (show 3+i<12 by omega) λbg hd ch il=>⟨8-(i+1),by omega,rfl,rfl,rfl,i+1,bl,by omega,rfl,hd,(il aj (atf n31)).trans g1,(il aB (atf n32)).trans g2,?_⟩⟩;have hm:d[i]=(kk id (UInt64.ofNat to) d)[3+i]:=by
   rcases (show i=0∨i=1∨i=2∨i=3∨i=4∨i=5∨i=6∨i=7 by omega) with rfl|rfl|rfl|rfl|rfl|rfl|rfl|rfl<;>simp[kk]
  rw[ch,hm,We _ _ (show 3+i<12 by omega)];rfl
 .have:i=8:=by omega
  subst this;rw[Wf λj aL cl=>by
   have:j=11:=by omega
   subst this;simp[kk,gz]] at g3
  exact⟨_,da g3,m8 (n:=12) cv (aE.free f2) (g2.trans (aD.get a7)) rfl λbg hd ch _=>⟨_,da ch,rfl,hd⟩⟩
abbrev oC (P:c1)(y6 f:Nat)(dV:Bool)(is:an):Array Value:=#[bu ⟨y6,0⟩,U f,U (2 ^ P.k),U P.s,U P.t,.bool dV,aU is]
def qk (aV:Nat)(is:an):Nat->Prop:=λx=>x=aV∨∃q,is.q=some q/\x=q.b
theorem aln (x:a8):(ak x).oneCell'=true:=rfl
theorem akO {P:c1}{y6 f:Nat}{dV:Bool}{is:an}{T:TypeId}{aV:Nat}{ids:List a8}{h:ai}(e:h aV=dB (oC P y6 f dV is) T)(eY:b9 ak kf h is ids)(sep:∀q,is.q=some q->q.b≠aV)(aO:ids.length<1000000000000)(id:a8) :
 aw 125 [bu ⟨aV,0⟩,ak id] h λv ag=>∃dM,v= .tuple #[]/\ag aV=dB (oC P y6 f dV dM) T/\b9 ak kf ag dM (if id∈ids then ids else ids++[id])/\(∀q,dM.q=some q->q.b≠aV)/\cn (qk aV is) h (qk aV dM) ag:=by
 have len:=eY.len;refine aiU _ _ ?_;unfold U8;refine⟨λq1 bO ax g bI=>q1=⟨aV,0⟩/\id=bO/\g=h/\∃i:Nat,ax=i/\i<=ids.length/\bI=ids.length-i/\∀j (aL:j<ids.length),j<i->ids[j]≠id,
  ⟨ids.length,rfl,rfl,rfl,0,rfl,by omega,rfl,λj _ aL=>absurd aL (by omega)⟩,?_⟩
 rintro q1 bO ax g bI ⟨rfl,rfl,rfl,i,rfl,hi,rfl,mA⟩;refine⟨is,aF e rfl,b6 (λb1=>?_) λc3=>?_⟩
 .have bN:i<ids.length:=by omega
  refine⟨is,aF e rfl,eY.rd.e0 bN λq _ c=>⟨_,c,hS (λaf=>?_) λaf=>?_⟩⟩
  .have hm:id∈ids:=by rw[<-atC (show decide _=true from af)];exact aty bN
   rw[as8 hm];exact⟨is,rfl,e,eY,sep,cn.refl _ _⟩
  .refine⟨ids.length-(i+1),by omega,rfl,rfl,rfl,i+1,bl,by omega,rfl,λj aL Iq=>?_⟩;by_cases aX:j=i
   .subst aX;exact atW (show decide _=false from af)
   .exact mA j aL (by omega)
 .have aH:¬id∈ids:=λhm=>by
   obtain⟨j,aL,e⟩:=atT hm;exact mA j aL (by omega) e
  rw[as7 aH];refine⟨is,aF e rfl,?_⟩;refine b9.sU E_ aln eY id (λ_ _=>rfl) (by omega) (by decide) λdM g2 cU f2 iO ay=>?_;have CT:g2 aV=g aV:=f2 aV (by rw[e];simp) λq ah h=>sep q ah h.symm;have Wg:∀q,dM.q=some q->q.b≠aV:=λq ah=>by
   rcases iO q ah with ⟨p,aM,h⟩|au
   .rw[h];exact sep p aM
   .exact λh=>by rw[h,e] at au;cases au
  refine⟨_,_,CT.trans e,by simp,dM,rfl,by rw[ea];rfl,cU.move λq ah=>cJ _ _ (Wg q ah),Wg,⟨?_,λx af ph=>?_,λx af=>?_⟩⟩
  .rintro x (rfl|⟨q,ah,rfl⟩)
   .exact .inl (.inl rfl)
   .rcases iO q ah with ⟨p,aM,h⟩|au
    .exact .inl (.inr ⟨p,aM,h⟩)
    .exact .inr au
  .rw[cJ _ _ (λh=>ph (.inl h)),f2 x af λq ah h=>ph (.inr ⟨q,ah,h⟩)]
  .by_cases c:x=aV
   .rw[c,ea] at af;cases af
   .rw[cJ _ _ c] at af;exact ay x af
theorem alo:oX prog 251 253 2 (.agg #[.int .u64 0,U 0]) 16:=⟨by kernel_rfl,by kernel_rfl,by kernel_rfl,by kernel_rfl,rfl⟩
section
variable {T:TypeId} {m:jo} {R:dw} {a_:List dt} {es:an} {h:ai}
theorem Wh (M:cN T m R a_ es h){r K k N:Nat}(aK:r<m.ep)(fr:K<=10)(kZ:N=2 ^ K)(aH:N<=m.cq r)(ab:k<12)(aO:a_.length<3000000000000) :
 aw 159 [bu ⟨m.b,0⟩,U r,U N,U k] h λv ag=>∃bb,v=U 0/\cN T m (dD R r (gQ (hc k ab) (h9 K) (R r))) (a_++uA r K) bb ag/\cn (bA m es) h (bA m bb) ag:=by
 subst kZ;have:=alp M aK fr aH ab aO;rw[show(2:Int) ^ K=((2 ^ K:Nat):Int) by simp] at this;exact this
theorem alq {P:c1}{ao:Nat}{T:Nat->cM}(w:u2 P T){j:Nat}(aL:j<2 ^ P.E)(c7:dm (eB P ao T j)=true):(eB P ao T j)[2].toNat<2 ^ P.k:=by
 have hm:eB P ao T j∈(List.range (2 ^ P.E)).map (gm P ao T):=(Sd gb P.E (gm P ao T)).1.mem_iff.1 (atE.2 ⟨j,atq.2 aL,rfl⟩);obtain⟨i,_,e⟩:=atE.1 hm;rw[<-e] at c7 ⊢;have h0:(gm P ao T i)[0]=(T i)[0]:=by unfold gm;rw[aut];decide
 have ad:(gm P ao T i)[2]=(T i)[2]:=by unfold gm;rw[aut];decide
 rw[ad];refine w.leaf i ?_;unfold dm at c7 ⊢;rwa [h0] at c7
set_option maxHeartbeats 2000000 in
theorem akR {P:c1}(o:P.dk)(M:cN T m R a_ es h){hN:TypeId}{aV f:Nat}{dV:Bool}{is:an}(jb:h aV=dB (oC P m.b f dV is) hN)(ta:¬bA m es aV)
 (bf:f<=1000) (aK:f+2<m.ep) (ln:m.cq (f+2)=2 ^ P.E) {ao:Nat} (fP:ao<2 ^ P.k) (dp:u2 P (R (f+2))) (aO:a_.length<2000000000000) :
 aw 126 [bu ⟨aV,0⟩,U ao,U ((2 ^ P.E:Nat):Int)] h λv ag=>∃bb,v= .tuple #[]/\cN T m (dD R (f+2) (iT P ao (R (f+2)))) (a_++(hI f P.E++hI f P.E)) bb ag /\
  ag aV=dB (oC P m.b f (dV||ki P ao (R (f+2))) is) hN/\¬bA m bb aV/\cn (λx=>bA m es x∨x=aV) h (λx=>bA m bb x∨x=aV) ag:=by
 have ol:=o.fu;have ad2:=wS o;have wT:=o.E;have qW:=ET (f:Int) wT;have aH:=o.n;have LL:=o.k;have wl:=rH ((f:Int)+2);generalize r6:2 ^ P.E=N at *;have alr:dD R (f+2) (R (f+2))=R:=yZ R (f+2);generalize aek:R (f+2)=cw at *;have hB:al ((f:Int)+2)=((f+2:Nat):Int):=by rw[bl];omega
 have qc:((f+2:Nat):Int)=(f:Int)+2:=by omega
 have Wi:∀ {c:cM},c[2].toNat<2 ^ P.k->al ((c[2].toNat:Nat):Int)=((c[2].toNat:Nat):Int):=λaT=>Re LL aT;refine aiW _ _ _ ?_;unfold U9;refine⟨_,aF jb rfl,_,aF jb rfl,_,aF jb rfl,(Gu ol).to λaa aE=>⟨_,_,_,rfl,bL λaj ad f1 aC az=>?_⟩⟩;have f10:=aE.free f1;refine kC (aE.trans az) f10 aC rfl λaq aD b2 c9=>⟨_,aF b2 rfl,_,aF b2 rfl,_,aF b2 rfl,(Gs ol.qz).to λaJ bc=>⟨_,rfl,?_⟩⟩;have oV:(P.s:Int)*((P.k:Int)+1)+(P.t:Int)+1=(P.n:Nat):=IM P;rw[oV];have BU:aj≠aV:=λe=>by rw[e,jb] at f10;cases f10
 let fk:dw->List dt->an->Bool->ai->Prop:=λe1 eJ bb iu g=>cN T m e1 eJ bb g/\cn (λx=>bA m es x∨x=aV) h (λx=>bA m bb x∨x=aV) g/\¬bA m bb aV/\¬bA m bb aj/\g aV=dB (oC P m.b f iu is) hN/\g aj=aq aj;have hU:∀ {g:ai},g aj=aq aj->g aj=dB _ _:=λh=>h.trans b2;have mem:∀ {e1 eJ bb iu g fa hL eO g2},fk e1 eJ bb iu g->cN T m fa hL eO g2->cn (bA m bb) g (bA m eO) g2->fk fa hL eO iu g2:=fun⟨_,V,nl,gA,el,aC⟩ M2 v =>
  ⟨M2,V.trans (mS v),v.out (by rw[el];simp) nl,v.out (by rw[hU aC];simp) gA,v.get el nl,(v.2.1 aj (by rw[hU aC];simp) gA).trans aC⟩
 have bE:∀ {e1 eJ bb iu g g2},fk e1 eJ bb iu g->bB g g2->fk e1 eJ bb iu g2:=fun⟨M,V,nl,gA,el,aC⟩ k=>⟨M.bE k,V.more k,nl,gA,k.get el,(k aj (by rw[hU aC];simp)).trans aC⟩;have loc:∀ {e1 eJ bb iu g b g2},fk e1 eJ bb iu g->¬bA m bb b->b≠aV->b≠aj->cn (λx=>bA m es x∨x=aV) h (λx=>bA m bb x∨x=aV) g2->(∀y,y≠b->g2 y=g y)->fk e1 eJ bb iu g2:=fun⟨M,_,nl,gA,el,aC⟩ au aO aa V o =>
  ⟨M.move λy aA=>o y λe=>au (e▸aA),V,nl,gA,(o aV (atf aO)).trans el,(o aj (atf aa)).trans aC⟩
 have fresh:∀ {e1 eJ bb iu g b},fk e1 eJ bb iu g->g b=none->h b=none/\¬bA m bb b/\b≠aV/\b≠aj:=fun⟨M,V,nl,gA,el,aC⟩ au =>
  ⟨V.2.2 _ au,M.out au,(λe=>by rw[e,el] at au;cases au),λe=>by rw[e,hU aC] at au;cases au⟩
 have LM:∀(F:Nat->cM) (i:Nat),dD R (f+2) F (f+2) i=F i:=λF i=>by unfold dD;rw[as8 rfl]
 let mix:(Nat->cM)->(Nat->cM)->Nat->Nat->cM:=λA B i p=>if p<i then A p else B p
 have CL:∀(A B:Nat->cM) (i:Nat),fs (dD R (f+2) (mix A B i)) (f+2,i) (A i)=dD R (f+2) (mix A B (i+1)):=λA B i=>by
  funext r j;show(if r=f+2/\j=i then A i else if r=f+2 then (if j<i then A j else B j) else R r j)=if r=f+2 then (if j<i+1 then A j else B j) else R r j
  by_cases aX:r=f+2
  .rw[as8 aX,as8 aX];by_cases aZ:j=i
   .rw[as8 ⟨aX,aZ⟩,d_,aZ]
   .rw[as7 (λh=>aZ h.2)];by_cases cp:j<i
    .rw[as8 cp,d_]
    .rw[as7 cp,cS]
  .rw[as7 (λh=>aX h.1),as7 aX,as7 aX]
 have Wj:∀(A B:Nat->cM) (i:Nat),mix A B i i=B i:=λA B i=>as7 (Nat.lt_irrefl i);have gF:fk R a_ es dV aJ:=by
  have qX:=M.bE (aD.trans bc);exact⟨qX,(iC (aD.trans bc) _).to λx af=> .inl af,ta,M.out f10,(aD.trans bc).get jb,bc aj (by rw[b2];simp)⟩
 refine⟨λq1 cA ct aP cP c8 g bI=>q1=⟨aV,0⟩/\cA=ao/\ct=(N:Nat)/\aP=⟨aj,0⟩/\cP=(P.n:Nat)/\∃(i:Nat) (bb:an),c8=i/\i<=N/\bI=N-i/\fk (dD R (f+2) (mix (gm P ao cw) cw i)) (a_++writes ((f:Int)+2) i) bb dV g,
  ⟨N,rfl,rfl,rfl,rfl,rfl,0,es,rfl,by omega,rfl,by
   have e:mix (gm P ao cw) cw 0=cw:=by funext p;exact cS
   rw[e,alr];simpa [writes] using gF⟩,?_⟩
 clear gF;rintro q1 cA ct aP cP c8 g bI ⟨rfl,rfl,rfl,rfl,rfl,i,ir,rfl,hi,rfl,S⟩;have LN:=wl i;refine b6 (λb1=>?_) λc3=>?_
 .have bN:i<N:=by omega
  have el:=S.2.2.2.2.1;refine⟨some ⟨m.b,0⟩,aF el rfl,_,aF el rfl,?_⟩;rw[hB];refine(s_ S.1 aK (show i<m.cq (f+2) by omega) (by rw[as9,LN];omega)).mono ?_;rintro _ g1 ⟨eO,rfl,mU,v1⟩;have hK:=mem S mU v1;rw[LM,Wj];refine⟨_,rfl,bL λaB g2 f2 a7 az=>?_⟩;obtain⟨gI,vz,vA,cE⟩:=fresh hK f2;have eV:=bE hK az;refine fG (n:=12) eV.2.1 gI a7 rfl λg3 lN n6 su=>⟨Int.NonNeg.mk _,Int.NonNeg.mk _,?_⟩;have iU:=loc eV vz vA cE lN su;refine nf (i:=11) lN gI n6 (by decide) λg4 o8 b5 ez=>?_;have gF:=loc iU vz vA cE o8 ez;rw[jr (by omega)] at b5;have fin:∀(g5:ai),fk (dD R (f+2) (mix (gm P ao cw) cw i)) (a_++writes ((f:Int)+2) i++[⟨((f+2:Nat):Int),i,false⟩]) eO dV g5->g5 aB=some (.cells (ae.cells (.ws 12 (gm P ao cw i))).toArray 69 (0,0)) ->
   ∃c9:Option aG,bR g5 aV (0+0)=some (bZ c9)/\∃dR,bR g5 aV (0+1)=some (U dR)/\∃cp:cM,bP g5 aB 0 cp/\aw 121 [bZ c9,U (al (dR+2)),U i,ec cp] g5 λv6 dL=>v6= .tuple #[]/\∃bc,bc<N-i/\((⟨aV,0⟩:aG)=⟨aV,0⟩/\(ao:Int)=ao/\(N:Int)=(N:Nat)/\(⟨aj,0⟩:aG)=⟨aj,0⟩/\(P.n:Int)=(P.n:Nat)/\∃(di:Nat) (bb:an),al ((i:Int)+1)=di/\di<=N/\bc=N-di/\fk (dD R (f+2) (mix (gm P ao cw) cw di)) (a_++writes ((f:Int)+2) di) bb dV dL):=by
   intro g5 gE cD;have CM:=gE.2.2.2.2.1;refine⟨some ⟨m.b,0⟩,aF CM rfl,_,aF CM rfl,_,da cD,?_⟩;rw[hB];refine(tK gE.1 aK (show i<m.cq (f+2) by omega) _ (by simp only[as9,LN,atA];omega)).mono ?_;rintro _ g6 ⟨xw,rfl,kS,v6⟩;rw[CL] at kS;refine⟨rfl,N-(i+1),by omega,rfl,rfl,rfl,rfl,rfl,i+1,xw,bl,by omega,rfl,?_⟩;have:=mem gE kS v6;rw[yD,<-qc,show ∀a b:dt,a_++(writes ((f+2:Nat):Int) i++[a,b])=a_++writes ((f+2:Nat):Int) i++[a]++[b] by simp];rw[<-qc] at this;exact this
  have g0:((cw i).set 11 (4611686018427387904+UInt64.ofNat i))[0]=(cw i)[0]:=by rw[aut];decide
  have EH:((cw i).set 11 (4611686018427387904+UInt64.ofNat i))[1]=(cw i)[1]:=by rw[aut];decide
  have IL:((cw i).set 11 (4611686018427387904+UInt64.ofNat i))[2]=(cw i)[2]:=by rw[aut];decide
  refine b6 (λtj=>?_) λtj=>?_
  .refine⟨Int.NonNeg.mk _,Int.NonNeg.mk _,_,gi b5 (i:=0) (by decide),?_⟩;rw[g0];by_cases c7:dm (cw i)=true
   .have aa:(cw i)[0]=1:=by have:=te (cw i);rw[c7] at this;exact atC this.symm
    have vB:=dp.leaf i c7;refine eh (atl aa) ⟨_,aF (hU gF.2.2.2.2.2) rfl,_,aF gF.2.2.2.2.1 rfl,Int.NonNeg.mk _,Int.NonNeg.mk _,_,gi b5 (i:=2) (by decide),Int.NonNeg.mk _,Int.NonNeg.mk _,_,gi b5 (i:=1) (by decide),?_⟩;rw[IL,EH,Wi vB];refine(VZ LL fP vB).to λg5 bU=>⟨_,rfl,⟨by have:=gi (bU.get b5) (i:=1) (by decide);rw[EH] at this;exact this,trivial⟩,⟨aF (bU.get (hU gF.2.2.2.2.2)) rfl,trivial⟩,Int.NonNeg.mk _,Int.NonNeg.mk _,?_⟩;have gE:=bE gF bU;refine nf (i:=11) gE.2.1 gI (bU.get b5) (by decide) λg6 o9 dK eI=>fin g6 (loc gE vz vA cE o9 eI) ?_;have qE:=y7 P.k ao (cw i)[2].toNat;rw[dK,JH];unfold gm me;rw[as8 ⟨by omega,c7⟩,show(P.k:Int)-(ji P.k ao (cw i)[2].toNat:Nat)=((P.k-ji P.k ao (cw i)[2].toNat:Nat):Int) by omega,bl,jr (by omega)]
   .have aa:¬(cw i)[0]=1:=λh=>c7 (by rw[te];exact atl h);refine b0 (ati aa) (fin g4 gF ?_);rw[b5];unfold gm me;rw[as7 λh=>c7 h.2]
  .refine fin g4 gF ?_;rw[b5];unfold gm me;rw[as7 λh=>tj (by omega)]
 have hi:i=N:=by omega
 subst hi;have el:=S.2.2.2.2.1;refine⟨some ⟨m.b,0⟩,aF el rfl,_,aF el rfl,?_⟩;rw[hB];have z_:fk (dD R (f+2) (gm P ao cw)) (a_++writes ((f:Int)+2) i) ir dV g:=⟨cN.y3 (f:=gm P ao cw) (g:=cw) S.1 (by omega),S.2⟩;refine(Wh z_.1 aK (by omega) r6.symm (by omega) (k:=11) (by decide) (by simp only[as9,LN];omega)).mono ?_;rintro _ g1 ⟨eO,rfl,mU,v1⟩;have hK:fk (dD R (f+2) (eB P ao cw)) (a_++hI f P.E) eO dV g1:=by
  have:=mem z_ mU v1;rw[w0,qY,atr,<-r6,Fc] at this;exact this
 clear z_ S mU v1 el;refine⟨_,rfl,?_⟩;have nt:((List.range P.n).map λj=>hX P ao (eB P ao cw j)).map (·.2)=hq P ao cw:=by
  unfold hq;rw[auf];exact atv λj _=>Fk P ao _
 have ku:(hq P ao cw).length=P.n:=by simp[hq]
 have dl:=JS P.k P.s P.t (by have:=o.s;omega) (hq P ao cw) (by rw[ku];unfold c1.n;omega);have als:∀j,j<i->dm (eB P ao cw j)=true->(eB P ao cw j)[2].toNat<2 ^ P.k:=λj aL=>alq dp (by omega);refine⟨λbs e4 n25 bJ n26 s1 n27 g bI=>bs=⟨aV,0⟩/\e4=ao/\n25=(i:Nat)/\bJ=⟨aj,0⟩/\n26=(P.n:Nat)/\∃j:Nat,n27=j/\j<=P.n/\bI=P.n-j/\fk (dD R (f+2) (eB P ao cw)) (a_++hI f P.E) eO dV g/\cI 2 m2 h g s1 ((List.range j).map λj=>hX P ao (eB P ao cw j))/\∀q,s1.q=some q->¬bA m eO q.b/\q.b≠aV/\q.b≠aj,
  ⟨P.n,rfl,rfl,rfl,rfl,rfl,0,rfl,by omega,rfl,hK,cI.e9 ..,λq ah=>by cases ah⟩,?_⟩
 clear hK;rintro bs e4 n25 bJ n26 s1 n27 g bI ⟨rfl,rfl,rfl,rfl,rfl,j,rfl,aL,rfl,S,dZ,sep⟩;refine b6 (λb1=>?_) λc3=>?_
 .have lg:j<P.n:=by omega
  have el:=S.2.2.2.2.1;refine⟨some ⟨m.b,0⟩,aF el rfl,⟨m.b,0⟩,rfl,_,aF S.1.top rfl,_,aF el rfl,?_⟩;rw[hB];refine S.1.B9 aK λq aT=>⟨_,aT,_,rfl,by omega,by show(j:Int)+1<=(m.cq (f+2):Nat);omega,eB P ao cw j,?_,?_⟩
  .show bP g (m.kI (f+2)) (0+Int.toNat (j:Int)*12) _;rw[show 0+Int.toNat (j:Int)*12=j*12 by omega];have:=S.1.rd aK (show j<m.cq (f+2) by omega);rw[LM] at this;exact this
  refine bL λaS g2 f2 a7 az=>?_;obtain⟨o3,Jk,Rx,n31⟩:=fresh S f2;have eV:=bE S az;refine fG (n:=12) eV.2.1 o3 a7 rfl λg3 lN n6 su=>bL λb7 g4 f4 b5 bc=>?_;have iU:=loc eV Jk Rx n31 lN su;obtain⟨q9,Wk,Wl,n41⟩:=fresh iU f4;have n43:b7≠aS:=λe=>by rw[e,n6] at f4;cases f4
  have gF:=bE iU bc;refine qe gF.2.1 q9 b5 rfl λg5 pb cD cY=>⟨Int.NonNeg.mk _,Int.NonNeg.mk _,?_⟩;have gE:=loc gF Wk Wl n41 pb cY;have Gv:=(cY aS (atf n43)).trans (bc.get n6);have Wm:∀q,s1.q=some q->q.b≠aS:=λq ah e=>(dZ.b_ ah).2 (e▸f2);have Gp:∀q,s1.q=some q->q.b≠b7:=λq ah e=>by
   have aa:=(dZ.bE az).move (ag:=g3) λq ah=>su _ (Wm q ah);exact(aa.b_ ah).2 (e▸f4)
  have Wn:cI 2 m2 h g5 s1 ((List.range j).map λj=>hX P ao (eB P ao cw j)):=(((dZ.bE az).move (ag:=g3) λq ah=>su _ (Wm q ah)).bE bc).move λq ah=>cY _ (Gp q ah);have fin:∀(g6:ai) (x:a8×Int) (t:TypeId),fk (dD R (f+2) (eB P ao cw)) (a_++hI f P.E) eO dV g6->cI 2 m2 h g6 s1 ((List.range j).map λj=>hX P ao (eB P ao cw j))->x=hX P ao (eB P ao cw j) ->
   bn g6 (.cells #[ak x.1,U x.2] t) λb4 fe=>en prog 251 s1 (.s ⟨some ⟨b4,0⟩,1,1,none⟩) fe λbM gB=>∃dT,dT<P.n-j/\((⟨aV,0⟩:aG)=⟨aV,0⟩/\(ao:Int)=ao/\(i:Int)=(i:Nat)/\(⟨aj,0⟩:aG)=⟨aj,0⟩/\(P.n:Int)=(P.n:Nat)/\∃cy:Nat,al ((j:Int)+1)=cy/\cy<=P.n/\dT=P.n-cy/\fk (dD R (f+2) (eB P ao cw)) (a_++hI f P.E) eO dV gB/\cI 2 m2 h gB bM ((List.range cy).map λj=>hX P ao (eB P ao cw j))/\∀q,bM.q=some q->¬bA m eO q.b/\q.b≠aV/\q.b≠aj):=by
   rintro g6 x t kq q4 af;refine cI.push alo kc O2 q4 [x] (by rfl) rfl (λb au=>kq.2.1.2.2 b au) (by simp;omega) (by decide) λcx g7 og Wo alu alv=>⟨P.n-(j+1),by omega,rfl,rfl,rfl,rfl,rfl,j+1,bl,by omega,rfl,?_,?_,λdf ek=>?_⟩
   .obtain⟨M,V,nl,gA,el,aC⟩:=kq;have st:∀y,g6 y≠none->(bA m eO y∨y=aV∨y=aj)->g7 y=g6 y:=λy aA aT=>Wo y aA λq ah e=>by
     obtain⟨Gw,zD,Gx⟩:=sep q ah;rcases aT with aT|aT|aT
     .exact Gw (e▸aT)
     .exact zD (e▸aT)
     .exact Gx (e▸aT)
    refine⟨M.move λy aA=>st y (M.dv aA) (.inl aA),?_,nl,gA,(st aV (by rw[el];simp) (.inr (.inl rfl))).trans el,(st aj (by rw[hU aC];simp) (.inr (.inr rfl))).trans aC⟩;refine⟨V.1,λy aA aH=>?_,λy aA=>V.2.2 y (alv y aA)⟩;rw[Wo y (by rw[V.2.1 y aA aH];exact aA) λq ah e=>aA (e▸(q4.b_ ah).1),V.2.1 y aA aH]
   .have e:(List.range (j+1)).map (λj=>hX P ao (eB P ao cw j))=(List.range j).map (λj=>hX P ao (eB P ao cw j))++[x]:=by simp[ato,af]
    rw[e];exact og
   .rcases alu df ek with ⟨q,ah,e⟩|au
    .rw[e];exact sep q ah
    .exact(fresh kq au).2
  have j0:=te (eB P ao cw j);refine⟨_,gi Gv (i:=0) (by decide),?_⟩;by_cases c7:dm (eB P ao cw j)=true
  .have aa:(eB P ao cw j)[0]=1:=by rw[c7] at j0;exact atC j0.symm
   have vB:=als j (by omega) c7;refine eh (atl aa) ⟨Int.NonNeg.mk _,Int.NonNeg.mk _,_,gi Gv (i:=1) (by decide),_,aF gE.2.2.2.2.1 rfl,Int.NonNeg.mk _,Int.NonNeg.mk _,_,gi Gv (i:=2) (by decide),?_⟩;rw[Wi vB];refine(VZ LL fP vB).to λg6 cb=>⟨_,rfl,⟨gi (cb.get Gv) (i:=1) (by decide),trivial⟩,?_⟩;have kq:=bE gE cb;refine qe kq.2.1 q9 (cb.get cD) rfl λg7 lu fq eU=>⟨_,aF fq rfl,_,aF fq rfl,fin g7 ((eB P ao cw j)[1],_) _ (loc kq Wk Wl n41 lu eU) ((Wn.bE cb).move λq ah=>eU _ (Gp q ah)) ?_⟩;rw[Ro c7]
  .have aa:¬(eB P ao cw j)[0]=1:=λh=>c7 (by rw[j0];exact atl h);refine b0 (ati aa) ⟨_,aF cD rfl,_,aF cD rfl,fin g5 (0,-1) _ gE Wn ?_⟩;unfold hX;rw[as7 c7]
 have aL:j=P.n:=by omega
 subst aL;refine⟨_,aF (hU S.2.2.2.2.2) rfl,_,aF (hU S.2.2.2.2.2) rfl,_,aF (hU S.2.2.2.2.2) rfl,?_⟩;refine(ak1 (k:=P.k) (s:=P.s) (t:=P.t) ol.qz dZ.rd (by simp[c1.n]) (λx af=>?_) ?_).mono ?_
 .obtain⟨j,_,rfl⟩:=atE.1 af;rw[Fk];unfold tl;have:=y7 P.k ao (eB P ao cw j)[2].toNat;split<;>omega
 .intro a b aa ad
  have qZ:b<P.n:=by simpa using ad
  have w4:∀j,j<P.n->((List.range P.n).map λj=>hX P ao (eB P ao cw j)).getD j pW=mV P.k (gb (eB P ao cw j)):=λj aL=>by
   rw[<-JT o dp (by omega)];simp[List.getD,aL]
  rw[w4 a (by omega),w4 b qZ];exact Rt (by have:=o.k;omega) (RF P ao cw aa (by omega))
 rintro _ g2 ⟨b3,du,rfl,q4,og,az⟩;rw[nt] at q4 og;have Fl:(jK P.k P.s P.t (hq P ao cw)).length=P.n:=dl.len.trans ku;have alw:∀x∈jY P.k P.s P.t (hq P ao cw),x<P.n:=λx af=>by have aa:=dl.lost x af;have ad:=rC (hq P ao cw);omega
 have alx:∀x∈jK P.k P.s P.t (hq P ao cw),x<P.n:=λx af=>by have:=dl.lt x af;omega
 have Wp:=og.len;have eV:=bE S az;have aly:decide ((0:Int)<(du.len:Int))=ki P ao cw:=by
  unfold ki;rw[Wp];unfold gG;rw[ath];cases jY P.k P.s P.t (hq P ao cw)<;>simp
 have dd:∀q,b3.q=some q->¬bA m eO q.b/\q.b≠aV/\q.b≠aj:=λq ah=>(fresh S (q4.b_ ah).1).2;have dj:∀q,du.q=some q->¬bA m eO q.b/\q.b≠aV/\q.b≠aj:=λq ah=>(fresh S (og.b_ ah).1).2;generalize alz:jK P.k P.s P.t (hq P ao cw)=pl at *;generalize LO:jY P.k P.s P.t (hq P ao cw)=lo at *;have ass:lo.length<=1000000:=by
  have aa:=auq (λi=>(hh P.k P.s P.t (hq P ao cw) (fU P.k)).getD i none==none) (List.range (fc (hq P ao cw)));have ad:=rC (hq P ao cw);rw[atj] at aa;rw[<-LO];unfold jY;omega
 rw[show(gG lo).length=lo.length by simp[gG]] at Wp;refine⟨b3,du,rfl,λef n36 n37 dC fK bg=>ef=⟨aV,0⟩/\n36=(i:Nat)/\n37=(P.n:Nat)/\dC=b3/\fK=du/\fk (dD R (f+2) (eB P ao cw)) (a_++hI f P.E) eO (dV||ki P ao cw) bg/\b9 dg g bg b3 (gG pl)/\b9 dg g bg du (gG lo),?_,?_⟩
 .have put:∀b:Bool,b=(dV||ki P ao cw)->a1 g2 ⟨aV,0+5⟩ [.bool b] λhP=>(⟨aV,0⟩:aG)=⟨aV,0⟩/\(i:Int)=(i:Nat)/\(P.n:Int)=(P.n:Nat)/\b3=b3/\du=du/\fk (dD R (f+2) (eB P ao cw)) (a_++hI f P.E) eO (dV||ki P ao cw) hP/\b9 dg g hP b3 (gG pl)/\b9 dg g hP du (gG lo):=by
   rintro b au;obtain⟨M,V,nl,gA,el,aC⟩:=eV;refine JJ V (.inr rfl) el (by simp) λg3 lN n6 su=>⟨rfl,rfl,rfl,rfl,rfl,⟨M.move λy aA=>su y λe=>nl (e▸aA),lN,nl,gA,by rw[n6,<-au];rfl,(su aj BU).trans aC⟩,q4.move λq ah=>su _ (dd q ah).2.1,og.move λq ah=>su _ (dj q ah).2.1⟩
  refine⟨dV,aF eV.2.2.2.2.1 rfl,?_⟩;cases dV with
  | true=>exact eh rfl (put true rfl)
  | false=>refine b0 rfl (put _ ?_);rw[<-aly];rfl
 clear eV;rintro ef n36 n37 dC fK g3 ⟨rfl,rfl,rfl,rfl,rfl,iU,lR,lS⟩;refine⟨λeH n38 n39 fz gL n40 bg bI=>eH=⟨aV,0⟩/\n38=(i:Nat)/\n39=(P.n:Nat)/\fz=dC/\gL=fK/\∃(j:Nat) (bb:an),n40=j/\j<=i/\bI=i-j/\fk (dD R (f+2) (mix (kl P ao cw) (eB P ao cw) j)) (a_++hI f P.E++writes ((f:Int)+2) j) bb (dV||ki P ao cw) bg/\b9 dg g bg dC (gG pl)/\b9 dg g bg fK (gG lo)/\(∀q,dC.q=some q->¬bA m bb q.b)/\∀q,fK.q=some q->¬bA m bb q.b,
  ⟨i,rfl,rfl,rfl,rfl,rfl,0,eO,rfl,by omega,rfl,?_,lR,lS,λq ah=>(dd q ah).1,λq ah=>(dj q ah).1⟩,?_⟩
 .have e:mix (kl P ao cw) (eB P ao cw) 0=eB P ao cw:=by funext p;exact cS
  rw[e];simpa [writes] using iU
 clear iU lR lS;rintro eH n38 n39 fz gL n40 g4 bI ⟨rfl,rfl,rfl,rfl,rfl,j,hO,rfl,aL,rfl,gF,lR,lS,zf,zg⟩;have ast:=wl j;have nd:∀l:List dt,(a_++hI f P.E++l).length<=a_.length+512+4*102400+l.length:=λl=>by rw[as9,as9];omega
 refine b6 (λb1=>?_) λc3=>?_
 .have lg:j<i:=by omega
  have el:=gF.2.2.2.2.1;refine⟨some ⟨m.b,0⟩,aF el rfl,_,aF el rfl,?_⟩;rw[hB];refine(s_ gF.1 aK (show j<m.cq (f+2) by omega) (by have:=nd (writes ((f:Int)+2) j);omega)).mono ?_;rintro _ g5 ⟨r1,rfl,iJ,v5⟩;have gE:=mem gF iJ v5;rw[LM,Wj];have LP:∀ {s:an} {l:List Int},b9 dg g g4 s l->(∀q,s.q=some q->¬bA m hO q.b)->b9 dg g g5 s l/\∀q,s.q=some q->¬bA m r1 q.b:=λo n=>⟨o.move λq ah=>v5.2.1 _ (o.b_ ah).2 (n q ah),λq ah=>v5.out (o.b_ ah).2 (n q ah)⟩;obtain⟨lR,zf⟩:=LP lR zf;obtain⟨lS,zg⟩:=LP lS zg;refine⟨_,rfl,bL λaB g6 f6 dK cb=>?_⟩;obtain⟨gI,vz,vA,cE⟩:=fresh gE f6;have kq:=bE gE cb;have t6:∀q,fz.q=some q->q.b≠aB:=λq ah e=>(lR.b_ ah).2 (e▸f6);have t7:∀q,gL.q=some q->q.b≠aB:=λq ah e=>(lS.b_ ah).2 (e▸f6);refine fG (n:=12) kq.2.1 gI dK rfl λg7 lu fq eU=>?_;have tL:=loc kq vz vA cE lu eU;have lR:b9 dg g g7 fz (gG pl):=(lR.bE cb).move λq ah=>eU _ (t6 q ah);have lS:b9 dg g g7 gL (gG lo):=(lS.bE cb).move λq ah=>eU _ (t7 q ah);have fin:∀(g8:ai),fk (dD R (f+2) (mix (kl P ao cw) (eB P ao cw) j)) (a_++hI f P.E++writes ((f:Int)+2) j++[⟨((f+2:Nat):Int),j,false⟩]) r1 (dV||ki P ao cw) g8->g8 aB=some (.cells (ae.cells (.ws 12 (kl P ao cw j))).toArray 69 (0,0))->b9 dg g g8 fz (gG pl)->b9 dg g g8 gL (gG lo) ->
   ∃c9:Option aG,bR g8 aV (0+0)=some (bZ c9)/\∃dR,bR g8 aV (0+1)=some (U dR)/\∃cp:cM,bP g8 aB 0 cp/\aw 121 [bZ c9,U (al (dR+2)),U j,ec cp] g8 λv6 dL=>v6= .tuple #[]/\∃bc,bc<i-j/\((⟨aV,0⟩:aG)=⟨aV,0⟩/\(i:Int)=(i:Nat)/\(P.n:Int)=(P.n:Nat)/\fz=fz/\gL=gL/\∃(cy:Nat) (bb:an),al ((j:Int)+1)=cy/\cy<=i/\bc=i-cy/\fk (dD R (f+2) (mix (kl P ao cw) (eB P ao cw) cy)) (a_++hI f P.E++writes ((f:Int)+2) cy) bb (dV||ki P ao cw) dL/\b9 dg g dL fz (gG pl)/\b9 dg g dL gL (gG lo)/\(∀q,fz.q=some q->¬bA m bb q.b)/\∀q,gL.q=some q->¬bA m bb q.b):=by
   intro g8 j_ gg wy Cp;have xy:=j_.2.2.2.2.1;refine⟨some ⟨m.b,0⟩,aF xy rfl,_,aF xy rfl,_,da gg,?_⟩;rw[hB];refine(tK j_.1 aK (show j<m.cq (f+2) by omega) _ (by have:=nd (writes ((f:Int)+2) j);rw[as9,atA];omega)).mono ?_;rintro _ g9 ⟨CP,rfl,py,v9⟩;rw[CL] at py;refine⟨rfl,i-(j+1),by omega,rfl,rfl,rfl,rfl,rfl,j+1,CP,bl,by omega,rfl,?_,wy.move λq ah=>v9.2.1 _ (wy.b_ ah).2 (zf q ah),Cp.move λq ah=>v9.2.1 _ (Cp.b_ ah).2 (zg q ah),λq ah=>v9.out (wy.b_ ah).2 (zf q ah),λq ah=>v9.out (Cp.b_ ah).2 (zg q ah)⟩;have:=mem j_ py v9;rw[yD,<-qc,show ∀a b:dt,a_++hI f P.E++(writes ((f+2:Nat):Int) j++[a,b])=a_++hI f P.E++writes ((f+2:Nat):Int) j++[a]++[b] by simp];rw[<-qc] at this;exact this
  refine b6 (λtj=>?_) λtj=>?_
  .refine⟨Int.NonNeg.mk _,Int.NonNeg.mk _,nf (i:=11) lu gI fq (by decide) λg8 rY gg e_=>fin g8 (loc tL vz vA cE rY e_) ?_ (lR.move λq ah=>e_ _ (t6 q ah)) (lS.move λq ah=>e_ _ (t7 q ah))⟩;rw[gg,jr (by omega)];unfold kl;rw[LO,as7 λh=>by have:=alw j h;omega,cS]
  .have jn:j<P.n:=by omega
   refine⟨λed n43 n44 gK iQ n45 e3 n46 bg bI=>ed=⟨aV,0⟩/\n43=(i:Nat)/\n44=(P.n:Nat)/\gK=fz/\iQ=gL/\n45=(j:Nat)/\e3=⟨aB,0⟩/\∃z:Nat,n46=z/\z<=lo.length/\bI=lo.length-z/\fk (dD R (f+2) (mix (kl P ao cw) (eB P ao cw) j)) (a_++hI f P.E++writes ((f:Int)+2) j++[⟨((f+2:Nat):Int),j,false⟩]) r1 (dV||ki P ao cw) bg/\bg aB=some (.cells (ae.cells (.ws 12 (if j∈lo.take z then gz else eB P ao cw j))).toArray 69 (0,0))/\b9 dg g bg fz (gG pl)/\b9 dg g bg gL (gG lo),
    ⟨lo.length,rfl,rfl,rfl,rfl,rfl,rfl,rfl,0,rfl,by omega,rfl,tL,by rw[List.take_zero,as7 (by simp)];exact fq,lR,lS⟩,?_⟩
   clear tL fq lu lR lS kq;rintro ed n43 n44 gK iQ n45 e3 n46 g8 bI ⟨rfl,rfl,rfl,rfl,rfl,rfl,rfl,z,rfl,bt,rfl,j_,gg,lR,lS⟩;refine b6 (λasu=>?_) λasv=>?_
   .have tO:z<lo.length:=by omega
    refine lS.rd.e0 (i:=z) (by simpa [gG] using tO) λq _ c=>⟨_,c,?_⟩;have cR:(gG lo)[z]'(by simpa [gG] using tO)=(lo[z]:Int):=by simp[gG]
    rw[cR];have pB:lo.take (z+1)=lo.take z++[lo[z]]:=by rw[atV,atc tO];rfl
    refine b6 (λWq=>?_) λWq=>?_
    .rw[<-y2];refine fG (n:=12) j_.2.1 gI gg (by simp[ae.cells]) λg9 z2 iE e2=>⟨lo.length-(z+1),by omega,rfl,rfl,rfl,rfl,rfl,rfl,rfl,z+1,bl,by omega,rfl,loc j_ vz vA cE z2 e2,?_,lR.move λq ah=>e2 _ (t6 q ah),lS.move λq ah=>e2 _ (t7 q ah)⟩;rw[iE,as8 (by rw[pB,show lo[z]=j by omega];simp)]
    .refine⟨lo.length-(z+1),by omega,rfl,rfl,rfl,rfl,rfl,rfl,rfl,z+1,bl,by omega,rfl,j_,?_,lR,lS⟩;have cX:¬j=lo[z]:=λe=>Wq (by rw[e]);have e:(j∈lo.take (z+1))↔j∈lo.take z:=by rw[pB,atw];exact⟨λh=>h.elim id λh=>absurd (by simpa using h) cX,.inl⟩
     rw[gg];simp only[e]
   .have tO:z=lo.length:=by omega
    subst tO;refine lR.rd.e0 (i:=j) (by simp[gG];omega) λq _ c=>⟨_,c,Int.NonNeg.mk _,Int.NonNeg.mk _,?_⟩;have cR:(gG pl)[j]'(by simp[gG];omega)=(pl.getD j 0:Nat):=by simp[gG,List.getD,show j<pl.length by omega]
    rw[cR];refine nf (i:=11) j_.2.1 gI gg (by decide) λg9 z2 iE e2=>fin g9 (loc j_ vz vA cE z2 e2) ?_ (lR.move λq ah=>e2 _ (t6 q ah)) (lS.move λq ah=>e2 _ (t7 q ah));have JU:pl.getD j 0<2 ^ 63:=by
     have hm:pl.getD j 0∈pl:=by simp[List.getD,show j<pl.length by omega]
     have:=alx _ hm;omega
    rw[iE,jr JU,List.take_length];unfold kl;rw[LO,alz,as8 jn]
 .have lg:j=i:=by omega
  subst lg;have el:=gF.2.2.2.2.1;refine⟨some ⟨m.b,0⟩,aF el rfl,_,aF el rfl,?_⟩;rw[hB];have z_:fk (dD R (f+2) (kl P ao cw)) (a_++hI f P.E++writes ((f:Int)+2) j) hO (dV||ki P ao cw) g4:=⟨cN.y3 (f:=kl P ao cw) (g:=eB P ao cw) gF.1 (by omega),gF.2⟩;refine(Wh z_.1 aK (by omega) r6.symm (by omega) (k:=11) (by decide) (by have:=nd (writes ((f:Int)+2) j);omega)).mono ?_;rintro _ g5 ⟨r1,rfl,iJ,v5⟩;obtain⟨kS,o9,alA,_,CO,_⟩:=mem z_ iJ v5;rw[w0,qY,atr,<-r6,Fc,atr] at kS;exact⟨_,rfl,r1,rfl,kS,CO,alA,o9⟩
end

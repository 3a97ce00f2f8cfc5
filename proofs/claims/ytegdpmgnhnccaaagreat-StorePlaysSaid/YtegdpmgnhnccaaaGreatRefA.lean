import Derived.Test.YtegdpmgnhnccaaaGreatRefL
namespace Go.Proofs.Tryz
open Go Go.cQ Go.RowKit
set_option maxRecDepth 8000
section
variable {T:TypeId} {m:jo} {R:dw} {a_:List dt} {es:an} {h:ai}
set_option maxHeartbeats 4000000 in
theorem VD {P:c1}{f:Nat}(o:P.dk)(L:oR m P f)(M:cN T m R a_ es h){hN:TypeId}{aV:Nat}{dV:Bool}{is:an}{ids:List a8}(jb:h aV=dB (oC P m.b f dV is) hN)(eY:b9 ak kf h is ids)(ta:¬bA m es aV)(sep:∀q,is.q=some q->q.b≠aV/\¬bA m es q.b)(Gc:ids.length<1000000000000)
 {ao to:Nat} (fP:ao<2 ^ P.k) (yW:to<2 ^ P.k) {bi:a8} (gJ:bi.toNat<=2147483648) (lK:qb P (jg f R)) {op:fN} {k at_:Int} {d:ei} (fE:wH op k at_ d) (aO:a_.length<1000000000000) :
 aw 68 [bu ⟨aV,0⟩,U k,ak bi,U at_,ec d,U ao,U to] h λr ag=>∃bb dM,r= .tuple #[ec (j4 P bi ao (jg f R)).1,.bool (j4 P bi ao (jg f R)).2]/\cN T m (lL f R (kY P op bi ao to (jg f R))) (a_++mI P.k P.s P.t f ao) bb ag /\
  ag aV=dB (oC P m.b f (dV||qV P op bi ao to (jg f R)) dM) hN/\b9 ak kf ag dM (meets op bi ids)/\¬bA m bb aV/\(∀q,dM.q=some q->q.b≠aV/\¬bA m bb q.b)/\(∀q,dM.q=some q->(∃p,is.q=some p/\q.b=p.b)∨h q.b=none)/\cn (λx=>bA m es x∨qk aV is x) h (λx=>bA m bb x∨qk aV dM x) ag:=by
 have ol:=o.fu;have acY:=wS o;have wT:=o.E;have aH:=o.n;have acZ:P.n=P.m+1:=rfl;have kZ:(2:Int) ^ P.E=((2 ^ P.E:Nat):Int):=by simp
 have bz:=L.kO;rw[kZ] at bz;have qW:=ET (f:Int) wT;have yX:∀n,(ic f (fV P.k P.s P.t f ao) n).length<=2*n:=λn=>IF _ _ _;have ac0:=L.bf;have hB:al ((f:Int)+2)=((f+2:Nat):Int):=by rw[bl];omega
 have qc:(f:Int)+2=((f+2:Nat):Int):=by omega
 have lM:=L.e5;have jq:=L.ep;have wE:P.k<=10:=o.k;have o5:0<P.m:=by have:=o.t;unfold c1.m;omega
 have QU:P.m<2 ^ P.E:=by omega
 have asd:((2 ^ P.k:Nat):Int)=2 ^ P.k:=by simp
 have ase:2 ^ P.k<=2 ^ 10:=atg (by decide) wE;have ab:k=0∨k=1∨(k=2/\0<=at_/\at_<=6)∨k=3:=by
  cases op with
  | look=>exact .inl fE
  | put bq=>exact .inr (.inl fE.1)
  | part a x y=>exact .inr (.inr (.inl ⟨fE.1,by have:=fE.2.1;omega,by have:=fE.2.1;have:=fE.2.2.1;omega⟩))
  | drop=>exact .inr (.inr (.inr fE))
 have tg:¬2147483648<bi:=λh=>by have:=atY.1 h;have e:(2147483648:a8).toNat=2147483648:=rfl;omega
 refine ahY _ _ _ _ _ _ _ ?_;unfold UN;refine bL λaj aa f1 aC aE=>bL λaB ad f2 a7 az=>⟨_,aF ((aE.trans az).get jb) rfl,λq1 ay bO aI aQ bm aP bs g=>q1=⟨aV,0⟩/\k=ay/\bi=bO/\at_=aI/\aQ=ao/\bm=to/\aP=⟨aj,0⟩/\bs=⟨aB,0⟩/\g=ad,?_,?_⟩
 .refine b0 (hv) (b0 (ati (show ¬3<k by omega)) (b0 (ati tg) (b0 (ati (show ¬(ao:Int)<0 by omega)) (b0 (ati (show ¬2 ^ P.k<=(ao:Int) by omega)) (b0 (ati (show ¬(to:Int)<0 by omega)) (b0 (ati (show ¬2 ^ P.k<=(to:Int) by omega)) ?_))))));refine b6 (λaZ=>?_) λaZ=>⟨rfl,rfl,rfl,rfl,rfl,rfl,rfl,rfl,rfl⟩;exact b0 (hv) (b0 (ati (show ¬6<at_ by omega)) ⟨rfl,rfl,rfl,rfl,rfl,rfl,rfl,rfl,rfl⟩)
 rintro q1 ay bO aI aQ bm aP bs g ⟨rfl,rfl,rfl,rfl,rfl,rfl,rfl,rfl,rfl⟩;have eA:=aE.trans az;have hW:=eA.get jb;refine⟨_,aF hW rfl,_,aF hW rfl,_,aF hW rfl,_,aF hW rfl,(akG ol (f:Int) (by omega) fP g).mono ?_⟩;rintro _ aq ⟨sp,rfl,k2,aD⟩;rw[qa o f ao] at k2;have qP:=aD.get hW;refine⟨sp,rfl,_,aF qP rfl,_,aF qP rfl,_,aF qP rfl,(Lh ol).to λaJ bc=>⟨_,_,_,rfl,bL λaS aW f5 cD bU=>?_⟩⟩;rw[bz];have yY:=k2.len;simp only[ath,atj] at yY;generalize BT:jg f R=dx at *;have o4:=bc.trans bU;have hy:=(eA.trans aD).trans o4;have f50:h aS=none:=(eA.trans aD).free (bc.free f5);let X:Nat->Prop:=λx=>x=aj∨x=aB∨∃q,sp.q=some q/\x=q.b;let gZ:an->an->Nat->Prop:=λbb dM x=>bA m bb x∨qk aV dM x;have VE:∀x,gZ es is x->h x≠none:=by
  rintro x (af|rfl|⟨q,ah,rfl⟩)
  .exact M.dv af
  .rw[jb];simp
  .exact(eY.b_ ah).2
 have qd:∀x,X x->h x=none/\aW x≠none:=by
  rintro x (rfl|rfl|⟨q,ah,rfl⟩)
  .exact⟨f1,by rw[(az.trans aD).trans o4 |>.get aC];simp⟩
  .exact⟨aE.free f2,by rw[(aD.trans o4).get a7];simp⟩
  .exact⟨eA.free (k2.b_ ah).1,by rw[o4 _ (k2.b_ ah).2];exact(k2.b_ ah).2⟩
 have BV:¬X aS:=by
  rintro (e|e|⟨q,ah,e⟩)
  .rw[e,(az.trans aD).trans bc |>.get aC] at f5;cases f5
  .rw[e,(aD.trans bc).get a7] at f5;cases f5
  .exact(bc _ (k2.b_ ah).2▸(k2.b_ ah).2) (e▸f5)
 have rg:∀ {bg:ai},(∀x,X x->bg x=aW x)->fi ll bg sp ((List.range P.m).map (jN P f ao)):=λaf=>(k2.rd.bE l9 o4).move λq ah _=>af _ (.inr (.inr ⟨q,ah,rfl⟩));have Gd:∀ {bg:ai},(∀x,X x->bg x=aW x)->∀ {i:Nat},i<P.m->∀ {K:aG->Prop},(∀q,bR bg q.b (q.o+Int.toNat (i:Int)*2)=some (U ((f+(spot P ao i).1:Nat):Int))->bR bg q.b (q.o+Int.toNat (i:Int)*2+1)=some (U ((spot P ao i).2:Int))->K q)->∃q,sp.q=some q/\0<=(i:Int)/\(i:Int)+1<=(sp.len:Int)/\K q:=λ{bg} af {i} hi {K} fr=>by
  refine(rg af).e0 l9 (i:=i) (by simp;omega) λq ah iI=>?_;have e:((List.range P.m).map (jN P f ao))[i]'(by simp;omega)=jN P f ao i:=by simp
  rw[e] at iI;obtain⟨aX,aZ,_⟩:=iI;exact fr q (by rw[show(i:Int).toNat=i by omega];exact aX) (by rw[show(i:Int).toNat=i by omega];exact aZ)
 let fk:dw->List dt->an->Bool->an->List a8->ai->Prop:=λe1 eJ bb iu dM ng g=>cN T m e1 eJ bb g/\cn (gZ es is) h (gZ bb dM) g/\¬bA m bb aV/\(∀q,dM.q=some q->q.b≠aV/\¬bA m bb q.b)/\g aV=dB (oC P m.b f iu dM) hN/\b9 ak kf g dM ng/\(∀x,X x->¬gZ bb dM x)/\∀x,X x->g x=aW x;have akH:fk R a_ es dV is ids aW:=⟨M.bE hy,iC hy _,ta,sep,hy.get jb,eY.move λq ah=>hy _ (eY.b_ ah).2,λx af bV=>VE x bV (qd x af).1,λ_ _=>rfl⟩;have mem:∀ {e1 eJ bb iu dM ng g fa hL eO g2},fk e1 eJ bb iu dM ng g->cN T m fa hL eO g2->cn (bA m bb) g (bA m eO) g2->fk fa hL eO iu dM ng g2:=fun⟨_,V,nl,vs,el,so,vt,px⟩ M2 v =>
  ⟨M2,V.trans (mS v),v.out (by rw[el];simp) nl,λq ah=>⟨(vs q ah).1,v.out (so.b_ ah).2 (vs q ah).2⟩,v.get el nl,so.move λq ah=>v.2.1 _ (so.b_ ah).2 (vs q ah).2,λx af=>λbV=>bV.elim (λhm=>v.out (by rw[px x af];exact(qd x af).2) (λhm=>vt x af (.inl hm)) hm) λbf=>vt x af (.inr bf),λx af=>(v.2.1 x (by rw[px x af];exact(qd x af).2) λhm=>vt x af (.inl hm)).trans (px x af)⟩
 have bE:∀ {e1 eJ bb iu dM ng g g2},fk e1 eJ bb iu dM ng g->bB g g2->fk e1 eJ bb iu dM ng g2:=fun⟨M,V,nl,vs,el,so,vt,px⟩ bI =>
  ⟨M.bE bI,V.more bI,nl,vs,bI.get el,so.move λq ah=>bI _ (so.b_ ah).2,vt,λx af=>(bI x (by rw[px x af];exact(qd x af).2)).trans (px x af)⟩
 have loc:∀ {e1 eJ bb iu dM ng g b g2},fk e1 eJ bb iu dM ng g->¬gZ bb dM b->¬X b->cn (gZ es is) h (gZ bb dM) g2->(∀y,y≠b->g2 y=g y)->fk e1 eJ bb iu dM ng g2:=fun⟨M,_,nl,vs,el,so,vt,px⟩ au af V Ge =>
  ⟨M.move λy aA=>Ge y λe=>au (e▸.inl aA),V,nl,vs,(Ge aV λe=>au (e▸.inr (.inl rfl))).trans el,so.move λq ah=>Ge _ λe=>au (e▸.inr (.inr ⟨q,ah,rfl⟩)),vt,λx gD=>(Ge x λe=>af (e▸gD)).trans (px x gD)⟩
 have fresh:∀ {e1 eJ bb iu dM ng g b},fk e1 eJ bb iu dM ng g->g b=none->h b=none/\¬gZ bb dM b/\¬X b:=fun⟨M,V,nl,vs,el,so,vt,px⟩ au =>
  ⟨V.2.2 _ au,λbV=>(by
   rcases bV with hm|rfl|⟨q,ah,rfl⟩
   .exact M.dv hm au
   .rw[el] at au;cases au
   .exact(so.b_ ah).2 au),λaf=>(qd _ af).2 ((px _ af)▸au)⟩
 have vu:¬gZ es is aS:=λbV=>VE _ bV f50;let fZ:Nat->dw:=λi=>dD R (f+2) λp=>if p<i then strip bi (ee P ao dx p) else R (f+2) p
 have Jf:∀(i:Nat) (e1:dw),i<P.m->(∀r j,r≠f+2->e1 r j=R r j)->e1 (f+(spot P ao i).1) (spot P ao i).2=ee P ao dx i:=λi e1 hi jc=>by
  have ad:=(uR L o fP hi).2.2;rw[jc _ _ (by omega),<-BT];rfl
 have Jg:∀i r j,r≠f+2->fZ i r j=R r j:=λi r j aK=>by show dD R (f+2) _ r j=_;unfold dD;rw[as7 aK]
 have CL:∀(A B:Nat->cM) (i:Nat),fs (dD R (f+2) λp=>if p<i then A p else B p) (f+2,i) (A i)=dD R (f+2) λp=>if p<i+1 then A p else B p:=λA B i=>by
  funext r j;show(if r=f+2/\j=i then A i else if r=f+2 then (if j<i then A j else B j) else R r j)=if r=f+2 then (if j<i+1 then A j else B j) else R r j
  by_cases aX:r=f+2
  .rw[as8 aX,as8 aX];by_cases aZ:j=i
   .rw[as8 ⟨aX,aZ⟩,d_,aZ]
   .rw[as7 (λh=>aZ h.2)];by_cases cp:j<i
    .rw[as8 cp,d_]
    .rw[as7 cp,cS]
  .rw[as7 (λh=>aX h.1),as7 aX,as7 aX]
 have VF:fk (fZ 0) (a_++ic f (fV P.k P.s P.t f ao) 0) es dV is ids aW:=by
  have e:fZ 0=R:=by
   have:(λp=>if p<0 then strip bi (ee P ao dx p) else R (f+2) p)=R (f+2):=by funext p;simp
   show dD R (f+2) _=R;rw[this];exact yZ R _
  rw[e];simpa [ic] using akH
 refine⟨λbJ c5 ca dh ck eM c0 dd s2 dR dj t1 cE g bI=>bJ=⟨aV,0⟩/\k=c5/\bi=ca/\at_=dh/\ck=ao/\eM=to/\c0=⟨aj,0⟩/\dd=⟨aB,0⟩/\sp=s2/\dR=((2 ^ P.E:Nat):Int)/\dj=⟨aS,0⟩/\∃(i:Nat) (bb:an),cE=i/\i<=P.m/\bI=P.m-i/\t1=(gO bi (ee P ao dx) i).2/\fk (fZ i) (a_++ic f (fV P.k P.s P.t f ao) i) bb dV is ids g/\g aS=some (.cells (ae.cells (.ws 8 (gO bi (ee P ao dx) i).1)).toArray 49 (0,0))/\¬gZ bb is aS,
  ⟨P.m,rfl,rfl,rfl,rfl,rfl,rfl,rfl,rfl,rfl,rfl,rfl,0,es,rfl,by omega,rfl,rfl,VF,cD,vu⟩,?_⟩
 clear VF vu;rintro bJ c5 ca dh ck eM c0 dd s2 dR dj t1 cE g bI ⟨rfl,rfl,rfl,rfl,rfl,rfl,rfl,rfl,rfl,rfl,rfl,i,ir,rfl,hi,rfl,rfl,S,r0,vu⟩;have wW:=yX i;refine b6 (λb1=>?_) λc3=>?_
 .have bN:i<P.m:=by omega
  obtain⟨wU,wV,Jh⟩:=uR L o fP bN;have el:=S.2.2.2.2.1;have px:=S.2.2.2.2.2.2.2;refine⟨some ⟨m.b,0⟩,aF el rfl,Gd px bN λq aX _=>⟨_,aX,Gd px bN λdf _ aZ=>⟨_,aZ,?_⟩⟩⟩;refine(s_ S.1 wU wV (by rw[as9];omega)).mono ?_;rintro _ g1 ⟨eO,rfl,mU,v1⟩;have hK:=mem S mU v1;have VG:=v1.get r0 λhm=>vu (.inl hm);have Gf:¬gZ eO is aS:=λbV=>bV.elim (v1.out (by rw[r0];simp) λhm=>vu (.inl hm)) λbf=>vu (.inr bf);rw[Jf i _ bN (Jg i)];refine⟨_,rfl,bL λb7 g2 f4 b5 VH=>?_⟩;obtain⟨q9,VI,VJ⟩:=fresh hK f4;have n43:b7≠aS:=λe=>by rw[e,VG] at f4;cases f4
  have eV:=bE hK VH;refine fG (n:=12) eV.2.1 q9 b5 rfl λg3 lN b2 c9=>⟨Int.NonNeg.mk _,Int.NonNeg.mk _,_,gi b2 (i:=0) (by decide),?_⟩;have iU:=loc eV VI VJ lN c9;have sq:=(c9 aS (atf n43)).trans (VH.get VG);have fin:∀(g5:ai) (b8:cM) (Li:ei) (Lj:Bool),fk (fZ i) (a_++ic f (fV P.k P.s P.t f ao) i++[⟨((f+(spot P ao i).1:Nat):Int),(spot P ao i).2,false⟩]) eO dV is ids g5->g5 b7=some (.cells (ae.cells (.ws 12 b8)).toArray 69 (0,0))->g5 aS=some (.cells (ae.cells (.ws 8 Li)).toArray 49 (0,0))->b8=strip bi (ee P ao dx i)->(Li,Lj)=gO bi (ee P ao dx) (i+1) ->
   ∃c9:Option aG,bR g5 aV (0+0)=some (bZ c9)/\∃dR,bR g5 aV (0+1)=some (U dR)/\∃cp:cM,bP g5 b7 0 cp/\aw 121 [bZ c9,U (al (dR+2)),U i,ec cp] g5 λv6 dL=>v6= .tuple #[]/\∃bc,bc<P.m-i/\((⟨aV,0⟩:aG)=⟨aV,0⟩/\k=k/\bi=bi/\at_=at_/\(ao:Int)=ao/\(to:Int)=to/\(⟨aj,0⟩:aG)=⟨aj,0⟩/\(⟨aB,0⟩:aG)=⟨aB,0⟩/\sp=sp/\((2 ^ P.E:Nat):Int)=((2 ^ P.E:Nat):Int)/\(⟨aS,0⟩:aG)=⟨aS,0⟩/\∃(di:Nat) (bb:an),al ((i:Int)+1)=di/\di<=P.m/\bc=P.m-di/\Lj=(gO bi (ee P ao dx) di).2/\fk (fZ di) (a_++ic f (fV P.k P.s P.t f ao) di) bb dV is ids dL/\dL aS=some (.cells (ae.cells (.ws 8 (gO bi (ee P ao dx) di).1)).toArray 49 (0,0))/\¬gZ bb is aS):=by
   intro g5 b8 Li Lj gE r3 tJ aT aR;have CM:=gE.2.2.2.2.1;refine⟨some ⟨m.b,0⟩,aF CM rfl,_,aF CM rfl,_,da r3,?_⟩;rw[hB];refine(tK gE.1 jq (show i<m.cq (f+2) by omega) _ (by simp only[as9,atA];omega)).mono ?_;rintro _ g6 ⟨xw,rfl,kS,v6⟩;rw[aT,show fs (fZ i) (f+2,i) (strip bi (ee P ao dx i))=fZ (i+1) from CL _ _ i] at kS;have kq:=mem gE kS v6;refine⟨rfl,P.m-(i+1),by omega,rfl,rfl,rfl,rfl,rfl,rfl,rfl,rfl,rfl,rfl,rfl,i+1,xw,bl,by omega,rfl,by rw[<-aR],?_,by rw[<-aR];exact v6.get tJ λhm=>Gf (.inl hm),λbV=>bV.elim (v6.out (by rw[tJ];simp) λhm=>Gf (.inl hm)) λbf=>Gf (.inr bf)⟩;have iE:(fV P.k P.s P.t f ao).getD i ⟨0,0⟩=jN P f ao i:=by rw[qa o];simp[List.getD,bN]
   rw[BC,as8 (by rw[qa o];simpa using bN),iE,show ∀(a b:List dt) (x y:dt),a++(b++([x]++[y]))=a++b++[x]++[y] by simp,qc];exact kq
  have j0:dm (ee P ao dx i)=decide ((ee P ao dx i)[0]=1):=te _;refine b6 (λtf=>?_) λtf=>?_
  .have c7:dm (ee P ao dx i)=true:=by rw[j0];exact atl tf
   refine⟨Int.NonNeg.mk _,Int.NonNeg.mk _,_,gi b2 (i:=1) (by decide),?_⟩;by_cases zX:(ee P ao dx i)[1]=bi
   .refine eh (atl zX) ⟨_,da b2,(akI _).to λg4 bc=>⟨_,rfl,?_⟩⟩;have gF:=bE iU bc;refine fG (n:=8) gF.2.1 f50 (bc.get sq) (by simp[ae.cells]) λg5 pb r3 cY=>?_;have gE:=loc gF Gf BV pb cY;rw[<-y2];refine fG (n:=12) pb q9 ((cY b7 n43).trans (bc.get b2)) (by simp[ae.cells]) λg6 o9 dK eI=>fin g6 gz _ true (loc gE VI VJ o9 eI) dK ((eI aS (atf n43)).trans r3) ?_ ?_
    .unfold strip;rw[as8 ⟨c7,zX⟩]
    .rw[gO,as8 ⟨c7,zX⟩]
   .exact b0 (ati zX) (fin g3 _ _ _ iU b2 sq (by unfold strip;rw[as7 λh=>zX h.2]) (by rw[gO,as7 λh=>zX h.2]))
  .have c7:¬dm (ee P ao dx i)=true:=by rw[j0];simpa using tf
   exact fin g3 _ _ _ iU b2 sq (by unfold strip;rw[as7 λh=>c7 h.1]) (by rw[gO,as7 λh=>c7 h.1])
 have hi:i=P.m:=by omega
 subst hi;clear c3;obtain⟨old,hold⟩:∃x,x=gO bi (ee P ao dx) P.m:=⟨_,rfl⟩;have akJ:j4 P bi ao dx=old:=hold.symm;rw[akJ];rw[<-hold] at r0 ⊢;refine⟨_,da r0,bL λb4 g1 Lk r3 Ll=>?_⟩;obtain⟨uT,w2,uU⟩:=fresh S Lk;have n53:b4≠aS:=λe=>by rw[e,r0] at Lk;cases Lk
 have hK:=bE S Ll;refine fG (n:=8) hK.2.1 uT r3 rfl λg2 o6 ie cU=>?_;have eV:=loc hK w2 uU o6 cU;have Lm:=(cU aS (atf n53)).trans (Ll.get r0);clear S hK o6 r0 r3 Ll cU;generalize VK:a_++ic f (fV P.k P.s P.t f ao) P.m=lI at eV;have asf:lI.length<=a_.length+2*P.m:=by rw[<-VK,as9];omega
 let zY:ei:=match op with| .look=>old.1| .put bq=>bq| .part a x y=>(old.1.setIfInBounds a x).setIfInBounds (a+1) y| .drop=>old.1
 have Ln:∀ {bg:ai},(∀x,X x->bg x=aW x)->bg aj=some (.cells (ae.cells (.ws 8 d)).toArray 49 (0,0)):=λaf=>(af aj (.inl rfl)).trans (((az.trans aD).trans o4).get aC);refine⟨λed n27 gP n28 n29 n30 e3 gu bj n31 gX t2 e7 g=>ed=⟨aV,0⟩/\k=n27/\bi=gP/\at_=n28/\n29=ao/\n30=to/\e3=⟨aj,0⟩/\gu=⟨aB,0⟩/\sp=bj/\n31=((2 ^ P.E:Nat):Int)/\gX=⟨aS,0⟩/\old.2=t2/\e7=⟨b4,0⟩/\fk (fZ P.m) lI ir dV is ids g/\g aS=some (.cells (ae.cells (.ws 8 old.1)).toArray 49 (0,0))/\g b4=some (.cells (ae.cells (.ws 8 (if k=1 then d else old.1))).toArray 49 (0,0)),?_,?_⟩
 .refine b6 (λc=>?_) λc=>⟨rfl,rfl,rfl,rfl,rfl,rfl,rfl,rfl,rfl,rfl,rfl,rfl,rfl,eV,Lm,by rw[as7 c];exact ie⟩;refine⟨_,da (Ln eV.2.2.2.2.2.2.2),fG (n:=8) eV.2.1 uT ie (by simp[ae.cells]) λg3 lN b2 c9=>⟨rfl,rfl,rfl,rfl,rfl,rfl,rfl,rfl,rfl,rfl,rfl,rfl,rfl,loc eV w2 uU lN c9,(c9 aS (atf n53)).trans Lm,by rw[as8 c];exact b2⟩⟩
 clear eV Lm ie;rintro ed n27 gP n28 n29 n30 e3 gu bj n31 gX t2 e7 g3 ⟨rfl,rfl,rfl,rfl,rfl,rfl,rfl,rfl,rfl,rfl,rfl,rfl,rfl,iU,sq,ie⟩;refine⟨λih n32 hY n33 n34 iY bM n35 ko t3 jC g=>ih=⟨aV,0⟩/\k=n32/\bi=hY/\n33=ao/\n34=to/\iY=⟨aB,0⟩/\sp=bM/\n35=((2 ^ P.E:Nat):Int)/\ko=⟨aS,0⟩/\old.2=t3/\jC=⟨b4,0⟩/\fk (fZ P.m) lI ir dV is ids g/\g aS=some (.cells (ae.cells (.ws 8 old.1)).toArray 49 (0,0))/\g b4=some (.cells (ae.cells (.ws 8 zY)).toArray 49 (0,0)),?_,?_⟩
 .refine b6 (λc=>?_) λc=>⟨rfl,rfl,rfl,rfl,rfl,rfl,rfl,rfl,rfl,rfl,rfl,iU,sq,?_⟩
  .cases op with
   | look=>exact absurd (fE.symm.trans c) (by decide)
   | put bq=>exact absurd (fE.1.symm.trans c) (by decide)
   | drop=>exact absurd (fE.symm.trans c) (by decide)
   | part a x y =>
    obtain⟨_,bV,adq,af,aA⟩:=fE;subst bV;rw[cS] at ie;refine⟨Int.NonNeg.mk _,Int.NonNeg.mk _,_,gi (Ln iU.2.2.2.2.2.2.2) (i:=0) (by decide),by omega,by omega,?_⟩;rw[show 0+Int.toNat (a:Int)*1=a by omega];refine nf (n:=8) (i:=a) iU.2.1 uT ie (by omega) λg4 o8 b5 ez=>?_;have gF:=loc iU w2 uU o8 ez;rw[show al ((a:Int)+1)=((a+1:Nat):Int) by rw[bl];omega,show 0+Int.toNat ((a+1:Nat):Int)*1=a+1 by omega];refine⟨Int.NonNeg.mk _,Int.NonNeg.mk _,_,gi (Ln gF.2.2.2.2.2.2.2) (i:=1) (by decide),by omega,by omega,nf (n:=8) (i:=a+1) o8 uT b5 (by omega) λg6 o9 dK eI=>⟨rfl,rfl,rfl,rfl,rfl,rfl,rfl,rfl,rfl,rfl,rfl,loc gF w2 uU o9 eI,(eI aS (atf n53)).trans ((ez aS (atf n53)).trans sq),?_⟩⟩;rw[dK];have:((old.1.set a d[0]).set (a+1) d[1])=(old.1.setIfInBounds a x).setIfInBounds (a+1) y:=by
     rw[af,aA];apply aub;intro j aL;simp[atL,Vector.getElem_setIfInBounds]
    rw[this]
  .cases op with
   | look=>rw[as7 (by have:k=0:=fE;omega)] at ie;exact ie
   | put bq=>rw[as8 fE.1,fE.2.symm] at ie;exact ie
   | drop=>rw[as7 (by have:k=3:=fE;omega)] at ie;exact ie
   | part a x y=>exact absurd fE.1 c
 clear iU sq ie;rintro ih n32 hY n33 n34 iY bM n35 ko t3 jC g4 ⟨rfl,rfl,rfl,rfl,rfl,rfl,rfl,rfl,rfl,rfl,rfl,gF,xx,ie⟩;refine bL λdy g5 f6 dK cb=>?_;obtain⟨BX,akK,akL⟩:=fresh gF f6;have n63:dy≠aS:=λe=>by rw[e,xx] at f6;cases f6
 have gE:=bE gF cb;have tJ:=cb.get xx;have VL:=cb.get ie;have n65:dy≠b4:=λe=>by rw[e,ie] at f6;cases f6
 clear gF xx ie cb;obtain⟨lO,wY⟩:∃c,c=wZ bi to (op.now old.1 old.2):=⟨_,rfl⟩;refine⟨λjP n36 lx n37 k7 cZ n38 nN t4 nk g=>jP=⟨aV,0⟩/\k=n36/\bi=lx/\n37=ao/\k7=⟨aB,0⟩/\sp=cZ/\n38=((2 ^ P.E:Nat):Int)/\nN=⟨aS,0⟩/\old.2=t4/\nk=⟨dy,0⟩/\fk (fZ P.m) lI ir dV is ids g/\g aS=some (.cells (ae.cells (.ws 8 old.1)).toArray 49 (0,0))/\g dy=some (.cells (ae.cells (.ws 12 lO)).toArray 69 (0,0)),?_,?_⟩
 .have no:op.now old.1 old.2=none->g5 dy=some (.cells (ae.cells (.ws 12 lO)).toArray 69 (0,0)):=λh=>by rw[wY,h];exact dK
  have b_:op.now old.1 old.2=some zY->∃o2:ei,bP g5 b4 0 o2/\aw 124 [ak bi,U to,ec o2] g5 λgr mn=>∃pv:cM,gr=ec pv/\a1 mn ⟨dy,0⟩ (ae.cells (.ws 12 pv)) λnb=>((⟨aV,0⟩:aG)=⟨aV,0⟩/\k=k/\bi=bi/\(ao:Int)=ao/\(⟨aB,0⟩:aG)=⟨aB,0⟩/\sp=sp/\((2 ^ P.E:Nat):Int)=((2 ^ P.E:Nat):Int)/\(⟨aS,0⟩:aG)=⟨aS,0⟩/\old.2=old.2/\(⟨dy,0⟩:aG)=⟨dy,0⟩/\fk (fZ P.m) lI ir dV is ids nb/\nb aS=some (.cells (ae.cells (.ws 8 old.1)).toArray 49 (0,0))/\nb dy=some (.cells (ae.cells (.ws 12 lO)).toArray 69 (0,0))):=λh=>by
   refine⟨_,da VL,(akM bi (show to<2 ^ 63 by omega) zY).to λg6 cb=>⟨_,rfl,?_⟩⟩;have kq:=bE gE cb;refine fG (n:=12) kq.2.1 BX (cb.get dK) (by simp[ae.cells]) λg7 lu fq eU=>⟨rfl,rfl,rfl,rfl,rfl,rfl,rfl,rfl,rfl,rfl,loc kq akK akL lu eU,(eU aS (atf n63)).trans (cb.get tJ),?_⟩;rw[fq,wY,h];rfl
  have Gg:op.now old.1 old.2=none->((⟨aV,0⟩:aG)=⟨aV,0⟩/\k=k/\bi=bi/\(ao:Int)=ao/\(⟨aB,0⟩:aG)=⟨aB,0⟩/\sp=sp/\((2 ^ P.E:Nat):Int)=((2 ^ P.E:Nat):Int)/\(⟨aS,0⟩:aG)=⟨aS,0⟩/\old.2=old.2/\(⟨dy,0⟩:aG)=⟨dy,0⟩/\fk (fZ P.m) lI ir dV is ids g5/\g5 aS=some (.cells (ae.cells (.ws 8 old.1)).toArray 49 (0,0))/\g5 dy=some (.cells (ae.cells (.ws 12 lO)).toArray 69 (0,0))):=λh=>⟨rfl,rfl,rfl,rfl,rfl,rfl,rfl,rfl,rfl,rfl,gE,tJ,no h⟩;cases op with
  | look =>
   have l6:k=0:=fE;refine b0 (hv) (b0 (ati (show ¬k=2 by omega)) (eh (atl l6) ?_));cases ly:old.2 with
   | true=>rw[ly] at b_ Gg;exact eh rfl (b_ rfl)
   | false=>rw[ly] at b_ Gg;exact b0 rfl (Gg rfl)
  | put bq=>exact eh (atl fE.1) (b_ rfl)
  | part a x y=>exact b0 (ati (by have:=fE.1;omega)) (eh (atl fE.1) (b_ rfl))
  | drop =>
   have CN:k=3:=fE;exact b0 (hv) (b0 (ati (show ¬k=2 by omega)) (b0 (hv) (Gg rfl)))
 clear gE tJ VL dK f6;rintro jP n36 lx n37 k7 cZ n38 nN t4 nk g6 ⟨rfl,rfl,rfl,rfl,rfl,rfl,rfl,rfl,rfl,rfl,kq,Lo,pc⟩;have Gh:¬gZ ir is aS:=vu;let fa:Nat->dw:=λi=>dD R (f+2) λp=>if p<i then jx P ao bi dx lO p else R (f+2) p
 have rS:fZ P.m=fa P.m:=by
  show dD R (f+2) _=dD R (f+2) _;congr 1;funext p;by_cases c:p<P.m
  .rw[as8 c,as8 c];unfold jx;rw[as8 c]
  .rw[as7 c,as7 c]
 have EW:∀i,fs (fa i) (f+2,i) (jx P ao bi dx lO i)=fa (i+1):=λi=>CL _ _ i;have VM:∀i,P.m<=i->ic f (fV P.k P.s P.t f ao) (i+1)=ic f (fV P.k P.s P.t f ao) i++[⟨((f+2:Nat):Int),i,true⟩]:=λi hi=>by
  rw[BC,as7 (by rw[qa o];simp;omega),List.nil_append,qc]
 have CO:=kq.2.2.2.2.1;refine⟨some ⟨m.b,0⟩,aF CO rfl,_,aF CO rfl,_,da pc,?_⟩;rw[hB,show(sp.len:Int)=((P.m:Nat):Int) by omega];refine(tK kq.1 jq (show P.m<m.cq (f+2) by omega) _ (by omega)).mono ?_;rintro _ g7 ⟨s6,rfl,o_,ft⟩;rw[rS,show lO=jx P ao bi dx lO P.m by unfold jx;rw[cS,as8 rfl],EW] at o_;have tL:=mem kq o_ ft;rw[<-VK,atr,<-VM _ (as_ _)] at tL;have VN:=ft.get Lo λhm=>Gh (.inl hm);have VO:¬gZ s6 is aS:=λbV=>bV.elim (ft.out (by rw[Lo];simp) λhm=>Gh (.inl hm)) λbf=>Gh (.inr bf);refine⟨rfl,λjD n40 iX n41 lA b3 n42 mr t5 n43 g bI=>jD=⟨aV,0⟩/\k=n40/\bi=iX/\n41=ao/\lA=⟨aB,0⟩/\sp=b3/\n42=((2 ^ P.E:Nat):Int)/\mr=⟨aS,0⟩/\old.2=t5/\∃(i:Nat) (bb:an),n43=i/\P.m<i/\i<=2 ^ P.E/\bI=2 ^ P.E-i/\fk (fa i) (a_++ic f (fV P.k P.s P.t f ao) i) bb dV is ids g/\g aS=some (.cells (ae.cells (.ws 8 old.1)).toArray 49 (0,0))/\¬gZ bb is aS,
  ⟨2 ^ P.E-(P.m+1),rfl,rfl,rfl,rfl,rfl,rfl,rfl,rfl,rfl,P.m+1,s6,bl,by omega,by omega,rfl,tL,VN,VO⟩,?_⟩
 clear kq tL o_ ft Lo VN Gh VO vu pc CO;rintro jD n40 iX n41 lA b3 n42 mr t5 n43 g8 bI ⟨rfl,rfl,rfl,rfl,rfl,rfl,rfl,rfl,rfl,i,oj,rfl,mB,hi,rfl,j_,tM,vv⟩;have wW:=yX i;refine b6 (λb1=>?_) λc3=>?_
 .have bN:i<2 ^ P.E:=by omega
  have xy:=j_.2.2.2.2.1;refine⟨some ⟨m.b,0⟩,aF xy rfl,_,aF xy rfl,?_⟩;rw[hB];refine(tK j_.1 jq (show i<m.cq (f+2) by omega) gz (by rw[as9];omega)).mono ?_;rintro _ g9 ⟨CP,rfl,py,v9⟩;rw[show gz=jx P ao bi dx lO i by unfold jx;rw[cS,cS],EW] at py;have zZ:=mem j_ py v9;rw[atr,<-VM _ (by omega)] at zZ;exact⟨rfl,2 ^ P.E-(i+1),by omega,rfl,rfl,rfl,rfl,rfl,rfl,rfl,rfl,rfl,i+1,CP,bl,by omega,by omega,rfl,zZ,v9.get tM λhm=>vv (.inl hm),λbV=>bV.elim (v9.out (by rw[tM];simp) λhm=>vv (.inl hm)) λbf=>vv (.inr bf)⟩
 have hi:i=2 ^ P.E:=by omega
 subst hi;clear c3 mB;refine⟨λkK n45 tF du n46 rh t6 g=>kK=⟨aV,0⟩/\n45=ao/\tF=⟨aB,0⟩/\sp=du/\n46=((2 ^ P.E:Nat):Int)/\rh=⟨aS,0⟩/\old.2=t6/\∃dM,(∀q,dM.q=some q->(∃p,is.q=some p/\q.b=p.b)∨h q.b=none)/\fk (fa (2 ^ P.E)) (a_++ic f (fV P.k P.s P.t f ao) (2 ^ P.E)) oj dV dM (meets op bi ids) g/\g aS=some (.cells (ae.cells (.ws 8 old.1)).toArray 49 (0,0))/\¬gZ oj dM aS,?_,?_⟩
 .have stay:meets op bi ids=ids->((⟨aV,0⟩:aG)=⟨aV,0⟩/\(ao:Int)=ao/\(⟨aB,0⟩:aG)=⟨aB,0⟩/\sp=sp/\((2 ^ P.E:Nat):Int)=((2 ^ P.E:Nat):Int)/\(⟨aS,0⟩:aG)=⟨aS,0⟩/\old.2=old.2/\∃dM,(∀q,dM.q=some q->(∃p,is.q=some p/\q.b=p.b)∨h q.b=none)/\fk (fa (2 ^ P.E)) (a_++ic f (fV P.k P.s P.t f ao) (2 ^ P.E)) oj dV dM (meets op bi ids) g8/\g8 aS=some (.cells (ae.cells (.ws 8 old.1)).toArray 49 (0,0))/\¬gZ oj dM aS):=λh=>by
   rw[h];exact⟨rfl,rfl,rfl,rfl,rfl,rfl,rfl,is,λq ah=> .inl ⟨q,ah,rfl⟩,j_,tM,vv⟩
  have Gi:meets op bi ids=(if bi∈ids then ids else ids++[bi])->aw 125 [bu ⟨aV,0⟩,ak bi] g8 λjA u_=>jA= .tuple #[]/\((⟨aV,0⟩:aG)=⟨aV,0⟩/\(ao:Int)=ao/\(⟨aB,0⟩:aG)=⟨aB,0⟩/\sp=sp/\((2 ^ P.E:Nat):Int)=((2 ^ P.E:Nat):Int)/\(⟨aS,0⟩:aG)=⟨aS,0⟩/\old.2=old.2/\∃dM,(∀q,dM.q=some q->(∃p,is.q=some p/\q.b=p.b)∨h q.b=none)/\fk (fa (2 ^ P.E)) (a_++ic f (fV P.k P.s P.t f ao) (2 ^ P.E)) oj dV dM (meets op bi ids) u_/\u_ aS=some (.cells (ae.cells (.ws 8 old.1)).toArray 49 (0,0))/\¬gZ oj dM aS):=λh=>by
   obtain⟨om,rY,VP,VQ,xy,akN,Lp,z1⟩:=j_;refine(akO xy akN (λq ah=>(VQ q ah).1) Gc bi).mono ?_;rintro _ g9 ⟨dM,rfl,Gj,vw,tN,v9⟩;have Lq:∀x,g8 x≠none->¬qk aV is x->¬qk aV dM x:=λx af aH=>v9.out af aH;have VR:∀x,bA m oj x->¬qk aV is x:=λx af bf=>bf.elim (λe=>VP (e▸af)) fun⟨q,ah,e⟩=>(VQ q ah).2 (e▸af);rw[h];refine⟨rfl,rfl,rfl,rfl,rfl,rfl,rfl,rfl,dM,λq ah=>?_,⟨om.move λx af=>v9.2.1 x (om.dv af) (VR x af),rY.trans (JG v9),VP,λq ah=>⟨tN q ah,λhm=>Lq _ (om.dv hm) (VR _ hm) (.inr ⟨q,ah,rfl⟩)⟩,Gj,vw,λx af bV=>?_,λx af=>?_⟩,v9.get tM λbf=>vv (.inr bf),λbV=>bV.elim (λhm=>vv (.inl hm)) (Lq aS (by rw[tM];simp) λbf=>vv (.inr bf))⟩
   .rcases v9.1 q.b (.inr ⟨q,ah,rfl⟩) with (au|⟨p,aM,au⟩)|au
    .exact absurd au (tN q ah)
    .exact .inl ⟨p,aM,au⟩
    .exact .inr (rY.2.2 _ au)
   .have akP:g8 x≠none:=by rw[z1 x af];exact(qd x af).2
    exact bV.elim (λhm=>Lp x af (.inl hm)) (Lq x akP λbf=>Lp x af (.inr bf))
   .rw[v9.2.1 x (by rw[z1 x af];exact(qd x af).2) λbf=>Lp x af (.inr bf),z1 x af]
  cases op with
  | look =>
   have l6:k=0:=fE;exact b0 (hv) (b0 (ati (show ¬k=2 by omega)) (stay rfl))
  | put bq=>exact eh (atl fE.1) (Gi rfl)
  | part a x y=>exact b0 (ati (by have:=fE.1;omega)) (eh (atl fE.1) (Gi rfl))
  | drop =>
   have CN:k=3:=fE;exact b0 (hv) (b0 (ati (show ¬k=2 by omega)) (stay rfl))
 clear j_ tM vv;rintro kK n45 tF du n46 rh t6 g9 ⟨rfl,rfl,rfl,rfl,rfl,rfl,rfl,dM,akQ,zZ,Lr,Ls⟩;obtain⟨py,z2,VS,tN,Gj,vw,Gk,Gl⟩:=zZ;have iR:hl P op bi ao to dx=jx P ao bi dx lO:=by rw[wY,hold];rfl
 have BY:cN T m (dD R (f+2) (hl P op bi ao to dx)) (a_++ic f (fV P.k P.s P.t f ao) (2 ^ P.E)) oj g9:=by rw[iR];exact cN.y3 (f:=jx P ao bi dx lO) (g:=R (f+2)) py (by omega)
 refine(akR o BY Gj VS (by omega) jq lM fP (by rw[qY];exact y4 o lK fP yW gJ) (by rw[as9];omega)).mono ?_;rintro _ g3 ⟨hO,rfl,fS,nD,aI,v3⟩;rw[w0,qY] at fS;rw[qY] at nD;let iK:=iT P ao (hl P op bi ao to dx);let W:Nat->dw:=λk=>lL f R (oo P ao iK (rZ P iK dx) k);have fS:cN T m (W 0) _ hO g3:=fS.congr λr aK j aL=>by
  show(if f<=r/\r<f+3 then (if r-f=2/\j<2 ^ P.E then iK j else dx (r-f) j) else R r j)=if r=f+2 then iK j else R r j
  by_cases aX:r=f+2
  .subst aX;rw[d_,as8 rfl,d_]
  .rw[as7 aX];by_cases aZ:f<=r/\r<f+3
   .rw[as8 aZ,cS,<-BT];show R (f+(r-f)) j=_;rw[show f+(r-f)=r by omega]
   .rw[as7 aZ]
 have Ju:∀k i,i<2 ^ P.E->W k (f+2) i=iK i:=λk i hi=>by
  show(if f<=f+2/\f+2<f+3 then oo P ao iK (rZ P iK dx) k (f+2-f) i else R (f+2) i)=_;rw[d_,show f+2-f=2 by omega,E2 k λp aM e=>?_]
  .show(if 2=2/\i<2 ^ P.E then iK i else dx 2 i)=_
   rw[as8 ⟨rfl,hi⟩]
  .unfold spot at e;split at e<;>simp at e
 have Jv:∀k,k<P.m->fs (W k) (f+(spot P ao k).1,(spot P ao k).2) ((iK k).set 11 0)=W (k+1):=λk ab=>by
  have s2:=(uR L o fP ab).2.2;funext r j;show(if r=f+(spot P ao k).1/\j=(spot P ao k).2 then _ else if f<=r/\r<f+3 then oo P ao iK (rZ P iK dx) k (r-f) j else R r j)=if f<=r/\r<f+3 then (if r-f=(spot P ao k).1/\j=(spot P ao k).2 then (iK k).set 11 0 else oo P ao iK (rZ P iK dx) k (r-f) j) else R r j
  by_cases aX:f<=r/\r<f+3
  .rw[as8 aX,as8 aX];by_cases aZ:r=f+(spot P ao k).1/\j=(spot P ao k).2
   .rw[as8 aZ,as8 ⟨by omega,aZ.2⟩]
   .rw[as7 aZ,as7 λh=>aZ ⟨by omega,h.2⟩]
  .rw[as7 aX,as7 aX,cS]
 have asg:=yX (2 ^ P.E);generalize VT:a_++ic f (fV P.k P.s P.t f ao) (2 ^ P.E)++(hI f P.E++hI f P.E)=uV at fS;have ac9:uV.length<1000010000000:=by
  rw[<-VT];simp only[as9];omega
 have Jx:(dV||ki P ao (hl P op bi ao to dx))=(dV||qV P op bi ao to dx):=rfl;rw[Jx] at nD;generalize (dV||qV P op bi ao to dx)=w1 at nD ⊢;have Gm:∀x,g9 x≠none->¬gZ oj dM x->g3 x=g9 x/\¬bA m hO x:=λx af aH =>
  ⟨v3.2.1 x af λh=>aH (h.imp id .inl),λhm=>v3.out af (λh=>aH (h.imp id .inl)) (.inl hm)⟩
 have Lt:∀q,dM.q=some q->g3 q.b=g9 q.b/\¬bA m hO q.b:=λq ah =>
  ⟨v3.2.1 _ (vw.b_ ah).2 λh=>h.elim (tN q ah).2 (tN q ah).1,λhm=>v3.out (vw.b_ ah).2 (λh=>h.elim (tN q ah).2 (tN q ah).1) (.inl hm)⟩
 have iU:cN T m (W 0) uV hO g3/\cn (gZ es is) h (gZ hO dM) g3/\¬bA m hO aV/\(∀q,dM.q=some q->q.b≠aV/\¬bA m hO q.b)/\g3 aV=dB (oC P m.b f w1 dM) hN/\b9 ak kf g3 dM (meets op bi ids)/\(∀x,X x->¬gZ hO dM x)/\∀x,X x->g3 x=aW x:=by
  refine⟨fS,?_,aI,λq ah=>⟨(tN q ah).1,(Lt q ah).2⟩,nD,vw.move λq ah=>(Lt q ah).1,λx af bV=>?_,λx af=>((Gm x (by rw[Gl x af];exact(qd x af).2) (Gk x af)).1).trans (Gl x af)⟩
  .exact((z2.to (C:=λx=>(bA m oj x∨x=aV)∨∃q,dM.q=some q/\x=q.b) λx af=> .inl (af.elim (λh=>h.elim .inl λh=> .inr (.inl h)) λh=> .inr (.inr h))).trans (mS v3)).to λx af=> .inl (af.elim (λh=> .inl (.inl h)) λh=>h.elim (λh=> .inl (.inr h)) .inr)
  .exact bV.elim (Gm x (by rw[Gl x af];exact(qd x af).2) (Gk x af)).2 λbf=>Gk x af (.inr bf)
 have Lu:=Gm aS (by rw[Lr];simp) Ls;have sq:=Lu.1.trans Lr;have VU:¬gZ hO dM aS:=λbV=>bV.elim Lu.2 λbf=>Ls (.inr bf);clear BY py z2 VS tN Gj vw Gk Gl fS nD aI v3 Gm Lt Lr Ls Lu;have Jy:∀n,(o0 f (fV P.k P.s P.t f ao) n).length=2*n:=λn=>IH _ _ _;have ash:∀ {e1 eJ bb g fa hL eO g2},(cN T m e1 eJ bb g/\cn (gZ es is) h (gZ bb dM) g/\¬bA m bb aV/\(∀q,dM.q=some q->q.b≠aV/\¬bA m bb q.b)/\g aV=dB (oC P m.b f w1 dM) hN/\b9 ak kf g dM (meets op bi ids)/\(∀x,X x->¬gZ bb dM x)/\∀x,X x->g x=aW x)->cN T m fa hL eO g2->cn (bA m bb) g (bA m eO) g2->fk fa hL eO w1 dM (meets op bi ids) g2:=λh=>mem (iu:=w1) h;refine⟨rfl,λm0 nm dC nO t7 n47 g bI=>m0=⟨aV,0⟩/\nm=⟨aB,0⟩/\sp=dC/\nO=⟨aS,0⟩/\old.2=t7/\∃(i:Nat) (bb:an),n47=i/\i<=P.m/\bI=P.m-i/\fk (W i) (uV++o0 f (fV P.k P.s P.t f ao) i) bb w1 dM (meets op bi ids) g/\g aS=some (.cells (ae.cells (.ws 8 old.1)).toArray 49 (0,0))/\¬gZ bb dM aS,
  ⟨P.m,rfl,rfl,rfl,rfl,rfl,0,hO,rfl,by omega,rfl,by simpa [o0] using iU,sq,VU⟩,?_⟩
 clear iU sq VU;rintro m0 nm dC nO t7 n47 g4 bI ⟨rfl,rfl,rfl,rfl,rfl,i,mO,rfl,hi,rfl,gF,xx,Lv⟩;have th:=Jy i;refine b6 (λb1=>?_) λc3=>?_
 .have bN:i<P.m:=by omega
  obtain⟨wU,wV,Jh⟩:=uR L o fP bN;have Gn:=gF.2.2.2.2.1;refine⟨some ⟨m.b,0⟩,aF Gn rfl,_,aF Gn rfl,?_⟩;rw[hB];refine(s_ gF.1 jq (show i<m.cq (f+2) by omega) (by simp only[as9];omega)).mono ?_;rintro _ g5 ⟨r1,rfl,iJ,v5⟩;have gE:=mem gF iJ v5;have tJ:=v5.get xx λhm=>Lv (.inl hm);have Lw:¬gZ r1 dM aS:=λbV=>bV.elim (v5.out (by rw[xx];simp) λhm=>Lv (.inl hm)) λbf=>Lv (.inr bf);rw[Ju i i (by omega)];refine⟨_,rfl,bL λeQ g6 f7 fq cV=>?_⟩;obtain⟨E3,VV,VW⟩:=fresh gE f7;have CD:eQ≠aS:=λe=>by rw[e,tJ] at f7;cases f7
  have kq:=bE gE cV;refine fG (n:=12) kq.2.1 E3 fq rfl λg7 lu q0 eU=>⟨Int.NonNeg.mk _,Int.NonNeg.mk _,?_⟩;have tL:=loc kq VV VW lu eU;refine nf (i:=11) lu E3 q0 (by decide) λg8 rY JA e_=>?_;have j_:=loc tL VV VW rY e_;have tM:=(e_ aS (atf CD)).trans ((eU aS (atf CD)).trans (cV.get tJ));have z1:=j_.2.2.2.2.2.2.2;refine⟨some ⟨m.b,0⟩,aF j_.2.2.2.2.1 rfl,Gd z1 bN λq aX _=>⟨_,aX,Gd z1 bN λdf _ aZ=>⟨_,aZ,_,da JA,?_⟩⟩⟩;refine(tK j_.1 wU wV _ (by simp only[as9,atA];omega)).mono ?_;rintro _ g9 ⟨CP,rfl,py,v9⟩;rw[Jv i bN] at py;have zZ:=mem j_ py v9;refine⟨rfl,P.m-(i+1),by omega,rfl,rfl,rfl,rfl,rfl,i+1,CP,bl,by omega,rfl,?_,v9.get tM λhm=>Lw (.inl hm),λbV=>bV.elim (v9.out (by rw[tM];simp) λhm=>Lw (.inl hm)) λbf=>Lw (.inr bf)⟩;have iE:(fV P.k P.s P.t f ao).getD i ⟨0,0⟩=jN P f ao i:=by rw[qa o];simp[List.getD,bN]
  rw[IG,iE,show ∀(a b:List dt) (x y:dt),a++(b++[x,y])=a++b++[x]++[y] by simp,qc];exact zZ
 .have hi:i=P.m:=by omega
  subst hi;obtain⟨qX,o8,akS,Gp,Gn,Ca,akT,akU⟩:=gF;have hC:g4 aB=_:=(akU aB (.inr (.inl rfl))).trans ((aD.trans o4).get a7);have Lx:=akT aB (.inr (.inl rfl));refine⟨_,da xx,fG (n:=8) o8 (aE.free f2) hC rfl λg5 pb r3 cY=>⟨_,da r3,mO,dM,rfl,?_,(cY aV λe=>Lx (.inr (.inl e.symm))).trans Gn,Ca.move λq ah=>cY _ λe=>Lx (.inr (.inr ⟨q,ah,e.symm⟩)),akS,Gp,akQ,pb⟩⟩;have iE:uV++o0 f (fV P.k P.s P.t f ao) P.m=a_++mI P.k P.s P.t f ao:=by
   have jd:(fV P.k P.s P.t f ao).length=P.m:=by rw[qa o];simp
   unfold mI;rw[<-L.E,jd,<-VT];simp
  rw[<-iE];exact qX.move λx af=>cY x λe=>Lx (.inl (e▸af))
end

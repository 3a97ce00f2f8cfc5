import Derived.Test.YtegdpmgnhnccaaaGreatRefS
namespace Go.Proofs.Tryz
open Go Go.cQ Go.RowKit
set_option maxRecDepth 8000
theorem WY {n:Nat}(h:1<=n/\n<=4):kx (if n*2=0 then #[] else Value.cells (.agg #[U 0,U 0])) (n*2)=(((List.range n).map λ_=>((0:Nat),(0:Nat))).flatMap pF).toArray:=by
 have:n=1∨n=2∨n=3∨n=4:=by omega
 clear h;rcases this with rfl|rfl|rfl|rfl<;>(show _=_;kernel_rfl)
def C5 (x:a8):List Value:=[ak x]
theorem Ma (x:a8):(C5 x).length=1:=rfl
theorem al8 {n:Nat}(h:1<=n/\n<=4):kx (if n*1=0 then #[] else Value.cells (.int .u64 0)) (n*1)=(((List.range n).map λ_=>(0:a8)).flatMap C5).toArray:=by
 have:n=1∨n=2∨n=3∨n=4:=by omega
 clear h;rcases this with rfl|rfl|rfl|rfl<;>(show _=_;kernel_rfl)
theorem WZ {fW g:ai}{b n:Nat}{d:Nat->Nat×Nat}(A:cI 2 pF fW g ⟨some ⟨b,0⟩,n,n,none⟩ ((List.range n).map d)){j:Nat}(aL:j<n):bR g b (0+j*2)=some (U (d j).1)/\bR g b (0+j*2+1)=some (U (d j).2):=by
 have:=BP sv (A.rd.rd ⟨b,0⟩ rfl) (i:=j) (by simpa using aL);rw[pQ aL] at this;exact⟨this.1,this.2.1⟩
theorem al9 {fW g:ai}{b n:Nat}{d:Nat->a8}(A:cI 1 C5 fW g ⟨some ⟨b,0⟩,n,n,none⟩ ((List.range n).map d)){j:Nat}(aL:j<n):bR g b (0+j*1)=some (ak (d j)):=by
 have:=BP Ma (A.rd.rd ⟨b,0⟩ rfl) (i:=j) (by simpa using aL);rw[pQ aL] at this;exact this.1
theorem W0 (a:Nat):UInt64.ofNat a+1=UInt64.ofNat (a+1):=by
 apply att.1;rw[au8,ate,ate];simp
section
variable {G:c2} {ws:List a8} {B:p_} {S:fj} {a_:List dt} {V:mc} {h:ai}
set_option maxHeartbeats 8000000 in
theorem acn (o:G.dk)(st:I5 G B)(R:fY G ws B S a_ V h){op:fN}{k:Int}{d:ei}(fE:wH op k 0 d)(ab:k=0∨k=1∨k=3){x u0 a:Nat}(af:x<2 ^ G.m)(dY:kD G (wf ws) u0 S.used S)(hu:S.used=u0+2*G.L*a)(cR:S.gone.length=G.L*a)
 (pk:S.used<1000000000000) (QK:S.gone.length<100000000000) (aO:a_.length<100000000000) (BK:∀i,(S.ids i).length<1000000000000) :
 aw 15 [bu ⟨B.cm,0⟩,U k,ak (UInt64.ofNat x),ec d] h λr ag=>∃eJ eL,r= .tuple #[ec (gV G (wf ws) op x S).2.1,.bool (gV G (wf ws) op x S).2.2]/\fY G ws B (gV G (wf ws) op x S).1 eJ eL ag/\cn (fA B G.L V) h (fA B G.L eL) ag /\
  eJ=a_++qM G.m G.s G.t G.L G.f (((gV G (wf ws) op x S).1.gone.drop S.gone.length).map λy=>(y.1:Int)):=by
 have dX:=o.st;have fp:=o.L;have hm:=o.m;have WK:2 ^ G.m<=2 ^ 10:=atg (by decide) hm;have Ah:x<2 ^ 62:=by omega
 have al_:Int.toNat (G.L:Int)=G.L:=by omega
 refine oB _ _ _ _ ?_;unfold Lc;refine bL λaj aa f1 aC aE=>bL λaB ad f2 a7 az=>?_;have eA:=aE.trans az;have fa:=R.bE o eA;refine⟨λq1 aQ bO aP bs g=>q1=⟨B.cm,0⟩/\k=aQ/\UInt64.ofNat x=bO/\aP=⟨aj,0⟩/\bs=⟨aB,0⟩/\g=ad,?_,?_⟩
 .have b1:decide (cK ((2:Int) ^ G.m)<=UInt64.ofNat x)=false:=by
   rw[show(2:Int) ^ G.m=((2 ^ G.m:Nat):Int) by simp,jr (by omega)];refine ati λhle=>?_;have:=at9.1 hle;rw[ate,ate] at this;omega
  rcases ab with rfl|rfl|rfl
  .exact b0 rfl ⟨_,aF fa.top rfl,b0 b1 ⟨rfl,rfl,rfl,rfl,rfl,rfl⟩⟩
  .exact eh rfl (b0 rfl ⟨_,aF fa.top rfl,b0 b1 ⟨rfl,rfl,rfl,rfl,rfl,rfl⟩⟩)
  .exact eh rfl (eh rfl (b0 rfl ⟨_,aF fa.top rfl,b0 b1 ⟨rfl,rfl,rfl,rfl,rfl,rfl⟩⟩))
 rintro q1 aQ bO aP bs g ⟨rfl,rfl,rfl,rfl,rfl,rfl⟩;refine⟨_,aF fa.top rfl,by omega,by omega,by omega,by omega,bL λaS aq f3 b2 aD=>⟨by omega,by omega,by omega,by omega,bL λb7 aJ f4 b5 bc=>⟨by omega,by omega,by omega,by omega,bL λb4 aW f5 cD bU=>?_⟩⟩⟩;rw[al_] at b2 b5 cD ⊢;have o4:=(aD.trans bc).trans bU;have hy:=eA.trans o4;have f20:h aB=none:=aE.free f2;have f30:h aS=none:=eA.free f3;have f40:h b7=none:=eA.free (aD.free f4);have f50:h b4=none:=eA.free (aD.free (bc.free f5));have n34:aS≠b7:=λe=>by rw[<-e,b2] at f4;cases f4
 have n35:aS≠b4:=λe=>by rw[<-e,bc.get b2] at f5;cases f5
 have n45:b7≠b4:=λe=>by rw[<-e,b5] at f5;cases f5
 have ama:=R.bE o hy;let bj:an:=⟨some ⟨aS,0⟩,G.L,G.L,none⟩;let bM:an:=⟨some ⟨b7,0⟩,G.L,G.L,none⟩;let cZ:an:=⟨some ⟨b4,0⟩,G.L,G.L,none⟩;have im:cI 2 pF h aW bj ((List.range G.L).map λ_=>((0:Nat),(0:Nat))):=cI.nu sv f30 ((bc.trans bU).get b2) (WY fp) (by simp);have gn:cI 2 pF h aW bM ((List.range G.L).map λ_=>((0:Nat),(0:Nat))):=cI.nu sv f40 (bU.get b5) (WY fp) (by simp);have iB:cI 1 C5 h aW cZ ((List.range G.L).map λ_=>(0:a8)):=cI.nu Ma f50 cD (al8 fp) (by simp);have g1:=(az.trans o4).get aC;have g2:=o4.get a7;have gA:∀ {y:Nat},h y=none->¬fA B G.L V y:=λaA=>R.out o aA;have Mb:aj≠aS/\aj≠b7/\aj≠b4:=⟨(λe=>by rw[<-e,az.get aC] at f3;cases f3),(λe=>by rw[<-e,(az.trans aD).get aC] at f4;cases f4),λe=>by rw[<-e,((az.trans aD).trans bc).get aC] at f5;cases f5⟩;have Mc:aB≠aS/\aB≠b7/\aB≠b4:=⟨(λe=>by rw[<-e,a7] at f3;cases f3),(λe=>by rw[<-e,aD.get a7] at f4;cases f4),λe=>by rw[<-e,(aD.trans bc).get a7] at f5;cases f5⟩;have afz:∀j,j<G.L->G.bG S.used j=S.used+2*(G.L-1-j):=λj _=>rfl;have wn:∀ {b:Nat},h b=none->∀q,B.dG.q=some q->0<ws.length->q.b≠b:=λau q ah aO e=>(R.jv q ah aO).1 (e▸au);refine⟨λbJ bx ca c0 dd bh Gw zD Gx bo g bI=>bJ=⟨B.cm,0⟩/\k=bx/\UInt64.ofNat x=ca/\c0=⟨aj,0⟩/\dd=⟨aB,0⟩/\bh=(G.L:Nat)/\Gw=bj/\zD=bM/\Gx=cZ/\∃i:Nat,bo=(G.L:Int)-1-i/\i<=G.L/\bI=G.L-i/\fY G ws B { S with used:=S.used+2*i } a_ V g/\cn (fA B G.L V) h (fA B G.L V) g/\cI 2 pF h g bj ((List.range G.L).map (drawn G (wf ws) S.used 0 (G.L-i)))/\cI 2 pF h g bM ((List.range G.L).map (drawn G (wf ws) S.used 1 (G.L-i)))/\cI 1 C5 h g cZ ((List.range G.L).map λy=>if G.L-i<=y then cu x y else 0)/\g aj=aW aj/\g aB=aW aB,
  ⟨G.L,rfl,rfl,rfl,rfl,rfl,rfl,rfl,rfl,rfl,0,by rw[bl];omega,by omega,rfl,ama,iC hy _,?_,?_,?_,rfl,rfl⟩,?_⟩
 .have e:(List.range G.L).map (drawn G (wf ws) S.used 0 (G.L-0))=(List.range G.L).map λ_=>((0:Nat),(0:Nat)):=atv λy aA=>by unfold drawn;rw[as7 (by have:=atq.1 aA;omega)]
  rw[e];exact im
 .have e:(List.range G.L).map (drawn G (wf ws) S.used 1 (G.L-0))=(List.range G.L).map λ_=>((0:Nat),(0:Nat)):=atv λy aA=>by unfold drawn;rw[as7 (by have:=atq.1 aA;omega)]
  rw[e];exact gn
 .have e:(List.range G.L).map (λy=>if G.L-0<=y then cu x y else 0)=(List.range G.L).map λ_=>(0:a8):=atv λy aA=>by rw[as7 (by have:=atq.1 aA;omega)]
  rw[e];exact iB
 clear im gn iB;rintro bJ bx ca c0 dd bh Gw zD Gx bo g bI ⟨rfl,rfl,rfl,rfl,rfl,rfl,rfl,rfl,rfl,i,rfl,hi,rfl,dE,iH,im,gn,iB,pA,GL⟩;refine b6 (λb1=>?_) λc3=>?_
 .have bN:i<G.L:=by omega
  obtain⟨j,aL⟩:∃j:Nat,j=G.L-1-i:=⟨_,rfl⟩;have C6:(G.L:Int)-1-i=j:=by omega
  rw[C6];have Ai:G.bG S.used j=S.used+2*i:=by unfold c2.bG;omega
  have W1:∀e:Nat,(λy=>if y=j then (G.leaf (wf ws) j (G.bG S.used j+e),G.bG S.used j+e) else drawn G (wf ws) S.used e (G.L-i) y)=drawn G (wf ws) S.used e (G.L-(i+1)):=λe=>by
   funext y;unfold drawn;by_cases c:y=j
   .subst c;rw[as8 rfl,d_]
   .rw[as7 c];by_cases aZ:G.L-i<=y/\y<G.L
    .rw[as8 aZ,d_]
    .rw[as7 aZ,cS]
  have Aj:∀ {hd:Nat} {α:Type} {f:α->List Value} {g bg:ai} {b:Nat} {l:List α},cn (fA B G.L V) g (fA B G.L V) bg->h b=none->cI hd f h g ⟨some ⟨b,0⟩,G.L,G.L,none⟩ l->cI hd f h bg ⟨some ⟨b,0⟩,G.L,G.L,none⟩ l:=λv au A=>A.move λq ah=>(by cases ah;exact v.2.1 _ (A.b_ (q:=⟨_,0⟩) rfl).2 (gA au));have Ak:∀ {hd:Nat} {α:Type} {f:α->List Value} {g bg:ai} {b c:Nat} {l:List α},(∀y,y≠c->bg y=g y)->b≠c->cI hd f h g ⟨some ⟨b,0⟩,G.L,G.L,none⟩ l->cI hd f h bg ⟨some ⟨b,0⟩,G.L,G.L,none⟩ l:=λv au A=>A.move λq ah=>(by cases ah;exact v _ au);refine(WN o dE (i:=j) (by omega) (by show S.used+2*i<2 ^ 62;omega)).mono ?_;rintro _ nU ⟨rfl,hR,i_⟩;refine⟨_,_,rfl,⟨aS,0⟩,rfl,by omega,by show(j:Int)+1<=(G.L:Nat);omega,?_⟩;refine sN sv (Aj i_ f30 im) (q:=⟨aS,0⟩) rfl (i:=j) (by omega) (G.leaf (wf ws) j (S.used+2*i),S.used+2*i) λnp Md rj=>?_;have Md:cI 2 pF h np bj ((List.range G.L).map (drawn G (wf ws) S.used 0 (G.L-(i+1)))):=by
   have e:=W1 0;rw[atQ,Ai] at e;rw[<-e];exact Md
  have s3:=hR.loc (gA f30) (wn f30) rj;have Me:cn (fA B G.L V) h (fA B G.L V) np:=⟨(iH.trans i_).1,λy aA aH=>(rj y λe=>aA (e▸f30)).trans ((iH.trans i_).2.1 y aA aH),λy aA=>by
   by_cases c:y=aS
   .rw[c];exact f30
   .rw[rj y c] at aA;exact(iH.trans i_).2.2 y aA⟩
  refine(WN o s3 (i:=j) (by omega) (by show S.used+2*i+1<2 ^ 62;omega)).mono ?_;rintro _ qq ⟨rfl,uI,rk⟩;refine⟨_,_,rfl,⟨b7,0⟩,rfl,by omega,by show(j:Int)+1<=(G.L:Nat);omega,?_⟩;refine sN sv (Aj rk f40 (Ak rj (atf n34) (Aj i_ f40 gn))) (q:=⟨b7,0⟩) rfl (i:=j) (by omega) (G.leaf (wf ws) j (S.used+2*i+1),S.used+2*i+1) λAl Mf kM=>?_;have Mf:cI 2 pF h Al bM ((List.range G.L).map (drawn G (wf ws) S.used 1 (G.L-(i+1)))):=by
   have e:=W1 1;rw[Ai] at e;rw[<-e];exact Mf
  rw[show al (2*(j:Int))=((2*j:Nat):Int) by rw[bl];omega,show Int.toNat ((2*j:Nat):Int)=2*j by omega,W2 Ah (by omega)];refine⟨by omega,⟨b4,0⟩,rfl,by omega,by show(j:Int)+1<=(G.L:Nat);omega,?_⟩;refine sN Ma (Ak kM (atf n45) (Aj rk f50 (Ak rj (atf n35) (Aj i_ f50 iB)))) (q:=⟨b4,0⟩) rfl (i:=j) (by omega) (cu x j) λGM amb rl=>?_;have xI:=Me.trans rk;have W3:∀ {y:Nat},h y=none->y≠aS->y≠b7->y≠b4->g y≠none->GM y=g y:=λ{y} aA aI aQ bm bK=>by
   have sw:=i_.2.1 y bK (gA aA);have c7:=(rj y aI).trans sw;have qg:=(rk.2.1 y (by rw[c7];exact bK) (gA aA)).trans c7;rw[rl y bm,kM y aQ,qg]
  refine⟨G.L-(i+1),by omega,rfl,rfl,rfl,rfl,rfl,rfl,rfl,rfl,rfl,i+1,by rw[bl];omega,by omega,rfl,?_,?_,Ak rl n35 (Ak kM n34 (Aj rk f30 Md)),Ak rl n45 Mf,?_,(W3 f1 Mb.1 Mb.2.1 Mb.2.2 (by rw[pA,g1];simp)).trans pA,(W3 f20 Mc.1 Mc.2.1 Mc.2.2 (by rw[GL,g2];simp)).trans GL⟩
  .have e:S.used+2*(i+1)=S.used+2*i+1+1:=by omega
   rw[e];exact((uI.loc (gA f40) (wn f40) kM).loc (gA f50) (wn f50) rl)
  .refine⟨xI.1,λy aA aH=>(rl y λe=>aA (e▸f50)).trans ((kM y λe=>aA (e▸f40)).trans (xI.2.1 y aA aH)),λy aA=>?_⟩;by_cases ff:y=b4
   .rw[ff];exact f50
   .rw[rl y ff] at aA;by_cases dc:y=b7
    .rw[dc];exact f40
    .rw[kM y dc] at aA;exact xI.2.2 y aA
  .have e:(λy=>if y=j then cu x j else if G.L-i<=y then cu x y else 0)=λy=>if G.L-(i+1)<=y then cu x y else 0:=by
    funext y;by_cases c:y=j
    .rw[as8 c,d_,c]
    .rw[as7 c];by_cases aZ:G.L-i<=y
     .rw[as8 aZ,d_]
     .rw[as7 aZ,cS]
   rw[<-e];exact amb
 have hi:i=G.L:=by omega
 subst hi;clear c3;rw[Nat.sub_self] at im gn iB;let Y:Nat->Prop:=λy=>y=aj∨y=aB∨y=aS∨y=b7∨y=b4;have w6:∀y,Y y->h y=none:=by rintro y (rfl|rfl|rfl|rfl|rfl)<;>assumption
 have k9:∀y,Y y->g y≠none:=by
  rintro y (rfl|rfl|rfl|rfl|rfl)
  .rw[pA,g1];simp
  .rw[GL,g2];simp
  .exact(im.b_ (q:=⟨_,0⟩) rfl).2
  .exact(gn.b_ (q:=⟨_,0⟩) rfl).2
  .exact(iB.b_ (q:=⟨_,0⟩) rfl).2
 have amc:∀y,Y y->¬fA B G.L V y:=λy aA=>gA (w6 y aA);have lP:Y aj:= .inl rfl;have kj:Y aB:= .inr (.inl rfl);have ot:Y aS:= .inr (.inr (.inl rfl));have uW:Y b7:= .inr (.inr (.inr (.inl rfl)));have ie:Y b4:= .inr (.inr (.inr (.inr rfl)));have vF:∀e j,j<G.L->drawn G (wf ws) S.used e 0 j=(G.leaf (wf ws) j (G.bG S.used j+e),G.bG S.used j+e):=λe j aL=>by unfold drawn;rw[as8 ⟨atx _,aL⟩]
 have C7:∀j:Nat,Int.toNat (j:Int)=j:=λj=>by omega
 have oZ:∀ {bg:ai},(∀y,Y y->bg y=g y)->∀j,j<G.L->bR bg aS (0+Int.toNat (j:Int)*2)=some (U (G.leaf (wf ws) j (G.bG S.used j)))/\bR bg aS (0+Int.toNat (j:Int)*2+1)=some (U (G.bG S.used j)):=λaA j aL=>by
  have:=WZ im aL;rw[vF 0 j aL,atQ] at this;rw[C7,mF (aA aS ot),mF (aA aS ot)];exact this
 have rN:∀ {bg:ai},(∀y,Y y->bg y=g y)->∀j,j<G.L->bR bg b7 (0+Int.toNat (j:Int)*2)=some (U (G.leaf (wf ws) j (G.bG S.used j+1)))/\bR bg b7 (0+Int.toNat (j:Int)*2+1)=some (U ((G.bG S.used j+1:Nat):Int)):=λaA j aL=>by
  have:=WZ gn aL;rw[vF 1 j aL] at this;rw[C7,mF (aA b7 uW),mF (aA b7 uW)];exact this
 have C8:∀ {bg:ai},(∀y,Y y->bg y=g y)->∀j,j<G.L->bR bg b4 (0+Int.toNat (j:Int)*1)=some (ak (cu x j)):=λaA j aL=>by
  have:=al9 iB aL;rw[as8 (atx _)] at this;rw[C7,mF (aA b4 ie)];exact this
 have Mg:∀j p,G.leaf (wf ws) j p<1024:=λj p=>u7 (w:=wf ws) o j p;have GN:∀j,G.bG S.used j<1000000000100:=λj=>by unfold c2.bG;omega
 have Mh:al ((G.L:Int)-1)=((G.L-1:Nat):Int):=by rw[bl];omega
 have tx:=(nL o af (h:=G.L-1)).1;have ra:=BG o af;have C9:G.L-1<G.L:=by omega
 have GO:((G.L-1:Nat):Int)+1<=((G.L:Nat):Int):=by omega
 refine⟨some ⟨B.m.b,0⟩,aF dE.top rfl,_,aF dE.top rfl,?_⟩;rw[Mh];refine⟨⟨b4,0⟩,rfl,by omega,GO,_,C8 (λ_ _=>rfl) _ C9,?_⟩;refine(alB dE.mem st.pD (cu x (G.L-1)) (by omega)).mono ?_;rintro _ dz ⟨ir,rfl,Am,kJ⟩;rw[tx,as8 (by rw[st.pE];exact ra)];obtain⟨sx,An⟩:=dE.C1 o Am kJ;obtain⟨GP,W4⟩:=kH An k9 amc;have Ao:=iH.trans An;generalize rm:S.R G.f (x/4 ^ (G.L-1))=nh;refine⟨nh,rfl,bL λdy eW f6 dK jf=>?_⟩;have f60:h dy=none:=Ao.2.2 _ f6;refine fG (n:=12) (Ao.more jf) f60 dK rfl λdr uX pz ps=>bL λeQ eP f7 fq lr=>?_;have f70:h eQ=none:=uX.2.2 _ f7;have zN:eQ≠dy:=λe=>by rw[e,pz] at f7;cases f7
 have Ap:∀y,dz y≠none->eP y=dz y:=λy aA=>by
  have e:dr y=dz y:=by rw[ps y λe=>aA (e▸f6),jf y aA]
  rw[lr y (by rw[e];exact aA),e]
 have W5:dz eQ=none:=by
  cases c:dz eQ with
  | none=>rfl
  | some fJ =>
   have:dr eQ=dz eQ:=by rw[ps eQ zN,jf eQ (by rw[c];simp)]
   rw[f7,c] at this;cases this
 have Aq:=sx.bE (ag:=eP) o Ap;have Mi:∀y,Y y->eP y=g y:=λy aA=>by rw[Ap y (by rw[GP y aA];exact k9 y aA),GP y aA]
 refine⟨⟨aS,0⟩,rfl,by omega,GO,_,(oZ Mi _ C9).1,Int.NonNeg.mk _,Int.NonNeg.mk _,?_⟩;have W6:∀y,Y y->y≠eQ:=λy aA e=>k9 y aA (by rw[<-GP y aA,e];exact W5);have W7:¬fA B G.L { V with es:=ir } eQ:=sx.out o W5;have amd:¬fA B G.L { V with es:=ir } dy:=sx.out o f6;refine nf (n:=12) (c:=gz) (i:=0) (uX.more lr) f70 fq (by decide) λer GQ xD ve=>?_;have Mj:∀y,Y y->er y=g y:=λy aA=>(ve y (W6 y aA)).trans (Mi y aA);refine⟨⟨aS,0⟩,rfl,by omega,GO,_,(oZ Mj _ C9).2,Int.NonNeg.mk _,Int.NonNeg.mk _,?_⟩;refine nf (n:=12) (i:=1) GQ f70 xD (by decide) λgh GR qU vf=>?_;have GS:∀y,Y y->gh y=g y:=λy aA=>(vf y (W6 y aA)).trans (Mj y aA);have tR:=(Aq.loc W7 (wn f70) ve).loc W7 (wn f70) vf;rw[jr (by have:=Mg (G.L-1) (G.bG S.used (G.L-1));omega),jr (by have:=GN (G.L-1);omega),W0,W8] at qU;have W9:gh dy=_:=((vf dy (atf zN)).trans (ve dy (atf zN))).trans (lr.get pz);refine⟨some ⟨B.m.b,0⟩,aF tR.top rfl,_,aF tR.top rfl,⟨b4,0⟩,rfl,by omega,GO,_,C8 GS _ C9,_,da qU,?_⟩;have tP:(reads (G.f:Int) (B.m.cq G.f)).length=B.m.cq G.f:=Bo _ _;have ln:=R.mem.cq G.f st.pD;refine(alD tR.mem st.pD (cu x (G.L-1)) _ true (by simp only[as9,tP];omega)).mono ?_;rintro _ fe ⟨eO,rfl,tn,sj⟩;rw[tx,as8 ⟨by rw[st.pE];exact ra,rfl⟩] at tn;obtain⟨rn,vG⟩:=tR.C1 o tn sj;have Mk:=vG.get W9 amd;obtain⟨GU,W_⟩:=kH vG (λy aA=>by rw[GS y aA];exact k9 y aA) W4;have GU:∀y,Y y->fe y=g y:=λy aA=>(GU y aA).trans (GS y aA);have u3:=GR.trans vG;have rn:fY G ws B (G.begin (wf ws) (x/4 ^ (G.L-1)) S) _ { V with es:=eO } fe:=rn;obtain⟨GV,xJ⟩:=FI o hu (by omega) dY ra;rw[rm] at xJ;have C_:∀ {v p:a8} {mX j:Nat} {fR:fj},sd G (wf ws) u0 mX j fR v p->v.toNat<2 ^ 62:=λ{v p mX j fR} c=>by
  by_cases bH:v=0
  .rw[bH];decide
  .have:=(c.nH bH).1.val;have:=Mg j p.toNat;omega
 have Ar:gV G (wf ws) op x S=j2 G (wf ws) S.used op x (G.L-1) nh[0] nh[1] (G.begin (wf ws) (x/4 ^ (G.L-1)) S):=by rw[<-rm];rfl
 generalize jZ:gV G (wf ws) op x S=F;rw[jZ] at Ar;have rU:B.m.cq G.f=uB G.m G.L:=st.pE;generalize sy:a_++reads (G.f:Int) (B.m.cq G.f)++writes (G.f:Int) (B.m.cq G.f)=pre at rn;have ame:pre.length<=a_.length+3*4096:=by
  rw[<-sy];simp only[as9,tP,rH];omega
 have Xa:=pA.trans g1;have amf:=GL.trans g2;refine⟨rfl,Int.NonNeg.mk _,Int.NonNeg.mk _,_,gi Mk (i:=0) (by decide),Int.NonNeg.mk _,Int.NonNeg.mk _,_,gi Mk (i:=1) (by decide),?_⟩;refine⟨λe7 dh j8 ih iY Xb Xc Xd v p ck bg bI=>e7=⟨B.cm,0⟩/\k=dh/\UInt64.ofNat x=j8/\ih=⟨aj,0⟩/\iY=⟨aB,0⟩/\Xb=bj/\Xc=bM/\Xd=cZ/\∃(j:Nat) (fR:fj) (nq:List dt) (xK:mc),ck=j/\j<G.L/\j=bI/\fY G ws B fR nq xK bg/\cn (fA B G.L V) h (fA B G.L xK) bg/\(∀y,Y y->bg y=g y)/\(∀y,Y y->¬fA B G.L xK y) /\
  j2 G (wf ws) S.used op x j v p fR=F/\kD G (wf ws) u0 (G.bG S.used j+1) fR/\sd G (wf ws) u0 (G.bG S.used j+1) j fR v p/\fR.gone.length=S.gone.length+(G.L-1-j)/\nq=pre++mJ G.m G.s G.t G.L G.f ((fR.gone.drop S.gone.length).map λy=>(y.1:Int)) (G.L-1-j)/\∀y,y<=j->fR.ids y=S.ids y,
  ⟨G.L-1,rfl,rfl,rfl,rfl,rfl,rfl,rfl,rfl,G.L-1,_,_,_,rfl,C9,rfl,rn,u3,GU,W_,Ar.symm,GV,xJ,by rw[Nat.sub_self];rfl,by simp[mJ],λ_ _=>rfl⟩,?_⟩
 clear rn u3 GU W_ GV xJ Ar Mk sj tn vG tR Aq sx GR GQ uX Ao Am kJ An GP Mi Mj GS W4 W9 qU xD pz dE iH;rintro e7 dh j8 ih iY Xb Xc Xd v p ck bg bI ⟨rfl,rfl,rfl,rfl,rfl,rfl,rfl,rfl,j,fR,nq,xK,rfl,jQ,rfl,dE,iH,oE,Xe,sf,GW,vH,oe,nd,Xf⟩;have Ml:((j:Nat):Int)+1<=((G.L:Nat):Int):=by omega
 have Mm:=C_ vH;have amg:nq.length<100050000000:=by
  have:=IJ dX (G.f:Int) ((fR.gone.drop S.gone.length).map λy=>(y.1:Int)) (G.L-1-j);rw[nd,as9];omega
 have th:=nL o af (h:=j);have lvl:=dE.jE.len;simp only[ath,atj] at lvl;have GX:∀ {g2:ai} {eV:fj} {hL:List dt} {o6:mc},fY G ws B eV hL o6 g2->∀ {nF:aG},B.bS.q=some nF->bR g2 nF.b (nF.o+j)=some (bu ⟨B.aV j,0⟩):=λ{_ _ _ _} fa {nF} rp=>by
  obtain⟨asy,Xg,n1⟩:=fa.jE.at (i:=j) (by simp;omega);rw[rp] at Xg;cases Xg;rw[n1];simp
 obtain⟨nF,rp,_⟩:=dE.jE.at (i:=j) (by simp;omega);have Xh:∀ {g2:ai} {eV:fj} {hL:List dt} {o6:mc},fY G ws B eV hL o6 g2->∀q,(o6.is j).q=some q->q.b≠B.aV j/\¬bA B.m o6.es q.b:=λfa q ah=>⟨λe=>(by cases fa.h_ (.is j) (.aV j) _ ⟨jQ,q,ah,rfl⟩ ⟨jQ,e⟩),fa.ik (.is j) _ ⟨jQ,q,ah,rfl⟩⟩;obtain⟨fP,xL⟩:=zB o hu (by omega) GW vH (by rw[oe,cR]);have Xi:∀ {g2:ai},fY G ws B fR nq xK g2->aw 69 [bu ⟨B.cm,0⟩,ak v,ak p,.agg #[U (G.leaf (wf ws) j (G.bG S.used j+1)),U ((G.bG S.used j+1:Nat):Int)]] g2 λr ag=>∃eL,r=U (fD v p (G.leaf (wf ws) j (G.bG S.used j+1),G.bG S.used j+1)).1/\fY G ws B { fR with gone:=fR.gone++[fD v p (G.leaf (wf ws) j (G.bG S.used j+1),G.bG S.used j+1)] } nq eL ag/\cn (fA B G.L xK) g2 (fA B G.L eL) ag:=λfa =>
  alX o fa Mm (λbH=>by have:=(vH.nH bH).1.lt;have:=GN j;omega) (sp:=(G.leaf (wf ws) j (G.bG S.used j+1),G.bG S.used j+1)) (by omega)
 generalize Da:fD v p (G.leaf (wf ws) j (G.bG S.used j+1),G.bG S.used j+1)=ao at *;have Gc:(fR.ids j).length<1000000000000:=by rw[Xf j (as_ _)];exact BK j
 refine b6 (λpY=>?_) λpY=>?_
 .obtain⟨cy,rfl⟩:∃cy,j=cy+1:=⟨j-1,by omega⟩;have Mn:al (((cy+1:Nat):Int)-1)=(cy:Nat):=by rw[bl];omega
  rw[Mn];have Mo:((cy:Nat):Int)+1<=((G.L:Nat):Int):=by omega
  refine⟨⟨b4,0⟩,rfl,by omega,Mo,_,C8 oE cy (by omega),by decide,bL λfI qq f8 gg rq=>?_⟩;have f80:h fI=none:=iH.2.2 _ f8;have GY:¬fA B G.L xK fI:=dE.out o f8;have Xj:∀y,Y y->y≠fI:=λy aA e=>k9 y aA (by rw[<-oE y aA,e];exact f8);have GZ:∀y,Y y->qq y=g y:=λy aA=>(rq y (by rw[oE y aA];exact k9 y aA)).trans (oE y aA);refine⟨⟨aS,0⟩,rfl,by omega,Mo,_,(oZ GZ cy (by omega)).1,Int.NonNeg.mk _,Int.NonNeg.mk _,?_⟩;refine nf (n:=8) (c:=kE) (i:=0) (iH.more rq) f80 gg (by decide) λGM Mp amh rl=>?_;have Xk:∀y,Y y->GM y=g y:=λy aA=>(rl y (Xj y aA)).trans (GZ y aA);refine⟨⟨aS,0⟩,rfl,by omega,Mo,_,(oZ Xk cy (by omega)).2,Int.NonNeg.mk _,Int.NonNeg.mk _,?_⟩;refine nf (n:=8) (i:=1) Mp f80 amh (by decide) λAs Db G0 Dc=>?_;have At:∀y,Y y->As y=g y:=λy aA=>(Dc y (Xj y aA)).trans (Xk y aA);have vI:=((dE.bE o rq).loc GY (wn f80) rl).loc GY (wn f80) Dc;rw[jr (by have:=Mg cy (G.bG S.used cy);omega),jr (by have:=GN cy;omega),W0] at G0;refine⟨_,aF vI.top rfl,nF,rp,by omega,by omega,some ⟨B.aV (cy+1),0⟩,by rw[C7,auw];exact GX vI rp,⟨b4,0⟩,rfl,by omega,Ml,_,C8 At _ jQ,_,da G0,⟨b7,0⟩,rfl,by omega,Ml,_,(rN At _ jQ).1,_,(rN At _ jQ).2,⟨aS,0⟩,rfl,by omega,Ml,_,(oZ At _ jQ).1,?_⟩;refine(Xi vI).mono ?_;rintro _ nU ⟨Dd,rfl,hR,i_⟩;obtain⟨nV,Mq⟩:=kH i_ (λy aA=>by rw[At y aA];exact k9 y aA) Xe;have nV:∀y,Y y->nU y=g y:=λy aA=>(nV y aA).trans (At y aA);have ami:=i_.get G0 GY;have asz:=i_.out (by rw[G0];simp) GY;have Mr:=Db.trans i_;refine⟨_,rfl,⟨(oZ nV _ jQ).1,trivial⟩,da ami,⟨C8 nV _ jQ,trivial⟩,⟨by rw[C7,auw];exact GX hR rp,trivial⟩,⟨aF hR.top rfl,trivial⟩,?_⟩;have q9:=(nL o af (h:=cy)).1;generalize ah:x/4 ^ cy%4=h4;have lQ:h4<4:=by rw[<-ah];exact aum _ (by decide)
  have Ms:al (2*al ((cu x cy%4).toNat:Int))=((2*h4:Nat):Int):=by
   have aC:(cu x cy%4).toNat=h4:=by
    rw[au9,q9,<-ah];rfl
   rw[aC,bl (n:=(h4:Int)),bl];omega
  have Mt:al (((2*h4:Nat):Int)+1)=((2*h4+1:Nat):Int):=by rw[bl];omega
  rw[Ms,Mt];refine(VD (o.fu (cy+1)) (st.nB (cy+1) jQ) hR.mem (hR.fu (cy+1) jQ) (hR.ids (cy+1) jQ) (hR.ik (.aV (cy+1)) _ ⟨jQ,rfl⟩) (Xh hR) Gc (ao:=ao.1) (to:=G.leaf (wf ws) (cy+1) (G.bG S.used (cy+1))) fP (G.pj _ (cy+1) _) (bi:=cu x (cy+1)) th.2 (xL.lK (cy+1) jQ)
   (op:= .part (2*h4) (UInt64.ofNat (G.leaf (wf ws) cy (G.bG S.used cy)+1)) (UInt64.ofNat (G.bG S.used cy))) ⟨rfl,rfl,by omega,by simp,by simp⟩ (by omega)).mono ?_
  rintro _ Au ⟨Xl,asA,rfl,Mu,Mv,amj,Mw,amk,aml,Mx⟩;obtain⟨De,tS⟩:=hR.C2 o (i:=cy+1) jQ Mu Mv amj Mw amk aml Mx;obtain⟨Df,amm⟩:=kH tS (λy aA=>by rw[nV y aA];exact k9 y aA) Mq;have Df:∀y,Y y->Au y=g y:=λy aA=>(Df y aA).trans (nV y aA);have Dg:=Mr.trans tS;obtain⟨My,Av⟩:=FD o (u0:=u0) (u:=S.used) (h:=cy) (q1:=h4) (by omega) lQ (by have:=GN cy;omega) hu xL (id:=cu x (cy+1)) th.2 fP (G.pj (wf ws) (cy+1) (G.bG S.used (cy+1)));refine⟨_,_,rfl,bL λho amn f9 iE Aw=>?_⟩;have f90:h ho=none:=Dg.2.2 _ f9;have amo:=De.out o f9;have amp:∀y,Y y->y≠ho:=λy aA e=>k9 y aA (by rw[<-Df y aA,e];exact f9);refine fG (n:=8) (Dg.more Aw) f90 iE rfl λXm Mz Xn G1=>?_;rw[tT _ (by omega),tT _ (by omega)] at Av;refine⟨by omega,by omega,_,by rw[show 0+Int.toNat ((2*h4:Nat):Int)*1=2*h4 by omega];exact gi Xn (by omega),by omega,by omega,_,by rw[show 0+Int.toNat ((2*h4+1:Nat):Int)*1=2*h4+1 by omega];exact gi Xn (by omega),?_⟩;refine⟨cy,by omega,rfl,rfl,rfl,rfl,rfl,rfl,rfl,rfl,cy,G.acc (cy+1) (.part (2*h4) (UInt64.ofNat (G.leaf (wf ws) cy (G.bG S.used cy)+1)) (UInt64.ofNat (G.bG S.used cy))) (cu x (cy+1)) ao.1 (G.leaf (wf ws) (cy+1) (G.bG S.used (cy+1))) { fR with gone:=fR.gone++[ao] },nq++mI (G.dP (cy+1)).k (G.dP (cy+1)).s (G.dP (cy+1)).t (G.base (cy+1)) ao.1,_,rfl,by omega,rfl,(De.bE o Aw).loc amo (wn f90) G1,Mz,λy aA=>(G1 y (amp y aA)).trans ((Aw y (by rw[Df y aA];exact k9 y aA)).trans (Df y aA)),amm,?_,My,Av,?_,?_,λy aA=>?_⟩
  .rw[<-tT _ (show 2*h4<8 by omega),<-tT _ (show 2*h4+1<8 by omega),<-sf,<-Da,<-ah];rfl
  .show(fR.gone++[ao]).length=_;rw[as9,oe];simp;omega
  .rw[nd,G2 (j:=cy+1) oe (by omega),show G.L-1-cy=G.L-1-(cy+1)+1 by omega];rfl
  .show(if y=cy+1 then _ else fR.ids y)=_
   rw[cS];exact Xf y (by omega)
 .have sT:j=0:=by omega
  subst sT;have MA:UInt64.ofNat x=cu x 0:=by unfold cu;simp
  have Xo:(1:Int)<=((G.L:Nat):Int):=by omega
  refine⟨_,aF dE.top rfl,nF,rp,Int.NonNeg.mk _,by omega,some ⟨B.aV 0,0⟩,GX dE rp,d,da ((oE aj lP).trans Xa),⟨b7,0⟩,rfl,Int.NonNeg.mk _,Xo,_,(rN oE 0 jQ).1,_,(rN oE 0 jQ).2,⟨aS,0⟩,rfl,Int.NonNeg.mk _,Xo,_,(oZ oE 0 jQ).1,?_⟩;refine(Xi dE).mono ?_;rintro _ nU ⟨Dd,rfl,hR,i_⟩;obtain⟨nV,Mq⟩:=kH i_ (λy aA=>by rw[oE y aA];exact k9 y aA) Xe;have nV:∀y,Y y->nU y=g y:=λy aA=>(nV y aA).trans (oE y aA);have Mr:=iH.trans i_;refine⟨_,rfl,⟨(oZ nV 0 jQ).1,trivial⟩,da ((nV aj lP).trans Xa),⟨GX hR rp,trivial⟩,⟨aF hR.top rfl,trivial⟩,?_⟩;rw[MA];refine(VD (o.fu 0) (st.nB 0 jQ) hR.mem (hR.fu 0 jQ) (hR.ids 0 jQ) (hR.ik (.aV 0) _ ⟨jQ,rfl⟩) (Xh hR) Gc (ao:=ao.1) (to:=G.leaf (wf ws) 0 (G.bG S.used 0)) fP (G.pj _ 0 _) (bi:=cu x 0) th.2 (xL.lK 0 jQ) fE (by omega)).mono ?_;rintro _ np ⟨Xp,asB,rfl,MB,MC,amq,MD,amr,ams,ME⟩;obtain⟨s3,xM⟩:=hR.C2 o (i:=0) jQ MB MC amq MD amr ams ME;obtain⟨xN,amt⟩:=kH xM (λy aA=>by rw[nV y aA];exact k9 y aA) Mq;have xN:∀y,Y y->np y=g y:=λy aA=>(xN y aA).trans (nV y aA);have MF:F=(G.acc 0 op (cu x 0) ao.1 (G.leaf (wf ws) 0 (G.bG S.used 0)) { fR with gone:=fR.gone++[ao] },G.old 0 (cu x 0) ao.1 { fR with gone:=fR.gone++[ao] }):=by rw[<-sf,<-Da];rfl
  subst MF;refine⟨_,_,rfl,fG (n:=8) (Mr.trans xM) f20 ((xN aB kj).trans amf) rfl λqg xI MG Dh=>⟨_,da MG,nq++mI (G.dP 0).k (G.dP 0).s (G.dP 0).t (G.base 0) ao.1,_,rfl,s3.loc (amt aB kj) (wn f20) Dh,xI,?_⟩⟩;rw[nd,G2 (j:=0) oe (by omega),<-sy,rU,show G.L-1-0+1=G.L by omega];unfold qM;simp only[atr];rfl
end

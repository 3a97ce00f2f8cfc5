import Derived.Test.YtegdpmgnhnccaaaGreatMem
import Derived.Test.YtegdpmgnhnccaaaGreatArr
import Derived.Test.YtegdpmgnhnccaaaGreatEvC
namespace Go.Proofs.Tryz
open Go Go.cQ Go.RowKit
set_option maxRecDepth 8000
theorem aeB {h:ai}{s:an}{l:List Int}(r:ey dg h s l)(aO:l.length<=1000000){g:FuncId}(aM:∀x∈l,eu prog g [dg x] (.bool false)) :
 aw 139 [aU s,.func (.func g) #[] #[]] h λv ag=>v=U (-1)/\bB h ag:=by
 refine O_ s _ ?_;unfold H_;refine⟨λs1 v n i aa k=>s1=s/\v= .func (.func g) #[] #[]/\n=s.len/\∃j:Nat,i=j/\bB h aa/\k=s.len-j,⟨_,rfl,rfl,rfl,0,rfl,bB.refl h,rfl⟩,?_⟩;rintro s1 v n i aa k ⟨rfl,rfl,rfl,j,rfl,aE,rfl⟩;have:=r.len;refine b6 (λb1=>?_) λ_=>⟨rfl,aE⟩;have aL:j<l.length:=by omega
 refine(r.bE aE).e0 aL λq _ aT=>⟨_,aT,?_⟩;refine eu.aeC (cs:=[]) (aM _ (aty aL)) λad az=>⟨_,rfl,b0 rfl ⟨_,?_,rfl,rfl,rfl,j+1,bl,aE.trans az,rfl⟩⟩;omega
theorem aeD {h:ai}{s:an}{l:List Int}(r:ey dg h s l)(aO:l.length<=1000000){g:FuncId}(aM:∀x∈l,eu prog g [dg x] (.bool false)) :
 aw 87 [aU s,.func (.func g) #[] #[]] h λv ag=>v= .bool false/\bB h ag:=by
 refine aeE s _ ?_;refine(aeB r aO aM).mono ?_;rintro _ aa ⟨rfl,aE⟩;exact⟨_,rfl,rfl,aE⟩
theorem aeF {n:Nat}(aa:1<=n)(ad:n<=4096):eu prog 86 [dg n] (.bool false):=by
 intro h;refine aeG (n:Int) ?_;unfold RT;refine b0 (hv) ⟨?_,bB.refl h⟩;have:(bif false then true else decide ((4096:Int)<(n:Int)))=false:=hv;rw[this]
theorem RU {n j k:Nat}(aL:j<n)(ab:k<12):(kx (if n*12=0 then #[] else Value.cells (.agg gC)) (n*12))[j*12+k]? =some (ak gz[k]):=by
 rw[cS];have aT:Value.cells (.agg gC)=#[ak 0,ak 0,ak 0,ak 0,ak 0,ak 0,ak 0,ak 0,ak 0,ak 0,ak 0,ak 0]:=by rfl
 rw[aT];unfold kx;have e:(j*12+k)%12=k:=by omega
 have b1:j*12+k<n*12:=by omega
 simp[b1,e];have:k=0∨k=1∨k=2∨k=3∨k=4∨k=5∨k=6∨k=7∨k=8∨k=9∨k=10∨k=11:=by omega
 rcases this with rfl|rfl|rfl|rfl|rfl|rfl|rfl|rfl|rfl|rfl|rfl|rfl<;>rfl
theorem RV (z:Array Value)(n:Nat):(kx z n).size=n:=by simp[kx]
def pd (l bQ:List Nat):List an:=(List.range bQ.length).map λj=>⟨some ⟨bQ.getD j 0,0⟩,l.getD j 0,l.getD j 0,none⟩
theorem RW (l bQ:List Nat)(b:Nat):pd l (bQ++[b])=pd l bQ++[⟨some ⟨b,0⟩,l.getD bQ.length 0,l.getD bQ.length 0,none⟩]:=by
 unfold pd;rw[as9,atA,ato,atD,List.map_singleton];congr 1
 .refine atv λj aL=>?_;have aL:=atq.1 aL;have e:(bQ++[b]).getD j 0=bQ.getD j 0:=by simp[List.getD,atB aL]
  rw[e]
 .have e:(bQ++[b]).getD bQ.length 0=b:=by simp[List.getD]
  rw[e]
theorem RX:ti prog 61 99 (.slice none 0 0) 24:=⟨by kernel_rfl,by kernel_rfl,by kernel_rfl,by kernel_rfl,rfl⟩
theorem RY (x:an):(aU x).oneCell'=true:=rfl
theorem abZ {h:ai}{s:an}{l:List Nat}(r:ey dg h s (l.map λn:Nat=>(n:Int)))(aa:1<=l.length)(ad:l.length<=16)(au:∀n∈l,1<=n/\n<=4096) :
 aw 39 [aU s] h λv ag=>∃(T:TypeId) (m:jo),v= .tuple #[bu ⟨m.b,0⟩,U 0]/\cN T m (λ_ _=>gz) [] ⟨none,0,0,none⟩ ag/\m.ep=l.length/\(∀i,m.cq i=l.getD i 0)/\(∀x,bA m ⟨none,0,0,none⟩ x->h x=none)/\bB h ag:=by
 have hlen:=r.len;rw[ath] at hlen;refine aeH _ ?_;unfold RZ;refine b0 (hv) (b0 (hv) ?_);refine(aeD r (by simp;omega) (λx af=>?_)).mono ?_
 .obtain⟨n,aH,rfl⟩:=atE.1 af;exact aeF (au n aH).1 (au n aH).2
 rintro _ g1 ⟨rfl,aE⟩;refine⟨_,rfl,b0 rfl (bL λaj g2 f1 aC az=>?_)⟩;have pV:h aj=none:=aE.free f1;let nH:List Nat->ai->Prop:=λbQ g=>∀j,j<bQ.length->h (bQ.getD j 0)=none/\∃c t,g (bQ.getD j 0)=dB c t/\c.size=l.getD j 0*12/\∀a,a<l.getD j 0->∀k (ab:k<12),c[a*12+k]? =some (ak gz[k]);refine⟨λcB s1 ax ay g bI=>cB=some ⟨aj,0⟩/\s=s1/\ax=(l.length:Nat)/\∃(i:Nat) (rs:an) (bQ:List Nat),ay=i/\i<=l.length/\bI=l.length-i/\bQ.length=i/\g aj=some (.cells #[aU rs,aU ⟨none,0,0,none⟩,.bool false] 147 (0,0))/\b9 aU h g rs (pd l bQ)/\nH bQ g/\bQ.Nodup/\aj∉bQ/\(∀q,rs.q=some q->q.b≠aj/\q.b∉bQ)/\bB h g,
  ⟨l.length,rfl,rfl,by rw[hlen],0,_,[],rfl,by omega,rfl,rfl,aC,b9.e9 ..,λj aL=>absurd aL (by simp),auG,by simp,(by intro q ah;cases ah),aE.trans az⟩,?_⟩
 rintro cB s1 ax ay g bI ⟨rfl,rfl,rfl,i,rs,bQ,rfl,hi,rfl,rfl,hU,eY,pe,hk,gR,pf,cv⟩;refine b6 (λb1=>?_) λc3=>?_
 .have bN:bQ.length<l.length:=by omega
  have aH:=au _ (aty bN);have cR:l.getD bQ.length 0=l[bQ.length]:=by simp[List.getD,bN]
  rw[<-cR] at aH;refine(r.bE cv).e0 (i:=bQ.length) (by simpa using bN) λq _ aT=>?_;have e:(l.map λn:Nat=>(n:Int))[bQ.length]'(by simpa using bN)=((l.getD bQ.length 0:Nat):Int):=by rw[cR];simp
  rw[e] at aT;generalize m3:l.getD bQ.length 0=n at *;refine⟨_,aT,_,rfl,_,aF hU rfl,by omega,by omega,by omega,by omega,bL λaB g3 f2 a7 aD=>?_⟩;have kQ:Int.toNat (n:Int)=n:=by omega
  rw[kQ];rw[kQ] at a7;have gI:h aB=none:=cv.free f2;have J6:=eY.bE aD;refine b9.sU RX RY J6 ⟨some ⟨aB,0⟩,n,n,none⟩ (λb au=>cv.free (aD.free au)) (by simp[pd];omega) (by decide) ?_;intro B_ g4 Ca p6 rG aeI;have w_:=aD.get hU;have cE:aB≠aj:=λe=>by rw[e,hU] at f2;cases f2
  have J7:g4 aj=_:=(p6 aj (by rw[w_];simp) λq ah e=>(pf q ah).1 e.symm).trans w_;have Bm:bB h g4:=λx af=>by
   have aq:g3 x≠none:=by rw[aD x (by rw[cv x af];exact af),cv x af];exact af
   rw[p6 x aq λq ah e=>af (e▸(eY.b_ ah).1),aD x (by rw[cv x af];exact af),cv x af]
  have tq:∀q,B_.q=some q->q.b≠aj/\q.b≠aB/\q.b∉bQ:=λq ah=>by
   rcases rG q ah with ⟨p,aM,e⟩|aH
   .rw[e];exact⟨(pf p aM).1,λe=>(eY.b_ aM).2 (e▸f2),(pf p aM).2⟩
   .refine⟨λe=>(by rw[e,w_] at aH;cases aH),λe=>(by rw[e,a7] at aH;cases aH),λhm=>?_⟩;obtain⟨j,aL,e⟩:=atT hm;obtain⟨_,c,t,aT,_⟩:=pe j aL;have:bQ.getD j 0=q.b:=by simp[List.getD,aL,e]
    rw[this] at aT;rw[aD.get aT] at aH;cases aH
  refine⟨_,rfl,n0 Bm pV J7 (by simp) λg5 wx cD cY=>⟨l.length-(bQ.length+1),by omega,rfl,rfl,rfl,bQ.length+1,B_,bQ++[aB],bl,by omega,rfl,by simp,by rw[cD];rfl,?_,?_,?_,?_,?_,wx⟩⟩
  .rw[RW,m3];exact Ca.move λq ah=>cY _ (tq q ah).1
  .intro j aL
   by_cases c:j<bQ.length
   .have e:(bQ++[aB]).getD j 0=bQ.getD j 0:=by simp[List.getD,atB c]
    rw[e];obtain⟨h0,nh,t,aT,ar,aN⟩:=pe j c;have hm:bQ.getD j 0∈bQ:=by simp[List.getD,c]
    refine⟨h0,nh,t,?_,ar,aN⟩;rw[cY _ λe=>gR (e▸hm),p6 _ (by rw[aD.get aT];simp) λq ah e=>(pf q ah).2 (e▸hm),aD.get aT]
   .have jU:j=bQ.length:=by simp at aL;omega
    subst jU;have e:(bQ++[aB]).getD bQ.length 0=aB:=by simp[List.getD]
    rw[e,m3];refine⟨gI,_,_,by rw[cY _ cE,p6 _ (by rw[a7];simp) λq ah e=>(eY.b_ ah).2 (e▸f2),a7],?_,λa bV k ab=>RU bV ab⟩;exact RV _ _
  .rw[auP];refine⟨hk,by simp,λa bV b au e=>?_⟩;simp at au;subst au;subst e;obtain⟨j,aL,e⟩:=atT bV;obtain⟨_,c,t,aT,_⟩:=pe j aL;have:bQ.getD j 0=a:=by simp[List.getD,aL,e]
   rw[this,f2] at aT;cases aT
  .intro hm
   rcases atw.1 hm with h|h
   .exact gR h
   .simp at h;exact cE h.symm
  .intro q ah
   refine⟨(tq q ah).1,λhm=>?_⟩;rcases atw.1 hm with h|h
   .exact(tq q ah).2.2 h
   .simp at h;exact(tq q ah).2.1 h
 .have aH:bQ.length=l.length:=by omega
  have uH:=eY.len;simp only[pd,ath,atj] at uH;refine⟨_,⟨aj,rs,λj=>bQ.getD j 0,λj=>l.getD j 0,l.length⟩,rfl,⟨hU,cI.e9 ..,⟨(show 0<l.length by omega),ad⟩,(show rs.len=l.length by omega),?_,?_,?_,?_,?_,(by intro q ah;cases ah),?_⟩,rfl,λ_=>rfl,?_,cv⟩
  .intro j aL
   have aL:j<l.length:=aL;obtain⟨q,ah,e⟩:=eY.rd.at (i:=j) (by simp[pd];omega);refine⟨q,ah,?_⟩;rw[e];simp[pd]
  .intro j aL
   have aL:j<l.length:=aL;obtain⟨_,c,t,ar,aN,a3⟩:=pe j (by omega);exact⟨c,t,ar,aN,a3⟩
  .intro j aL
   have aL:j<l.length:=aL;have:l.getD j 0=l[j]:=by simp[List.getD,aL]
   show l.getD j 0<=4096;rw[this];exact(au _ (aty aL)).2
  .intro j aL e
   have aL:j<l.length:=aL;have hm:bQ.getD j 0∈bQ:=by simp[List.getD,show j<bQ.length by omega]
   exact gR ((show bQ.getD j 0=aj from e)▸hm)
  .intro j k aL ab e
   have aL:j<l.length:=aL;have ab:k<l.length:=ab;exact zj hk (by omega) (by omega) e
  .intro q ah
   refine⟨(pf q ah).1,λj aL e=>?_,(by intro p aM;cases aM)⟩;have aL:j<l.length:=aL;have hm:bQ.getD j 0∈bQ:=by simp[List.getD,show j<bQ.length by omega]
   exact(pf q ah).2 ((show q.b=bQ.getD j 0 from e)▸hm)
  .rintro x (rfl|⟨q,ah,_⟩|⟨j,aL,rfl⟩|⟨q,ah,rfl⟩)
   .exact pV
   .cases ah
   .have aL:j<l.length:=aL;exact(pe j (by omega)).1
   .exact(eY.b_ ah).1

import Derived.Test.YtegdpmgnhnccaaaGreatMem
import Derived.Test.YtegdpmgnhnccaaaGreatArr
import Derived.Test.YtegdpmgnhnccaaaGreatEvC
import Derived.Test.YtegdpmgnhnccaaaGreatLvA
namespace Go.Proofs.Tryz
open Go Go.cR Go.RowKit
set_option maxRecDepth 8000
theorem aof {h:ak}{s:ao}{l:List Int}(r:e4 eo h s l)(aT:l.length<=1000000){g:FuncId}(aP:∀x∈l,fc prog g [eo x] (.bool false)) :
 aq 139 [aZ s,.func (.func g) #[] #[]] h λv af=>v=U (-1)/\bL h af:=by
 refine WT s _ ?_;unfold OB;refine⟨λs1 v n i aa k=>s1=s/\v= .func (.func g) #[] #[]/\n=s.len/\∃j:Nat,i=j/\bL h aa/\k=s.len-j,⟨_,rfl,rfl,rfl,0,rfl,bL.refl h,rfl⟩,?_⟩;rintro s1 v n i aa k ⟨rfl,rfl,rfl,j,rfl,aD,rfl⟩;have:=r.len;refine cj (λcl=>?_) λ_=>⟨rfl,aD⟩;have aU:j<l.length:=by omega
 refine(r.bA aD).cA aU λq _ a1=>⟨_,a1,?_⟩;refine fc.aog (cs:=[]) (aP _ (aDR aU)) λad aB=>⟨_,rfl,b3 rfl ⟨_,?_,rfl,rfl,rfl,j+1,bt,aD.trans aB,rfl⟩⟩;omega
theorem aoh {h:ak}{s:ao}{l:List Int}(r:e4 eo h s l)(aT:l.length<=1000000){g:FuncId}(aP:∀x∈l,fc prog g [eo x] (.bool false)) :
 aq 87 [aZ s,.func (.func g) #[] #[]] h λv af=>v= .bool false/\bL h af:=by
 refine aoi s _ ?_;refine(aof r aT aP).mono ?_;rintro _ aa ⟨rfl,aD⟩;exact⟨_,rfl,rfl,aD⟩
theorem aoj {n:Nat}(aa:1<=n)(ad:n<=4096):fc prog 86 [eo n] (.bool false):=by
 intro h;refine aok (n:Int) ?_;unfold ZJ;refine b3 (gT) ⟨?_,bL.refl h⟩;have:(bif false then true else decide ((4096:Int)<(n:Int)))=false:=gT;rw[this]
theorem ZK {n j k:Nat}(aU:j<n)(ah:k<12):(lq (if n*12=0 then #[] else Value.cells (.agg gD)) (n*12))[j*12+k]? =some (ab fm[k]):=by
 rw[cS];have a1:Value.cells (.agg gD)=#[ab 0,ab 0,ab 0,ab 0,ab 0,ab 0,ab 0,ab 0,ab 0,ab 0,ab 0,ab 0]:=by rfl
 rw[a1];unfold lq;have e:(j*12+k)%12=k:=by omega
 have cl:j*12+k<n*12:=by omega
 simp[cl,e];have:k=0∨k=1∨k=2∨k=3∨k=4∨k=5∨k=6∨k=7∨k=8∨k=9∨k=10∨k=11:=by omega
 rcases this with rfl|rfl|rfl|rfl|rfl|rfl|rfl|rfl|rfl|rfl|rfl|rfl<;>rfl
theorem N1 (z:Array Value)(n:Nat):(lq z n).size=n:=by simp[lq]
def rH (l b8:List Nat):List ao:=(List.range b8.length).map λj=>⟨some ⟨b8.getD j 0,0⟩,l.getD j 0,l.getD j 0,none⟩
theorem ZL (l b8:List Nat)(b:Nat):rH l (b8++[b])=rH l b8++[⟨some ⟨b,0⟩,l.getD b8.length 0,l.getD b8.length 0,none⟩]:=by
 unfold rH;rw[aDs,aDS,aDQ,aD4,List.map_singleton];congr 1
 .refine aDU λj aU=>?_;have aU:=aDT.1 aU;have e:(b8++[b]).getD j 0=b8.getD j 0:=by simp[List.getD,aD0 aU]
  rw[e]
 .have e:(b8++[b]).getD b8.length 0=b:=by simp[List.getD]
  rw[e]
theorem ZM:wA prog 61 99 (.slice none 0 0) 24:=⟨by kernel_rfl,by kernel_rfl,by kernel_rfl,by kernel_rfl,rfl⟩
theorem ZN (x:ao):(aZ x).oneCell'=true:=rfl
theorem ajo {h:ak}{s:ao}{l:List Nat}(r:e4 eo h s (l.map λn:Nat=>(n:Int)))(aa:1<=l.length)(ad:l.length<=16)(ar:∀n∈l,1<=n/\n<=4096) :
 aq 39 [aZ s] h λv af=>∃(T:TypeId) (m:jQ),v= .tuple #[bm ⟨m.b,0⟩,U 0]/\c8 T m (λ_ _=>fm) [] ⟨none,0,0,none⟩ af/\m.fl=l.length/\(∀i,m.cx i=l.getD i 0)/\(∀x,bS m ⟨none,0,0,none⟩ x->h x=none)/\bL h af:=by
 have hlen:=r.len;rw[aDF] at hlen;refine aol _ ?_;unfold ZO;refine b3 (gT) (b3 (gT) ?_);refine(aoh r (by simp;omega) (λx ai=>?_)).mono ?_
 .obtain⟨n,aK,rfl⟩:=aD2.1 ai;exact aoj (ar n aK).1 (ar n aK).2
 rintro _ g1 ⟨rfl,aD⟩;refine⟨_,rfl,b3 rfl (bP λae g2 f1 aH aB=>?_)⟩;have nG:h ae=none:=aD.free f1;let pc:List Nat->ak->Prop:=λb8 g=>∀j,j<b8.length->h (b8.getD j 0)=none/\∃c t,g (b8.getD j 0)=ev c t/\c.size=l.getD j 0*12/\∀a,a<l.getD j 0->∀k (ah:k<12),c[a*12+k]? =some (ab fm[k]);refine⟨λcy s1 ay aA g bW=>cy=some ⟨ae,0⟩/\s=s1/\ay=(l.length:Nat)/\∃(i:Nat) (rs:ao) (b8:List Nat),aA=i/\i<=l.length/\bW=l.length-i/\b8.length=i/\g ae=some (.cells #[aZ rs,aZ ⟨none,0,0,none⟩,.bool false] 147 (0,0))/\c4 aZ h g rs (rH l b8)/\pc b8 g/\b8.Nodup/\ae∉b8/\(∀q,rs.q=some q->q.b≠ae/\q.b∉b8)/\bL h g,
  ⟨l.length,rfl,rfl,by rw[hlen],0,_,[],rfl,by omega,rfl,rfl,aH,c4.gy ..,λj aU=>absurd aU (by simp),aE7,by simp,(by intro q aj;cases aj),aD.trans aB⟩,?_⟩
 rintro cy s1 ay aA g bW ⟨rfl,rfl,rfl,i,rs,b8,rfl,hi,rfl,rfl,iX,hv,rI,ja,e9,rJ,cY⟩;refine cj (λcl=>?_) λdH=>?_
 .have cb:b8.length<l.length:=by omega
  have aK:=ar _ (aDR cb);have dd:l.getD b8.length 0=l[b8.length]:=by simp[List.getD,cb]
  rw[<-dd] at aK;refine(r.bA cY).cA (i:=b8.length) (by simpa using cb) λq _ a1=>?_;have e:(l.map λn:Nat=>(n:Int))[b8.length]'(by simpa using cb)=((l.getD b8.length 0:Nat):Int):=by rw[dd];simp
  rw[e] at a1;generalize oc:l.getD b8.length 0=n at *;refine⟨_,a1,_,rfl,_,az iX rfl,by omega,by omega,by omega,by omega,bP λax g3 f2 a_ aG=>?_⟩;have mY:Int.toNat (n:Int)=n:=by omega
  rw[mY];rw[mY] at a_;have hN:h ax=none:=cY.free f2;have Gb:=hv.bA aG;refine c4.zX ZM ZN Gb ⟨some ⟨ax,0⟩,n,n,none⟩ (λb ar=>cY.free (aG.free ar)) (by simp[rH];omega) (by decide) ?_;intro Gs g4 Gt wE uI aom;have tr:=aG.get iX;have cU:ax≠ae:=λe=>by rw[e,iX] at f2;cases f2
  have Qg:g4 ae=_:=(wE ae (by rw[tr];simp) λq aj e=>(rJ q aj).1 e.symm).trans tr;have FN:bL h g4:=λx ai=>by
   have an:g3 x≠none:=by rw[aG x (by rw[cY x ai];exact ai),cY x ai];exact ai
   rw[wE x an λq aj e=>ai (e▸(hv.bp aj).1),aG x (by rw[cY x ai];exact ai),cY x ai]
  have wF:∀q,Gs.q=some q->q.b≠ae/\q.b≠ax/\q.b∉b8:=λq aj=>by
   rcases uI q aj with ⟨p,aP,e⟩|aK
   .rw[e];exact⟨(rJ p aP).1,λe=>(hv.bp aP).2 (e▸f2),(rJ p aP).2⟩
   .refine⟨λe=>(by rw[e,tr] at aK;cases aK),λe=>(by rw[e,a_] at aK;cases aK),λhm=>?_⟩;obtain⟨j,aU,e⟩:=aEh hm;obtain⟨_,c,t,a1,_⟩:=rI j aU;have:b8.getD j 0=q.b:=by simp[List.getD,aU,e]
    rw[this] at a1;rw[aG.get a1] at aK;cases aK
  refine⟨_,rfl,qh FN nG Qg (by simp) λg5 z2 cG cz=>⟨l.length-(b8.length+1),by omega,rfl,rfl,rfl,b8.length+1,Gs,b8++[ax],bt,by omega,rfl,by simp,by rw[cG];rfl,?_,?_,?_,?_,?_,z2⟩⟩
  .rw[ZL,oc];exact Gt.move λq aj=>cz _ (wF q aj).1
  .intro j aU
   by_cases c:j<b8.length
   .have e:(b8++[ax]).getD j 0=b8.getD j 0:=by simp[List.getD,aD0 c]
    rw[e];obtain⟨h0,om,t,a1,av,aN⟩:=rI j c;have hm:b8.getD j 0∈b8:=by simp[List.getD,c]
    refine⟨h0,om,t,?_,av,aN⟩;rw[cz _ λe=>e9 (e▸hm),wE _ (by rw[aG.get a1];simp) λq aj e=>(rJ q aj).2 (e▸hm),aG.get a1]
   .have lF:j=b8.length:=by simp at aU;omega
    subst lF;have e:(b8++[ax]).getD b8.length 0=ax:=by simp[List.getD]
    rw[e,oc];refine⟨hN,_,_,by rw[cz _ cU,wE _ (by rw[a_];simp) λq aj e=>(hv.bp aj).2 (e▸f2),a_],?_,λa bY k ah=>ZK bY ah⟩;exact N1 _ _
  .rw[aFg];refine⟨ja,by simp,λa bY b ar e=>?_⟩;simp at ar;subst ar;subst e;obtain⟨j,aU,e⟩:=aEh bY;obtain⟨_,c,t,a1,_⟩:=rI j aU;have:b8.getD j 0=a:=by simp[List.getD,aU,e]
   rw[this,f2] at a1;cases a1
  .intro hm
   rcases aDO.1 hm with h|h
   .exact e9 h
   .simp at h;exact cU h.symm
  .intro q aj
   refine⟨(wF q aj).1,λhm=>?_⟩;rcases aDO.1 hm with h|h
   .exact(wF q aj).2.2 h
   .simp at h;exact(wF q aj).2.1 h
 .have aK:b8.length=l.length:=by omega
  have ry:=hv.len;simp only[rH,aDF,aDL] at ry;refine⟨_,⟨ae,rs,λj=>b8.getD j 0,λj=>l.getD j 0,l.length⟩,rfl,⟨iX,ct.gy ..,⟨(show 0<l.length by omega),ad⟩,(show rs.len=l.length by omega),?_,?_,?_,?_,?_,(by intro q aj;cases aj),?_⟩,rfl,λ_=>rfl,?_,cY⟩
  .intro j aU
   have aU:j<l.length:=aU;obtain⟨q,aj,e⟩:=hv.rd.at (i:=j) (by simp[rH];omega);refine⟨q,aj,?_⟩;rw[e];simp[rH]
  .intro j aU
   have aU:j<l.length:=aU;obtain⟨_,c,t,av,aN,a3⟩:=rI j (by omega);exact⟨c,t,av,aN,a3⟩
  .intro j aU
   have aU:j<l.length:=aU;have:l.getD j 0=l[j]:=by simp[List.getD,aU]
   show l.getD j 0<=4096;rw[this];exact(ar _ (aDR aU)).2
  .intro j aU e
   have aU:j<l.length:=aU;have hm:b8.getD j 0∈b8:=by simp[List.getD,show j<b8.length by omega]
   exact e9 ((show b8.getD j 0=ae from e)▸hm)
  .intro j k aU ah e
   have aU:j<l.length:=aU;have ah:k<l.length:=ah;exact C5 ja (by omega) (by omega) e
  .intro q aj
   refine⟨(rJ q aj).1,λj aU e=>?_,(by intro p aP;cases aP)⟩;have aU:j<l.length:=aU;have hm:b8.getD j 0∈b8:=by simp[List.getD,show j<b8.length by omega]
   exact(rJ q aj).2 ((show q.b=b8.getD j 0 from e)▸hm)
  .rintro x (rfl|⟨q,aj,_⟩|⟨j,aU,rfl⟩|⟨q,aj,rfl⟩)
   .exact nG
   .cases aj
   .have aU:j<l.length:=aU;exact(rI j (by omega)).1
   .exact(hv.bp aj).1
end Go.Proofs.Tryz
namespace Go.Proofs.Tryz
open Go Go.cR Go.RowKit
set_option maxRecDepth 8000
theorem aon {h:ak}{s:ao}{l:List aE}(r:e4 ab h s l)(aT:l.length*8<=140737488355328) :
 aq 88 [aZ s] h λv af=>∃cE,v=aZ cE/\c4 ab h af cE l/\bL h af:=by
 refine aoo s ?_;unfold ZP;refine iN (λaK=>?_) (λaK=>?_)
 .have aP:s.q=none:=by
   cases e:s.q with
   | none=>rfl
   | some q=>rw[ao.zW e] at aK;cases aK
  have:l=[]:=aD9.1 (by have:=r.nil aP;have:=r.cap;have:=r.len;omega);subst this;exact⟨_,rfl,c4.gy _ _ _,bL.refl h⟩
 .exact c4.copy Ky (λ_=>rfl) r aT (by decide) λcE af o k=>⟨cE,rfl,o,k⟩
theorem amx {h:ak}{s:ao}{l:List dk}(r:fR iT h s l)(aT:l.length<5000000000000) :
 aq 104 [aZ s] h λv af=>∃cE,v=aZ cE/\ct 3 iT h af cE l/\bL h af:=by
 refine aop s ?_;unfold ZQ;refine iN (λaK=>?_) (λaK=>?_)
 .have aP:s.q=none:=by
   cases e:s.q with
   | none=>rfl
   | some q=>rw[ao.zW e] at aK;cases aK
  have:l=[]:=aD9.1 (by have:=r.nil aP;have:=r.cap;have:=r.len;omega);subst this;exact⟨_,rfl,ct.gy _ _ _ _,bL.refl h⟩
 .refine bP λb aa f1 aH aD=>?_;have C6:ct 3 iT h aa ⟨some ⟨b,0⟩,0,0,none⟩ []:=ct.qs n8 f1 aH rfl rfl;refine ct.app tl n8 tk (l:=[]) C6 (r.bA n8 aD) (λx ai=>aD.free ai) (by simp;omega) (by decide) ?_;intro cE af o q_ _ _;exact⟨cE,rfl,by simpa using o,tm C6 aD q_⟩
def qQ (T:TypeId)(tb ef:Nat)(ws:List aE)(u:Nat)(h:ak):Prop :=
 ∃s,h tb=some (.cells #[aZ s,U u,.bool (decide (ws.length<u))] T (0,0))/\e4 ab h s (ws.drop u)/\∀q,s.q=some q->q.b=ef/\q.b≠tb
section
variable {T:TypeId} {tb ef:Nat} {ws:List aE} {u:Nat} {h:ak}
theorem qQ.dK (t:qQ T tb ef ws u h):h tb≠none:=by obtain⟨s,e,_⟩:=t;rw[e];simp
theorem qQ.move {af:ak}(t:qQ T tb ef ws u h)(aH:af tb=h tb)(a_:ef≠tb->h ef≠none->af ef=h ef):qQ T tb ef ws u af:=by
 obtain⟨s,e,r,aj⟩:=t;refine⟨s,by rw[aH,e],r.move λq aa ad=>?_,aj⟩;have:=r.there aa ad;rw[(aj q aa).1] at this ⊢;exact a_ (by rw[<-(aj q aa).1];exact(aj q aa).2) this
theorem qQ.bA {af:ak}(t:qQ T tb ef ws u h)(k:bL h af):qQ T tb ef ws u af:=t.move (k _ t.dK) λ_ h=>k _ h
theorem ajq {s:ao}(r:e4 ab h s ws)(aT:ws.length*8<=140737488355328) :
 aq 40 [aZ s] h λv af=>∃(T:TypeId) (tb ef:Nat),v=bm ⟨tb,0⟩/\qQ T tb ef ws 0 af/\h tb=none/\(ef≠tb->h ef=none/\af ef≠none)/\bL h af:=by
 refine aoq _ ?_;unfold ZR;refine(aon r aT).mono ?_;rintro _ aa ⟨cE,rfl,o,k⟩;refine⟨_,rfl,bP λae ad f1 aH aD=>?_⟩;cases aj:cE.q with
 | none =>
  refine⟨_,ae,ae,rfl,⟨cE,aH,by simpa using o.rd.bA aD,λq h=>by rw[aj] at h;cases h⟩,k.free f1,λh=>absurd rfl h,k.trans aD⟩
 | some p =>
  have aP:=o.bp aj;refine⟨_,ae,p.b,rfl,⟨cE,aH,by simpa using o.rd.bA aD,λq h=>?_⟩,k.free f1,λ_=>⟨aP.1,by rw[aD _ aP.2];exact aP.2⟩,k.trans aD⟩;rw[aj] at h;cases h;exact⟨rfl,λe=>aP.2 (e▸f1)⟩
theorem aor (t:qQ T tb ef ws u h)(hu:u<2 ^ 62) :
 aq 110 [bm ⟨tb,0⟩] h λv af=>v= .tuple #[ab (ws.getD u 0),U u]/\qQ T tb ef ws (u+1) af/\∀x,x≠tb->af x=h x:=by
 obtain⟨s,e,r,aj⟩:=t;refine aos _ ?_;unfold ZS;have iu:al ((u:Int)+1)=((u+1:Nat):Int):=by rw[bt];omega
 have hlen:=r.len;rw[aDY] at hlen;refine⟨_,az e rfl,_,az e rfl,_,_,e,by simp,?_⟩;rw[iu];have aH:bD h tb (.cells (iI #[aZ s,U u,.bool (decide (ws.length<u))] (0+1) [U ((u+1:Nat):Int)]) T (0,0)) tb=some (.cells #[aZ s,U ((u+1:Nat):Int),.bool (decide (ws.length<u))] T (0,0)):=by rw[eC];rfl
 generalize dd:bD h tb (.cells (iI #[aZ s,U u,.bool (decide (ws.length<u))] (0+1) [U ((u+1:Nat):Int)]) T (0,0))=g at aH ⊢;have cy:∀x,x≠tb->g x=h x:=λx ai=>by rw[<-dd];exact cu _ _ ai
 have eD:e4 ab g s (ws.drop u):=r.move λq aa _=>cy _ (aj q aa).2;refine⟨s,az aH rfl,cj (λbn=>?_) λbn=>?_⟩
 .have hle:ws.length<=u:=by omega
  refine⟨_,_,aH,by simp,?_,⟨s,?_,?_,aj⟩,λx ai=>by rw[cu _ _ ai,cy x ai]⟩
  .rw[aEg,aEu hle];rfl
  .rw[eC,aDA (show ws.length<u+1 by omega)];rfl
  .rw[List.drop_eq_nil_of_le (show ws.length<=u+1 by omega)];rw[List.drop_eq_nil_of_le hle] at eD;exact eD.move λq aa _=>cu _ _ (aj q aa).2
 .have cl:u<ws.length:=by omega
  obtain⟨q,nL,a1⟩:=eD.at (i:=0) (by rw[aDY];omega);have cG:(ws.drop u)[0]'(by rw[aDY];omega)=ws.getD u 0:=by simp[List.getD,cl]
  rw[cG] at a1;refine⟨s,az aH rfl,q,nL,Int.NonNeg.mk 0,by omega,_,a1,s,az aH rfl,Int.NonNeg.mk 1,by omega,_,_,aH,by simp,rfl,⟨⟨fX s.p 1 s.cap 1,s.len-1,s.cap-1,hZ s.z 1 s.cap 1⟩,?_,?_,?_⟩,λx ai=>by rw[cu _ _ ai,cy x ai]⟩
  .rw[eC,aDz (show ¬ws.length<u+1 by omega),aDz (show ¬ws.length<u by omega)];rfl
  .have fK:e4 ab (bD g tb (.cells (iI #[aZ s,U ((u+1:Nat):Int),.bool (decide (ws.length<u))] 0 [aZ ⟨fX s.p 1 s.cap 1,s.len-1,s.cap-1,hZ s.z 1 s.cap 1⟩]) T (0,0))) s (ws.drop u):=eD.move λq aa _=>cu _ _ (aj q aa).2;have oT:=fK.drop (n:=1) (by rw[aDY];omega);rw[aFx] at oT;exact oT
  .intro dE eG
   obtain⟨p,aP,e⟩:=JT r.nil (by have:=r.cap;omega) eG;rw[e];exact aj p aP
end

import Derived.Test.YtegdpmgnhnccaaaGreatMemN
import Derived.Test.YtegdpmgnhnccaaaGreatLvA
namespace Go.Proofs.Tryz
open Go Go.cQ Go.RowKit
set_option maxRecDepth 8000
theorem aeJ {h:ai}{s:an}{l:List a8}(r:ey ak h s l)(aO:l.length*8<=140737488355328) :
 aw 88 [aU s] h λv ag=>∃cx,v=aU cx/\b9 ak h ag cx l/\bB h ag:=by
 refine aeK s ?_;unfold R0;refine hS (λaH=>?_) (λaH=>?_)
 .have aM:s.q=none:=by
   cases e:s.q with
   | none=>rfl
   | some q=>rw[an.A_ e] at aH;cases aH
  have:l=[]:=atM.1 (by have:=r.nil aM;have:=r.cap;have:=r.len;omega);subst this;exact⟨_,rfl,b9.e9 _ _ _,bB.refl h⟩
 .exact b9.copy E_ (λ_=>rfl) r aO (by decide) λcx ag o k=>⟨cx,rfl,o,k⟩
theorem aeL {h:ai}{s:an}{l:List dt}(r:fi qJ h s l)(aO:l.length<5000000000000) :
 aw 104 [aU s] h λv ag=>∃cx,v=aU cx/\cI 3 qJ h ag cx l/\bB h ag:=by
 refine aeM s ?_;unfold R1;refine hS (λaH=>?_) (λaH=>?_)
 .have aM:s.q=none:=by
   cases e:s.q with
   | none=>rfl
   | some q=>rw[an.A_ e] at aH;cases aH
  have:l=[]:=atM.1 (by have:=r.nil aM;have:=r.cap;have:=r.len;omega);subst this;exact⟨_,rfl,cI.e9 _ _ _ _,bB.refl h⟩
 .refine bL λb aa f1 aC aE=>?_;have zk:cI 3 qJ h aa ⟨some ⟨b,0⟩,0,0,none⟩ []:=cI.nu yC f1 aC rfl rfl;refine cI.app PD yC PC (l:=[]) zk (r.bE yC aE) (λx af=>aE.free af) (by simp;omega) (by decide) ?_;intro cx ag o r9 _ _;exact⟨cx,rfl,by simpa using o,wA zk aE r9⟩
theorem fi.aeN {α:Type}{k:Nat}{f:α->List Value}{h:ai}{s:an}{l:List α}(r:fi f h s l):fi f h ⟨fT s.p 0 s.len k,s.len-0,s.len-0,hE s.z 0 s.len k⟩ l:=by
 have hlen:=r.len;have sO:=r.cap;have ah:an.q ⟨fT s.p 0 s.len k,s.len-0,s.len-0,hE s.z 0 s.len k⟩=s.q:=by
  obtain⟨p,n,c,z⟩:=s;simp only[an.q,hE,fT,Nat.zero_mul,or_true,at2];cases z with
  | some z=>rfl
  | none =>
   simp only;split
   .rfl
   .cases p<;>rfl
 refine⟨by simp;omega,by simp,λe=>?_,λq lQ=>?_⟩
 .rw[ah] at e;have:=r.nil e;simp;omega
 .rw[ah] at lQ;exact r.rd q lQ
theorem acL {T:TypeId}{m:jo}{R:dw}{a_:List dt}{es:an}{h:ai}(M:cN T m R a_ es h)(aO:a_.length<5000000000000) :
 aw 25 [bu ⟨m.b,0⟩] h λv ag=>∃s,v=aU s/\cI 3 qJ h ag s a_/\bB h ag:=by
 refine u4 _ ?_;unfold R2;refine aeO _ _ ?_;unfold R3;have aT:=M.uN.cap;have eg:max (0:Int) (min 0 (es.len:Int))=0:=by omega
 refine⟨es,aF M.top rfl,es,aF M.top rfl,?_⟩;rw[eg];refine⟨by omega,by omega,by omega,by omega,by omega,by omega,?_⟩;refine(aeL (fi.aeN M.uN.rd) aO).mono ?_;rintro _ aa ⟨cx,rfl,o,k⟩;exact⟨cx,rfl,cx,rfl,cx,rfl,o,k⟩
def ni (T:TypeId)(tb dp:Nat)(ws:List a8)(u:Nat)(h:ai):Prop :=
 ∃s,h tb=some (.cells #[aU s,U u,.bool (decide (ws.length<u))] T (0,0))/\ey ak h s (ws.drop u)/\∀q,s.q=some q->q.b=dp/\q.b≠tb
section
variable {T:TypeId} {tb dp:Nat} {ws:List a8} {u:Nat} {h:ai}
theorem ni.dv (t:ni T tb dp ws u h):h tb≠none:=by obtain⟨s,e,_⟩:=t;rw[e];simp
theorem ni.move {ag:ai}(t:ni T tb dp ws u h)(aC:ag tb=h tb)(a7:dp≠tb->h dp≠none->ag dp=h dp):ni T tb dp ws u ag:=by
 obtain⟨s,e,r,ah⟩:=t;refine⟨s,by rw[aC,e],r.move λq aa ad=>?_,ah⟩;have:=r.there aa ad;rw[(ah q aa).1] at this ⊢;exact a7 (by rw[<-(ah q aa).1];exact(ah q aa).2) this
theorem ni.bE {ag:ai}(t:ni T tb dp ws u h)(k:bB h ag):ni T tb dp ws u ag:=t.move (k _ t.dv) λ_ h=>k _ h
theorem ab1 {s:an}(r:ey ak h s ws)(aO:ws.length*8<=140737488355328) :
 aw 40 [aU s] h λv ag=>∃(T:TypeId) (tb dp:Nat),v=bu ⟨tb,0⟩/\ni T tb dp ws 0 ag/\h tb=none/\(dp≠tb->h dp=none/\ag dp≠none)/\bB h ag:=by
 refine aeP _ ?_;unfold R4;refine(aeJ r aO).mono ?_;rintro _ aa ⟨cx,rfl,o,k⟩;refine⟨_,rfl,bL λaj ad f1 aC aE=>?_⟩;cases ah:cx.q with
 | none =>
  refine⟨_,aj,aj,rfl,⟨cx,aC,by simpa using o.rd.bE aE,λq h=>by rw[ah] at h;cases h⟩,k.free f1,λh=>absurd rfl h,k.trans aE⟩
 | some p =>
  have aM:=o.b_ ah;refine⟨_,aj,p.b,rfl,⟨cx,aC,by simpa using o.rd.bE aE,λq h=>?_⟩,k.free f1,λ_=>⟨aM.1,by rw[aE _ aM.2];exact aM.2⟩,k.trans aE⟩;rw[ah] at h;cases h;exact⟨rfl,λe=>aM.2 (e▸f1)⟩
theorem aeQ (t:ni T tb dp ws u h)(hu:u<2 ^ 62) :
 aw 110 [bu ⟨tb,0⟩] h λv ag=>v= .tuple #[ak (ws.getD u 0),U u]/\ni T tb dp ws (u+1) ag/\∀x,x≠tb->ag x=h x:=by
 obtain⟨s,e,r,ah⟩:=t;refine aeR _ ?_;unfold R5;have hB:al ((u:Int)+1)=((u+1:Nat):Int):=by rw[bl];omega
 have hlen:=r.len;rw[auF] at hlen;refine⟨_,aF e rfl,_,aF e rfl,_,_,e,by simp,?_⟩;rw[hB];have aC:bD h tb (.cells (hg #[aU s,U u,.bool (decide (ws.length<u))] (0+1) [U ((u+1:Nat):Int)]) T (0,0)) tb=some (.cells #[aU s,U ((u+1:Nat):Int),.bool (decide (ws.length<u))] T (0,0)):=by rw[ea];rfl
 generalize cR:bD h tb (.cells (hg #[aU s,U u,.bool (decide (ws.length<u))] (0+1) [U ((u+1:Nat):Int)]) T (0,0))=g at aC ⊢;have cB:∀x,x≠tb->g x=h x:=λx af=>by rw[<-cR];exact cJ _ _ af
 have ev:ey ak g s (ws.drop u):=r.move λq aa _=>cB _ (ah q aa).2;refine⟨s,aF aC rfl,b6 (λbt=>?_) λbt=>?_⟩
 .have hle:ws.length<=u:=by omega
  refine⟨_,_,aC,by simp,?_,⟨s,?_,?_,ah⟩,λx af=>by rw[cJ _ _ af,cB x af]⟩
  .rw[at7,auM hle];rfl
  .rw[ea,atl (show ws.length<u+1 by omega)];rfl
  .rw[List.drop_eq_nil_of_le (show ws.length<=u+1 by omega)];rw[List.drop_eq_nil_of_le hle] at ev;exact ev.move λq aa _=>cJ _ _ (ah q aa).2
 .have b1:u<ws.length:=by omega
  obtain⟨q,lQ,aT⟩:=ev.at (i:=0) (by rw[auF];omega);have cD:(ws.drop u)[0]'(by rw[auF];omega)=ws.getD u 0:=by simp[List.getD,b1]
  rw[cD] at aT;refine⟨s,aF aC rfl,q,lQ,Int.NonNeg.mk 0,by omega,_,aT,s,aF aC rfl,Int.NonNeg.mk 1,by omega,_,_,aC,by simp,rfl,⟨⟨fT s.p 1 s.cap 1,s.len-1,s.cap-1,hE s.z 1 s.cap 1⟩,?_,?_,?_⟩,λx af=>by rw[cJ _ _ af,cB x af]⟩
  .rw[ea,ati (show ¬ws.length<u+1 by omega),ati (show ¬ws.length<u by omega)];rfl
  .have e5:ey ak (bD g tb (.cells (hg #[aU s,U ((u+1:Nat):Int),.bool (decide (ws.length<u))] 0 [aU ⟨fT s.p 1 s.cap 1,s.len-1,s.cap-1,hE s.z 1 s.cap 1⟩]) T (0,0))) s (ws.drop u):=ev.move λq aa _=>cJ _ _ (ah q aa).2;have nx:=e5.drop (n:=1) (by rw[auF];omega);rw[List.drop_drop] at nx;exact nx
  .intro df ek
   obtain⟨p,aM,e⟩:=PB r.nil (by have:=r.cap;omega) ek;rw[e];exact ah p aM
end

import Derived.Test.YtofgadhgljjhgaaGreatMemN
import Derived.Test.YtofgadhgljjhgaaGreatLvA
namespace Go.Proofs.Tryz
open Go Go.cD Go.RowKit
set_option maxRecDepth 8000
theorem alc {h:ak}{s:ar}{l:List UInt64}(r:fi ab h s l)(aT:l.length*8<=140737488355328) :
 ao 76 [bb s] h λv ah=>∃cX,v=bb cX/\cW ab h ah cX l/\bL h ah:=by
 refine ald s ?_
 unfold Xp
 refine h4 (λaH=>?_) (λaH=>?_)
 .have aS:s.q=none:=by
   cases e:s.q with
   | none=>rfl
   | some q=>rw[ar.Et e] at aH;cases aH
  have:l=[]:=List.length_eq_zero_iff.1 (by have:=r.nil aS;have:=r.cap;have:=r.len;omega)
  subst this
  exact⟨_,rfl,cW.gD _ _ _,bL.refl h⟩
 .exact cW.copy I0 (λ_=>rfl) r aT (by decide) λcX ah o k=>⟨cX,rfl,o,k⟩
theorem ale {h:ak}{s:ar}{l:List de}(r:fN sb h s l)(aT:l.length<5000000000000) :
 ao 62 [bb s] h λv ah=>∃cX,v=bb cX/\cF 3 sb h ah cX l/\bL h ah:=by
 refine alf s ?_
 unfold Xq
 refine h4 (λaH=>?_) (λaH=>?_)
 .have aS:s.q=none:=by
   cases e:s.q with
   | none=>rfl
   | some q=>rw[ar.Et e] at aH;cases aH
  have:l=[]:=List.length_eq_zero_iff.1 (by have:=r.nil aS;have:=r.cap;have:=r.len;omega)
  subst this
  exact⟨_,rfl,cF.gD _ _ _ _,bL.refl h⟩
 .refine bM λb aa f1 aF aE=>?_
  have BZ:cF 3 sb h aa ⟨some ⟨b,0⟩,0,0,none⟩ []:=cF.qz AX f1 aF rfl rfl
  refine cF.app VD AX VC (l:=[]) BZ (r.bD AX aE) (λx ai=>aE.free ai) (by simp;omega) (by decide) ?_
  intro cX ah o qp _ _
  exact⟨cX,rfl,by simpa using o,y3 BZ aE qp⟩
theorem fN.alg {α:Type}{k:Nat}{f:α->List Value}{h:ak}{s:ar}{l:List α}(r:fN f h s l):fN f h ⟨gA s.p 0 s.len k,s.len-0,s.len-0,iL s.z 0 s.len k⟩ l:=by
 have hlen:=r.len;have uE:=r.cap
 have aj:ar.q ⟨gA s.p 0 s.len k,s.len-0,s.len-0,iL s.z 0 s.len k⟩=s.q:=by
  obtain⟨p,n,c,z⟩:=s
  simp only[ar.q,iL,gA,Nat.zero_mul,or_true,if_true]
  cases z with
  | some z=>rfl
  | none =>
   simp only
   split
   .rfl
   .cases p<;>rfl
 refine⟨by simp;omega,by simp,λe=>?_,λq ng=>?_⟩
 .rw[aj] at e;have:=r.nil e;simp;omega
 .rw[aj] at ng;exact r.rd q ng
theorem ajm {T:TypeId}{m:jw}{R:dF}{a7:List de}{es:ar}{h:ak}(M:cV T m R a7 es h)(aT:a7.length<5000000000000) :
 ao 20 [bg ⟨m.b,0⟩] h λv ah=>∃s,v=bb s/\cF 3 sb h ah s a7/\bL h ah:=by
 refine rz _ ?_
 unfold Xr
 refine alh _ _ ?_
 unfold Xs
 have aZ:=M.w6.cap
 have dB:max (0:Int) (min 0 (es.len:Int))=0:=by omega
 refine⟨es,az M.top rfl,es,az M.top rfl,?_⟩
 rw[dB]
 refine⟨by omega,by omega,by omega,by omega,by omega,by omega,?_⟩
 refine(ale (fN.alg M.w6.rd) aT).mono ?_
 rintro _ aa ⟨cX,rfl,o,k⟩
 exact⟨cX,rfl,cX,rfl,cX,rfl,o,k⟩
def p6 (T:TypeId)(tb dR:Nat)(ws:List UInt64)(u:Nat)(h:ak):Prop :=
 ∃s,h tb=some (.cells #[bb s,U u,.bool (decide (ws.length<u))] T (0,0))/\fi ab h s (ws.drop u)/\∀q,s.q=some q->q.b=dR/\q.b≠tb
section
variable {T:TypeId} {tb dR:Nat} {ws:List UInt64} {u:Nat} {h:ak}
theorem p6.dn (t:p6 T tb dR ws u h):h tb≠none:=by obtain⟨s,e,_⟩:=t;rw[e];simp
theorem p6.move {ah:ak}(t:p6 T tb dR ws u h)(aF:ah tb=h tb)(a8:dR≠tb->h dR≠none->ah dR=h dR):p6 T tb dR ws u ah:=by
 obtain⟨s,e,r,aj⟩:=t
 refine⟨s,by rw[aF,e],r.move λq aa ad=>?_,aj⟩
 have:=r.there aa ad
 rw[(aj q aa).1] at this ⊢
 exact a8 (by rw[<-(aj q aa).1];exact(aj q aa).2) this
theorem p6.bD {ah:ak}(t:p6 T tb dR ws u h)(k:bL h ah):p6 T tb dR ws u ah:=t.move (k _ t.dn) λ_ h=>k _ h
theorem ag7 {s:ar}(r:fi ab h s ws)(aT:ws.length*8<=140737488355328) :
 ao 37 [bb s] h λv ah=>∃(T:TypeId) (tb dR:Nat),v=bg ⟨tb,0⟩/\p6 T tb dR ws 0 ah/\h tb=none/\(dR≠tb->h dR=none/\ah dR≠none)/\bL h ah:=by
 refine ali _ ?_
 unfold Xt
 refine(alc r aT).mono ?_
 rintro _ aa ⟨cX,rfl,o,k⟩
 refine⟨_,rfl,bM λae ad f1 aF aE=>?_⟩
 cases aj:cX.q with
 | none =>
  refine⟨_,ae,ae,rfl,⟨cX,aF,by simpa using o.rd.bD aE,λq h=>by rw[aj] at h;cases h⟩,k.free f1,λh=>absurd rfl h,k.trans aE⟩
 | some p =>
  have aS:=o.bl aj
  refine⟨_,ae,p.b,rfl,⟨cX,aF,by simpa using o.rd.bD aE,λq h=>?_⟩,k.free f1,λ_=>⟨aS.1,by rw[aE _ aS.2];exact aS.2⟩,k.trans aE⟩
  rw[aj] at h;cases h
  exact⟨rfl,λe=>aS.2 (e▸f1)⟩
theorem alj (t:p6 T tb dR ws u h)(hu:u<2 ^ 62) :
 ao 115 [bg ⟨tb,0⟩] h λv ah=>v= .tuple #[ab (ws.getD u 0),U u]/\p6 T tb dR ws (u+1) ah/\∀x,x≠tb->ah x=h x:=by
 obtain⟨s,e,r,aj⟩:=t
 refine alk _ ?_
 unfold Xu
 have iA:al ((u:Int)+1)=((u+1:Nat):Int):=by rw[bf (by omega) (by omega)];omega
 have hlen:=r.len
 rw[List.length_drop] at hlen
 refine⟨_,az e rfl,_,az e rfl,_,_,e,by simp,?_⟩
 rw[iA]
 have aF:bA h tb (.cells (h5 #[bb s,U u,.bool (decide (ws.length<u))] (0+1) [U ((u+1:Nat):Int)]) T (0,0)) tb=some (.cells #[bb s,U ((u+1:Nat):Int),.bool (decide (ws.length<u))] T (0,0)):=by rw[eH];rfl
 generalize c_:bA h tb (.cells (h5 #[bb s,U u,.bool (decide (ws.length<u))] (0+1) [U ((u+1:Nat):Int)]) T (0,0))=g at aF ⊢
 have cj:∀x,x≠tb->g x=h x:=λx ai=>by rw[<-c_];exact cQ _ _ ai
 have ew:fi ab g s (ws.drop u):=r.move λq aa _=>cj _ (aj q aa).2
 refine⟨s,az aF rfl,cd (λbc=>?_) λbc=>?_⟩
 .have hle:ws.length<=u:=by omega
  refine⟨_,_,aF,by simp,?_,⟨s,?_,?_,aj⟩,λx ai=>by rw[cQ _ _ ai,cj x ai]⟩
  .rw[List.getD_eq_getElem?_getD,List.getElem?_eq_none hle];rfl
  .rw[eH,decide_eq_true (show ws.length<u+1 by omega)];rfl
  .rw[List.drop_eq_nil_of_le (show ws.length<=u+1 by omega)]
   rw[List.drop_eq_nil_of_le hle] at ew
   exact ew.move λq aa _=>cQ _ _ (aj q aa).2
 .have ca:u<ws.length:=by omega
  obtain⟨q,ng,aZ⟩:=ew.at (i:=0) (by rw[List.length_drop];omega)
  have cy:(ws.drop u)[0]'(by rw[List.length_drop];omega)=ws.getD u 0:=by simp[List.getD,ca]
  rw[cy] at aZ
  refine⟨s,az aF rfl,q,ng,Int.NonNeg.mk 0,by omega,_,aZ,s,az aF rfl,Int.NonNeg.mk 1,by omega,_,_,aF,by simp,rfl,⟨⟨gA s.p 1 s.cap 1,s.len-1,s.cap-1,iL s.z 1 s.cap 1⟩,?_,?_,?_⟩,λx ai=>by rw[cQ _ _ ai,cj x ai]⟩
  .rw[eH,decide_eq_false (show ¬ws.length<u+1 by omega),decide_eq_false (show ¬ws.length<u by omega)];rfl
  .have fF:fi ab (bA g tb (.cells (h5 #[bb s,U ((u+1:Nat):Int),.bool (decide (ws.length<u))] 0 [bb ⟨gA s.p 1 s.cap 1,s.len-1,s.cap-1,iL s.z 1 s.cap 1⟩]) T (0,0))) s (ws.drop u):=ew.move λq aa _=>cQ _ _ (aj q aa).2
   have n8:=fF.drop (n:=1) (by rw[List.length_drop];omega)
   rw[List.drop_drop] at n8
   exact n8
  .intro dL eB
   obtain⟨p,aS,e⟩:=VB r.nil (by have:=r.cap;omega) eB
   rw[e];exact aj p aS
end

import Derived.Test.YtofgadhgljjhgaaGreatWrd
import Derived.Test.YtofgadhgljjhgaaGreatEvC
import Derived.Test.YtofgadhgljjhgaaGreatPla
namespace Go.Proofs.Tryz
open Go Go.cD Go.RowKit
set_option maxRecDepth 8000
theorem bT.loc {F dW:Nat->Prop}{h0 h:ak}(v:bT F h0 dW h){b:Nat}(au:h0 b=none)(o:Obj):bT F h0 dW (bA h b o):=by
 refine⟨v.1,λx ai aH=>?_,λx ai=>?_⟩
 .rw[cQ _ _ (λe=>ai (by rw[e];exact au)),v.2.1 x ai aH]
 .by_cases e:x=b
  .rw[e];exact au
  .rw[cQ _ _ e] at ai;exact v.2.2 x ai
theorem stM {F dW:Nat->Prop}{h0 h:ak}{b o:Nat}{c:Array Value}{t:TypeId}{l:List Value}{K:ak->Prop}(v:bT F h0 dW h)(au:h0 b=none)(e:h b=some (.cells c t (0,0)))(aU:o+l.length<=c.size)
 (ag:∀ah,bT F h0 dW ah->ah b=some (.cells (h5 c o l) t (0,0))->(∀x,x≠b->ah x=h x)->K ah):aX h ⟨b,o⟩ l K :=
 ⟨c,t,e,aU,ag _ (v.loc au _) (eH _ _ _) λx ai=>cQ _ _ ai⟩
theorem lu {F dW:Nat->Prop}{h0 h:ak}{b:Nat}{c:Array Value}{t:TypeId}{l:List Value}{K:ak->Prop}(v:bT F h0 dW h)(au:h0 b=none)(e:h b=some (.cells c t (0,0)))(aU:c.size=l.length)
 (ag:∀ah,bT F h0 dW ah->ah b=some (.cells l.toArray t (0,0))->(∀x,x≠b->ah x=h x)->K ah):aX h ⟨b,0⟩ l K :=
 stM v au e (by omega) λah hJ b4 zo=>ag ah hJ (by rw[b4,Xc _ _ aU]) zo
theorem mU {F dW:Nat->Prop}{h0 h:ak}{b n:Nat}{c:Vector UInt64 n}{t:TypeId}{i:Nat}{x:UInt64}{K:ak->Prop}(v:bT F h0 dW h)(au:h0 b=none)(e:h b=some (.cells (af.cells (.ws n c)).toArray t (0,0)))(hi:i<n)
 (ag:∀ah,bT F h0 dW ah->ah b=some (.cells (af.cells (.ws n (c.set i x))).toArray t (0,0))->(∀y,y≠b->ah y=h y)->K ah):aX h ⟨b,i⟩ [ab x] K :=
 stM v au e (by simp[af.cells];omega) λah hJ b4 zo=>ag ah hJ (by rw[b4,IV c hi]) zo
theorem fB {F dW:Nat->Prop}{h0 h:ak}{b n:Nat}{c:Array Value}{cc:Vector UInt64 n}{t:TypeId}{K:ak->Prop}(v:bT F h0 dW h)(au:h0 b=none)(e:h b=some (.cells c t (0,0)))(aU:c.size=n)
 (ag:∀ah,bT F h0 dW ah->ah b=some (.cells (af.cells (.ws n cc)).toArray t (0,0))->(∀y,y≠b->ah y=h y)->K ah):aX h ⟨b,0⟩ (af.cells (.ws n cc)) K :=
 lu v au e (by simp[af.cells,aU]) ag
theorem bT.more {F dW:Nat->Prop}{h0 h ah:ak}(v:bT F h0 dW h)(k:bL h ah):bT F h0 dW ah:=v.trans (hF k dW)
structure jw where
 b:Nat
 rs:ar
 jS:Nat->Nat
 cf:Nat->Nat
 eX:Nat
structure cV (T:TypeId)(m:jw)(R:dF)(a7:List de)(es:ar)(h:ak):Prop where
 top:h m.b=some (.cells #[bb m.rs,bb es,.bool false] T (0,0))
 w6:cF 3 sb lE h es a7
 eX:0<m.eX/\m.eX<=16
 len:m.rs.len=m.eX
 row:∀i,i<m.eX->∃q,m.rs.q=some q/\br h q.b (q.o+i)=some (bb ⟨some ⟨m.jS i,0⟩,m.cf i,m.cf i,none⟩)
 iM:∀i,i<m.eX->∃c t,h (m.jS i)=some (.cells c t (0,0))/\c.size=m.cf i*12/\∀j,j<m.cf i->∀k (ag:k<12),c[j*12+k]? =some (ab (R i j)[k])
 cf:∀i,i<m.eX->m.cf i<=4096
 d1:∀i,i<m.eX->m.jS i≠m.b
 d2:∀i j,i<m.eX->j<m.eX->m.jS i=m.jS j->i=j
 d3:∀q,es.q=some q->q.b≠m.b/\∀i,i<m.eX->q.b≠m.jS i
 d4:∀q,m.rs.q=some q->q.b≠m.b/\(∀i,i<m.eX->q.b≠m.jS i)/\∀p,es.q=some p->p.b≠q.b
def bF (m:jw)(es:ar):Nat->Prop:=λx=>x=m.b∨(∃q,es.q=some q/\x=q.b)∨(∃i,i<m.eX/\x=m.jS i)∨(∃q,m.rs.q=some q/\x=q.b)
section
variable {T:TypeId} {m:jw} {R:dF} {a7:List de} {es:ar} {h:ak}
theorem cV.dn (M:cV T m R a7 es h){x:Nat}(ai:bF m es x):h x≠none:=by
 rcases ai with rfl|⟨q,aj,rfl⟩|⟨i,hi,rfl⟩|⟨q,aj,rfl⟩
 .rw[M.top];simp
 .exact(M.w6.bl aj).2
 .obtain⟨c,t,e,_⟩:=M.iM i hi;rw[e];simp
 .obtain⟨dL,eB,e⟩:=M.row 0 M.eX.1
  rw[aj] at eB;cases eB
  exact w2 e
theorem cV.move {ah:ak}(M:cV T m R a7 es h)(aU:∀x,bF m es x->ah x=h x):cV T m R a7 es ah:=by
 refine⟨by rw[aU _ (.inl rfl)];exact M.top,M.w6.move λq aj=>aU _ (.inr (.inl ⟨q,aj,rfl⟩)),M.eX,M.len,λi hi=>?_,λi hi=>?_,M.cf,M.d1,M.d2,M.d3,M.d4⟩
 .obtain⟨q,aj,e⟩:=M.row i hi
  exact⟨q,aj,by rw[qG (aU _ (.inr (.inr (.inr ⟨q,aj,rfl⟩))))];exact e⟩
 .obtain⟨c,t,e,r⟩:=M.iM i hi
  exact⟨c,t,by rw[aU _ (.inr (.inr (.inl ⟨i,hi,rfl⟩)))];exact e,r⟩
theorem cV.bD {ah:ak}(M:cV T m R a7 es h)(k:bL h ah):cV T m R a7 es ah:=M.move λ_ ai=>k _ (M.dn ai)
theorem cV.out (M:cV T m R a7 es h){x:Nat}(ai:h x=none):¬bF m es x:=λa_=>M.dn a_ ai
theorem l6 {F dW G:Nat->Prop}{h ah:ak}(v:bT F h dW ah)(bV:∀x,G x->h x≠none)(aH:∀x,G x->¬F x):(∀x,G x->ah x=h x)/\(∀x,G x->¬dW x) :=
 ⟨λx ai=>v.2.1 x (bV x ai) (aH x ai),λx ai=>v.out (bV x ai) (aH x ai)⟩
theorem cV.rd (M:cV T m R a7 es h){r a:Nat}(aP:r<m.eX)(bO:a<m.cf r):bU h (m.jS r) (a*12) (R r a):=λk ag=>by
 obtain⟨c,t,e,_,g⟩:=M.iM r aP
 rw[A8 e];exact g a bO k ag
theorem cV.Fb (M:cV T m R a7 es h){r:Nat}(aP:r<m.eX){K:aD->Prop}(ag:∀q,br h q.b (q.o+Int.toNat (r:Int)*1)=some (bb ⟨some ⟨m.jS r,0⟩,m.cf r,m.cf r,none⟩)->K q) :
 ∃q,m.rs.q=some q/\(0:Int)<=(r:Int)/\(r:Int)+1<=(m.rs.len:Int)/\K q:=by
 obtain⟨q,aj,e⟩:=M.row r aP
 exact⟨q,aj,by omega,by rw[M.len];omega,ag q (by rw[show Int.toNat (r:Int)*1=r by omega];exact e)⟩
theorem ak0 {arr:Array Value}{l:List Value}(aT:l.length=12){a j k:Nat}(ag:k<12)(aV:j*12+12<=arr.size):(h5 arr (a*12) l)[j*12+k]? =if j=a then l[k]? else arr[j*12+k]?:=by
 rw[wC,aT]
 by_cases e:j=a
 .subst e;rw[if_pos (by omega),if_pos rfl,Nat.add_sub_cancel_left]
 .rw[if_neg (by omega),if_neg e]
theorem cV.put (M:cV T m R a7 es h){r a:Nat}(aP:r<m.eX)(bO:a<m.cf r)(c:cv){K:ak->Prop}(ag:∀ah,cV T m (fA R (r,a) c) a7 es ah->bT (bF m es) h (bF m es) ah->K ah):aX h ⟨m.jS r,a*12⟩ (af.cells (.ws 12 c)) K:=by
 obtain⟨arr,t,e,n2,g⟩:=M.iM r aP
 have aT:(af.cells (.ws 12 c)).length=12:=by simp[af.cells]
 have au:a*12+12<=arr.size:=by rw[n2];omega
 refine⟨arr,t,e,by rw[aT];exact au,ag _ ?_ ?_⟩
 .have ne:∀x,x≠m.jS r->bA h (m.jS r) (.cells (h5 arr (a*12) (af.cells (.ws 12 c))) t (0,0)) x=h x:=λx ai=>cQ _ _ ai
  refine⟨by rw[ne _ (M.d1 r aP).symm];exact M.top,M.w6.move λq aj=>ne _ ((M.d3 q aj).2 r aP),M.eX,M.len,λi hi=>?_,λi hi=>?_,M.cf,M.d1,M.d2,M.d3,M.d4⟩
  .obtain⟨q,aj,b4⟩:=M.row i hi
   exact⟨q,aj,by rw[qG (ne _ ((M.d4 q aj).2.1 r aP))];exact b4⟩
  .by_cases mv:i=r
   .subst mv
    refine⟨_,_,eH _ _ _,by rw[AL];exact n2,λj aV k sN=>?_⟩
    rw[ak0 aT sN (by rw[n2];omega)]
    unfold fA
    by_cases k6:j=a
    .subst k6;rw[if_pos rfl,if_pos ⟨rfl,rfl⟩]
     have gp:k<(af.cells (.ws 12 c)).length:=by rw[aT];exact sN
     rw[List.getElem?_eq_getElem gp];simp[af.cells]
    .rw[if_neg k6,if_neg (λe=>k6 e.2)];exact g j aV k sN
   .obtain⟨cc,HB,b4,cX,bo⟩:=M.iM i hi
    refine⟨cc,HB,by rw[ne _ (λe=>mv (M.d2 i r hi aP e))];exact b4,cX,λj aV k ag=>?_⟩
    unfold fA;rw[if_neg (λe=>mv e.1)];exact bo j aV k ag
 .exact ak1 (.inr (.inr (.inl ⟨r,aP,rfl⟩))) _
where
 ak1 {F:Nat->Prop} {h:ak} {k:Nat} (hY:F k) (o:Obj):bT F h F (bA h k o):=by
  refine⟨λ_ h=> .inl h,λb au aH=>cQ _ _ (λe=>aH (e▸hY)),λb au=>?_⟩
  by_cases e:b=k
  .rw[e,eH] at au;cases au
  .rwa [cQ _ _ e] at au
theorem cV.note (M:cV T m R a7 es h)(e:de)(aT:a7.length<5000000000000){K:ar->ak->Prop}{t:TypeId}
 (ag:∀aW ah ,cV T m R (a7++[e]) aW ah->bT (bF m es) h (bF m aW) ah->K aW ah) :
 bj h (.cells (sb e).toArray t) λae aa=>fh prog 49 es (.s ⟨some ⟨ae,0⟩,1,1,none⟩) aa λs2 ad=>aX ad ⟨m.b,0+1⟩ [bb s2] λan=>K s2 an:=by
 refine cF.push VD AX VC M.w6 [e] (by simp) rfl (λ_ _=>rfl) (by simp;omega) (by decide) ?_
 intro s2 ad cb f2 kG EK
 have au:ad m.b=h m.b:=f2 _ (by rw[M.top];simp) λq aj e=>(M.d3 q aj).1 e.symm
 have hw:∀q,s2.q=some q->q.b≠m.b/\(∀i,i<m.eX->q.b≠m.jS i)/\∀p,m.rs.q=some p->q.b≠p.b:=λq aj=>by
  rcases kG q aj with ⟨p,aS,e⟩|aH
  .rw[e];exact⟨(M.d3 p aS).1,(M.d3 p aS).2,λeu Jg=>(M.d4 eu Jg).2.2 p aS⟩
  .refine⟨λe=>?_,λi hi e=>?_,λp aS e=>?_⟩
   .rw[e,M.top] at aH;cases aH
   .exact M.dn (.inr (.inr (.inl ⟨i,hi,rfl⟩))) (e▸aH)
   .exact M.dn (.inr (.inr (.inr ⟨p,aS,rfl⟩))) (e▸aH)
 refine⟨_,_,by rw[au];exact M.top,by simp,ag _ _ ?_ ?_⟩
 .have ne:∀x,x≠m.b->∀o,bA ad m.b o x=ad x:=λx ai o=>cQ _ _ ai
  refine⟨by rw[eH];rfl,cb.move λq aj=>ne _ (hw q aj).1 _,M.eX,M.len,λi hi=>?_,λi hi=>?_,M.cf,M.d1,M.d2,λq aj=>⟨(hw q aj).1,(hw q aj).2.1⟩,λq aj=>⟨(M.d4 q aj).1,(M.d4 q aj).2.1,λp aS=>(hw p aS).2.2 q aj⟩⟩
  .obtain⟨q,aj,b4⟩:=M.row i hi
   exact⟨q,aj,by rw[qG ((ne _ (M.d4 q aj).1 _).trans (f2 _ (w2 b4) λp aS e=>(M.d4 q aj).2.2 p aS e.symm))];exact b4⟩
  .obtain⟨c,t,b4,e5⟩:=M.iM i hi
   exact⟨c,t,by rw[ne _ (M.d1 i hi),f2 _ (by rw[b4];simp) λp aS e=>(M.d3 p aS).2 i hi e.symm];exact b4,e5⟩
 .refine⟨?_,?_,?_⟩
  .rintro x (rfl|⟨q,aj,rfl⟩|ai|ai)
   .exact .inl (.inl rfl)
   .rcases kG q aj with ⟨p,aS,e⟩|aH
    .exact .inl (.inr (.inl ⟨p,aS,e⟩))
    .exact .inr aH
   .exact .inl (.inr (.inr (.inl ai)))
   .exact .inl (.inr (.inr (.inr ai)))
  .intro x ai aH
   rw[cQ _ _ (λe=>aH (.inl e)),f2 x ai λq aj e=>aH (.inr (.inl ⟨q,aj,e⟩))]
  .intro x ai
   by_cases e:x=m.b
   .rw[e,eH] at ai;cases ai
   .rw[cQ _ _ e] at ai;exact EK x ai
theorem ta (M:cV T m R a7 es h){r:Nat}(aP:r<m.eX):ao 60 [bg ⟨m.b,0⟩,U r] h λv ah=>v=U (m.cf r)/\ah=h:=by
 refine ak2 _ _ ?_
 unfold Xd
 refine cd (λe=>absurd e (by omega)) λ_=>⟨_,az M.top rfl,cd (λe=>absurd e (by have:=M.len;omega)) λ_=>⟨_,az M.top rfl,?_⟩⟩
 exact M.Fb aP λq aZ=>⟨_,aZ,rfl,rfl⟩
theorem Xe (M:cV T m R a7 es h){r a:Nat}(aP:r<m.eX)(bO:a<m.cf r)(w:Bool)(aT:a7.length<5000000000000) :
 ao 58 [bg ⟨m.b,0⟩,U r,U a,.bool w] h λv ah=>∃aW,v=bg ⟨m.jS r,a*12⟩/\cV T m R (a7++[⟨r,a,w⟩]) aW ah/\bT (bF m es) h (bF m aW) ah:=by
 refine ak3 _ _ _ _ ?_
 unfold Xf
 refine cd (λe=>absurd e (by omega)) λ_=>?_
 refine(ta M aP).mono ?_
 rintro _ _ ⟨rfl,rfl⟩
 refine⟨_,rfl,bS (by simp;omega) ⟨_,az M.top rfl,?_⟩⟩
 refine M.note ⟨r,a,w⟩ aT λaW ah jI v=>⟨_,az jI.top rfl,?_⟩
 refine jI.Fb aP λq aZ=>⟨_,aZ,_,rfl,by omega,by show(a:Int)+1<=(m.cf r:Nat);omega,aW,?_,jI,v⟩
 show bg ⟨m.jS r,0+Int.toNat (a:Int)*12⟩=_
 rw[show 0+Int.toNat (a:Int)*12=a*12 by omega]
theorem uK (M:cV T m R a7 es h){r a:Nat}(aP:r<m.eX)(bO:a<m.cf r)(aT:a7.length<5000000000000) :
 ao 23 [bg ⟨m.b,0⟩,U r,U a] h λv ah=>∃aW,v=ea (R r a)/\cV T m R (a7++[⟨r,a,false⟩]) aW ah/\bT (bF m es) h (bF m aW) ah:=by
 refine zp _ _ _ ?_
 unfold Xg
 refine bM λae aa f1 aF aE=>?_
 refine(Xe (M.bD aE) aP bO false aT).mono ?_
 rintro _ ad ⟨aW,rfl,jI,v⟩
 have hg:¬bF m es ae:=M.out f1
 have a8:=v.get aF hg
 have Ol:=v.out (by rw[aF];simp) hg
 have v0:=(hF aE (bF m es)).trans v
 refine⟨some ⟨m.jS r,a*12⟩,rfl,dg rfl ⟨_,rfl,_,jI.rd aP bO,?_⟩⟩
 exact fB (n:=12) v0 f1 a8 rfl λan v3 b0 c7=>⟨_,dv b0,aW,rfl,jI.move λx ai=>c7 x λe=>Ol (e▸ai),v3⟩
theorem zd (M:cV T m R a7 es h){r a:Nat}(aP:r<m.eX)(bO:a<m.cf r)(c:cv)(aT:a7.length<5000000000000) :
 ao 95 [bg ⟨m.b,0⟩,U r,U a,ea c] h λv ah=>∃aW,v= .tuple #[]/\cV T m (fA R (r,a) c) (a7++[⟨r,a,true⟩]) aW ah/\bT (bF m es) h (bF m aW) ah:=by
 refine ak4 _ _ _ _ ?_
 unfold Xh
 refine bM λae aa f1 aF aE=>?_
 refine(Xe (M.bD aE) aP bO true aT).mono ?_
 rintro _ ad ⟨aW,rfl,jI,v⟩
 have hg:¬bF m es ae:=M.out f1
 have a8:=v.get aF hg
 have v0:=(hF aE (bF m es)).trans v
 refine⟨some ⟨m.jS r,a*12⟩,rfl,dg rfl ⟨_,dv a8,_,rfl,?_⟩⟩
 exact jI.put aP bO c λan gj v3=>⟨aW,rfl,gj,v0.trans v3⟩
theorem ajn (M:cV T m R a7 es h):ao 21 [bg ⟨m.b,0⟩] h λv ah=>v= .bool false/\ah=h:=by
 refine zq _ ?_
 unfold Xi
 exact⟨_,az M.top rfl,rfl,rfl⟩
end

import Derived.Test.YtegdpmgnhnccaaaGreatWrd
import Derived.Test.YtegdpmgnhnccaaaGreatEvC
import Derived.Test.YtegdpmgnhnccaaaGreatPla
namespace Go.Proofs.Tryz
open Go Go.cQ Go.RowKit
set_option maxRecDepth 8000
theorem cn.loc {F dS:Nat->Prop}{h0 h:ai}(v:cn F h0 dS h){b:Nat}(au:h0 b=none)(o:Obj):cn F h0 dS (bD h b o):=by
 refine⟨v.1,λx af aH=>?_,λx af=>?_⟩
 .rw[cJ _ _ (λe=>af (by rw[e];exact au)),v.2.1 x af aH]
 .by_cases e:x=b
  .rw[e];exact au
  .rw[cJ _ _ e] at af;exact v.2.2 x af
theorem stM {F dS:Nat->Prop}{h0 h:ai}{b o:Nat}{c:Array Value}{t:TypeId}{l:List Value}{K:ai->Prop}(v:cn F h0 dS h)(au:h0 b=none)(e:h b=dB c t)(aR:o+l.length<=c.size)
 (ab:∀ag,cn F h0 dS ag->ag b=dB (hg c o l) t->(∀x,x≠b->ag x=h x)->K ag):a1 h ⟨b,o⟩ l K :=
 ⟨c,t,e,aR,ab _ (v.loc au _) (ea _ _ _) λx af=>cJ _ _ af⟩
theorem qe {F dS:Nat->Prop}{h0 h:ai}{b:Nat}{c:Array Value}{t:TypeId}{l:List Value}{K:ai->Prop}(v:cn F h0 dS h)(au:h0 b=none)(e:h b=dB c t)(aR:c.size=l.length)
 (ab:∀ag,cn F h0 dS ag->ag b=dB l.toArray t->(∀x,x≠b->ag x=h x)->K ag):a1 h ⟨b,0⟩ l K :=
 stM v au e (by omega) λag hd ch w8=>ab ag hd (by rw[ch,RM _ _ aR]) w8
theorem nf {F dS:Nat->Prop}{h0 h:ai}{b n:Nat}{c:bk n}{t:TypeId}{i:Nat}{x:a8}{K:ai->Prop}(v:cn F h0 dS h)(au:h0 b=none)(e:h b=some (.cells (ae.cells (.ws n c)).toArray t (0,0)))(hi:i<n)
 (ab:∀ag,cn F h0 dS ag->ag b=some (.cells (ae.cells (.ws n (c.set i x))).toArray t (0,0))->(∀y,y≠b->ag y=h y)->K ag):a1 h ⟨b,i⟩ [ak x] K :=
 stM v au e (by simp[ae.cells];omega) λag hd ch w8=>ab ag hd (by rw[ch,E5 c hi]) w8
theorem fG {F dS:Nat->Prop}{h0 h:ai}{b n:Nat}{c:Array Value}{b8:bk n}{t:TypeId}{K:ai->Prop}(v:cn F h0 dS h)(au:h0 b=none)(e:h b=dB c t)(aR:c.size=n)
 (ab:∀ag,cn F h0 dS ag->ag b=some (.cells (ae.cells (.ws n b8)).toArray t (0,0))->(∀y,y≠b->ag y=h y)->K ag):a1 h ⟨b,0⟩ (ae.cells (.ws n b8)) K :=
 qe v au e (by simp[ae.cells,aR]) ab
theorem cn.more {F dS:Nat->Prop}{h0 h ag:ai}(v:cn F h0 dS h)(k:bB h ag):cn F h0 dS ag:=v.trans (iC k dS)
structure jo where
 b:Nat
 rs:an
 kI:Nat->Nat
 cq:Nat->Nat
 ep:Nat
structure cN (T:TypeId)(m:jo)(R:dw)(a_:List dt)(es:an)(h:ai):Prop where
 top:h m.b=some (.cells #[aU m.rs,aU es,.bool false] T (0,0))
 uN:cI 3 qJ kf h es a_
 ep:0<m.ep/\m.ep<=16
 len:m.rs.len=m.ep
 row:∀i,i<m.ep->∃q,m.rs.q=some q/\bR h q.b (q.o+i)=some (aU ⟨some ⟨m.kI i,0⟩,m.cq i,m.cq i,none⟩)
 hG:∀i,i<m.ep->∃c t,h (m.kI i)=dB c t/\c.size=m.cq i*12/\∀j,j<m.cq i->∀k (ab:k<12),c[j*12+k]? =some (ak (R i j)[k])
 cq:∀i,i<m.ep->m.cq i<=4096
 d1:∀i,i<m.ep->m.kI i≠m.b
 d2:∀i j,i<m.ep->j<m.ep->m.kI i=m.kI j->i=j
 d3:∀q,es.q=some q->q.b≠m.b/\∀i,i<m.ep->q.b≠m.kI i
 d4:∀q,m.rs.q=some q->q.b≠m.b/\(∀i,i<m.ep->q.b≠m.kI i)/\∀p,es.q=some p->p.b≠q.b
def bA (m:jo)(es:an):Nat->Prop:=λx=>x=m.b∨(∃q,es.q=some q/\x=q.b)∨(∃i,i<m.ep/\x=m.kI i)∨(∃q,m.rs.q=some q/\x=q.b)
section
variable {T:TypeId} {m:jo} {R:dw} {a_:List dt} {es:an} {h:ai}
theorem cN.dv (M:cN T m R a_ es h){x:Nat}(af:bA m es x):h x≠none:=by
 rcases af with rfl|⟨q,ah,rfl⟩|⟨i,hi,rfl⟩|⟨q,ah,rfl⟩
 .rw[M.top];simp
 .exact(M.uN.b_ ah).2
 .obtain⟨c,t,e,_⟩:=M.hG i hi;rw[e];simp
 .obtain⟨df,ek,e⟩:=M.row 0 M.ep.1;rw[ah] at ek;cases ek;exact p3 e
theorem cN.move {ag:ai}(M:cN T m R a_ es h)(aR:∀x,bA m es x->ag x=h x):cN T m R a_ es ag:=by
 refine⟨by rw[aR _ (.inl rfl)];exact M.top,M.uN.move λq ah=>aR _ (.inr (.inl ⟨q,ah,rfl⟩)),M.ep,M.len,λi hi=>?_,λi hi=>?_,M.cq,M.d1,M.d2,M.d3,M.d4⟩
 .obtain⟨q,ah,e⟩:=M.row i hi;exact⟨q,ah,by rw[mF (aR _ (.inr (.inr (.inr ⟨q,ah,rfl⟩))))];exact e⟩
 .obtain⟨c,t,e,r⟩:=M.hG i hi;exact⟨c,t,by rw[aR _ (.inr (.inr (.inl ⟨i,hi,rfl⟩)))];exact e,r⟩
theorem cN.bE {ag:ai}(M:cN T m R a_ es h)(k:bB h ag):cN T m R a_ es ag:=M.move λ_ af=>k _ (M.dv af)
theorem cN.out (M:cN T m R a_ es h){x:Nat}(af:h x=none):¬bA m es x:=λbf=>M.dv bf af
theorem kH {F dS G:Nat->Prop}{h ag:ai}(v:cn F h dS ag)(bK:∀x,G x->h x≠none)(aH:∀x,G x->¬F x):(∀x,G x->ag x=h x)/\(∀x,G x->¬dS x) :=
 ⟨λx af=>v.2.1 x (bK x af) (aH x af),λx af=>v.out (bK x af) (aH x af)⟩
theorem cN.rd (M:cN T m R a_ es h){r a:Nat}(aK:r<m.ep)(bV:a<m.cq r):bP h (m.kI r) (a*12) (R r a):=λk ab=>by
 obtain⟨c,t,e,_,g⟩:=M.hG r aK;rw[B8 e];exact g a bV k ab
theorem cN.B9 (M:cN T m R a_ es h){r:Nat}(aK:r<m.ep){K:aG->Prop}(ab:∀q,bR h q.b (q.o+Int.toNat (r:Int)*1)=some (aU ⟨some ⟨m.kI r,0⟩,m.cq r,m.cq r,none⟩)->K q) :
 ∃q,m.rs.q=some q/\(0:Int)<=(r:Int)/\(r:Int)+1<=(m.rs.len:Int)/\K q:=by
 obtain⟨q,ah,e⟩:=M.row r aK;exact⟨q,ah,by omega,by rw[M.len];omega,ab q (by rw[show Int.toNat (r:Int)*1=r by omega];exact e)⟩
theorem aev {arr:Array Value}{l:List Value}(aO:l.length=12){a j k:Nat}(ab:k<12)(aL:j*12+12<=arr.size):(hg arr (a*12) l)[j*12+k]? =if j=a then l[k]? else arr[j*12+k]?:=by
 rw[wo,aO];by_cases e:j=a
 .subst e;rw[d_,as8 rfl,Nat.add_sub_cancel_left]
 .rw[cS,as7 e]
theorem cN.put (M:cN T m R a_ es h){r a:Nat}(aK:r<m.ep)(bV:a<m.cq r)(c:cM){K:ai->Prop}(ab:∀ag,cN T m (fs R (r,a) c) a_ es ag->cn (bA m es) h (bA m es) ag->K ag):a1 h ⟨m.kI r,a*12⟩ (ae.cells (.ws 12 c)) K:=by
 obtain⟨arr,t,e,mx,g⟩:=M.hG r aK;have aO:(ae.cells (.ws 12 c)).length=12:=by simp[ae.cells]
 have au:a*12+12<=arr.size:=by rw[mx];omega
 refine⟨arr,t,e,by rw[aO];exact au,ab _ ?_ ?_⟩
 .have ne:∀x,x≠m.kI r->bD h (m.kI r) (.cells (hg arr (a*12) (ae.cells (.ws 12 c))) t (0,0)) x=h x:=λx af=>cJ _ _ af;refine⟨by rw[ne _ (M.d1 r aK).symm];exact M.top,M.uN.move λq ah=>ne _ ((M.d3 q ah).2 r aK),M.ep,M.len,λi hi=>?_,λi hi=>?_,M.cq,M.d1,M.d2,M.d3,M.d4⟩
  .obtain⟨q,ah,ch⟩:=M.row i hi;exact⟨q,ah,by rw[mF (ne _ ((M.d4 q ah).2.1 r aK))];exact ch⟩
  .by_cases kQ:i=r
   .subst kQ;refine⟨_,_,ea _ _ _,by rw[yr];exact mx,λj aL k q6=>?_⟩;rw[aev aO q6 (by rw[mx];omega)];unfold fs;by_cases jU:j=a
    .subst jU;rw[as8 rfl,as8 ⟨rfl,rfl⟩];have fx:k<(ae.cells (.ws 12 c)).length:=by rw[aO];exact q6
     rw[atc fx];simp[ae.cells]
    .rw[as7 jU,as7 (λe=>jU e.2)];exact g j aL k q6
   .obtain⟨b8,J4,ch,cx,bg⟩:=M.hG i hi;refine⟨b8,J4,by rw[ne _ (λe=>kQ (M.d2 i r hi aK e))];exact ch,cx,λj aL k ab=>?_⟩;unfold fs;rw[as7 (λe=>kQ e.1)];exact bg j aL k ab
 .exact aew (.inr (.inr (.inl ⟨r,aK,rfl⟩))) _
where
 aew {F:Nat->Prop} {h:ai} {k:Nat} (jZ:F k) (o:Obj):cn F h F (bD h k o):=by
  refine⟨λ_ h=> .inl h,λb au aH=>cJ _ _ (λe=>aH (e▸jZ)),λb au=>?_⟩;by_cases e:b=k
  .rw[e,ea] at au;cases au
  .rwa [cJ _ _ e] at au
theorem cN.note (M:cN T m R a_ es h)(e:dt)(aO:a_.length<5000000000000){K:an->ai->Prop}{t:TypeId}
 (ab:∀bb ag ,cN T m R (a_++[e]) bb ag->cn (bA m es) h (bA m bb) ag->K bb ag) :
 bn h (.cells (qJ e).toArray t) λaj aa=>en prog 59 es (.s ⟨some ⟨aj,0⟩,1,1,none⟩) aa λs2 ad=>a1 ad ⟨m.b,0+1⟩ [aU s2] λaq=>K s2 aq:=by
 refine cI.push PD yC PC M.uN [e] (by simp) rfl (λ_ _=>rfl) (by simp;omega) (by decide) ?_;intro s2 ad cU f2 iO Br;have au:ad m.b=h m.b:=f2 _ (by rw[M.top];simp) λq ah e=>(M.d3 q ah).1 e.symm;have hw:∀q,s2.q=some q->q.b≠m.b/\(∀i,i<m.ep->q.b≠m.kI i)/\∀p,m.rs.q=some p->q.b≠p.b:=λq ah=>by
  rcases iO q ah with ⟨p,aM,e⟩|aH
  .rw[e];exact⟨(M.d3 p aM).1,(M.d3 p aM).2,λdF zi=>(M.d4 dF zi).2.2 p aM⟩
  .refine⟨λe=>?_,λi hi e=>?_,λp aM e=>?_⟩
   .rw[e,M.top] at aH;cases aH
   .exact M.dv (.inr (.inr (.inl ⟨i,hi,rfl⟩))) (e▸aH)
   .exact M.dv (.inr (.inr (.inr ⟨p,aM,rfl⟩))) (e▸aH)
 refine⟨_,_,by rw[au];exact M.top,by simp,ab _ _ ?_ ?_⟩
 .have ne:∀x,x≠m.b->∀o,bD ad m.b o x=ad x:=λx af o=>cJ _ _ af;refine⟨by rw[ea];rfl,cU.move λq ah=>ne _ (hw q ah).1 _,M.ep,M.len,λi hi=>?_,λi hi=>?_,M.cq,M.d1,M.d2,λq ah=>⟨(hw q ah).1,(hw q ah).2.1⟩,λq ah=>⟨(M.d4 q ah).1,(M.d4 q ah).2.1,λp aM=>(hw p aM).2.2 q ah⟩⟩
  .obtain⟨q,ah,ch⟩:=M.row i hi;exact⟨q,ah,by rw[mF ((ne _ (M.d4 q ah).1 _).trans (f2 _ (p3 ch) λp aM e=>(M.d4 q ah).2.2 p aM e.symm))];exact ch⟩
  .obtain⟨c,t,ch,ej⟩:=M.hG i hi;exact⟨c,t,by rw[ne _ (M.d1 i hi),f2 _ (by rw[ch];simp) λp aM e=>(M.d3 p aM).2 i hi e.symm];exact ch,ej⟩
 .refine⟨?_,?_,?_⟩
  .rintro x (rfl|⟨q,ah,rfl⟩|af|af)
   .exact .inl (.inl rfl)
   .rcases iO q ah with ⟨p,aM,e⟩|aH
    .exact .inl (.inr (.inl ⟨p,aM,e⟩))
    .exact .inr aH
   .exact .inl (.inr (.inr (.inl af)))
   .exact .inl (.inr (.inr (.inr af)))
  .intro x af aH
   rw[cJ _ _ (λe=>aH (.inl e)),f2 x af λq ah e=>aH (.inr (.inl ⟨q,ah,e⟩))]
  .intro x af
   by_cases e:x=m.b
   .rw[e,ea] at af;cases af
   .rw[cJ _ _ e] at af;exact Br x af
theorem uw (M:cN T m R a_ es h){r:Nat}(aK:r<m.ep):aw 89 [bu ⟨m.b,0⟩,U r] h λv ag=>v=U (m.cq r)/\ag=h:=by
 refine aex _ _ ?_;unfold RN;refine b6 (λe=>absurd e (by omega)) λ_=>⟨_,aF M.top rfl,b6 (λe=>absurd e (by have:=M.len;omega)) λ_=>⟨_,aF M.top rfl,?_⟩⟩;exact M.B9 aK λq aT=>⟨_,aT,rfl,rfl⟩
theorem RO (M:cN T m R a_ es h){r a:Nat}(aK:r<m.ep)(bV:a<m.cq r)(w:Bool)(aO:a_.length<5000000000000) :
 aw 73 [bu ⟨m.b,0⟩,U r,U a,.bool w] h λv ag=>∃bb,v=bu ⟨m.kI r,a*12⟩/\cN T m R (a_++[⟨r,a,w⟩]) bb ag/\cn (bA m es) h (bA m bb) ag:=by
 refine aey _ _ _ _ ?_;unfold RP;refine b6 (λe=>absurd e (by omega)) λ_=>?_;refine(uw M aK).mono ?_;rintro _ _ ⟨rfl,rfl⟩;refine⟨_,rfl,b0 (by simp;omega) ⟨_,aF M.top rfl,?_⟩⟩;refine M.note ⟨r,a,w⟩ aO λbb ag jj v=>⟨_,aF jj.top rfl,?_⟩;refine jj.B9 aK λq aT=>⟨_,aT,_,rfl,by omega,by show(a:Int)+1<=(m.cq r:Nat);omega,bb,?_,jj,v⟩;show bu ⟨m.kI r,0+Int.toNat (a:Int)*12⟩=_;rw[show 0+Int.toNat (a:Int)*12=a*12 by omega]
theorem uO (M:cN T m R a_ es h){r a:Nat}(aK:r<m.ep)(bV:a<m.cq r)(aO:a_.length<5000000000000) :
 aw 30 [bu ⟨m.b,0⟩,U r,U a] h λv ag=>∃bb,v=ec (R r a)/\cN T m R (a_++[⟨r,a,false⟩]) bb ag/\cn (bA m es) h (bA m bb) ag:=by
 refine aez _ _ _ ?_;unfold RQ;refine bL λaj aa f1 aC aE=>?_;refine(RO (M.bE aE) aK bV false aO).mono ?_;rintro _ ad ⟨bb,rfl,jj,v⟩;have gA:¬bA m es aj:=M.out f1;have a7:=v.get aC gA;have J5:=v.out (by rw[aC];simp) gA;have v0:=(iC aE (bA m es)).trans v;refine⟨some ⟨m.kI r,a*12⟩,rfl,eh rfl ⟨_,rfl,_,jj.rd aK bV,?_⟩⟩;exact fG (n:=12) v0 f1 a7 rfl λaq v3 b2 c9=>⟨_,da b2,bb,rfl,jj.move λx af=>c9 x λe=>J5 (e▸af),v3⟩
theorem wX (M:cN T m R a_ es h){r a:Nat}(aK:r<m.ep)(bV:a<m.cq r)(c:cM)(aO:a_.length<5000000000000) :
 aw 115 [bu ⟨m.b,0⟩,U r,U a,ec c] h λv ag=>∃bb,v= .tuple #[]/\cN T m (fs R (r,a) c) (a_++[⟨r,a,true⟩]) bb ag/\cn (bA m es) h (bA m bb) ag:=by
 refine aeA _ _ _ _ ?_;unfold RR;refine bL λaj aa f1 aC aE=>?_;refine(RO (M.bE aE) aK bV true aO).mono ?_;rintro _ ad ⟨bb,rfl,jj,v⟩;have gA:¬bA m es aj:=M.out f1;have a7:=v.get aC gA;have v0:=(iC aE (bA m es)).trans v;refine⟨some ⟨m.kI r,a*12⟩,rfl,eh rfl ⟨_,da a7,_,rfl,?_⟩⟩;exact jj.put aK bV c λaq fS v3=>⟨bb,rfl,fS,v0.trans v3⟩
theorem acS (M:cN T m R a_ es h):aw 28 [bu ⟨m.b,0⟩] h λv ag=>v= .bool false/\ag=h:=by
 refine w9 _ ?_;unfold RS;exact⟨_,aF M.top rfl,rfl,rfl⟩
end

import Derived.Test.YtegdpmgnhnccaaaGreatWrd
import Derived.Test.YtegdpmgnhnccaaaGreatEvC
import Derived.Test.YtegdpmgnhnccaaaGreatPla
namespace Go.Proofs.Tryz
open Go Go.cR Go.RowKit
set_option maxRecDepth 8000
theorem bT.loc {F dZ:Nat->Prop}{h0 h:ak}(v:bT F h0 dZ h){b:Nat}(ar:h0 b=none)(o:Obj):bT F h0 dZ (bD h b o):=by
 refine⟨v.1,λx ai aK=>?_,λx ai=>?_⟩
 .rw[cu _ _ (λe=>ai (by rw[e];exact ar)),v.2.1 x ai aK]
 .by_cases e:x=b
  .rw[e];exact ar
  .rw[cu _ _ e] at ai;exact v.2.2 x ai
theorem stM {F dZ:Nat->Prop}{h0 h:ak}{b o:Nat}{c:Array Value}{t:TypeId}{l:List Value}{K:ak->Prop}(v:bT F h0 dZ h)(ar:h0 b=none)(e:h b=ev c t)(aV:o+l.length<=c.size)
 (ah:∀af,bT F h0 dZ af->af b=ev (iI c o l) t->(∀x,x≠b->af x=h x)->K af):aW h ⟨b,o⟩ l K :=
 ⟨c,t,e,aV,ah _ (v.loc ar _) (eC _ _ _) λx ai=>cu _ _ ai⟩
theorem lY {F dZ:Nat->Prop}{h0 h:ak}{b:Nat}{c:Array Value}{t:TypeId}{l:List Value}{K:ak->Prop}(v:bT F h0 dZ h)(ar:h0 b=none)(e:h b=ev c t)(aV:c.size=l.length)
 (ah:∀af,bT F h0 dZ af->af b=ev l.toArray t->(∀x,x≠b->af x=h x)->K af):aW h ⟨b,0⟩ l K :=
 stM v ar e (by omega) λaf h_ cc Ay=>ah af h_ (by rw[cc,ZD _ _ aV]) Ay
theorem nq {F dZ:Nat->Prop}{h0 h:ak}{b n:Nat}{c:bo n}{t:TypeId}{i:Nat}{x:aE}{K:ak->Prop}(v:bT F h0 dZ h)(ar:h0 b=none)(e:h b=some (.cells (ag.cells (.ws n c)).toArray t (0,0)))(hi:i<n)
 (ah:∀af,bT F h0 dZ af->af b=some (.cells (ag.cells (.ws n (c.set i x))).toArray t (0,0))->(∀y,y≠b->af y=h y)->K af):aW h ⟨b,i⟩ [ab x] K :=
 stM v ar e (by simp[ag.cells];omega) λaf h_ cc Ay=>ah af h_ (by rw[cc,Kt c hi]) Ay
theorem fN {F dZ:Nat->Prop}{h0 h:ak}{b n:Nat}{c:Array Value}{cr:bo n}{t:TypeId}{K:ak->Prop}(v:bT F h0 dZ h)(ar:h0 b=none)(e:h b=ev c t)(aV:c.size=n)
 (ah:∀af,bT F h0 dZ af->af b=some (.cells (ag.cells (.ws n cr)).toArray t (0,0))->(∀y,y≠b->af y=h y)->K af):aW h ⟨b,0⟩ (ag.cells (.ws n cr)) K :=
 lY v ar e (by simp[ag.cells,aV]) ah
theorem bT.more {F dZ:Nat->Prop}{h0 h af:ak}(v:bT F h0 dZ h)(k:bL h af):bT F h0 dZ af:=v.trans (hj k dZ)
structure jQ where
 b:Nat
 rs:ao
 jS:Nat->Nat
 cx:Nat->Nat
 fl:Nat
structure c8 (T:TypeId)(m:jQ)(R:dY)(a8:List dk)(es:ao)(h:ak):Prop where
 top:h m.b=some (.cells #[aZ m.rs,aZ es,.bool false] T (0,0))
 wj:ct 3 iT l6 h es a8
 fl:0<m.fl/\m.fl<=16
 len:m.rs.len=m.fl
 row:∀i,i<m.fl->∃q,m.rs.q=some q/\bx h q.b (q.o+i)=some (aZ ⟨some ⟨m.jS i,0⟩,m.cx i,m.cx i,none⟩)
 fJ:∀i,i<m.fl->∃c t,h (m.jS i)=ev c t/\c.size=m.cx i*12/\∀j,j<m.cx i->∀k (ah:k<12),c[j*12+k]? =some (ab (R i j)[k])
 cx:∀i,i<m.fl->m.cx i<=4096
 d1:∀i,i<m.fl->m.jS i≠m.b
 d2:∀i j,i<m.fl->j<m.fl->m.jS i=m.jS j->i=j
 d3:∀q,es.q=some q->q.b≠m.b/\∀i,i<m.fl->q.b≠m.jS i
 d4:∀q,m.rs.q=some q->q.b≠m.b/\(∀i,i<m.fl->q.b≠m.jS i)/\∀p,es.q=some p->p.b≠q.b
def bS (m:jQ)(es:ao):Nat->Prop:=λx=>x=m.b∨(∃q,es.q=some q/\x=q.b)∨(∃i,i<m.fl/\x=m.jS i)∨(∃q,m.rs.q=some q/\x=q.b)
section
variable {T:TypeId} {m:jQ} {R:dY} {a8:List dk} {es:ao} {h:ak}
theorem c8.dK (M:c8 T m R a8 es h){x:Nat}(ai:bS m es x):h x≠none:=by
 rcases ai with rfl|⟨q,aj,rfl⟩|⟨i,hi,rfl⟩|⟨q,aj,rfl⟩
 .rw[M.top];simp
 .exact(M.wj.bp aj).2
 .obtain⟨c,t,e,_⟩:=M.fJ i hi;rw[e];simp
 .obtain⟨dE,eG,e⟩:=M.row 0 M.fl.1;rw[aj] at eG;cases eG;exact xY e
theorem c8.move {af:ak}(M:c8 T m R a8 es h)(aV:∀x,bS m es x->af x=h x):c8 T m R a8 es af:=by
 refine⟨by rw[aV _ (.inl rfl)];exact M.top,M.wj.move λq aj=>aV _ (.inr (.inl ⟨q,aj,rfl⟩)),M.fl,M.len,λi hi=>?_,λi hi=>?_,M.cx,M.d1,M.d2,M.d3,M.d4⟩
 .obtain⟨q,aj,e⟩:=M.row i hi;exact⟨q,aj,by rw[qH (aV _ (.inr (.inr (.inr ⟨q,aj,rfl⟩))))];exact e⟩
 .obtain⟨c,t,e,r⟩:=M.fJ i hi;exact⟨c,t,by rw[aV _ (.inr (.inr (.inl ⟨i,hi,rfl⟩)))];exact e,r⟩
theorem c8.bA {af:ak}(M:c8 T m R a8 es h)(k:bL h af):c8 T m R a8 es af:=M.move λ_ ai=>k _ (M.dK ai)
theorem c8.out (M:c8 T m R a8 es h){x:Nat}(ai:h x=none):¬bS m es x:=λbc=>M.dK bc ai
theorem mI {F dZ G:Nat->Prop}{h af:ak}(v:bT F h dZ af)(b4:∀x,G x->h x≠none)(aK:∀x,G x->¬F x):(∀x,G x->af x=h x)/\(∀x,G x->¬dZ x) :=
 ⟨λx ai=>v.2.1 x (b4 x ai) (aK x ai),λx ai=>v.out (b4 x ai) (aK x ai)⟩
theorem c8.rd (M:c8 T m R a8 es h){r a:Nat}(aQ:r<m.fl)(bY:a<m.cx r):b5 h (m.jS r) (a*12) (R r a):=λk ah=>by
 obtain⟨c,t,e,_,g⟩:=M.fJ r aQ;rw[B7 e];exact g a bY k ah
theorem c8.Gr (M:c8 T m R a8 es h){r:Nat}(aQ:r<m.fl){K:aF->Prop}(ah:∀q,bx h q.b (q.o+Int.toNat (r:Int)*1)=some (aZ ⟨some ⟨m.jS r,0⟩,m.cx r,m.cx r,none⟩)->K q) :
 ∃q,m.rs.q=some q/\(0:Int)<=(r:Int)/\(r:Int)+1<=(m.rs.len:Int)/\K q:=by
 obtain⟨q,aj,e⟩:=M.row r aQ;exact⟨q,aj,by omega,by rw[M.len];omega,ah q (by rw[show Int.toNat (r:Int)*1=r by omega];exact e)⟩
theorem an_ {arr:Array Value}{l:List Value}(aT:l.length=12){a j k:Nat}(ah:k<12)(aU:j*12+12<=arr.size):(iI arr (a*12) l)[j*12+k]? =if j=a then l[k]? else arr[j*12+k]?:=by
 rw[xA,aT];by_cases e:j=a
 .subst e;rw[eY,aDr rfl,aE1]
 .rw[cS,aDq e]
theorem c8.put (M:c8 T m R a8 es h){r a:Nat}(aQ:r<m.fl)(bY:a<m.cx r)(c:cM){K:ak->Prop}(ah:∀af,c8 T m (fM R (r,a) c) a8 es af->bT (bS m es) h (bS m es) af->K af):aW h ⟨m.jS r,a*12⟩ (ag.cells (.ws 12 c)) K:=by
 obtain⟨arr,t,e,oN,g⟩:=M.fJ r aQ;have aT:(ag.cells (.ws 12 c)).length=12:=by simp[ag.cells]
 have ar:a*12+12<=arr.size:=by rw[oN];omega
 refine⟨arr,t,e,by rw[aT];exact ar,ah _ ?_ ?_⟩
 .have ne:∀x,x≠m.jS r->bD h (m.jS r) (.cells (iI arr (a*12) (ag.cells (.ws 12 c))) t (0,0)) x=h x:=λx ai=>cu _ _ ai;refine⟨by rw[ne _ (M.d1 r aQ).symm];exact M.top,M.wj.move λq aj=>ne _ ((M.d3 q aj).2 r aQ),M.fl,M.len,λi hi=>?_,λi hi=>?_,M.cx,M.d1,M.d2,M.d3,M.d4⟩
  .obtain⟨q,aj,cc⟩:=M.row i hi;exact⟨q,aj,by rw[qH (ne _ ((M.d4 q aj).2.1 r aQ))];exact cc⟩
  .by_cases mY:i=r
   .subst mY;refine⟨_,_,eC _ _ _,by rw[BO];exact oN,λj aU k tA=>?_⟩;rw[an_ aT tA (by rw[oN];omega)];unfold fM;by_cases lF:j=a
    .subst lF;rw[aDr rfl,aDr ⟨rfl,rfl⟩];have gM:k<(ag.cells (.ws 12 c)).length:=by rw[aT];exact tA
     rw[aDx gM];simp[ag.cells]
    .rw[aDq lF,aDq (λe=>lF e.2)];exact g j aU k tA
   .obtain⟨cr,IU,cc,cE,bw⟩:=M.fJ i hi;refine⟨cr,IU,by rw[ne _ (λe=>mY (M.d2 i r hi aQ e))];exact cc,cE,λj aU k ah=>?_⟩;unfold fM;rw[aDq (λe=>mY e.1)];exact bw j aU k ah
 .exact aoa (.inr (.inr (.inl ⟨r,aQ,rfl⟩))) _
where
 aoa {F:Nat->Prop} {h:ak} {k:Nat} (hh:F k) (o:Obj):bT F h F (bD h k o):=by
  refine⟨λ_ h=> .inl h,λb ar aK=>cu _ _ (λe=>aK (e▸hh)),λb ar=>?_⟩;by_cases e:b=k
  .rw[e,eC] at ar;cases ar
  .rwa [cu _ _ e] at ar
theorem c8.note (M:c8 T m R a8 es h)(e:dk)(aT:a8.length<5000000000000){K:ao->ak->Prop}{t:TypeId}
 (ah:∀aX af ,c8 T m R (a8++[e]) aX af->bT (bS m es) h (bS m aX) af->K aX af) :
 bg h (.cells (iT e).toArray t) λae aa=>eI prog 59 es (.s ⟨some ⟨ae,0⟩,1,1,none⟩) aa λs2 ad=>aW ad ⟨m.b,0+1⟩ [aZ s2] λan=>K s2 an:=by
 refine ct.push tl n8 tk M.wj [e] (by simp) rfl (λ_ _=>rfl) (by simp;omega) (by decide) ?_;intro s2 ad cg f2 h6 z8;have ar:ad m.b=h m.b:=f2 _ (by rw[M.top];simp) λq aj e=>(M.d3 q aj).1 e.symm;have hw:∀q,s2.q=some q->q.b≠m.b/\(∀i,i<m.fl->q.b≠m.jS i)/\∀p,m.rs.q=some p->q.b≠p.b:=λq aj=>by
  rcases h6 q aj with ⟨p,aP,e⟩|aK
  .rw[e];exact⟨(M.d3 p aP).1,(M.d3 p aP).2,λeW KP=>(M.d4 eW KP).2.2 p aP⟩
  .refine⟨λe=>?_,λi hi e=>?_,λp aP e=>?_⟩
   .rw[e,M.top] at aK;cases aK
   .exact M.dK (.inr (.inr (.inl ⟨i,hi,rfl⟩))) (e▸aK)
   .exact M.dK (.inr (.inr (.inr ⟨p,aP,rfl⟩))) (e▸aK)
 refine⟨_,_,by rw[ar];exact M.top,by simp,ah _ _ ?_ ?_⟩
 .have ne:∀x,x≠m.b->∀o,bD ad m.b o x=ad x:=λx ai o=>cu _ _ ai;refine⟨by rw[eC];rfl,cg.move λq aj=>ne _ (hw q aj).1 _,M.fl,M.len,λi hi=>?_,λi hi=>?_,M.cx,M.d1,M.d2,λq aj=>⟨(hw q aj).1,(hw q aj).2.1⟩,λq aj=>⟨(M.d4 q aj).1,(M.d4 q aj).2.1,λp aP=>(hw p aP).2.2 q aj⟩⟩
  .obtain⟨q,aj,cc⟩:=M.row i hi;exact⟨q,aj,by rw[qH ((ne _ (M.d4 q aj).1 _).trans (f2 _ (xY cc) λp aP e=>(M.d4 q aj).2.2 p aP e.symm))];exact cc⟩
  .obtain⟨c,t,cc,fk⟩:=M.fJ i hi;exact⟨c,t,by rw[ne _ (M.d1 i hi),f2 _ (by rw[cc];simp) λp aP e=>(M.d3 p aP).2 i hi e.symm];exact cc,fk⟩
 .refine⟨?_,?_,?_⟩
  .rintro x (rfl|⟨q,aj,rfl⟩|ai|ai)
   .exact .inl (.inl rfl)
   .rcases h6 q aj with ⟨p,aP,e⟩|aK
    .exact .inl (.inr (.inl ⟨p,aP,e⟩))
    .exact .inr aK
   .exact .inl (.inr (.inr (.inl ai)))
   .exact .inl (.inr (.inr (.inr ai)))
  .intro x ai aK
   rw[cu _ _ (λe=>aK (.inl e)),f2 x ai λq aj e=>aK (.inr (.inl ⟨q,aj,e⟩))]
  .intro x ai
   by_cases e:x=m.b
   .rw[e,eC] at ai;cases ai
   .rw[cu _ _ e] at ai;exact z8 x ai
theorem tZ (M:c8 T m R a8 es h){r:Nat}(aQ:r<m.fl):aq 89 [bm ⟨m.b,0⟩,U r] h λv af=>v=U (m.cx r)/\af=h:=by
 refine aob _ _ ?_;unfold ZE;refine cj (λe=>absurd e (by omega)) λ_=>⟨_,az M.top rfl,cj (λe=>absurd e (by have:=M.len;omega)) λ_=>⟨_,az M.top rfl,?_⟩⟩;exact M.Gr aQ λq a1=>⟨_,a1,rfl,rfl⟩
theorem ZF (M:c8 T m R a8 es h){r a:Nat}(aQ:r<m.fl)(bY:a<m.cx r)(w:Bool)(aT:a8.length<5000000000000) :
 aq 73 [bm ⟨m.b,0⟩,U r,U a,.bool w] h λv af=>∃aX,v=bm ⟨m.jS r,a*12⟩/\c8 T m R (a8++[⟨r,a,w⟩]) aX af/\bT (bS m es) h (bS m aX) af:=by
 refine aoc _ _ _ _ ?_;unfold ZG;refine cj (λe=>absurd e (by omega)) λ_=>?_;refine(tZ M aQ).mono ?_;rintro _ _ ⟨rfl,rfl⟩;refine⟨_,rfl,b3 (by simp;omega) ⟨_,az M.top rfl,?_⟩⟩;refine M.note ⟨r,a,w⟩ aT λaX af ke v=>⟨_,az ke.top rfl,?_⟩;refine ke.Gr aQ λq a1=>⟨_,a1,_,rfl,by omega,by show(a:Int)+1<=(m.cx r:Nat);omega,aX,?_,ke,v⟩;show bm ⟨m.jS r,0+Int.toNat (a:Int)*12⟩=_;rw[show 0+Int.toNat (a:Int)*12=a*12 by omega]
theorem xC (M:c8 T m R a8 es h){r a:Nat}(aQ:r<m.fl)(bY:a<m.cx r)(aT:a8.length<5000000000000) :
 aq 30 [bm ⟨m.b,0⟩,U r,U a] h λv af=>∃aX,v=ez (R r a)/\c8 T m R (a8++[⟨r,a,false⟩]) aX af/\bT (bS m es) h (bS m aX) af:=by
 refine aod _ _ _ ?_;unfold ZH;refine bP λae aa f1 aH aD=>?_;refine(ZF (M.bA aD) aQ bY false aT).mono ?_;rintro _ ad ⟨aX,rfl,ke,v⟩;have hG:¬bS m es ae:=M.out f1;have a_:=v.get aH hG;have Qf:=v.out (by rw[aH];simp) hG;have v0:=(hj aD (bS m es)).trans v;refine⟨some ⟨m.jS r,a*12⟩,rfl,dF rfl ⟨_,rfl,_,ke.rd aQ bY,?_⟩⟩;exact fN (n:=12) v0 f1 a_ rfl λan v3 b7 da=>⟨_,dL b7,aX,rfl,ke.move λx ai=>da x λe=>Qf (e▸ai),v3⟩
theorem An (M:c8 T m R a8 es h){r a:Nat}(aQ:r<m.fl)(bY:a<m.cx r)(c:cM)(aT:a8.length<5000000000000) :
 aq 115 [bm ⟨m.b,0⟩,U r,U a,ez c] h λv af=>∃aX,v= .tuple #[]/\c8 T m (fM R (r,a) c) (a8++[⟨r,a,true⟩]) aX af/\bT (bS m es) h (bS m aX) af:=by
 refine aoe _ _ _ _ ?_;unfold ZI;refine bP λae aa f1 aH aD=>?_;refine(ZF (M.bA aD) aQ bY true aT).mono ?_;rintro _ ad ⟨aX,rfl,ke,v⟩;have hG:¬bS m es ae:=M.out f1;have a_:=v.get aH hG;have v0:=(hj aD (bS m es)).trans v;refine⟨some ⟨m.jS r,a*12⟩,rfl,dF rfl ⟨_,dL a_,_,rfl,?_⟩⟩;exact ke.put aQ bY c λan gH v3=>⟨aX,rfl,gH,v0.trans v3⟩
end

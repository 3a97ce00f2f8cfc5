/- A memory that is watched: what its functions come to. -/
import Derived.Test.YtofgadhgljjhgaaGreatWrd
import Derived.Test.YtofgadhgljjhgaaGreatEvC
import Derived.Test.YtofgadhgljjhgaaGreatPla
namespace Go.Proofs.Tryz
open Go Go.Sh Go.RowKit
set_option maxRecDepth 8000
/-! ## steps where something moves -/
theorem Mv.loc {F F':Nat→Prop} {h0 h:Hp} (v:Mv F h0 F' h) {b:Nat} (hb:h0 b=none) (o:Obj):Mv F h0 F' (upd h b o):=by
 refine⟨v.1,fun x hx hn=>?_,fun x hx=>?_⟩
 · rw[upd_ne _ _ (fun e=>hx (by rw[e];exact hb)),v.2.1 x hx hn]
 · by_cases e:x=b
   · rw[e];exact hb
   · rw[upd_ne _ _ e] at hx;exact v.2.2 x hx
theorem stM {F F':Nat→Prop} {h0 h:Hp} {b o:Nat} {c:Array Value} {t:TypeId} {l:List Value} {K:Hp→Prop} (v:Mv F h0 F' h) (hb:h0 b=none) (e:h b=some (.cells c t (0,0))) (hs:o+l.length≤c.size)
   (hk:∀h',Mv F h0 F' h'→h' b=some (.cells (hwr c o l) t (0,0))→(∀x,x≠b→h' x=h x)→K h'):storeK h ⟨b,o⟩ l K :=
 ⟨c,t,e,hs,hk _ (v.loc hb _) (upd_same _ _ _) fun x hx=>upd_ne _ _ hx⟩
theorem stMW {F F':Nat→Prop} {h0 h:Hp} {b:Nat} {c:Array Value} {t:TypeId} {l:List Value} {K:Hp→Prop} (v:Mv F h0 F' h) (hb:h0 b=none) (e:h b=some (.cells c t (0,0))) (hs:c.size=l.length)
   (hk:∀h',Mv F h0 F' h'→h' b=some (.cells l.toArray t (0,0))→(∀x,x≠b→h' x=h x)→K h'):storeK h ⟨b,0⟩ l K :=
 stM v hb e (by omega) fun h' k' e' f'=>hk h' k' (by rw[e',hwr_all _ _ hs]) f'
theorem wbMS {F F':Nat→Prop} {h0 h:Hp} {b n:Nat} {c:Vector UInt64 n} {t:TypeId} {i:Nat} {x:UInt64} {K:Hp→Prop} (v:Mv F h0 F' h) (hb:h0 b=none) (e:h b=some (.cells (SV.cells (.ws n c)).toArray t (0,0))) (hi:i<n)
   (hk:∀h',Mv F h0 F' h'→h' b=some (.cells (SV.cells (.ws n (c.set i x))).toArray t (0,0))→(∀y,y≠b→h' y=h y)→K h'):storeK h ⟨b,i⟩ [vu x] K :=
 stM v hb e (by simp[SV.cells];omega) fun h' k' e' f'=>hk h' k' (by rw[e',wb_hwr c hi]) f'
theorem wbMW {F F':Nat→Prop} {h0 h:Hp} {b n:Nat} {c:Array Value} {c':Vector UInt64 n} {t:TypeId} {K:Hp→Prop} (v:Mv F h0 F' h) (hb:h0 b=none) (e:h b=some (.cells c t (0,0))) (hs:c.size=n)
   (hk:∀h',Mv F h0 F' h'→h' b=some (.cells (SV.cells (.ws n c')).toArray t (0,0))→(∀y,y≠b→h' y=h y)→K h'):storeK h ⟨b,0⟩ (SV.cells (.ws n c')) K :=
 stMW v hb e (by simp[SV.cells,hs]) hk
theorem Mv.more {F F':Nat→Prop} {h0 h h':Hp} (v:Mv F h0 F' h) (k:Keep h h'):Mv F h0 F' h':=v.trans (mvK k F')
structure MS where
 b:Nat
 rs:Sl
 rb:Nat→Nat
 rn:Nat→Nat
 nr:Nat
structure MemR (T:TypeId) (m:MS) (R:Regs) (ev:List Ev) (es:Sl) (h:Hp):Prop where
 top:h m.b=some (.cells #[vs m.rs,vs es,.bool false] T (0,0))
 evs:OwnM 3 evc E0 h es ev
 nr:0<m.nr∧m.nr≤16
 len:m.rs.len=m.nr
 row:∀i,i<m.nr→∃q,m.rs.q=some q∧hcell h q.b (q.o+i)=some (vs ⟨some ⟨m.rb i,0⟩,m.rn i,m.rn i,none⟩)
 reg:∀i,i<m.nr→∃c t,h (m.rb i)=some (.cells c t (0,0))∧c.size=m.rn i*12∧∀j,j<m.rn i→∀k (hk:k<12),c[j*12+k]? =some (vu (R i j)[k])
 rn:∀i,i<m.nr→m.rn i≤4096
 d1:∀i,i<m.nr→m.rb i≠m.b
 d2:∀i j,i<m.nr→j<m.nr→m.rb i=m.rb j→i=j
 d3:∀q,es.q=some q→q.b≠m.b∧∀i,i<m.nr→q.b≠m.rb i
 d4:∀q,m.rs.q=some q→q.b≠m.b∧(∀i,i<m.nr→q.b≠m.rb i)∧∀p,es.q=some p→p.b≠q.b
def MF (m:MS) (es:Sl):Nat→Prop:=fun x=>x=m.b∨(∃q,es.q=some q∧x=q.b)∨(∃i,i<m.nr∧x=m.rb i)∨(∃q,m.rs.q=some q∧x=q.b)
section
variable {T:TypeId} {m:MS} {R:Regs} {ev:List Ev} {es:Sl} {h:Hp}
theorem MemR.dom (M:MemR T m R ev es h) {x:Nat} (hx:MF m es x):h x≠none:=by
 rcases hx with rfl|⟨q,hq,rfl⟩|⟨i,hi,rfl⟩|⟨q,hq,rfl⟩
 · rw[M.top];simp
 · exact(M.evs.blk hq).2
 · obtain⟨c,t,e,_⟩:=M.reg i hi;rw[e];simp
 · obtain⟨q',hq',e⟩:=M.row 0 M.nr.1
   rw[hq] at hq';cases hq'
   exact hcell_some e
theorem MemR.move {h':Hp} (M:MemR T m R ev es h) (hs:∀x,MF m es x→h' x=h x):MemR T m R ev es h':=by
 refine⟨by rw[hs _ (.inl rfl)];exact M.top,M.evs.move fun q hq=>hs _ (.inr (.inl ⟨q,hq,rfl⟩)),M.nr,M.len,fun i hi=>?_,fun i hi=>?_,M.rn,M.d1,M.d2,M.d3,M.d4⟩
 · obtain⟨q,hq,e⟩:=M.row i hi
   exact⟨q,hq,by rw[hcell_same (hs _ (.inr (.inr (.inr ⟨q,hq,rfl⟩))))];exact e⟩
 · obtain⟨c,t,e,r⟩:=M.reg i hi
   exact⟨c,t,by rw[hs _ (.inr (.inr (.inl ⟨i,hi,rfl⟩)))];exact e,r⟩
theorem MemR.keep {h':Hp} (M:MemR T m R ev es h) (k:Keep h h'):MemR T m R ev es h':=M.move fun _ hx=>k _ (M.dom hx)
theorem MemR.out (M:MemR T m R ev es h) {x:Nat} (hx:h x=none):¬MF m es x:=fun hf=>M.dom hf hx
theorem mv_apart {F F' G:Nat→Prop} {h h':Hp} (v:Mv F h F' h') (hd:∀x,G x→h x≠none) (hn:∀x,G x→¬F x):(∀x,G x→h' x=h x)∧(∀x,G x→¬F' x) :=
 ⟨fun x hx=>v.2.1 x (hd x hx) (hn x hx),fun x hx=>v.out (hd x hx) (hn x hx)⟩
theorem MemR.rd (M:MemR T m R ev es h) {r a:Nat} (hr:r<m.nr) (ha:a<m.rn r):rdW h (m.rb r) (a*12) (R r a):=fun k hk=>by
 obtain⟨c,t,e,_,g⟩:=M.reg r hr
 rw[hcell_cells e];exact g a ha k hk
theorem MemR.ixr (M:MemR T m R ev es h) {r:Nat} (hr:r<m.nr) {K:Pt→Prop} (hk:∀q,hcell h q.b (q.o+Int.toNat (r:Int)*1)=some (vs ⟨some ⟨m.rb r,0⟩,m.rn r,m.rn r,none⟩)→K q) :
   ∃q,m.rs.q=some q∧(0:Int)≤(r:Int)∧(r:Int)+1≤(m.rs.len:Int)∧K q:=by
 obtain⟨q,hq,e⟩:=M.row r hr
 exact⟨q,hq,by omega,by rw[M.len];omega,hk q (by rw[show Int.toNat (r:Int)*1=r by omega];exact e)⟩
theorem hwr_row {arr:Array Value} {l:List Value} (hl:l.length=12) {a j k:Nat} (hk:k<12) (hj:j*12+12≤arr.size):(hwr arr (a*12) l)[j*12+k]? =if j=a then l[k]? else arr[j*12+k]?:=by
 rw[hwr_get,hl]
 by_cases e:j=a
 · subst e;rw[if_pos (by omega),if_pos rfl,Nat.add_sub_cancel_left]
 · rw[if_neg (by omega),if_neg e]
theorem MemR.put (M:MemR T m R ev es h) {r a:Nat} (hr:r<m.nr) (ha:a<m.rn r) (c:Cel) {K:Hp→Prop} (hk:∀h',MemR T m (set2 R (r,a) c) ev es h'→Mv (MF m es) h (MF m es) h'→K h'):storeK h ⟨m.rb r,a*12⟩ (SV.cells (.ws 12 c)) K:=by
 obtain⟨arr,t,e,hsz,g⟩:=M.reg r hr
 have hl:(SV.cells (.ws 12 c)).length=12:=by simp[SV.cells]
 have hb:a*12+12≤arr.size:=by rw[hsz];omega
 refine⟨arr,t,e,by rw[hl];exact hb,hk _ ?_ ?_⟩
 · have ne:∀x,x≠m.rb r→upd h (m.rb r) (.cells (hwr arr (a*12) (SV.cells (.ws 12 c))) t (0,0)) x=h x:=fun x hx=>upd_ne _ _ hx
   refine⟨by rw[ne _ (M.d1 r hr).symm];exact M.top,M.evs.move fun q hq=>ne _ ((M.d3 q hq).2 r hr),M.nr,M.len,fun i hi=>?_,fun i hi=>?_,M.rn,M.d1,M.d2,M.d3,M.d4⟩
   · obtain⟨q,hq,e'⟩:=M.row i hi
     exact⟨q,hq,by rw[hcell_same (ne _ ((M.d4 q hq).2.1 r hr))];exact e'⟩
   · by_cases ei:i=r
     · subst ei
       refine⟨_,_,upd_same _ _ _,by rw[hwr_size];exact hsz,fun j hj k hkk=>?_⟩
       rw[hwr_row hl hkk (by rw[hsz];omega)]
       unfold set2
       by_cases ej:j=a
       · subst ej;rw[if_pos rfl,if_pos ⟨rfl,rfl⟩]
         have hk':k<(SV.cells (.ws 12 c)).length:=by rw[hl];exact hkk
         rw[List.getElem?_eq_getElem hk'];simp[SV.cells]
       · rw[if_neg ej,if_neg (fun e=>ej e.2)];exact g j hj k hkk
     · obtain⟨c',t',e',s',g'⟩:=M.reg i hi
       refine⟨c',t',by rw[ne _ (fun e=>ei (M.d2 i r hi hr e))];exact e',s',fun j hj k hk=>?_⟩
       unfold set2;rw[if_neg (fun e=>ei e.1)];exact g' j hj k hk
 · exact mv_upd' (.inr (.inr (.inl ⟨r,hr,rfl⟩))) _
where
 mv_upd' {F:Nat→Prop} {h:Hp} {k:Nat} (hF:F k) (o:Obj):Mv F h F (upd h k o):=by
   refine⟨fun _ h=> .inl h,fun b hb hn=>upd_ne _ _ (fun e=>hn (e▸hF)),fun b hb=>?_⟩
   by_cases e:b=k
   · rw[e,upd_same] at hb;cases hb
   · rwa [upd_ne _ _ e] at hb
theorem MemR.note (M:MemR T m R ev es h) (e:Ev) (hl:ev.length<5000000000000) {K:Sl→Hp→Prop} {t:TypeId}
   (hk:∀es' h' ,MemR T m R (ev++[e]) es' h'→Mv (MF m es) h (MF m es') h'→K es' h') :
   newK h (.cells (evc e).toArray t) fun b1 h1=>appK prog 49 es (.s ⟨some ⟨b1,0⟩,1,1,none⟩) h1 fun s2 h2=>storeK h2 ⟨m.b,0+1⟩ [vs s2] fun h3=>K s2 h3:=by
 refine OwnM.push rtE evc3 evc_one M.evs [e] (by simp) rfl (fun _ _=>rfl) (by simp;omega) (by decide) ?_
 intro s2 h2 o2 f2 w2 fr2
 have hb:h2 m.b=h m.b:=f2 _ (by rw[M.top];simp) fun q hq e=>(M.d3 q hq).1 e.symm
 have hw:∀q,s2.q=some q→q.b≠m.b∧(∀i,i<m.nr→q.b≠m.rb i)∧∀p,m.rs.q=some p→q.b≠p.b:=fun q hq=>by
   rcases w2 q hq with ⟨p,hp,e⟩|hn
   · rw[e];exact⟨(M.d3 p hp).1,(M.d3 p hp).2,fun p' hp'=>(M.d4 p' hp').2.2 p hp⟩
   · refine⟨fun e=>?_,fun i hi e=>?_,fun p hp e=>?_⟩
     · rw[e,M.top] at hn;cases hn
     · exact M.dom (.inr (.inr (.inl ⟨i,hi,rfl⟩))) (e▸hn)
     · exact M.dom (.inr (.inr (.inr ⟨p,hp,rfl⟩))) (e▸hn)
 refine⟨_,_,by rw[hb];exact M.top,by simp,hk _ _ ?_ ?_⟩
 · have ne:∀x,x≠m.b→∀o,upd h2 m.b o x=h2 x:=fun x hx o=>upd_ne _ _ hx
   refine⟨by rw[upd_same];rfl,o2.move fun q hq=>ne _ (hw q hq).1 _,M.nr,M.len,fun i hi=>?_,fun i hi=>?_,M.rn,M.d1,M.d2,fun q hq=>⟨(hw q hq).1,(hw q hq).2.1⟩,fun q hq=>⟨(M.d4 q hq).1,(M.d4 q hq).2.1,fun p hp=>(hw p hp).2.2 q hq⟩⟩
   · obtain⟨q,hq,e'⟩:=M.row i hi
     exact⟨q,hq,by rw[hcell_same ((ne _ (M.d4 q hq).1 _).trans (f2 _ (hcell_some e') fun p hp e=>(M.d4 q hq).2.2 p hp e.symm))];exact e'⟩
   · obtain⟨c,t,e',r'⟩:=M.reg i hi
     exact⟨c,t,by rw[ne _ (M.d1 i hi),f2 _ (by rw[e'];simp) fun p hp e=>(M.d3 p hp).2 i hi e.symm];exact e',r'⟩
 · refine⟨?_,?_,?_⟩
   · rintro x (rfl|⟨q,hq,rfl⟩|hx|hx)
     · exact .inl (.inl rfl)
     · rcases w2 q hq with ⟨p,hp,e⟩|hn
       · exact .inl (.inr (.inl ⟨p,hp,e⟩))
       · exact .inr hn
     · exact .inl (.inr (.inr (.inl hx)))
     · exact .inl (.inr (.inr (.inr hx)))
   · intro x hx hn
     rw[upd_ne _ _ (fun e=>hn (.inl e)),f2 x hx fun q hq e=>hn (.inr (.inl ⟨q,hq,e⟩))]
   · intro x hx
     by_cases e:x=m.b
     · rw[e,upd_same] at hx;cases hx
     · rw[upd_ne _ _ e] at hx;exact fr2 x hx
/-! ## the program's -/
theorem mem_size (M:MemR T m R ev es h) {r:Nat} (hr:r<m.nr):callK prog 60 [vp ⟨m.b,0⟩,.int .i64 r] h fun v h'=>v= .int .i64 (m.rn r)∧h'=h:=by
 refine c60 _ _ ?_
 unfold G60
 refine ifD (fun e=>absurd e (by omega)) fun _=>⟨_,rd1 M.top rfl,ifD (fun e=>absurd e (by have:=M.len;omega)) fun _=>⟨_,rd1 M.top rfl,?_⟩⟩
 exact M.ixr hr fun q hc=>⟨_,hc,rfl,rfl⟩
theorem mem_look (M:MemR T m R ev es h) {r a:Nat} (hr:r<m.nr) (ha:a<m.rn r) (w:Bool) (hl:ev.length<5000000000000) :
   callK prog 58 [vp ⟨m.b,0⟩,.int .i64 r,.int .i64 a,.bool w] h fun v h'=>∃es',v=vp ⟨m.rb r,a*12⟩∧MemR T m R (ev++[⟨r,a,w⟩]) es' h'∧Mv (MF m es) h (MF m es') h':=by
 refine c58 _ _ _ _ ?_
 unfold G58
 refine ifD (fun e=>absurd e (by omega)) fun _=>?_
 refine(mem_size M hr).mono ?_
 rintro _ _ ⟨rfl,rfl⟩
 refine⟨_,rfl,ifB_neg (by simp;omega) ⟨_,rd1 M.top rfl,?_⟩⟩
 refine M.note ⟨r,a,w⟩ hl fun es' h' M' v=>⟨_,rd1 M'.top rfl,?_⟩
 refine M'.ixr hr fun q hc=>⟨_,hc,_,rfl,by omega,by show(a:Int)+1≤(m.rn r:Nat);omega,es',?_,M',v⟩
 show vp ⟨m.rb r,0+Int.toNat (a:Int)*12⟩=_
 rw[show 0+Int.toNat (a:Int)*12=a*12 by omega]
theorem mem_read (M:MemR T m R ev es h) {r a:Nat} (hr:r<m.nr) (ha:a<m.rn r) (hl:ev.length<5000000000000) :
   callK prog 23 [vp ⟨m.b,0⟩,.int .i64 r,.int .i64 a] h fun v h'=>∃es',v=wv (R r a)∧MemR T m R (ev++[⟨r,a,false⟩]) es' h'∧Mv (MF m es) h (MF m es') h':=by
 refine c23 _ _ _ ?_
 unfold G23
 refine newC fun b1 h1 f1 e1 k1=>?_
 refine(mem_look (M.keep k1) hr ha false hl).mono ?_
 rintro _ h2 ⟨es',rfl,M',v⟩
 have nb:¬MF m es b1:=M.out f1
 have e2:=v.get e1 nb
 have nb':=v.out (by rw[e1];simp) nb
 have v0:=(mvK k1 (MF m es)).trans v
 refine⟨some ⟨m.rb r,a*12⟩,rfl,ifB_pos rfl ⟨_,rfl,_,M'.rd hr ha,?_⟩⟩
 exact wbMW (n:=12) v0 f1 e2 rfl fun h3 v3 e3 o3=>⟨_,wb_rd e3,es',rfl,M'.move fun x hx=>o3 x fun e=>nb' (e▸hx),v3⟩
theorem mem_write (M:MemR T m R ev es h) {r a:Nat} (hr:r<m.nr) (ha:a<m.rn r) (c:Cel) (hl:ev.length<5000000000000) :
   callK prog 95 [vp ⟨m.b,0⟩,.int .i64 r,.int .i64 a,wv c] h fun v h'=>∃es',v= .tuple #[]∧MemR T m (set2 R (r,a) c) (ev++[⟨r,a,true⟩]) es' h'∧Mv (MF m es) h (MF m es') h':=by
 refine c95 _ _ _ _ ?_
 unfold G95
 refine newC fun b1 h1 f1 e1 k1=>?_
 refine(mem_look (M.keep k1) hr ha true hl).mono ?_
 rintro _ h2 ⟨es',rfl,M',v⟩
 have nb:¬MF m es b1:=M.out f1
 have e2:=v.get e1 nb
 have v0:=(mvK k1 (MF m es)).trans v
 refine⟨some ⟨m.rb r,a*12⟩,rfl,ifB_pos rfl ⟨_,wb_rd e2,_,rfl,?_⟩⟩
 exact M'.put hr ha c fun h3 M3 v3=>⟨es',rfl,M3,v0.trans v3⟩
end
end Go.Proofs.Tryz

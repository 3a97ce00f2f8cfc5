/- Chapter 11: a store that is made. -/
import Derived.Test.YtofgadhgljjhgaaGreatStoL
namespace Go.Proofs.Tryz
open Go Go.Sh Go.RowKit
set_option maxRecDepth 8000
theorem rtLv:RowT prog 113 114 (.pointer none) 8:=⟨by kernel_rfl,by kernel_rfl,by kernel_rfl,by kernel_rfl,rfl⟩
theorem mem_getD {l:List Nat} {i:Nat} (h:i<l.length):l.getD i 0∈l:=by simp[List.getD,h]
theorem getD_snoc {l:List Nat} {a i:Nat} (h:i<l.length):(l++[a]).getD i 0=l.getD i 0:=by simp[List.getD,List.getElem?_append_left h]
theorem getD_last {l:List Nat} {a:Nat}:(l++[a]).getD l.length 0=a:=by simp[List.getD]
theorem nodup_snoc {l:List Nat} {a:Nat} (h:l.Nodup) (ha:a∉l):(l++[a]).Nodup:=by
 rw[List.nodup_append]
 refine⟨h,by simp,fun x hx y hy e=>?_⟩
 simp at hy;subst hy;subst e;exact ha hx
section
variable {G:SP} {ws:List UInt64} {R:Regs} {ev:List Ev} {es:Sl} {h:Hp} {m:MS} {TM TT:TypeId} {tb tw u:Nat}
set_option maxHeartbeats 1000000 in
theorem store_new (o:G.Ok) (lvm:∀i,i<G.L→LvM m (G.lp i) (G.base i)) (fnr:G.f<m.nr) (ftop:m.rn G.f=G.top) (M:MemR TM m R ev es h) (t:TapR TT tb tw ws u h) (twd:tw≠tb→h tw≠none) (ntb:¬MF m es tb) (ntw:tw≠tb→¬MF m es tw) :
   callK prog 36 [vp ⟨m.b,0⟩,.int .i64 G.f,v4 G.m G.s G.t G.L,vp ⟨tb,0⟩] h fun v h'=>∃B:StB,v= .tuple #[vp ⟨B.sb,0⟩,.int .i64 0]∧B.m=m∧B.tb=tb∧B.tw=tw∧StR G ws B ⟨R,u,fun _=>false,fun _=>[],[]⟩ ev es ⟨none,0,0,none⟩ h'∧StM G B∧(∀p x,p≠.tb→p≠.tw→B.At G.L ⟨none,0,0,none⟩ p x→h x=none)∧Keep h h':=by
 have so:=o.st
 have hL:=o.L
 have hf:G.f≤100:=by have:=(lvm 0 (by omega)).hf;unfold SP.base at this;omega
 refine c36 _ _ _ _ _ _ _ ?_
 unfold G36
 refine newC fun b1 h1 f1 e1 k1=>⟨_,rd1 e1 rfl,_,rd1 e1 rfl,_,rd1 e1 rfl,_,rd1 e1 rfl,?_⟩
 refine(store_right so).to fun h2 k2=>⟨_,rfl,ifB_neg rfl ⟨_,rd1 (k2.get e1) rfl,_,rd1 (k2.get e1) rfl,_,rd1 (k2.get e1) rfl,_,rd1 (k2.get e1) rfl,?_⟩⟩
 have k02:=k1.trans k2
 refine(mem_size (M.keep k02) fnr).mono ?_
 rintro _ _ ⟨rfl,rfl⟩
 have c2:=k2.get e1
 refine⟨_,rfl,⟨rd1 c2 rfl,rd1 c2 rfl,rd1 c2 rfl,rd1 c2 rfl,trivial⟩,?_⟩
 refine(store_top so).to fun h4 k4=>⟨_,rfl,ifB_neg ?_ ?_⟩
 · show(!decide (((m.rn G.f:Nat):Int)=(2:Int) ^ (G.m-2*(G.L-1))))=false
   rw[ftop,decide_eq_true (show((G.top:Nat):Int)=(2:Int) ^ (G.m-2*(G.L-1)) by unfold SP.top;simp)];rfl
 have c4:=k4.get c2
 refine⟨_,rd1 c4 rfl,_,rd1 c4 rfl,_,rd1 c4 rfl,_,rd1 c4 rfl,newC fun b2 h5 f5 e5 k5=>⟨_,rd1 (k5.get c4) rfl,?_⟩⟩
 have k05:=(k02.trans k4).trans k5
 have f20:h b2=none:=(k02.trans k4).free f5
 have n21:b2≠b1:=fun e=>by rw[e,c4] at f5;cases f5
 refine⟨fun q1 n16 q2 o1 n17 n18 g kk=>q1=⟨m.b,0⟩∧n16=(G.f:Nat)∧q2=⟨b1,0⟩∧o1=some ⟨b2,0⟩∧n17=(G.L:Nat)∧∃(i:Nat) (lv:Sl) (lbs mps:List Nat),n18=i∧i≤G.L∧kk=G.L-i∧lbs.length=i∧mps.length=i ∧
     g b2=some (.cells #[.int .i64 (2 ^ G.m),.int .i64 G.s,.int .i64 G.t,.int .i64 G.L,vp ⟨m.b,0⟩,.int .i64 G.f,vp ⟨tb,0⟩,vs lv,vs ⟨none,0,0,none⟩] 117 (0,0))∧OwnS (fun b:Nat=>vp ⟨b,0⟩) h g lv lbs∧(∀j,j<i→g (lbs.getD j 0)=some (.cells (lvc (G.lp j) m.b (G.base j) false (mps.getD j 0)) 193 (0,0)))∧(∀j,j<i→MapI g (mps.getD j 0) []) ∧
     lbs.Nodup∧mps.Nodup∧(∀x,x∈lbs→x∉mps∧x≠b2∧h x=none)∧(∀x,x∈mps→x≠b2∧h x=none)∧(∀q,lv.q=some q→q.b≠b1∧q.b≠b2∧q.b∉lbs∧q.b∉mps)∧g b1=some (.cells #[.int .i64 (2 ^ G.m),.int .i64 G.s,.int .i64 G.t,.int .i64 G.L] 68 (0,0))∧Keep h g,
   ⟨G.L,rfl,rfl,rfl,rfl,rfl,0,_,[],[],rfl,by omega,rfl,rfl,rfl,e5,OwnS.nilS ..,fun j hj=>absurd hj (by omega),fun j hj=>absurd hj (by omega),List.nodup_nil,List.nodup_nil,fun x hx=>(by cases hx),fun x hx=>(by cases hx),fun q hq=>(by cases hq),k5.get c4,k05⟩,?_⟩
 rintro q1 n16 q2 o1 n17 n18 g kk ⟨rfl,rfl,rfl,rfl,rfl,i,lv,lbs,mps,rfl,hi,rfl,hli,hmi,g2,ow,glv,gmp,nl,nm,nlm,nmm,nlv,g1,kg⟩
 refine ifD (fun hlt=>?_) fun hge=>?_
 · have hi':i<G.L:=by omega
   refine⟨_,rd1 g1 rfl,_,rd1 g1 rfl,_,rd1 g1 rfl,_,rd1 g1 rfl,?_⟩
   refine(store_level so i (by omega)).to fun gA kA=>⟨_,_,_,rfl,?_⟩
   have ew:w64 (w64 ((G.f:Int)+1)+w64 (3*(i:Int)))=((G.base i:Nat):Int):=by
     rw[w64_id (n:=(G.f:Int)+1) (by omega) (by omega),w64_id (n:=3*(i:Int)) (by omega) (by omega),w64_id (by omega) (by omega)]
     unfold SP.base;omega
   rw[ew]
   refine(level_new (o.lev i) (lvm i hi') (M.keep (kg.trans kA))).mono ?_
   rintro _ gB ⟨lb,mp,rfl,elb,emp,flb,fmp,nlbm,kB⟩
   have kAB:=kA.trans kB
   have hlb0:h lb=none:=kg.free (kA.free flb)
   have hmp0:h mp=none:=kg.free (kA.free fmp)
   have glb:g lb=none:=kA.free flb
   have gmp0:g mp=none:=kA.free fmp
   have dl:∀x,x∈lbs→g x≠none:=fun x hx=>by
     obtain⟨j,hj,e⟩:=List.getElem_of_mem hx
     have:=glv j (by omega)
     rw[show lbs.getD j 0=x by simp[List.getD,hj,e]] at this
     rw[this];simp
   have dm:∀x,x∈mps→g x≠none:=fun x hx=>by
     obtain⟨j,hj,e⟩:=List.getElem_of_mem hx
     have:=gmp j (by omega)
     rw[show mps.getD j 0=x by simp[List.getD,hj,e]] at this
     exact this.dom
   have l1:lb∉lbs:=fun hx=>dl lb hx glb
   have l2:lb∉mps:=fun hx=>dm lb hx glb
   have m1:mp∉lbs:=fun hx=>dl mp hx gmp0
   have m2:mp∉mps:=fun hx=>dm mp hx gmp0
   have lb2:lb≠b2:=fun e=>by rw[e,g2] at glb;cases glb
   have mp2:mp≠b2:=fun e=>by rw[e,g2] at gmp0;cases gmp0
   have owB:=ow.keep kAB
   have g2B:=kAB.get g2
   have g1B:=kAB.get g1
   refine⟨some ⟨lb,0⟩,_,rfl,ifB_neg rfl ⟨_,rfl,_,rd1 g2B rfl,?_⟩⟩
   refine OwnS.push' rtLv (fun _=>rfl) owB lb (fun b hb=>kg.free (kAB.free hb)) (by omega) (by decide) ?_
   intro lv' gC owC offC locC frC
   have nq:∀x,g x≠none→(∀q,lv.q=some q→x≠q.b)→gC x=g x:=fun x hx hq=>by
     rw[offC x (by rw[kAB x hx];exact hx) hq,kAB x hx]
   have g2C:gC b2=_:=(nq b2 (by rw[g2];simp) fun q hq e=>(nlv q hq).2.1 e.symm).trans g2
   have g1C:gC b1=_:=(nq b1 (by rw[g1];simp) fun q hq e=>(nlv q hq).1 e.symm).trans g1
   have lvb:∀q,lv.q=some q→g q.b≠none:=fun q hq=>(ow.blk hq).2
   have elbC:gC lb=_:=(offC lb (by rw[elb];simp) fun q hq e=>lvb q hq (e▸glb)).trans elb
   have empC:MapI gC mp []:=emp.move (offC mp emp.dom fun q hq e=>lvb q hq (e▸gmp0))
   have nlv':∀q,lv'.q=some q→q.b≠b1∧q.b≠b2∧q.b∉lbs++[lb]∧q.b∉mps++[mp]:=fun q hq=>by
     rcases locC q hq with ⟨p,hp,e⟩|hn
     · rw[e]
       refine⟨(nlv p hp).1,(nlv p hp).2.1,fun hm=>?_,fun hm=>?_⟩
       · rcases List.mem_append.1 hm with h|h
         · exact(nlv p hp).2.2.1 h
         · simp at h;exact lvb p hp (h▸glb)
       · rcases List.mem_append.1 hm with h|h
         · exact(nlv p hp).2.2.2 h
         · simp at h;exact lvb p hp (h▸gmp0)
     · have old:∀x,g x≠none→q.b≠x:=fun x hx e=>by rw[e,kAB x hx] at hn;exact hx hn
       refine⟨old b1 (by rw[g1];simp),old b2 (by rw[g2];simp),fun hm=>?_,fun hm=>?_⟩
       · rcases List.mem_append.1 hm with h|h
         · exact old _ (dl _ h) rfl
         · simp at h;rw[h,elb] at hn;cases hn
       · rcases List.mem_append.1 hm with h|h
         · exact old _ (dm _ h) rfl
         · simp at h;rw[h] at hn;exact emp.dom hn
   have kC:Keep h gC:=fun x hx=>by
     have hgx:g x≠none:=by rw[kg x hx];exact hx
     rw[nq x hgx fun q hq e=>hx (e▸(ow.blk hq).1),kg x hx]
   refine⟨_,rfl,stN kC f20 g2C (by simp) fun gD kD g2D oD=>⟨G.L-(i+1),by omega,rfl,rfl,rfl,rfl,rfl,i+1,lv',lbs++[lb],mps++[mp],w64_id (by omega) (by omega),by omega,rfl,by simp[hli],by simp[hmi],by rw[g2D];rfl,owC.move fun q hq=>oD _ (nlv' q hq).2.1,fun j hj=>?_,fun j hj=>?_,nodup_snoc nl l1,nodup_snoc nm m2,fun x hx=>?_,fun x hx=>?_,nlv',(oD _ (Ne.symm n21)).trans g1C,kD⟩⟩
   · by_cases c:j<i
     · rw[getD_snoc (by omega),getD_snoc (by omega)]
       have hm:=mem_getD (l:=lbs) (i:=j) (by omega)
       rw[oD _ (nlm _ hm).2.1,nq _ (dl _ hm) fun q hq e=>(nlv q hq).2.2.1 (e▸hm)]
       exact glv j c
     · have ej:j=i:=by omega
       subst ej
       rw[show(lbs++[lb]).getD j 0=lb by rw[←hli];exact getD_last,show(mps++[mp]).getD j 0=mp by rw[←hmi];exact getD_last,oD _ lb2]
       exact elbC
   · by_cases c:j<i
     · rw[getD_snoc (by omega)]
       have hm:=mem_getD (l:=mps) (i:=j) (by omega)
       exact(gmp j c).move (by rw[oD _ (nmm _ hm).1,nq _ (dm _ hm) fun q hq e=>(nlv q hq).2.2.2 (e▸hm)])
     · have ej:j=i:=by omega
       subst ej
       rw[show(mps++[mp]).getD j 0=mp by rw[←hmi];exact getD_last]
       exact empC.move (oD _ mp2)
   · rcases List.mem_append.1 hx with h|h
     · refine⟨fun hm=>?_,(nlm x h).2⟩
       rcases List.mem_append.1 hm with h2|h2
       · exact(nlm x h).1 h2
       · simp at h2;exact m1 (h2▸h)
     · simp at h;subst h
       refine⟨fun hm=>?_,lb2,hlb0⟩
       rcases List.mem_append.1 hm with h2|h2
       · exact l2 h2
       · simp at h2;exact nlbm h2
   · rcases List.mem_append.1 hx with h|h
     · exact nmm x h
     · simp at h;subst h;exact⟨mp2,hmp0⟩
 · have hi':i=G.L:=by omega
   subst hi'
   let B:StB:={ sb:=b2,tb:=tb,tw:=tw,lv:=lv,lb:=fun j=>lbs.getD j 0,mp:=fun j=>mps.getD j 0,Tl:=fun _=>193,TM:=TM,TS:=117,TT:=TT,m:=m }
   have tbd:=t.dom
   have fresh:∀p x,p≠.tb→p≠.tw→B.At G.L ⟨none,0,0,none⟩ p x→h x=none:=by
     intro p x h1 h2 hx
     cases p with
     | sb=>rw[show x=b2 from hx];exact f20
     | tb=>exact absurd rfl h1
     | tw=>exact absurd rfl h2
     | lv=>obtain⟨q,hq,rfl⟩:=hx;exact(ow.blk hq).1
     | gs=>obtain⟨q,hq,_⟩:=hx;cases hq
     | lb j=>rw[hx.2];exact(nlm _ (mem_getD (by have:=hx.1;omega))).2.2
     | mp j=>rw[hx.2];exact(nmm _ (mem_getD (by have:=hx.1;omega))).2
   have old:∀p x,(p= .tb∨p= .tw)→B.At G.L ⟨none,0,0,none⟩ p x→h x≠none:=by
     rintro p x (rfl|rfl) hx
     · rw[show x=tb from hx];exact tbd
     · rw[show x=tw from hx.1];exact twd hx.2
   refine⟨B,rfl,rfl,rfl,rfl,⟨g2,M.keep kg,t.keep kg,fun hne=>by rw[kg tw (twd hne)];exact twd hne,?_,fun j hj=>glv j hj,fun j hj=>gmp j hj,OwnM.nilS ..,?_,?_⟩,⟨lvm,fnr,ftop⟩,fresh,kg⟩
   · have e:(List.range G.L).map B.lb=lbs:=by
       apply List.ext_getElem
       · simp[hli]
       · intro j a1 a2;simp[B,List.getD,a2]
     rw[e];exact ow.rd
   · intro p p' x hx hx'
     by_cases c:p= .tb∨p= .tw
     · by_cases c':p'= .tb∨p'= .tw
       · rcases c with rfl|rfl
         · rcases c' with rfl|rfl
           · rfl
           · exact absurd (hx'.1.symm.trans hx) hx'.2
         · rcases c' with rfl|rfl
           · exact absurd (hx.1.symm.trans hx') hx.2
           · rfl
       · exact absurd (fresh p' x (fun e=>c' (.inl e)) (fun e=>c' (.inr e)) hx') (old p x c hx)
     · by_cases c':p'= .tb∨p'= .tw
       · exact absurd (fresh p x (fun e=>c (.inl e)) (fun e=>c (.inr e)) hx) (old p' x c' hx')
       · cases p with
         | tb=>exact absurd (.inl rfl) c
         | tw=>exact absurd (.inr rfl) c
         | gs=>obtain⟨q,hq,_⟩:=hx;cases hq
         | sb =>
           have hx:x=b2:=hx
           subst hx
           cases p' with
           | sb=>rfl
           | tb=>exact absurd (.inl rfl) c'
           | tw=>exact absurd (.inr rfl) c'
           | gs=>obtain⟨q,hq,_⟩:=hx';cases hq
           | lv=>obtain⟨q,hq,e⟩:=hx';exact absurd e.symm (nlv q hq).2.1
           | lb j=>exact absurd hx'.2.symm (nlm _ (mem_getD (by have:=hx'.1;omega))).2.1
           | mp j=>exact absurd hx'.2.symm (nmm _ (mem_getD (by have:=hx'.1;omega))).1
         | lv =>
           obtain⟨q,hq,rfl⟩:=hx
           cases p' with
           | sb=>exact absurd hx' (nlv q hq).2.1
           | tb=>exact absurd (.inl rfl) c'
           | tw=>exact absurd (.inr rfl) c'
           | gs=>obtain⟨q,hq,_⟩:=hx';cases hq
           | lv=>rfl
           | lb j=>exact absurd (hx'.2▸mem_getD (by have:=hx'.1;omega)) (nlv q hq).2.2.1
           | mp j=>exact absurd (hx'.2▸mem_getD (by have:=hx'.1;omega)) (nlv q hq).2.2.2
         | lb i =>
           obtain⟨hi,rfl⟩:=hx
           have hm:=mem_getD (l:=lbs) (i:=i) (by omega)
           cases p' with
           | sb=>exact absurd hx' (nlm _ hm).2.1
           | tb=>exact absurd (.inl rfl) c'
           | tw=>exact absurd (.inr rfl) c'
           | gs=>obtain⟨q,hq,_⟩:=hx';cases hq
           | lv=>obtain⟨q,hq,e⟩:=hx';exact absurd (e▸hm) (nlv q hq).2.2.1
           | lb j =>
             have:=nodup_getD nl (i:=i) (j:=j) (by omega) (by have:=hx'.1;omega) hx'.2
             rw[this]
           | mp j=>exact absurd ((show lbs.getD i 0=mps.getD j 0 from hx'.2)▸mem_getD (by have:=hx'.1;omega)) (nlm _ hm).1
         | mp i =>
           obtain⟨hi,rfl⟩:=hx
           have hm:=mem_getD (l:=mps) (i:=i) (by omega)
           cases p' with
           | sb=>exact absurd hx' (nmm _ hm).1
           | tb=>exact absurd (.inl rfl) c'
           | tw=>exact absurd (.inr rfl) c'
           | gs=>obtain⟨q,hq,_⟩:=hx';cases hq
           | lv=>obtain⟨q,hq,e⟩:=hx';exact absurd (e▸hm) (nlv q hq).2.2.2
           | lb j =>
             have hm':=mem_getD (l:=lbs) (i:=j) (by have:=hx'.1;omega)
             exact absurd ((show mps.getD i 0=lbs.getD j 0 from hx'.2)▸hm) (nlm _ hm').1
           | mp j =>
             have:=nodup_getD nm (i:=i) (j:=j) (by omega) (by have:=hx'.1;omega) hx'.2
             rw[this]
   · intro p x hx hm
     by_cases c:p= .tb∨p= .tw
     · rcases c with rfl|rfl
       · have hx:x=tb:=hx
         rw[hx] at hm;exact ntb hm
       · have hx1:x=tw:=hx.1
         rw[hx1] at hm;exact ntw hx.2 hm
     · exact M.dom hm (fresh p x (fun e=>c (.inl e)) (fun e=>c (.inr e)) hx)
end
end Go.Proofs.Tryz

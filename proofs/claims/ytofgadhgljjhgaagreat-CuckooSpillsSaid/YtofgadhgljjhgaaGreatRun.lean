/- Cells in order, unseen: sort.Run. -/
import Derived.Test.YtofgadhgljjhgaaGreatScan
namespace Go.Proofs.Tryz
open Go Go.Sh Go.RowKit
set_option maxRecDepth 8000
def toPr (p:Nat×Nat×Bool):Pr:=⟨p.1,p.2.1,p.2.2⟩
theorem ipairs_ip (k j n:Nat):ipairs k j n=(ip k j n).map toPr:=by
 unfold ipairs ip;rw[List.map_map];rfl
theorem jl_jN (n a:Nat):∀b,jl n a b=(jN n a b).map toPr
 | 0=>rfl
 | b+1=>by unfold jl jN;rw[List.map_append,ipairs_ip,jl_jN n a b]
theorem kl_kN (n:Nat):∀a,kl n a=(kN n a).map toPr
 | 0=>rfl
 | a+1=>by rw[kl_succ];unfold kN;rw[List.map_append,kl_kN n a,jl_jN]
theorem pairsL_netN (K:Nat):pairsL K=(netN K).map toPr:=kl_kN _ _
def putRow (R:Regs) (r:Nat) (f:Nat→Cel):Regs:=fun r' i=>if r'=r then f i else R r' i
def kf (k:Nat) (hk:k<12) (c:Cel):Nat:=c[k].toNat
theorem putRow_self (R:Regs) (r:Nat):putRow R r (R r)=R:=by
 funext r' i;unfold putRow;split
 · rename_i h;rw[h]
 · rfl
theorem putRow_cx {R:Regs} {r:Nat} {key:Cel→Nat} {f:Nat→Cel} {p:Nat×Nat×Bool} (h:p.1≠p.2.1) :
   set2 (set2 (putRow R r f) (r,p.1) (cxA key p.2.2 (f p.1) (f p.2.1)).1) (r,p.2.1) (cxA key p.2.2 (f p.1) (f p.2.1)).2=putRow R r (cx key f p):=by
 funext r' i
 unfold set2 putRow cx
 by_cases e:r'=r
 · subst e
   by_cases e1:i=p.2.1
   · subst e1;simp[Ne.symm h]
   · by_cases e2:i=p.1
     · subst e2;simp[e1]
     · simp[e1,e2]
 · simp[e]
section
variable {T:TypeId} {m:MS} {R:Regs} {ev:List Ev} {es:Sl} {h:Hp}
theorem sort_run (M:MemR T m R ev es h) {r K k:Nat} (hr:r<m.nr) (hK:K≤10) (hn:2 ^ K≤m.rn r) (hk:k<12) (hl:ev.length<3000000000000) :
   callK prog 154 [vp ⟨m.b,0⟩,.int .i64 r,.int .i64 (2 ^ K),.int .i64 k] h fun v h'=>∃es',v= .int .i64 0∧MemR T m (putRow R r (netRun (kf k hk) (netN K) (R r))) (ev++sortEv r K) es' h'∧Mv (MF m es) h (MF m es') h':=by
 have hpw:((2 ^ K:Nat):Int)=2 ^ K:=by simp
 refine c154 _ _ _ _ ?_
 unfold G154
 refine(net_right hK).to fun h1 k1=>⟨_,rfl,ifB_neg rfl ?_⟩
 refine(mem_size (M.keep k1) hr).mono ?_
 rintro _ h1 ⟨rfl,rfl⟩
 refine⟨_,rfl,ifB_neg (by simp;omega) (ifB_neg (by simp) (ifB_neg (by simp;omega) ?_))⟩
 refine(net_pairs hK h1).mono ?_
 rintro _ h2 ⟨sp,rfl,op,k2⟩
 have hpl:=pairsL_length hK
 have hnl:(netN K).length=(pairsL K).length:=by rw[pairsL_netN,List.length_map]
 have hlen:=op.len
 have M2:=(M.keep k1).keep k2
 have ospn:∀q,sp.q=some q→¬MF m es q.b:=fun q hq=>(M.keep k1).out (op.blk hq).1
 refine⟨_,rfl,fun q1 n2 n3 s2 n4 n5 g kk=>q1=⟨m.b,0⟩∧n2=r∧n3=k∧s2=sp∧n4=(sp.len:Nat)∧∃i es',n5=(i:Nat)∧i≤sp.len∧kk=sp.len-i ∧
     MemR T m (putRow R r (netRun (kf k hk) ((netN K).take i) (R r))) (ev++((pairsL K).take i).flatMap (sort4 r)) es' g∧Mv (MF m es) h (MF m es') g∧(∀q,sp.q=some q→¬MF m es' q.b)∧OwnM 3 prc h1 g sp (pairsL K),
   ⟨sp.len,rfl,rfl,rfl,rfl,rfl,0,es,rfl,by omega,rfl,by simpa [netRun,putRow_self] using M2,mvK (k1.trans k2) _,ospn,op⟩,?_⟩
 rintro q1 n2 n3 s2 n4 n5 g kk ⟨rfl,rfl,rfl,rfl,rfl,i,es',rfl,hi,rfl,Mg,vg,nsp,og⟩
 refine ifD (fun hlt=>?_) fun hge=>?_
 · have hi':i<(pairsL K).length:=by omega
   have hi2:i<(netN K).length:=by omega
   obtain⟨pi,pj⟩:=kN_in K (Nat.le_refl _) (netN K)[i] (List.getElem_mem hi2)
   have ep:(pairsL K)[i]=toPr (netN K)[i]:=by simp[pairsL_netN]
   generalize hp:(netN K)[i]=p at *
   have hpi:p.1<m.rn r:=by omega
   have hpj:p.2.1<m.rn r:=by omega
   have evl:(ev++((pairsL K).take i).flatMap (sort4 r)).length≤ev.length+4*102400:=by
     rw[List.length_append,sort4_length,List.length_take];omega
   refine og.rd.ix prc3 hi' fun q hq hrd=>?_
   rw[ep] at hrd
   obtain⟨c1,c2,c3,_⟩:=hrd
   rw[show(i:Int).toNat=i by omega]
   refine⟨_,c1,_,c2,_,c3,newC fun b1 g1 f1 e1 l1=>?_⟩
   have nb1:¬MF m es' b1:=Mg.out f1
   have f10:h b1=none:=vg.2.2 _ f1
   refine stMW (vg.more l1) f10 e1 (by simp) fun g2 v2 e2 o2=>?_
   have Mg2:=(Mg.keep l1).move fun y hy=>o2 y fun e=>nb1 (e▸hy)
   have og2:OwnM 3 prc h1 g2 s2 (pairsL K):=(og.keep l1).move fun q hq=>o2 _ fun e=>(og.blk hq).2 (e▸f1)
   refine⟨_,rd1 e2 rfl,_,rd1 e2 rfl,?_⟩
   refine(mem_read Mg2 hr hpi (by omega)).mono ?_
   rintro _ g3 ⟨es3,rfl,M3,v3⟩
   have e3:=v3.get e2 nb1
   have nb13:=v3.out (by rw[e2];simp) nb1
   refine⟨_,rfl,⟨rd1 e3 rfl,trivial⟩,?_⟩
   refine(mem_read M3 hr hpj (by rw[List.length_append,List.length_singleton];omega)).mono ?_
   rintro _ g4 ⟨es4,rfl,M4,v4⟩
   have e4:=v4.get e3 nb13
   have nb14:=v4.out (by rw[e3];simp) nb13
   have nsp4:∀q,s2.q=some q→¬MF m es4 q.b:=fun q hq=>by
     have h0:=(og2.blk hq).2
     exact v4.out (by rw[v3.2.1 _ h0 (nsp q hq)];exact h0) (v3.out h0 (nsp q hq))
   have og4:OwnM 3 prc h1 g4 s2 (pairsL K):=og2.move fun q hq=>by
     have h0:=(og2.blk hq).2
     rw[v4.2.1 _ (by rw[v3.2.1 _ h0 (nsp q hq)];exact h0) (v3.out h0 (nsp q hq)),v3.2.1 _ h0 (nsp q hq)]
   have va:=(v2.trans v3).trans v4
   refine⟨_,rfl,newC fun b2 g5 f5 e5 l5=>newC fun b3 g6 f6 e6 l6=>?_⟩
   have f50:h b2=none:=va.2.2 _ f5
   have f60:h b3=none:=va.2.2 _ (l5.free f6)
   have n21:b2≠b1:=fun e=>by rw[e,e4] at f5;cases f5
   have n31:b3≠b1:=fun e=>by rw[e,l5.get e4] at f6;cases f6
   have n32:b3≠b2:=fun e=>by rw[e,e5] at f6;cases f6
   have nb2:¬MF m es4 b2:=M4.out f5
   have nb3:¬MF m es4 b3:=M4.out (l5.free f6)
   have ns2:∀q,s2.q=some q→q.b≠b1∧q.b≠b2∧q.b≠b3:=fun q hq=>by
     have h0:=(og4.blk hq).2
     refine⟨fun e=>(og.blk hq).2 (e▸f1),fun e=>h0 (e▸f5),fun e=>h0 (e▸l5.free f6)⟩
   refine wbMW (n:=12) (va.more (l5.trans l6)) f50 (l6.get e5) rfl fun g7 v7 e7 o7=>?_
   refine wbMW (n:=12) v7 f60 ((o7 _ n32).trans e6) rfl fun g8 v8 e8 o8=>?_
   have e78:=(o8 _ (Ne.symm n32)).trans e7
   have e18:g8 b1=_:=((o8 _ (Ne.symm n31)).trans (o7 _ (Ne.symm n21))).trans ((l5.trans l6).get e4)
   have M8:=((M4.keep (l5.trans l6)).move fun y hy=>o7 y fun e=>nb2 (e▸hy)).move fun y hy=>o8 y fun e=>nb3 (e▸hy)
   have og8:OwnM 3 prc h1 g8 s2 (pairsL K):=(og4.keep (l5.trans l6)).move fun q hq=>(o8 _ (ns2 q hq).2.2).trans (o7 _ (ns2 q hq).2.1)
   generalize hf:netRun (kf k hk) ((netN K).take i) (R r)=f at *
   have hfi:putRow R r f r p.1=f p.1:=by unfold putRow;rw[if_pos rfl]
   have hfj:putRow R r f r p.2.1=f p.2.1:=by unfold putRow;rw[if_pos rfl]
   rw[hfi] at e78;rw[hfj] at e8
   refine⟨by omega,by omega,(f p.2.1)[k],?_,by omega,by omega,(f p.1)[k],?_,?_⟩
   · rw[show 0+Int.toNat (k:Int)*1=k by omega];exact wb_get e8 hk
   · rw[show 0+Int.toNat (k:Int)*1=k by omega];exact wb_get e78 hk
   have fin:∀(t:Bool) (g9:Hp),Keep g8 g9→t=(bif p.2.2 then decide (kf k hk (f p.2.1)<kf k hk (f p.1)) else decide (kf k hk (f p.1)<kf k hk (f p.2.1)))→∀ {Q:Hp→Prop},
       (∀g',(∃es',MemR T m (putRow R r (netRun (kf k hk) ((netN K).take (i+1)) (R r))) (ev++((pairsL K).take (i+1)).flatMap (sort4 r)) es' g'∧Mv (MF m es) h (MF m es') g'∧(∀q,s2.q=some q→¬MF m es' q.b)∧OwnM 3 prc h1 g' s2 (pairsL K))→Q g') →
       callK prog 173 [vu (mask t),wv (f p.1),wv (f p.2.1)] g9 fun v8 h15=>∃c5 c6:Cel,v8= .tuple #[wv c5,wv c6]∧storeK h15 ⟨b2,0⟩ (SV.cells (.ws 12 c5)) fun h16=>storeK h16 ⟨b3,0⟩ (SV.cells (.ws 12 c6)) fun h17=>∃n10,hcell h17 b1 0=some (.int .i64 n10)∧∃c7:Cel,rdW h17 b2 0 c7 ∧
         callK prog 95 [vp ⟨m.b,0⟩,.int .i64 r,.int .i64 n10,wv c7] h17 fun v9 h18=>v9= .tuple #[]∧∃n11,hcell h18 b1 1=some (.int .i64 n11)∧∃c8:Cel,rdW h18 b3 0 c8 ∧
           callK prog 95 [vp ⟨m.b,0⟩,.int .i64 r,.int .i64 n11,wv c8] h18 fun v10 h19=>v10= .tuple #[]∧Q h19:=by
     intro t g9 l9 ht Q hQ
     refine(word_swapCell t _ _).to fun g10 l10=>⟨_,_,rfl,?_⟩
     have l90:=l9.trans l10
     refine wbMW (n:=12) (v8.more l90) f50 (l90.get e78) (by simp[SV.cells]) fun g11 v11 e11 o11=>?_
     refine wbMW (n:=12) v11 f60 ((o11 _ n32).trans (l90.get e8)) (by simp[SV.cells]) fun g12 v12 e12 o12=>?_
     have e1112:=(o12 _ (Ne.symm n32)).trans e11
     have e112:g12 b1=_:=((o12 _ (Ne.symm n31)).trans (o11 _ (Ne.symm n21))).trans (l90.get e18)
     have M12:=((M8.keep l90).move fun y hy=>o11 y fun e=>nb2 (e▸hy)).move fun y hy=>o12 y fun e=>nb3 (e▸hy)
     have og12:OwnM 3 prc h1 g12 s2 (pairsL K):=(og8.keep l90).move fun q hq=>(o12 _ (ns2 q hq).2.2).trans (o11 _ (ns2 q hq).2.1)
     refine⟨_,rd1 e112 rfl,_,wb_rd e1112,?_⟩
     refine(mem_write M12 hr hpi _ (by simp only[List.length_append,List.length_singleton] at evl ⊢;omega)).mono ?_
     rintro _ g13 ⟨es13,rfl,M13,v13⟩
     have nb3':¬MF m es4 b3:=nb3
     have e113:=v13.get e112 nb14
     have e313:=v13.get e12 nb3
     refine⟨rfl,_,rd1 e113 rfl,_,wb_rd e313,?_⟩
     refine(mem_write M13 hr hpj _ (by simp only[List.length_append,List.length_singleton] at evl ⊢;omega)).mono ?_
     rintro _ g14 ⟨es14,rfl,M14,v14⟩
     refine⟨rfl,hQ _ ⟨es14,?_,(v12.trans v13).trans v14,fun q hq=>?_,og12.move fun q hq=>?_⟩⟩
     · have e1:(netN K).take (i+1)=(netN K).take i++[p]:=by rw[List.take_add_one,List.getElem?_eq_getElem hi2,hp];rfl
       have e2:(pairsL K).take (i+1)=(pairsL K).take i++[toPr p]:=by rw[List.take_add_one,List.getElem?_eq_getElem hi',ep];rfl
       rw[e1,e2,netRun_append,hf,List.flatMap_append]
       have e3:netRun (kf k hk) [p] f=cx (kf k hk) f p:=rfl
       rw[e3,←putRow_cx (R:=R) (r:=r) (key:=kf k hk) (f:=f) (p:=p) (by omega)]
       have e4:(cxA (kf k hk) p.2.2 (f p.1) (f p.2.1))=(if t=true then f p.2.1 else f p.1,if t=true then f p.1 else f p.2.1):=by
         unfold cxA;rw[←ht];cases t<;>rfl
       rw[e4]
       have e5:ev++(((pairsL K).take i).flatMap (sort4 r)++[toPr p].flatMap (sort4 r))=ev++((pairsL K).take i).flatMap (sort4 r)++[⟨r,p.1,false⟩]++[⟨r,p.2.1,false⟩]++[⟨r,p.1,true⟩]++[⟨r,p.2.1,true⟩]:=by
         simp[sort4,toPr]
       rw[e5];exact M14
     · have h0:=(og12.blk hq).2
       exact v14.out (by rw[v13.2.1 _ h0 (nsp4 q hq)];exact h0) (v13.out h0 (nsp4 q hq))
     · have h0:=(og12.blk hq).2
       rw[v14.2.1 _ (by rw[v13.2.1 _ h0 (nsp4 q hq)];exact h0) (v13.out h0 (nsp4 q hq)),v13.2.1 _ h0 (nsp4 q hq)]
   refine(word_less _ _).to fun g9 l9=>⟨_,rfl,p.2.2,rd1 (l9.get e18) rfl,ifB_intro (fun hu=>?_) fun hu=>?_⟩
   · refine⟨by omega,by omega,(f p.1)[k],?_,by omega,by omega,(f p.2.1)[k],?_,?_⟩
     · rw[show 0+Int.toNat (k:Int)*1=k by omega];exact wb_get (l9.get e78) hk
     · rw[show 0+Int.toNat (k:Int)*1=k by omega];exact wb_get (l9.get e8) hk
     refine(word_less _ _).to fun g10 l10=>⟨_,rfl,_,wb_rd ((l9.trans l10).get e78),_,wb_rd ((l9.trans l10).get e8),?_⟩
     have hu':p.2.2=false:=by simpa using hu
     exact fin _ g10 (l9.trans l10) (by rw[hu'];rfl) fun g' ⟨es',a1,a2,a3,a4⟩=>⟨s2.len-(i+1),by omega,rfl,rfl,rfl,rfl,rfl,i+1,es',w64_id (by omega) (by omega),by omega,rfl,a1,a2,a3,a4⟩
   · have hu':p.2.2=true:=by simpa using hu
     refine⟨_,wb_rd (l9.get e78),_,wb_rd (l9.get e8),?_⟩
     exact fin _ g9 l9 (by rw[hu'];rfl) fun g' ⟨es',a1,a2,a3,a4⟩=>⟨s2.len-(i+1),by omega,rfl,rfl,rfl,rfl,rfl,i+1,es',w64_id (by omega) (by omega),by omega,rfl,a1,a2,a3,a4⟩
 · have e1:i=(pairsL K).length:=by omega
   rw[List.take_of_length_le (by omega),List.take_of_length_le (by omega)] at Mg
   exact⟨es',rfl,Mg,vg⟩
end
end Go.Proofs.Tryz

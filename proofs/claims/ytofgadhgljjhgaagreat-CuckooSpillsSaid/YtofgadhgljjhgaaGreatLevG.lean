/- Chapter 10: an access to a level. -/
import Derived.Test.YtofgadhgljjhgaaGreatLvA
import Derived.Test.YtofgadhgljjhgaaGreatEvC
namespace Go.Proofs.Tryz
open Go Go.Sh Go.RowKit
set_option maxRecDepth 8000
structure LvM (m:MS) (P:LP) (f:Nat):Prop where
 hf:f≤100
 nr:f+2<m.nr
 r0:m.rn f=P.s*(2 ^ (P.k+1)-1)
 r1:m.rn (f+1)=P.t
 r2:m.rn (f+2)=2 ^ P.E
 E:P.E=roundE (plc P.k P.s P.t)
theorem LvM.tbl {m:MS} {P:LP} {f:Nat} (L:LvM m P f):tbl P.k P.s P.t=2 ^ P.E:=by rw[L.E];exact roundI_E _
def spt (P:LP) (f fr p:Nat):Sp:=⟨((f+(spot P fr p).1:Nat):Int),(((spot P fr p).2:Nat):Int)⟩
theorem spots_at {P:LP} (o:P.Ok) (f fr:Nat):spotsL P.k P.s P.t f fr=(List.range P.m).map (spt P f fr):=by
 have hs:0<P.s:=by have:=o.s;omega
 have tree:∀n,n≤P.k+1→treeL P.k P.s f fr n=(List.range (P.s*n)).map (spt P f fr):=by
   intro n
   induction n with
   | zero=>intro _;simp[treeL]
   | succ n ih =>
     intro hn
     rw[treeL_succ,ih (by omega),Nat.mul_succ,List.range_add,List.map_append,List.map_map]
     congr 1
     unfold bktL
     rw[show(P.s:Int).toNat=P.s by omega]
     refine List.map_congr_left fun i hi=>?_
     have hi:=List.mem_range.1 hi
     have hlt:P.s*n+i<P.s*(P.k+1):=by
       have:=Nat.mul_le_mul_left P.s hn
       rw[Nat.mul_succ] at this;omega
     have td:=tree_div (s:=P.s) (a:=n) hi
     show _=spt P f fr (P.s*n+i)
     unfold spt
     rw[spot_tree hlt,Nat.mul_comm P.s n,td.1,td.2]
     simp[nodeN,nodeQ]
 unfold spotsL LP.m
 rw[tree _ (Nat.le_refl _),List.range_add,List.map_append,List.map_map]
 congr 1
 unfold stashL
 rw[show(P.t:Int).toNat=P.t by omega]
 refine List.map_congr_left fun i _=>?_
 show _=spt P f fr (P.s*(P.k+1)+i)
 unfold spt
 rw[spot_stash (by omega)]
 simp
theorem spot_rn {m:MS} {P:LP} {f:Nat} (L:LvM m P f) (o:P.Ok) {fr p:Nat} (hf:fr<2 ^ P.k) (hp:p<P.m):f+(spot P fr p).1<m.nr∧(spot P fr p).2<m.rn (f+(spot P fr p).1)∧(spot P fr p).1<2:=by
 have:=L.nr
 rcases spot_vpos o hf hp with ⟨h1,h2⟩|⟨h1,h2⟩
 · rw[h1,Nat.add_zero,L.r0];exact⟨by omega,h2,by omega⟩
 · rw[h1,L.r1];exact⟨by omega,h2,by omega⟩
def OpV (G:Nat→Prop) (h0:Hp) (v:Value) (op:LOp):Prop :=
 ∀g,(∀x,G x→g x=h0 x)→∀(d:Dat) (b:Bool),callV prog v [wv d,.bool b] g fun r g'=>(∃d':Dat,r= .tuple #[wv d',.bool (op.now d b).isSome]∧∀x,op.now d b=some x→d'=x)∧Keep g g'
section
variable {T:TypeId} {m:MS} {R:Regs} {ev:List Ev} {es:Sl} {h:Hp}
theorem level_acc {P:LP} {f:Nat} (o:P.Ok) (L:LvM m P f) (M:MemR T m R ev es h) {Tl:TypeId} {lb mp:Nat} {ov:Bool} (hlb:h lb=some (.cells (lvc P m.b f ov mp) Tl (0,0))) (nlb:¬MF m es lb)
   {fr to:Nat} (hfr:fr<2 ^ P.k) (hto:to<2 ^ P.k) {bi:UInt64} (hid:bi.toNat≤2147483648) (wm:WM P (lview f R)) {op:LOp} {v:Value} {G:Nat→Prop} (hG:∀x,G x→h x≠none∧¬MF m es x∧x≠lb) (hv:OpV G h v op) (hl:ev.length<1000000000000) :
   callK prog 117 [vp ⟨lb,0⟩,vu bi,.int .i64 fr,.int .i64 to,v] h fun r h'=>∃es',r= .tuple #[wv (levOld P bi fr (lview f R)).1,.bool (levOld P bi fr (lview f R)).2]∧MemR T m (lput f R (levM P op bi fr to (lview f R))) (ev++levEv P.k P.s P.t f fr) es' h' ∧
     h' lb=some (.cells (lvc P m.b f (ov||levLost P op bi fr to (lview f R)) mp) Tl (0,0))∧¬MF m es' lb∧Mv (fun x=>MF m es x∨x=lb) h (fun x=>MF m es' x∨x=lb) h':=by
 have ol:=o.lev
 have hN8:=pow_E o
 have hE8:=o.E
 have hn:=o.n
 have hmn:P.n=P.m+1:=rfl
 have hN:(2:Int) ^ P.E=((2 ^ P.E:Nat):Int):=by simp
 have ht:=L.tbl
 rw[hN] at ht
 have tl:=turnEv_len (f:Int) hE8
 have hfe:∀n,(fillEv f (spotsL P.k P.s P.t f fr) n).length≤2*n:=fun n=>fillEv_length _ _ _
 have hLf:=L.hf
 have ew:w64 ((f:Int)+2)=((f+2:Nat):Int):=by rw[w64_id (by omega) (by omega)];omega
 have ew2:(f:Int)+2=((f+2:Nat):Int):=by omega
 have hr2:=L.r2
 have hnr:=L.nr
 have hpw:P.k≤10:=o.k
 have hm0:0<P.m:=by have:=o.t;unfold LP.m;omega
 refine c117 _ _ _ _ _ ?_
 unfold G117
 refine newC fun b1 h1 f1 e1 k1=>?_
 have l1:=k1.get hlb
 refine⟨_,rd1 l1 rfl,_,rd1 l1 rfl,_,rd1 l1 rfl,_,rd1 l1 rfl,?_⟩
 refine(level_spots ol (f:Int) (by omega) hfr h1).mono ?_
 rintro _ h2 ⟨sp,rfl,O2,k2⟩
 rw[spots_at o f fr] at O2
 have k02:=k1.trans k2
 have spl:=O2.len
 simp only[List.length_map,List.length_range] at spl
 generalize hM0:lview f R=M0 at *
 let X:Nat→Prop:=fun x=>x=lb∨x=b1∨∃q,sp.q=some q∧x=q.b
 let A:Nat→Prop:=fun x=>MF m es x∨x=lb
 have M2:=M.keep k02
 have X0:∀x,X x→x=lb∨h x=none:=by
   rintro x (rfl|rfl|⟨q,hq,rfl⟩)
   · exact .inl rfl
   · exact .inr f1
   · exact .inr (k1.free (O2.blk hq).1)
 have Xd:∀x,X x→h2 x≠none:=by
   rintro x (rfl|rfl|⟨q,hq,rfl⟩)
   · rw[k02.get hlb];simp
   · rw[k2.get e1];simp
   · exact(O2.blk hq).2
 have Xn:∀x,X x→¬MF m es x:=fun x z hm=>by
   rcases X0 x z with rfl|hx
   · exact nlb hm
   · exact M.dom hm hx
 have V2:Mv A h (fun x=>MF m es x∨X x) h2:=(mvK k02 _).to fun x hx=>by
   rcases hx with hx|z
   · exact .inl (.inl hx)
   · exact(X0 x z).imp .inr id
 have nb1l:b1≠lb:=fun e=>by rw[e,hlb] at f1;cases f1
 have nspb:∀q,sp.q=some q→q.b≠b1∧q.b≠lb:=fun q hq=>⟨fun e=>(by have:=(O2.blk hq).1;rw[e,e1] at this;cases this),fun e=>(by have:=(O2.blk hq).1;rw[e,l1] at this;cases this)⟩
 let St:Regs→List Ev→Sl→Dat→Hp→Prop:=fun R' ev' es' d g=>MemR T m R' ev' es' g∧Mv A h (fun x=>MF m es' x∨X x) g∧(∀x,X x→¬MF m es' x)∧g lb=some (.cells (lvc P m.b f ov mp) Tl (0,0))∧g b1=some (.cells (SV.cells (.ws 8 d)).toArray 100 (0,0))∧RdM spc g sp ((List.range P.m).map (spt P f fr))
 let R1:Nat→Regs:=fun i=>putRow R (f+2) fun p=>if p<i then strip bi (spotC P fr M0 p) else R (f+2) p
 have St0:St (R1 0) (ev++fillEv f (spotsL P.k P.s P.t f fr) 0) es dat0 h2:=by
   have e:R1 0=R:=by
     have:(fun p=>if p<0 then strip bi (spotC P fr M0 p) else R (f+2) p)=R (f+2):=by funext p;simp
     show putRow R (f+2) _=R
     rw[this];exact putRow_self R _
   rw[e]
   exact⟨by simpa [fillEv] using M2,V2,Xn,k02.get hlb,k2.get e1,O2.rd⟩
 refine⟨sp,rfl,fun q1 x1 n5 n6 v2 q2 t1 s2 s3 n7 n8 g kk=>q1=⟨lb,0⟩∧bi=x1∧n5=fr∧n6=to∧v=v2∧q2=⟨b1,0⟩∧sp=s2∧sp=s3∧n7=(P.m:Nat)∧∃(i:Nat) (es':Sl),n8=i∧i≤P.m∧kk=P.m-i∧t1=(seek bi (spotC P fr M0) i).2∧St (R1 i) (ev++fillEv f (spotsL P.k P.s P.t f fr) i) es' (seek bi (spotC P fr M0) i).1 g,
   ⟨P.m,rfl,rfl,rfl,rfl,rfl,rfl,rfl,rfl,by rw[spl],0,es,rfl,by omega,rfl,rfl,St0⟩,?_⟩
 rintro q1 x1 n5 n6 v2 q2 t1 s2 s3 n7 n8 g kk ⟨rfl,rfl,rfl,rfl,rfl,rfl,rfl,rfl,rfl,i,es',rfl,hi,rfl,rfl,Mg,Vg,Xg,Lg,Bg,Rg⟩
 have hread:∀(i:Nat) (R':Regs),i<P.m→(∀r j,r≠f+2→R' r j=R r j)→R' (f+(spot P fr i).1) (spot P fr i).2=spotC P fr M0 i:=fun i R' hi hR=>by
   have h2:=(spot_rn L o hfr hi).2.2
   rw[hR _ _ (by omega),←hM0];rfl
 have R1ne:∀i r j,r≠f+2→R1 i r j=R r j:=fun i r j hr=>by show putRow R (f+2) _ r j=_;unfold putRow;rw[if_neg hr]
 have R1s:∀i,set2 (R1 i) (f+2,i) (strip bi (spotC P fr M0 i))=R1 (i+1):=fun i=>by
   funext r j
   show(if r=f+2∧j=i then _ else if r=f+2 then (if j<i then strip bi (spotC P fr M0 j) else R (f+2) j) else R r j)=if r=f+2 then (if j<i+1 then strip bi (spotC P fr M0 j) else R (f+2) j) else R r j
   by_cases c1:r=f+2
   · rw[if_pos c1,if_pos c1]
     by_cases c2:j=i
     · rw[if_pos ⟨c1,c2⟩,if_pos (by omega),c2]
     · rw[if_neg (fun h=>c2 h.2)]
       by_cases c3:j<i
       · rw[if_pos c3,if_pos (by omega)]
       · rw[if_neg c3,if_neg (by omega)]
   · rw[if_neg (fun h=>c1 h.1),if_neg c1,if_neg c1]
 refine ifD (fun hlt=>?_) fun hge=>?_
 · have hi':i<P.m:=by omega
   obtain⟨rn1,rn2,rn3⟩:=spot_rn L o hfr hi'
   have hfi:=hfe i
   refine Rg.ix spc2 (i:=i) (by simp;omega) fun q hq hrd=>?_
   have e:((List.range P.m).map (spt P f fr))[i]'(by simp;omega)=spt P f fr i:=by simp
   rw[e] at hrd
   obtain⟨c1,c2,_⟩:=hrd
   rw[show(i:Int).toNat=i by omega]
   refine⟨_,c1,_,c2,newC fun b2 g1 f2 e2 k3=>?_⟩
   have hb2:h b2=none:=Vg.2.2 _ f2
   refine stMW (Vg.more k3) hb2 e2 (by simp) fun g2 V3 e3 o3=>?_
   have nb2:∀x,g x≠none→x≠b2:=fun x hx e=>hx (e▸f2)
   have K2:∀x,g x≠none→g2 x=g x:=fun x hx=>by rw[o3 x (nb2 x hx),k3 x hx]
   have M3:=Mg.move fun x hx=>K2 x (Mg.dom hx)
   have L3:=(K2 lb (by rw[Lg];simp)).trans Lg
   refine⟨some ⟨m.b,0⟩,rd1 L3 rfl,_,rd1 e3 rfl,_,rd1 e3 rfl,?_⟩
   refine(mem_read M3 rn1 rn2 (by simp only[List.length_append];omega)).mono ?_
   rintro _ g4 ⟨es4,rfl,M4,v4⟩
   rw[hread i _ hi' (R1ne i)]
   have X3d:∀x,X x→g2 x≠none:=fun x z=>by
     have:g x≠none:=by
       rcases z with rfl|rfl|⟨q,hq,rfl⟩
       · rw[Lg];simp
       · rw[Bg];simp
       · exact Rg.there (k:=1) spc2 hq (by simp;omega)
     rw[K2 x this];exact this
   obtain⟨s4,X4⟩:=mv_apart v4 X3d Xg
   have V4:=V3.trans (mv_both1 v4)
   have L4:=(s4 lb (.inl rfl)).trans L3
   have B4:=(s4 b1 (.inr (.inl rfl))).trans ((K2 b1 (by rw[Bg];simp)).trans Bg)
   have Rd4:RdM spc g4 sp ((List.range P.m).map (spt P f fr)):=Rg.move fun q hq hl=>(s4 _ (.inr (.inr ⟨q,hq,rfl⟩))).trans (K2 _ (Rg.there (k:=1) spc2 hq hl))
   refine⟨_,rfl,newC fun b3 g5 f5 e5 k5=>?_⟩
   have hb3:h b3=none:=V4.2.2 _ f5
   refine wbMW (n:=12) (V4.more k5) hb3 e5 rfl fun g6 V6 e6 o6=>?_
   have nb3:∀x,g4 x≠none→x≠b3:=fun x hx e=>hx (e▸f5)
   have K6:∀x,g4 x≠none→g6 x=g4 x:=fun x hx=>by rw[o6 x (nb3 x hx),k5 x hx]
   have X4d:∀x,X x→g4 x≠none:=fun x z=>by rw[s4 x z];exact X3d x z
   have M6:=M4.move fun x hx=>K6 x (M4.dom hx)
   have L6:=(K6 lb (X4d lb (.inl rfl))).trans L4
   have B6:=(K6 b1 (X4d b1 (.inr (.inl rfl)))).trans B4
   have Rd6:RdM spc g6 sp ((List.range P.m).map (spt P f fr)):=Rd4.move fun q hq hl=>K6 _ (X4d _ (.inr (.inr ⟨q,hq,rfl⟩)))
   have n3X:¬X b3:=fun z=>X4d b3 z f5
   have n3M:¬MF m es4 b3:=M4.out f5
   have fin:∀(g7:Hp) (c:Cel) (d:Dat) (t:Bool),Mv A h (fun x=>MF m es4 x∨X x) g7→MemR T m (R1 i) (ev++fillEv f (spotsL P.k P.s P.t f fr) i++[⟨((f+(spot P fr i).1:Nat):Int),(((spot P fr i).2:Nat):Int),false⟩]) es4 g7→g7 lb=some (.cells (lvc P m.b f ov mp) Tl (0,0))→g7 b1=some (.cells (SV.cells (.ws 8 d)).toArray 100 (0,0))→RdM spc g7 sp ((List.range P.m).map (spt P f fr))→g7 b3=some (.cells (SV.cells (.ws 12 c)).toArray 56 (0,0))→c=strip bi (spotC P fr M0 i)→(d,t)=seek bi (spotC P fr M0) (i+1) →
       ∃o2:Option Pt,hcell g7 lb (0+3)=some (vpn o2)∧∃n13,hcell g7 lb (0+4)=some (.int .i64 n13)∧∃c2:Cel,rdW g7 b3 0 c2∧callK prog 95 [vpn o2,.int .i64 (w64 (n13+2)),.int .i64 i,wv c2] g7 fun v4 h11=>v4= .tuple #[]∧∃k3,k3<P.m-i∧((⟨lb,0⟩:Pt)=⟨lb,0⟩∧bi=bi∧(fr:Int)=fr∧(to:Int)=to∧v=v∧(⟨b1,0⟩:Pt)=⟨b1,0⟩∧sp=sp∧sp=sp∧((P.m:Nat):Int)=(P.m:Nat)∧∃(i':Nat) (es':Sl),w64 ((i:Int)+1)=i'∧i'≤P.m∧k3=P.m-i'∧t=(seek bi (spotC P fr M0) i').2∧St (R1 i') (ev++fillEv f (spotsL P.k P.s P.t f fr) i') es' (seek bi (spotC P fr M0) i').1 h11):=by
     rintro g7 c d t V7 M7 L7 B7 Rd7 E7 rfl hdt
     refine⟨some ⟨m.b,0⟩,rd1 L7 rfl,_,rd1 L7 rfl,_,wb_rd E7,?_⟩
     rw[ew]
     have X7d:∀x,X x→g7 x≠none:=by
       rintro x (rfl|rfl|⟨q,hq,rfl⟩)
       · rw[L7];simp
       · rw[B7];simp
       · exact Rd7.there (k:=1) spc2 hq (by simp;omega)
     refine(mem_write M7 hnr (show i<m.rn (f+2) by omega) _ (by simp only[List.length_append,List.length_singleton];omega)).mono ?_
     rintro _ g8 ⟨es8,rfl,M8,v8⟩
     obtain⟨s8,X8⟩:=mv_apart v8 X7d X4
     rw[R1s] at M8
     refine⟨rfl,P.m-(i+1),by omega,rfl,rfl,rfl,rfl,rfl,rfl,rfl,rfl,rfl,i+1,es8,w64_id (by omega) (by omega),by omega,rfl,by rw[←hdt],?_,V7.trans (mv_both1 v8),X8,(s8 lb (.inl rfl)).trans L7,?_,Rd7.move fun q hq _=>s8 _ (.inr (.inr ⟨q,hq,rfl⟩))⟩
     · rw[fillEv_succ,if_pos (by rw[spots_at o];simpa using hi')]
       have e9:(spotsL P.k P.s P.t f fr).getD i ⟨0,0⟩=spt P f fr i:=by rw[spots_at o];simp[List.getD,hi']
       rw[e9,show ∀(a b:List Ev) (x y:Ev),a++(b++([x]++[y]))=a++b++[x]++[y] by simp,ew2]
       exact M8
     · rw[s8 b1 (.inr (.inl rfl)),B7,←hdt]
   have hb0:isB (spotC P fr M0 i)=decide ((spotC P fr M0 i)[0]=1):=isB_one _
   refine⟨Int.NonNeg.mk 0,Int.NonNeg.mk 11,_,wb_get e6 (i:=0) (by decide),ifD (fun hone=>?_) fun hone=>?_⟩
   · have hB:isB (spotC P fr M0 i)=true:=by rw[hb0];exact decide_eq_true hone
     refine⟨Int.NonNeg.mk 1,Int.NonNeg.mk 10,_,wb_get e6 (i:=1) (by decide),ifB_intro (fun hme=>?_) fun hme=>?_⟩
     · have hid':(spotC P fr M0 i)[1]=bi:=of_decide_eq_true hme
       refine⟨Int.NonNeg.mk 11,Int.NonNeg.mk 1,Int.NonNeg.mk 3,Int.NonNeg.mk 8,?_⟩
       have ry:RdS vu g6 ⟨slPt (some ⟨b3,0⟩) 3 12 1,8,9,none⟩ (cdat (spotC P fr M0 i)).toList:=by
         refine⟨by simp,(show(8:Nat)≤9 by decide),(by intro h;cases h),fun q hq j hj=>?_⟩
         cases hq
         have hj':j<8:=by simpa using hj
         have:=wb_get e6 (i:=3+j) (by omega)
         show hcell g6 b3 (0+3*1+j)=_
         rw[show 0+3*1+j=3+j by omega,this]
         congr 2
         rcases (show j=0∨j=1∨j=2∨j=3∨j=4∨j=5∨j=6∨j=7 by omega) with rfl|rfl|rfl|rfl|rfl|rfl|rfl|rfl<;>simp[cdat]
       refine cpyU ry (q:=⟨b1,0⟩) rfl (c:=8) (by simp) ?_
       have el:((cdat (spotC P fr M0 i)).toList.take 8).map vu=SV.cells (.ws 8 (cdat (spotC P fr M0 i))):=by
         rw[List.take_of_length_le (by simp)];rfl
       rw[el,←cells_cel0]
       refine wbMW (n:=8) V6 f1 B6 (by simp[SV.cells]) fun g7 V7 e7 o7=>?_
       have nb31:b3≠b1:=fun e=>n3X (.inr (.inl e))
       refine wbMW (n:=12) V7 hb3 ((o7 _ nb31).trans e6) (by simp[SV.cells]) fun g8 V8 e8 o8=>?_
       have K8:∀x,x≠b1→x≠b3→g8 x=g6 x:=fun x h1 h3=>(o8 x h3).trans (o7 x h1)
       refine fin g8 cel0 _ true V8 (M6.move fun x hx=>K8 x (fun e=>X4 b1 (.inr (.inl rfl)) (e▸hx)) fun e=>n3M (e▸hx)) ((K8 lb (Ne.symm nb1l) fun e=>n3X (.inl e.symm)).trans L6) ((o8 _ (Ne.symm nb31)).trans e7) (Rd6.move fun q hq _=>K8 _ (nspb q hq).1 fun e=>n3X (.inr (.inr ⟨q,hq,e.symm⟩))) e8 ?_ ?_
       · unfold strip;rw[if_pos ⟨hB,hid'⟩]
       · rw[seek,if_pos ⟨hB,hid'⟩]
     · have hid':¬(spotC P fr M0 i)[1]=bi:=fun h=>of_decide_eq_false hme h
       exact fin g6 _ _ _ V6 M6 L6 B6 Rd6 e6 (by unfold strip;rw[if_neg fun h=>hid' h.2]) (by rw[seek,if_neg fun h=>hid' h.2])
   · have hB:¬isB (spotC P fr M0 i)=true:=by rw[hb0];simpa using hone
     exact fin g6 _ _ _ V6 M6 L6 B6 Rd6 e6 (by unfold strip;rw[if_neg fun h=>hB h.1]) (by rw[seek,if_neg fun h=>hB h.1])
 have hi:i=P.m:=by omega
 subst hi
 generalize hcn:newC_ bi to (op.now (seek bi (spotC P fr M0) P.m).1 (seek bi (spotC P fr M0) P.m).2)=cn
 let R2:Nat→Regs:=fun i=>putRow R (f+2) fun p=>if p<i then tab0 P fr bi M0 cn p else R (f+2) p
 have R12:R1 P.m=R2 P.m:=by
   show putRow R (f+2) _=putRow R (f+2) _
   congr 1;funext p
   by_cases c:p<P.m
   · rw[if_pos c,if_pos c];unfold tab0;rw[if_pos c]
   · rw[if_neg c,if_neg c]
 have R2s:∀i,set2 (R2 i) (f+2,i) (tab0 P fr bi M0 cn i)=R2 (i+1):=fun i=>by
   funext r j
   show(if r=f+2∧j=i then _ else if r=f+2 then (if j<i then tab0 P fr bi M0 cn j else R (f+2) j) else R r j)=if r=f+2 then (if j<i+1 then tab0 P fr bi M0 cn j else R (f+2) j) else R r j
   by_cases c1:r=f+2
   · rw[if_pos c1,if_pos c1]
     by_cases c2:j=i
     · rw[if_pos ⟨c1,c2⟩,if_pos (by omega),c2]
     · rw[if_neg (fun h=>c2 h.2)]
       by_cases c3:j<i
       · rw[if_pos c3,if_pos (by omega)]
       · rw[if_neg c3,if_neg (by omega)]
   · rw[if_neg (fun h=>c1 h.1),if_neg c1,if_neg c1]
 rw[R12] at Mg
 have hmE:P.m≤2 ^ P.E:=by omega
 refine⟨fun q4 x4 n16 n17 v7 q5 t2 s4 n18 g kk=>q4=⟨lb,0⟩∧bi=x4∧n16=fr∧n17=to∧v=v7∧q5=⟨b1,0⟩∧t2=(seek bi (spotC P fr M0) P.m).2∧sp=s4∧∃(i:Nat) (es':Sl),n18=i∧P.m≤i∧i≤2 ^ P.E∧kk=2 ^ P.E-i∧St (R2 i) (ev++fillEv f (spotsL P.k P.s P.t f fr) i) es' (seek bi (spotC P fr M0) P.m).1 g,
   ⟨2 ^ P.E-P.m,rfl,rfl,rfl,rfl,rfl,rfl,rfl,rfl,P.m,es',by rw[spl],Nat.le_refl _,hmE,rfl,Mg,Vg,Xg,Lg,Bg,Rg⟩,?_⟩
 clear Mg Vg Xg Lg Bg Rg
 rintro q4 x4 n16 n17 v7 q5 t2 s4 n18 g0 kk ⟨rfl,rfl,rfl,rfl,rfl,rfl,rfl,rfl,i,es2,rfl,hi0,hi,rfl,Mg,Vg,Xg,Lg,Bg,Rg⟩
 refine⟨_,rd1 Lg rfl,_,rd1 Lg rfl,_,rd1 Lg rfl,?_⟩
 refine(level_table ol).to fun g1 lk1=>⟨_,rfl,?_⟩
 rw[ht]
 have hfi:=hfe i
 refine ifD (fun hlt=>?_) fun hge=>?_
 · have hi':i<2 ^ P.E:=by omega
   refine newC fun b5 g2 f5 e5 k5=>⟨_,wb_rd (k5.get (lk1.get Bg)),?_⟩
   have k02':=lk1.trans k5
   refine(hv g2 (fun x hx=>?_) _ _).mono ?_
   · have hg:=Vg.2.1 x (hG x hx).1 (fun ha=>ha.elim (hG x hx).2.1 (hG x hx).2.2)
     rw[k02' x (by rw[hg];exact(hG x hx).1),hg]
   rintro _ g3 ⟨⟨d',rfl,hd'⟩,k3⟩
   refine⟨d',_,rfl,newC fun b6 g4 f6 e6 k6=>?_⟩
   have k04:=(k02'.trans k3).trans k6
   have hb5:h b5=none:=Vg.2.2 _ (lk1.free f5)
   have hb6:h b6=none:=Vg.2.2 _ ((k02'.trans k3).free f6)
   have n65:b6≠b5:=fun e=>by rw[e,k3.get e5] at f6;cases f6
   refine wbMW (n:=8) (Vg.more k04) hb6 e6 rfl fun g5 V5 y6 o6=>?_
   have X0d:∀x,X x→g0 x≠none:=by
     rintro x (rfl|rfl|⟨q,hq,rfl⟩)
     · rw[Lg];simp
     · rw[Bg];simp
     · exact Rg.there (k:=1) spc2 hq (by simp;omega)
   have K5:∀x,g0 x≠none→g5 x=g0 x:=fun x hx=>by
     rw[o6 x fun e=>hx (e▸(k02'.trans k3).free f6),k04 x hx]
   have M5:=Mg.move fun x hx=>K5 x (Mg.dom hx)
   have L5:=(K5 lb (X0d lb (.inl rfl))).trans Lg
   have B5:=(K5 b1 (X0d b1 (.inr (.inl rfl)))).trans Bg
   have Rd5:RdM spc g5 sp ((List.range P.m).map (spt P f fr)):=Rg.move fun q hq hl=>K5 _ (X0d _ (.inr (.inr ⟨q,hq,rfl⟩)))
   have y5:g5 b5=some (.cells (SV.cells (.ws 12 cel0)).toArray 56 (0,0)):=by
     rw[o6 _ (Ne.symm n65),(k3.trans k6).get e5,cells_cel0];rfl
   have n5X:¬X b5:=fun z=>X0d b5 z (lk1.free f5)
   have n5M:¬MF m es2 b5:=Mg.out (lk1.free f5)
   have fin:∀(g7:Hp) (c:Cel),Mv A h (fun x=>MF m es2 x∨X x) g7→MemR T m (R2 i) (ev++fillEv f (spotsL P.k P.s P.t f fr) i) es2 g7→g7 lb=some (.cells (lvc P m.b f ov mp) Tl (0,0))→g7 b1=some (.cells (SV.cells (.ws 8 (seek bi (spotC P fr M0) P.m).1)).toArray 100 (0,0))→RdM spc g7 sp ((List.range P.m).map (spt P f fr))→g7 b5=some (.cells (SV.cells (.ws 12 c)).toArray 56 (0,0))→c=tab0 P fr bi M0 cn i →
       ∃o2:Option Pt,hcell g7 lb (0+3)=some (vpn o2)∧∃n13,hcell g7 lb (0+4)=some (.int .i64 n13)∧∃c2:Cel,rdW g7 b5 0 c2∧callK prog 95 [vpn o2,.int .i64 (w64 (n13+2)),.int .i64 i,wv c2] g7 fun v4 h11=>v4= .tuple #[]∧∃k3,k3<2 ^ P.E-i∧((⟨lb,0⟩:Pt)=⟨lb,0⟩∧bi=bi∧(fr:Int)=fr∧(to:Int)=to∧v=v∧(⟨b1,0⟩:Pt)=⟨b1,0⟩∧(seek bi (spotC P fr M0) P.m).2=(seek bi (spotC P fr M0) P.m).2∧sp=sp∧∃(i':Nat) (es':Sl),w64 ((i:Int)+1)=i'∧P.m≤i'∧i'≤2 ^ P.E∧k3=2 ^ P.E-i'∧St (R2 i') (ev++fillEv f (spotsL P.k P.s P.t f fr) i') es' (seek bi (spotC P fr M0) P.m).1 h11):=by
     rintro g7 c V7 M7 L7 B7 Rd7 E7 rfl
     refine⟨some ⟨m.b,0⟩,rd1 L7 rfl,_,rd1 L7 rfl,_,wb_rd E7,?_⟩
     rw[ew]
     have X7d:∀x,X x→g7 x≠none:=by
       rintro x (rfl|rfl|⟨q,hq,rfl⟩)
       · rw[L7];simp
       · rw[B7];simp
       · exact Rd7.there (k:=1) spc2 hq (by simp;omega)
     refine(mem_write M7 hnr (show i<m.rn (f+2) by omega) _ (by simp only[List.length_append];omega)).mono ?_
     rintro _ g8 ⟨es8,rfl,M8,v8⟩
     obtain⟨s8,X8⟩:=mv_apart v8 X7d Xg
     rw[R2s] at M8
     refine⟨rfl,2 ^ P.E-(i+1),by omega,rfl,rfl,rfl,rfl,rfl,rfl,rfl,rfl,i+1,es8,w64_id (by omega) (by omega),by omega,by omega,rfl,?_,V7.trans (mv_both1 v8),X8,(s8 lb (.inl rfl)).trans L7,(s8 b1 (.inr (.inl rfl))).trans B7,Rd7.move fun q hq _=>s8 _ (.inr (.inr ⟨q,hq,rfl⟩))⟩
     rw[fillEv_succ,if_neg (by rw[spots_at o];simp;omega),List.nil_append,ew2,←List.append_assoc]
     exact M8
   refine ifB_intro (fun hk=>?_) fun hk=>?_
   · obtain⟨d,hd⟩:=Option.isSome_iff_exists.1 hk
     have hdd:=hd' d hd
     subst hdd
     refine ifB_intro (fun hm=>?_) fun hm=>?_
     · have him:i=P.m:=by
         have:(i:Int)=(sp.len:Int):=of_decide_eq_true hm
         omega
       refine⟨_,wb_rd y6,?_⟩
       refine(level_block bi (show to<2 ^ 63 by have:2 ^ P.k≤2 ^ 10:=Nat.pow_le_pow_right (by decide) hpw;omega) d').to fun g6 k7=>⟨_,rfl,?_⟩
       refine wbMW (n:=12) (V5.more k7) hb5 (k7.get y5) (by simp[SV.cells]) fun g7 V7 e7 o7=>?_
       have K7:∀x,g5 x≠none→x≠b5→g7 x=g5 x:=fun x h1 h2=>(o7 x h2).trans (k7 x h1)
       refine fin g7 _ V7 (M5.move fun x hx=>K7 x (M5.dom hx) fun e=>n5M (e▸hx)) ((K7 lb (by rw[L5];simp) fun e=>n5X (.inl e.symm)).trans L5) ((K7 b1 (by rw[B5];simp) fun e=>n5X (.inr (.inl e.symm))).trans B5) (Rd5.move fun q hq hl=>K7 _ (Rd5.there (k:=1) spc2 hq hl) fun e=>n5X (.inr (.inr ⟨q,hq,e.symm⟩))) e7 ?_
       unfold tab0;rw[if_neg (by omega),if_pos him,←hcn,hd];rfl
     · have him:¬i=P.m:=fun e=>of_decide_eq_false hm (by omega)
       refine fin g5 _ V5 M5 L5 B5 Rd5 y5 ?_
       unfold tab0;rw[if_neg (by omega),if_neg him]
   · have hnone:op.now (seek bi (spotC P fr M0) P.m).1 (seek bi (spotC P fr M0) P.m).2=none:=by
       cases e:op.now (seek bi (spotC P fr M0) P.m).1 (seek bi (spotC P fr M0) P.m).2 with
       | none=>rfl
       | some d=>rw[e] at hk;cases hk
     refine fin g5 _ V5 M5 L5 B5 Rd5 y5 ?_
     unfold tab0;rw[if_neg (by omega)]
     split
     · rw[←hcn,hnone];rfl
     · rfl
 have hi:i=2 ^ P.E:=by omega
 subst hi
 have Mt:MemR T m (putRow R (f+2) (levT P op bi fr to M0)) _ _ g1:=(MemR.row_all (f:=levT P op bi fr to M0) (g:=R (f+2)) (by subst hcn;exact Mg) (by omega)).keep lk1
 refine(level_deal o Mt L.tbl (lk1.get Lg) (Xg lb (.inl rfl)) (by omega) hnr hr2 hfr (by rw[putRow_get];exact levT_wf o wm hfr hto hid) (by simp only[List.length_append];omega)).mono ?_
 rintro _ g3 ⟨es3,rfl,M3,L3,n3,v3⟩
 rw[putRow_put,putRow_get] at M3
 rw[putRow_get] at L3
 let T4:=tab4 P fr (levT P op bi fr to M0)
 let W:Nat→Regs:=fun k=>lput f R (wback P fr T4 (tabR P T4 M0) k)
 have M3:MemR T m (W 0) _ es3 g3:=M3.congr fun r hr j hj=>by
   show(if f≤r∧r<f+3 then (if r-f=2∧j<2 ^ P.E then T4 j else M0 (r-f) j) else R r j)=if r=f+2 then T4 j else R r j
   by_cases c1:r=f+2
   · subst c1
     rw[if_pos (by omega),if_pos rfl,if_pos (by omega)]
   · rw[if_neg c1]
     by_cases c2:f≤r∧r<f+3
     · rw[if_pos c2,if_neg (by omega),←hM0]
       show R (f+(r-f)) j=_
       rw[show f+(r-f)=r by omega]
     · rw[if_neg c2]
 have W2:∀k i,i<2 ^ P.E→W k (f+2) i=T4 i:=fun k i hi=>by
   show(if f≤f+2∧f+2<f+3 then wback P fr T4 (tabR P T4 M0) k (f+2-f) i else R (f+2) i)=_
   rw[if_pos (by omega),show f+2-f=2 by omega,wback_out k fun p hp e=>?_]
   · show(if 2=2∧i<2 ^ P.E then T4 i else M0 2 i)=_
     rw[if_pos ⟨rfl,hi⟩]
   · unfold spot at e;split at e<;>simp at e
 have Ws:∀k,k<P.m→set2 (W k) (f+(spot P fr k).1,(spot P fr k).2) ((T4 k).set 11 0)=W (k+1):=fun k hk=>by
   have s2:=(spot_rn L o hfr hk).2.2
   funext r j
   show(if r=f+(spot P fr k).1∧j=(spot P fr k).2 then _ else if f≤r∧r<f+3 then wback P fr T4 (tabR P T4 M0) k (r-f) j else R r j)=if f≤r∧r<f+3 then (if r-f=(spot P fr k).1∧j=(spot P fr k).2 then (T4 k).set 11 0 else wback P fr T4 (tabR P T4 M0) k (r-f) j) else R r j
   by_cases c1:f≤r∧r<f+3
   · rw[if_pos c1,if_pos c1]
     by_cases c2:r=f+(spot P fr k).1∧j=(spot P fr k).2
     · rw[if_pos c2,if_pos ⟨by omega,c2.2⟩]
     · rw[if_neg c2,if_neg fun h=>c2 ⟨by omega,h.2⟩]
   · rw[if_neg c1,if_neg c1,if_neg (by omega)]
 have X1d:∀x,X x→g1 x≠none:=by
   rintro x (rfl|rfl|⟨q,hq,rfl⟩)
   · rw[lk1.get Lg];simp
   · rw[lk1.get Bg];simp
   · exact(Rg.keep (k:=1) spc2 lk1).there (k:=1) spc2 hq (by simp;omega)
 have Y:∀x,X x→x≠lb→g3 x=g1 x∧¬MF m es3 x:=fun x z hx =>
   ⟨v3.2.1 x (X1d x z) fun h=>h.elim (Xg x z) hx,fun hm=>(v3.out (X1d x z) fun h=>h.elim (Xg x z) hx) (.inl hm)⟩
 have V3:Mv A h (fun x=>MF m es3 x∨X x) g3:=(((Vg.more lk1).to (C:=fun x=>(MF m es2 x∨x=lb)∨X x) fun x hx=>by
     rcases hx with (hx|rfl)|z
     · exact .inl (.inl hx)
     · exact .inl (.inr (.inl rfl))
     · exact .inl (.inr z)).trans (mv_both1 v3)).to fun x hx=>by
   rcases hx with hx|z
   · exact .inl (.inl (.inl hx))
   · exact .inl (.inr z)
 have X3:∀x,X x→¬MF m es3 x:=fun x z=>by
   by_cases c:x=lb
   · rw[c];exact n3
   · exact(Y x z c).2
 have B3:=(Y b1 (.inr (.inl rfl)) nb1l).1.trans (lk1.get Bg)
 have Rd3:RdM spc g3 sp ((List.range P.m).map (spt P f fr)):=(Rg.keep (k:=1) spc2 lk1).move fun q hq hl=>(Y q.b (.inr (.inr ⟨q,hq,rfl⟩)) (nspb q hq).2).1
 clear M2 St0
 generalize hov:(ov||tlost P fr (levT P op bi fr to M0))=ov3 at L3
 generalize hev:ev++fillEv f (spotsL P.k P.s P.t f fr) (2 ^ P.E)++(turnEv f P.E++turnEv f P.E)=ev3 at M3
 have ev3l:ev3.length<1000010000000:=by
   rw[←hev];simp only[List.length_append];omega
 have hbe:∀n,(backEv f (spotsL P.k P.s P.t f fr) n).length=2*n:=fun n=>backEv_length _ _ _
 refine⟨rfl,fun q6 q7 t4 s5 n26 n27 g kk=>q6=⟨lb,0⟩∧q7=⟨b1,0⟩∧t4=(seek bi (spotC P fr M0) P.m).2∧sp=s5∧n26=(P.m:Nat)∧∃(i:Nat) (es':Sl),n27=i∧i≤P.m∧kk=P.m-i∧MemR T m (W i) (ev3++backEv f (spotsL P.k P.s P.t f fr) i) es' g∧Mv A h (fun x=>MF m es' x∨X x) g∧(∀x,X x→¬MF m es' x)∧g lb=some (.cells (lvc P m.b f ov3 mp) Tl (0,0))∧g b1=some (.cells (SV.cells (.ws 8 (seek bi (spotC P fr M0) P.m).1)).toArray 100 (0,0))∧RdM spc g sp ((List.range P.m).map (spt P f fr)),
   ⟨P.m,rfl,rfl,rfl,rfl,by rw[spl],0,es3,rfl,by omega,rfl,by simpa [backEv] using M3,V3,X3,L3,B3,Rd3⟩,?_⟩
 clear M3 V3 X3 L3 B3 Rd3 Mg Vg Xg Lg Bg Rg Mt n3 v3 Y X1d
 rintro q6 q7 t4 s5 n26 n27 g kk ⟨rfl,rfl,rfl,rfl,rfl,i,es4,rfl,hi,rfl,Mg,Vg,Xg,Lg,Bg,Rg⟩
 have hbi:=hbe i
 refine ifD (fun hlt=>?_) fun hge=>?_
 · have hi':i<P.m:=by omega
   obtain⟨rn1,rn2,rn3⟩:=spot_rn L o hfr hi'
   refine Rg.ix spc2 (i:=i) (by simp;omega) fun q hq hrd=>?_
   have e:((List.range P.m).map (spt P f fr))[i]'(by simp;omega)=spt P f fr i:=by simp
   rw[e] at hrd
   obtain⟨c1,c2,_⟩:=hrd
   rw[show(i:Int).toNat=i by omega]
   refine⟨_,c1,_,c2,newC fun b7 h1' f7 e7 k7=>?_⟩
   have hb7:h b7=none:=Vg.2.2 _ f7
   refine stMW (Vg.more k7) hb7 e7 (by simp) fun h2' V2' y7 o7=>?_
   have K2:∀x,g x≠none→h2' x=g x:=fun x hx=>by rw[o7 x fun e=>hx (e▸f7),k7 x hx]
   have X0d:∀x,X x→g x≠none:=by
     rintro x (rfl|rfl|⟨q,hq,rfl⟩)
     · rw[Lg];simp
     · rw[Bg];simp
     · exact Rg.there (k:=1) spc2 hq (by simp;omega)
   have M2:=Mg.move fun x hx=>K2 x (Mg.dom hx)
   have L2:=(K2 lb (X0d lb (.inl rfl))).trans Lg
   refine⟨some ⟨m.b,0⟩,rd1 L2 rfl,_,rd1 L2 rfl,?_⟩
   rw[ew]
   refine(mem_read M2 hnr (show i<m.rn (f+2) by omega) (by simp only[List.length_append];omega)).mono ?_
   rintro _ h3' ⟨es5,rfl,M5,v5⟩
   obtain⟨s5,X5⟩:=mv_apart v5 (fun x z=>by rw[K2 x (X0d x z)];exact X0d x z) Xg
   rw[W2 i i (by omega)]
   have n7M:¬MF m es4 b7:=Mg.out f7
   have y75:=v5.get y7 n7M
   have n75:=v5.out (by rw[y7];simp) n7M
   refine⟨_,rfl,newC fun b8 h4' f8 e8 k8=>?_⟩
   have V5:=V2'.trans (mv_both1 v5)
   have hb8:h b8=none:=V5.2.2 _ f8
   refine wbMW (n:=12) (V5.more k8) hb8 e8 rfl fun h5' V6 y8 o8=>⟨Int.NonNeg.mk 11,Int.NonNeg.mk 0,?_⟩
   refine wbMS V6 hb8 y8 (i:=11) (by decide) fun h6' V7 z8 p8=>?_
   have K6:∀x,h3' x≠none→h6' x=h3' x:=fun x hx=>by
     have hx8:x≠b8:=fun e=>hx (e▸f8)
     rw[p8 x hx8,o8 x hx8,k8 x hx]
   have X3d:∀x,X x→h3' x≠none:=fun x z=>by rw[s5 x z,K2 x (X0d x z)];exact X0d x z
   have M6:=M5.move fun x hx=>K6 x (M5.dom hx)
   have T6:∀x,X x→h6' x=g x:=fun x z=>by rw[K6 x (X3d x z),s5 x z,K2 x (X0d x z)]
   have L6:=(T6 lb (.inl rfl)).trans Lg
   have y76:=(K6 b7 (by rw[y75];simp)).trans y75
   refine⟨some ⟨m.b,0⟩,rd1 L6 rfl,_,rd1 y76 rfl,_,rd1 y76 rfl,_,wb_rd z8,?_⟩
   refine(mem_write M6 rn1 rn2 _ (by simp only[List.length_append,List.length_singleton];omega)).mono ?_
   rintro _ h7' ⟨es7,rfl,M7,v7⟩
   obtain⟨s7,X7⟩:=mv_apart v7 (fun x z=>by rw[T6 x z];exact X0d x z) X5
   rw[Ws i hi'] at M7
   refine⟨rfl,P.m-(i+1),by omega,rfl,rfl,rfl,rfl,rfl,i+1,es7,w64_id (by omega) (by omega),by omega,rfl,?_,V7.trans (mv_both1 v7),X7,(s7 lb (.inl rfl)).trans L6,((s7 b1 (.inr (.inl rfl))).trans (T6 b1 (.inr (.inl rfl)))).trans Bg,Rg.move fun q hq _=>(s7 _ (.inr (.inr ⟨q,hq,rfl⟩))).trans (T6 _ (.inr (.inr ⟨q,hq,rfl⟩)))⟩
   have e9:(spotsL P.k P.s P.t f fr).getD i ⟨0,0⟩=spt P f fr i:=by rw[spots_at o];simp[List.getD,hi']
   rw[backEv_succ,e9,show ∀(a b:List Ev) (x y:Ev),a++(b++[x,y])=a++b++[x]++[y] by simp,ew2]
   exact M7
 · have hi:i=P.m:=by omega
   subst hi
   refine⟨_,wb_rd Bg,?_⟩
   refine wbMW (n:=8) Vg f1 Bg (by simp[SV.cells]) fun h8 V8 e8 o8=>⟨_,wb_rd e8,es4,rfl,?_,?_,Xg lb (.inl rfl),V8.to fun x hx=>?_⟩
   · have e9:ev3++backEv f (spotsL P.k P.s P.t f fr) P.m=ev++levEv P.k P.s P.t f fr:=by
       have hsl:(spotsL P.k P.s P.t f fr).length=P.m:=by rw[spots_at o];simp
       unfold levEv
       rw[←L.E,hsl,←hev];simp
     rw[←e9]
     exact Mg.move fun x hx=>o8 x fun e=>Xg b1 (.inr (.inl rfl)) (e▸hx)
   · rw[o8 _ (Ne.symm nb1l),Lg,←hov];rfl
   · rcases hx with hx|rfl
     · exact .inl (.inl hx)
     · exact .inl (.inr (.inl rfl))
end
end Go.Proofs.Tryz
namespace Go.Proofs.Tryz
open Go Go.Sh Go.RowKit
set_option maxRecDepth 8000
def MapI (h:Hp) (b:Nat) (ids:List UInt64):Prop:=∃(l:List (UInt64×Value×Nat)) (clock:Nat),h b=some (.map (l.map ment).toArray clock)∧l.map (·.1)=ids
theorem MapI.move {h h':Hp} {b:Nat} {ids:List UInt64} (m:MapI h b ids) (e:h' b=h b):MapI h' b ids:=by
 obtain⟨l,c,h1,h2⟩:=m;exact⟨l,c,by rw[e,h1],h2⟩
theorem MapI.dom {h:Hp} {b:Nat} {ids:List UInt64} (m:MapI h b ids):h b≠none:=by
 obtain⟨l,c,h1,_⟩:=m;rw[h1];simp
theorem modify_keys {v:Value} (k:UInt64):∀(l:List (UInt64×Value×Nat)) (i:Nat),(∀h:i<l.length,l[i].1=k)→(l.modify i fun e=>(k,v,e.2.2)).map (·.1)=l.map (·.1)
 | [],i,_=>by cases i<;>rfl
 | e::l,0,h=>by
   have:=h (by simp)
   simp at this
   simp[List.modify,this]
 | e::l,i+1,h=>by
   have ih:=modify_keys (v:=v) k l i fun hi=>by have:=h (by simpa using hi);simpa using this
   simp only[List.modify_succ_cons,List.map_cons,ih]
theorem mup_ids {h:Hp} {b:Nat} {ids:List UInt64} {k:UInt64} {v:Value} {K:Hp→Prop} (m:MapI h b ids) (hk:∀h',MapI h' b (if k∈ids then ids else ids++[k])→(∀x,x≠b→h' x=h x)→K h'):mupK h (some b) k v K:=by
 obtain⟨l,c,h1,h2⟩:=m
 refine⟨b,l,c,rfl,h1,hk _ ?_ fun x hx=>upd_ne _ _ hx⟩
 unfold mput
 cases hf:l.findIdx? (fun e=>e.1==k) with
 | some i =>
   rw[List.findIdx?_eq_some_iff_getElem] at hf
   obtain⟨hi,he,_⟩:=hf
   have he:l[i].1=k:=by simpa using he
   have hm:k∈ids:=by rw[←h2,←he];exact List.mem_map.2 ⟨_,List.getElem_mem hi,rfl⟩
   rw[if_pos hm]
   refine⟨l.modify i fun e=>(k,v,e.2.2),c,upd_same _ _ _,?_⟩
   rw[modify_keys k l i fun _=>he,h2]
 | none =>
   rw[List.findIdx?_eq_none_iff] at hf
   have hm:¬k∈ids:=by
     rw[←h2];intro hx
     obtain⟨e,he,rfl⟩:=List.mem_map.1 hx
     have:=hf e he;simp at this
   rw[if_neg hm]
   exact⟨l++[(k,v,c)],c+1,upd_same _ _ _,by rw[List.map_append,h2];rfl⟩
def opIs:LOp→Int→Int→Dat→Prop
 | .look,k,_,_=>k=0
 | .put d',k,_,d=>k=1∧d'=d
 | .part a x y,k,at_,d=>k=2∧at_=a∧a≤6∧x=d[0]∧y=d[1]
 | .drop,k,_,_=>k=3
theorem hwr_2 {n:Nat} (c:Vector UInt64 n) {i:Nat} (hi:i+1<n) (x y:UInt64):hwr (SV.cells (.ws n c)).toArray i [vu x,vu y]=(SV.cells (.ws n ((c.setIfInBounds i x).setIfInBounds (i+1) y))).toArray:=by
 have e1:hwr (SV.cells (.ws n c)).toArray i [vu x,vu y]=hwr (hwr (SV.cells (.ws n c)).toArray i [vu x]) (i+1) [vu y]:=rfl
 rw[e1,wb_hwr c (by omega),wb_hwr _ hi]
 congr 2
 have:(c.set i x).set (i+1) y=(c.setIfInBounds i x).setIfInBounds (i+1) y:=by
   apply Vector.ext;intro j hj
   simp[Vector.getElem_set,Vector.getElem_setIfInBounds]
 rw[this]
theorem op_value {op:LOp} {k at_:Int} {d:Dat} (hop:opIs op k at_ d) {h0:Hp} {b2 b3 b4:Nat} {t2 t3 t4:TypeId} (e2:h0 b2=some (.cells #[.int .i64 k] t2 (0,0))) (e3:h0 b3=some (.cells #[.int .i64 at_] t3 (0,0))) (e4:h0 b4=some (.cells (SV.cells (.ws 8 d)).toArray t4 (0,0))) :
   OpV (fun x=>x=b2∨x=b3∨x=b4) h0 (.func (.func 118) #[] #[vp ⟨b2,0⟩,vp ⟨b4,0⟩,vp ⟨b3,0⟩]) op:=by
 intro g hg old there
 have g2:=(hg b2 (.inl rfl)).trans e2
 have g3:=(hg b3 (.inr (.inl rfl))).trans e3
 have g4:=(hg b4 (.inr (.inr rfl))).trans e4
 refine⟨rfl,?_⟩
 refine c118 _ _ _ _ _ ?_
 unfold G118
 refine newC fun x1 h1 f1 y1 k1=>newC fun x2 h2 f2 y2 k2=>?_
 have k02:=k1.trans k2
 have n21:x2≠x1:=fun e=>by rw[e,y1] at f2;cases f2
 have f20:=k1.free f2
 have y1':=k2.get y1
 have hr:=wb_rd (k02.get g4)
 refine⟨_,rd1 (k02.get g2) rfl,?_⟩
 cases op with
 | look =>
   have hk:k=0:=hop
   subst hk
   refine ifB_neg rfl (ifB_neg rfl ⟨_,wb_rd y1',ifB_intro (fun ht=>?_) fun ht=>?_⟩)
   · refine⟨_,rd1 (k02.get g2) rfl,wbW (n:=8) k02 f20 y2 rfl fun h3 k3 y3 _=>⟨⟨rd1 (k3.get g2) rfl,trivial⟩,_,wb_rd y3,⟨old,?_,?_⟩,k3⟩⟩
     · rw[ht];rfl
     · intro x hx;rw[ht] at hx;exact Option.some.inj hx
   · refine wbW (n:=8) k02 f20 y2 rfl fun h3 k3 y3 _=>⟨_,wb_rd y3,⟨old,?_,?_⟩,k3⟩
     · rw[ht];rfl
     · intro x hx;rw[ht] at hx;cases hx
 | put d' =>
   obtain⟨rfl,rfl⟩:=hop
   refine ifB_pos rfl ⟨_,hr,wbW (n:=8) k02 f20 y2 rfl fun h3 k3 y3 _=>⟨_,wb_rd y3,⟨_,rfl,?_⟩,k3⟩⟩
   intro x hx;exact Option.some.inj hx
 | drop =>
   have hk:k=3:=hop
   subst hk
   refine ifB_neg rfl (ifB_neg rfl ⟨_,wb_rd y1',ifB_intro (fun ht=>?_) fun ht=>?_⟩)
   · refine⟨_,rd1 (k02.get g2) rfl,wbW (n:=8) k02 f20 y2 rfl fun h3 k3 y3 _=>⟨⟨rd1 (k3.get g2) rfl,trivial⟩,_,wb_rd y3,⟨_,rfl,?_⟩,k3⟩⟩
     intro x hx;cases hx
   · refine wbW (n:=8) k02 f20 y2 rfl fun h3 k3 y3 _=>⟨_,wb_rd y3,⟨_,rfl,?_⟩,k3⟩
     intro x hx;cases hx
 | part a x y =>
   obtain⟨rfl,rfl,ha,rfl,rfl⟩:=hop
   refine ifB_neg rfl (ifB_pos rfl ⟨_,rd1 (k02.get g3) rfl,by omega,by omega,Int.NonNeg.mk 2,Int.NonNeg.mk 6,?_⟩)
   have ry:RdS vu h2 ⟨slPt (some ⟨b4,0⟩) 0 8 1,2,8,none⟩ [d[0],d[1]]:=by
     refine⟨rfl,(show(2:Nat)≤8 by decide),(by intro h;cases h),fun q hq j hj=>?_⟩
     cases hq
     have hj':j=0∨j=1:=by simp at hj;omega
     rcases hj' with rfl|rfl
     · exact wb_get (k02.get g4) (i:=0) (by decide)
     · exact wb_get (k02.get g4) (i:=1) (by decide)
   have ea:Int.toNat (a:Int)=a:=by omega
   rw[ea]
   refine cpyU ry (q:=⟨x1,a⟩) ?_ (c:=2) ?_ ?_
   · show Sl.q ⟨slPt (some ⟨x1,0⟩) a 8 1,8-a,8-a,none⟩=_
     unfold slPt Sl.q;rw[if_neg (by omega)];simp
   · show 2=min 2 (8-a);omega
   · refine stN k02 f1 y1' (by simp[SV.cells];omega) fun h3 k3 y3 o3=>?_
     have y3':h3 x1=some (.cells (SV.cells (.ws 8 ((old.setIfInBounds a d[0]).setIfInBounds (a+1) d[1]))).toArray 100 (0,0)):=by
       rw[y3,←hwr_2 old (by omega)];rfl
     refine⟨_,wb_rd y3',wbW (n:=8) k3 f20 ((o3 _ n21).trans y2) rfl fun h4 k4 y4 _=>⟨_,wb_rd y4,⟨_,rfl,?_⟩,k4⟩⟩
     intro x hx;exact Option.some.inj hx
end Go.Proofs.Tryz
namespace Go.Proofs.Tryz
open Go Go.Sh Go.RowKit
set_option maxRecDepth 8000
theorem leaf_in {h:Hp} {b1 lb k:Nat} (e1:hcell h b1 0=some (vp ⟨lb,0⟩)) (el:hcell h lb 0=some (.int .i64 (2 ^ k))) {x:Nat} (hx:x<2 ^ k) {K:Value→Hp→Prop} (hk:K (.bool false) h) :
   callK prog 116 [.int .i64 x,vp ⟨b1,0⟩] h K:=by
 refine c116 _ _ ?_
 unfold G116
 have h2:((2 ^ k:Nat):Int)=2 ^ k:=by simp
 refine ifB_neg (decide_eq_false (by omega)) ⟨some ⟨lb,0⟩,e1,_,rfl,_,el,?_⟩
 have:(bif false then true else decide ((2:Int) ^ k≤(x:Int)))=false:=decide_eq_false (by omega)
 rw[this];exact hk
section
variable {T:TypeId} {m:MS} {R:Regs} {ev:List Ev} {es:Sl} {h:Hp}
theorem level_Access {P:LP} {f:Nat} (o:P.Ok) (L:LvM m P f) (M:MemR T m R ev es h) {Tl:TypeId} {lb mp:Nat} {ov:Bool} {ids:List UInt64} (hlb:h lb=some (.cells (lvc P m.b f ov mp) Tl (0,0))) (hmp:MapI h mp ids) (nlb:¬MF m es lb) (nmp:¬MF m es mp)
   {fr to:Nat} (hfr:fr<2 ^ P.k) (hto:to<2 ^ P.k) {bi:UInt64} (hid:bi.toNat≤2147483648) (wm:WM P (lview f R)) {op:LOp} {k at_:Int} {d:Dat} (hop:opIs op k at_ d) (hl:ev.length<1000000000000) :
   callK prog 89 [vp ⟨lb,0⟩,.int .i64 k,vu bi,.int .i64 at_,wv d,.int .i64 fr,.int .i64 to] h fun r h'=>∃es',r= .tuple #[wv (levOld P bi fr (lview f R)).1,.bool (levOld P bi fr (lview f R)).2]∧MemR T m (lput f R (levM P op bi fr to (lview f R))) (ev++levEv P.k P.s P.t f fr) es' h' ∧
     h' lb=some (.cells (lvc P m.b f (ov||levLost P op bi fr to (lview f R)) mp) Tl (0,0))∧MapI h' mp (meets op bi ids)∧¬MF m es' lb∧¬MF m es' mp∧Mv (fun x=>MF m es x∨x=lb∨x=mp) h (fun x=>MF m es' x∨x=lb∨x=mp) h':=by
 have nml:mp≠lb:=fun e=>by obtain⟨l,c,h1,_⟩:=hmp;rw[e,hlb] at h1;cases h1
 have hk:(k=0∧∀l,meets op bi l=l)∨(k=1∧∀l,meets op bi l=if bi∈l then l else l++[bi])∨(k=2∧0≤at_∧at_≤6∧∀l,meets op bi l=if bi∈l then l else l++[bi])∨(k=3∧∀l,meets op bi l=l):=by
   cases op with
   | look=>exact .inl ⟨hop,fun _=>rfl⟩
   | put d'=>exact .inr (.inl ⟨hop.1,fun _=>rfl⟩)
   | part a x y=>exact .inr (.inr (.inl ⟨hop.1,by have:=hop.2.1;omega,by have:=hop.2.1;have:=hop.2.2.1;omega,fun _=>rfl⟩))
   | drop=>exact .inr (.inr (.inr ⟨hop,fun _=>rfl⟩))
 refine c89 _ _ _ _ _ _ _ ?_
 unfold G89
 refine newC fun b1 h1 f1 e1 k1=>newC fun b2 h2 f2 e2 k2=>newC fun b3 h3 f3 e3 k3=>newC fun b4 h4 f4 e4 k4=>newC fun b5 h5 f5 e5 k5=>?_
 have k15:=(k2.trans k3).trans (k4.trans k5)
 have k05:=k1.trans k15
 have g1:=k15.get e1
 have g2:=((k3.trans k4).trans k5).get e2
 have g3:=(k4.trans k5).get e3
 have g4:=k5.get e4
 have gl:=k05.get hlb
 have f50:h b5=none:=k1.free (k2.free (k3.free (k4.free f5)))
 have f20:h b2=none:=k1.free f2
 have f30:h b3=none:=k1.free (k2.free f3)
 have f40:h b4=none:=k1.free (k2.free (k3.free f4))
 have M5:=M.keep k05
 have m5:MapI h5 mp ids:=hmp.move (k05 mp hmp.dom)
 have nfl:∀x,h x=none→x≠lb:=fun x hx e=>by rw[e,hlb] at hx;cases hx
 have nfm:∀x,h x=none→x≠mp:=fun x hx e=>hmp.dom (e▸hx)
 have nfM:∀x,h x=none→¬MF m es x:=fun x hx hm=>M.dom hm hx
 have n52:b5≠b2:=fun e=>by rw[e,((k3.trans k4)).get e2] at f5;cases f5
 have n53:b5≠b3:=fun e=>by rw[e,k4.get e3] at f5;cases f5
 have n54:b5≠b4:=fun e=>by rw[e,e4] at f5;cases f5
 have acc:∀(g:Hp) (ids':List UInt64),(∀x,x≠mp→g x=h5 x)→MapI g mp ids'→ids'=meets op bi ids →
     ∃o3:Option Pt,hcell g b1 0=some (vpn o3)∧callK prog 117 [vpn o3,vu bi,.int .i64 fr,.int .i64 to,.func (.func 118) #[] #[vp ⟨b2,0⟩,vp ⟨b4,0⟩,vp ⟨b3,0⟩]] g fun v3 h16=>∃c8:Dat,∃t3,v3= .tuple #[wv c8,.bool t3]∧storeK h16 ⟨b5,0⟩ (SV.cells (.ws 8 c8)) fun h17=>∃c9:Dat,rdW h17 b5 0 c9 ∧
      ∃es',Value.tuple #[wv c9,.bool t3]= .tuple #[wv (levOld P bi fr (lview f R)).1,.bool (levOld P bi fr (lview f R)).2]∧MemR T m (lput f R (levM P op bi fr to (lview f R))) (ev++levEv P.k P.s P.t f fr) es' h17 ∧
     h17 lb=some (.cells (lvc P m.b f (ov||levLost P op bi fr to (lview f R)) mp) Tl (0,0))∧MapI h17 mp (meets op bi ids)∧¬MF m es' lb∧¬MF m es' mp∧Mv (fun x=>MF m es x∨x=lb∨x=mp) h (fun x=>MF m es' x∨x=lb∨x=mp) h17:=by
   rintro g ids' hg mg rfl
   have q1:=(hg b1 (nfm _ f1)).trans g1
   have q2:=(hg b2 (nfm _ f20)).trans g2
   have q3:=(hg b3 (nfm _ f30)).trans g3
   have q4:=(hg b4 (nfm _ f40)).trans g4
   have q5:=(hg b5 (nfm _ f50)).trans e5
   have ql:=(hg lb (Ne.symm nml)).trans gl
   have Mg:MemR T m R ev es g:=M5.move fun x hx=>hg x fun e=>nmp (e▸hx)
   have V0:Mv (fun x=>MF m es x∨x=lb∨x=mp) h (fun x=>MF m es x∨x=lb∨x=mp) g:=by
     refine⟨fun x hx=> .inl hx,fun x hx hn=>?_,fun x hx=>?_⟩
     · rw[hg x fun e=>hn (.inr (.inr e)),k05 x hx]
     · by_cases e:x=mp
       · rw[e] at hx;exact absurd hx mg.dom
       · rw[hg x e] at hx;exact k05.free hx
   refine⟨some ⟨lb,0⟩,rd1 q1 rfl,?_⟩
   refine(level_acc o L Mg ql nlb hfr hto hid wm (op:=op) (G:=fun x=>x=b2∨x=b3∨x=b4) ?_ (op_value hop q2 q3 q4) hl).mono ?_
   · rintro x (rfl|rfl|rfl)
     · exact⟨by rw[q2];simp,nfM _ f20,nfl _ f20⟩
     · exact⟨by rw[q3];simp,nfM _ f30,nfl _ f30⟩
     · exact⟨by rw[q4];simp,nfM _ f40,nfl _ f40⟩
   rintro _ h16 ⟨es',rfl,M16,L16,n16,v16⟩
   have V16:Mv (fun x=>MF m es x∨x=lb∨x=mp) h (fun x=>MF m es' x∨x=lb∨x=mp) h16 :=
     ((V0.to (C:=fun x=>(MF m es x∨x=lb)∨x=mp) fun x hx=> .inl (hx.elim (fun h=>h.elim .inl fun h=> .inr (.inl h)) fun h=> .inr (.inr h))).trans (mv_both1 v16)).to fun x hx=> .inl (hx.elim (fun h=> .inl (.inl h)) fun h=>h.elim (fun h=> .inl (.inr h)) .inr)
   have nmA:¬(MF m es mp∨mp=lb):=fun h=>h.elim nmp nml
   have m16:MapI h16 mp (meets op bi ids):=mg.move (v16.2.1 mp mg.dom nmA)
   have nm16:¬MF m es' mp:=fun h=>v16.out mg.dom nmA (.inl h)
   have n5A:¬(MF m es b5∨b5=lb):=fun h=>h.elim (nfM _ f50) (nfl _ f50)
   have q516:=v16.get q5 n5A
   have n5M:¬MF m es' b5:=fun h=>v16.out (by rw[q5];simp) n5A (.inl h)
   refine⟨_,_,rfl,wbMW (n:=8) V16 f50 q516 rfl fun h17 V17 e17 o17=>⟨_,wb_rd e17,es',rfl,M16.move fun x hx=>o17 x fun e=>n5M (e▸hx),(o17 _ (Ne.symm (nfl _ f50))).trans L16,m16.move (o17 _ (Ne.symm (nfm _ f50))),n16,nm16,V17⟩⟩
 have hk03:0≤k∧k≤3:=by rcases hk with h|h|h|h<;>omega
 have hid':¬2147483648<bi:=fun h=>by have:=UInt64.lt_iff_toNat_lt.1 h;have e:(2147483648:UInt64).toNat=2147483648:=rfl;omega
 refine⟨_,rd1 g2 rfl,ifB_neg (decide_eq_false (by omega)) ⟨_,rd1 g2 rfl,ifB_neg (decide_eq_false (by omega)) (ifB_neg (decide_eq_false hid') ?_)⟩⟩
 refine leaf_in (rd1 g1 rfl) (rd1 gl rfl) hfr ⟨_,rfl,ifB_neg rfl ?_⟩
 refine leaf_in (rd1 g1 rfl) (rd1 gl rfl) hto ⟨_,rfl,ifB_neg rfl ?_⟩
 rcases hk with ⟨rfl,hm⟩|⟨rfl,hm⟩|⟨rfl,ha0,ha6,hm⟩|⟨rfl,hm⟩
 · refine⟨_,rd1 g2 rfl,ifB_neg rfl ⟨_,rd1 g2 rfl,ifB_neg rfl ⟨_,rd1 g2 rfl,ifB_neg rfl ?_⟩⟩⟩
   exact acc h5 ids (fun _ _=>rfl) m5 (hm ids).symm
 · refine⟨_,rd1 g2 rfl,ifB_neg rfl ⟨_,rd1 g2 rfl,ifB_pos rfl ⟨some ⟨lb,0⟩,rd1 g1 rfl,_,rfl,some mp,rd1 gl rfl,mup_ids m5 fun h15 m15 o15=>?_⟩⟩⟩
   exact acc h15 _ o15 m15 (hm ids).symm
 · refine⟨_,rd1 g2 rfl,ifB_pos rfl ⟨_,rd1 g3 rfl,ifB_neg (decide_eq_false (by omega)) ⟨_,rd1 g3 rfl,ifB_neg (decide_eq_false (by omega)) ⟨_,rd1 g2 rfl,ifB_neg rfl ⟨_,rd1 g2 rfl,ifB_pos rfl ⟨some ⟨lb,0⟩,rd1 g1 rfl,_,rfl,some mp,rd1 gl rfl,mup_ids m5 fun h15 m15 o15=>?_⟩⟩⟩⟩⟩⟩
   exact acc h15 _ o15 m15 (hm ids).symm
 · refine⟨_,rd1 g2 rfl,ifB_neg rfl ⟨_,rd1 g2 rfl,ifB_neg rfl ⟨_,rd1 g2 rfl,ifB_neg rfl ?_⟩⟩⟩
   exact acc h5 ids (fun _ _=>rfl) m5 (hm ids).symm
end
end Go.Proofs.Tryz

/- Chapter 11: a store as it lies in the heap; what its smaller functions come to. -/
import Derived.Test.YtofgadhgljjhgaaGreatBlk
import Derived.Test.YtofgadhgljjhgaaGreatMemT
import Derived.Test.YtofgadhgljjhgaaGreatPla
import Derived.Test.YtofgadhgljjhgaaGreatStoC
import Derived.Test.YtofgadhgljjhgaaGreatEvDa
namespace Go.Proofs.Tryz
open Go Go.Sh Go.RowKit
set_option maxRecDepth 8000
inductive Prt where
 | sb
 | tb
 | tw
 | lv
 | gs
 | lb (i:Nat)
 | mp (i:Nat)
 deriving DecidableEq
structure StB where
 sb:Nat
 tb:Nat
 tw:Nat
 lv:Sl
 lb:Nat→Nat
 mp:Nat→Nat
 Tl:Nat→TypeId
 TM:TypeId
 TS:TypeId
 TT:TypeId
 m:MS
def StB.At (B:StB) (L:Nat) (gs:Sl):Prt→Nat→Prop
 | .sb,x=>x=B.sb
 | .tb,x=>x=B.tb
 | .tw,x=>x=B.tw∧B.tw≠B.tb
 | .lv,x=>∃q,B.lv.q=some q∧x=q.b
 | .gs,x=>∃q,gs.q=some q∧x=q.b
 | .lb i,x=>i<L∧x=B.lb i
 | .mp i,x=>i<L∧x=B.mp i
def whc (x:Nat×Nat):List Value:=[.int .i64 x.1,.int .i64 x.2]
theorem whc_len (x:Nat×Nat):(whc x).length=2:=rfl
theorem whc_one (x:Nat×Nat):∀v∈whc x,v.oneCell'=true:=by simp[whc,Value.oneCell']
theorem rtWh:RowM prog 115 149 2 (.agg #[.int .i64 0,.int .i64 0]) 16:=⟨by kernel_rfl,by kernel_rfl,by kernel_rfl,by kernel_rfl,rfl⟩
abbrev sto9 (G:SP) (B:StB) (gs:Sl):Array Value:=#[.int .i64 (2 ^ G.m),.int .i64 G.s,.int .i64 G.t,.int .i64 G.L,vp ⟨B.m.b,0⟩,.int .i64 G.f,vp ⟨B.tb,0⟩,vs B.lv,vs gs]
structure StR (G:SP) (ws:List UInt64) (B:StB) (S:SSt) (ev:List Ev) (es gs:Sl) (h:Hp):Prop where
 top:h B.sb=some (.cells (sto9 G B gs) B.TS (0,0))
 mem:MemR B.TM B.m S.R ev es h
 tap:TapR B.TT B.tb B.tw ws S.used h
 tww:B.tw≠B.tb→h B.tw≠none
 lvs:RdS (fun b:Nat=>vp ⟨b,0⟩) h B.lv ((List.range G.L).map B.lb)
 lev:∀i,i<G.L→h (B.lb i)=some (.cells (lvc (G.lp i) B.m.b (G.base i) (S.over i) (B.mp i)) (B.Tl i) (0,0))
 map:∀i,i<G.L→MapI h (B.mp i) (S.ids i)
 gon:OwnM 2 whc E0 h gs S.gone
 dis:∀p p' x,B.At G.L gs p x→B.At G.L gs p' x→p=p'
 dM:∀p x,B.At G.L gs p x→¬MF B.m es x
structure StM (G:SP) (B:StB):Prop where
 lvm:∀i,i<G.L→LvM B.m (G.lp i) (G.base i)
 fnr:G.f<B.m.nr
 ftop:B.m.rn G.f=G.top
def SFo (G:SP) (B:StB) (es gs:Sl):Nat→Prop:=fun x=>MF B.m es x∨∃p,B.At G.L gs p x
theorem _root_.Go.Sh.SP.Ok.st {G:SP} (o:G.Ok):StOk G.m G.s G.t G.L:=⟨o.m,by have:=(o.lev 0).s;show 1≤(G.s:Int)∧(G.s:Int)≤8;have h1:(G.lp 0).s=G.s:=rfl;omega,by have:=(o.lev 0).t;have h1:(G.lp 0).t=G.t:=rfl;omega,o.L⟩
section
variable {G:SP} {ws:List UInt64} {B:StB} {S:SSt} {ev:List Ev} {es gs:Sl} {h h':Hp}
theorem StR.dom (R:StR G ws B S ev es gs h) (o:G.Ok) {p:Prt} {x:Nat} (hx:B.At G.L gs p x):h x≠none:=by
 cases p with
 | sb=>rw[show x=B.sb from hx,R.top];simp
 | tb=>rw[show x=B.tb from hx];exact R.tap.dom
 | tw=>rw[show x=B.tw from hx.1];exact R.tww hx.2
 | lv=>obtain⟨q,hq,rfl⟩:=hx;exact R.lvs.there hq (by have:=o.L;simp;omega)
 | gs=>obtain⟨q,hq,rfl⟩:=hx;exact(R.gon.blk hq).2
 | lb i=>rw[hx.2,R.lev i hx.1];simp
 | mp i=>rw[hx.2];exact(R.map i hx.1).dom
theorem StR.same (R:StR G ws B S ev es gs h) (hs:∀x,SFo G B es gs x→h' x=h x):StR G ws B S ev es gs h':=by
 have hp:∀p x,B.At G.L gs p x→h' x=h x:=fun p x hx=>hs x (.inr ⟨p,hx⟩)
 refine⟨by rw[hp .sb _ rfl];exact R.top,R.mem.move fun x hx=>hs x (.inl hx),R.tap.move (hp .tb _ rfl) (fun hne _=>hp .tw _ ⟨rfl,hne⟩),fun hne=>by rw[hp .tw _ ⟨rfl,hne⟩];exact R.tww hne,R.lvs.move fun q hq _=>hp .lv _ ⟨q,hq,rfl⟩,
   fun i hi=>by rw[hp (.lb i) _ ⟨hi,rfl⟩];exact R.lev i hi,fun i hi=>(R.map i hi).move (hp (.mp i) _ ⟨hi,rfl⟩),R.gon.move fun q hq=>hp .gs _ ⟨q,hq,rfl⟩,R.dis,R.dM⟩
theorem StR.fdom (R:StR G ws B S ev es gs h) (o:G.Ok) {x:Nat} (hx:SFo G B es gs x):h x≠none:=hx.elim R.mem.dom fun⟨_,hp⟩=>R.dom o hp
theorem StR.keep (R:StR G ws B S ev es gs h) (o:G.Ok) (k:Keep h h'):StR G ws B S ev es gs h':=R.same fun x hx=>k x (R.fdom o hx)
theorem StR.out (R:StR G ws B S ev es gs h) (o:G.Ok) {x:Nat} (hx:h x=none):¬SFo G B es gs x:=fun hf=>R.fdom o hf hx
theorem StR.memo (R:StR G ws B S ev es gs h) (o:G.Ok) {R':Regs} {ev':List Ev} {es':Sl} (M:MemR B.TM B.m R' ev' es' h') (v:Mv (MF B.m es) h (MF B.m es') h'):StR G ws B { S with R:=R' } ev' es' gs h'∧Mv (SFo G B es gs) h (SFo G B es' gs) h':=by
 have hp:∀p x,B.At G.L gs p x→h' x=h x:=fun p x hx=>v.2.1 x (R.dom o hx) (R.dM p x hx)
 refine⟨⟨by rw[hp .sb _ rfl];exact R.top,M,R.tap.move (hp .tb _ rfl) (fun hne _=>hp .tw _ ⟨rfl,hne⟩),fun hne=>by rw[hp .tw _ ⟨rfl,hne⟩];exact R.tww hne,R.lvs.move fun q hq _=>hp .lv _ ⟨q,hq,rfl⟩,
   fun i hi=>by rw[hp (.lb i) _ ⟨hi,rfl⟩];exact R.lev i hi,fun i hi=>(R.map i hi).move (hp (.mp i) _ ⟨hi,rfl⟩),R.gon.move fun q hq=>hp .gs _ ⟨q,hq,rfl⟩,R.dis,fun p x hx=>v.out (R.dom o hx) (R.dM p x hx)⟩,mv_both1 v⟩
theorem StR.tape (R:StR G ws B S ev es gs h) (o:G.Ok) {u:Nat} (t:TapR B.TT B.tb B.tw ws u h') (hs:∀x,h x≠none→x≠B.tb→h' x=h x):StR G ws B { S with used:=u } ev es gs h':=by
 have hp:∀p x,B.At G.L gs p x→p≠.tb→h' x=h x:=fun p x hx hne=>hs x (R.dom o hx) fun e=>hne (R.dis p .tb x hx e)
 exact⟨by rw[hp .sb _ rfl (by simp)];exact R.top,R.mem.move fun x hx=>hs x (R.mem.dom hx) fun e=>R.dM .tb x e hx,t,fun hne=>by rw[hp .tw _ ⟨rfl,hne⟩ (by simp)];exact R.tww hne,R.lvs.move fun q hq _=>hp .lv _ ⟨q,hq,rfl⟩ (by simp),
   fun i hi=>by rw[hp (.lb i) _ ⟨hi,rfl⟩ (by simp)];exact R.lev i hi,fun i hi=>(R.map i hi).move (hp (.mp i) _ ⟨hi,rfl⟩ (by simp)),R.gon.move fun q hq=>hp .gs _ ⟨q,hq,rfl⟩ (by simp),R.dis,R.dM⟩
theorem StR.levl (R:StR G ws B S ev es gs h) (o:G.Ok) {i:Nat} (hi:i<G.L) {R':Regs} {ev':List Ev} {es':Sl} {ov:Bool} {ids:List UInt64} (M:MemR B.TM B.m R' ev' es' h')
   (hl:h' (B.lb i)=some (.cells (lvc (G.lp i) B.m.b (G.base i) ov (B.mp i)) (B.Tl i) (0,0))) (hm:MapI h' (B.mp i) ids) (nl:¬MF B.m es' (B.lb i)) (nm:¬MF B.m es' (B.mp i))
   (v:Mv (fun x=>MF B.m es x∨x=B.lb i∨x=B.mp i) h (fun x=>MF B.m es' x∨x=B.lb i∨x=B.mp i) h') :
   StR G ws B { S with R:=R',over:=fun x=>if x=i then ov else S.over x,ids:=fun x=>if x=i then ids else S.ids x } ev' es' gs h'∧Mv (SFo G B es gs) h (SFo G B es' gs) h':=by
 have hn:∀p x,B.At G.L gs p x→p≠.lb i→p≠.mp i→¬(MF B.m es x∨x=B.lb i∨x=B.mp i):=fun p x hx h1 h2 h=>by
   rcases h with h|h|h
   · exact R.dM p x hx h
   · exact h1 (R.dis p (.lb i) x hx ⟨hi,h⟩)
   · exact h2 (R.dis p (.mp i) x hx ⟨hi,h⟩)
 have hp:∀p x,B.At G.L gs p x→p≠.lb i→p≠.mp i→h' x=h x:=fun p x hx h1 h2=>v.2.1 x (R.dom o hx) (hn p x hx h1 h2)
 refine⟨⟨by rw[hp .sb _ rfl (by simp) (by simp)];exact R.top,M,R.tap.move (hp .tb _ rfl (by simp) (by simp)) (fun hne _=>hp .tw _ ⟨rfl,hne⟩ (by simp) (by simp)),fun hne=>by rw[hp .tw _ ⟨rfl,hne⟩ (by simp) (by simp)];exact R.tww hne,
   R.lvs.move fun q hq _=>hp .lv _ ⟨q,hq,rfl⟩ (by simp) (by simp),fun j hj=>?_,fun j hj=>?_,R.gon.move fun q hq=>hp .gs _ ⟨q,hq,rfl⟩ (by simp) (by simp),R.dis,fun p x hx=>?_⟩,?_⟩
 · show h' (B.lb j)=some (.cells (lvc (G.lp j) B.m.b (G.base j) (if j=i then ov else S.over j) (B.mp j)) (B.Tl j) (0,0))
   by_cases c:j=i
   · subst c;rw[if_pos rfl];exact hl
   · rw[if_neg c,hp (.lb j) _ ⟨hj,rfl⟩ (by simpa using c) (by simp)];exact R.lev j hj
 · show MapI h' (B.mp j) (if j=i then ids else S.ids j)
   by_cases c:j=i
   · subst c;rw[if_pos rfl];exact hm
   · rw[if_neg c];exact(R.map j hj).move (hp (.mp j) _ ⟨hj,rfl⟩ (by simp) (by simpa using c))
 · by_cases c1:p= .lb i
   · subst c1;rw[hx.2];exact nl
   · by_cases c2:p= .mp i
     · subst c2;rw[hx.2];exact nm
     · exact fun h=>v.out (R.dom o hx) (hn p x hx c1 c2) (.inl h)
 · refine((Mv.refl (SFo G B es gs) h).to (C:=fun x=>(MF B.m es x∨x=B.lb i∨x=B.mp i)∨∃p,B.At G.L gs p x) fun x hx=> .inl ?_).trans (mv_both1 v) |>.to fun x hx=> .inl ?_
   · rcases hx with (h|h|h)|h
     · exact .inl h
     · exact .inr ⟨.lb i,hi,h⟩
     · exact .inr ⟨.mp i,hi,h⟩
     · exact .inr h
   · exact hx.elim (fun h=> .inl (.inl h)) .inr
end
end Go.Proofs.Tryz
namespace Go.Proofs.Tryz
open Go Go.Sh Go.RowKit
set_option maxRecDepth 8000
section
variable {G:SP} {ws:List UInt64} {B:StB} {S:SSt} {ev:List Ev} {es gs:Sl} {h h':Hp}
theorem StR.goes (R:StR G ws B S ev es gs h) (o:G.Ok) {gs':Sl} {l:List (Nat×Nat)} (ow:OwnM 2 whc E0 h' gs' l) (top:h' B.sb=some (.cells (sto9 G B gs') B.TS (0,0)))
   (off:∀b,h b≠none→(∀q,gs.q=some q→b≠q.b)→b≠B.sb→h' b=h b) (loc:∀q',gs'.q=some q'→(∃q,gs.q=some q∧q'.b=q.b)∨h q'.b=none) (fr:∀b,h' b=none→h b=none) :
   StR G ws B { S with gone:=l } ev es gs' h'∧Mv (SFo G B es gs) h (SFo G B es gs') h':=by
 have old:∀p x,B.At G.L gs' p x→p≠.gs→B.At G.L gs p x:=fun p x hx hne=>by cases p<;>first|exact hx|exact absurd rfl hne
 have new:∀p x,B.At G.L gs p x→p≠.gs→B.At G.L gs' p x:=fun p x hx hne=>by cases p<;>first|exact hx|exact absurd rfl hne
 have hp:∀p x,B.At G.L gs p x→p≠.gs→p≠.sb→h' x=h x:=fun p x hx h1 h2=>off x (R.dom o hx) (fun q hq e=>h1 (R.dis p .gs x hx ⟨q,hq,e⟩)) fun e=>h2 (R.dis p .sb x hx e)
 have gsf:∀x,B.At G.L gs' .gs x→B.At G.L gs .gs x∨h x=none:=by
   rintro x ⟨q,hq,rfl⟩
   rcases loc q hq with ⟨q0,h0,e⟩|hn
   · exact .inl ⟨q0,h0,e⟩
   · exact .inr hn
 refine⟨⟨top,R.mem.move fun x hx=>off x (R.mem.dom hx) (fun q hq e=>R.dM .gs x ⟨q,hq,e⟩ hx) fun e=>R.dM .sb x e hx,R.tap.move (hp .tb _ rfl (by simp) (by simp)) (fun hne _=>hp .tw _ ⟨rfl,hne⟩ (by simp) (by simp)),fun hne=>by rw[hp .tw _ ⟨rfl,hne⟩ (by simp) (by simp)];exact R.tww hne,
   R.lvs.move fun q hq _=>hp .lv _ ⟨q,hq,rfl⟩ (by simp) (by simp),fun i hi=>by rw[hp (.lb i) _ ⟨hi,rfl⟩ (by simp) (by simp)];exact R.lev i hi,fun i hi=>(R.map i hi).move (hp (.mp i) _ ⟨hi,rfl⟩ (by simp) (by simp)),ow,fun p p' x hx hx'=>?_,fun p x hx=>?_⟩,?_,?_,fr⟩
 · by_cases c:p= .gs
   · subst c
     by_cases c':p'= .gs
     · exact c'.symm
     · rcases gsf x hx with hg|hn
       · exact R.dis .gs p' x hg (old p' x hx' c')
       · exact absurd hn (R.dom o (old p' x hx' c'))
   · by_cases c':p'= .gs
     · subst c'
       rcases gsf x hx' with hg|hn
       · exact R.dis p .gs x (old p x hx c) hg
       · exact absurd hn (R.dom o (old p x hx c))
     · exact R.dis p p' x (old p x hx c) (old p' x hx' c')
 · by_cases c:p= .gs
   · subst c
     rcases gsf x hx with hg|hn
     · exact R.dM .gs x hg
     · exact fun hm=>R.mem.dom hm hn
   · exact R.dM p x (old p x hx c)
 · rintro x (hm|⟨p,hx⟩)
   · exact .inl (.inl hm)
   · by_cases c:p= .gs
     · subst c;exact(gsf x hx).imp (fun hg=> .inr ⟨.gs,hg⟩) id
     · exact .inl (.inr ⟨p,old p x hx c⟩)
 · intro x hx hn
   exact off x hx (fun q hq e=>hn (.inr ⟨.gs,q,hq,e⟩)) fun e=>hn (.inr ⟨.sb,e⟩)
theorem store_draw (o:G.Ok) (R:StR G ws B S ev es gs h) {i:Nat} (hi:i<4) (hu:S.used<2 ^ 62) :
   callK prog 82 [vp ⟨B.sb,0⟩,.int .i64 i] h fun v h'=>v= .agg #[.int .i64 (G.leaf (fun p=>ws.getD p 0) i S.used),.int .i64 S.used]∧StR G ws B { S with used:=S.used+1 } ev es gs h'∧Mv (SFo G B es gs) h (SFo G B es gs) h':=by
 have so:=o.st
 refine c82 _ _ ?_
 unfold G82
 refine newC fun b1 h1 f1 e1 k1=>⟨some ⟨B.tb,0⟩,k1.cell (rd1 R.top rfl),?_⟩
 have R1:=R.keep o k1
 refine(tape_next R1.tap hu).mono ?_
 rintro _ h2 ⟨rfl,t2,o2⟩
 have R2:=R1.tape o t2 fun x _ hx=>o2 x hx
 have v2:Mv (SFo G B es gs) h1 (SFo G B es gs) h2:=⟨fun x hx=> .inl hx,fun x hx hn=>o2 x fun e=>hn (.inr ⟨.tb,e⟩),fun x hx=>by
   by_cases e:x=B.tb
   · rw[e] at hx;exact absurd hx t2.dom
   · rw[o2 x e] at hx;exact hx⟩
 refine⟨_,_,rfl,_,rd1 R2.top rfl,_,rd1 R2.top rfl,_,rd1 R2.top rfl,_,rd1 R2.top rfl,?_⟩
 refine(store_blocks so i (by omega)).to fun h3 k3=>⟨_,rfl,?_⟩
 have hk:G.m-2*i≤10:=by have:=o.m;omega
 have hp1:1≤2 ^ (G.m-2*i):=Nat.one_le_two_pow
 have hp2:2 ^ (G.m-2*i)≤2 ^ 10:=Nat.pow_le_pow_right (by decide) hk
 have eP:(2:Int) ^ (G.m-2*i)=((2 ^ (G.m-2*i):Nat):Int):=by simp
 rw[eP,toU_eq (by omega)]
 have eN:(UInt64.ofNat (2 ^ (G.m-2*i))).toNat=2 ^ (G.m-2*i):=by rw[UInt64.toNat_ofNat'];omega
 have em:((ws.getD S.used 0)%UInt64.ofNat (2 ^ (G.m-2*i))).toNat=G.leaf (fun p=>ws.getD p 0) i S.used:=by
   rw[UInt64.toNat_mod,eN];rfl
 have hlf:G.leaf (fun p=>ws.getD p 0) i S.used<1024:=leaf_bd o i S.used
 have nb1:¬SFo G B es gs b1:=R.out o f1
 have e12:=v2.get e1 nb1
 refine⟨fun e=>by have:=congrArg UInt64.toNat e;rw[eN] at this;simp at this,?_⟩
 rw[em,w64_id (by omega) (by omega)]
 have V3:=((mvK k1 (SFo G B es gs)).trans v2).more k3
 refine stMW V3 f1 (k3.get e12) rfl fun h4 V4 e4 o4=>⟨_,rd1 e4 rfl,_,rd1 e4 rfl,rfl,?_,V4⟩
 exact(R2.keep o k3).same fun x hx=>o4 x fun e=>nb1 (e▸hx)
noncomputable def toldV (v p:UInt64):Value:= .agg #[.int .i64 ((v.toNat:Int)-1),.int .i64 (w64 (p.toNat:Int))]
theorem store_told (v p:UInt64) (hv:v.toNat<2 ^ 62):PureC prog 87 [vu v,vu p] (toldV v p):=by
 intro h
 refine c87 _ _ ?_
 unfold G87
 refine newC fun b1 h1 f1 e1 k1=>?_
 rw[w64_id (n:=(v.toNat:Int)) (by omega) (by omega),w64_id (n:=(v.toNat:Int)-1) (by omega) (by omega)]
 exact stW k1 f1 e1 rfl fun h2 k2 e2 _=>⟨_,rd1 e2 rfl,_,rd1 e2 rfl,rfl,k2⟩
theorem store_words {a b:Nat} (ha:a<2 ^ 62) (hb:b<2 ^ 62):PureC prog 86 [.agg #[.int .i64 a,.int .i64 b]] (.tuple #[vu (UInt64.ofNat (a+1)),vu (UInt64.ofNat b)]):=by
 intro h
 refine c86 _ _ ?_
 unfold G86
 refine newC fun b1 h1 f1 e1 k1=>⟨_,rd1 e1 rfl,_,rd1 e1 rfl,?_,k1⟩
 rw[toU_eq (by omega),toU_eq (by omega)]
 have:UInt64.ofNat a+1=UInt64.ofNat (a+1):=by
   apply UInt64.toNat_inj.1
   rw[UInt64.toNat_add,UInt64.toNat_ofNat',UInt64.toNat_ofNat']
   have e:(1:UInt64).toNat=1:=rfl
   rw[e];omega
 rw[this]
theorem store_from (o:G.Ok) (R:StR G ws B S ev es gs h) {v p:UInt64} (hv:v.toNat<2 ^ 62) (hp:v≠0→p.toNat<2 ^ 62) {sp:Nat×Nat} (hg:S.gone.length<1000000000000) :
   callK prog 88 [vp ⟨B.sb,0⟩,toldV v p,.agg #[.int .i64 sp.1,.int .i64 sp.2]] h fun r h'=>∃gs',r= .int .i64 (way v p sp).1∧StR G ws B { S with gone:=S.gone++[way v p sp] } ev es gs' h'∧Mv (SFo G B es gs) h (SFo G B es gs') h':=by
 refine c88 _ _ _ _ _ ?_
 unfold G88
 refine newC fun b1 h1 f1 e1 k1=>newC fun b2 h2 f2 e2 k2=>?_
 have k02:=k1.trans k2
 have n21:b2≠b1:=fun e=>by rw[e,e1] at f2;cases f2
 have fin:∀(g:Hp) (y:Nat×Nat),Keep h g→g b1=some (.cells #[.int .i64 y.1,.int .i64 y.2] 149 (0,0))→y=way v p sp →
     ∃s1,hcell g B.sb (0+8)=some (vs s1)∧∃n4,hcell g b1 0=some (.int .i64 n4)∧∃n5,hcell g b1 (0+1)=some (.int .i64 n5)∧newK g (.cells #[.int .i64 n4,.int .i64 n5] 149) fun b3 h4=>appK prog 115 s1 (.s ⟨some ⟨b3,0⟩,1,1,none⟩) h4 fun s2 h5=>storeK h5 ⟨B.sb,0+8⟩ [vs s2] fun h6=>∃n6,hcell h6 b1 0=some (.int .i64 n6) ∧
      ∃gs',Value.int .i64 n6= .int .i64 (way v p sp).1∧StR G ws B { S with gone:=S.gone++[way v p sp] } ev es gs' h6∧Mv (SFo G B es gs) h (SFo G B es gs') h6:=by
   rintro g y kg eg rfl
   have Rg:=R.keep o kg
   refine⟨gs,rd1 Rg.top rfl,_,rd1 eg rfl,_,rd1 eg rfl,?_⟩
   refine OwnM.push rtWh whc_len whc_one Rg.gon [way v p sp] (by rfl) rfl (fun _ _=>rfl) (by simp;omega) (by decide) ?_
   intro gs' g2 o2 off2 w2 fr2
   have nsg:∀q,gs.q=some q→B.sb≠q.b:=fun q hq e=>by have:=Rg.dis .sb .gs B.sb rfl ⟨q,hq,e⟩;cases this
   have et:g2 B.sb=some (.cells (sto9 G B gs) B.TS (0,0)):=by rw[off2 _ (by rw[Rg.top];simp) nsg,Rg.top]
   have nb1:b1≠B.sb:=fun e=>by rw[e,R.top] at f1;cases f1
   have nq:∀q,gs'.q=some q→q.b≠B.sb:=fun q hq e=>by
     rcases w2 q hq with ⟨q0,h0,e0⟩|hn
     · exact nsg q0 h0 (e▸e0)
     · rw[e,Rg.top] at hn;cases hn
   obtain⟨R6,v6⟩:=Rg.goes o (h':=upd g2 B.sb (.cells (sto9 G B gs') B.TS (0,0))) (gs':=gs') (l:=S.gone++[way v p sp]) (o2.move fun q hq=>upd_ne _ _ (nq q hq)) (upd_same _ _ _)
     (fun b hb hq hs=>by rw[upd_ne _ _ hs,off2 b hb hq]) (fun q hq=>w2 q hq) (fun b hb=>by
       by_cases e:b=B.sb
       · rw[e,upd_same] at hb;cases hb
       · rw[upd_ne _ _ e] at hb;exact fr2 b hb)
   have eg6:upd g2 B.sb (.cells (sto9 G B gs') B.TS (0,0)) b1=g b1:=by
     rw[upd_ne _ _ nb1,off2 b1 (by rw[eg];simp) fun q hq e=>R.out o f1 (.inr ⟨.gs,q,hq,e⟩)]
   exact⟨_,_,et,by simp,_,rd1 (eg6.trans eg) rfl,gs',rfl,R6,(mvK kg _).trans v6⟩
 refine⟨_,rd1 (k2.get e1) rfl,ifD (fun hlt=>?_) fun hge=>?_⟩
 · have hv0:v=0:=UInt64.toNat_inj.1 (by show v.toNat=0;omega)
   refine⟨_,rd1 e2 rfl,_,rd1 e2 rfl,stW k02 f1 (k2.get e1) rfl fun h3 k3 e3 _=>?_⟩
   exact fin h3 sp k3 e3 (by unfold way;rw[if_pos hv0])
 · have hv0:¬v=0:=fun e=>by rw[e] at hge;simp at hge
   refine fin h2 (v.toNat-1,p.toNat) k02 ?_ (by unfold way;rw[if_neg hv0])
   rw[k2.get e1]
   have:(v.toNat:Int)-1=((v.toNat-1:Nat):Int):=by omega
   have hp:=hp hv0
   rw[this,w64_id (by omega) (by omega)]
end
end Go.Proofs.Tryz
namespace Go.Proofs.Tryz
open Go Go.Sh Go.RowKit
set_option maxRecDepth 8000
theorem store_down2 {h:Hp} {q:Pt} {L:Nat} (hL:L≤1000) {y:Value} (S:Nat→Hp→Prop) (E:Hp→Prop) (h0:S 0 h) (hc:hcell h q.b (q.o+3)=some (.int .i64 L))
   (step:∀i h',i<L→S i h'→callV prog y [.int .i64 ((L:Int)-1-i)] h' fun v h''=>(v= .bool true∧S (i+1) h'')∨(v= .bool false∧E h'')) :
   callK prog 114 [y,vp q] h fun _ h'=>S L h'∨E h':=by
 refine c114 y q ?_
 unfold G114
 refine⟨L,hc,fun v n h1 k=>v=y∧∃i:Nat,n=(L:Int)-1-i∧i≤L∧S i h1∧k=L-i,⟨_,rfl,0,by rw[w64_id (by omega) (by omega)];simp,Nat.zero_le _,h0,rfl⟩,?_⟩
 rintro v n h1 k ⟨rfl,i,rfl,hi,hs,rfl⟩
 refine ifD (fun hlt=>?_) fun hge=>?_
 · refine(step i h1 (by omega) hs).mono ?_
   rintro _ h2 (⟨rfl,hs2⟩|⟨rfl,he⟩)
   · exact⟨_,rfl,ifB_pos rfl ⟨_,by omega,rfl,i+1,by rw[w64_id (by omega) (by omega)];omega,by omega,hs2,rfl⟩⟩
   · exact⟨_,rfl,ifB_neg rfl (.inr he)⟩
 · have:i=L:=by omega
   subst this;exact .inl hs
theorem word_log4:PureC prog 84 [vu 4] (.int .i64 2):=by
 intro h
 refine c84 _ ?_
 unfold G84
 refine(len64 4).to fun h1 k1=>⟨_,rfl,?_,k1⟩
 have:Lib.bitLen (UInt64.toNat 4)=3:=by decide
 rw[this,show w64 (((3:Nat):Int)-1)=2 by rw[w64_id (by omega) (by omega)];omega];rfl
theorem ushr_bid {x i:Nat} (hx:x<2 ^ 62) (hi:i≤4):ushr (UInt64.ofNat x) (2*i)=bid x i:=by
 apply UInt64.toNat_inj.1
 unfold ushr bid
 have e1:(UInt64.ofNat x).toNat=x:=by rw[UInt64.toNat_ofNat'];omega
 have h2:x/4 ^ i≤x:=Nat.div_le_self _ _
 have e2:(UInt64.ofNat (x/4 ^ i)).toNat=x/4 ^ i:=by rw[UInt64.toNat_ofNat'];generalize x/4 ^ i=z at *;omega
 rw[e2]
 have hi':i=0∨i=1∨i=2∨i=3∨i=4:=by omega
 rcases hi' with rfl|rfl|rfl|rfl|rfl<;>(simp[UInt64.toNat_shiftRight,e1,Nat.shiftRight_eq_div_pow])<;>omega
theorem store_shift {g:Hp} {b3 x:Nat} (hx:x<2 ^ 62) (e3:hcell g b3 0=some (vu (UInt64.ofNat x))) {i:Nat} (hi:i≤4) {I:Int} (hI:I=i) :
   callV prog (.func (.func 83) #[] #[vp ⟨b3,0⟩]) [.int .i64 I] g fun r g'=>r=vu (bid x i)∧Keep g g':=by
 subst hI
 refine⟨rfl,?_⟩
 refine c83 _ _ ?_
 unfold G83
 refine⟨_,e3,word_log4.to fun h1 k1=>⟨_,rfl,⟨k1.cell e3,trivial⟩,?_⟩⟩
 have e:w64 (2*(i:Int))=((2*i:Nat):Int):=by rw[w64_id (by omega) (by omega)];omega
 rw[e]
 refine⟨by omega,?_,k1⟩
 rw[show Int.toNat ((2*i:Nat):Int)=2*i by omega,ushr_bid hx hi]
abbrev arr4 (g:Nat→Nat×Nat):Array Value:=#[.int .i64 (g 0).1,.int .i64 (g 0).2,.int .i64 (g 1).1,.int .i64 (g 1).2,.int .i64 (g 2).1,.int .i64 (g 2).2,.int .i64 (g 3).1,.int .i64 (g 3).2]
theorem arr4_set (g:Nat→Nat×Nat) {j:Nat} (hj:j<4) (y:Nat×Nat):hwr (arr4 g) (j*2) [.int .i64 y.1,.int .i64 y.2]=arr4 fun k=>if k=j then y else g k:=by
 have:j=0∨j=1∨j=2∨j=3:=by omega
 rcases this with rfl|rfl|rfl|rfl<;>rfl
theorem arr4_get {h:Hp} {b:Nat} {g:Nat→Nat×Nat} {T:TypeId} (e:h b=some (.cells (arr4 g) T (0,0))) {j:Nat} (hj:j<4):hcell h b (0+j*2)=some (.int .i64 (g j).1)∧hcell h b (0+j*2+1)=some (.int .i64 (g j).2):=by
 have:j=0∨j=1∨j=2∨j=3:=by omega
 rcases this with rfl|rfl|rfl|rfl<;>exact⟨rd1 e rfl,rd1 e rfl⟩
theorem topC_set (a b:UInt64):(cel0.set 0 a).set 1 b=topC a b:=by
 apply Vector.ext;intro i hi
 have h:i=0∨i=1∨i=2∨i=3∨i=4∨i=5∨i=6∨i=7∨i=8∨i=9∨i=10∨i=11:=by omega
 rcases h with rfl|rfl|rfl|rfl|rfl|rfl|rfl|rfl|rfl|rfl|rfl|rfl<;>rfl
theorem oneEv_app {m:Nat} {s t:Int} {L:Nat} {first:Int} (ls:List Int) (y:Int):∀n,n≤ls.length→oneEv m s t L first (ls++[y]) n=oneEv m s t L first ls n
 | 0,_=>rfl
 | n+1,h=>by
   rw[oneEv_succ,oneEv_succ,oneEv_app ls y n (by omega)]
   have:(ls++[y]).getD n 0=ls.getD n 0:=by simp[List.getD,List.getElem?_append_left (show n<ls.length by omega)]
   rw[this]
theorem dget_lt (d:Dat) {j:Nat} (hj:j<8):dget d j=d[j]:=by unfold dget;simp[hj]
theorem evs_step {G:SP} {pre:List Ev} {l:List (Nat×Nat)} {g0 i j:Nat} {fr:Nat×Nat} (hl:l.length=g0+i) (hj:j+i+1=G.L) :
   pre++oneEv G.m G.s G.t G.L G.f ((l.drop g0).map fun y=>(y.1:Int)) i++levEv (G.lp j).k (G.lp j).s (G.lp j).t (G.base j) fr.1=pre++oneEv G.m G.s G.t G.L G.f (((l++[fr]).drop g0).map fun y=>(y.1:Int)) (i+1):=by
 rw[List.drop_append_of_le_length (by omega),List.map_append,List.map_cons,List.map_nil,oneEv_succ,oneEv_app _ _ i (by simp;omega),List.append_assoc]
 have h1:(((l.drop g0).map fun y=>(y.1:Int))++[(fr.1:Int)]).getD i 0=(fr.1:Int):=by
   have:((l.drop g0).map fun y=>(y.1:Int)).length=i:=by simp;omega
   simp[List.getD,←this]
 have h2:G.L-1-i=j:=by omega
 have h3:((G.base j:Nat):Int)=(G.f:Int)+1+3*(j:Int):=by unfold SP.base;omega
 rw[h1,h2,h3]
 rfl
end Go.Proofs.Tryz
namespace Go.Proofs.Tryz
open Go Go.Sh Go.RowKit
set_option maxRecDepth 8000
section
variable {G:SP} {ws:List UInt64} {B:StB} {S:SSt} {ev:List Ev} {es gs:Sl} {h:Hp}
theorem top_lt (_o:G.Ok) {x:Nat} (hx:x<2 ^ G.m):x/4 ^ (G.L-1)<G.top:=by
 unfold SP.top
 refine Nat.div_lt_of_lt_mul (Nat.lt_of_lt_of_le hx ?_)
 rw[show 4 ^ (G.L-1)=2 ^ (2*(G.L-1)) by rw[Nat.pow_mul],←Nat.pow_add]
 exact Nat.pow_le_pow_right (by decide) (by omega)
def drawn (G:SP) (w:Nat→UInt64) (u e lo:Nat) (j:Nat):Nat×Nat:=if lo≤j∧j<G.L then (G.leaf w j (G.fp u j+e),G.fp u j+e) else (0,0)
set_option maxHeartbeats 4000000 in
theorem store_Access (o:G.Ok) (st:StM G B) (R:StR G ws B S ev es gs h) {op:LOp} {k:Int} {d:Dat} (hop:opIs op k 0 d) (hk:k=0∨k=1∨k=3) {x u0 a:Nat} (hx:x<2 ^ G.m) (ai:AI G (fun p=>ws.getD p 0) u0 S.used S) (hu:S.used=u0+2*G.L*a) (hg:S.gone.length=G.L*a)
   (hub:S.used<1000000000000) (hga:S.gone.length<100000000000) (hl:ev.length<100000000000) :
   callK prog 43 [vp ⟨B.sb,0⟩,.int .i64 k,vu (UInt64.ofNat x),wv d] h fun r h'=>∃ev' es' gs',r= .tuple #[wv (stAcc G (fun p=>ws.getD p 0) op x S).2.1,.bool (stAcc G (fun p=>ws.getD p 0) op x S).2.2]∧StR G ws B (stAcc G (fun p=>ws.getD p 0) op x S).1 ev' es' gs' h'∧Mv (SFo G B es gs) h (SFo G B es' gs') h' ∧
     ev'=ev++accEv G.m G.s G.t G.L G.f (((stAcc G (fun p=>ws.getD p 0) op x S).1.gone.drop S.gone.length).map fun y=>(y.1:Int)):=by
 have so:=o.st
 have hL:=o.L
 have hm:=o.m
 have hp10:2 ^ G.m≤2 ^ 10:=Nat.pow_le_pow_right (by decide) hm
 have hx62:x<2 ^ 62:=by omega
 refine c43 _ _ _ _ ?_
 unfold G43
 refine newC fun b1 h1 f1 e1 k1=>newC fun b2 h2 f2 e2 k2=>newC fun b3 h3 f3 e3 k3=>newC fun b4 h4 f4 e4 k4=>newC fun b5 h5 f5 e5 k5=>newC fun b6 h6 f6 e6 k6=>?_
 have k26:=(k3.trans k4).trans (k5.trans k6)
 have k16:=k2.trans k26
 have k06:=k1.trans k16
 have g1:=k16.get e1
 have g2:=k26.get e2
 have g3:=(k4.trans (k5.trans k6)).get e3
 have g4:=(k5.trans k6).get e4
 have g5:=k6.get e5
 have R6:=R.keep o k06
 have f20:h b2=none:=k1.free f2
 have f30:h b3=none:=k1.free (k2.free f3)
 have f40:h b4=none:=k1.free (k2.free (k3.free f4))
 have f50:h b5=none:=k1.free (k2.free (k3.free (k4.free f5)))
 have f60:h b6=none:=k1.free (k2.free (k3.free (k4.free (k5.free f6))))
 rcases hk with rfl|rfl|rfl
 all_goals first
   | refine⟨_,rd1 g2 rfl,ifB_neg rfl ?_⟩
   | refine⟨_,rd1 g2 rfl,ifB_pos rfl ⟨_,rd1 g2 rfl,ifB_neg rfl ?_⟩⟩
   | refine⟨_,rd1 g2 rfl,ifB_pos rfl ⟨_,rd1 g2 rfl,ifB_pos rfl ⟨_,rd1 g2 rfl,ifB_neg rfl ?_⟩⟩⟩
 all_goals
   refine⟨_,rd1 g3 rfl,some ⟨B.sb,0⟩,rd1 g1 rfl,_,rfl,_,rd1 R6.top rfl,ifB_neg ?_ (newC fun b7 h7 f7 e7 k7=>newC fun b8 h8 f8 e8 k8=>?_)⟩
   · have e:toU ((2:Int) ^ G.m)=UInt64.ofNat (2 ^ G.m):=by rw[show(2:Int) ^ G.m=((2 ^ G.m:Nat):Int) by simp,toU_eq (by omega)]
     show decide (toU ((2:Int) ^ G.m)≤UInt64.ofNat x)=false
     rw[e]
     refine decide_eq_false fun hle=>?_
     have:=UInt64.le_iff_toNat_le.1 hle
     rw[UInt64.toNat_ofNat',UInt64.toNat_ofNat'] at this
     omega
   have k68:=k7.trans k8
   have k08:=k06.trans k68
   have f70:h b7=none:=k06.free f7
   have f80:h b8=none:=(k06.trans k7).free f8
   have R8:=R.keep o k08
   have n87:b8≠b7:=fun e=>by rw[e,e7] at f8;cases f8
   let Y:Nat→Prop:=fun y=>y=b1∨y=b2∨y=b3∨y=b4∨y=b5∨y=b6
   have Y0:∀y,Y y→h y=none:=by rintro y (rfl|rfl|rfl|rfl|rfl|rfl)<;>assumption
   have Yd:∀y,Y y→h8 y≠none:=by
     rintro y (rfl|rfl|rfl|rfl|rfl|rfl)
     · rw[k68.get g1];simp
     · rw[k68.get g2];simp
     · rw[k68.get g3];simp
     · rw[k68.get g4];simp
     · rw[k68.get g5];simp
     · rw[k68.get e6];simp
   have Y78:∀y,Y y→y≠b7∧y≠b8:=fun y z=>by
     have h6y:h6 y≠none:=by
       have:=Yd y z
       intro hn
       rcases z with rfl|rfl|rfl|rfl|rfl|rfl
       · rw[g1] at hn;cases hn
       · rw[g2] at hn;cases hn
       · rw[g3] at hn;cases hn
       · rw[g4] at hn;cases hn
       · rw[g5] at hn;cases hn
       · rw[e6] at hn;cases hn
     exact⟨fun e=>h6y (e▸f7),fun e=>by have:=k7 y h6y;rw[e,f8] at this;rw[e] at h6y;exact h6y this.symm⟩
   have YS:∀y,Y y→¬SFo G B es gs y:=fun y z=>R.out o (Y0 y z)
   have n7S:¬SFo G B es gs b7:=R.out o f70
   have n8S:¬SFo G B es gs b8:=R.out o f80
   refine⟨some ⟨B.sb,0⟩,rd1 (k68.get g1) rfl,_,rfl,_,rd1 R8.top rfl,_,rd1 R8.top rfl,_,rd1 R8.top rfl,_,rd1 R8.top rfl,?_⟩
   refine(store_down h8).mono ?_
   rintro _ h9 ⟨bd,rfl,fd,ed,k9⟩
   refine⟨_,rfl,trivial,fun z kk hkk hr=>⟨rfl,?_⟩⟩
   have k09:=k08.trans k9
   have hk0:h kk=none:=k09.free hkk
   have kS:¬SFo G B es gs kk:=R.out o hk0
   have kz:Keep h9 (upd h9 kk (rdyL z)):=(Keep.refl h9).upd hkk _
   have Yk:∀y,Y y→y≠kk:=fun y z e=>by have:=k9 y (Yd y z);rw[e,hkk] at this;exact Yd kk (e▸z) this.symm
   have n7k:b7≠kk:=fun e=>by have:=(k8.trans k9).get e7;rw[e,hkk] at this;cases this
   have n8k:b8≠kk:=fun e=>by have:=k9.get e8;rw[e,hkk] at this;cases this
   have dL:∀e,drawn G (fun p=>ws.getD p 0) S.used e G.L=fun _=>(0,0):=fun e=>by funext j;unfold drawn;rw[if_neg (by omega)]
   refine(store_down1 (L:=G.L) (q:=⟨bd,0⟩) (y:=yv kk) (by omega) (fun i g=>g kk=some (rdyL z)∧StR G ws B { S with used:=S.used+2*i } ev es gs g∧Mv (SFo G B es gs) h (SFo G B es gs) g∧(∀y,Y y→g y=h8 y) ∧
       g b7=some (.cells (arr4 (drawn G (fun p=>ws.getD p 0) S.used 0 (G.L-i))) 174 (0,0))∧g b8=some (.cells (arr4 (drawn G (fun p=>ws.getD p 0) S.used 1 (G.L-i))) 174 (0,0)))
     ⟨upd_same _ _ _,R.keep o (k09.trans kz),mvK (k09.trans kz) _,fun y hy=>(upd_ne _ _ (Yk y hy)).trans (k9 y (Yd y hy)),?_,?_⟩ (rd1 (kz.get ed) rfl) ?_).mono ?_
   · rw[Nat.sub_zero,dL,upd_ne _ _ n7k,(k8.trans k9).get e7];rfl
   · rw[Nat.sub_zero,dL,upd_ne _ _ n8k,k9.get e8];rfl
   · rintro i g hi ⟨hz,Rg,Vg,Yg,g7,g8⟩
     refine⟨rfl,rfl,hr _ g _ hz ⟨hz,?_⟩⟩
     obtain⟨j,hj⟩:∃j:Nat,j=G.L-1-i:=⟨_,rfl⟩
     have hjI:(G.L:Int)-1-i=j:=by omega
     rw[hjI]
     have fpj:G.fp S.used j=S.used+2*i:=by unfold SP.fp;omega
     have Vb:=Vg.loc hk0 (busyL z)
     have Rb:StR G ws B { S with used:=S.used+2*i } ev es gs (upd g kk (busyL z)):=Rg.same fun y hy=>upd_ne _ _ fun e=>kS (e▸hy)
     refine⟨some ⟨B.sb,0⟩,rd1 ((upd_ne _ _ (Yk b1 (.inl rfl))).trans ((Yg b1 (.inl rfl)).trans (k68.get g1))) rfl,?_⟩
     refine(store_draw o Rb (i:=j) (by omega) (by show S.used+2*i<2 ^ 62;omega)).mono ?_
     rintro _ gA ⟨rfl,RA,vA⟩
     have YA:∀y,Y y→gA y=h8 y:=fun y hy=>by rw[vA.2.1 y (by rw[upd_ne _ _ (Yk y hy),Yg y hy];exact Yd y hy) (YS y hy),upd_ne _ _ (Yk y hy),Yg y hy]
     have g7A:=vA.get (show upd g kk (busyL z) b7=_ from (upd_ne _ _ n7k).trans g7) n7S
     have g8A:=vA.get (show upd g kk (busyL z) b8=_ from (upd_ne _ _ n8k).trans g8) n8S
     have kA:=vA.get (show upd g kk (busyL z) kk=_ from upd_same _ _ _) kS
     refine⟨_,_,rfl,by omega,by omega,?_⟩
     rw[show 0+Int.toNat (j:Int)*2=j*2 by omega]
     refine stM (Vb.trans vA) f70 g7A (by simp;omega) fun gB VB g7B oB=>?_
     have RB:=RA.same (h':=gB) fun y hy=>oB y fun e=>n7S (e▸hy)
     have YB:∀y,Y y→gB y=h8 y:=fun y hy=>by rw[oB y (Y78 y hy).1,YA y hy]
     refine⟨some ⟨B.sb,0⟩,rd1 ((YB b1 (.inl rfl)).trans (k68.get g1)) rfl,?_⟩
     refine(store_draw o RB (i:=j) (by omega) (by show S.used+2*i+1<2 ^ 62;omega)).mono ?_
     rintro _ gC ⟨rfl,RC,vC⟩
     have YC:∀y,Y y→gC y=h8 y:=fun y hy=>by rw[vC.2.1 y (by rw[YB y hy];exact Yd y hy) (YS y hy),YB y hy]
     have g7C:=vC.get g7B n7S
     have g8C:=vC.get ((oB _ n87).trans g8A) n8S
     have kC:=vC.get ((oB _ (Ne.symm n7k)).trans kA) kS
     refine⟨_,_,rfl,by omega,by omega,?_⟩
     refine stM (VB.trans vC) f80 g8C (by simp;omega) fun gD VD g8D oD=>⟨(oD _ (Ne.symm n8k)).trans kC,rfl,upd_same _ _ _,?_,VD.loc hk0 _,fun y hy=>?_,?_,?_⟩
     · have e:S.used+2*(i+1)=S.used+2*i+1+1:=by omega
       rw[e]
       exact(RC.same (h':=gD) fun y hy=>oD y fun e=>n8S (e▸hy)).same fun y hy=>upd_ne _ _ fun e=>kS (e▸hy)
     · rw[upd_ne _ _ (Yk y hy),oD y (Y78 y hy).2,YC y hy]
     · rw[upd_ne _ _ n7k,oD _ (Ne.symm n87),g7C]
       have e:=arr4_set (drawn G (fun p=>ws.getD p 0) S.used 0 (G.L-i)) (show j<4 by omega) (G.leaf (fun p=>ws.getD p 0) j (S.used+2*i),S.used+2*i)
       refine congrArg (fun x=>some (Obj.cells x _ (0,0))) (e.trans (congrArg arr4 ?_))
       funext y
       unfold drawn
       by_cases c:y=j
       · subst c;rw[if_pos rfl,if_pos (by omega),Nat.add_zero,fpj]
       · rw[if_neg c]
         by_cases c2:G.L-i≤y∧y<G.L
         · rw[if_pos c2,if_pos (by omega)]
         · rw[if_neg c2,if_neg (by omega)]
     · rw[upd_ne _ _ n8k,g8D]
       have e:=arr4_set (drawn G (fun p=>ws.getD p 0) S.used 1 (G.L-i)) (show j<4 by omega) (G.leaf (fun p=>ws.getD p 0) j (S.used+2*i+1),S.used+2*i+1)
       refine congrArg (fun x=>some (Obj.cells x _ (0,0))) (e.trans (congrArg arr4 ?_))
       funext y
       unfold drawn
       by_cases c:y=j
       · subst c;rw[if_pos rfl,if_pos (by omega),fpj]
       · rw[if_neg c]
         by_cases c2:G.L-i≤y∧y<G.L
         · rw[if_pos c2,if_pos (by omega)]
         · rw[if_neg c2,if_neg (by omega)]
   rintro _ h10 ⟨hz,R10,V10,Y10,g7,g8⟩
   rw[Nat.sub_self] at g7 g8
   refine⟨hz,newC fun b9 h11 f11 e11 k11=>?_⟩
   have VG:=V10.loc hk0 (goneL z none)
   have RG:=R10.same (h':=upd h10 kk (goneL z none)) fun y hy=>upd_ne _ _ fun e=>kS (e▸hy)
   have f90:h b9=none:=VG.2.2 _ f11
   refine stMW (VG.more k11) f90 e11 rfl fun h12 V12 e12 o12=>?_
   have same12:∀y,upd h10 kk (goneL z none) y≠none→h12 y=upd h10 kk (goneL z none) y:=fun y hy=>by rw[o12 y fun e=>hy (e▸f11),k11 y hy]
   have R12:=RG.same (h':=h12) fun y hy=>same12 y (RG.fdom o hy)
   have Y12:∀y,Y y→h12 y=h8 y:=fun y hy=>by
     have e:upd h10 kk (goneL z none) y=h8 y:=(upd_ne _ _ (Yk y hy)).trans (Y10 y hy)
     rw[same12 y (by rw[e];exact Yd y hy),e]
   have i7:h12 b7=_:=(same12 b7 (by rw[upd_ne _ _ n7k,g7];simp)).trans ((upd_ne _ _ n7k).trans g7)
   have i8:h12 b8=_:=(same12 b8 (by rw[upd_ne _ _ n8k,g8];simp)).trans ((upd_ne _ _ n8k).trans g8)
   have i1:=(Y12 b1 (.inl rfl)).trans (k68.get g1)
   have i2:=(Y12 b2 (.inr (.inl rfl))).trans (k68.get g2)
   have i3:=(Y12 b3 (.inr (.inr (.inl rfl)))).trans (k68.get g3)
   have i4:=(Y12 b4 (.inr (.inr (.inr (.inl rfl))))).trans (k68.get g4)
   have i5:=(Y12 b5 (.inr (.inr (.inr (.inr (.inl rfl)))))).trans (k68.get g5)
   have i6:=(Y12 b6 (.inr (.inr (.inr (.inr (.inr rfl)))))).trans (k68.get e6)
   let Z:Nat→Prop:=fun y=>Y y∨y=b7∨y=b8∨y=b9
   have Zd:∀y,Z y→h12 y≠none:=by
     rintro y (hy|rfl|rfl|rfl)
     · rw[Y12 y hy];exact Yd y hy
     · rw[i7];simp
     · rw[i8];simp
     · rw[e12];simp
   have Z0:∀y,Z y→h y=none:=by
     rintro y (hy|rfl|rfl|rfl)
     · exact Y0 y hy
     · exact f70
     · exact f80
     · exact f90
   have ZS:∀y,Z y→¬SFo G B es gs y:=fun y hy=>R.out o (Z0 y hy)
   clear Y12 same12 g7 g8 hr
   have hlast:w64 ((G.L:Int)-1)=((G.L-1:Nat):Int):=by rw[w64_id (by omega) (by omega)];omega
   have hbt:=(bid_toNat o hx (h:=G.L-1)).1
   have hxt:=top_lt o hx
   refine⟨some ⟨B.sb,0⟩,rd1 i1 rfl,_,rfl,_,rd1 R12.top rfl,some ⟨B.sb,0⟩,rd1 i1 rfl,_,rfl,some ⟨B.m.b,0⟩,rd1 R12.top rfl,some ⟨B.sb,0⟩,rd1 i1 rfl,_,rfl,_,rd1 R12.top rfl,_,rd1 e12 rfl,rfl,?_⟩
   rw[hlast]
   refine(store_shift hx62 (rd1 i3 rfl) (i:=G.L-1) (by omega) rfl).mono ?_
   rintro _ h13 ⟨rfl,k13⟩
   have R13:=R12.keep o k13
   have j1:=k13.get i1
   refine⟨_,rfl,⟨rd1 R13.top rfl,trivial⟩,⟨rd1 j1 rfl,trivial⟩,⟨rd1 R13.top rfl,trivial⟩,⟨rd1 j1 rfl,trivial⟩,?_⟩
   refine(scan_get R13.mem st.fnr (bid x (G.L-1)) (by omega)).mono ?_
   rintro _ h14 ⟨es1,rfl,M14,v14⟩
   rw[hbt,if_pos (by rw[st.ftop];exact hxt)]
   obtain⟨R14,w14⟩:=R13.memo o M14 v14
   obtain⟨Z14,ZS14⟩:=mv_apart w14 (fun y hy=>by rw[k13 y (Zd y hy)];exact Zd y hy) ZS
   have Z14:∀y,Z y→h14 y=h12 y:=fun y hy=>(Z14 y hy).trans (k13 y (Zd y hy))
   have V14:=(V12.more k13).trans w14
   generalize hcc:S.R G.f (x/4 ^ (G.L-1))=cc
   refine⟨cc,rfl,newC fun b10 h15 f15 e15 k15=>?_⟩
   have f100:h b10=none:=V14.2.2 _ f15
   refine wbMW (n:=12) (V14.more k15) f100 e15 rfl fun h16 V16 e16 o16=>newC fun b11 h17 f17 e17 k17=>?_
   have f110:h b11=none:=V16.2.2 _ f17
   have n1110:b11≠b10:=fun e=>by rw[e,e16] at f17;cases f17
   have K17:∀y,h14 y≠none→h17 y=h14 y:=fun y hy=>by
     have e:h16 y=h14 y:=by rw[o16 y fun e=>hy (e▸f15),k15 y hy]
     rw[k17 y (by rw[e];exact hy),e]
   have Z17:∀y,Z y→h17 y=h12 y:=fun y hy=>by rw[K17 y (by rw[Z14 y hy];exact Zd y hy),Z14 y hy]
   have R17:=R14.same (h':=h17) fun y hy=>K17 y (R14.fdom o hy)
   have fpl:=fp_top G S.used
   have dr:∀e j,j<G.L→drawn G (fun p=>ws.getD p 0) S.used e 0 j=(G.leaf (fun p=>ws.getD p 0) j (G.fp S.used j+e),G.fp S.used j+e):=fun e j hj=>by unfold drawn;rw[if_pos ⟨Nat.zero_le _,hj⟩]
   have q7:=arr4_get ((Z17 b7 (.inr (.inl rfl))).trans i7) (j:=G.L-1) (by omega)
   rw[dr 0 _ (by omega),Nat.add_zero] at q7
   refine⟨by omega,by omega,_,by rw[show Int.toNat ((G.L-1:Nat):Int)=G.L-1 by omega];exact q7.1,_,by rw[show Int.toNat ((G.L-1:Nat):Int)=G.L-1 by omega];exact q7.2,?_⟩
   have hlf:=leaf_bd (w:=fun p=>ws.getD p 0) o (G.L-1) (G.fp S.used (G.L-1))
   refine(store_words (a:=G.leaf (fun p=>ws.getD p 0) (G.L-1) (G.fp S.used (G.L-1))) (b:=G.fp S.used (G.L-1)) (by omega) (by omega)).to fun h18 k18=>⟨_,_,rfl,Int.NonNeg.mk 0,Int.NonNeg.mk 11,?_⟩
   have e18:h18 b11=some (.cells (SV.cells (.ws 12 cel0)).toArray 56 (0,0)):=by rw[k18.get e17,cells_cel0];rfl
   have V17:=(V16.more k17).more k18
   refine wbMS V17 f110 e18 (i:=0) (by decide) fun h19 V19 e19 o19=>⟨Int.NonNeg.mk 1,Int.NonNeg.mk 10,?_⟩
   refine wbMS V19 f110 e19 (i:=1) (by decide) fun h20 V20 e20 o20=>?_
   rw[topC_set] at e20
   have K20:∀y,h17 y≠none→y≠b11→h20 y=h17 y:=fun y hy hn=>by rw[o20 y hn,o19 y hn,k18 y hy]
   have n11S:¬SFo G B es1 gs b11:=fun hf=>R17.fdom o hf |> fun hd=>by
     have:=R14.fdom o hf
     have e:=K17 b11 this
     have h16n:h16 b11=none:=f17
     have:h16 b11=h14 b11:=by rw[o16 b11 n1110,k15 b11 this]
     rw[h16n] at this
     exact R14.fdom o hf this.symm
   have R20:=R17.same (h':=h20) fun y hy=>K20 y (R17.fdom o hy) fun e=>n11S (e▸hy)
   have nZ11:∀y,Z y→y≠b11:=fun y hy e=>by
     have h14y:h14 y≠none:=by rw[Z14 y hy];exact Zd y hy
     have:h16 y=h14 y:=by rw[o16 y fun e=>h14y (e▸f15),k15 y h14y]
     rw[e] at this;rw[this] at f17;rw[e] at h14y;exact h14y f17
   have Z20:∀y,Z y→h20 y=h12 y:=fun y hy=>by rw[K20 y (by rw[Z17 y hy];exact Zd y hy) (nZ11 y hy),Z17 y hy]
   have e1020:h20 b10=_:=(K20 b10 (by rw[k17.get e16];simp) (Ne.symm n1110)).trans (k17.get e16)
   have l1:=(Z20 b1 (.inl (.inl rfl))).trans i1
   refine⟨some ⟨B.sb,0⟩,rd1 l1 rfl,_,rfl,some ⟨B.m.b,0⟩,rd1 R20.top rfl,some ⟨B.sb,0⟩,rd1 l1 rfl,_,rfl,_,rd1 R20.top rfl,_,rd1 ((Z20 b9 (.inr (.inr (.inr rfl)))).trans e12) rfl,rfl,_,wb_rd e20,?_⟩
   refine(store_shift hx62 (rd1 ((Z20 b3 (.inl (.inr (.inr (.inl rfl))))).trans i3) rfl) (i:=G.L-1) (by omega) rfl).mono ?_
   rintro _ h21 ⟨rfl,k21⟩
   have R21:=R20.keep o k21
   have m1:=k21.get l1
   refine⟨_,rfl,wb_rd (k21.get e20),⟨rd1 R21.top rfl,trivial⟩,⟨rd1 m1 rfl,trivial⟩,⟨rd1 R21.top rfl,trivial⟩,⟨rd1 m1 rfl,trivial⟩,?_⟩
   refine(word_zero 0).to fun h22 k22=>?_
   have R22:=R21.keep o k22
   have m12:=k22.get m1
   refine⟨_,rfl,wb_rd ((k21.trans k22).get e20),⟨rd1 R22.top rfl,trivial⟩,⟨rd1 m12 rfl,trivial⟩,⟨rd1 R22.top rfl,trivial⟩,⟨rd1 m12 rfl,trivial⟩,?_⟩
   have hrl:(reads (G.f:Int) (B.m.rn G.f)).length=B.m.rn G.f:=reads_length _ _
   have hrn:=R.mem.rn G.f st.fnr
   refine(scan_put R22.mem st.fnr (bid x (G.L-1)) _ true (by simp only[List.length_append,hrl];omega)).mono ?_
   rintro _ h23 ⟨es2,rfl,M23,v23⟩
   rw[hbt,if_pos ⟨by rw[st.ftop];exact hxt,rfl⟩] at M23
   obtain⟨R23,w23⟩:=R22.memo o M23 v23
   have n10S:¬SFo G B es1 gs b10:=R14.out o f15
   have e1023:=w23.get (show h22 b10=_ from (k21.trans k22).get e1020) n10S
   obtain⟨Z23,ZS23⟩:=mv_apart w23 (fun y hy=>by rw[(k21.trans k22) y (by rw[Z20 y hy];exact Zd y hy),Z20 y hy];exact Zd y hy) ZS14
   have Z23:∀y,Z y→h23 y=h12 y:=fun y hy=>by rw[Z23 y hy,(k21.trans k22) y (by rw[Z20 y hy];exact Zd y hy),Z20 y hy]
   have V23:=((V20.more k21).more k22).trans w23
   have R23:StR G ws B (G.begin (fun p=>ws.getD p 0) (x/4 ^ (G.L-1)) S) _ es2 gs h23:=R23
   obtain⟨ai1,car1⟩:=start_ok o hu (by omega) ai hxt
   rw[hcc] at car1
   have hvb:∀ {v p:UInt64} {ub j:Nat} {Sj:SSt},Car G (fun p=>ws.getD p 0) u0 ub j Sj v p→v.toNat<2 ^ 62:=fun {v p ub j Sj} c=>by
     by_cases hv:v=0
     · rw[hv];decide
     · have:=(c.good hv).1.val
       have:=leaf_bd (w:=fun p=>ws.getD p 0) o j p.toNat
       omega
   have hv0:=hvb car1
   refine⟨rfl,Int.NonNeg.mk 0,Int.NonNeg.mk 11,_,wb_get e1023 (i:=0) (by decide),Int.NonNeg.mk 1,Int.NonNeg.mk 10,_,wb_get e1023 (i:=1) (by decide),?_⟩
   refine(store_told cc[0] cc[1] hv0).to fun h24 k24=>⟨_,_,rfl,newC fun b12 h25 f25 e25 k25=>?_⟩
   have f120:h b12=none:=(V23.more k24).2.2 _ f25
   refine stMW ((V23.more k24).more k25) f120 e25 rfl fun h26 V26 e26 o26=>?_
   have K26:∀y,h23 y≠none→h26 y=h23 y:=fun y hy=>by
     have e:h24 y≠none:=by rw[k24 y hy];exact hy
     rw[o26 y fun e'=>e (e'▸f25),k25 y e,k24 y hy]
   have R26:=R23.same (h':=h26) fun y hy=>K26 y (R23.fdom o hy)
   have Z26:∀y,Z y→h26 y=h12 y:=fun y hy=>by rw[K26 y (by rw[Z23 y hy];exact Zd y hy),Z23 y hy]
   have n12S:¬SFo G B es2 gs b12:=(R23.keep o k24).out o f25
   have l1:=(Z26 b1 (.inl (.inl rfl))).trans i1
   refine⟨some ⟨B.sb,0⟩,rd1 l1 rfl,_,rfl,_,rd1 R26.top rfl,_,rd1 R26.top rfl,_,rd1 R26.top rfl,_,rd1 R26.top rfl,?_⟩
   refine(store_down h26).mono ?_
   rintro _ h27 ⟨bd2,rfl,fd2,ed2,k27⟩
   refine⟨_,rfl,trivial,fun z2 kl hkl hr2=>⟨rfl,?_⟩⟩
   have hkl0:h kl=none:=(V26.more k27).2.2 _ hkl
   have nkS:¬SFo G B es2 gs kl:=(R26.keep o k27).out o hkl
   have kz2:Keep h27 (upd h27 kl (rdyL z2)):=(Keep.refl h27).upd hkl _
   have Zk:∀y,Z y→y≠kl:=fun y hy e=>by have h1:=k27 y (by rw[Z26 y hy];exact Zd y hy);rw[e,hkl] at h1;have:=Z26 y hy;rw[e] at this;rw[←h1] at this;exact Zd kl (e▸hy) this.symm
   have n12k:b12≠kl:=fun e=>by have:=k27.get e26;rw[e,hkl] at this;cases this
   have n12Z:∀y,Z y→y≠b12:=fun y hy e=>by
     have h24y:h24 y≠none:=by rw[k24 y (by rw[Z23 y hy];exact Zd y hy),Z23 y hy];exact Zd y hy
     exact h24y (e▸f25)
   have hfull:stAcc G (fun p=>ws.getD p 0) op x S=goDn G (fun p=>ws.getD p 0) S.used op x (G.L-1) cc[0] cc[1] (G.begin (fun p=>ws.getD p 0) (x/4 ^ (G.L-1)) S):=by rw[←hcc];rfl
   generalize hF:stAcc G (fun p=>ws.getD p 0) op x S=F
   rw[hF] at hfull
   have hrn2:B.m.rn G.f=topN G.m G.L:=st.ftop
   generalize hpre:ev++reads (G.f:Int) (B.m.rn G.f)++writes (G.f:Int) (B.m.rn G.f)=pre at R26
   have hprel:pre.length≤ev.length+3*4096:=by
     rw[←hpre];simp only[List.length_append,hrl,writes_length];omega
   refine(store_down2 (L:=G.L) (q:=⟨bd2,0⟩) (y:=yv kl) (by omega) (fun i g=>i<G.L∧g kl=some (rdyL z2)∧∃(v p:UInt64) (Sj:SSt) (evj:List Ev) (esj gsj:Sl),StR G ws B Sj evj esj gsj g∧Mv (SFo G B es gs) h (SFo G B esj gsj) g∧(∀y,Z y→g y=h12 y)∧(∀y,Z y→¬SFo G B esj gsj y)∧¬SFo G B esj gsj b12∧¬SFo G B esj gsj kl ∧
       g b12=some (.cells #[.int .i64 ((v.toNat:Int)-1),.int .i64 (w64 (p.toNat:Int))] 149 (0,0))∧goDn G (fun p=>ws.getD p 0) S.used op x (G.L-1-i) v p Sj=F∧AI G (fun p=>ws.getD p 0) u0 (G.fp S.used (G.L-1-i)+1) Sj∧Car G (fun p=>ws.getD p 0) u0 (G.fp S.used (G.L-1-i)+1) (G.L-1-i) Sj v p∧Sj.gone.length=S.gone.length+i ∧
       evj=pre++oneEv G.m G.s G.t G.L G.f ((Sj.gone.drop S.gone.length).map fun y=>(y.1:Int)) i)
     (fun g=>g kl=some (doneL z2 Code.ret)∧∃(ev':List Ev) (es' gs':Sl),StR G ws B F.1 ev' es' gs' g∧Mv (SFo G B es gs) h (SFo G B es' gs') g∧¬SFo G B es' gs' kl∧(∃T,g b5=some (.cells (SV.cells (.ws 8 F.2.1)).toArray T (0,0)))∧(∃T,g b6=some (.cells #[.bool F.2.2] T (0,0))) ∧
       ev'=pre++oneEv G.m G.s G.t G.L G.f ((F.1.gone.drop S.gone.length).map fun y=>(y.1:Int)) G.L)
     ⟨by omega,upd_same _ _ _,cc[0],cc[1],_,_,es2,gs,R26.same fun y hy=>?_,(V26.more k27).loc hkl0 _,fun y hy=>?_,ZS23,n12S,nkS,?_,?_,ai1,car1,rfl,?_⟩ (rd1 (kz2.get ed2) rfl) ?_).mono ?_
   · have hne:y≠kl:=fun e=>nkS (e▸hy)
     rw[upd_ne _ _ hne,k27 y (R26.fdom o hy)]
   · rw[upd_ne _ _ (Zk y hy),k27 y (by rw[Z26 y hy];exact Zd y hy),Z26 y hy]
   · rw[upd_ne _ _ n12k,k27.get e26]
   · exact hfull.symm
   · simp[oneEv]
   · rintro i g hi ⟨_,hz,v,p,Sj,evj,esj,gsj,Rg,Vg,Zg,ZSg,n12g,nkg,g12,hgo,aij,carj,hgl,hev⟩
     refine⟨rfl,rfl,hr2 _ g _ hz ⟨hz,?_⟩⟩
     obtain⟨j,hj⟩:∃j:Nat,j=G.L-1-i:=⟨_,rfl⟩
     have hjI:(G.L:Int)-1-i=j:=by omega
     rw[hjI]
     rw[←hj] at hgo aij carj
     have fpj:G.fp S.used j=S.used+2*i:=by unfold SP.fp;omega
     have Vb:=Vg.loc hkl0 (busyL z2)
     have Rb:StR G ws B Sj evj esj gsj (upd g kl (busyL z2)):=Rg.same fun y hy=>upd_ne _ _ fun e=>nkg (e▸hy)
     have Zb:∀y,Z y→upd g kl (busyL z2) y=h12 y:=fun y hy=>(upd_ne _ _ (Zk y hy)).trans (Zg y hy)
     have b12b:upd g kl (busyL z2) b12=_:=(upd_ne _ _ n12k).trans g12
     have q8:=arr4_get ((Zb b8 (.inr (.inr (.inl rfl)))).trans i8) (j:=j) (by omega)
     rw[dr 1 j (by omega)] at q8
     have ej:Int.toNat (j:Int)=j:=by omega
     rw[ej]
     refine⟨some ⟨B.sb,0⟩,rd1 ((Zb b1 (.inl (.inl rfl))).trans i1) rfl,_,rd1 b12b rfl,_,rd1 b12b rfl,by omega,by omega,_,q8.1,_,q8.2,?_⟩
     have hvj:=hvb carj
     refine(store_from o Rb (v:=v) (p:=p) hvj (fun hv=>?_) (sp:=(G.leaf (fun p=>ws.getD p 0) j (G.fp S.used j+1),G.fp S.used j+1)) (by omega)).mono ?_
     · have:=(carj.good hv).1.lt;omega
     rintro _ gA ⟨gsA,rfl,RA,vA⟩
     obtain⟨hfr,aiA⟩:=way_ok o hu (by omega) aij carj (by rw[hgl,hg];omega)
     generalize hway:way v p (G.leaf (fun p=>ws.getD p 0) j (G.fp S.used j+1),G.fp S.used j+1)=fr at *
     obtain⟨ZA,ZSA⟩:=mv_apart vA (fun y hy=>by rw[Zb y hy];exact Zd y hy) ZSg
     have ZA:∀y,Z y→gA y=h12 y:=fun y hy=>(ZA y hy).trans (Zb y hy)
     have b12A:=vA.get b12b n12g
     have n12A:=vA.out (by rw[b12b];simp) n12g
     have kA:=vA.get (show upd g kl (busyL z2) kl=_ from upd_same _ _ _) nkg
     have nkA:=vA.out (show upd g kl (busyL z2) kl≠none by rw[upd_same];simp) nkg
     have VA:=Vb.trans vA
     have hevl:evj.length<100050000000:=by
       have:=oneEv_length so (G.f:Int) ((Sj.gone.drop S.gone.length).map fun y=>(y.1:Int)) i
       rw[hev,List.length_append];omega
     have hbi:=bid_toNat o hx (h:=j)
     have lvl:=RA.lvs.len
     simp only[List.length_map,List.length_range] at lvl
     have a1:=(ZA b1 (.inl (.inl rfl))).trans i1
     have a7:=arr4_get ((ZA b7 (.inr (.inl rfl))).trans i7) (j:=j) (by omega)
     rw[dr 0 j (by omega),Nat.add_zero] at a7
     have hlfj:=leaf_bd (w:=fun p=>ws.getD p 0) o j (G.fp S.used j)
     obtain⟨ql,hql,hcl⟩:=RA.lvs.at (i:=j) (by simp;omega)
     have ecl:((List.range G.L).map B.lb)[j]'(by simp;omega)=B.lb j:=by simp
     rw[ecl] at hcl
     refine⟨_,rfl,?_⟩
     refine ifD (fun hz0=>?_) fun hz0=>?_
     · have hj0:j=0:=by omega
       subst hj0
       have hid0:UInt64.ofNat x=bid x 0:=by unfold bid;simp
       refine⟨some ⟨B.sb,0⟩,rd1 a1 rfl,_,rfl,B.lv,rd1 RA.top rfl,ql,hql,Int.NonNeg.mk 0,by omega,some ⟨B.lb 0,0⟩,hcl,_,rd1 ((ZA b2 (.inl (.inr (.inl rfl)))).trans i2) rfl,_,rd1 ((ZA b3 (.inl (.inr (.inr (.inl rfl))))).trans i3) rfl,d,wb_rd ((ZA b4 (.inl (.inr (.inr (.inr (.inl rfl)))))).trans i4),Int.NonNeg.mk 0,Int.NonNeg.mk 3,_,a7.1,?_⟩
       rw[hid0]
       refine(level_Access (o.lev 0) (st.lvm 0 (by omega)) RA.mem (RA.lev 0 (by omega)) (RA.map 0 (by omega)) (RA.dM (.lb 0) _ ⟨by omega,rfl⟩) (RA.dM (.mp 0) _ ⟨by omega,rfl⟩) (fr:=fr.1) (to:=G.leaf (fun p=>ws.getD p 0) 0 (G.fp S.used 0)) hfr (G.leaf_lt _ 0 _) (bi:=bid x 0) hbi.2 (aiA.wm 0 (by omega)) hop (by omega)).mono ?_
       rintro _ gB ⟨esB,rfl,MB,LB,mB,nlB,nmB,vB⟩
       obtain⟨RB,wB⟩:=RA.levl o (i:=0) (by omega) MB LB mB nlB nmB vB
       obtain⟨ZB,ZSB⟩:=mv_apart wB (fun y hy=>by rw[ZA y hy];exact Zd y hy) ZSA
       have ZB:∀y,Z y→gB y=h12 y:=fun y hy=>(ZB y hy).trans (ZA y hy)
       have z5:Z b5:= .inl (.inr (.inr (.inr (.inr (.inl rfl)))))
       have z6:Z b6:= .inl (.inr (.inr (.inr (.inr (.inr rfl)))))
       have n65:b6≠b5:=fun e=>by rw[e,e5] at f6;cases f6
       have kB:=wB.get kA nkA
       have nkB:=wB.out (by rw[kA];simp) nkA
       have hF0:F=(G.acc 0 op (bid x 0) fr.1 (G.leaf (fun p=>ws.getD p 0) 0 (G.fp S.used 0)) { Sj with gone:=Sj.gone++[fr] },G.old 0 (bid x 0) fr.1 { Sj with gone:=Sj.gone++[fr] }):=by rw[←hgo,←hway];rfl
       subst hF0
       refine⟨_,_,rfl,wbMW (n:=8) (VA.trans wB) f50 ((ZB b5 z5).trans i5) rfl fun hC VC eC oC=>stMW VC f60 ((oC _ n65).trans ((ZB b6 z6).trans i6)) rfl fun hD VD eD oD=>?_⟩
       have n5k:=Zk b5 z5
       have n6k:=Zk b6 z6
       refine⟨(oD _ (Ne.symm n6k)).trans ((oC _ (Ne.symm n5k)).trans kB),.inr ⟨rfl,upd_same _ _ _,evj++levEv (G.lp 0).k (G.lp 0).s (G.lp 0).t (G.base 0) fr.1,esB,gsA,?_,VD.loc hkl0 _,nkB,⟨100,?_⟩,⟨4,?_⟩,?_⟩⟩
       · exact RB.same fun y hy=>by
           have h5:y≠b5:=fun e=>ZSB b5 z5 (e▸hy)
           have h6:y≠b6:=fun e=>ZSB b6 z6 (e▸hy)
           have hk:y≠kl:=fun e=>nkB (e▸hy)
           rw[upd_ne _ _ hk,oD y h6,oC y h5]
       · rw[upd_ne _ _ n5k,oD _ (Ne.symm n65)];exact eC
       · rw[upd_ne _ _ n6k];exact eD
       · rw[hev,evs_step (j:=0) hgl (by omega),show i+1=G.L by omega];rfl
     · obtain⟨j',rfl⟩:∃j',j=j'+1:=⟨j-1,by omega⟩
       have hwj:w64 (((j'+1:Nat):Int)-1)=(j':Nat):=by rw[w64_id (by omega) (by omega)];omega
       rw[hwj]
       have a3:=(ZA b3 (.inl (.inr (.inr (.inl rfl))))).trans i3
       have a9:=(ZA b9 (.inr (.inr (.inr rfl)))).trans e12
       refine⟨_,rd1 a9 rfl,rfl,?_⟩
       refine(store_shift hx62 (rd1 a3 rfl) (i:=j') (by omega) rfl).mono ?_
       rintro _ gB ⟨rfl,kB⟩
       refine⟨_,rfl,(by decide),newC fun b13 gC f13 e13 kC=>⟨by omega,by omega,?_⟩⟩
       have kAC:=kB.trans kC
       have f130:h b13=none:=VA.2.2 _ (kB.free f13)
       have ej':Int.toNat (j':Int)=j':=by omega
       rw[ej']
       have c7:=arr4_get (kAC.get ((ZA b7 (.inr (.inl rfl))).trans i7)) (j:=j') (by omega)
       rw[dr 0 j' (by omega),Nat.add_zero] at c7
       have hlfj':=leaf_bd (w:=fun p=>ws.getD p 0) o j' (G.fp S.used j')
       have hfpj':G.fp S.used j'<1000000000100:=by unfold SP.fp;omega
       refine⟨_,c7.1,_,c7.2,?_⟩
       refine(store_words (a:=G.leaf (fun p=>ws.getD p 0) j' (G.fp S.used j')) (b:=G.fp S.used j') (by omega) (by omega)).to fun gD kD=>⟨_,_,rfl,Int.NonNeg.mk 0,Int.NonNeg.mk 7,?_⟩
       have e13D:gD b13=some (.cells (SV.cells (.ws 8 dat0)).toArray 100 (0,0)):=by rw[kD.get e13];rfl
       refine wbMS ((VA.more kAC).more kD) f130 e13D (i:=0) (by decide) fun gE VE e13E oE=>⟨Int.NonNeg.mk 1,Int.NonNeg.mk 6,?_⟩
       refine wbMS VE f130 e13E (i:=1) (by decide) fun gF VF e13F oF=>?_
       have KF:∀y,gA y≠none→gF y=gA y:=fun y hy=>by
         have h1:gB y=gA y:=kB y hy
         have hne:y≠b13:=fun e=>by rw[e] at h1 hy;rw[f13] at h1;exact hy h1.symm
         rw[oF y hne,oE y hne,kD y (by rw[kC y (by rw[h1];exact hy),h1];exact hy),kC y (by rw[h1];exact hy),h1]
       have RF:=RA.same (h':=gF) fun y hy=>KF y (RA.fdom o hy)
       have ZF:∀y,Z y→gF y=h12 y:=fun y hy=>by rw[KF y (by rw[ZA y hy];exact Zd y hy),ZA y hy]
       have F1:=(ZF b1 (.inl (.inl rfl))).trans i1
       have F3:=(ZF b3 (.inl (.inr (.inr (.inl rfl))))).trans i3
       have F7:=arr4_get ((ZF b7 (.inr (.inl rfl))).trans i7) (j:=j'+1) (by omega)
       rw[dr 0 (j'+1) (by omega),Nat.add_zero] at F7
       have hclF:hcell gF ql.b (ql.o+(j'+1))=some (vp ⟨B.lb (j'+1),0⟩):=by rw[hcell_same (KF ql.b (hcell_some hcl)),hcl]
       have n13S:¬SFo G B esj gsA b13:=(RA.keep o kB).out o f13
       refine⟨some ⟨B.sb,0⟩,rd1 F1 rfl,_,rfl,B.lv,rd1 RF.top rfl,ql,hql,by omega,by omega,some ⟨B.lb (j'+1),0⟩,by rw[Nat.mul_one];exact hclF,_,rd1 ((ZF b9 (.inr (.inr (.inr rfl)))).trans e12) rfl,rfl,_,wb_rd e13F,by omega,by omega,_,F7.1,?_⟩
       refine(store_shift hx62 (rd1 F3 rfl) (i:=j'+1) (by omega) rfl).mono ?_
       rintro _ gG ⟨rfl,kG⟩
       have RG:=RF.keep o kG
       refine⟨_,rfl,⟨kG.cell F7.1,trivial⟩,wb_rd (kG.get e13F),⟨by rw[Nat.mul_one];exact kG.cell hclF,trivial⟩,⟨rd1 RG.top rfl,trivial⟩,⟨rd1 (kG.get F1) rfl,trivial⟩,?_⟩
       have hb4:=(bid_toNat o hx (h:=j')).1
       generalize hq:x/4 ^ j'%4=qq
       have hqq:qq<4:=by rw[←hq];exact Nat.mod_lt _ (by decide)
       have eat:w64 (w64 ((bid x j'%4).toNat:Int)*2)=((2*qq:Nat):Int):=by
         have e1:(bid x j'%4).toNat=qq:=by
           rw[UInt64.toNat_mod,hb4,←hq];rfl
         rw[e1,w64_id (n:=(qq:Int)) (by omega) (by omega),w64_id (by omega) (by omega)];omega
       rw[eat]
       have eat2:w64 (((2*qq:Nat):Int)+1)=((2*qq+1:Nat):Int):=by rw[w64_id (by omega) (by omega)];omega
       rw[eat2]
       refine(level_Access (o.lev (j'+1)) (st.lvm (j'+1) (by omega)) RG.mem (RG.lev (j'+1) (by omega)) (RG.map (j'+1) (by omega)) (RG.dM (.lb (j'+1)) _ ⟨by omega,rfl⟩) (RG.dM (.mp (j'+1)) _ ⟨by omega,rfl⟩) (fr:=fr.1) (to:=G.leaf (fun p=>ws.getD p 0) (j'+1) (G.fp S.used (j'+1))) hfr (G.leaf_lt _ (j'+1) _) (bi:=bid x (j'+1)) hbi.2 (aiA.wm (j'+1) (by omega))
         (op:= .part (2*qq) (UInt64.ofNat (G.leaf (fun p=>ws.getD p 0) j' (G.fp S.used j')+1)) (UInt64.ofNat (G.fp S.used j'))) ⟨rfl,rfl,by omega,by simp,by simp⟩ (by omega)).mono ?_
       rintro _ gH ⟨esH,rfl,MH,LH,mH,nlH,nmH,vH⟩
       obtain⟨RH,wH⟩:=RG.levl o (i:=j'+1) (by omega) MH LH mH nlH nmH vH
       obtain⟨ZH,ZSH⟩:=mv_apart wH (fun y hy=>by rw[kG y (by rw[ZF y hy];exact Zd y hy),ZF y hy];exact Zd y hy) ZSA
       have ZH:∀y,Z y→gH y=h12 y:=fun y hy=>by rw[ZH y hy,kG y (by rw[ZF y hy];exact Zd y hy),ZF y hy]
       have kG':gG kl=_:=(kG kl (by rw[KF kl (by rw[kA];simp),kA];simp)).trans ((KF kl (by rw[kA];simp)).trans kA)
       have b12G:gG b12=_:=(kG b12 (by rw[KF b12 (by rw[b12A];simp),b12A];simp)).trans ((KF b12 (by rw[b12A];simp)).trans b12A)
       have kH:=wH.get kG' nkA
       have nkH:=wH.out (by rw[kG'];simp) nkA
       have b12H:=wH.get b12G n12A
       have n12H:=wH.out (by rw[b12G];simp) n12A
       have VH:=(VF.more kG).trans wH
       obtain⟨aiN,carN⟩:=part_ok o (u0:=u0) (u:=S.used) (h:=j') (q1:=qq) (by omega) hqq (by omega) hu aiA (id:=bid x (j'+1)) hbi.2 hfr (G.leaf_lt (fun p=>ws.getD p 0) (j'+1) (G.fp S.used (j'+1)))
       refine⟨_,_,rfl,newC fun b14 gI f14 e14 kI=>?_⟩
       have f140:h b14=none:=VH.2.2 _ f14
       refine wbMW (n:=8) (VH.more kI) f140 e14 rfl fun gJ VJ e14J oJ=>?_
       refine⟨by omega,by omega,_,by rw[show 0+Int.toNat ((2*qq:Nat):Int)*1=2*qq by omega];exact wb_get e14J (by omega),by omega,by omega,_,by rw[show 0+Int.toNat ((2*qq+1:Nat):Int)*1=2*qq+1 by omega];exact wb_get e14J (by omega),?_⟩
       have cv:=hvb carN
       rw[dget_lt _ (by omega),dget_lt _ (by omega)] at carN
       rw[dget_lt _ (by omega)] at cv
       refine(store_told _ _ cv).to fun gK kK=>⟨_,_,rfl,?_⟩
       have KJ:∀y,gH y≠none→gK y=gH y:=fun y hy=>by
         have e:gJ y=gH y:=by rw[oJ y fun e=>hy (e▸f14),kI y hy]
         rw[kK y (by rw[e];exact hy),e]
       have b12K:=(KJ b12 (by rw[b12H];simp)).trans b12H
       refine stMW (VJ.more kK) f120 b12K rfl fun gL VL e12L oL=>⟨(oL _ (Ne.symm n12k)).trans ((KJ kl (by rw[kH];simp)).trans kH),.inl ⟨rfl,by omega,upd_same _ _ _,(G.old (j'+1) (bid x (j'+1)) fr.1 { Sj with gone:=Sj.gone++[fr] }).1[2*qq],(G.old (j'+1) (bid x (j'+1)) fr.1 { Sj with gone:=Sj.gone++[fr] }).1[2*qq+1],G.acc (j'+1) (.part (2*qq) (UInt64.ofNat (G.leaf (fun p=>ws.getD p 0) j' (G.fp S.used j')+1)) (UInt64.ofNat (G.fp S.used j'))) (bid x (j'+1)) fr.1 (G.leaf (fun p=>ws.getD p 0) (j'+1) (G.fp S.used (j'+1))) { Sj with gone:=Sj.gone++[fr] },evj++levEv (G.lp (j'+1)).k (G.lp (j'+1)).s (G.lp (j'+1)).t (G.base (j'+1)) fr.1,esH,gsA,?_,VL.loc hkl0 _,fun y hy=>?_,ZSH,n12H,nkH,?_,?_,?_,?_,?_,?_⟩⟩
       · exact RH.same fun y hy=>by
           have h5:y≠b12:=fun e=>n12H (e▸hy)
           have hk:y≠kl:=fun e=>nkH (e▸hy)
           rw[upd_ne _ _ hk,oL y h5,KJ y (RH.fdom o hy)]
       · rw[upd_ne _ _ (Zk y hy),oL y (n12Z y hy),KJ y (by rw[ZH y hy];exact Zd y hy),ZH y hy]
       · rw[upd_ne _ _ n12k];exact e12L
       · rw[show G.L-1-(i+1)=j' by omega,←dget_lt _ (show 2*qq<8 by omega),←dget_lt _ (show 2*qq+1<8 by omega),←hgo,←hway,←hq];rfl
       · rw[show G.L-1-(i+1)=j' by omega];exact aiN
       · rw[show G.L-1-(i+1)=j' by omega];exact carN
       · show(Sj.gone++[fr]).length=_;rw[List.length_append,hgl];simp;omega
       · rw[hev,evs_step (j:=j'+1) hgl (by omega)];rfl
   rintro _ h28 (⟨hLL,_⟩|⟨hdn,ev',es',gs',RF,VF,nkF,⟨T5,hb5⟩,⟨T6,hb6⟩,hev⟩)
   · omega
   have n5k:=Zk b5 (.inl (.inr (.inr (.inr (.inr (.inl rfl))))))
   have n6k:=Zk b6 (.inl (.inr (.inr (.inr (.inr (.inr rfl))))))
   refine .inl ⟨hdn,F.2.1,wb_rd ((upd_ne _ _ n5k).trans hb5),F.2.2,rd1 ((upd_ne _ _ n6k).trans hb6) rfl,ev',es',gs',rfl,RF.same fun y hy=>upd_ne _ _ fun e=>nkF (e▸hy),VF.loc hkl0 _,?_⟩
   rw[hev,←hpre,hrn2]
   unfold accEv
   simp only[List.append_assoc]
end
end Go.Proofs.Tryz
namespace Go.Proofs.Tryz
open Go Go.Sh Go.RowKit
set_option maxRecDepth 8000
section
variable {G:SP} {ws:List UInt64} {B:StB} {S:SSt} {ev:List Ev} {es gs:Sl} {h:Hp}
theorem store_over (o:G.Ok) (R:StR G ws B S ev es gs h):callK prog 13 [vp ⟨B.sb,0⟩] h fun v h'=>v= .bool ((List.range G.L).any S.over)∧h'=h:=by
 have hL:=o.L
 have hl:=R.lvs.len
 simp only[List.length_map,List.length_range] at hl
 refine c13 _ ?_
 unfold G13
 refine⟨_,rd1 R.top rfl,?_⟩
 refine c48 _ _ ?_
 unfold G48
 refine c93 _ _ ?_
 unfold G93
 refine⟨fun s1 v1 n1 n2 g k=>B.lv=s1∧v1= .func (.func 49) #[] #[]∧n1=(G.L:Nat)∧∃i:Nat,n2=i∧i≤G.L∧k=G.L-i∧g=h∧(List.range i).any S.over=false,⟨G.L,rfl,rfl,by rw[hl],0,rfl,by omega,rfl,rfl,rfl⟩,?_⟩
 rintro s1 v1 n1 n2 g k ⟨rfl,rfl,rfl,i,rfl,hi,rfl,rfl,hno⟩
 refine ifD (fun hlt=>?_) fun hge=>?_
 · have hi':i<G.L:=by omega
   refine R.lvs.ix (i:=i) (by simpa using hi') fun q _ hc=>?_
   have e:((List.range G.L).map B.lb)[i]'(by simpa using hi')=B.lb i:=by simp
   rw[e] at hc
   refine⟨some ⟨B.lb i,0⟩,hc,rfl,?_⟩
   refine(level_over (R.lev i hi') rfl).mono ?_
   rintro _ _ ⟨rfl,rfl⟩
   refine⟨_,rfl,ifB_intro (fun ht=>?_) fun ht=>?_⟩
   · refine⟨_,rfl,_,rfl,?_,rfl⟩
     rw[decide_eq_true (show(0:Int)≤(i:Int) by omega)]
     have:(List.range G.L).any S.over=true:=List.any_eq_true.2 ⟨i,List.mem_range.2 hi',ht⟩
     rw[this]
   · refine⟨G.L-(i+1),by omega,rfl,rfl,rfl,i+1,w64_id (by omega) (by omega),by omega,rfl,rfl,?_⟩
     rw[List.range_succ,List.any_append,hno];simpa using ht
 · have hi':i=G.L:=by omega
   subst hi'
   refine⟨_,rfl,_,rfl,?_,rfl⟩
   rw[hno];rfl
end
end Go.Proofs.Tryz

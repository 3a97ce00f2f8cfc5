/- Two blocks in a store of one level: none is ever lost. -/
import Derived.Test.YtofgadhgljjhgaaGreatCukS
namespace Go.Sh
open Go.Proofs.Tryz
theorem two_len {α:Type} {u v:α}:∀ {l:List α},l.Nodup→(∀i∈l,i=u∨i=v)→l.length≤2
 | [],_,_=>by simp
 | [_],_,_=>by simp
 | [_,_],_,_=>by simp
 | a::b::c::l,hn,h=>by
   exfalso
   have ha:=h a (by simp)
   have hb:=h b (by simp)
   have hc:=h c (by simp)
   simp only[List.nodup_cons,List.mem_cons,not_or] at hn
   obtain⟨⟨hab,hac,_⟩,⟨hbc,_⟩,_⟩:=hn
   rcases ha with rfl|rfl<;>rcases hb with rfl|rfl<;>rcases hc with rfl|rfl<;>simp_all
structure FJ (G:SP) (w:Nat→UInt64) (a:Nat) (S:SSt):Prop where
 p:PI G w a S
 live:∃A,Live G S A
 fine:Fine G S
 ids:∀i∈S.ids 0,i=bid 0 0∨i=bid 1 0
 nd:(S.ids 0).Nodup
structure GJ (G:SP) (X:XP):Prop where
 c:CP G X
 L:G.L=1
 m:G.m=1
 t:2≤G.t
 T:X.T=1
section
variable {G:SP} {w:Nat→UInt64} {X:XP}
theorem meets_ok {op:LOp} {x:Nat} (hx:x<2) {l:List UInt64} (h:∀i∈l,i=bid 0 0∨i=bid 1 0) (hn:l.Nodup):(∀i∈meets op (bid x 0) l,i=bid 0 0∨i=bid 1 0)∧(meets op (bid x 0) l).Nodup:=by
 have hx':bid x 0=bid 0 0∨bid x 0=bid 1 0:=by
   have:x=0∨x=1:=by omega
   rcases this with rfl|rfl
   · exact .inl rfl
   · exact .inr rfl
 have app:¬bid x 0∈l→(∀i∈l++[bid x 0],i=bid 0 0∨i=bid 1 0)∧(l++[bid x 0]).Nodup:=fun hm=>by
   refine⟨fun i hi=>?_,?_⟩
   · rcases List.mem_append.1 hi with hi|hi
     · exact h i hi
     · rw[List.mem_singleton] at hi;rw[hi];exact hx'
   · rw[List.nodup_append]
     exact⟨hn,by simp,fun a ha b hb e=>hm (by rw[List.mem_singleton] at hb;rw[←hb,←e];exact ha)⟩
 cases op<;>simp only[meets]
 all_goals first
   | exact⟨h,hn⟩
   | (split
      · exact⟨h,hn⟩
      · rename_i hm;exact app hm)
theorem FJ.acc (g:GJ G X) {a:Nat} {S:SSt} (f:FJ G w a S) (ha:a≤100000) {op:LOp} {x:Nat} (hx:x<2):FJ G w (a+1) (stAcc G w op x S).1:=by
 have o:=g.c.o
 have hL:=g.L
 have ht:=g.t
 have hx':x<2 ^ G.m:=by rw[g.m];exact hx
 obtain⟨A,Bs,K,n⟩:=f.live
 have hu:=f.p.us
 have h1:2*G.L*a≤2*4*100000:=Nat.mul_le_mul (by omega) ha
 have h0:(stAcc G w op x S).1.ids 0=meets op (bid x 0) (S.ids 0):=by
   unfold stAcc
   rw[show G.L-1=0 by omega]
   rfl
 obtain⟨m1,m2⟩:=meets_ok (op:=op) hx f.ids f.nd
 have hl:=two_len m2 m1
 obtain⟨Bs',n',_,_,fin⟩:=stAcc_ni o f.p.us (by omega) f.p.ai f.p.gl hx' (top_lt o hx') n (.inr fun h hh=>⟨f.fine h hh,by
   have:h=0:=by omega
   subst this
   rw[h0];omega⟩)
 exact⟨f.p.acc o ha hx',⟨_,_,_,n'⟩,fin,by rw[h0];exact m1,by rw[h0];exact m2⟩
theorem FJ.setR (g:GJ G X) {a i:Nat} {cc:Cel} {S:SSt} (f:FJ G w a S):FJ G w a (Go.Sh.setR S (0,i) cc):=⟨f.p.setR g.c.f,f.live.imp fun _ l=>l.setR g.c.f,f.fine,f.ids,f.nd⟩
theorem GJ.blk (g:GJ G X) {t:Nat} (ht:t<2) (k:UInt64):X.blk t k=t:=by
 have:=g.c.xo.pl t k
 unfold XP.blk;rw[g.T] at *;omega
theorem FJ.blanks (g:GJ G X):∀n a S,FJ G w a S→a+n≤100000→FJ G w (a+n) (blanks G w n S)
 | 0,_,_,f,_=>f
 | n+1,a,S,f,h=>by
   have:=FJ.blanks g n (a+1) _ (f.acc g (by omega) (op:= .look) (x:=0) (by decide)) (by omega)
   rw[show a+1+n=a+(n+1) by omega] at this
   exact this
theorem FJ.kick (g:GJ G X):∀n i a S e on ch,FJ G w a S→a+n≤100000→FJ G w (a+n) (kick G w X n i S e on ch).1
 | 0,_,_,_,_,_,_,f,_=>f
 | n+1,i,a,S,e,on,ch,f,h=>by
   rw[show a+(n+1)=a+1+n by omega]
   unfold Go.Sh.kick
   split
   · exact FJ.kick g n (i+1) (a+1) _ _ _ _ (f.acc g (by omega) (by rw[g.blk (Nat.mod_lt _ (by decide))];exact Nat.mod_lt _ (by decide))) (by omega)
   · exact FJ.kick g n (i+1) (a+1) _ _ _ _ (f.acc g (by omega) (by decide)) (by omega)
theorem FJ.undo (g:GJ G X):∀(l:List (Nat×Dat)) a S,FJ G w a S→a+l.length≤100000→(∀x∈l,x.1<2)→FJ G w (a+l.length) (undo G w l S)
 | [],_,_,f,_,_=>f
 | (b,d)::l,a,S,f,h,hl=>by
   simp only[List.length_cons] at h ⊢
   rw[show a+(l.length+1)=a+1+l.length by omega]
   exact FJ.undo g l (a+1) _ (f.acc g (by omega) (hl (b,d) (by simp))) (by omega) fun x hx=>hl x (by simp[hx])
theorem FJ.ins (g:GJ G X) {a:Nat} {S:SSt} (f:FJ G w a S) (ha:a+2*X.K≤100000) (key cell:UInt64) (on:Bool):FJ G w (a+2*X.K) (insS G w X key cell on S).1:=by
 have fk:=FJ.kick g X.K 0 a S (key,cell) on [] f (by omega)
 have hlen:=kick_len (G:=G) (w:=w) (X:=X) X.K 0 S (key,cell) on []
 have hblk:=kick_blk (G:=G) (w:=w) g.c.xo X.K 0 S (key,cell) on [] (by simp)
 have e2:a+2*X.K=a+X.K+X.K:=by omega
 rw[e2]
 unfold insS
 simp only
 split
 · rename_i hon
   split
   · exact FJ.blanks g X.K (a+X.K) _ (fk.setR g) (by omega)
   · have hl:=hlen hon
     rw[List.length_nil,Nat.zero_add] at hl
     have:=FJ.undo g _ (a+X.K) _ fk (by rw[List.length_reverse,hl];omega) (fun x hx=>by have:=hblk x (List.mem_reverse.1 hx);rw[g.T] at this;exact this)
     rw[List.length_reverse,hl] at this
     exact this
 · exact FJ.blanks g X.K (a+X.K) _ fk (by omega)
theorem FJ.find (g:GJ G X) {a:Nat} {S:SSt} (f:FJ G w a S) (ha:a+2≤100000) (key:UInt64):FJ G w (a+2) (findS G w X key S).1 :=
 (f.acc g (by omega) (op:= .look) (x:=X.blk 0 key) (by rw[g.blk (by decide)];decide)).acc g (by omega) (op:= .look) (x:=X.blk 1 key) (by rw[g.blk (by decide)];decide)
theorem FJ.rem (g:GJ G X) {a:Nat} {S:SSt} (f:FJ G w a S) (ha:a+2≤100000) (key:UInt64) (t:Int) (at_:UInt64) (on:Bool):FJ G w (a+1) (remS G w X key t at_ on S):=by
 have h:FJ G w (a+1) (if on&&(t==0||t==1) then (stAcc G w .drop (X.blk t.toNat key) S).1 else blankS G w S):=by
   split
   · rename_i h
     have h2:(t==0||t==1)=true:=(Bool.and_eq_true _ _▸h).2
     rw[Bool.or_eq_true,beq_iff_eq,beq_iff_eq] at h2
     exact f.acc g (by omega) (by rw[g.blk (by omega)];omega)
   · exact f.acc g (by omega) (by decide)
 unfold remS
 simp only
 split
 · exact h.setR g
 · exact h
theorem kick_one (g:GJ G X) {a:Nat} {S:SSt} {A:UInt64→Option Dat} (p:PI G w a S) (ha:a≤100000) (l:Live G S A) {n i:Nat} {e:KC} {ch:List (Nat×Dat)}
   (fin:Fine G (kick G w X (n+1) i S e true ch).1) (h:(kick G w X (n+1) i S e true ch).2.2.1=true) :
   (∃u,EA A (i%2)=some u)∧∃S' e' ch',PI G w (a+1) S'∧Live G S' (updA A (.put (eDat e)) (UInt64.ofNat (i%2)))∧kick G w X (n+1) i S e true ch=kick G w X n (i+1) S' e' true ch':=by
 have hm2:i%2<2:=Nat.mod_lt _ (by decide)
 have hb:X.blk (i%2) e.1=i%2:=g.blk hm2 _
 have hx:X.blk (i%2) e.1<2 ^ G.m:=by rw[hb,g.m];exact hm2
 have fin2:=kick_fine n (i+1) _ _ _ _ fin
 obtain⟨l2,ho⟩:=l.acc g.c.o p ha (op:= .put (eDat e)) hx fin2
 have hold:dEnt (stAcc G w (.put (eDat e)) (X.blk (i%2) e.1) S).2.1=EA A (X.blk (i%2) e.1):=by rw[ho];exact dEnt_out A _
 have hk:kick G w X (n+1) i S e true ch=kick G w X n (i+1) (stAcc G w (.put (eDat e)) (X.blk (i%2) e.1) S).1 (rEnt (stAcc G w (.put (eDat e)) (X.blk (i%2) e.1) S).2.1) ((stAcc G w (.put (eDat e)) (X.blk (i%2) e.1) S).2.1[0]==1) (ch++[(X.blk (i%2) e.1,(stAcc G w (.put (eDat e)) (X.blk (i%2) e.1) S).2.1)]):=rfl
 rw[hk] at h ⊢
 have p2:=p.acc g.c.o ha (op:= .put (eDat e)) hx
 rw[hb] at hold l2 p2 h ⊢
 cases h0:((stAcc G w (.put (eDat e)) (i%2) S).2.1[0]==1) with
 | false=>rw[h0,kick_off] at h;cases h
 | true =>
   refine⟨⟨rEnt (stAcc G w (.put (eDat e)) (i%2) S).2.1,?_⟩,_,_,_,p2,l2,rfl⟩
   · rw[←hold];unfold dEnt;rw[if_pos (by simpa using h0)]
theorem kick_both (g:GJ G X) {a:Nat} {S:SSt} {A:UInt64→Option Dat} (p:PI G w a S) (ha:a+1≤100000) (l:Live G S A) {n:Nat} {e:KC} {ch:List (Nat×Dat)}
   (fin:Fine G (kick G w X (n+2) 0 S e true ch).1) (h:(kick G w X (n+2) 0 S e true ch).2.2.1=true):(∃u,EA A 0=some u)∧∃u,EA A 1=some u:=by
 obtain⟨h0,S',e',ch',p2,l2,hk⟩:=kick_one g p (by omega) l fin h
 rw[hk] at fin h
 obtain⟨⟨u,h1⟩,_⟩:=kick_one g p2 (by omega) l2 fin h
 have h1:EA (updA A (.put (eDat e)) (UInt64.ofNat 0)) 1=some u:=h1
 rw[EA_put (by decide) (by decide),if_neg (by decide)] at h1
 exact⟨h0,u,h1⟩
theorem ins_no (g:GJ G X) {a:Nat} {S:SSt} (p:PI G w a S) (ha:a+1≤100000) (hK:2≤X.K) {M:UInt64→Option UInt64} (gd:IGood G X S M) {key cell:UInt64}
   (fin:Fine G (insS G w X key cell true S).1) (h:(insS G w X key cell true S).2=false) {L:List Nat} (hL:∀k c,M k=some c→k.toNat∈L):X.sp+2≤L.length:=by
 obtain⟨A,l,r,ws⟩:=gd (ins_fine fin)
 have hk:(kick G w X X.K 0 S (key,cell) true []).2.2.1=true∧sfirst (fun i=>(S.R 0 i)[0]==0) X.sp=none∧Fine G (kick G w X X.K 0 S (key,cell) true []).1:=by
   unfold insS at h fin
   simp only at h fin
   split at h
   · rename_i h1
     split at h
     · cases h
     · rename_i h2
       rw[if_pos h1,h2] at fin
       exact⟨h1,h2,undo_fine _ _ fin⟩
   · cases h
 obtain⟨k1,k2,k3⟩:=hk
 obtain⟨n,hn⟩:∃n,X.K=n+2:=⟨X.K-2,by omega⟩
 rw[hn] at k1 k3
 obtain⟨⟨u0,h0⟩,u1,h1⟩:=kick_both g p ha l k3 k1
 have hT:=g.T
 have full:∀z,z<X.sp+2→∃e,Hc X (EA A) (S.R 0) none z=some e:=fun z hz=>by
   by_cases z0:z<2*X.T
   · rw[Hc_tab z0]
     have:z=0∨z=1:=by omega
     rcases this with rfl|rfl
     · exact⟨_,h0⟩
     · exact⟨_,h1⟩
   · have hz':z-2*X.T<X.sp:=by omega
     have e:z=2*X.T+(z-2*X.T):=by omega
     rw[e,Hc_spill hz']
     rcases ws _ hz' with hc|⟨e,hc⟩
     · have:=sfirst_none k2 _ hz'
       rw[hc] at this;cases this
     · exact⟨e,by rw[hc,cEnt_spC]⟩
 refine few_of (fun z=>((Hc X (EA A) (S.R 0) none z).getD (0,0)).1.toNat) (fun z hz=>?_) fun z z' hz hz' he=>?_
 · obtain⟨e,h⟩:=full z hz
   show((Hc X (EA A) (S.R 0) none z).getD (0,0)).1.toNat∈L
   rw[h];exact hL e.1 e.2 ((r.mod e.1 e.2).2 ⟨z,h⟩)
 · obtain⟨e,h⟩:=full z hz
   obtain⟨e',h'⟩:=full z' hz'
   have he:((Hc X (EA A) (S.R 0) none z).getD (0,0)).1.toNat=((Hc X (EA A) (S.R 0) none z').getD (0,0)).1.toNat:=he
   rw[h,h'] at he
   exact r.inj z z' e e' h h' (UInt64.toNat_inj.1 he)
theorem ins_noR (c:CP G X) {a:Nat} {S:SSt} (p:PI G w a S) (ha:a+2*X.K≤100000) {key cell:UInt64} (h:(insS G w X key cell true S).2=false):(insS G w X key cell true S).1.R 0=S.R 0∧sfirst (fun i=>(S.R 0 i)[0]==0) X.sp=none:=by
 obtain⟨k1,k2⟩:=kick_pi c.o c.xo c.m c.f X.K 0 a S (key,cell) true [] p (by omega)
 have hlen:=kick_len (G:=G) (w:=w) (X:=X) X.K 0 S (key,cell) true []
 have hblk:=kick_blk (G:=G) (w:=w) c.xo X.K 0 S (key,cell) true [] (by simp)
 have hT:=c.T
 unfold insS at h ⊢
 simp only at h ⊢
 split at h
 · rename_i h1
   split at h
   · cases h
   · rename_i h2
     have hl:=hlen h1
     rw[List.length_nil,Nat.zero_add] at hl
     rw[if_pos h1,h2]
     exact⟨(undo_ok c.o c.f c.m (by omega) _ (a+X.K) _ k1 (by rw[List.length_reverse,hl];omega) fun x hx=>hblk x (List.mem_reverse.1 hx)).2.1.trans k2,rfl⟩
 · cases h
theorem rep_few {F:Nat→Option KC} {f:Nat→Cel} {M:UInt64→Option UInt64} (r:Rep X (Hc X F f none) M) (hT:X.T=1) {ks:Nat→UInt64} {n:Nat} (hks:∀i,i<n→∃c,M (ks i)=some c) (inj:∀i j,i<n→j<n→ks i=ks j→i=j):n≤X.sp+2:=by
 classical
 have at_:∀i,i<n→∃m,∃c,Hc X F f none m=some (ks i,c):=fun i hi=>by
   obtain⟨c,hc⟩:=hks i hi
   obtain⟨m,hm⟩:=(r.mod _ _).1 hc
   exact⟨m,c,hm⟩
 have low:∀m e,Hc X F f none m=some e→m<X.sp+2:=fun m e hm=>by
   unfold Hc at hm
   split at hm
   · omega
   · split at hm
     · omega
     · split at hm<;>cases hm
 have:=few_of (L:=List.range (X.sp+2)) (n:=n) (fun i=>if h:∃m,∃c,Hc X F f none m=some (ks i,c) then Classical.choose h else 0) (fun i hi=>?_) fun i j hi hj he=>?_
 · simpa using this
 · have h:=at_ i hi
   show(if h:∃m,∃c,Hc X F f none m=some (ks i,c) then Classical.choose h else 0)∈_
   rw[dif_pos h]
   obtain⟨c,hc⟩:=Classical.choose_spec h
   exact List.mem_range.2 (low _ _ hc)
 · have h:=at_ i hi
   have h':=at_ j hj
   have he:(if h:∃m,∃c,Hc X F f none m=some (ks i,c) then Classical.choose h else 0)=(if h:∃m,∃c,Hc X F f none m=some (ks j,c) then Classical.choose h else 0):=he
   rw[dif_pos h,dif_pos h'] at he
   obtain⟨c,hc⟩:=Classical.choose_spec h
   obtain⟨c',hc'⟩:=Classical.choose_spec h'
   rw[he,hc'] at hc
   exact inj i j hi hj (Prod.mk.inj (Option.some.inj hc)).1.symm
end
end Go.Sh

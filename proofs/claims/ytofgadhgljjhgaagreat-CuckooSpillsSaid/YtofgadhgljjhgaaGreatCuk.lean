/- Two tables in a store, and a spill: plain. -/
import Derived.Test.YtofgadhgljjhgaaGreatLawR
namespace Go.Sh
open Go.Proofs.Tryz
abbrev KC:=UInt64×UInt64
def eDat (e:KC):Dat:=#v[1,e.1+1,e.2,0,0,0,0,0]
def rEnt (d:Dat):KC:=(d[1]-1,d[2])
def dEnt (d:Dat):Option KC:=if d[0]=1 then some (rEnt d) else none
theorem dEnt_eDat (e:KC):dEnt (eDat e)=some e:=by
 unfold dEnt
 rw[if_pos (show(eDat e)[0]=1 from rfl)]
 show some (e.1+1-1,e.2)=some e
 rw[show e.1+1-1=e.1 from by
   apply UInt64.toNat_inj.1
   rw[UInt64.toNat_sub,UInt64.toNat_add]
   have:=e.1.toNat_lt
   simp;omega]
def spC (e:KC):Cel:=#v[1,e.1+1,e.2,0,0,0,0,0,0,0,0,0]
def cEnt (c:Cel):Option KC:=if c[0]=1 then some (c[1]-1,c[2]) else none
theorem cEnt_spC (e:KC):cEnt (spC e)=some e:=dEnt_eDat e
theorem cEnt_cel0:cEnt cel0=none:=rfl
structure XP where
 T:Nat
 pl:Nat→UInt64→Nat
 K:Nat
 sp:Nat
structure XP.Ok (X:XP):Prop where
 T:1≤X.T
 pl:∀t k,X.pl t k<X.T
 sp:1≤X.sp
def XP.blk (X:XP) (t:Nat) (k:UInt64):Nat:=t*X.T+X.pl t k
theorem XP.blk_lt {X:XP} (o:X.Ok) {t:Nat} (ht:t<2) (k:UInt64):X.blk t k<2*X.T:=by
 have:=o.pl t k
 have:t=0∨t=1:=by omega
 unfold XP.blk
 rcases this with rfl|rfl<;>omega
theorem XP.blk_div {X:XP} (o:X.Ok) (t:Nat) (k:UInt64):X.blk t k/X.T=t:=by
 unfold XP.blk
 rw[Nat.mul_comm,Nat.mul_add_div (by have:=o.T;omega),Nat.div_eq_of_lt (o.pl t k),Nat.add_zero]
def sfirst (p:Nat→Bool):Nat→Option Nat
 | 0=>none
 | m+1=>match sfirst p m with
   | some i=>some i
   | none=>if p m then some m else none
theorem sfirst_some {p:Nat→Bool}:∀ {m i},sfirst p m=some i→i<m∧p i=true
 | m+1,i,h=>by
   simp only[sfirst] at h
   cases e:sfirst p m with
   | some j =>
     rw[e] at h;cases h
     have:=sfirst_some e
     exact⟨by omega,this.2⟩
   | none =>
     rw[e] at h
     simp only at h
     split at h
     · rename_i hp;cases h;exact⟨by omega,hp⟩
     · cases h
theorem sfirst_none {p:Nat→Bool}:∀ {m},sfirst p m=none→∀i,i<m→p i=false
 | m+1,h,i,hi=>by
   simp only[sfirst] at h
   cases e:sfirst p m with
   | some j=>rw[e] at h;cases h
   | none =>
     rw[e] at h
     simp only at h
     split at h
     · cases h
     · rename_i hp
       by_cases c:i=m
       · subst c;simpa using hp
       · exact sfirst_none e i (by omega)
def hit (key:UInt64) (o:Option KC):Option UInt64:=match o with
 | some e=>if e.1=key then some e.2 else none
 | none=>none
abbrev Spt:=Int×UInt64×UInt64
def XP.spot (X:XP) (key:UInt64) (a b:Option KC) (f:Nat→Cel):Spt :=
 match hit key a with
 | some c=>(0,UInt64.ofNat (X.pl 0 key),c)
 | none=>match hit key b with
   | some c=>(1,UInt64.ofNat (X.pl 1 key),c)
   | none=>match sfirst (fun i=>(f i)[1]==key+1) X.sp with
     | some i=>(2,UInt64.ofNat i,(f i)[2])
     | none=>(-1,0,0)
def setR (S:SSt) (q:Nat×Nat) (c:Cel):SSt:={ S with R:=set2 S.R q c }
section
variable (G:SP) (w:Nat→UInt64) (X:XP)
def blankS (S:SSt):SSt:=(stAcc G w .look 0 S).1
def blanks:Nat→SSt→SSt
 | 0,S=>S
 | n+1,S=>blanks n (blankS G w S)
def findS (key:UInt64) (S:SSt):SSt×Spt :=
 let a:=stAcc G w .look (X.blk 0 key) S
 let b:=stAcc G w .look (X.blk 1 key) a.1
 (b.1,X.spot key (dEnt a.2.1) (dEnt b.2.1) (S.R 0))
def kick:(n i:Nat)→SSt→KC→Bool→List (Nat×Dat)→SSt×KC×Bool×List (Nat×Dat)
 | 0,_,S,e,on,ch=>(S,e,on,ch)
 | n+1,i,S,e,on,ch =>
   if on then
     let r:=stAcc G w (.put (eDat e)) (X.blk (i%2) e.1) S
     kick n (i+1) r.1 (rEnt r.2.1) (r.2.1[0]==1) (ch++[(X.blk (i%2) e.1,r.2.1)])
   else kick n (i+1) (blankS G w S) e on ch
def undo:List (Nat×Dat)→SSt→SSt
 | [],S=>S
 | (b,d)::l,S=>undo l (stAcc G w (.put d) b S).1
def insS (key cell:UInt64) (on:Bool) (S:SSt):SSt×Bool :=
 let r:=kick G w X X.K 0 S (key,cell) on []
 if r.2.2.1 then
   match sfirst (fun i=>(S.R 0 i)[0]==0) X.sp with
   | some i=>(blanks G w X.K (setR r.1 (0,i) (spC r.2.1)),true)
   | none=>(undo G w r.2.2.2.reverse r.1,false)
 else (blanks G w X.K r.1,true)
def remS (key:UInt64) (t:Int) (at_:UInt64) (on:Bool) (S:SSt):SSt :=
 let S1:=if on&&(t==0||t==1) then (stAcc G w .drop (X.blk t.toNat key) S).1 else blankS G w S
 if on&&t==2&&decide (at_.toNat<X.sp) then setR S1 (0,at_.toNat) cel0 else S1
end
/-! ## what a step of the store is -/
structure PI (G:SP) (w:Nat→UInt64) (a:Nat) (S:SSt):Prop where
 ai:AI G w 0 S.used S
 us:S.used=0+2*G.L*a
 gl:S.gone.length=G.L*a
def Fine (G:SP) (S:SSt):Prop:=∀z,z<G.L→S.over z=false
section
variable {G:SP} {w:Nat→UInt64} {X:XP}
theorem PI.acc (o:G.Ok) {a:Nat} {S:SSt} (p:PI G w a S) (ha:a≤100000) {op:LOp} {x:Nat} (hx:x<2 ^ G.m):PI G w (a+1) (stAcc G w op x S).1:=by
 have hL:=o.L
 have h1:2*G.L*a≤2*4*100000:=Nat.mul_le_mul (by omega) ha
 have hu:=p.us
 obtain⟨b1,b2,b3⟩:=stAcc_ok o p.us (by omega) p.ai p.gl (op:=op) hx (top_lt o hx)
 exact⟨by rw[b3];exact b1,by rw[b3,hu,Nat.mul_succ];omega,b2⟩
theorem Live.acc (o:G.Ok) {a:Nat} {S:SSt} (p:PI G w a S) (ha:a≤100000) {op:LOp} {x:Nat} (hx:x<2 ^ G.m) {A:UInt64→Option Dat} (l:Live G S A) (f:Fine G (stAcc G w op x S).1) :
   Live G (stAcc G w op x S).1 (updA A op (UInt64.ofNat x))∧(stAcc G w op x S).2=outA A (UInt64.ofNat x):=by
 have hL:=o.L
 have h1:2*G.L*a≤2*4*100000:=Nat.mul_le_mul (by omega) ha
 have hu:=p.us
 obtain⟨Bs,K,n⟩:=l
 obtain⟨Bs',n',o',_,_⟩:=stAcc_ni o p.us (by omega) p.ai p.gl hx (top_lt o hx) n (.inl f)
 rw[bid_zero] at n' o'
 exact⟨⟨Bs',_,n'⟩,o'⟩
theorem Fine.back {op:LOp} {x:Nat} {S:SSt} (f:Fine G (stAcc G w op x S).1):Fine G S:=fun z hz=>stAcc_mono op x S z (f z hz)
theorem goDn_R0 (hf:G.f=1) (op:LOp) (u x:Nat) (i:Nat):∀h v p S,(goDn G w u op x h v p S).1.R 0 i=S.R 0 i
 | 0,v,p,S=>by
   show lput (G.base 0) S.R (levM (G.lp 0) op (bid x 0) (way v p (G.leaf w 0 (G.fp u 0+1),G.fp u 0+1)).1 (G.leaf w 0 (G.fp u 0)) (G.lv 0 S.R)) 0 i=S.R 0 i
   exact lput_out (.inl (by unfold SP.base;omega))
 | h+1,v,p,S=>by
   let S1:SSt:={ S with gone:=S.gone++[way v p (G.leaf w (h+1) (G.fp u (h+1)+1),G.fp u (h+1)+1)] }
   let o1:LOp:= .part (2*(x/4 ^ h%4)) (UInt64.ofNat (G.leaf w h (G.fp u h)+1)) (UInt64.ofNat (G.fp u h))
   let S2:=G.acc (h+1) o1 (bid x (h+1)) (way v p (G.leaf w (h+1) (G.fp u (h+1)+1),G.fp u (h+1)+1)).1 (G.leaf w (h+1) (G.fp u (h+1))) S1
   let ol:=(G.old (h+1) (bid x (h+1)) (way v p (G.leaf w (h+1) (G.fp u (h+1)+1),G.fp u (h+1)+1)).1 S1).1
   have h2:=goDn_R0 hf op u x i h (dget ol (2*(x/4 ^ h%4))) (dget ol (2*(x/4 ^ h%4)+1)) S2
   show(goDn G w u op x h (dget ol (2*(x/4 ^ h%4))) (dget ol (2*(x/4 ^ h%4)+1)) S2).1.R 0 i=_
   rw[h2]
   show lput (G.base (h+1)) S.R (levM (G.lp (h+1)) o1 (bid x (h+1)) (way v p (G.leaf w (h+1) (G.fp u (h+1)+1),G.fp u (h+1)+1)).1 (G.leaf w (h+1) (G.fp u (h+1))) (G.lv (h+1) S.R)) 0 i=S.R 0 i
   exact lput_out (.inl (by unfold SP.base;omega))
theorem stAcc_R0 (hf:G.f=1) (op:LOp) (x:Nat) (S:SSt) (i:Nat):(stAcc G w op x S).1.R 0 i=S.R 0 i:=by
 have h:=goDn_R0 (G:=G) (w:=w) hf op S.used x i (G.L-1) (S.R G.f (x/4 ^ (G.L-1)))[0] (S.R G.f (x/4 ^ (G.L-1)))[1] (G.begin w (x/4 ^ (G.L-1)) S)
 refine Eq.trans h ?_
 show set2 S.R (G.f,_) _ 0 i=S.R 0 i
 exact set2_ne _ (fun e=>by have:(0:Nat)=G.f:=e.1;omega)
/-! ## the spill is apart from the store -/
theorem lv_setR (hf:G.f=1) {i:Nat} {c:Cel} {S:SSt} (h:Nat):G.lv h (setR S (0,i) c).R=G.lv h S.R:=by
 funext r j
 exact set2_ne _ fun e=>by have:G.base h+r=0:=e.1;unfold SP.base at this;omega
theorem f_setR (hf:G.f=1) {i:Nat} {c:Cel} {S:SSt}:(setR S (0,i) c).R G.f=S.R G.f:=by
 funext j
 exact set2_ne _ fun e=>by have:G.f=0:=e.1;omega
theorem Ent_congr {R R':Regs} (h1:∀h,G.lv h R'=G.lv h R) (h2:R' G.f=R G.f):Ent G R'=Ent G R:=by
 funext l ht v p
 cases l<;>simp only[Ent,h1,h2]
theorem told_congr {R R':Regs} {Bs:Blks} (h2:R' G.f=R G.f):told G R' Bs=told G R Bs:=by
 funext h id
 simp only[told,h2]
theorem PI.setR (hf:G.f=1) {a i:Nat} {c:Cel} {S:SSt} (p:PI G w a S):PI G w a (Go.Sh.setR S (0,i) c):=by
 have e1:=Ent_congr (lv_setR hf (i:=i) (c:=c) (S:=S)) (f_setR hf)
 refine⟨⟨fun h hh=>by rw[lv_setR hf];exact p.ai.wm h hh,?_,?_,p.ai.gone⟩,p.us,p.gl⟩
 · rw[e1];exact p.ai.good
 · rw[e1];exact p.ai.uniq
theorem Live.setR (hf:G.f=1) {i:Nat} {c:Cel} {S:SSt} {A:UInt64→Option Dat} (l:Live G S A):Live G (Go.Sh.setR S (0,i) c) A:=by
 obtain⟨Bs,K,n⟩:=l
 refine⟨Bs,K,fun h hh=>by rw[lv_setR hf];exact n.li h hh,?_,n.lk,n.ab,n.mt⟩
 rw[told_congr (f_setR hf)];exact n.tl
/-! ## what is in the blocks -/
def EA (A:UInt64→Option Dat) (n:Nat):Option KC:=(A (UInt64.ofNat n)).bind dEnt
theorem dEnt_out (A:UInt64→Option Dat) (n:Nat):dEnt (outA A (UInt64.ofNat n)).1=EA A n:=by
 unfold outA EA
 cases A (UInt64.ofNat n) with
 | none=>rfl
 | some d=>rfl
theorem updA_look (A:UInt64→Option Dat) (x:UInt64):updA A .look x=A:=by
 funext id
 by_cases e:id=x
 · subst e
   rw[updA_eq]
   show LOp.look.now _ _=_
   unfold outA
   cases A id<;>rfl
 · exact updA_ne e
theorem ofNat_inj {x y:Nat} (hx:x<100000) (hy:y<100000) (e:UInt64.ofNat x=UInt64.ofNat y):x=y:=by
 have:=congrArg UInt64.toNat e
 rw[UInt64.toNat_ofNat',UInt64.toNat_ofNat'] at this;omega
theorem EA_put {A:UInt64→Option Dat} {d:Dat} {b n:Nat} (hb:b<100000) (hn:n<100000):EA (updA A (.put d) (UInt64.ofNat b)) n=if n=b then dEnt d else EA A n:=by
 by_cases e:n=b
 · subst e;rw[if_pos rfl];unfold EA;rw[updA_eq];rfl
 · rw[if_neg e];unfold EA;rw[updA_ne fun h=>e (ofNat_inj hn hb h)]
theorem EA_drop {A:UInt64→Option Dat} {b n:Nat} (hb:b<100000) (hn:n<100000):EA (updA A .drop (UInt64.ofNat b)) n=if n=b then none else EA A n:=by
 by_cases e:n=b
 · subst e;rw[if_pos rfl];unfold EA;rw[updA_eq];rfl
 · rw[if_neg e];unfold EA;rw[updA_ne fun h=>e (ofNat_inj hn hb h)]
def Hc (X:XP) (F:Nat→Option KC) (f:Nat→Cel) (co:Option KC):Nat→Option KC:=fun n=>if n<2*X.T then F n else if n<2*X.T+X.sp then cEnt (f (n-2*X.T)) else if n=2*X.T+X.sp then co else none
structure Rep (X:XP) (H:Nat→Option KC) (M:UInt64→Option UInt64):Prop where
 ok:∀n,n<2*X.T→∀e,H n=some e→n=X.blk (n/X.T) e.1
 inj:∀n n' e e',H n=some e→H n'=some e'→e.1=e'.1→n=n'
 mod:∀k c,M k=some c↔∃n,H n=some (k,c)
theorem Rep.swap {H H':Nat→Option KC} {M:UInt64→Option UInt64} (r:Rep X H M) {x y:Nat} (hs:∀n,H' n=if n=x then H y else if n=y then H x else H n)
   (ox:x<2*X.T→∀e,H y=some e→x=X.blk (x/X.T) e.1) (oy:y<2*X.T→∀e,H x=some e→y=X.blk (y/X.T) e.1):Rep X H' M:=by
 let σ:Nat→Nat:=fun n=>if n=x then y else if n=y then x else n
 have hσ:∀n,H' n=H (σ n):=fun n=>by
   rw[hs];simp only[σ]
   split
   · rfl
   · split<;>rfl
 have inv:∀n,σ (σ n)=n:=fun n=>by
   simp only[σ]
   by_cases h1:n=x
   · subst h1;rw[if_pos rfl]
     by_cases h2:y=n
     · rw[if_pos h2,h2]
     · rw[if_neg h2,if_pos rfl]
   · rw[if_neg h1]
     by_cases h2:n=y
     · subst h2;rw[if_pos rfl,if_pos rfl]
     · rw[if_neg h2,if_neg h1,if_neg h2]
 refine⟨fun n hn e he=>?_,fun n n' e e' h1 h2 h3=>?_,fun k c=>?_⟩
 · rw[hs] at he
   split at he
   · rename_i h;subst h;exact ox hn e he
   · split at he
     · rename_i h;subst h;exact oy hn e he
     · exact r.ok n hn e he
 · rw[hσ] at h1 h2
   have:=r.inj _ _ e e' h1 h2 h3
   rw[←inv n,this,inv]
 · rw[r.mod]
   constructor
   · rintro⟨n,hn⟩;exact⟨σ n,by rw[hσ,inv];exact hn⟩
   · rintro⟨n,hn⟩;exact⟨σ n,by rw[←hσ];exact hn⟩
theorem Rep.congr {H H':Nat→Option KC} {M:UInt64→Option UInt64} (r:Rep X H M) (h:∀n,H' n=H n):Rep X H' M:=by
 have:H'=H:=funext h
 rw[this];exact r
theorem Rep.take {F:Nat→Option KC} {f:Nat→Cel} {M:UInt64→Option UInt64} (r:Rep X (Hc X F f none) M) {k c:UInt64} (hk:M k=none):Rep X (Hc X F f (some (k,c))) (fun x=>if x=k then some c else M x):=by
 have h0:∀n,n≠2*X.T+X.sp→Hc X F f (some (k,c)) n=Hc X F f none n:=fun n hn=>by
   unfold Hc
   split
   · rfl
   · split
     · rfl
     · simp only[hn,if_false]
 have hN:Hc X F f (some (k,c)) (2*X.T+X.sp)=some (k,c):=by
   unfold Hc;rw[if_neg (by omega),if_neg (by omega),if_pos rfl]
 have hN0:Hc X F f none (2*X.T+X.sp)=none:=by
   unfold Hc;rw[if_neg (by omega),if_neg (by omega),if_pos rfl]
 have fresh:∀n e,Hc X F f none n=some e→e.1≠k:=fun n e he hk'=>by
   have:=(r.mod e.1 e.2).2 ⟨n,he⟩
   rw[hk',hk] at this;cases this
 refine⟨fun n hn e he=>?_,fun n n' e e' h1 h2 h3=>?_,fun x y=>?_⟩
 · rw[h0 n (by omega)] at he;exact r.ok n hn e he
 · by_cases c1:n=2*X.T+X.sp
   · subst c1
     rw[hN] at h1;cases h1
     by_cases c2:n'=2*X.T+X.sp
     · exact c2.symm
     · rw[h0 n' c2] at h2;exact absurd h3.symm (fresh n' e' h2)
   · rw[h0 n c1] at h1
     by_cases c2:n'=2*X.T+X.sp
     · subst c2
       rw[hN] at h2;cases h2
       exact absurd h3 (fresh n e h1)
     · rw[h0 n' c2] at h2;exact r.inj n n' e e' h1 h2 h3
 · show(if x=k then some c else M x)=some y↔_
   by_cases e:x=k
   · subst e;rw[if_pos rfl]
     constructor
     · intro h;cases h;exact⟨_,hN⟩
     · rintro⟨n,hn⟩
       by_cases c1:n=2*X.T+X.sp
       · subst c1;rw[hN] at hn;cases hn;rfl
       · rw[h0 n c1] at hn;exact absurd rfl (fresh n (x,y) hn)
   · rw[if_neg e,r.mod]
     constructor
     · rintro⟨n,hn⟩
       refine⟨n,?_⟩
       by_cases c1:n=2*X.T+X.sp
       · subst c1;rw[hN0] at hn;cases hn
       · rw[h0 n c1];exact hn
     · rintro⟨n,hn⟩
       by_cases c1:n=2*X.T+X.sp
       · subst c1;rw[hN] at hn;cases hn;exact absurd rfl e
       · rw[h0 n c1] at hn;exact⟨n,hn⟩
theorem Rep.gone {H H':Nat→Option KC} {M:UInt64→Option UInt64} (r:Rep X H M) {x:Nat} {k c:UInt64} (hx:H x=some (k,c)) (hs:∀n,H' n=if n=x then none else H n):Rep X H' (fun y=>if y=k then none else M y):=by
 have sub:∀n e,H' n=some e→n≠x∧H n=some e:=fun n e he=>by
   rw[hs] at he
   split at he
   · cases he
   · rename_i h;exact⟨h,he⟩
 refine⟨fun n hn e he=>r.ok n hn e (sub n e he).2,fun n n' e e' h1 h2 h3=>r.inj n n' e e' (sub n e h1).2 (sub n' e' h2).2 h3,fun y z=>?_⟩
 show(if y=k then none else M y)=some z↔_
 by_cases e:y=k
 · subst e;rw[if_pos rfl]
   constructor
   · intro h;cases h
   · rintro⟨n,hn⟩
     obtain⟨h1,h2⟩:=sub n _ hn
     exact absurd (r.inj n x _ _ h2 hx rfl) h1
 · rw[if_neg e,r.mod]
   constructor
   · rintro⟨n,hn⟩
     refine⟨n,?_⟩
     rw[hs,if_neg (fun h=>e ?_)]
     · exact hn
     · rw[h,hx] at hn;cases hn;rfl
   · rintro⟨n,hn⟩;exact⟨n,(sub n _ hn).2⟩
/-! ## an insertion -/
def upE (F:Nat→Option KC) (b:Nat) (o:Option KC):Nat→Option KC:=fun n=>if n=b then o else F n
def undoF:List (Nat×Dat)→(Nat→Option KC)→Nat→Option KC
 | [],F=>F
 | (b,d)::l,F=>undoF l (upE F b (dEnt d))
theorem undoF_congr {T:Nat}:∀(l:List (Nat×Dat)) {F F':Nat→Option KC},(∀n,n<T→F n=F' n)→∀n,n<T→undoF l F n=undoF l F' n
 | [],_,_,h=>h
 | (b,d)::l,F,F',h=>undoF_congr l fun n hn=>by unfold upE;rw[h n hn]
theorem stAcc_R0f (hf:G.f=1) (op:LOp) (x:Nat) (S:SSt):(stAcc G w op x S).1.R 0=S.R 0:=funext fun i=>stAcc_R0 hf op x S i
theorem PI.blank (o:G.Ok) {a:Nat} {S:SSt} (p:PI G w a S) (ha:a≤100000):PI G w (a+1) (blankS G w S):=p.acc o ha (Nat.pow_pos (by decide))
theorem blanks_fine:∀n S,Fine G (blanks G w n S)→Fine G S
 | 0,_,h=>h
 | n+1,S,h=>(blanks_fine n _ h).back
theorem blanks_ok (o:G.Ok) (hf:G.f=1):∀n a S,PI G w a S→a+n≤100000→PI G w (a+n) (blanks G w n S)∧(blanks G w n S).R 0=S.R 0∧∀A,Live G S A→Fine G (blanks G w n S)→Live G (blanks G w n S) A
 | 0,a,S,p,_=>⟨p,rfl,fun _ l _=>l⟩
 | n+1,a,S,p,h=>by
   obtain⟨h1,h2,h3⟩:=blanks_ok o hf n (a+1) (blankS G w S) (p.blank o (by omega)) (by omega)
   refine⟨by rw[show a+(n+1)=a+1+n by omega];exact h1,h2.trans (stAcc_R0f hf _ _ _),fun A l f=>h3 A ?_ f⟩
   have:=(l.acc o p (by omega) (Nat.pow_pos (by decide)) (blanks_fine n _ f)).1
   rwa [updA_look] at this
theorem kick_fine:∀n i S e on ch,Fine G (kick G w X n i S e on ch).1→Fine G S
 | 0,_,_,_,_,_,h=>h
 | n+1,i,S,e,on,ch,h=>by
   cases on with
   | true=>exact(kick_fine n _ _ _ _ _ h).back
   | false=>exact(kick_fine n _ _ _ _ _ h).back
theorem kick_pi (o:G.Ok) (xo:X.Ok) (hm:2 ^ G.m=2*X.T) (hf:G.f=1):∀n i a S e on ch,PI G w a S→a+n≤100000→PI G w (a+n) (kick G w X n i S e on ch).1∧(kick G w X n i S e on ch).1.R 0=S.R 0
 | 0,_,_,_,_,_,_,p,_=>⟨p,rfl⟩
 | n+1,i,a,S,e,on,ch,p,h=>by
   rw[show a+(n+1)=a+1+n by omega]
   cases on with
   | true =>
     obtain⟨h1,h2⟩:=kick_pi o xo hm hf n (i+1) (a+1) _ (rEnt (stAcc G w (.put (eDat e)) (X.blk (i%2) e.1) S).2.1) ((stAcc G w (.put (eDat e)) (X.blk (i%2) e.1) S).2.1[0]==1) (ch++[(X.blk (i%2) e.1,(stAcc G w (.put (eDat e)) (X.blk (i%2) e.1) S).2.1)]) (p.acc o (by omega) (op:= .put (eDat e)) (x:=X.blk (i%2) e.1) (by rw[hm];exact XP.blk_lt xo (Nat.mod_lt _ (by decide)) _)) (by omega)
     exact⟨h1,h2.trans (stAcc_R0f hf _ _ _)⟩
   | false =>
     obtain⟨h1,h2⟩:=kick_pi o xo hm hf n (i+1) (a+1) _ e false ch (p.blank o (by omega)) (by omega)
     exact⟨h1,h2.trans (stAcc_R0f hf _ _ _)⟩
theorem Hc_swap {F F':Nat→Option KC} {f:Nat→Cel} {co:Option KC} {b:Nat} (hb:b<2*X.T) (hF:∀n,n<2*X.T→F' n=if n=b then co else F n) (n:Nat) :
   Hc X F' f (F b) n=if n=b then Hc X F f co (2*X.T+X.sp) else if n=2*X.T+X.sp then Hc X F f co b else Hc X F f co n:=by
 have hN:Hc X F f co (2*X.T+X.sp)=co:=by unfold Hc;rw[if_neg (by omega),if_neg (by omega),if_pos rfl]
 have hB:Hc X F f co b=F b:=by unfold Hc;rw[if_pos hb]
 rw[hN,hB]
 by_cases h1:n=b
 · rw[if_pos h1];subst h1;unfold Hc;rw[if_pos hb,hF n hb,if_pos rfl]
 · rw[if_neg h1]
   by_cases h3:n=2*X.T+X.sp
   · rw[if_pos h3];unfold Hc;rw[if_neg (by omega),if_neg (by omega),if_pos h3]
   · rw[if_neg h3];unfold Hc
     by_cases h4:n<2*X.T
     · rw[if_pos h4,if_pos h4,hF n h4,if_neg h1]
     · rw[if_neg h4,if_neg h4]
       by_cases h5:n<2*X.T+X.sp
       · rw[if_pos h5,if_pos h5]
       · rw[if_neg h5,if_neg h5,if_neg h3,if_neg h3]
theorem kick_ok (o:G.Ok) (xo:X.Ok) (hm:2 ^ G.m=2*X.T) (hT:X.T≤1000) (hf:G.f=1) {F0:Nat→Option KC} {M:UInt64→Option UInt64} {f:Nat→Cel}:∀n i a S e on ch A,PI G w a S→a+n≤100000→Live G S A→Fine G (kick G w X n i S e on ch).1 →
   Rep X (Hc X (EA A) f (if on then some e else none)) M→(∀x∈ch,x.1<2*X.T)→(∀n,n<2*X.T→undoF ch.reverse (EA A) n=F0 n) →
   ∃A',Live G (kick G w X n i S e on ch).1 A'∧Rep X (Hc X (EA A') f (if (kick G w X n i S e on ch).2.2.1 then some (kick G w X n i S e on ch).2.1 else none)) M ∧
    (∀x∈(kick G w X n i S e on ch).2.2.2,x.1<2*X.T)∧(∀z,z<2*X.T→undoF (kick G w X n i S e on ch).2.2.2.reverse (EA A') z=F0 z)∧(on=false→(kick G w X n i S e on ch).2.2.1=false∧∀z,EA A' z=EA A z)
 | 0,_,_,_,_,_,_,A,_,_,l,_,r,hc,hu=>⟨A,l,r,hc,hu,fun h=>⟨h,fun _=>rfl⟩⟩
 | n+1,i,a,S,e,on,ch,A,p,h,l,fin,r,hc,hu=>by
   cases on with
   | true =>
     have hb:X.blk (i%2) e.1<2*X.T:=XP.blk_lt xo (Nat.mod_lt _ (by decide)) _
     have hdiv:=XP.blk_div xo (i%2) e.1
     have fin2:=kick_fine n (i+1) _ _ _ _ fin
     have p2:=p.acc o (by omega) (op:= .put (eDat e)) (x:=X.blk (i%2) e.1) (by rw[hm];exact hb)
     obtain⟨l2,ho⟩:=l.acc o p (by omega) (op:= .put (eDat e)) (x:=X.blk (i%2) e.1) (by rw[hm];exact hb) fin2
     have hold:dEnt (stAcc G w (.put (eDat e)) (X.blk (i%2) e.1) S).2.1=EA A (X.blk (i%2) e.1):=by rw[ho];exact dEnt_out A _
     have hF:∀z,z<2*X.T→EA (updA A (.put (eDat e)) (UInt64.ofNat (X.blk (i%2) e.1))) z=if z=X.blk (i%2) e.1 then some e else EA A z:=fun z hz=>by
       rw[EA_put (by omega) (by omega),dEnt_eDat]
     have hco:(if ((stAcc G w (.put (eDat e)) (X.blk (i%2) e.1) S).2.1[0]==1)=true then some (rEnt (stAcc G w (.put (eDat e)) (X.blk (i%2) e.1) S).2.1) else none)=EA A (X.blk (i%2) e.1):=by
       rw[←hold];unfold dEnt;simp only[beq_iff_eq]
     have hN:Hc X (EA A) f (some e) (2*X.T+X.sp)=some e:=by unfold Hc;rw[if_neg (by omega),if_neg (by omega),if_pos rfl]
     refine(fun⟨A',h1,h2,h3,h4,_⟩=>⟨A',h1,h2,h3,h4,fun h=>by cases h⟩) (kick_ok o xo hm hT hf n (i+1) (a+1) _ _ _ (ch++[(X.blk (i%2) e.1,(stAcc G w (.put (eDat e)) (X.blk (i%2) e.1) S).2.1)]) _ p2 (by omega) l2 fin ?_ ?_ ?_)
     · rw[hco]
       refine Rep.swap (x:=X.blk (i%2) e.1) (y:=2*X.T+X.sp) r (Hc_swap hb hF) (fun _ e' he'=>?_) (fun hlt=>by omega)
       rw[if_pos rfl,hN] at he'
       cases he'
       rw[hdiv]
     · intro x hx
       rcases List.mem_append.1 hx with hx|hx
       · exact hc x hx
       · rw[List.mem_singleton] at hx;rw[hx];exact hb
     · intro z hz
       rw[List.reverse_append]
       show undoF ch.reverse (upE _ _ _) z=_
       rw[←hu z hz]
       refine undoF_congr _ (fun y hy=>?_) z hz
       unfold upE
       by_cases c:y=X.blk (i%2) e.1
       · rw[if_pos c,hold,c]
       · rw[if_neg c,hF y hy,if_neg c]
   | false =>
     have fin2:=kick_fine n (i+1) _ _ _ _ fin
     have l2:=(l.acc o p (by omega) (Nat.pow_pos (by decide)) fin2).1
     rw[updA_look] at l2
     exact kick_ok o xo hm hT hf n (i+1) (a+1) _ e false ch A (p.blank o (by omega)) (by omega) l2 fin r hc hu
theorem undo_fine:∀l S,Fine G (undo G w l S)→Fine G S
 | [],_,h=>h
 | (_,_)::l,_,h=>(undo_fine l _ h).back
theorem undo_ok (o:G.Ok) (hf:G.f=1) {T:Nat} (hm:2 ^ G.m=T) (hT:T≤10000):∀(l:List (Nat×Dat)) a S,PI G w a S→a+l.length≤100000→(∀x∈l,x.1<T) →
   PI G w (a+l.length) (undo G w l S)∧(undo G w l S).R 0=S.R 0∧∀A,Live G S A→Fine G (undo G w l S)→∃A',Live G (undo G w l S) A'∧∀z,z<T→EA A' z=undoF l (EA A) z
 | [],a,S,p,_,_=>⟨p,rfl,fun A l _=>⟨A,l,fun _ _=>rfl⟩⟩
 | (b,d)::l,a,S,p,h,hc=>by
   have hl:((b,d)::l).length=l.length+1:=rfl
   have hb:b<T:=hc (b,d) (by simp)
   obtain⟨h1,h2,h3⟩:=undo_ok o hf hm hT l (a+1) _ (p.acc o (by omega) (op:= .put d) (x:=b) (by rw[hm];exact hb)) (by omega) fun x hx=>hc x (by simp[hx])
   refine⟨by rw[hl,show a+(l.length+1)=a+1+l.length by omega];exact h1,h2.trans (stAcc_R0f hf _ _ _),fun A lv fin=>?_⟩
   obtain⟨l2,_⟩:=lv.acc o p (by omega) (op:= .put d) (x:=b) (by rw[hm];exact hb) (undo_fine l _ fin)
   obtain⟨A',g1,g2⟩:=h3 _ l2 fin
   refine⟨A',g1,fun z hz=>?_⟩
   rw[g2 z hz]
   refine undoF_congr l (fun y hy=>?_) z hz
   rw[EA_put (by omega) (by omega)];rfl
end
end Go.Sh
/- Two tables in a store, and a spill: what is found, what an insertion and a removal make of the map. -/
namespace Go.Sh
open Go.Proofs.Tryz
variable {G:SP} {w:Nat→UInt64} {X:XP}
def WSp (X:XP) (f:Nat→Cel):Prop:=∀i,i<X.sp→f i=cel0∨∃e:KC,f i=spC e
theorem add1_inj {a b:UInt64} (h:a+1=b+1):a=b:=by
 have h1:a+1-1=b+1-1:=by rw[h]
 have g:∀x:UInt64,x+1-1=x:=fun x=>by
   apply UInt64.toNat_inj.1
   rw[UInt64.toNat_sub,UInt64.toNat_add]
   have:=x.toNat_lt
   simp;omega
 rwa [g,g] at h1
theorem hit_some {key c:UInt64} {o:Option KC} (h:hit key o=some c):o=some (key,c):=by
 cases o with
 | none=>cases h
 | some e =>
   simp only[hit] at h
   split at h
   · rename_i he;cases h;rw[←he]
   · cases h
theorem hit_none {key c:UInt64} {o:Option KC} (h:hit key o=none):o≠some (key,c):=fun e=>by
 rw[e] at h;simp[hit] at h
theorem Hc_tab {F:Nat→Option KC} {f:Nat→Cel} {co:Option KC} {n:Nat} (h:n<2*X.T):Hc X F f co n=F n:=if_pos h
theorem Hc_spill {F:Nat→Option KC} {f:Nat→Cel} {co:Option KC} {i:Nat} (h:i<X.sp):Hc X F f co (2*X.T+i)=cEnt (f i):=by
 unfold Hc;rw[if_neg (by omega),if_pos (by omega),Nat.add_sub_cancel_left]
theorem Hc_hand {F:Nat→Option KC} {f:Nat→Cel} {co:Option KC}:Hc X F f co (2*X.T+X.sp)=co:=by
 unfold Hc;rw[if_neg (by omega),if_neg (by omega),if_pos rfl]
theorem Hc_at {F:Nat→Option KC} {f:Nat→Cel} {e:KC} {n:Nat} (h:Hc X F f none n=some e):(n<2*X.T∧F n=some e)∨∃i,i<X.sp∧n=2*X.T+i∧cEnt (f i)=some e:=by
 unfold Hc at h
 split at h
 · rename_i c;exact .inl ⟨c,h⟩
 · split at h
   · exact .inr ⟨n-2*X.T,by omega,by omega,h⟩
   · split at h<;>cases h
def Where (X:XP) (F:Nat→Option KC) (f:Nat→Cel) (key c:UInt64) (t:Int) (at_:UInt64):Prop :=
 ((t=0∨t=1)∧F (X.blk t.toNat key)=some (key,c))∨(t=2∧∃i,i<X.sp∧at_=UInt64.ofNat i∧cEnt (f i)=some (key,c))
theorem spot_ok (xo:X.Ok) {F:Nat→Option KC} {f:Nat→Cel} {M:UInt64→Option UInt64} (r:Rep X (Hc X F f none) M) (ws:WSp X f) {key:UInt64} (hk:key+1≠0) :
   (∃c t at_,M key=some c∧X.spot key (F (X.blk 0 key)) (F (X.blk 1 key)) f=(t,at_,c)∧Where X F f key c t at_)∨(M key=none∧X.spot key (F (X.blk 0 key)) (F (X.blk 1 key)) f=(-1,0,0)):=by
 have b0:=XP.blk_lt xo (t:=0) (by decide) key
 have b1:=XP.blk_lt xo (t:=1) (by decide) key
 unfold XP.spot
 cases h0:hit key (F (X.blk 0 key)) with
 | some c =>
   have e:=hit_some h0
   exact .inl ⟨c,_,_,(r.mod key c).2 ⟨_,by rw[Hc_tab b0,e]⟩,rfl,.inl ⟨.inl rfl,e⟩⟩
 | none =>
   cases h1:hit key (F (X.blk 1 key)) with
   | some c =>
     have e:=hit_some h1
     exact .inl ⟨c,_,_,(r.mod key c).2 ⟨_,by rw[Hc_tab b1,e]⟩,rfl,.inl ⟨.inr rfl,e⟩⟩
   | none =>
     cases h2:sfirst (fun i=>(f i)[1]==key+1) X.sp with
     | some i =>
       obtain⟨hi,he⟩:=sfirst_some h2
       have he:(f i)[1]=key+1:=by simpa using he
       rcases ws i hi with hz|⟨e,hz⟩
       · rw[hz] at he;exact absurd he.symm hk
       · rw[hz] at he
         have hke:e.1=key:=add1_inj he
         have hce:cEnt (f i)=some (key,(f i)[2]):=by rw[hz,cEnt_spC,←hke];rfl
         exact .inl ⟨_,_,_,(r.mod key _).2 ⟨2*X.T+i,by rw[Hc_spill hi,hce]⟩,rfl,.inr ⟨rfl,i,hi,rfl,hce⟩⟩
     | none =>
       refine .inr ⟨?_,rfl⟩
       cases hM:M key with
       | none=>rfl
       | some c =>
         obtain⟨n,hn⟩:=(r.mod key c).1 hM
         rcases Hc_at hn with ⟨hl,hF⟩|⟨i,hi,_,hc⟩
         · have hok:=r.ok n hl (key,c) hn
           have hd:n/X.T<2:=Nat.div_lt_of_lt_mul (by rw[Nat.mul_comm];exact hl)
           have:n/X.T=0∨n/X.T=1:=by revert hd;generalize n/X.T=q;omega
           rcases this with h|h
           · rw[h] at hok;rw[hok] at hF;exact absurd hF (hit_none h0)
           · rw[h] at hok;rw[hok] at hF;exact absurd hF (hit_none h1)
         · have:=sfirst_none h2 i hi
           rcases ws i hi with hz|⟨e,hz⟩
           · rw[hz] at hc;cases hc
           · rw[hz,cEnt_spC] at hc;cases hc
             rw[hz] at this
             simp[spC] at this
theorem find_fine {key:UInt64} {S:SSt} (f:Fine G (findS G w X key S).1):Fine G S:=f.back.back
theorem find_pi (o:G.Ok) (xo:X.Ok) (hm:2 ^ G.m=2*X.T) (hf:G.f=1) {a:Nat} {S:SSt} (p:PI G w a S) (ha:a+2≤100000) (key:UInt64):PI G w (a+2) (findS G w X key S).1∧(findS G w X key S).1.R 0=S.R 0 :=
 ⟨(p.acc o (by omega) (op:= .look) (by rw[hm];exact XP.blk_lt xo (by decide) _)).acc o (by omega) (op:= .look) (by rw[hm];exact XP.blk_lt xo (by decide) _),(stAcc_R0f hf _ _ _).trans (stAcc_R0f hf _ _ _)⟩
theorem find_ok (o:G.Ok) (xo:X.Ok) (hm:2 ^ G.m=2*X.T) {a:Nat} {S:SSt} {A:UInt64→Option Dat} (p:PI G w a S) (ha:a+2≤100000) (l:Live G S A) {key:UInt64} (fin:Fine G (findS G w X key S).1) :
   Live G (findS G w X key S).1 A∧(findS G w X key S).2=X.spot key (EA A (X.blk 0 key)) (EA A (X.blk 1 key)) (S.R 0):=by
 have b0:=XP.blk_lt xo (t:=0) (by decide) key
 have b1:=XP.blk_lt xo (t:=1) (by decide) key
 have p1:=p.acc o (by omega) (op:= .look) (x:=X.blk 0 key) (by rw[hm];exact b0)
 obtain⟨l1,o1⟩:=l.acc o p (by omega) (op:= .look) (x:=X.blk 0 key) (by rw[hm];exact b0) fin.back
 rw[updA_look] at l1
 obtain⟨l2,o2⟩:=l1.acc o p1 (by omega) (op:= .look) (x:=X.blk 1 key) (by rw[hm];exact b1) fin
 rw[updA_look] at l2
 refine⟨l2,?_⟩
 show X.spot key (dEnt (stAcc G w .look (X.blk 0 key) S).2.1) (dEnt (stAcc G w .look (X.blk 1 key) (stAcc G w .look (X.blk 0 key) S).1).2.1) (S.R 0)=_
 rw[o1,o2,dEnt_out,dEnt_out]
theorem kick_off:∀n i S e ch,(kick G w X n i S e false ch).2.2.1=false
 | 0,_,_,_,_=>rfl
 | n+1,i,S,e,ch=>kick_off n (i+1) _ e ch
theorem kick_len:∀n i S e on ch,(kick G w X n i S e on ch).2.2.1=true→(kick G w X n i S e on ch).2.2.2.length=ch.length+n
 | 0,_,_,_,_,_,_=>rfl
 | n+1,i,S,e,on,ch,h=>by
   cases on with
   | true =>
     refine(kick_len n (i+1) _ _ _ _ h).trans ?_
     rw[List.length_append,List.length_singleton];omega
   | false =>
     have:=kick_off (G:=G) (w:=w) (X:=X) (n+1) i S e ch
     rw[this] at h;cases h
theorem setR_get {S:SSt} {i j:Nat} {c:Cel}:(setR S (0,i) c).R 0 j=if j=i then c else S.R 0 j:=by
 show(if (0:Nat)=0∧j=i then c else S.R 0 j)=_
 by_cases h:j=i
 · rw[if_pos ⟨rfl,h⟩,if_pos h]
 · rw[if_neg (fun e=>h e.2),if_neg h]
theorem kick_blk (xo:X.Ok):∀n i S e on ch,(∀x∈ch,x.1<2*X.T)→∀x∈(kick G w X n i S e on ch).2.2.2,x.1<2*X.T
 | 0,_,_,_,_,_,h=>h
 | n+1,i,S,e,on,ch,h=>by
   cases on with
   | true =>
     refine kick_blk xo n (i+1) _ _ _ _ fun x hx=>?_
     rcases List.mem_append.1 hx with hx|hx
     · exact h x hx
     · rw[List.mem_singleton] at hx;rw[hx];exact XP.blk_lt xo (Nat.mod_lt _ (by decide)) _
   | false=>exact kick_blk xo n (i+1) _ e false ch h
theorem ins_ok (o:G.Ok) (xo:X.Ok) (hm:2 ^ G.m=2*X.T) (hT:X.T≤1000) (hf:G.f=1) {a:Nat} {S:SSt} {A:UInt64→Option Dat} {M:UInt64→Option UInt64} (p:PI G w a S) (ha:a+2*X.K≤100000) (l:Live G S A) {key cell:UInt64} {on:Bool}
   (fin:Fine G (insS G w X key cell on S).1) (r:Rep X (Hc X (EA A) (S.R 0) none) M) (ws:WSp X (S.R 0)) (hk:on=true→M key=none) :
   ∃A',Live G (insS G w X key cell on S).1 A'∧WSp X ((insS G w X key cell on S).1.R 0) ∧
    (((insS G w X key cell on S).2=true∧Rep X (Hc X (EA A') ((insS G w X key cell on S).1.R 0) none) (if on then fun x=>if x=key then some cell else M x else M)) ∨
      ((insS G w X key cell on S).2=false∧on=true∧sfirst (fun i=>(S.R 0 i)[0]==0) X.sp=none∧Rep X (Hc X (EA A') ((insS G w X key cell on S).1.R 0) none) M)) ∧
    (on=false→(insS G w X key cell on S).2=true∧(insS G w X key cell on S).1.R 0=S.R 0∧∀z,EA A' z=EA A z):=by
 obtain⟨k1,k2⟩:=kick_pi o xo hm hf X.K 0 a S (key,cell) on [] p (by omega)
 cases on with
 | false =>
   have hoff:=kick_off (G:=G) (w:=w) (X:=X) X.K 0 S (key,cell) []
   have hi:insS G w X key cell false S=(blanks G w X.K (kick G w X X.K 0 S (key,cell) false []).1,true):=by
     unfold insS;simp only;rw[hoff];rfl
   rw[hi] at fin ⊢
   obtain⟨b1,b2,b3⟩:=blanks_ok o hf X.K _ _ k1 (by omega)
   obtain⟨A',h1,h2,_,_,h5⟩:=kick_ok o xo hm hT hf (F0:=EA A) (M:=M) (f:=S.R 0) X.K 0 a S (key,cell) false [] A p (by omega) l (blanks_fine _ _ fin) r (by simp) (fun _ _=>rfl)
   rw[hoff] at h2
   have e0:(blanks G w X.K (kick G w X X.K 0 S (key,cell) false []).1).R 0=S.R 0:=b2.trans k2
   refine⟨A',b3 A' h1 fin,by rw[e0];exact ws,.inl ⟨rfl,?_⟩,fun _=>⟨rfl,e0,(h5 rfl).2⟩⟩
   rw[e0];exact h2
 | true =>
   have r1:=r.take (k:=key) (c:=cell) (hk rfl)
   cases hon:(kick G w X X.K 0 S (key,cell) true []).2.2.1 with
   | false =>
     have hi:insS G w X key cell true S=(blanks G w X.K (kick G w X X.K 0 S (key,cell) true []).1,true):=by
       unfold insS;simp only;rw[hon];rfl
     rw[hi] at fin ⊢
     obtain⟨b1,b2,b3⟩:=blanks_ok o hf X.K _ _ k1 (by omega)
     obtain⟨A',h1,h2,_,_,_⟩:=kick_ok o xo hm hT hf (F0:=EA A) (f:=S.R 0) X.K 0 a S (key,cell) true [] A p (by omega) l (blanks_fine _ _ fin) r1 (by simp) (fun _ _=>rfl)
     rw[hon] at h2
     have e0:(blanks G w X.K (kick G w X X.K 0 S (key,cell) true []).1).R 0=S.R 0:=b2.trans k2
     refine⟨A',b3 A' h1 fin,by rw[e0];exact ws,.inl ⟨rfl,?_⟩,fun h=>by cases h⟩
     rw[e0];exact h2
   | true =>
     cases hs:sfirst (fun i=>(S.R 0 i)[0]==0) X.sp with
     | some i =>
       have hi:insS G w X key cell true S=(blanks G w X.K (setR (kick G w X X.K 0 S (key,cell) true []).1 (0,i) (spC (kick G w X X.K 0 S (key,cell) true []).2.1)),true):=by
         unfold insS;simp only;rw[hon,if_pos rfl,hs]
       rw[hi] at fin ⊢
       obtain⟨b1,b2,b3⟩:=blanks_ok o hf X.K _ _ (k1.setR hf (i:=i) (c:=spC (kick G w X X.K 0 S (key,cell) true []).2.1)) (by omega)
       obtain⟨A',h1,h2,_,_,_⟩:=kick_ok o xo hm hT hf (F0:=EA A) (f:=S.R 0) X.K 0 a S (key,cell) true [] A p (by omega) l (blanks_fine X.K (setR (kick G w X X.K 0 S (key,cell) true []).1 (0,i) (spC (kick G w X X.K 0 S (key,cell) true []).2.1)) fin) r1 (by simp) (fun _ _=>rfl)
       rw[hon,if_pos rfl] at h2
       generalize (kick G w X X.K 0 S (key,cell) true []).2.1=e' at *
       have e0:∀j,(blanks G w X.K (setR (kick G w X X.K 0 S (key,cell) true []).1 (0,i) (spC e'))).R 0 j=if j=i then spC e' else S.R 0 j:=fun j=>by rw[b2,setR_get,k2]
       obtain⟨hisp,hfree⟩:=sfirst_some hs
       have hfree:(S.R 0 i)[0]=0:=by simpa using hfree
       have hz:S.R 0 i=cel0:=by
         rcases ws i hisp with h|⟨e,h⟩
         · exact h
         · rw[h] at hfree;cases hfree
       refine⟨A',b3 A' (h1.setR hf) fin,fun j hj=>?_,.inl ⟨rfl,?_⟩,fun h=>by cases h⟩
       · rw[e0]
         by_cases c:j=i
         · rw[if_pos c];exact .inr ⟨e',rfl⟩
         · rw[if_neg c];exact ws j hj
       · refine Rep.swap (x:=2*X.T+i) (y:=2*X.T+X.sp) h2 (fun n=>?_) (fun h=>by omega) (fun h=>by omega)
         rw[Hc_hand,Hc_spill hisp,hz,cEnt_cel0]
         by_cases c1:n=2*X.T+i
         · rw[if_pos c1,c1,Hc_spill hisp,e0,if_pos rfl,cEnt_spC]
         · rw[if_neg c1]
           by_cases c2:n=2*X.T+X.sp
           · rw[if_pos c2,c2,Hc_hand]
           · rw[if_neg c2]
             unfold Hc
             split
             · rfl
             · split
               · rw[e0,if_neg (by omega)]
               · simp only[c2,if_false]
     | none =>
       have hi:insS G w X key cell true S=(undo G w (kick G w X X.K 0 S (key,cell) true []).2.2.2.reverse (kick G w X X.K 0 S (key,cell) true []).1,false):=by
         unfold insS;simp only;rw[hon,if_pos rfl,hs]
       rw[hi] at fin ⊢
       have hl:=kick_len X.K 0 S (key,cell) true [] hon
       rw[List.length_nil,Nat.zero_add] at hl
       obtain⟨A1,h1,h2,h3,h4,_⟩:=kick_ok o xo hm hT hf (F0:=EA A) (f:=S.R 0) X.K 0 a S (key,cell) true [] A p (by omega) l (undo_fine _ _ fin) r1 (by simp) (fun _ _=>rfl)
       obtain⟨_,u2,u3⟩:=undo_ok o hf hm (by omega) (kick G w X X.K 0 S (key,cell) true []).2.2.2.reverse _ _ k1 (by rw[List.length_reverse,hl];omega) fun x hx=>h3 x (List.mem_reverse.1 hx)
       obtain⟨A2,g1,g2⟩:=u3 A1 h1 fin
       have e0:=u2.trans k2
       refine⟨A2,g1,by rw[e0];exact ws,.inr ⟨rfl,rfl,rfl,?_⟩,fun h=>by cases h⟩
       rw[e0]
       refine r.congr fun n=>?_
       unfold Hc
       split
       · rename_i hn;rw[g2 n hn,h4 n hn]
       · rfl
theorem rem_fine {key at_:UInt64} {t:Int} {on:Bool} {S:SSt} (f:Fine G (remS G w X key t at_ on S)):Fine G S:=by
 have h:Fine G (if on&&(t==0||t==1) then (stAcc G w .drop (X.blk t.toNat key) S).1 else blankS G w S):=by
   unfold remS at f
   simp only at f
   split at f
   · exact f
   · exact f
 split at h
 · exact h.back
 · exact h.back
theorem rem_ok (o:G.Ok) (xo:X.Ok) (hm:2 ^ G.m=2*X.T) (hT:X.T≤1000) (hsp:X.sp≤1000) (hf:G.f=1) {a:Nat} {S:SSt} {A:UInt64→Option Dat} {M:UInt64→Option UInt64} (p:PI G w a S) (ha:a≤100000) (l:Live G S A) {key:UInt64} {t:Int} {at_ c:UInt64} {on:Bool}
   (fin:Fine G (remS G w X key t at_ on S)) (r:Rep X (Hc X (EA A) (S.R 0) none) M) (ws:WSp X (S.R 0)) (hk:key+1≠0) (hs:on=true→X.spot key (EA A (X.blk 0 key)) (EA A (X.blk 1 key)) (S.R 0)=(t,at_,c)) :
   ∃A',Live G (remS G w X key t at_ on S) A'∧WSp X ((remS G w X key t at_ on S).R 0)∧Rep X (Hc X (EA A') ((remS G w X key t at_ on S).R 0) none) (if on then fun y=>if y=key then none else M y else M) ∧
    (on=false→(remS G w X key t at_ on S).R 0=S.R 0∧∀z,EA A' z=EA A z):=by
 have lb:Fine G (blankS G w S)→Live G (blankS G w S) A:=fun f=>by
   have:=(l.acc o p ha (Nat.pow_pos (by decide)) f).1
   rwa [updA_look] at this
 have rb:(blankS G w S).R 0=S.R 0:=stAcc_R0f hf _ _ _
 cases on with
 | false =>
   have e:remS G w X key t at_ false S=blankS G w S:=rfl
   rw[e] at fin ⊢
   exact⟨A,lb fin,by rw[rb];exact ws,by rw[rb];exact r,fun _=>⟨rb,fun _=>rfl⟩⟩
 | true =>
   have hs:=hs rfl
   rcases spot_ok xo r ws hk with ⟨c',t',at',hM,h1,hw⟩|⟨hM,h1⟩
   · rw[hs] at h1
     cases h1
     rcases hw with ⟨ht,hF⟩|⟨ht,i,hi,hat,hce⟩
     · have e:remS G w X key t at_ true S=(stAcc G w .drop (X.blk t.toNat key) S).1:=by
         rcases ht with rfl|rfl<;>rfl
       rw[e] at fin ⊢
       have hb:X.blk t.toNat key<2*X.T:=XP.blk_lt xo (by omega) key
       have l2:=(l.acc o p ha (op:= .drop) (by rw[hm];exact hb) fin).1
       have e0:(stAcc G w .drop (X.blk t.toNat key) S).1.R 0=S.R 0:=stAcc_R0f hf _ _ _
       refine⟨_,l2,by rw[e0];exact ws,?_,fun h=>by cases h⟩
       rw[e0]
       refine r.gone (x:=X.blk t.toNat key) (k:=key) (c:=c) (by rw[Hc_tab hb,hF]) fun n=>?_
       by_cases h1:n<2*X.T
       · rw[Hc_tab h1,Hc_tab h1,EA_drop (by omega) (by omega)]
       · rw[if_neg (by omega)]
         unfold Hc;rw[if_neg h1,if_neg h1]
     · subst ht
       have hat':at_.toNat=i:=by rw[hat,UInt64.toNat_ofNat'];omega
       have e:remS G w X key 2 at_ true S=setR (blankS G w S) (0,i) cel0:=by
         unfold remS
         simp only
         rw[if_pos (by simp[hat',hi]),hat',if_neg (by decide)]
       rw[e] at fin ⊢
       have e0:∀j,(setR (blankS G w S) (0,i) cel0).R 0 j=if j=i then cel0 else S.R 0 j:=fun j=>by rw[setR_get,rb]
       refine⟨A,(lb fin).setR hf,fun j hj=>?_,?_,fun h=>by cases h⟩
       · rw[e0]
         by_cases c:j=i
         · rw[if_pos c];exact .inl rfl
         · rw[if_neg c];exact ws j hj
       · refine r.gone (x:=2*X.T+i) (k:=key) (c:=c) (by rw[Hc_spill hi,hce]) fun n=>?_
         by_cases c1:n=2*X.T+i
         · rw[if_pos c1,c1,Hc_spill hi,e0,if_pos rfl];rfl
         · rw[if_neg c1]
           unfold Hc
           split
           · rfl
           · split
             · rw[e0,if_neg (by omega)]
             · rfl
   · rw[hs] at h1
     cases h1
     have e:remS G w X key (-1) 0 true S=blankS G w S:=rfl
     rw[e] at fin ⊢
     refine⟨A,lb fin,by rw[rb];exact ws,?_,fun h=>by cases h⟩
     rw[rb]
     have:(fun y=>if y=key then none else M y)=M:=by
       funext y
       by_cases h:y=key
       · rw[if_pos h,h,hM]
       · rw[if_neg h]
     show Rep X _ (fun y=>if y=key then none else M y)
     rw[this];exact r
theorem few_of {L:List Nat}:∀ {n:Nat} (f:Nat→Nat),(∀i,i<n→f i∈L)→(∀i j,i<n→j<n→f i=f j→i=j)→n≤L.length:=by
 intro n
 induction n generalizing L with
 | zero=>intro _ _ _;omega
 | succ n ih =>
   intro f hm hi
   have h1:=hm n (by omega)
   have h2:=ih (L:=L.erase (f n)) f (fun i hlt=>(List.mem_erase_of_ne (fun e=>by have:=hi i n (by omega) (by omega) e;omega)).2 (hm i (by omega))) fun i j h1 h2=>hi i j (by omega) (by omega)
   have h3:=List.length_erase_of_mem h1
   have h4:=List.length_pos_of_mem h1
   omega
end Go.Sh
/- Two tables in a store, and a spill: as long as no block is lost. -/
namespace Go.Sh
open Go.Proofs.Tryz
def IGood (G:SP) (X:XP) (S:SSt) (M:UInt64→Option UInt64):Prop:=Fine G S→∃A,Live G S A∧Rep X (Hc X (EA A) (S.R 0) none) M∧WSp X (S.R 0)
def SG (G:SP) (X:XP) (S:SSt) (F:Nat→Option KC) (f:Nat→Cel):Prop:=Fine G S→(∃A,Live G S A∧∀z,z<2*X.T→EA A z=F z)∧S.R 0=f
structure CP (G:SP) (X:XP):Prop where
 o:G.Ok
 xo:X.Ok
 m:2 ^ G.m=2*X.T
 T:X.T≤1000
 sp:X.sp≤1000
 f:G.f=1
section
variable {G:SP} {w:Nat→UInt64} {X:XP}
theorem ins_fine {key cell:UInt64} {on:Bool} {S:SSt} (f:Fine G (insS G w X key cell on S).1):Fine G S:=by
 unfold insS at f
 simp only at f
 split at f
 · split at f
   · exact kick_fine _ _ _ _ _ _ (show Fine G (kick G w X X.K 0 S (key,cell) on []).1 from blanks_fine _ (setR _ _ _) f)
   · exact kick_fine _ _ _ _ _ _ (undo_fine _ _ f)
 · exact kick_fine _ _ _ _ _ _ (blanks_fine _ _ f)
theorem ig_find (c:CP G X) {a:Nat} {S:SSt} (p:PI G w a S) (ha:a+2≤100000) {M:UInt64→Option UInt64} (g:IGood G X S M) {key:UInt64} (hk:key+1≠0) :
   IGood G X (findS G w X key S).1 M∧(Fine G (findS G w X key S).1→(∃v t at_,M key=some v∧(findS G w X key S).2=(t,at_,v)∧0≤t)∨(M key=none∧(findS G w X key S).2=(-1,0,0))):=by
 have e0:=(find_pi c.o c.xo c.m c.f p ha key).2
 refine⟨fun fin=>?_,fun fin=>?_⟩
 · obtain⟨A,l,r,ws⟩:=g (find_fine fin)
   obtain⟨l2,_⟩:=find_ok c.o c.xo c.m p ha l fin
   exact⟨A,l2,by rw[e0];exact r,by rw[e0];exact ws⟩
 · obtain⟨A,l,r,ws⟩:=g (find_fine fin)
   obtain⟨_,hs⟩:=find_ok c.o c.xo c.m p ha l fin
   rw[hs]
   rcases spot_ok c.xo r ws hk with ⟨v,t,at_,h1,h2,h3⟩|h
   · refine .inl ⟨v,t,at_,h1,h2,?_⟩
     rcases h3 with ⟨rfl|rfl,_⟩|⟨rfl,_⟩<;>decide
   · exact .inr h
theorem ig_ins (c:CP G X) {a:Nat} {S:SSt} (p:PI G w a S) (ha:a+2*X.K≤100000) {M:UInt64→Option UInt64} (g:IGood G X S M) {key cell:UInt64} {on:Bool} (hk:on=true→M key=none) :
   IGood G X (insS G w X key cell on S).1 (if on&&(insS G w X key cell on S).2 then fun x=>if x=key then some cell else M x else M) ∧
     (Fine G (insS G w X key cell on S).1→(on=false→(insS G w X key cell on S).2=true)∧((insS G w X key cell on S).2=false→sfirst (fun i=>(S.R 0 i)[0]==0) X.sp=none)):=by
 refine⟨fun fin=>?_,fun fin=>?_⟩
 · obtain⟨A,l,r,ws⟩:=g (ins_fine fin)
   obtain⟨A',h1,h2,h3,_⟩:=ins_ok c.o c.xo c.m c.T c.f p ha l fin r ws hk
   refine⟨A',h1,?_,h2⟩
   rcases h3 with ⟨e,h⟩|⟨e,e2,_,h⟩
   · rw[e,Bool.and_true];exact h
   · rw[e,Bool.and_false];exact h
 · obtain⟨A,l,r,ws⟩:=g (ins_fine fin)
   obtain⟨A',_,_,h3,h4⟩:=ins_ok c.o c.xo c.m c.T c.f p ha l fin r ws hk
   refine⟨fun h=>(h4 h).1,fun h=>?_⟩
   rcases h3 with ⟨e,_⟩|⟨_,_,e,_⟩
   · rw[e] at h;cases h
   · exact e
theorem ig_rem (c:CP G X) {a:Nat} {S:SSt} (p:PI G w a S) (ha:a+3≤100000) {M:UInt64→Option UInt64} (g:IGood G X S M) {key:UInt64} (hk:key+1≠0) (on:Bool) :
   IGood G X (remS G w X key (findS G w X key S).2.1 (findS G w X key S).2.2.1 on (findS G w X key S).1) (if on then fun y=>if y=key then none else M y else M):=by
 obtain⟨p2,e0⟩:=find_pi c.o c.xo c.m c.f p (by omega) key
 intro fin
 have f1:=rem_fine fin
 obtain⟨A,l,r,ws⟩:=g (find_fine f1)
 obtain⟨l2,hs⟩:=find_ok c.o c.xo c.m p (by omega) l f1
 obtain⟨A',h1,h2,h3,_⟩:=rem_ok c.o c.xo c.m c.T c.sp c.f p2 (by omega) l2 (c:=(findS G w X key S).2.2.2) fin (by rw[e0];exact r) (by rw[e0];exact ws) hk (fun _=>by rw[e0,←hs])
 exact⟨A',h1,h3,h2⟩
/-! ## what is not to be done -/
end
end Go.Sh

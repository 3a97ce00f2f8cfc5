/- A bitonic network sorts: plain lists and functions, no program in sight. -/
namespace Go.Sh
section net
variable {α:Type}
def cxA (key:α→Nat) (up:Bool) (a b:α):α×α:=if (bif up then decide (key b<key a) else decide (key a<key b))=true then (b,a) else (a,b)
def cx (key:α→Nat) (f:Nat→α) (p:Nat×Nat×Bool):Nat→α:=fun x =>
 if x=p.1 then (cxA key p.2.2 (f p.1) (f p.2.1)).1 else if x=p.2.1 then (cxA key p.2.2 (f p.1) (f p.2.1)).2 else f x
def ip (k j n:Nat):List (Nat×Nat×Bool):=((List.range n).filter fun i=>decide (i/j%2=0)).map fun i=>(i,i+j,decide (i/k%2=0))
theorem ip_succ (k j n:Nat):ip k j (n+1)=ip k j n++(if n/j%2=0 then [(n,n+j,decide (n/k%2=0))] else []):=by
 unfold ip
 rw[List.range_succ,List.filter_append,List.map_append]
 congr 1
 by_cases h:n/j%2=0<;>simp[h]
def jN (n a:Nat):Nat→List (Nat×Nat×Bool)
 | 0=>[]
 | b+1=>ip (2 ^ (a+1)) (2 ^ b) n++jN n a b
def kN (n:Nat):Nat→List (Nat×Nat×Bool)
 | 0=>[]
 | a+1=>kN n a++jN n a (a+1)
def netN (K:Nat):List (Nat×Nat×Bool):=kN (2 ^ K) K
def netRun (key:α→Nat) (l:List (Nat×Nat×Bool)) (f:Nat→α):Nat→α:=l.foldl (cx key) f
def par (key:α→Nat) (k j:Nat) (f:Nat→α) (x:Nat):α :=
 if x/j%2=0 then (cxA key (decide (x/k%2=0)) (f x) (f (x+j))).1
 else (cxA key (decide ((x-j)/k%2=0)) (f (x-j)) (f x)).2
theorem add_div_self {x j:Nat} (hj:0<j):(x+j)/j=x/j+1:=Nat.add_div_right x hj
theorem ge_of_odd {x j:Nat} (h:x/j%2≠0):j≤x:=by
 rcases Nat.lt_or_ge x j with h1|h1
 · rw[Nat.div_eq_of_lt h1] at h;exact absurd rfl h
 · exact h1
theorem sub_div_self {x j:Nat} (hj:0<j) (h:j≤x):(x-j)/j+1=x/j:=by
 have:=add_div_self (x:=x-j) hj
 rw[Nat.sub_add_cancel h] at this;omega
theorem netRun_append (key:α→Nat) (l l':List (Nat×Nat×Bool)) (f:Nat→α):netRun key (l++l') f=netRun key l' (netRun key l f):=by simp[netRun,List.foldl_append]
theorem run_ip (key:α→Nat) (f:Nat→α) (k j:Nat) (hj:0<j) (n:Nat):∀x,netRun key (ip k j n) f x =
   if x/j%2=0 then (if x<n then par key k j f x else f x) else (if x-j<n then par key k j f x else f x):=by
 induction n with
 | zero=>intro x;simp[ip,netRun]
 | succ n ih =>
   intro x
   rw[ip_succ,netRun_append]
   by_cases hn:n/j%2=0
   · rw[if_pos hn]
     have e0:∀(g:Nat→α) p y,netRun key [p] g y=cx key g p y:=fun _ _ _=>rfl
     rw[e0]
     simp only[cx]
     have e1:netRun key (ip k j n) f n=f n:=by rw[ih,if_pos hn,if_neg (by omega)]
     have hnj:(n+j)/j%2≠0:=by rw[add_div_self hj];omega
     have e2:netRun key (ip k j n) f (n+j)=f (n+j):=by rw[ih,if_neg hnj,if_neg (by omega)]
     rw[e1,e2]
     by_cases h1:x=n
     · subst h1;rw[if_pos rfl,if_pos hn,if_pos (by omega),par,if_pos hn]
     · rw[if_neg h1]
       by_cases h2:x=n+j
       · subst h2;rw[if_pos rfl,if_neg hnj,if_pos (by omega),par,if_neg hnj,Nat.add_sub_cancel]
       · rw[if_neg h2,ih]
         by_cases hx:x/j%2=0
         · rw[if_pos hx,if_pos hx]
           by_cases h3:x<n
           · rw[if_pos h3,if_pos (by omega)]
           · rw[if_neg h3,if_neg (by omega)]
         · have:=ge_of_odd hx
           rw[if_neg hx,if_neg hx]
           by_cases h3:x-j<n
           · rw[if_pos h3,if_pos (by omega)]
           · rw[if_neg h3,if_neg (by omega)]
   · rw[if_neg hn]
     have e0:∀(g:Nat→α),netRun key [] g=g:=fun _=>rfl
     rw[e0,ih]
     by_cases hx:x/j%2=0
     · rw[if_pos hx,if_pos hx]
       have h1:x≠n:=fun e=>hn (e▸hx)
       by_cases h3:x<n
       · rw[if_pos h3,if_pos (by omega)]
       · rw[if_neg h3,if_neg (by omega)]
     · rw[if_neg hx,if_neg hx]
       have hge:=ge_of_odd hx
       have h1:x-j≠n:=fun e=>by
         have:=sub_div_self hj hge
         rw[e] at this;omega
       by_cases h3:x-j<n
       · rw[if_pos h3,if_pos (by omega)]
       · rw[if_neg h3,if_neg (by omega)]
/-! ## zeros and ones -/
def parB (k j:Nat) (s:Nat→Bool) (x:Nat):Bool :=
 if x/j%2=0 then (bif decide (x/k%2=0) then s x&&s (x+j) else s x||s (x+j))
 else (bif decide ((x-j)/k%2=0) then s (x-j)||s x else s (x-j)&&s x)
theorem cxA_thr (key:α→Nat) (up:Bool) (a b:α) (t:Nat) :
   decide (t≤key (cxA key up a b).1)=(bif up then decide (t≤key a)&&decide (t≤key b) else decide (t≤key a)||decide (t≤key b)) ∧
   decide (t≤key (cxA key up a b).2)=(bif up then decide (t≤key a)||decide (t≤key b) else decide (t≤key a)&&decide (t≤key b)):=by
 unfold cxA
 cases up<;>simp only[cond_true,cond_false,decide_eq_true_eq]
 · by_cases h:key a<key b
   · rw[if_pos h];constructor<;>(rw[Bool.eq_iff_iff];simp;omega)
   · rw[if_neg h];constructor<;>(rw[Bool.eq_iff_iff];simp;omega)
 · by_cases h:key b<key a
   · rw[if_pos h];constructor<;>(rw[Bool.eq_iff_iff];simp;omega)
   · rw[if_neg h];constructor<;>(rw[Bool.eq_iff_iff];simp;omega)
theorem par_thr (key:α→Nat) (k j:Nat) (f:Nat→α) (t x:Nat):decide (t≤key (par key k j f x))=parB k j (fun y=>decide (t≤key (f y))) x:=by
 unfold par parB
 split
 · exact(cxA_thr key _ _ _ t).1
 · exact(cxA_thr key _ _ _ t).2
def jB (a:Nat):Nat→(Nat→Bool)→Nat→Bool
 | 0,s=>s
 | b+1,s=>jB a b (parB (2 ^ (a+1)) (2 ^ b) s)
def kB:Nat→(Nat→Bool)→Nat→Bool
 | 0,s=>s
 | a+1,s=>jB a (a+1) (kB a s)
theorem blk_split {b o i:Nat} (ho:o%2 ^ (b+1)=0) (hi:i<2 ^ (b+1)):(o+i)/2 ^ b%2=0↔i<2 ^ b:=by
 have hp:0<2 ^ b:=Nat.pow_pos (by decide)
 obtain⟨q,rfl⟩:=Nat.dvd_of_mod_eq_zero ho
 have e:2 ^ (b+1)=2 ^ b*2:=Nat.pow_succ 2 b
 rw[e,Nat.mul_assoc,Nat.mul_add_div hp]
 by_cases h:i<2 ^ b
 · rw[Nat.div_eq_of_lt h];simp[h]
 · have:i/2 ^ b=1:=by
     apply Nat.div_eq_of_lt_le<;>omega
   rw[this];simp[h]
theorem blk_dir {a b o i:Nat} (hb:b≤a) (ho:o%2 ^ b=0) (hi:i<2 ^ b):(o+i)/2 ^ a=o/2 ^ a:=by
 have hp:0<2 ^ b:=Nat.pow_pos (by decide)
 obtain⟨q,rfl⟩:=Nat.dvd_of_mod_eq_zero ho
 have e:2 ^ a=2 ^ b*2 ^ (a-b):=by rw[←Nat.pow_add];congr 1;omega
 rw[e,←Nat.div_div_eq_div_mul,←Nat.div_div_eq_div_mul,Nat.mul_add_div hp,Nat.div_eq_of_lt hi,Nat.mul_div_cancel_left _ hp,Nat.add_zero]
def Bit (s:Nat→Bool) (o m:Nat):Prop:=∃(c:Bool) (u v:Nat),∀i,i<m→s (o+i)=(c ^^ decide (u≤i∧i<v))
theorem half_clean {s lo hi:Nat→Bool} {o h:Nat} (hs:Bit s o (2*h)) (hl:∀i,i<h→lo (o+i)=(s (o+i)&&s (o+i+h))) (hh:∀i,i<h→hi (o+h+i)=(s (o+i)||s (o+i+h))) :
   Bit lo o h∧Bit hi (o+h) h∧((∀i,i<h→lo (o+i)=false)∨(∀i,i<h→hi (o+h+i)=true)):=by
 obtain⟨c,u,v,e⟩:=hs
 have e1:∀i,i<h→s (o+i)=(c ^^ decide (u≤i∧i<v)):=fun i hi=>e i (by omega)
 have e2:∀i,i<h→s (o+i+h)=(c ^^ decide (u≤i+h∧i+h<v)):=fun i hi=>by rw[Nat.add_assoc];exact e (i+h) (by omega)
 have L:∀i,i<h→lo (o+i)=((c ^^ decide (u≤i∧i<v))&&(c ^^ decide (u≤i+h∧i+h<v))):=fun i hi=>by rw[hl i hi,e1 i hi,e2 i hi]
 have H:∀i,i<h→hi (o+h+i)=((c ^^ decide (u≤i∧i<v))||(c ^^ decide (u≤i+h∧i+h<v))):=fun i hi=>by rw[hh i hi,e1 i hi,e2 i hi]
 clear hl hh e e1 e2
 cases c
 · simp only[Bool.false_xor] at L H
   refine⟨⟨false,u,v-h,fun i hi=>?_⟩,?_,?_⟩
   · rw[L i hi,Bool.false_xor,Bool.eq_iff_iff];simp;omega
   · by_cases c1:v≤h
     · exact⟨false,u,v,fun i hi=>by rw[H i hi,Bool.false_xor,Bool.eq_iff_iff];simp;omega⟩
     · by_cases c2:h≤u
       · exact⟨false,u-h,v-h,fun i hi=>by rw[H i hi,Bool.false_xor,Bool.eq_iff_iff];simp;omega⟩
       · exact⟨true,v-h,u,fun i hi=>by rw[H i hi,Bool.true_xor,Bool.eq_iff_iff];simp;omega⟩
   · by_cases c1:u<v-h∧u<h
     · right;intro i hi;rw[H i hi];simp;omega
     · left;intro i hi;rw[L i hi];simp;omega
 · simp only[Bool.true_xor] at L H
   refine⟨?_,⟨true,u,v-h,fun i hi=>?_⟩,?_⟩
   · by_cases c1:v≤h
     · exact⟨true,u,v,fun i hi=>by rw[L i hi,Bool.true_xor,Bool.eq_iff_iff];simp;omega⟩
     · by_cases c2:h≤u
       · exact⟨true,u-h,v-h,fun i hi=>by rw[L i hi,Bool.true_xor,Bool.eq_iff_iff];simp;omega⟩
       · exact⟨false,v-h,u,fun i hi=>by rw[L i hi,Bool.false_xor,Bool.eq_iff_iff];simp;omega⟩
   · rw[H i hi,Bool.true_xor,Bool.eq_iff_iff];simp;omega
   · by_cases c1:u<v-h∧u<h
     · left;intro i hi;rw[L i hi];simp;omega
     · right;intro i hi;rw[H i hi];simp;omega
theorem Bit.not {s:Nat→Bool} {o m:Nat} (h:Bit s o m):Bit (fun x=>!s x) o m:=by
 obtain⟨c,u,v,e⟩:=h
 exact⟨!c,u,v,fun i hi=>by show(!s (o+i))=_;rw[e i hi];cases c<;>simp⟩
def Srt (up:Bool) (s:Nat→Bool) (o m:Nat):Prop:=∀i j,i≤j→j<m→(bif up then s (o+i)=true→s (o+j)=true else s (o+j)=true→s (o+i)=true)
theorem jB_const {a:Nat} (c:Bool):∀(b:Nat) (s:Nat→Bool) (o:Nat),b≤a+1→o%2 ^ b=0→(∀i,i<2 ^ b→s (o+i)=c)→∀i,i<2 ^ b→jB a b s (o+i)=c
 | 0,s,o,_,_,h,i,hi=>h i hi
 | b+1,s,o,hb,ho,h,i,hi=>by
   have hp:0<2 ^ b:=Nat.pow_pos (by decide)
   have e:2 ^ (b+1)=2 ^ b*2:=Nat.pow_succ 2 b
   have h1:∀i,i<2 ^ (b+1)→parB (2 ^ (a+1)) (2 ^ b) s (o+i)=c:=by
     intro i hi
     unfold parB
     have hsp:=blk_split ho hi
     split
     · rename_i h0
       have:=hsp.1 h0
       rw[h i hi,show o+i+2 ^ b=o+(i+2 ^ b) by omega,h (i+2 ^ b) (by omega)]
       cases c<;>simp
     · rename_i h0
       have h2:¬i<2 ^ b:=fun x=>h0 (hsp.2 x)
       rw[h i hi,show o+i-2 ^ b=o+(i-2 ^ b) by omega,h (i-2 ^ b) (by omega)]
       cases c<;>simp
   have ho1:o%2 ^ b=0:=by rw[e] at ho;exact Nat.mod_eq_zero_of_dvd (Nat.dvd_trans (Nat.dvd_mul_right _ _) (Nat.dvd_of_mod_eq_zero ho))
   show jB a b (parB (2 ^ (a+1)) (2 ^ b) s) (o+i)=c
   by_cases h3:i<2 ^ b
   · exact jB_const (a:=a) c b _ o (by omega) ho1 (fun i hi=>h1 i (by omega)) i h3
   · have:=jB_const (a:=a) c b (parB (2 ^ (a+1)) (2 ^ b) s) (o+2 ^ b) (by omega) (by rw[Nat.add_mod_right];exact ho1) (fun i hi=>by rw[Nat.add_assoc];exact h1 (2 ^ b+i) (by omega)) (i-2 ^ b) (by omega)
     rw[show o+i=o+2 ^ b+(i-2 ^ b) by omega];exact this
theorem jB_sorts {a:Nat}:∀(b:Nat) (s:Nat→Bool) (o:Nat),b≤a+1→o%2 ^ b=0→Bit s o (2 ^ b)→Srt (decide (o/2 ^ (a+1)%2=0)) (jB a b s) o (2 ^ b)
 | 0,s,o,_,_,_=>by
   intro i j h1 h2
   have h3:i=0∧j=0:=by simp at h2;omega
   obtain⟨rfl,rfl⟩:=h3
   cases decide (o/2 ^ (a+1)%2=0)<;>simp
 | b+1,s,o,hb,ho,hbit=>by
   have hp:0<2 ^ b:=Nat.pow_pos (by decide)
   have e:2 ^ (b+1)=2*2 ^ b:=by rw[Nat.pow_succ];omega
   have ho1:o%2 ^ b=0:=by rw[e] at ho;exact Nat.mod_eq_zero_of_dvd (Nat.dvd_trans (Nat.dvd_mul_left _ _) (Nat.dvd_of_mod_eq_zero ho))
   have ho2:(o+2 ^ b)%2 ^ b=0:=by rw[Nat.add_mod_right];exact ho1
   have hd:∀i,i<2 ^ (b+1)→(o+i)/2 ^ (a+1)=o/2 ^ (a+1):=fun i hi=>blk_dir hb ho hi
   have hd2:(o+2 ^ b)/2 ^ (a+1)=o/2 ^ (a+1):=hd _ (by omega)
   generalize hP:parB (2 ^ (a+1)) (2 ^ b) s=p
   have plo:∀i,i<2 ^ b→p (o+i)=(bif decide (o/2 ^ (a+1)%2=0) then s (o+i)&&s (o+i+2 ^ b) else s (o+i)||s (o+i+2 ^ b)):=fun i hi=>by
     rw[←hP];unfold parB
     rw[if_pos ((blk_split ho (by omega)).2 hi),hd i (by omega)]
   have phi:∀i,i<2 ^ b→p (o+2 ^ b+i)=(bif decide (o/2 ^ (a+1)%2=0) then s (o+i)||s (o+i+2 ^ b) else s (o+i)&&s (o+i+2 ^ b)):=fun i hi=>by
     rw[←hP];unfold parB
     have e1:o+2 ^ b+i=o+(2 ^ b+i):=by omega
     rw[if_neg (by rw[e1,blk_split ho (by omega)];omega),show o+2 ^ b+i-2 ^ b=o+i by omega,hd i (by omega),show o+2 ^ b+i=o+i+2 ^ b by omega]
   have key:Bit p o (2 ^ b)∧Bit p (o+2 ^ b) (2 ^ b)∧(bif decide (o/2 ^ (a+1)%2=0) then ((∀i,i<2 ^ b→p (o+i)=false)∨(∀i,i<2 ^ b→p (o+2 ^ b+i)=true)) else ((∀i,i<2 ^ b→p (o+i)=true)∨(∀i,i<2 ^ b→p (o+2 ^ b+i)=false))):=by
     rw[e] at hbit
     cases hu:decide (o/2 ^ (a+1)%2=0) with
     | true =>
       rw[hu] at plo phi
       simp only[cond_true] at plo phi ⊢
       exact half_clean hbit plo phi
     | false =>
       rw[hu] at plo phi
       simp only[cond_false] at plo phi ⊢
       obtain⟨h1,h2,h3⟩:=half_clean (lo:=fun x=>!p x) (hi:=fun x=>!p x) hbit.not (fun i hi=>by simp[plo i hi]) (fun i hi=>by simp[phi i hi])
       refine⟨by simpa using h1.not,by simpa using h2.not,?_⟩
       rcases h3 with h3|h3
       · left;intro i hi;have:=h3 i hi;simpa using this
       · right;intro i hi;have:=h3 i hi;simpa using this
   obtain⟨b1,b2,b3⟩:=key
   have s1:=jB_sorts (a:=a) b p o (by omega) ho1 b1
   have s2:=jB_sorts (a:=a) b p (o+2 ^ b) (by omega) ho2 b2
   rw[hd2] at s2
   show Srt _ (jB a b (parB (2 ^ (a+1)) (2 ^ b) s)) o (2 ^ (b+1))
   rw[hP]
   intro i j hij hj
   by_cases hj1:j<2 ^ b
   · exact s1 i j hij hj1
   · by_cases hi1:i<2 ^ b
     · rw[show o+j=o+2 ^ b+(j-2 ^ b) by omega]
       cases hu:decide (o/2 ^ (a+1)%2=0) with
       | true =>
         rw[hu] at b3;simp only[cond_true] at b3 ⊢
         rcases b3 with b3|b3
         · intro h;rw[jB_const false b p o (by omega) ho1 b3 i hi1] at h;cases h
         · intro _;exact jB_const true b p _ (by omega) ho2 b3 _ (by omega)
       | false =>
         rw[hu] at b3;simp only[cond_false] at b3 ⊢
         rcases b3 with b3|b3
         · intro _;exact jB_const true b p o (by omega) ho1 b3 i hi1
         · intro h;rw[jB_const false b p _ (by omega) ho2 b3 _ (by omega)] at h;cases h
     · have:=s2 (i-2 ^ b) (j-2 ^ b) (by omega) (by omega)
       rw[show o+2 ^ b+(i-2 ^ b)=o+i by omega,show o+2 ^ b+(j-2 ^ b)=o+j by omega] at this
       exact this
theorem srt_cut {s:Nat→Bool} {o:Nat}:∀m,(∀i j,i≤j→j<m→s (o+i)=true→s (o+j)=true)→∃u,u≤m∧∀i,i<m→s (o+i)=decide (u≤i)
 | 0,_=>⟨0,by omega,fun i hi=>by omega⟩
 | m+1,h=>by
   obtain⟨u,hu,hs⟩:=srt_cut m (fun i j h1 h2=>h i j h1 (by omega))
   cases e:s (o+m) with
   | true =>
     refine⟨u,by omega,fun i hi=>?_⟩
     by_cases hm:i=m
     · subst hm;rw[e];simp[hu]
     · exact hs i (by omega)
   | false =>
     refine⟨m+1,by omega,fun i hi=>?_⟩
     have:s (o+i)≠true:=fun x=>by rw[h i m (by omega) (by omega) x] at e;cases e
     simp only[Bool.not_eq_true] at this
     rw[this];simp;omega
theorem srt_bit {s:Nat→Bool} {o h:Nat} (h1:Srt true s o h) (h2:Srt false s (o+h) h):Bit s o (2*h):=by
 obtain⟨u,hu,e1⟩:=srt_cut h (fun i j a b=>h1 i j a b)
 obtain⟨v,hv,e2⟩:=srt_cut (s:=fun x=>!s x) (o:=o+h) h (fun i j a b=>by
   have:=h2 i j a b
   simp only[cond_false] at this
   simp only[Bool.not_eq_true']
   intro hn
   cases e:s (o+h+j) with
   | false=>rfl
   | true=>rw[this e] at hn;cases hn)
 refine⟨false,u,h+v,fun i hi=>?_⟩
 rw[Bool.false_xor]
 by_cases c:i<h
 · rw[e1 i c,Bool.eq_iff_iff];simp;omega
 · have:=e2 (i-h) (by omega)
   rw[show o+h+(i-h)=o+i by omega] at this
   have h3:s (o+i)= !decide (v≤i-h):=by rw[←this];simp
   rw[h3,Bool.eq_iff_iff];simp;omega
theorem kB_sorts:∀(a:Nat) (s:Nat→Bool) (o:Nat),o%2 ^ a=0→Srt (decide (o/2 ^ a%2=0)) (kB a s) o (2 ^ a)
 | 0,s,o,_=>by
   intro i j h1 h2
   have h3:i=0∧j=0:=by simp at h2;omega
   obtain⟨rfl,rfl⟩:=h3
   cases decide (o/2 ^ 0%2=0)<;>simp
 | a+1,s,o,ho=>by
   have hp:0<2 ^ a:=Nat.pow_pos (by decide)
   have e:2 ^ (a+1)=2*2 ^ a:=by rw[Nat.pow_succ];omega
   show Srt _ (jB a (a+1) (kB a s)) o (2 ^ (a+1))
   refine jB_sorts (a+1) _ o (Nat.le_refl _) ho ?_
   obtain⟨q,rfl⟩:=Nat.dvd_of_mod_eq_zero ho
   have e1:2 ^ (a+1)*q/2 ^ a=2*q:=by
     rw[e,show 2*2 ^ a*q=2 ^ a*(2*q) by rw[Nat.mul_comm 2,Nat.mul_assoc]]
     exact Nat.mul_div_cancel_left _ hp
   have m1:2 ^ (a+1)*q%2 ^ a=0:=by
     rw[e,show 2*2 ^ a*q=2 ^ a*(2*q) by rw[Nat.mul_comm 2,Nat.mul_assoc]]
     exact Nat.mul_mod_right _ _
   have s1:=kB_sorts a s (2 ^ (a+1)*q) m1
   have s2:=kB_sorts a s (2 ^ (a+1)*q+2 ^ a) (by rw[Nat.add_mod_right];exact m1)
   rw[e1,decide_eq_true (by omega)] at s1
   rw[add_div_self hp,e1,decide_eq_false (by omega)] at s2
   rw[e];rw[e] at s1 s2
   exact srt_bit s1 s2
/-! ## the whole -/
theorem stage_lt (key:α→Nat) {K a b:Nat} (hb:b<K) (f:Nat→α) {x:Nat} (hx:x<2 ^ K):netRun key (ip (2 ^ (a+1)) (2 ^ b) (2 ^ K)) f x=par key (2 ^ (a+1)) (2 ^ b) f x:=by
 rw[run_ip key f _ _ (Nat.pow_pos (by decide)),if_pos hx,if_pos (Nat.lt_of_le_of_lt (Nat.sub_le x (2 ^ b)) hx),ite_self]
theorem parB_congr {K b k:Nat} (hb:b<K) {s s':Nat→Bool} (h:∀x,x<2 ^ K→s x=s' x) {x:Nat} (hx:x<2 ^ K):parB k (2 ^ b) s x=parB k (2 ^ b) s' x:=by
 unfold parB
 split
 · rename_i h0
   have hp:0<2 ^ b:=Nat.pow_pos (by decide)
   have h2:x+2 ^ b<2 ^ K:=by
     have e:2 ^ K=2 ^ b*2 ^ (K-b):=by rw[←Nat.pow_add];congr 1;omega
     have e2:2 ^ (K-b)%2=0:=by
       rw[show K-b=(K-b-1)+1 by omega,Nat.pow_succ];omega
     have h3:x/2 ^ b<2 ^ (K-b):=by rw[Nat.div_lt_iff_lt_mul hp,Nat.mul_comm,←e];exact hx
     have h4:x/2 ^ b+1<2 ^ (K-b):=by omega
     have h5:(x+2 ^ b)/2 ^ b<2 ^ (K-b):=by rw[add_div_self hp];exact h4
     rw[Nat.div_lt_iff_lt_mul hp,Nat.mul_comm,←e] at h5;exact h5
   rw[h x hx,h _ h2]
 · rename_i h0
   rw[h x hx,h (x-2 ^ b) (Nat.lt_of_le_of_lt (Nat.sub_le x (2 ^ b)) hx)]
theorem jN_thr (key:α→Nat) {K a:Nat} (t:Nat):∀(b:Nat) (f:Nat→α) (s:Nat→Bool),b≤K→(∀x,x<2 ^ K→s x=decide (t≤key (f x)))→∀x,x<2 ^ K→jB a b s x=decide (t≤key (netRun key (jN (2 ^ K) a b) f x))
 | 0,f,s,_,h,x,hx=>h x hx
 | b+1,f,s,hb,h,x,hx=>by
   show jB a b _ x=decide (t≤key (netRun key (ip (2 ^ (a+1)) (2 ^ b) (2 ^ K)++jN (2 ^ K) a b) f x))
   rw[netRun_append]
   refine jN_thr key t b _ _ (by omega) (fun x hx=>?_) x hx
   rw[stage_lt key (by omega) f hx,par_thr]
   exact parB_congr (by omega) h hx
theorem kN_thr (key:α→Nat) {K:Nat} (t:Nat) (f:Nat→α):∀a,a≤K→∀x,x<2 ^ K→kB a (fun x=>decide (t≤key (f x))) x=decide (t≤key (netRun key (kN (2 ^ K) a) f x))
 | 0,_,x,hx=>rfl
 | a+1,ha,x,hx=>by
   show jB a (a+1) _ x=decide (t≤key (netRun key (kN (2 ^ K) a++jN (2 ^ K) a (a+1)) f x))
   rw[netRun_append]
   exact jN_thr key t (a+1) _ _ ha (kN_thr key t f a (by omega)) x hx
theorem net_sorts (key:α→Nat) (K:Nat) (f:Nat→α) {i j:Nat} (hij:i≤j) (hj:j<2 ^ K):key (netRun key (netN K) f i)≤key (netRun key (netN K) f j):=by
 have h:=kB_sorts K (fun x=>decide (key (netRun key (netN K) f i)≤key (f x))) 0 (Nat.zero_mod _)
 rw[Nat.zero_div,decide_eq_true (by decide)] at h
 have h1:=h i j hij hj
 simp only[cond_true,Nat.zero_add] at h1
 rw[kN_thr key _ f K (Nat.le_refl _) i (by omega),kN_thr key _ f K (Nat.le_refl _) j hj] at h1
 exact of_decide_eq_true (h1 (decide_eq_true (Nat.le_refl _)))
/-! ## the same ones -/
theorem perm_swap2 {n i j:Nat} (hi:i<n) (hj:j<n) (hne:i≠j) {f g:Nat→α} (h:∀x,x≠i→x≠j→g x=f x) (hs:(g i=f i∧g j=f j)∨(g i=f j∧g j=f i)) :
   ((List.range n).map g).Perm ((List.range n).map f):=by
 have p1:(List.range n).Perm (i::j::((List.range n).erase i).erase j) :=
   (List.perm_cons_erase (List.mem_range.2 hi)).trans (List.Perm.cons _ (List.perm_cons_erase ((List.mem_erase_of_ne hne.symm).2 (List.mem_range.2 hj))))
 have nd:(List.range n).Nodup:=List.nodup_range
 have hr:(((List.range n).erase i).erase j).map g=(((List.range n).erase i).erase j).map f:=by
   apply List.map_congr_left
   intro x hx
   have h1:=(List.Nodup.mem_erase_iff (nd.erase i)).1 hx
   have h2:=(List.Nodup.mem_erase_iff nd).1 h1.2
   exact h x h2.1 h1.1
 have e1:=p1.map g
 have e2:=p1.map f
 simp only[List.map_cons] at e1 e2
 rw[hr] at e1
 rcases hs with ⟨a,b⟩|⟨a,b⟩
 · rw[a,b] at e1;exact e1.trans e2.symm
 · rw[a,b] at e1;exact e1.trans ((List.Perm.swap _ _ _).trans e2.symm)
theorem cx_perm (key:α→Nat) (f:Nat→α) {n:Nat} {p:Nat×Nat×Bool} (h1:p.1<p.2.1) (h2:p.2.1<n):((List.range n).map (cx key f p)).Perm ((List.range n).map f):=by
 refine perm_swap2 (i:=p.1) (j:=p.2.1) (by omega) h2 (by omega) (fun x a b=>by simp[cx,a,b]) ?_
 have e1:cx key f p p.1=(cxA key p.2.2 (f p.1) (f p.2.1)).1:=by simp[cx]
 have e2:cx key f p p.2.1=(cxA key p.2.2 (f p.1) (f p.2.1)).2:=by simp only[cx];rw[if_neg (by omega)];simp
 rw[e1,e2]
 unfold cxA
 split
 · exact .inr ⟨rfl,rfl⟩
 · exact .inl ⟨rfl,rfl⟩
theorem cx_out (key:α→Nat) (f:Nat→α) {n:Nat} {p:Nat×Nat×Bool} (h1:p.1<p.2.1) (h2:p.2.1<n) {x:Nat} (hx:n≤x):cx key f p x=f x:=by
 simp only[cx];rw[if_neg (by omega),if_neg (by omega)]
theorem run_perm (key:α→Nat) {n:Nat}:∀(l:List (Nat×Nat×Bool)) (f:Nat→α),(∀p∈l,p.1<p.2.1∧p.2.1<n)→((List.range n).map (netRun key l f)).Perm ((List.range n).map f)∧∀x,n≤x→netRun key l f x=f x
 | [],f,_=>⟨List.Perm.refl _,fun _ _=>rfl⟩
 | p::l,f,h=>by
   have hp:=h p (List.mem_cons_self ..)
   obtain⟨h1,h2⟩:=run_perm key l (cx key f p) (fun q hq=>h q (List.mem_cons_of_mem _ hq))
   exact⟨h1.trans (cx_perm key f hp.1 hp.2),fun x hx=>(h2 x hx).trans (cx_out key f hp.1 hp.2 hx)⟩
theorem ip_in {K b k:Nat} (hb:b<K):∀p∈ip k (2 ^ b) (2 ^ K),p.1<p.2.1∧p.2.1<2 ^ K:=by
 intro p hp
 have hpos:0<2 ^ b:=Nat.pow_pos (by decide)
 simp only[ip,List.mem_map,List.mem_filter,List.mem_range,decide_eq_true_eq] at hp
 obtain⟨x,⟨hx,h0⟩,rfl⟩:=hp
 refine⟨by show x<x+2 ^ b;omega,?_⟩
 show x+2 ^ b<2 ^ K
 have e:2 ^ K=2 ^ b*2 ^ (K-b):=by rw[←Nat.pow_add];congr 1;omega
 have e2:2 ^ (K-b)%2=0:=by
   rw[show K-b=(K-b-1)+1 by omega,Nat.pow_succ];omega
 have h3:x/2 ^ b<2 ^ (K-b):=by rw[Nat.div_lt_iff_lt_mul hpos,Nat.mul_comm,←e];exact hx
 have h5:(x+2 ^ b)/2 ^ b<2 ^ (K-b):=by rw[add_div_self hpos];omega
 rw[Nat.div_lt_iff_lt_mul hpos,Nat.mul_comm,←e] at h5;exact h5
theorem jN_in {K a:Nat}:∀b,b≤K→∀p∈jN (2 ^ K) a b,p.1<p.2.1∧p.2.1<2 ^ K
 | 0,_,p,hp=>by simp[jN] at hp
 | b+1,hb,p,hp=>by
   rcases List.mem_append.1 hp with h|h
   · exact ip_in (by omega) p h
   · exact jN_in b (by omega) p h
theorem kN_in {K:Nat}:∀a,a≤K→∀p∈kN (2 ^ K) a,p.1<p.2.1∧p.2.1<2 ^ K
 | 0,_,p,hp=>by simp[kN] at hp
 | a+1,ha,p,hp=>by
   rcases List.mem_append.1 hp with h|h
   · exact kN_in a (by omega) p h
   · exact jN_in (a+1) ha p h
theorem net_perm (key:α→Nat) (K:Nat) (f:Nat→α):((List.range (2 ^ K)).map (netRun key (netN K) f)).Perm ((List.range (2 ^ K)).map f)∧∀x,2 ^ K≤x→netRun key (netN K) f x=f x :=
 run_perm key _ f (kN_in K (Nat.le_refl _))
end net
end Go.Sh
/- What a stable sort in place does, step by step: plain functions, no program in sight. -/
namespace Go.Sh
section srt
variable {α:Type}
def sw (d:Nat→α) (i j:Nat):Nat→α:=fun x=>if x=i then d j else if x=j then d i else d x
def PIn (a b:Nat) (d d':Nat→α):Prop:=(∀x,x<a∨b≤x→d' x=d x)∧((List.range' a (b-a)).map d').Perm ((List.range' a (b-a)).map d)
theorem PIn.refl (a b:Nat) (d:Nat→α):PIn a b d d:=⟨fun _ _=>rfl,List.Perm.refl _⟩
theorem PIn.trans {a b:Nat} {d d' d'':Nat→α} (p:PIn a b d d') (q:PIn a b d' d''):PIn a b d d'' :=
 ⟨fun x hx=>(q.1 x hx).trans (p.1 x hx),q.2.trans p.2⟩
theorem range'_split {a m b:Nat} (h1:a≤m) (h2:m≤b):List.range' a (b-a)=List.range' a (m-a)++List.range' m (b-m):=by
 rw[show b-a=(m-a)+(b-m) by omega,←List.range'_append_1,show a+(m-a)=m by omega]
theorem map_eq_out {a n:Nat} {d d':Nat→α} (h:∀x,a≤x→x<a+n→d' x=d x):(List.range' a n).map d'=(List.range' a n).map d :=
 List.map_congr_left fun x hx=>by
   have:=List.mem_range'_1.1 hx
   exact h x this.1 this.2
theorem PIn.mono {a b a' b':Nat} {d d':Nat→α} (p:PIn a b d d') (h1:a'≤a) (h2:a≤b) (h3:b≤b'):PIn a' b' d d':=by
 refine⟨fun x hx=>p.1 x (by omega),?_⟩
 rw[range'_split (m:=a) h1 (by omega),range'_split (a:=a) (m:=b) h2 h3]
 simp only[List.map_append]
 rw[map_eq_out (a:=a') (d:=d) (d':=d') fun x _ hx=>p.1 x (by omega),map_eq_out (a:=b) (d:=d) (d':=d') fun x hx _=>p.1 x (by omega)]
 exact(List.Perm.refl _).append (p.2.append (List.Perm.refl _))
theorem PIn.all {a b:Nat} {d d':Nat→α} (p:PIn a b d d') {P:α→Prop} (h:∀x,a≤x→x<b→P (d x)) {x:Nat} (h1:a≤x) (h2:x<b):P (d' x):=by
 have hm:d' x∈(List.range' a (b-a)).map d':=List.mem_map_of_mem (List.mem_range'_1.2 ⟨h1,by omega⟩)
 obtain⟨y,hy,e⟩:=List.mem_map.1 (p.2.mem_iff.1 hm)
 have:=List.mem_range'_1.1 hy
 rw[←e];exact h y this.1 (by omega)
theorem PIn.sw {a b i j:Nat} (d:Nat→α) (hi:a≤i∧i<b) (hj:a≤j∧j<b):PIn a b d (sw d i j):=by
 refine⟨fun x hx=>by simp only[Go.Sh.sw];rw[if_neg (by omega),if_neg (by omega)],?_⟩
 by_cases e:i=j
 · subst e
   have:Go.Sh.sw d i i=d:=by funext x;simp only[Go.Sh.sw];split<;>simp_all
   rw[this]
 have nd:(List.range' a (b-a)).Nodup:=List.nodup_range'
 have p1:(List.range' a (b-a)).Perm (i::j::((List.range' a (b-a)).erase i).erase j) :=
   (List.perm_cons_erase (List.mem_range'_1.2 ⟨hi.1,by omega⟩)).trans (List.Perm.cons _ (List.perm_cons_erase ((List.mem_erase_of_ne (fun h=>e h.symm)).2 (List.mem_range'_1.2 ⟨hj.1,by omega⟩))))
 have hr:(((List.range' a (b-a)).erase i).erase j).map (Go.Sh.sw d i j)=(((List.range' a (b-a)).erase i).erase j).map d:=by
   apply List.map_congr_left
   intro x hx
   have h1:=(List.Nodup.mem_erase_iff (nd.erase i)).1 hx
   have h2:=(List.Nodup.mem_erase_iff nd).1 h1.2
   simp only[Go.Sh.sw];rw[if_neg h2.1,if_neg h1.1]
 have e1:=p1.map (Go.Sh.sw d i j)
 have e2:=p1.map d
 simp only[List.map_cons] at e1 e2
 rw[hr] at e1
 have a1:Go.Sh.sw d i j i=d j:=by simp[Go.Sh.sw]
 have a2:Go.Sh.sw d i j j=d i:=by simp only[Go.Sh.sw];rw[if_neg (fun h=>e h.symm)];simp
 rw[a1,a2] at e1
 exact e1.trans ((List.Perm.swap _ _ _).trans e2.symm)
def SIn (key:α→Nat) (a b:Nat) (d:Nat→α):Prop:=∀i j,a≤i→i≤j→j<b→key (d i)≤key (d j)
variable {key:α→Nat}
theorem SIn.sub {a b a' b':Nat} {d:Nat→α} (s:SIn key a b d) (h1:a≤a') (h2:b'≤b):SIn key a' b' d:=fun i j x y z=>s i j (by omega) y (by omega)
theorem SIn.congr {a b:Nat} {d d':Nat→α} (s:SIn key a b d) (h:∀x,a≤x→x<b→d' x=d x):SIn key a b d':=fun i j x y z=>by
 rw[h i x (by omega),h j (by omega) z];exact s i j x y z
theorem SIn.one {a b:Nat} (h:b≤a+1) (d:Nat→α):SIn key a b d:=fun i j h1 h2 h3=>by
 have:i=j:=by omega
 subst this;exact Nat.le_refl _
theorem SIn.join {a m b:Nat} {d:Nat→α} (s:SIn key a m d) (t:SIn key m b d) (h:∀i j,a≤i→i<m→m≤j→j<b→key (d i)≤key (d j)):SIn key a b d:=fun i j x y z=>by
 by_cases c1:j<m
 · exact s i j x y c1
 · by_cases c2:i<m
   · exact h i j x c2 (by omega) z
   · exact t i j (by omega) y z
structure Ins (key:α→Nat) (a i j:Nat) (e:Nat→α):Prop where
 low:a≤j∧j≤i
 ord:∀x y,a≤x→x≤y→y≤i→x≠j→y≠j→key (e x)≤key (e y)
 up:∀y,j<y→y≤i→key (e j)<key (e y)
theorem Ins.start {a i:Nat} {e:Nat→α} (h:a≤i) (s:SIn key a i e):Ins key a i i e:=⟨⟨h,Nat.le_refl _⟩,fun x y h1 h2 h3 h4 h5=>s x y h1 h2 (by omega),fun y h1 h2=>by omega⟩
theorem Ins.step {a i j:Nat} {e:Nat→α} (s:Ins key a i j e) (hj:a<j) (hlt:key (e j)<key (e (j-1))):Ins key a i (j-1) (sw e j (j-1)):=by
 have ej:sw e j (j-1) j=e (j-1):=by simp[sw]
 have ej1:sw e j (j-1) (j-1)=e j:=by simp only[sw];rw[if_neg (by omega)];simp
 have eo:∀x,x≠j→x≠j-1→sw e j (j-1) x=e x:=fun x h1 h2=>by simp only[sw];rw[if_neg h1,if_neg h2]
 have hl:=s.low
 refine⟨by omega,fun x y h1 h2 h3 h4 h5=>?_,fun y h1 h2=>?_⟩
 · by_cases c1:x=j
   · by_cases c2:y=j
     · rw[c1,c2];exact Nat.le_refl _
     · rw[c1,ej,eo y c2 h5];exact s.ord (j-1) y (by omega) (by omega) h3 (by omega) c2
   · by_cases c2:y=j
     · rw[c2,ej,eo x c1 h4];exact s.ord x (j-1) h1 (by omega) (by omega) c1 (by omega)
     · rw[eo x c1 h4,eo y c2 h5];exact s.ord x y h1 h2 h3 c1 c2
 · rw[ej1]
   by_cases c:y=j
   · rw[c,ej];exact hlt
   · rw[eo y c (by omega)];exact s.up y (by omega) h2
theorem Ins.done {a i j:Nat} {e:Nat→α} (s:Ins key a i j e) (h:j≤a∨¬key (e j)<key (e (j-1))):SIn key a (i+1) e:=fun x y h1 h2 h3=>by
 have hl:=s.low
 by_cases c1:x=j
 · by_cases c2:y=j
   · rw[c1,c2];exact Nat.le_refl _
   · rw[c1];exact Nat.le_of_lt (s.up y (by omega) (by omega))
 · by_cases c2:y=j
   · rcases h with h|h
     · omega
     · rw[c2]
       have h4:key (e x)≤key (e (j-1)):=s.ord x (j-1) h1 (by omega) (by omega) c1 (by omega)
       omega
   · exact s.ord x y h1 h2 (by omega) c1 c2
def shUp (d:Nat→α) (a k:Nat):Nat→α:=fun x=>if a≤x∧x<k then d (x+1) else if x=k then d a else d x
theorem shUp_start (d:Nat→α) (a:Nat):shUp d a a=d:=by
 funext x;simp only[shUp];rw[if_neg (by omega)];split
 · rename_i h;rw[h]
 · rfl
theorem shUp_step {d:Nat→α} {a k:Nat} (h:a≤k):sw (shUp d a k) k (k+1)=shUp d a (k+1):=by
 funext x
 simp only[sw,shUp]
 by_cases c1:x=k
 · rw[if_pos c1,if_neg (by omega),if_neg (by omega),if_pos (by omega),c1]
 · rw[if_neg c1]
   by_cases c2:x=k+1
   · rw[if_pos c2,if_neg (by omega),if_pos trivial,if_neg (by omega)];simp[c2]
   · rw[if_neg c2]
     by_cases c3:a≤x∧x<k
     · rw[if_pos c3,if_pos (by omega)]
     · rw[if_neg c3,if_neg c1,if_neg (by omega),if_neg c2]
theorem shUp_sorts {d:Nat→α} {a i b:Nat} (h1:a<i) (h2:i≤b) (s:SIn key (a+1) b d) (lo:∀x,a+1≤x→x<i→key (d x)<key (d a)) (hi:∀x,i≤x→x<b→key (d a)≤key (d x)):SIn key a b (shUp d a (i-1)):=fun x y h3 h4 h5=>by
 simp only[shUp]
 by_cases c1:a≤x∧x<i-1
 · rw[if_pos c1]
   by_cases c2:a≤y∧y<i-1
   · rw[if_pos c2];exact s _ _ (by omega) (by omega) (by omega)
   · rw[if_neg c2]
     by_cases c3:y=i-1
     · rw[if_pos c3];exact Nat.le_of_lt (lo _ (by omega) (by omega))
     · rw[if_neg c3];exact s _ _ (by omega) (by omega) (by omega)
 · rw[if_neg c1,if_neg (show ¬(a≤y∧y<i-1) by omega)]
   by_cases c3:x=i-1
   · rw[if_pos c3]
     by_cases c4:y=i-1
     · rw[if_pos c4];exact Nat.le_refl _
     · rw[if_neg c4];exact hi _ (by omega) (by omega)
   · rw[if_neg c3,if_neg (by omega)];exact s _ _ (by omega) (by omega) (by omega)
def shDn (d:Nat→α) (m k:Nat):Nat→α:=fun x=>if k<x∧x≤m then d (x-1) else if x=k then d m else d x
theorem shDn_start (d:Nat→α) (m:Nat):shDn d m m=d:=by
 funext x;simp only[shDn];rw[if_neg (by omega)];split
 · rename_i h;rw[h]
 · rfl
theorem shDn_step {d:Nat→α} {m k:Nat} (h:k≤m) (h0:0<k):sw (shDn d m k) k (k-1)=shDn d m (k-1):=by
 funext x
 simp only[sw,shDn]
 by_cases c1:x=k
 · rw[if_pos c1,if_neg (by omega),if_neg (by omega),if_pos (by omega),c1]
 · rw[if_neg c1]
   by_cases c2:x=k-1
   · rw[if_pos c2,if_neg (by omega),if_pos trivial,if_neg (by omega)];simp[c2]
   · rw[if_neg c2]
     by_cases c3:k<x∧x≤m
     · rw[if_pos c3,if_pos (by omega)]
     · rw[if_neg c3,if_neg c1,if_neg (by omega),if_neg c2]
theorem shDn_sorts {d:Nat→α} {a i m:Nat} (h1:a≤i) (h2:i≤m) (s:SIn key a m d) (lo:∀x,a≤x→x<i→key (d x)≤key (d m)) (hi:∀x,i≤x→x<m→key (d m)<key (d x)):SIn key a (m+1) (shDn d m i):=fun x y h3 h4 h5=>by
 simp only[shDn]
 by_cases c1:i<y∧y≤m
 · rw[if_pos c1]
   by_cases c2:i<x∧x≤m
   · rw[if_pos c2];exact s _ _ (by omega) (by omega) (by omega)
   · rw[if_neg c2]
     by_cases c3:x=i
     · rw[if_pos c3];exact Nat.le_of_lt (hi _ (by omega) (by omega))
     · rw[if_neg c3];exact s _ _ (by omega) (by omega) (by omega)
 · rw[if_neg c1,if_neg (show ¬(i<x∧x≤m) by omega)]
   by_cases c3:y=i
   · rw[if_pos c3]
     by_cases c4:x=i
     · rw[if_pos c4];exact Nat.le_refl _
     · rw[if_neg c4];exact lo _ (by omega) (by omega)
   · rw[if_neg c3,if_neg (by omega)];exact s _ _ (by omega) (by omega) (by omega)
/-! ## two blocks turned -/
def swp (d:Nat→α) (a b n:Nat):Nat→α:=fun x=>if a≤x∧x<a+n then d (x-a+b) else if b≤x∧x<b+n then d (x-b+a) else d x
theorem swp_zero (d:Nat→α) (a b:Nat):swp d a b 0=d:=by funext x;simp only[swp];rw[if_neg (by omega),if_neg (by omega)]
theorem swp_succ {d:Nat→α} {a b n:Nat} (h:a+n<b):sw (swp d a b n) (a+n) (b+n)=swp d a b (n+1):=by
 funext x;simp only[sw,swp]
 repeat' split
 all_goals first|(exfalso;omega)|rfl|(congr 1;omega)
def rot (d:Nat→α) (a m b:Nat):Nat→α:=fun x=>if a≤x∧x<a+(b-m) then d (x+(m-a)) else if a+(b-m)≤x∧x<b then d (x-(b-m)) else d x
theorem rot_end {d:Nat→α} {m i:Nat} (h:i≤m):swp d (m-i) m i=rot d (m-i) m (m+i):=by
 funext x;simp only[swp,rot]
 repeat' split
 all_goals first|(exfalso;omega)|rfl|(congr 1;omega)
theorem rot_more {d:Nat→α} {m i j:Nat} (h:i≤m) (hj:j<i):rot (swp d (m-i) m j) (m-(i-j)) m (m+j)=rot d (m-i) m (m+j):=by
 funext x;simp only[swp,rot]
 repeat' split
 all_goals first|(exfalso;omega)|rfl|(congr 1;omega)
theorem rot_less {d:Nat→α} {m i j:Nat} (h:i≤m) (hj:i<j):rot (swp d (m-i) (m+j-i) i) (m-i) m (m+(j-i))=rot d (m-i) m (m+j):=by
 funext x;simp only[swp,rot]
 repeat' split
 all_goals first|(exfalso;omega)|rfl|(congr 1;omega)
theorem rot_none1 (d:Nat→α) (m b:Nat) (h:m≤b):rot d m m b=d:=by
 funext x;simp only[rot]
 by_cases c1:m≤x∧x<m+(b-m)
 · rw[if_pos c1];congr 1;omega
 · rw[if_neg c1,if_neg (by omega)]
theorem rot_none2 (d:Nat→α) (a m:Nat) (h:a≤m):rot d a m m=d:=by
 funext x;simp only[rot]
 rw[if_neg (by omega)]
 by_cases c1:a+(m-m)≤x∧x<m
 · rw[if_pos c1];congr 1;omega
 · rw[if_neg c1]
/-! ## the merge's cut -/
structure Cut (key:α→Nat) (a m b st:Nat) (d:Nat→α):Prop where
 lo:a≤st∧st≤m∧st≤(a+b)/2
 en:m≤(a+b)/2+m-st∧(a+b)/2+m-st≤b
 x1:st<m→m<(a+b)/2+m-st→key (d ((a+b)/2+m-st-1))≤key (d st)
 x2:a<st→(a+b)/2+m-st<b→key (d (st-1))≤key (d ((a+b)/2+m-st))
theorem Cut.use {a m b st:Nat} {d d1:Nat→α} (hab:a<m∧m<b) (s1:SIn key a m d) (s2:SIn key m b d) (c:Cut key a m b st d) (hd:d1=rot d st m ((a+b)/2+m-st)) :
   SIn key a st d1∧SIn key st ((a+b)/2) d1∧SIn key ((a+b)/2) ((a+b)/2+m-st) d1∧SIn key ((a+b)/2+m-st) b d1∧∀i j,a≤i→i<(a+b)/2→(a+b)/2≤j→j<b→key (d1 i)≤key (d1 j):=by
 subst hd
 obtain⟨⟨l1,l2,l3⟩,⟨e1,e2⟩,x1,x2⟩:=c
 generalize hmid:(a+b)/2=mid at *
 have hm2:a≤mid∧mid<b:=by omega
 generalize hen:mid+m-st=en at *
 have hst:st+(en-m)=mid:=by omega
 have r1:∀x,x<st→rot d st m en x=d x:=fun x hx=>by simp only[rot];rw[if_neg (by omega),if_neg (by omega)]
 have r2:∀x,st≤x→x<mid→rot d st m en x=d (x+(m-st)):=fun x h1 h2=>by simp only[rot];rw[if_pos (by omega)]
 have r3:∀x,mid≤x→x<en→rot d st m en x=d (x-(en-m)):=fun x h1 h2=>by simp only[rot];rw[if_neg (by omega),if_pos (by omega)]
 have r4:∀x,en≤x→rot d st m en x=d x:=fun x hx=>by simp only[rot];rw[if_neg (by omega),if_neg (by omega)]
 refine⟨fun i j h1 h2 h3=>?_,fun i j h1 h2 h3=>?_,fun i j h1 h2 h3=>?_,fun i j h1 h2 h3=>?_,fun i j h1 h2 h3 h4=>?_⟩
 · rw[r1 i (by omega),r1 j h3];exact s1 _ _ h1 h2 (by omega)
 · rw[r2 i h1 (by omega),r2 j (by omega) h3];exact s2 _ _ (by omega) (by omega) (by omega)
 · rw[r3 i h1 (by omega),r3 j (by omega) h3];exact s1 _ _ (by omega) (by omega) (by omega)
 · rw[r4 i h1,r4 j (by omega)];exact s2 _ _ (by omega) (by omega) h3
 · by_cases c1:i<st
   · rw[r1 i c1]
     by_cases c2:j<en
     · rw[r3 j h3 c2];exact s1 _ _ h1 (by omega) (by omega)
     · rw[r4 j (by omega)]
       have k1:key (d i)≤key (d (st-1)):=s1 _ _ h1 (by omega) (by omega)
       have k2:=x2 (by omega) (by omega)
       have k3:key (d en)≤key (d j):=s2 _ _ (by omega) (by omega) h4
       omega
   · rw[r2 i (by omega) h2]
     by_cases c2:j<en
     · rw[r3 j h3 c2]
       have k1:key (d (i+(m-st)))≤key (d (en-1)):=s2 _ _ (by omega) (by omega) (by omega)
       have k2:=x1 (by omega) (by omega)
       have k3:key (d st)≤key (d (j-(en-m))):=s1 _ _ (by omega) (by omega) (by omega)
       omega
     · rw[r4 j (by omega)];exact s2 _ _ (by omega) (by omega) h4
theorem merge_join {a mid b:Nat} {d1 d2 d3:Nat→α} (h:a≤mid∧mid≤b) (p1:PIn a mid d1 d2) (s1:SIn key a mid d2) (p2:PIn mid b d2 d3) (s2:SIn key mid b d3) (lo:∀i j,a≤i→i<mid→mid≤j→j<b→key (d1 i)≤key (d1 j)):SIn key a b d3:=by
 have h1:∀x,x<mid→d3 x=d2 x:=fun x hx=>p2.1 x (.inl hx)
 refine SIn.join (s1.congr fun x _ hx=>h1 x hx) s2 fun i j a1 a2 a3 a4=>?_
 refine p2.all (P:=fun z=>key (d3 i)≤key z) (fun y b1 b2=>?_) a3 a4
 rw[h1 i a2,p1.1 y (.inr b1)]
 exact p1.all (P:=fun z=>key z≤key (d1 y)) (fun z c1 c2=>lo z y c1 c2 b1 b2) a1 a2
end srt
end Go.Sh
/- Who goes where: plain lists, no program in sight. -/
namespace Go.Sh
structure DSt where
 lv:Int
 on:Nat
 st:Nat
def dnext (k s t:Nat) (x:DSt) (deep:Int):DSt×Option Nat :=
 let lv:=if deep<x.lv then deep else x.lv
 let on:=if deep<x.lv then 0 else x.on
 if lv<0 then (if x.st=t then (⟨lv,on,x.st⟩,none) else (⟨lv,on,x.st+1⟩,some (s*(k+1)+x.st)))
 else (if on+1=s then ⟨lv-1,0,x.st⟩ else ⟨lv,on+1,x.st⟩,some (lv.toNat*s+on))
def dgo (k s t:Nat):List Int→DSt→List (Option Nat)
 | [],_=>[]
 | d::l,x=>if d<0 then none::l.map (fun _=>none) else (dnext k s t x d).2::dgo k s t l (dnext k s t x d).1
theorem dgo_length (k s t:Nat):∀(l:List Int) (x:DSt),(dgo k s t l x).length=l.length
 | [],_=>rfl
 | d::l,x=>by
   unfold dgo;split
   · simp
   · simp[dgo_length k s t l]
def dmany:List Int→Nat
 | []=>0
 | d::l=>if d<0 then 0 else dmany l+1
theorem dmany_le:∀l:List Int,dmany l≤l.length
 | []=>by simp[dmany]
 | d::l=>by unfold dmany;split;· omega
            · have:=dmany_le l;simp;omega
def dleft (n:Nat) (ps:List (Option Nat)):List Nat:=(List.range n).filter fun x=>!ps.contains (some x)
def dfill:List (Option Nat)→List Nat→List Nat
 | [],_=>[]
 | some p::l,r=>p::dfill l r
 | none::l,r=>r.headD 0::dfill l r.tail
def dst0 (k:Nat):DSt:=⟨k,0,0⟩
def places (k s t:Nat) (l:List Int):List Nat:=dfill (dgo k s t l (dst0 k)) (dleft l.length (dgo k s t l (dst0 k)))
def dlost (k s t:Nat) (l:List Int):List Nat:=(List.range (dmany l)).filter fun i=>(dgo k s t l (dst0 k)).getD i none==none
def DFree (k s t:Nat) (x:DSt) (p:Nat):Prop :=
 (p<s*(k+1)→(p/s:Nat)<x.lv∨((p/s:Nat)=x.lv∧x.on≤p%s))∧(s*(k+1)≤p→s*(k+1)+x.st≤p∧p<s*(k+1)+t)
structure DWf (k s t:Nat) (x:DSt):Prop where
 lv:x.lv≤k
 on:x.on<s
 st:x.st≤t
theorem tree_lt {k s:Nat} {a b:Nat} (ha:a≤k) (hb:b<s):a*s+b<s*(k+1):=by
 have h1:a*s≤k*s:=Nat.mul_le_mul_right s ha
 have h2:s*(k+1)=k*s+s:=by rw[Nat.mul_add,Nat.mul_one,Nat.mul_comm]
 omega
theorem tree_div {s a b:Nat} (hb:b<s):(a*s+b)/s=a∧(a*s+b)%s=b:=by
 have hs:0<s:=by omega
 constructor
 · rw[Nat.mul_comm,Nat.mul_add_div hs,Nat.div_eq_of_lt hb,Nat.add_zero]
 · rw[Nat.mul_comm,Nat.mul_add_mod,Nat.mod_eq_of_lt hb]
theorem dnext_ok {k s t:Nat} {x:DSt} (w:DWf k s t x) {d:Int} (hd:0≤d) :
   DWf k s t (dnext k s t x d).1∧(∀p,DFree k s t (dnext k s t x d).1 p→DFree k s t x p) ∧
   (∀p,(dnext k s t x d).2=some p→DFree k s t x p∧¬DFree k s t (dnext k s t x d).1 p∧p<s*(k+1)+t∧(p<s*(k+1)→((p/s:Nat):Int)≤d)) ∧
   ((dnext k s t x d).2=none→x.st=t)∧(dnext k s t x d).1.st≤x.st+1:=by
 obtain⟨w1,w2,w3⟩:=w
 have hs:0<s:=by omega
 generalize hlv:(if d<x.lv then d else x.lv)=lv
 generalize hon:(if d<x.lv then 0 else x.on)=on
 have e:dnext k s t x d=if lv<0 then (if x.st=t then (⟨lv,on,x.st⟩,none) else (⟨lv,on,x.st+1⟩,some (s*(k+1)+x.st))) else (if on+1=s then ⟨lv-1,0,x.st⟩ else ⟨lv,on+1,x.st⟩,some (lv.toNat*s+on)):=by
   unfold dnext;rw[hlv,hon]
 have hl:lv≤x.lv∧lv≤d∧on<s:=by
   by_cases c:d<x.lv
   · rw[if_pos c] at hlv hon;omega
   · rw[if_neg c] at hlv hon;omega
 have mon:∀p st,x.st≤st→DFree k s t ⟨lv,on,st⟩ p→DFree k s t x p:=by
   intro p st hst h
   refine⟨fun hp=>?_,fun hp=>?_⟩
   · have:=h.1 hp
     by_cases c:d<x.lv
     · rw[if_pos c] at hlv hon
       simp only at this;left;omega
     · rw[if_neg c] at hlv hon
       simp only at this;omega
   · have:=h.2 hp;simp only at this;omega
 rw[e]
 by_cases c1:lv<0
 · rw[if_pos c1]
   by_cases c2:x.st=t
   · rw[if_pos c2]
     exact⟨⟨by simp only;omega,hl.2.2,w3⟩,fun p h=>mon p _ (Nat.le_refl _) h,fun p h=>(by cases h),fun _=>c2,by simp⟩
   · rw[if_neg c2]
     refine⟨⟨by simp only;omega,hl.2.2,by simp only;omega⟩,fun p h=>mon p _ (by omega) h,fun p h=>?_,fun h=>(by cases h),by simp⟩
     have hp:s*(k+1)+x.st=p:=Option.some.inj h
     subst hp
     exact⟨⟨fun h=>by omega,fun _=>⟨Nat.le_refl _,by omega⟩⟩,fun h=>by have:=(h.2 (by omega)).1;simp only at this;omega,by omega,fun h=>by omega⟩
 · rw[if_neg c1]
   have c0:((lv.toNat:Nat):Int)=lv:=by omega
   have hlt:lv.toNat*s+on<s*(k+1):=tree_lt (by omega) hl.2.2
   obtain⟨d1,d2⟩:=tree_div (a:=lv.toNat) hl.2.2
   have hfree:DFree k s t ⟨lv,on,x.st⟩ (lv.toNat*s+on):=⟨fun _=> .inr ⟨by rw[d1];exact c0,by rw[d2];exact Nat.le_refl _⟩,fun h=>by omega⟩
   have hst:((if on+1=s then ⟨lv-1,0,x.st⟩ else ⟨lv,on+1,x.st⟩:DSt)).st=x.st:=by split<;>rfl
   refine⟨?_,fun p h=>mon p x.st (Nat.le_refl _) ?_,fun p h=>?_,fun h=>(by cases h),by simp only[hst];omega⟩
   · split
     · exact⟨by simp only;omega,by simp only;omega,w3⟩
     · exact⟨by simp only;omega,by simp only;omega,w3⟩
   · refine⟨fun hp=>?_,fun hp=>?_⟩
     · have:=h.1 hp
       by_cases c2:on+1=s
       · simp only[if_pos c2] at this;simp only;left;omega
       · simp only[if_neg c2] at this;simp only;omega
     · have:=h.2 hp
       simp only[hst] at this;exact this
   · have hp:lv.toNat*s+on=p:=Option.some.inj h
     subst hp
     refine⟨mon _ x.st (Nat.le_refl _) hfree,fun h=>?_,by omega,fun _=>by rw[d1];omega⟩
     have:=h.1 hlt
     rw[d1,d2] at this
     by_cases c2:on+1=s
     · simp only[if_pos c2] at this;omega
     · simp only[if_neg c2] at this;omega
theorem dgo_ok {k s t:Nat}:∀(l:List Int) (x:DSt),DWf k s t x →
   (∀p,some p∈dgo k s t l x→DFree k s t x p∧p<s*(k+1)+t) ∧
   (∀(i j p:Nat),(dgo k s t l x)[i]? =some (some p)→(dgo k s t l x)[j]? =some (some p)→i=j) ∧
   (∀(i p:Nat) (d:Int),(dgo k s t l x)[i]? =some (some p)→l[i]? =some d→0≤d∧(p<s*(k+1)→((p/s:Nat):Int)≤d)) ∧
   (∀(i:Nat),i<dmany l→x.st+i<t→∃p,(dgo k s t l x)[i]? =some (some p)) ∧
   (∀(i p:Nat),(dgo k s t l x)[i]? =some (some p)→i<dmany l)
 | [],x,_=>⟨fun p h=>by simp[dgo] at h,fun i j p h=>by simp[dgo] at h,fun i p d h=>by simp[dgo] at h,fun i h=>by simp[dmany] at h,fun i p h=>by simp[dgo] at h⟩
 | d::l,x,w=>by
   by_cases c:d<0
   · have e:dgo k s t (d::l) x=none::l.map (fun _=>none):=by rw[dgo,if_pos c]
     rw[e]
     have no:∀(i p:Nat),¬((none:Option Nat)::l.map (fun _=>none))[i]? =some (some p):=by
       intro i p h
       have:=List.mem_of_getElem? h
       simp at this
     refine⟨fun p h=>by simp at h,fun i j p h=>absurd h (no i p),fun i p d h=>absurd h (no i p),fun i h=>by rw[dmany,if_pos c] at h;omega,fun i p h=>absurd h (no i p)⟩
   · have e:dgo k s t (d::l) x=(dnext k s t x d).2::dgo k s t l (dnext k s t x d).1:=by rw[dgo,if_neg c]
     rw[e]
     obtain⟨n1,n2,n3,n4,n5⟩:=dnext_ok w (d:=d) (by omega)
     obtain⟨i1,i2,i3,i4,i5⟩:=dgo_ok l (dnext k s t x d).1 n1
     refine⟨fun p h=>?_,fun i j p hi hj=>?_,fun i p d' hi hd=>?_,fun i hi hs=>?_,fun i p hi=>?_⟩
     · rcases List.mem_cons.1 h with h|h
       · have:=n3 p h.symm;exact⟨this.1,this.2.2.1⟩
       · have:=i1 p h;exact⟨n2 p this.1,this.2⟩
     · cases i with
       | zero =>
         cases j with
         | zero=>rfl
         | succ j =>
           simp only[List.getElem?_cons_zero,Option.some.injEq] at hi
           simp only[List.getElem?_cons_succ] at hj
           exact absurd (i1 p (List.mem_of_getElem? hj)).1 (n3 p hi).2.1
       | succ i =>
         cases j with
         | zero =>
           simp only[List.getElem?_cons_zero,Option.some.injEq] at hj
           simp only[List.getElem?_cons_succ] at hi
           exact absurd (i1 p (List.mem_of_getElem? hi)).1 (n3 p hj).2.1
         | succ j =>
           simp only[List.getElem?_cons_succ] at hi hj
           rw[i2 i j p hi hj]
     · cases i with
       | zero =>
         simp only[List.getElem?_cons_zero,Option.some.injEq] at hi hd
         subst hd
         exact⟨by omega,(n3 p hi).2.2.2⟩
       | succ i =>
         simp only[List.getElem?_cons_succ] at hi hd
         exact i3 i p d' hi hd
     · rw[dmany,if_neg c] at hi
       cases i with
       | zero =>
         simp only[List.getElem?_cons_zero,Option.some.injEq]
         cases h:(dnext k s t x d).2 with
         | some p=>exact⟨p,rfl⟩
         | none=>have:=n4 h;omega
       | succ i =>
         simp only[List.getElem?_cons_succ]
         exact i4 i (by omega) (by omega)
     · rw[dmany,if_neg c]
       cases i with
       | zero=>omega
       | succ i =>
         simp only[List.getElem?_cons_succ] at hi
         have:=i5 i p hi;omega
/-! ## the rest -/
theorem dfill_length:∀(l:List (Option Nat)) (r:List Nat),(dfill l r).length=l.length
 | [],_=>rfl
 | some p::l,r=>by simp[dfill,dfill_length l]
 | none::l,r=>by simp[dfill,dfill_length l]
def nones (l:List (Option Nat)):Nat:=(l.filter (·==none)).length
theorem dfill_ok:∀(l:List (Option Nat)) (r:List Nat),nones l≤r.length→r.Nodup→(∀p,some p∈l→p∉r)→(∀(i j p:Nat),l[i]? =some (some p)→l[j]? =some (some p)→i=j) →
   (dfill l r).Nodup∧(∀p∈dfill l r,some p∈l∨p∈r)∧∀(i p:Nat),l[i]? =some (some p)→(dfill l r)[i]? =some p
 | [],r,_,_,_,_=>⟨List.nodup_nil,fun p h=>by simp[dfill] at h,fun i p h=>by simp at h⟩
 | some p::l,r,hn,nd,ds,inj=>by
   have hn':nones l≤r.length:=by simpa [nones] using hn
   obtain⟨a,b,c⟩:=dfill_ok l r hn' nd (fun q hq=>ds q (List.mem_cons_of_mem _ hq)) (fun i j q hi hj=>by have:=inj (i+1) (j+1) q (by simpa using hi) (by simpa using hj);omega)
   refine⟨List.nodup_cons.2 ⟨fun h=>?_,a⟩,fun q h=>?_,fun i q h=>?_⟩
   · rcases b p h with h|h
     · obtain⟨i,hi⟩:=List.getElem?_of_mem h
       have:=inj 0 (i+1) p (by simp) (by simpa using hi);omega
     · exact ds p (List.mem_cons_self ..) h
   · rcases List.mem_cons.1 h with h|h
     · left;rw[h];exact List.mem_cons_self ..
     · rcases b q h with h|h
       · left;exact List.mem_cons_of_mem _ h
       · exact .inr h
   · cases i with
     | zero=>simp only[List.getElem?_cons_zero,Option.some.injEq] at h;simp[dfill,h]
     | succ i=>simp only[List.getElem?_cons_succ] at h;simp[dfill,c i q h]
 | none::l,r,hn,nd,ds,inj=>by
   have hn':nones l+1≤r.length:=by simpa [nones] using hn
   cases r with
   | nil=>simp at hn'
   | cons y r =>
     obtain⟨nd1,nd2⟩:=List.nodup_cons.1 nd
     obtain⟨a,b,c⟩:=dfill_ok l r (by simp at hn';omega) nd2 (fun q hq h=>ds q (List.mem_cons_of_mem _ hq) (List.mem_cons_of_mem _ h)) (fun i j q hi hj=>by have:=inj (i+1) (j+1) q (by simpa using hi) (by simpa using hj);omega)
     refine⟨List.nodup_cons.2 ⟨fun h=>?_,a⟩,fun q h=>?_,fun i q h=>?_⟩
     · rcases b _ h with h|h
       · exact ds _ (List.mem_cons_of_mem _ h) (List.mem_cons_self ..)
       · exact nd1 h
     · rcases List.mem_cons.1 h with h|h
       · right;rw[h];exact List.mem_cons_self ..
       · rcases b q h with h|h
         · left;exact List.mem_cons_of_mem _ h
         · exact .inr (List.mem_cons_of_mem _ h)
     · cases i with
       | zero=>simp at h
       | succ i=>simp only[List.getElem?_cons_succ] at h;simp[dfill,c i q h]
theorem count_split (p:Nat→Bool) (l:List Nat):(l.filter p).length+(l.filter fun x=>!p x).length=l.length:=by
 induction l with
 | nil=>rfl
 | cons x l ih=>cases h:p x<;>simp[h]<;>omega
theorem nodup_leL {l r:List Nat} (nd:l.Nodup) (h:∀x∈l,x∈r):l.length≤r.length:=by
 induction l generalizing r with
 | nil=>simp
 | cons x l ih =>
   obtain⟨h1,h2⟩:=List.nodup_cons.1 nd
   have hx:=h x (List.mem_cons_self ..)
   have:=ih (r:=r.erase x) h2 fun y hy=>(List.mem_erase_of_ne (fun e=>h1 (by rw[←e];exact hy))).2 (h y (List.mem_cons_of_mem _ hy))
   have h3:=List.length_erase_of_mem hx
   have h4:0<r.length:=List.length_pos_of_mem hx
   simp;omega
theorem nones_le {n:Nat} (l:List (Option Nat)) (hl:l.length=n) (inj:∀(i j p:Nat),l[i]? =some (some p)→l[j]? =some (some p)→i=j) (hlt:∀p,some p∈l→p<n):nones l=(dleft n l).length:=by
 have key:∀(l:List (Option Nat)),(l.filterMap id).length+nones l=l.length:=by
   intro l
   induction l with
   | nil=>rfl
   | cons a l ih=>cases a<;>simp[nones] at ih ⊢<;>omega
 have nd:(l.filterMap id).Nodup:=by
   clear hlt hl
   induction l with
   | nil=>simp
   | cons a l ih =>
     have ih:=ih (fun i j q hi hj=>by have:=inj (i+1) (j+1) q (by simpa using hi) (by simpa using hj);omega)
     cases a with
     | none=>simpa using ih
     | some p =>
       simp only[List.filterMap_cons,id]
       refine List.nodup_cons.2 ⟨fun h=>?_,ih⟩
       have h2:some p∈l:=by simpa using h
       obtain⟨i,hi⟩:=List.getElem?_of_mem h2
       have:=inj 0 (i+1) p (by simp) (by simpa using hi);omega
 have m1:(l.filterMap id).length=((List.range n).filter fun x=>l.contains (some x)).length:=by
   apply Nat.le_antisymm
   · refine nodup_leL nd fun x hx=>?_
     have h2:some x∈l:=by simpa using hx
     simp only[List.mem_filter,List.mem_range]
     exact⟨hlt x h2,by simpa using h2⟩
   · refine nodup_leL (List.nodup_range.filter _) fun x hx=>?_
     simp only[List.mem_filter] at hx
     have:some x∈l:=by simpa using hx.2
     simpa using this
 have h1:=key l
 have h2:=count_split (fun x=>l.contains (some x)) (List.range n)
 rw[List.length_range] at h2
 show nones l=((List.range n).filter fun x=>!l.contains (some x)).length
 omega
structure Dealt (k s t:Nat) (l:List Int):Prop where
 len:(places k s t l).length=l.length
 nodup:(places k s t l).Nodup
 lt:∀p∈places k s t l,p<l.length
 at_:∀(i p:Nat) (d:Int),(places k s t l)[i]? =some p→l[i]? =some d→i<dmany l→i∉dlost k s t l→0≤d∧p<s*(k+1)+t∧(p<s*(k+1)→((p/s:Nat):Int)≤d)
 lost:∀i∈dlost k s t l,i<dmany l
 few:dmany l≤t→dlost k s t l=[]
theorem dealt (k s t:Nat) (hs:0<s) (l:List Int) (hl:s*(k+1)+t≤l.length):Dealt k s t l:=by
 have w:DWf k s t (dst0 k):=⟨by simp[dst0],hs,by simp[dst0]⟩
 obtain⟨i1,i2,i3,i4,i5⟩:=dgo_ok l (dst0 k) w
 have hlen:=dgo_length k s t l (dst0 k)
 have hn:=nones_le (n:=l.length) (dgo k s t l (dst0 k)) hlen i2 fun p hp=>by have:=(i1 p hp).2;omega
 obtain⟨a,b,c⟩:=dfill_ok (dgo k s t l (dst0 k)) (dleft l.length (dgo k s t l (dst0 k))) (Nat.le_of_eq hn) (List.nodup_range.filter _) (fun p hp h=>by simp[dleft,hp] at h) i2
 refine⟨by unfold places;rw[dfill_length,hlen],a,fun p hp=>?_,fun i p d hp hd hi hlo=>?_,fun i h=>?_,fun h=>?_⟩
 · rcases b p hp with h|h
   · have:=(i1 p h).2;omega
   · simp[dleft] at h;exact h.1
 · have hi':i<(dgo k s t l (dst0 k)).length:=by rw[hlen];have:=dmany_le l;omega
   have e:(dgo k s t l (dst0 k))[i]? =some ((dgo k s t l (dst0 k))[i]):=List.getElem?_eq_getElem hi'
   cases h:(dgo k s t l (dst0 k))[i] with
   | none =>
     rw[h] at e
     exact absurd (List.mem_filter.2 ⟨List.mem_range.2 hi,by simp[List.getD,e]⟩) hlo
   | some q =>
     rw[h] at e
     have:=c i q e
     have hq:q=p:=by
       have h2:(places k s t l)[i]? =some q:=this
       rw[hp] at h2;exact(Option.some.inj h2).symm
     subst hq
     have h3:=i3 i q d e hd
     exact⟨h3.1,(i1 q (List.mem_of_getElem? e)).2,h3.2⟩
 · have:=List.mem_filter.1 h
   exact List.mem_range.1 this.1
 · unfold dlost
   rw[List.filter_eq_nil_iff]
   intro i hi
   have hi:=List.mem_range.1 hi
   obtain⟨p,hp⟩:=i4 i hi (by simp[dst0];omega)
   simp[List.getD,hp]
end Go.Sh
/- A level as the document has it: plain functions, no program in sight; what an access makes of the blocks. -/
namespace Go.Sh
abbrev Cel:=Vector UInt64 12
abbrev Dat:=Vector UInt64 8
def cel0:Cel:=Vector.replicate 12 0
def dat0:Dat:=Vector.replicate 8 0
def isB (c:Cel):Bool:=c[0]==1
def cdat (c:Cel):Dat:=#v[c[3],c[4],c[5],c[6],c[7],c[8],c[9],c[10]]
def mkB (id leaf:UInt64) (d:Dat):Cel:=#v[1,id,leaf,d[0],d[1],d[2],d[3],d[4],d[5],d[6],d[7],0]
structure LP where
 k:Nat
 s:Nat
 t:Nat
 E:Nat
def LP.tree (P:LP):Nat:=P.s*(P.k+1)
def LP.m (P:LP):Nat:=P.s*(P.k+1)+P.t
def LP.n (P:LP):Nat:=P.s*(P.k+1)+P.t+1
structure LP.Ok (P:LP):Prop where
 k:P.k≤10
 s:1≤P.s∧P.s≤8
 t:1≤P.t∧P.t≤64
 E:P.E≤8
 n:P.n≤2 ^ P.E
def apartN:Nat→Nat→Nat→Nat
 | 0,_,_=>0
 | f+1,a,b=>if a=b then 0 else apartN f (a/2) (b/2)+1
def deepN (k a b:Nat):Nat:=k-apartN k a b
def nodeQ (k leaf d:Nat):Nat:=2 ^ d-1+leaf/2 ^ (k-d)
def spot (P:LP) (leaf p:Nat):Nat×Nat:=if p<P.s*(P.k+1) then (0,nodeQ P.k leaf (p/P.s)*P.s+p%P.s) else (1,p-P.s*(P.k+1))
/-! ## the table -/
def key1 (P:LP) (fr:Nat) (i:Nat) (c:Cel):UInt64:=if i<P.n∧isB c=true then UInt64.ofNat (P.k-deepN P.k fr (c[2].toNat))*(4294967296:UInt64)+(c[1]:UInt64) else (4611686018427387904:UInt64)+UInt64.ofNat i
def ckey (c:Cel):Nat:=c[11].toNat
def itD (P:LP) (fr:Nat) (c:Cel):Int:=if isB c=true then (deepN P.k fr c[2].toNat:Nat) else -1
def tab1 (P:LP) (fr:Nat) (T:Nat→Cel):Nat→Cel:=fun i=>(T i).set 11 (key1 P fr i (T i))
def tab2 (P:LP) (fr:Nat) (T:Nat→Cel):Nat→Cel:=netRun ckey (netN P.E) (tab1 P fr T)
def deeps (P:LP) (fr:Nat) (T:Nat→Cel):List Int:=(List.range P.n).map fun i=>itD P fr (tab2 P fr T i)
def tab3 (P:LP) (fr:Nat) (T:Nat→Cel):Nat→Cel:=fun i =>
 (if i∈dlost P.k P.s P.t (deeps P fr T) then cel0 else tab2 P fr T i).set 11 (if i<P.n then UInt64.ofNat ((places P.k P.s P.t (deeps P fr T)).getD i 0) else UInt64.ofNat i)
def tab4 (P:LP) (fr:Nat) (T:Nat→Cel):Nat→Cel:=netRun ckey (netN P.E) (tab3 P fr T)
def tlost (P:LP) (fr:Nat) (T:Nat→Cel):Bool:=!(dlost P.k P.s P.t (deeps P fr T)).isEmpty
/-! ## turned one by one -/
structure Bij (n:Nat) (σ τ:Nat→Nat):Prop where
 s:∀i,i<n→σ i<n
 t:∀i,i<n→τ i<n
 st:∀i,i<n→σ (τ i)=i
 ts:∀i,i<n→τ (σ i)=i
theorem Bij.inj {n:Nat} {σ τ:Nat→Nat} (b:Bij n σ τ) {i j:Nat} (hi:i<n) (hj:j<n) (h:σ i=σ j):i=j:=by
 rw[←b.ts i hi,←b.ts j hj,h]
theorem cx_bij {α:Type} (key:α→Nat) (f:Nat→α) {n:Nat} {p:Nat×Nat×Bool} (h1:p.1<p.2.1) (h2:p.2.1<n):∃σ,Bij n σ σ∧∀i,cx key f p i=f (σ i):=by
 by_cases c:(bif p.2.2 then decide (key (f p.2.1)<key (f p.1)) else decide (key (f p.1)<key (f p.2.1)))=true
 · refine⟨fun i=>if i=p.1 then p.2.1 else if i=p.2.1 then p.1 else i,?_,fun i=>?_⟩
   · constructor<;>intro i hi<;>(repeat' split)<;>first|omega|simp_all
   · simp only[cx,cxA,if_pos c]
     repeat' split
     all_goals first|rfl|omega|simp_all
 · refine⟨fun i=>i,⟨fun _ h=>h,fun _ h=>h,fun _ _=>rfl,fun _ _=>rfl⟩,fun i=>?_⟩
   simp only[cx,cxA,if_neg c]
   split
   · rename_i h;rw[h]
   · split
     · rename_i h;rw[h]
     · rfl
theorem run_bij {α:Type} (key:α→Nat) {n:Nat}:∀(l:List (Nat×Nat×Bool)) (f:Nat→α),(∀p∈l,p.1<p.2.1∧p.2.1<n)→∃σ τ,Bij n σ τ∧∀i,i<n→netRun key l f i=f (σ i)
 | [],f,_=>⟨fun i=>i,fun i=>i,⟨fun _ h=>h,fun _ h=>h,fun _ _=>rfl,fun _ _=>rfl⟩,fun _ _=>rfl⟩
 | p::l,f,h=>by
   have hp:=h p (List.mem_cons_self ..)
   obtain⟨σ,b,e⟩:=cx_bij key f hp.1 hp.2
   obtain⟨σ',τ',b',e'⟩:=run_bij key l (cx key f p) (fun q hq=>h q (List.mem_cons_of_mem _ hq))
   refine⟨fun i=>σ (σ' i),fun i=>τ' (σ i),⟨fun i hi=>b.s _ (b'.s i hi),fun i hi=>b'.t _ (b.s i hi),fun i hi=>?_,fun i hi=>?_⟩,fun i hi=>?_⟩
   · show σ (σ' (τ' (σ i)))=i
     rw[b'.st _ (b.s i hi),b.st i hi]
   · show τ' (σ (σ (σ' i)))=i
     rw[b.st _ (b'.s i hi),b'.ts i hi]
   · show netRun key l (cx key f p) i=_
     rw[e' i hi,e]
theorem net_bij {α:Type} (key:α→Nat) (K:Nat) (f:Nat→α):∃σ τ,Bij (2 ^ K) σ τ∧∀i,i<2 ^ K→netRun key (netN K) f i=f (σ i) :=
 run_bij key _ f (kN_in K (Nat.le_refl _))
theorem mono_id {N:Nat} {f:Nat→Nat} (hlt:∀i,i<N→f i<N) (inj:∀i j,i<N→j<N→f i=f j→i=j) (mono:∀i j,i≤j→j<N→f i≤f j) {i:Nat} (hi:i<N):f i=i:=by
 have strict:∀i j,i<j→j<N→f i<f j:=fun i j h1 h2=>by
   rcases Nat.lt_or_eq_of_le (mono i j (by omega) h2) with h|h
   · exact h
   · have:=inj i j (by omega) h2 h;omega
 have lo:∀i,i<N→i≤f i:=fun i=>by
   induction i with
   | zero=>omega
   | succ i ih=>intro h;have:=ih (by omega);have:=strict i (i+1) (by omega) h;omega
 have hi':∀d i,i+d+1=N→f i≤i:=fun d=>by
   induction d with
   | zero=>intro i h;have:=hlt i (by omega);omega
   | succ d ih=>intro i h;have:=ih (i+1) (by omega);have:=strict i (i+1) (by omega) (by omega);omega
 have:=lo i hi
 have:=hi' (N-1-i) i (by omega)
 omega
theorem nodup_getD {l:List Nat} (nd:l.Nodup) {i j:Nat} (hi:i<l.length) (hj:j<l.length) (h:l.getD i 0=l.getD j 0):i=j:=by
 simp only[List.getD_eq_getElem?_getD,List.getElem?_eq_getElem hi,List.getElem?_eq_getElem hj,Option.getD_some] at h
 have nd:=List.pairwise_iff_getElem.1 nd
 rcases Nat.lt_trichotomy i j with c|c|c
 · exact absurd h (nd i j hi hj c)
 · exact c
 · exact absurd h.symm (nd j i hj hi c)
theorem nodup_map_range {n:Nat} {f:Nat→Nat} (inj:∀i j,i<j→j<n→f i≠f j):((List.range n).map f).Nodup:=by
 rw[List.nodup_iff_pairwise_ne,List.pairwise_iff_getElem]
 intro i j hi hj h
 simp only[List.getElem_map,List.getElem_range]
 exact inj i j h (by simpa using hj)
theorem dmany_gt:∀(l:List Int) (j:Nat),j<l.length→(∀i (hi:i≤j) (h:i<l.length),0≤l[i])→j<dmany l
 | [],j,h,_=>by simp at h
 | d::l,j,h,hp=>by
   have h0:=hp 0 (by omega) (by simp)
   simp only[List.getElem_cons_zero] at h0
   rw[dmany,if_neg (by omega)]
   cases j with
   | zero=>omega
   | succ j =>
     have:=dmany_gt l j (by simpa using h) fun i hi h=>by have:=hp (i+1) (by omega) (by simpa using h);simpa using this
     omega
theorem dmany_nn:∀(l:List Int) (i:Nat),i<dmany l→∃d,l[i]? =some d∧0≤d
 | [],i,h=>by simp[dmany] at h
 | d::l,i,h=>by
   unfold dmany at h
   split at h
   · omega
   · cases i with
     | zero=>exact⟨d,by simp,by omega⟩
     | succ i=>obtain⟨e,h1,h2⟩:=dmany_nn l i (by omega);exact⟨e,by simpa using h1,h2⟩
structure TWf (P:LP) (T:Nat→Cel):Prop where
 lt:∀i,isB (T i)=true→i<P.n
 id:∀i,isB (T i)=true→(T i)[1].toNat≤2147483648
 leaf:∀i,isB (T i)=true→(T i)[2].toNat<2 ^ P.k
theorem set_get0 (c:Cel) (x:UInt64):(c.set 11 x)[0]=c[0]:=by simp[Vector.getElem_set]
theorem isB_set (c:Cel) (x:UInt64):isB (c.set 11 x)=isB c:=by unfold isB;rw[set_get0]
theorem set_get11 (c:Cel) (x:UInt64):(c.set 11 x)[11]=x:=by simp[Vector.getElem_set]
theorem set_get2 (c:Cel) (x:UInt64):(c.set 11 x)[2]=c[2]:=by simp[Vector.getElem_set]
theorem set_get1 (c:Cel) (x:UInt64):(c.set 11 x)[1]=c[1]:=by simp[Vector.getElem_set]
theorem isB_cel0:isB cel0=false:=by decide
theorem key1_block {P:LP} (o:P.Ok) {fr i:Nat} {c:Cel} (hi:i<P.n) (hb:isB c=true) (hid:c[1].toNat≤2147483648):(key1 P fr i c).toNat=(P.k-deepN P.k fr c[2].toNat)*4294967296+c[1].toNat:=by
 unfold key1;rw[if_pos ⟨hi,hb⟩]
 have:=o.k
 have h1:P.k-deepN P.k fr c[2].toNat≤10:=by omega
 generalize P.k-deepN P.k fr c[2].toNat=x at h1
 rw[UInt64.toNat_add,UInt64.toNat_mul,UInt64.toNat_ofNat']
 have e:(4294967296:UInt64).toNat=4294967296:=rfl
 rw[e];omega
theorem key1_none {P:LP} {fr i:Nat} {c:Cel} (hi:i<4294967296) (hb:¬(i<P.n∧isB c=true)):(key1 P fr i c).toNat=4611686018427387904+i:=by
 unfold key1;rw[if_neg hb,UInt64.toNat_add,UInt64.toNat_ofNat']
 have e:(4611686018427387904:UInt64).toNat=4611686018427387904:=rfl
 rw[e];omega
theorem pow_E {P:LP} (o:P.Ok):2 ^ P.E≤256:=Nat.pow_le_pow_right (n:=2) (by decide) o.E
structure DealtT (P:LP) (fr:Nat) (T:Nat→Cel) (g:Nat→Nat):Prop where
 key:∀p,p<2 ^ P.E→(tab4 P fr T p)[11].toNat=p
 blk:∀p,p<2 ^ P.E→isB (tab4 P fr T p)=true→g p<P.n∧isB (T (g p))=true∧(∃x y,(tab4 P fr T p).set 11 x=(T (g p)).set 11 y)∧p<P.m∧(p<P.tree→p/P.s≤deepN P.k fr (T (g p))[2].toNat)
 inj:∀p q,p<2 ^ P.E→q<2 ^ P.E→g p=g q→p=q
 all:tlost P fr T=false→∀i,i<P.n→isB (T i)=true→∃p,p<P.m∧isB (tab4 P fr T p)=true∧g p=i
theorem dealtT {P:LP} (o:P.Ok) (fr:Nat) (T:Nat→Cel) (w:TWf P T):∃g,DealtT P fr T g ∧
   (∀S:List UInt64,S.length≤P.t→(∀i,isB (T i)=true→(T i)[1]∈S)→(∀i j,isB (T i)=true→isB (T j)=true→(T i)[1]=(T j)[1]→i=j)→tlost P fr T=false):=by
 have hE:=pow_E o
 have hn:=o.n
 obtain⟨σ,τ,b,e⟩:=net_bij ckey P.E (tab1 P fr T)
 obtain⟨σ',τ',b',e'⟩:=net_bij ckey P.E (tab3 P fr T)
 have e:∀i,i<2 ^ P.E→tab2 P fr T i=tab1 P fr T (σ i):=e
 have e':∀i,i<2 ^ P.E→tab4 P fr T i=tab3 P fr T (σ' i):=e'
 generalize hds:deeps P fr T=ds at *
 have hlen:ds.length=P.n:=by rw[←hds];simp[deeps]
 have dl:=dealt P.k P.s P.t (by have:=o.s;omega) ds (by rw[hlen];unfold LP.n;omega)
 have t3:∀i,tab3 P fr T i=(if i∈dlost P.k P.s P.t ds then cel0 else tab2 P fr T i).set 11 (if i<P.n then UInt64.ofNat ((places P.k P.s P.t ds).getD i 0) else UInt64.ofNat i):=fun i=>by simp only[tab3,hds]
 have k3:∀i,i<2 ^ P.E→ckey (tab3 P fr T i)=if i<P.n then (places P.k P.s P.t ds).getD i 0 else i:=fun i hi=>by
   rw[t3,ckey,set_get11]
   split
   · rename_i h
     have h1:(places P.k P.s P.t ds).getD i 0<ds.length:=by
       refine dl.lt _ ?_
       rw[List.getD_eq_getElem?_getD,List.getElem?_eq_getElem (by rw[dl.len,hlen];exact h)]
       exact List.getElem_mem _
     rw[UInt64.toNat_ofNat'];rw[hlen] at h1;omega
   · rw[UInt64.toNat_ofNat'];omega
 have pl_lt:∀i,i<P.n→(places P.k P.s P.t ds).getD i 0<P.n:=fun i h=>by
   rw[←hlen]
   refine dl.lt _ ?_
   rw[List.getD_eq_getElem?_getD,List.getElem?_eq_getElem (by rw[dl.len,hlen];exact h)]
   exact List.getElem_mem _
 have k3lt:∀i,i<2 ^ P.E→ckey (tab3 P fr T i)<2 ^ P.E:=fun i hi=>by
   rw[k3 i hi];split
   · rename_i h;have:=pl_lt i h;omega
   · exact hi
 have k3inj:∀i j,i<2 ^ P.E→j<2 ^ P.E→ckey (tab3 P fr T i)=ckey (tab3 P fr T j)→i=j:=fun i j hi hj h=>by
   rw[k3 i hi,k3 j hj] at h
   by_cases c1:i<P.n
   · by_cases c2:j<P.n
     · rw[if_pos c1,if_pos c2] at h
       exact nodup_getD dl.nodup (by rw[dl.len,hlen];exact c1) (by rw[dl.len,hlen];exact c2) h
     · rw[if_pos c1,if_neg c2] at h;have:=pl_lt i c1;omega
   · by_cases c2:j<P.n
     · rw[if_neg c1,if_pos c2] at h;have:=pl_lt j c2;omega
     · rw[if_neg c1,if_neg c2] at h;exact h
 have k4:∀p,p<2 ^ P.E→ckey (tab4 P fr T p)=p:=fun p hp=>by
   refine mono_id (N:=2 ^ P.E) (f:=fun p=>ckey (tab4 P fr T p)) (fun i hi=>?_) (fun i j hi hj h=>?_) (fun i j hij hj=>?_) hp
   · show ckey (tab4 P fr T i)<_
     rw[e' i hi];exact k3lt _ (b'.s i hi)
   · have h:ckey (tab4 P fr T i)=ckey (tab4 P fr T j):=h
     rw[e' i hi,e' j hj] at h
     exact b'.inj hi hj (k3inj _ _ (b'.s i hi) (b'.s j hj) h)
   · exact net_sorts ckey P.E _ hij hj
 have b1:∀i,isB (tab1 P fr T i)=isB (T i):=fun i=>isB_set _ _
 have k1b:∀i,i<2 ^ P.E→isB (T i)=true→ckey (tab1 P fr T i)<4611686018427387904:=fun i hi h=>by
   have hlt:=w.lt i h
   have hid:=w.id i h
   rw[tab1,ckey,set_get11,key1_block o hlt h hid]
   have:=o.k
   have h2:P.k-deepN P.k fr (T i)[2].toNat≤10:=by omega
   have:=Nat.mul_le_mul_right 4294967296 h2
   omega
 have k1n:∀i,i<2 ^ P.E→isB (T i)=false→4611686018427387904≤ckey (tab1 P fr T i):=fun i hi h=>by
   rw[tab1,ckey,set_get11,key1_none (by omega) (by rw[h];simp)]
   omega
 have ahead:∀i j,i≤j→j<2 ^ P.E→isB (tab2 P fr T j)=true→isB (tab2 P fr T i)=true:=fun i j hij hj h=>by
   have h1:ckey (tab2 P fr T i)≤ckey (tab2 P fr T j):=net_sorts ckey P.E _ hij hj
   rw[e j hj] at h h1;rw[e i (by omega)] at h1 ⊢
   rw[b1] at h ⊢
   have h2:=k1b _ (b.s j hj) h
   cases h3:isB (T (σ i)) with
   | true=>rfl
   | false=>have:=k1n _ (b.s i (by omega)) h3;omega
 have bn:∀j,j<2 ^ P.E→isB (tab2 P fr T j)=true→j<P.n:=fun j hj h=>by
   have:((List.range (j+1)).map σ).length≤(List.range P.n).length:=by
     refine nodup_leL ?_ fun x hx=>?_
     · refine nodup_map_range fun a c hac hc h=>?_
       have:=b.inj (by omega) (by omega) h;omega
     · obtain⟨i,hi,rfl⟩:=List.mem_map.1 hx
       have hi':=List.mem_range.1 hi
       have h1:=ahead i j (by omega) hj h
       rw[e i (by omega),b1] at h1
       exact List.mem_range.2 (w.lt _ h1)
   simp at this;omega
 have dget:∀i,i<P.n→ds[i]? =some (itD P fr (tab2 P fr T i)):=fun i hi=>by rw[←hds];simp[deeps,hi]
 have bd:∀j,j<2 ^ P.E→isB (tab2 P fr T j)=true→j<dmany ds:=fun j hj h=>by
   have hjn:=bn j hj h
   refine dmany_gt ds j (by rw[hlen];exact hjn) fun i hi h'=>?_
   have h1:=dget i (by omega)
   rw[List.getElem?_eq_getElem h'] at h1
   rw[Option.some.inj h1,itD,if_pos (ahead i j hi hj h)]
   omega
 have db:∀j,j<dmany ds→isB (tab2 P fr T j)=true:=fun j hj=>by
   obtain⟨d,h1,h2⟩:=dmany_nn ds j hj
   have hjn:j<P.n:=by have:=dmany_le ds;omega
   rw[dget j hjn] at h1
   have h1:=Option.some.inj h1
   unfold itD at h1
   split at h1
   · assumption
   · omega
 refine⟨fun p=>σ (σ' p),⟨k4,fun p hp h=>?_,fun p q hp hq h=>?_,fun hl i hi h=>?_⟩,fun S hS h1 h2=>?_⟩
 · have hj:=b'.s p hp
   have hk:=k4 p hp
   rw[e' p hp] at h hk ⊢
   generalize σ' p=j at *
   rw[k3 j hj] at hk
   rw[t3,isB_set] at h
   by_cases c:j∈dlost P.k P.s P.t ds
   · rw[if_pos c,isB_cel0] at h;cases h
   · rw[if_neg c] at h
     have hjn:=bn j hj h
     have hjd:=bd j hj h
     rw[if_pos hjn] at hk
     have hpl:(places P.k P.s P.t ds)[j]? =some p:=by
       rw[List.getElem?_eq_getElem (by rw[dl.len,hlen];exact hjn)]
       rw[List.getD_eq_getElem?_getD,List.getElem?_eq_getElem (by rw[dl.len,hlen];exact hjn),Option.getD_some] at hk
       rw[hk]
     obtain⟨d0,d1,d2⟩:=dl.at_ j p _ hpl (dget j hjn) hjd c
     have h':=h
     rw[e j hj,b1] at h'
     have hleaf:(tab2 P fr T j)[2]=(T (σ j))[2]:=by rw[e j hj,tab1,set_get2]
     refine⟨w.lt _ h',h',⟨0,0,?_⟩,d1,fun hp=>?_⟩
     · rw[t3,if_neg c,Vector.set_set,e j hj,tab1,Vector.set_set]
     · have:=d2 hp
       rw[itD,if_pos h,hleaf] at this
       omega
 · exact b'.inj hp hq (b.inj (b'.s p hp) (b'.s q hq) h)
 · have hjE:τ i<2 ^ P.E:=b.t i (by omega)
   have hσ:σ (τ i)=i:=b.st i (by omega)
   have hb2:isB (tab2 P fr T (τ i))=true:=by rw[e _ hjE,b1,hσ];exact h
   have hjn:=bn _ hjE hb2
   have hnl:τ i∉dlost P.k P.s P.t ds:=by
     have:dlost P.k P.s P.t (deeps P fr T)=[]:=by simpa [tlost] using hl
     rw[hds] at this;rw[this];simp
   generalize hj:τ i=j at *
   have hp:ckey (tab3 P fr T j)<2 ^ P.E:=k3lt j hjE
   generalize hpp:ckey (tab3 P fr T j)=p at *
   have hσ':σ' p=j:=k3inj _ _ (b'.s p hp) hjE (by have:=k4 p hp;rw[e' p hp] at this;rw[this,hpp])
   have hb4:isB (tab4 P fr T p)=true:=by rw[e' p hp,hσ',t3,isB_set,if_neg hnl];exact hb2
   refine⟨p,?_,hb4,by show σ (σ' p)=i;rw[hσ',hσ]⟩
   have hk:=k3 j hjE
   rw[hpp,if_pos hjn] at hk
   have hpl:(places P.k P.s P.t ds)[j]? =some p:=by
     rw[List.getElem?_eq_getElem (by rw[dl.len,hlen];exact hjn)]
     rw[List.getD_eq_getElem?_getD,List.getElem?_eq_getElem (by rw[dl.len,hlen];exact hjn),Option.getD_some] at hk
     rw[hk]
   exact(dl.at_ j p _ hpl (dget j hjn) (bd j hjE hb2) hnl).2.1
 · have hm:dmany ds≤P.t:=by
     have:((List.range (dmany ds)).map fun i=>(tab2 P fr T i)[1].toNat).length≤(S.map UInt64.toNat).length:=by
       have hd:=dmany_le ds
       refine nodup_leL ?_ fun x hx=>?_
       · refine nodup_map_range fun a c hac hc' h=>?_
         have ha:=db a (by omega);have hc2:=db c hc'
         rw[e a (by omega)] at h ha;rw[e c (by omega)] at h hc2
         rw[b1] at ha hc2
         have h4:(T (σ a))[1]=(T (σ c))[1]:=by
           simp only[tab1,set_get1] at h
           exact UInt64.toNat_inj.1 h
         have:=b.inj (by omega) (by omega) (h2 _ _ ha hc2 h4);omega
       · obtain⟨i,hi,rfl⟩:=List.mem_map.1 hx
         have hi':=List.mem_range.1 hi
         have h3:=db i hi'
         rw[e i (by omega)] at h3 ⊢
         rw[b1] at h3
         simp only[tab1,set_get1]
         exact List.mem_map_of_mem (h1 _ h3)
     simp at this;omega
   unfold tlost
   rw[hds,dl.few hm];rfl
end Go.Sh
/- What an access of a level makes of its blocks: plain. -/
namespace Go.Sh
/-! ## ways -/
theorem apart_eq:∀(f a b:Nat),a<2 ^ f→b<2 ^ f→∀j,apartN f a b≤j→a/2 ^ j=b/2 ^ j
 | 0,a,b,ha,hb,j,_=>by simp at ha hb;rw[ha,hb]
 | f+1,a,b,ha,hb,j,hj=>by
   unfold apartN at hj
   split at hj
   · rename_i h;rw[h]
   · cases j with
     | zero=>omega
     | succ j =>
       rw[Nat.pow_succ] at ha hb
       have:=apart_eq f (a/2) (b/2) (by omega) (by omega) j (by omega)
       rw[Nat.pow_succ,Nat.mul_comm,←Nat.div_div_eq_div_mul,←Nat.div_div_eq_div_mul];exact this
theorem node_deep {k a b d:Nat} (ha:a<2 ^ k) (hb:b<2 ^ k) (hd:d≤deepN k a b) (hk:d≤k):nodeQ k a d=nodeQ k b d:=by
 unfold nodeQ
 by_cases h0:apartN k a b≤k
 · rw[apart_eq k a b ha hb (k-d) (by unfold deepN at hd;omega)]
 · have:d=0:=by unfold deepN at hd;omega
   subst this
   rw[Nat.sub_zero,Nat.div_eq_of_lt ha,Nat.div_eq_of_lt hb]
theorem node_rng {k leaf d:Nat} (hl:leaf<2 ^ k) (hd:d≤k):2 ^ d-1≤nodeQ k leaf d∧nodeQ k leaf d<2 ^ (d+1)-1:=by
 have e:2 ^ k=2 ^ (k-d)*2 ^ d:=by rw[←Nat.pow_add];congr 1;omega
 have h1:leaf/2 ^ (k-d)<2 ^ d:=by rw[Nat.div_lt_iff_lt_mul (Nat.pow_pos (by decide)),Nat.mul_comm,←e];exact hl
 have h2:2 ^ (d+1)=2*2 ^ d:=by rw[Nat.pow_succ];omega
 have h3:0<2 ^ d:=Nat.pow_pos (by decide)
 unfold nodeQ
 generalize leaf/2 ^ (k-d)=x at *
 omega
theorem node_inj {k l1 l2 d1 d2:Nat} (h1:l1<2 ^ k) (h2:l2<2 ^ k) (hd1:d1≤k) (hd2:d2≤k) (h:nodeQ k l1 d1=nodeQ k l2 d2):d1=d2:=by
 have a:=node_rng h1 hd1
 have b:=node_rng h2 hd2
 rw[h] at a
 rcases Nat.lt_trichotomy d1 d2 with c|c|c
 · have:=Nat.pow_le_pow_right (n:=2) (by decide) (show d1+1≤d2 by omega);omega
 · exact c
 · have:=Nat.pow_le_pow_right (n:=2) (by decide) (show d2+1≤d1 by omega);omega
theorem node_lt {k leaf d:Nat} (hl:leaf<2 ^ k) (hd:d≤k):nodeQ k leaf d<2 ^ (k+1)-1:=by
 have a:=node_rng hl hd
 have:=Nat.pow_le_pow_right (n:=2) (by decide) (show d+1≤k+1 by omega)
 omega
def vpos (P:LP) (r i:Nat):Prop:=(r=0∧i<P.s*(2 ^ (P.k+1)-1))∨(r=1∧i<P.t)
theorem spot_tree {P:LP} {leaf p:Nat} (h:p<P.s*(P.k+1)):spot P leaf p=(0,nodeQ P.k leaf (p/P.s)*P.s+p%P.s):=by unfold spot;rw[if_pos h]
theorem spot_stash {P:LP} {leaf p:Nat} (h:¬p<P.s*(P.k+1)):spot P leaf p=(1,p-P.s*(P.k+1)):=by unfold spot;rw[if_neg h]
theorem tree_dep {P:LP} {p:Nat} (hs:0<P.s) (h:p<P.s*(P.k+1)):p/P.s≤P.k:=by
 have:p/P.s<P.k+1:=by rw[Nat.div_lt_iff_lt_mul hs,Nat.mul_comm];exact h
 omega
theorem spot_vpos {P:LP} (o:P.Ok) {leaf p:Nat} (hl:leaf<2 ^ P.k) (hp:p<P.m):vpos P (spot P leaf p).1 (spot P leaf p).2:=by
 have hs:0<P.s:=by have:=o.s;omega
 by_cases h:p<P.s*(P.k+1)
 · rw[spot_tree h]
   refine .inl ⟨rfl,?_⟩
   have h1:=node_lt hl (tree_dep hs h)
   have h2:=Nat.mod_lt p hs
   have h3:=Nat.mul_le_mul_left P.s (show nodeQ P.k leaf (p/P.s)+1≤2 ^ (P.k+1)-1 by omega)
   rw[Nat.mul_add,Nat.mul_one,Nat.mul_comm P.s (nodeQ _ _ _)] at h3
   show nodeQ P.k leaf (p/P.s)*P.s+p%P.s<_
   omega
 · rw[spot_stash h]
   exact .inr ⟨rfl,by unfold LP.m at hp;show p-_<_;omega⟩
theorem spot_inj {P:LP} (o:P.Ok) {leaf p q:Nat} (hl:leaf<2 ^ P.k) (h:spot P leaf p=spot P leaf q):p=q:=by
 have hs:0<P.s:=by have:=o.s;omega
 by_cases h1:p<P.s*(P.k+1)
 · by_cases h2:q<P.s*(P.k+1)
   · rw[spot_tree h1,spot_tree h2] at h
     have h:=(Prod.mk.inj h).2
     have a1:=tree_div (s:=P.s) (a:=nodeQ P.k leaf (p/P.s)) (Nat.mod_lt p hs)
     have a2:=tree_div (s:=P.s) (a:=nodeQ P.k leaf (q/P.s)) (Nat.mod_lt q hs)
     rw[h] at a1
     have e1:nodeQ P.k leaf (p/P.s)=nodeQ P.k leaf (q/P.s):=a1.1.symm.trans a2.1
     have e2:p%P.s=q%P.s:=a1.2.symm.trans a2.2
     have e3:=node_inj hl hl (tree_dep hs h1) (tree_dep hs h2) e1
     rw[←Nat.div_add_mod p P.s,←Nat.div_add_mod q P.s,e2,e3]
   · rw[spot_tree h1,spot_stash h2] at h
     have:=(Prod.mk.inj h).1;omega
 · by_cases h2:q<P.s*(P.k+1)
   · rw[spot_stash h1,spot_tree h2] at h
     have:=(Prod.mk.inj h).1;omega
   · rw[spot_stash h1,spot_stash h2] at h
     have:=(Prod.mk.inj h).2;omega
theorem spot_of_tree {P:LP} (o:P.Ok) {leaf i d:Nat} (hd:d≤P.k) (h:i/P.s=nodeQ P.k leaf d):∃p,p<P.m∧spot P leaf p=(0,i):=by
 have hs:0<P.s:=by have:=o.s;omega
 have hm:=Nat.mod_lt i hs
 have h1:d*P.s+i%P.s<P.s*(P.k+1):=tree_lt hd hm
 obtain⟨e1,e2⟩:=tree_div (s:=P.s) (a:=d) hm
 refine⟨d*P.s+i%P.s,by unfold LP.m;omega,?_⟩
 rw[spot_tree h1,e1,e2,←h,Nat.mul_comm,Nat.div_add_mod]
theorem spot_of_stash {P:LP} {leaf i:Nat} (h:i<P.t):∃p,p<P.m∧spot P leaf p=(1,i) :=
 ⟨P.s*(P.k+1)+i,by unfold LP.m;omega,by rw[spot_stash (by omega),Nat.add_sub_cancel_left]⟩
/-! ## an access -/
abbrev Regs:=Nat→Nat→Cel
def set2 (M:Regs) (q:Nat×Nat) (c:Cel):Regs:=fun r i=>if r=q.1∧i=q.2 then c else M r i
def wback (P:LP) (leaf:Nat) (T:Nat→Cel) (M:Regs):Nat→Regs
 | 0=>M
 | p+1=>set2 (wback P leaf T M p) (spot P leaf p) ((T p).set 11 0)
def strip (id:UInt64) (c:Cel):Cel:=if isB c=true∧c[1]=id then cel0 else c
def seek (id:UInt64) (f:Nat→Cel):Nat→Dat×Bool
 | 0=>(dat0,false)
 | p+1=>if isB (f p)=true∧(f p)[1]=id then (cdat (f p),true) else seek id f p
def spotC (P:LP) (leaf:Nat) (M:Regs) (p:Nat):Cel:=M (spot P leaf p).1 (spot P leaf p).2
def tab0 (P:LP) (leaf:Nat) (id:UInt64) (M:Regs) (c:Cel):Nat→Cel:=fun p=>if p<P.m then strip id (spotC P leaf M p) else if p=P.m then c else cel0
inductive LOp where
 | look
 | put (d:Dat)
 | part (at_:Nat) (x y:UInt64)
 | drop
def LOp.now (op:LOp) (old:Dat) (there:Bool):Option Dat :=
 match op with
 | .look=>if there then some old else none
 | .put d=>some d
 | .part a x y=>some ((old.setIfInBounds a x).setIfInBounds (a+1) y)
 | .drop=>none
def newC_ (id:UInt64) (to:Nat):Option Dat→Cel
 | some d=>mkB id (UInt64.ofNat to) d
 | none=>cel0
def tabR (P:LP) (T:Nat→Cel) (M:Regs):Regs:=fun r i=>if r=2∧i<2 ^ P.E then T i else M r i
def levOld (P:LP) (id:UInt64) (fr:Nat) (M:Regs):Dat×Bool:=seek id (spotC P fr M) P.m
def levT (P:LP) (op:LOp) (id:UInt64) (fr to:Nat) (M:Regs):Nat→Cel:=tab0 P fr id M (newC_ id to (op.now (levOld P id fr M).1 (levOld P id fr M).2))
def levM (P:LP) (op:LOp) (id:UInt64) (fr to:Nat) (M:Regs):Regs:=wback P fr (tab4 P fr (levT P op id fr to M)) (tabR P (tab4 P fr (levT P op id fr to M)) M) P.m
def levLost (P:LP) (op:LOp) (id:UInt64) (fr to:Nat) (M:Regs):Bool:=tlost P fr (levT P op id fr to M)
theorem wback_out {P:LP} {leaf:Nat} {T:Nat→Cel} {M:Regs} {r i:Nat}:∀n,(∀p,p<n→spot P leaf p≠(r,i))→wback P leaf T M n r i=M r i
 | 0,_=>rfl
 | n+1,h=>by
   unfold wback set2
   rw[if_neg (fun e=>h n (by omega) (by rw[e.1,e.2])),wback_out n fun p hp=>h p (by omega)]
theorem wback_in {P:LP} (o:P.Ok) {leaf:Nat} (hl:leaf<2 ^ P.k) {T:Nat→Cel} {M:Regs} {p:Nat}:∀n,p<n→wback P leaf T M n (spot P leaf p).1 (spot P leaf p).2=(T p).set 11 0
 | 0,h=>by omega
 | n+1,h=>by
   unfold wback set2
   by_cases c:p=n
   · subst c;rw[if_pos ⟨rfl,rfl⟩]
   · rw[if_neg (fun e=>c (spot_inj o hl (Prod.ext e.1 e.2))),wback_in o hl n (by omega)]
theorem levM_in {P:LP} (o:P.Ok) {op:LOp} {id:UInt64} {fr to:Nat} (hl:fr<2 ^ P.k) (M:Regs) {p:Nat} (hp:p<P.m):levM P op id fr to M (spot P fr p).1 (spot P fr p).2=(tab4 P fr (levT P op id fr to M) p).set 11 0:=wback_in o hl _ hp
theorem levM_out {P:LP} {op:LOp} {id:UInt64} {fr to:Nat} (M:Regs) {r i:Nat} (hr:r≠2) (h:∀p,p<P.m→spot P fr p≠(r,i)):levM P op id fr to M r i=M r i:=by
 unfold levM;rw[wback_out _ h,tabR,if_neg (fun e=>hr e.1)]
def WM (P:LP) (M:Regs):Prop:=∀r i,vpos P r i→isB (M r i)=true→(M r i)[1].toNat≤2147483648∧(M r i)[2].toNat<2 ^ P.k
theorem isB_mkB (id leaf:UInt64) (d:Dat):isB (mkB id leaf d)=true:=by simp[isB,mkB]
theorem mkB_1 (id leaf:UInt64) (d:Dat):(mkB id leaf d)[1]=id:=by simp[mkB]
theorem mkB_2 (id leaf:UInt64) (d:Dat):(mkB id leaf d)[2]=leaf:=by simp[mkB]
theorem cdat_mkB (id leaf:UInt64) (d:Dat):cdat (mkB id leaf d)=d:=by
 apply Vector.ext
 intro i hi
 have h:i=0∨i=1∨i=2∨i=3∨i=4∨i=5∨i=6∨i=7:=by omega
 rcases h with rfl|rfl|rfl|rfl|rfl|rfl|rfl|rfl<;>simp[cdat,mkB]
theorem strip_B {id:UInt64} {c:Cel} (h:isB (strip id c)=true):strip id c=c∧isB c=true∧c[1]≠id:=by
 unfold strip at h ⊢
 split at h
 · rw[isB_cel0] at h;cases h
 · rename_i hn;rw[if_neg hn];exact⟨rfl,h,fun e=>hn ⟨h,e⟩⟩
theorem tab0_B {P:LP} {leaf:Nat} {id:UInt64} {M:Regs} {c:Cel} {p:Nat} (h:isB (tab0 P leaf id M c p)=true) :
   (p<P.m∧tab0 P leaf id M c p=spotC P leaf M p∧isB (spotC P leaf M p)=true∧(spotC P leaf M p)[1]≠id)∨(p=P.m∧tab0 P leaf id M c p=c∧isB c=true):=by
 unfold tab0 at h ⊢
 by_cases h1:p<P.m
 · rw[if_pos h1] at h ⊢
   obtain⟨a,b,c'⟩:=strip_B h
   exact .inl ⟨h1,a,b,c'⟩
 · rw[if_neg h1] at h ⊢
   by_cases h2:p=P.m
   · rw[if_pos h2] at h ⊢;exact .inr ⟨h2,rfl,h⟩
   · rw[if_neg h2,isB_cel0] at h;cases h
theorem newC_B {id:UInt64} {to:Nat} {x:Option Dat} (h:isB (newC_ id to x)=true):∃d,x=some d∧newC_ id to x=mkB id (UInt64.ofNat to) d:=by
 cases x with
 | none=>unfold newC_ at h;rw[isB_cel0] at h;cases h
 | some d=>exact⟨d,rfl,rfl⟩
theorem toNat_leaf {k to:Nat} (hk:k≤10) (h:to<2 ^ k):(UInt64.ofNat to).toNat=to:=by
 have:=Nat.pow_le_pow_right (n:=2) (by decide) hk
 rw[UInt64.toNat_ofNat'];omega
theorem levT_wf {P:LP} (o:P.Ok) {op:LOp} {id:UInt64} {fr to:Nat} {M:Regs} (w:WM P M) (hf:fr<2 ^ P.k) (ht:to<2 ^ P.k) (hid:id.toNat≤2147483648):TWf P (levT P op id fr to M):=by
 have key:∀i,isB (levT P op id fr to M i)=true→i<P.n∧(levT P op id fr to M i)[1].toNat≤2147483648∧(levT P op id fr to M i)[2].toNat<2 ^ P.k:=by
   intro i h
   have hn:P.n=P.m+1:=rfl
   rcases tab0_B h with ⟨h1,h2,h3,_⟩|⟨h1,h2,h3⟩
   · have:=w _ _ (spot_vpos o hf h1) h3
     unfold levT;rw[h2]
     exact⟨by omega,this⟩
   · obtain⟨d,_,e⟩:=newC_B h3
     unfold levT;rw[h2,e,mkB_1,mkB_2]
     exact⟨by omega,hid,by rw[toNat_leaf o.k ht];exact ht⟩
 exact⟨fun i h=>(key i h).1,fun i h=>(key i h).2.1,fun i h=>(key i h).2.2⟩
theorem same_fields {c c':Cel} (h:∃x y,c.set 11 x=c'.set 11 y):isB c=isB c'∧c[1]=c'[1]∧c[2]=c'[2]∧cdat c=cdat c':=by
 obtain⟨x,y,e⟩:=h
 have g:∀i (hi:i<11),c[i]=c'[i]:=fun i hi=>by
   have:=congrArg (fun v:Cel=>v[i]'(by omega)) e
   simpa [Vector.getElem_set,show(11:Nat)≠i by omega] using this
 refine⟨by unfold isB;rw[g 0 (by omega)],g 1 (by omega),g 2 (by omega),?_⟩
 unfold cdat
 rw[g 3 (by omega),g 4 (by omega),g 5 (by omega),g 6 (by omega),g 7 (by omega),g 8 (by omega),g 9 (by omega),g 10 (by omega)]
theorem cdat_set (c:Cel) (x:UInt64):cdat (c.set 11 x)=cdat c:=by simp[cdat]
theorem m_lt_E {P:LP} (o:P.Ok) {p:Nat} (h:p<P.m):p<2 ^ P.E:=by have:=o.n;unfold LP.n at this;unfold LP.m at h;omega
theorem lev_cases {P:LP} (o:P.Ok) {op:LOp} {id:UInt64} {fr to:Nat} (hf:fr<2 ^ P.k) (M:Regs) {r i:Nat} (hv:vpos P r i) :
   (∃p,p<P.m∧spot P fr p=(r,i)∧levM P op id fr to M r i=(tab4 P fr (levT P op id fr to M) p).set 11 0)∨((∀p,p<P.m→spot P fr p≠(r,i))∧levM P op id fr to M r i=M r i):=by
 by_cases h:∃p,p<P.m∧spot P fr p=(r,i)
 · obtain⟨p,hp,e⟩:=h
   have:=levM_in o (op:=op) (id:=id) (to:=to) hf M hp
   rw[e] at this
   exact .inl ⟨p,hp,e,this⟩
 · have h':∀p,p<P.m→spot P fr p≠(r,i):=fun p hp e=>h ⟨p,hp,e⟩
   refine .inr ⟨h',levM_out M ?_ h'⟩
   rcases hv with ⟨h,_⟩|⟨h,_⟩<;>omega
theorem levM_wm {P:LP} (o:P.Ok) {op:LOp} {id:UInt64} {fr to:Nat} {M:Regs} (w:WM P M) (hf:fr<2 ^ P.k) (ht:to<2 ^ P.k) (hid:id.toNat≤2147483648):WM P (levM P op id fr to M):=by
 intro r i hv hb
 have tw:=levT_wf o (op:=op) w hf ht hid
 obtain⟨g,dt,_⟩:=dealtT o fr _ tw
 rcases lev_cases o (op:=op) (id:=id) (to:=to) hf M hv with ⟨p,hp,_,e⟩|⟨_,e⟩
 · rw[e] at hb ⊢
   rw[isB_set] at hb
   rw[set_get1,set_get2]
   obtain⟨h1,h2,h3,_⟩:=dt.blk p (m_lt_E o hp) hb
   obtain⟨_,f1,f2,_⟩:=same_fields h3
   rw[f1,f2]
   exact⟨tw.id _ h2,tw.leaf _ h2⟩
 · rw[e] at hb ⊢;exact w r i hv hb
structure LI (P:LP) (M:Regs) (B:UInt64→Option (Nat×Dat)):Prop where
 sound:∀r i,vpos P r i→isB (M r i)=true→∃leaf,B (M r i)[1]=some (leaf,cdat (M r i))∧(M r i)[2].toNat=leaf∧leaf<2 ^ P.k∧(M r i)[1].toNat≤2147483648∧(r=0→∃d,d≤P.k∧i/P.s=nodeQ P.k leaf d)
 comp:∀id x,B id=some x→∃r i,vpos P r i∧isB (M r i)=true∧(M r i)[1]=id
 uniq:∀r i r' i',vpos P r i→vpos P r' i'→isB (M r i)=true→isB (M r' i')=true→(M r i)[1]=(M r' i')[1]→r=r'∧i=i'
theorem LI.wm {P:LP} {M:Regs} {B:UInt64→Option (Nat×Dat)} (l:LI P M B):WM P M:=fun r i hv hb=>by
 obtain⟨leaf,_,h2,h3,h4,_⟩:=l.sound r i hv hb
 exact⟨h4,by omega⟩
theorem LI.spot {P:LP} (o:P.Ok) {M:Regs} {B:UInt64→Option (Nat×Dat)} (l:LI P M B) {id:UInt64} {fr:Nat} (hw:∀leaf d,B id=some (leaf,d)→leaf=fr) {r i:Nat} (hv:vpos P r i) (hb:isB (M r i)=true) (hi:(M r i)[1]=id):∃p,p<P.m∧Go.Sh.spot P fr p=(r,i):=by
 obtain⟨leaf,h1,_,_,_,h5⟩:=l.sound r i hv hb
 rw[hi] at h1
 have:=hw _ _ h1
 subst this
 rcases hv with ⟨h,hlt⟩|⟨h,hlt⟩
 · subst h
   obtain⟨d,hd,e⟩:=h5 rfl
   exact spot_of_tree o hd e
 · subst h;exact spot_of_stash hlt
theorem seek_none {id:UInt64} {f:Nat→Cel}:∀n,(∀p,p<n→¬(isB (f p)=true∧(f p)[1]=id))→seek id f n=(dat0,false)
 | 0,_=>rfl
 | n+1,h=>by unfold seek;rw[if_neg (h n (by omega)),seek_none n fun p hp=>h p (by omega)]
theorem seek_one {id:UInt64} {f:Nat→Cel} {q:Nat} (hq:isB (f q)=true∧(f q)[1]=id):∀n,q<n→(∀p,p<n→isB (f p)=true∧(f p)[1]=id→p=q)→seek id f n=(cdat (f q),true)
 | 0,h,_=>by omega
 | n+1,h,u=>by
   unfold seek
   by_cases c:q=n
   · subst c;rw[if_pos hq]
   · rw[if_neg (fun e=>c (u n (by omega) e).symm),seek_one hq n (by omega) fun p hp=>u p (by omega)]
theorem lev_old {P:LP} (o:P.Ok) {M:Regs} {B:UInt64→Option (Nat×Dat)} (l:LI P M B) {id:UInt64} {fr:Nat} (hf:fr<2 ^ P.k) (hw:∀leaf d,B id=some (leaf,d)→leaf=fr) :
   levOld P id fr M=match B id with|some (_,d)=>(d,true)|none=>(dat0,false):=by
 unfold levOld
 cases h:B id with
 | none =>
   refine seek_none _ fun p hp e=>?_
   obtain⟨leaf,h1,_⟩:=l.sound _ _ (spot_vpos o hf hp) e.1
   have e2:(M (Go.Sh.spot P fr p).1 (Go.Sh.spot P fr p).2)[1]=id:=e.2
   rw[e2,h] at h1;cases h1
 | some x =>
   obtain⟨leaf,d⟩:=x
   obtain⟨r,i,hv,hb,hi⟩:=l.comp id _ h
   obtain⟨q,hq,e⟩:=l.spot o hw hv hb hi
   have eq:spotC P fr M q=M r i:=by unfold spotC;rw[e]
   refine(seek_one (q:=q) (by rw[eq];exact⟨hb,hi⟩) _ hq fun p hp e'=>?_).trans ?_
   · have:=l.uniq _ _ _ _ (spot_vpos o hf hp) (spot_vpos o hf hq) e'.1 (by rw[e];exact hb) (by rw[e];show(spotC P fr M p)[1]=_;rw[e'.2,hi])
     exact spot_inj o hf (Prod.ext this.1 this.2)
   · rw[eq]
     obtain⟨leaf',h1,_⟩:=l.sound r i hv hb
     rw[hi,h] at h1
     obtain⟨rfl,rfl⟩:=Prod.mk.inj (Option.some.inj h1)
     rfl
theorem lev_li {P:LP} (o:P.Ok) {op:LOp} {M:Regs} {B:UInt64→Option (Nat×Dat)} (l:LI P M B) {id:UInt64} {fr to:Nat} (hf:fr<2 ^ P.k) (ht:to<2 ^ P.k) (hid:id.toNat≤2147483648)
   (hw:∀leaf d,B id=some (leaf,d)→leaf=fr) (hl:levLost P op id fr to M=false) :
   LI P (levM P op id fr to M) (fun x=>if x=id then (op.now (levOld P id fr M).1 (levOld P id fr M).2).map (fun d=>(to,d)) else B x):=by
 have tw:=levT_wf o (op:=op) l.wm hf ht hid
 obtain⟨g,dt,_⟩:=dealtT o fr _ tw
 have hE:=pow_E o
 generalize hnow:op.now (levOld P id fr M).1 (levOld P id fr M).2=now at *
 have hT:levT P op id fr to M=tab0 P fr id M (newC_ id to now):=by unfold levT;rw[hnow]
 have blk:∀p,p<P.m→isB (tab4 P fr (levT P op id fr to M) p)=true →
     ((g p<P.m∧isB (spotC P fr M (g p))=true∧(spotC P fr M (g p))[1]≠id∧(tab4 P fr (levT P op id fr to M) p)[1]=(spotC P fr M (g p))[1])∨(g p=P.m∧(tab4 P fr (levT P op id fr to M) p)[1]=id)) ∧
     ∃leaf,(if (tab4 P fr (levT P op id fr to M) p)[1]=id then now.map (fun d=>(to,d)) else B (tab4 P fr (levT P op id fr to M) p)[1])=some (leaf,cdat (tab4 P fr (levT P op id fr to M) p)) ∧
      (tab4 P fr (levT P op id fr to M) p)[2].toNat=leaf∧leaf<2 ^ P.k∧(tab4 P fr (levT P op id fr to M) p)[1].toNat≤2147483648∧(p<P.tree→nodeQ P.k fr (p/P.s)=nodeQ P.k leaf (p/P.s)):=by
   intro p hp hb
   have hs:0<P.s:=by have:=o.s;omega
   obtain⟨h1,h2,h3,h4,h5⟩:=dt.blk p (m_lt_E o hp) hb
   obtain⟨_,f1,f2,f3⟩:=same_fields h3
   have h2':=h2
   rw[hT] at h2'
   rw[f1,f2,f3]
   rcases tab0_B h2' with ⟨a1,a2,a3,a4⟩|⟨a1,a2,a3⟩
   · rw[←hT] at a2
     rw[a2]
     obtain⟨leaf,b1,b2,b3,b4,_⟩:=l.sound _ _ (spot_vpos o hf a1) a3
     refine⟨.inl ⟨a1,a3,a4,rfl⟩,leaf,?_,b2,b3,b4,fun ht=>?_⟩
     · rw[if_neg a4];exact b1
     · have:=h5 ht
       rw[a2] at this
       have hleaf:(spotC P fr M (g p))[2].toNat=leaf:=b2
       rw[hleaf] at this
       exact node_deep hf b3 this (tree_dep hs ht)
   · rw[←hT] at a2
     rw[a2]
     obtain⟨d,e1,e2⟩:=newC_B a3
     rw[e2,mkB_1,mkB_2,cdat_mkB,toNat_leaf o.k ht]
     refine⟨.inr ⟨a1,rfl⟩,to,?_,rfl,ht,hid,fun htr=>?_⟩
     · rw[if_pos rfl,e1];rfl
     · have:=h5 htr
       rw[a2,e2,mkB_2,toNat_leaf o.k ht] at this
       exact node_deep hf ht this (tree_dep hs htr)
 have off:∀r i,vpos P r i→(∀p,p<P.m→spot P fr p≠(r,i))→isB (M r i)=true→(M r i)[1]≠id:=fun r i hv hn hb hi=>by
   obtain⟨p,hp,e⟩:=l.spot o hw hv hb hi
   exact hn p hp e
 refine⟨fun r i hv hb=>?_,fun id' x hx=>?_,fun r i r' i' hv hv' hb hb' he=>?_⟩
 · rcases lev_cases o (op:=op) (id:=id) (to:=to) hf M hv with ⟨p,hp,e0,e⟩|⟨hn,e⟩
   · rw[e] at hb ⊢
     rw[isB_set] at hb
     obtain⟨_,leaf,b1,b2,b3,b4,b5⟩:=blk p hp hb
     rw[set_get1,set_get2,cdat_set]
     refine⟨leaf,b1,b2,b3,b4,fun hr=>?_⟩
     have hs:0<P.s:=by have:=o.s;omega
     have htr:p<P.s*(P.k+1):=by
       rcases Nat.lt_or_ge p (P.s*(P.k+1)) with h|h
       · exact h
       · rw[spot_stash (by omega),hr] at e0;have:=(Prod.mk.inj e0).1;omega
     refine⟨p/P.s,tree_dep hs htr,?_⟩
     rw[spot_tree htr] at e0
     have:=(Prod.mk.inj e0).2
     rw[←this,(tree_div (Nat.mod_lt p hs)).1]
     exact b5 htr
   · rw[e] at hb ⊢
     obtain⟨leaf,b1,b2⟩:=l.sound r i hv hb
     exact⟨leaf,by rw[if_neg (off r i hv hn hb)];exact b1,b2⟩
 · by_cases hi:id'=id
   · subst hi
     rw[if_pos rfl] at hx
     obtain⟨d,hd,_⟩:=Option.map_eq_some_iff.1 hx
     have hb0:isB (levT P op id' fr to M P.m)=true:=by
       rw[hT,tab0,if_neg (by omega),if_pos rfl,hd];exact isB_mkB _ _ _
     obtain⟨p,hp,hb,hg⟩:=dt.all hl P.m (by show P.s*(P.k+1)+P.t<_;unfold LP.n;omega) hb0
     refine⟨_,_,spot_vpos o hf hp,?_⟩
     rw[levM_in o hf M hp,isB_set,set_get1]
     refine⟨hb,?_⟩
     rcases (blk p hp hb).1 with ⟨h,_⟩|⟨_,h⟩
     · omega
     · exact h
   · rw[if_neg hi] at hx
     obtain⟨r,i,hv,hb,e⟩:=l.comp id' x hx
     rcases lev_cases o (op:=op) (id:=id) (to:=to) hf M hv with ⟨p,hp,e0,e1⟩|⟨hn,e1⟩
     · have es:spotC P fr M p=M r i:=by unfold spotC;rw[e0]
       have hb0:levT P op id fr to M p=M r i:=by
         rw[hT,tab0,if_pos hp,strip,es,if_neg (fun h=>hi (by rw[←e,h.2]))]
       obtain⟨q,hq,hb,hg⟩:=dt.all hl p (by show p<P.m+1;omega) (by rw[hb0];exact hb)
       refine⟨_,_,spot_vpos o hf hq,?_⟩
       rw[levM_in o hf M hq,isB_set,set_get1]
       refine⟨hb,?_⟩
       rcases (blk q hq hb).1 with ⟨_,_,_,h⟩|⟨h,_⟩
       · rw[h,hg,es,e]
       · omega
     · exact⟨r,i,hv,by rw[e1];exact⟨hb,e⟩⟩
 · rcases lev_cases o (op:=op) (id:=id) (to:=to) hf M hv with ⟨p,hp,e0,e1⟩|⟨hn,e1⟩
   · rw[e1] at hb he
     rw[isB_set] at hb;rw[set_get1] at he
     rcases lev_cases o (op:=op) (id:=id) (to:=to) hf M hv' with ⟨q,hq,f0,f1⟩|⟨hn',f1⟩
     · rw[f1] at hb' he
       rw[isB_set] at hb';rw[set_get1] at he
       have hpq:p=q:=by
         refine dt.inj p q (m_lt_E o hp) (m_lt_E o hq) ?_
         rcases (blk p hp hb).1 with ⟨a1,a2,a3,a4⟩|⟨a1,a2⟩
         · rcases (blk q hq hb').1 with ⟨b1,b2,b3,b4⟩|⟨b1,b2⟩
           · have:=l.uniq _ _ _ _ (spot_vpos o hf a1) (spot_vpos o hf b1) a2 b2 (by show(spotC P fr M (g p))[1]=(spotC P fr M (g q))[1];rw[←a4,←b4,he])
             exact spot_inj o hf (Prod.ext this.1 this.2)
           · rw[a4,b2] at he;exact absurd he a3
         · rcases (blk q hq hb').1 with ⟨b1,b2,b3,b4⟩|⟨b1,b2⟩
           · rw[a2,b4] at he;exact absurd he.symm b3
           · rw[a1,b1]
       subst hpq
       rw[e0] at f0
       exact⟨(Prod.mk.inj f0).1,(Prod.mk.inj f0).2⟩
     · rw[f1] at hb' he
       rcases (blk p hp hb).1 with ⟨a1,a2,a3,a4⟩|⟨a1,a2⟩
       · have:=l.uniq _ _ _ _ (spot_vpos o hf a1) hv' a2 hb' (by show(spotC P fr M (g p))[1]=_;rw[←a4,he])
         exact absurd (Prod.ext this.1 this.2) (hn' _ a1)
       · rw[a2] at he;exact absurd he.symm (off r' i' hv' hn' hb')
   · rw[e1] at hb he
     rcases lev_cases o (op:=op) (id:=id) (to:=to) hf M hv' with ⟨q,hq,f0,f1⟩|⟨hn',f1⟩
     · rw[f1] at hb' he
       rw[isB_set] at hb';rw[set_get1] at he
       rcases (blk q hq hb').1 with ⟨a1,a2,a3,a4⟩|⟨a1,a2⟩
       · have:=l.uniq _ _ _ _ (spot_vpos o hf a1) hv a2 hb (by show(spotC P fr M (g q))[1]=_;rw[←a4,he])
         exact absurd (Prod.ext this.1 this.2) (hn _ a1)
       · rw[a2] at he;exact absurd he (off r i hv hn hb)
     · rw[f1] at hb' he
       exact l.uniq _ _ _ _ hv hv' hb hb' he
theorem lev_few {P:LP} (o:P.Ok) {op:LOp} {M:Regs} {B:UInt64→Option (Nat×Dat)} (l:LI P M B) {id:UInt64} {fr to:Nat} (hf:fr<2 ^ P.k) (ht:to<2 ^ P.k) (hid:id.toNat≤2147483648)
   (S:List UInt64) (hS:S.length≤P.t) (hB:∀x,B x≠none→x∈S) (hn:op.now (levOld P id fr M).1 (levOld P id fr M).2≠none→id∈S):levLost P op id fr to M=false:=by
 have tw:=levT_wf o (op:=op) l.wm hf ht hid
 obtain⟨g,_,few⟩:=dealtT o fr _ tw
 refine few S hS (fun i h=>?_) (fun i j h h' he=>?_)
 · rcases tab0_B h with ⟨a1,a2,a3,a4⟩|⟨a1,a2,a3⟩
   · unfold levT;rw[a2]
     obtain⟨leaf,b1,_⟩:=l.sound _ _ (spot_vpos o hf a1) a3
     exact hB _ (by show B (M _ _)[1]≠none;rw[b1];simp)
   · obtain⟨d,e1,e2⟩:=newC_B a3
     unfold levT;rw[a2,e2,mkB_1]
     exact hn (by rw[e1];simp)
 · unfold levT at he
   rcases tab0_B h with ⟨a1,a2,a3,a4⟩|⟨a1,a2,a3⟩
   · rcases tab0_B h' with ⟨b1,b2,b3,b4⟩|⟨b1,b2,b3⟩
     · rw[a2,b2] at he
       have:=l.uniq _ _ _ _ (spot_vpos o hf a1) (spot_vpos o hf b1) a3 b3 he
       exact spot_inj o hf (Prod.ext this.1 this.2)
     · obtain⟨d,_,e2⟩:=newC_B b3
       rw[a2,b2,e2,mkB_1] at he;exact absurd he a4
   · rcases tab0_B h' with ⟨b1,b2,b3,b4⟩|⟨b1,b2,b3⟩
     · obtain⟨d,_,e2⟩:=newC_B a3
       rw[a2,b2,e2,mkB_1] at he;exact absurd he.symm b4
     · omega
theorem LI.zero {P:LP} {M:Regs} (h:∀r i,vpos P r i→M r i=cel0):LI P M (fun _=>none) :=
 ⟨fun r i hv hb=>(by rw[h r i hv,isB_cel0] at hb;cases hb),fun id x hx=>(by cases hx),fun r i r' i' hv _ hb=>(by rw[h r i hv,isB_cel0] at hb;cases hb)⟩
end Go.Sh
/- The rows beside a table: what is dealt is what the cells say, in their order. -/
namespace Go.Sh
theorem perm_sorted_eq:∀ {l l':List Nat},l.Perm l'→l.Pairwise (·≤·)→l'.Pairwise (·≤·)→l=l'
 | [],l',p,_,_=>(List.Perm.eq_nil p.symm).symm
 | a::l,[],p,_,_=>by have:=p.length_eq;simp at this
 | a::l,b::l',p,s,s'=>by
   obtain⟨sa,sl⟩:=List.pairwise_cons.1 s
   obtain⟨sb,sl'⟩:=List.pairwise_cons.1 s'
   have hab:a=b:=by
     have h1:a∈b::l':=p.mem_iff.1 (List.mem_cons_self ..)
     have h2:b∈a::l:=p.mem_iff.2 (List.mem_cons_self ..)
     rcases List.mem_cons.1 h1 with h1|h1
     · exact h1
     · rcases List.mem_cons.1 h2 with h2|h2
       · exact h2.symm
       · have:=sa b h2;have:=sb a h1;omega
   subst hab
   rw[perm_sorted_eq (List.Perm.cons_inv p) sl sl']
theorem mono_pairwise {n:Nat} {f:Nat→Nat} (h:∀i j,i≤j→j<n→f i≤f j):((List.range n).map f).Pairwise (·≤·):=by
 rw[List.pairwise_iff_getElem]
 intro i j hi hj hij
 simp only[List.getElem_map,List.getElem_range]
 exact h i j (by omega) (by simpa using hj)
theorem sorted_eq {n:Nat} {f g:Nat→Nat} (p:((List.range n).map f).Perm ((List.range n).map g)) (hf:∀i j,i≤j→j<n→f i≤f j) (hg:∀i j,i≤j→j<n→g i≤g j) {i:Nat} (hi:i<n):f i=g i:=by
 have e:=perm_sorted_eq p (mono_pairwise hf) (mono_pairwise hg)
 have:=congrArg (fun l=>l[i]?) e
 simpa [hi] using this
def itK (k key:Nat):UInt64×Int:=if key<4611686018427387904 then (UInt64.ofNat (key%4294967296),(k:Int)-(key/4294967296:Nat)) else (0,-1)
def itC (P:LP) (fr:Nat) (c:Cel):UInt64×Int:=if isB c=true then (c[1],((deepN P.k fr c[2].toNat:Nat):Int)) else (0,-1)
theorem deepN_le (k a b:Nat):deepN k a b≤k:=by unfold deepN;omega
theorem itC_key {P:LP} (o:P.Ok) {fr:Nat} {T:Nat→Cel} (w:TWf P T) {i:Nat} (hi:i<2 ^ P.E):itC P fr (T i)=itK P.k (ckey (tab1 P fr T i)):=by
 have hE:=pow_E o
 unfold itC
 by_cases h:isB (T i)=true
 · rw[if_pos h]
   have hid:=w.id i h
   have e:ckey (tab1 P fr T i)=(P.k-deepN P.k fr (T i)[2].toNat)*4294967296+(T i)[1].toNat:=by
     unfold ckey tab1;rw[set_get11];exact key1_block o (w.lt i h) h hid
   have hd:=deepN_le P.k fr (T i)[2].toNat
   have hk:=o.k
   generalize deepN P.k fr (T i)[2].toNat=d at *
   unfold itK
   rw[e,if_pos (by omega)]
   have e1:((P.k-d)*4294967296+(T i)[1].toNat)%4294967296=(T i)[1].toNat:=by omega
   have e2:((P.k-d)*4294967296+(T i)[1].toNat)/4294967296=P.k-d:=by omega
   rw[e1,e2]
   refine Prod.ext ?_ ?_
   · show(T i)[1]=UInt64.ofNat (T i)[1].toNat;simp
   · show((d:Nat):Int)=(P.k:Int)-((P.k-d:Nat):Int);omega
 · rw[if_neg h]
   have e:ckey (tab1 P fr T i)=4611686018427387904+i:=by
     unfold ckey tab1;rw[set_get11];exact key1_none (by omega) (fun x=>h x.2)
   unfold itK;rw[e,if_neg (by omega)]
theorem itC_set (P:LP) (fr:Nat) (c:Cel) (x:UInt64):itC P fr (c.set 11 x)=itC P fr c:=by
 unfold itC;rw[isB_set,set_get1,set_get2]
theorem itC_tab2 {P:LP} (o:P.Ok) {fr:Nat} {T:Nat→Cel} (w:TWf P T) {i:Nat} (hi:i<2 ^ P.E):itC P fr (tab2 P fr T i)=itK P.k (ckey (tab2 P fr T i)):=by
 obtain⟨σ,τ,b,e⟩:=net_bij ckey P.E (tab1 P fr T)
 have e:tab2 P fr T i=tab1 P fr T (σ i):=e i hi
 rw[e,←itC_key o w (b.s i hi)]
 unfold tab1;rw[itC_set]
theorem itC_deep (P:LP) (fr:Nat) (c:Cel):(itC P fr c).2=itD P fr c:=by unfold itC itD;split<;>rfl
theorem rows_items {P:LP} (o:P.Ok) {fr:Nat} {T:Nat→Cel} (w:TWf P T) {d':Nat→Nat} (p:((List.range (2 ^ P.E)).map d').Perm ((List.range (2 ^ P.E)).map fun i=>ckey (tab1 P fr T i))) (s:∀i j,i≤j→j<2 ^ P.E→d' i≤d' j) {i:Nat} (hi:i<2 ^ P.E) :
   itK P.k (d' i)=itC P fr (tab2 P fr T i):=by
 rw[itC_tab2 o w hi]
 congr 1
 refine sorted_eq (f:=d') (g:=fun i=>ckey (tab2 P fr T i)) (p.trans ?_) s (fun i j h1 h2=>net_sorts ckey P.E _ h1 h2) hi
 have:=((net_perm ckey P.E (tab1 P fr T)).1.map ckey).symm
 rw[List.map_map,List.map_map] at this
 exact this
theorem tab2_key_mono (P:LP) (fr:Nat) (T:Nat→Cel) {i j:Nat} (h1:i≤j) (h2:j<2 ^ P.E):ckey (tab2 P fr T i)≤ckey (tab2 P fr T j):=net_sorts ckey P.E _ h1 h2
end Go.Sh
/- A store as the document has it: plain; what holds of it always. -/
namespace Go.Sh
structure SP where
 m:Nat
 L:Nat
 s:Nat
 t:Nat
 E:Nat→Nat
 f:Nat
def SP.k (G:SP) (h:Nat):Nat:=G.m-2*h
def SP.lp (G:SP) (h:Nat):LP:=⟨G.m-2*h,G.s,G.t,G.E h⟩
def SP.top (G:SP):Nat:=2 ^ (G.m-2*(G.L-1))
def SP.base (G:SP) (h:Nat):Nat:=G.f+1+3*h
structure SP.Ok (G:SP):Prop where
 m:G.m≤10
 L:1≤G.L∧G.L≤4
 lev:∀h,(G.lp h).Ok
def SP.fp (G:SP) (u h:Nat):Nat:=u+2*(G.L-1-h)
def SP.leaf (G:SP) (w:Nat→UInt64) (h p:Nat):Nat:=(w p).toNat%2 ^ (G.m-2*h)
theorem SP.leaf_lt (G:SP) (w:Nat→UInt64) (h p:Nat):G.leaf w h p<2 ^ (G.lp h).k:=Nat.mod_lt _ (Nat.pow_pos (by decide))
structure SSt where
 R:Regs
 used:Nat
 over:Nat→Bool
 ids:Nat→List UInt64
 gone:List (Nat×Nat)
def lview (b:Nat) (R:Regs):Regs:=fun r i=>R (b+r) i
def lput (b:Nat) (R M:Regs):Regs:=fun r i=>if b≤r∧r<b+3 then M (r-b) i else R r i
def meets (op:LOp) (id:UInt64) (l:List UInt64):List UInt64 :=
 match op with
 | .put _=>if id∈l then l else l++[id]
 | .part _ _ _=>if id∈l then l else l++[id]
 | _=>l
def SP.lv (G:SP) (h:Nat) (R:Regs):Regs:=lview (G.base h) R
def SP.acc (G:SP) (h:Nat) (op:LOp) (id:UInt64) (fr to:Nat) (S:SSt):SSt :=
 { S with
   R:=lput (G.base h) S.R (levM (G.lp h) op id fr to (G.lv h S.R))
   over:=fun x=>if x=h then S.over h||levLost (G.lp h) op id fr to (G.lv h S.R) else S.over x
   ids:=fun x=>if x=h then meets op id (S.ids h) else S.ids x }
def SP.old (G:SP) (h:Nat) (id:UInt64) (fr:Nat) (S:SSt):Dat×Bool:=levOld (G.lp h) id fr (G.lv h S.R)
def way (v p:UInt64) (sp:Nat×Nat):Nat×Nat:=if v=0 then sp else (v.toNat-1,p.toNat)
def bid (x h:Nat):UInt64:=UInt64.ofNat (x/4 ^ h)
def dget (d:Dat) (j:Nat):UInt64:=d[j]?.getD 0
def goDn (G:SP) (w:Nat→UInt64) (u:Nat) (op:LOp) (x:Nat):(h:Nat)→UInt64→UInt64→SSt→SSt×Dat×Bool
 | 0,v,p,S =>
   let fr:=way v p (G.leaf w 0 (G.fp u 0+1),G.fp u 0+1)
   let S1:={ S with gone:=S.gone++[fr] }
   (G.acc 0 op (bid x 0) fr.1 (G.leaf w 0 (G.fp u 0)) S1,G.old 0 (bid x 0) fr.1 S1)
 | h+1,v,p,S =>
   let fr:=way v p (G.leaf w (h+1) (G.fp u (h+1)+1),G.fp u (h+1)+1)
   let S1:={ S with gone:=S.gone++[fr] }
   let j:=2*(x/4 ^ h%4)
   let old:=(G.old (h+1) (bid x (h+1)) fr.1 S1).1
   goDn G w u op x h (dget old j) (dget old (j+1)) (G.acc (h+1) (.part j (UInt64.ofNat (G.leaf w h (G.fp u h)+1)) (UInt64.ofNat (G.fp u h))) (bid x (h+1)) fr.1 (G.leaf w (h+1) (G.fp u (h+1))) S1)
def topC (v p:UInt64):Cel:=#v[v,p,0,0,0,0,0,0,0,0,0,0]
def stAcc (G:SP) (w:Nat→UInt64) (op:LOp) (x:Nat) (S:SSt):SSt×Dat×Bool :=
 let c:=S.R G.f (x/4 ^ (G.L-1))
 goDn G w S.used op x (G.L-1) c[0] c[1]
   { S with R:=set2 S.R (G.f,x/4 ^ (G.L-1)) (topC (UInt64.ofNat (G.leaf w (G.L-1) (G.fp S.used (G.L-1))+1)) (UInt64.ofNat (G.fp S.used (G.L-1)))),used:=S.used+2*G.L }
/-! ## what an access makes of a level's cells, whatever was lost -/
theorem seek_mem {id:UInt64} {f:Nat→Cel}:∀n,seek id f n=(dat0,false)∨∃p,p<n∧isB (f p)=true∧(f p)[1]=id∧seek id f n=(cdat (f p),true)
 | 0=> .inl rfl
 | n+1=>by
   unfold seek
   split
   · rename_i h;exact .inr ⟨n,by omega,h.1,h.2,rfl⟩
   · rcases seek_mem (id:=id) (f:=f) n with h|⟨p,h1,h2⟩
     · exact .inl h
     · exact .inr ⟨p,by omega,h2⟩
theorem lev_map {P:LP} (o:P.Ok) {op:LOp} {id:UInt64} {fr to:Nat} {M:Regs} (w:WM P M) (hf:fr<2 ^ P.k) (ht:to<2 ^ P.k) (hid:id.toNat≤2147483648) :
   ∃φ:Nat→Nat→Option (Nat×Nat),
    (∀r i,vpos P r i→isB (levM P op id fr to M r i)=true→φ r i=none→∃d,op.now (levOld P id fr M).1 (levOld P id fr M).2=some d∧cdat (levM P op id fr to M r i)=d) ∧
    (∀r i q,vpos P r i→isB (levM P op id fr to M r i)=true→φ r i=some q→vpos P q.1 q.2∧isB (M q.1 q.2)=true∧cdat (levM P op id fr to M r i)=cdat (M q.1 q.2)∧((∃p,p<P.m∧spot P fr p=q)→(M q.1 q.2)[1]≠id)) ∧
    (∀r i r' i',vpos P r i→vpos P r' i'→isB (levM P op id fr to M r i)=true→isB (levM P op id fr to M r' i')=true→φ r i=φ r' i'→r=r'∧i=i'):=by
 have tw:=levT_wf o (op:=op) w hf ht hid
 obtain⟨g,dt,_⟩:=dealtT o fr _ tw
 have dec:∀r i,∃y:Option Nat,(match y with|some p=>p<P.m∧spot P fr p=(r,i)|none=>∀p,p<P.m→spot P fr p≠(r,i)):=fun r i=>by
   by_cases h:∃p,p<P.m∧spot P fr p=(r,i)
   · obtain⟨p,hp⟩:=h;exact⟨some p,hp⟩
   · exact⟨none,fun p hp e=>h ⟨p,hp,e⟩⟩
 let sp:Nat→Nat→Option Nat:=fun r i=>Classical.choose (dec r i)
 have hsp:∀r i,(match sp r i with|some p=>p<P.m∧spot P fr p=(r,i)|none=>∀p,p<P.m→spot P fr p≠(r,i)):=fun r i=>Classical.choose_spec (dec r i)
 have v2:∀ {r i},vpos P r i→r≠2:=fun hv=>by rcases hv with ⟨h,_⟩|⟨h,_⟩<;>omega
 refine⟨fun r i=>match sp r i with|some p=>if g p<P.m then some (spot P fr (g p)) else none|none=>some (r,i),fun r i hv hb h=>?_,fun r i q hv hb h=>?_,fun r i r' i' hv hv' hb hb' h=>?_⟩
 · have hs:=hsp r i
   cases e:sp r i with
   | none=>simp only[e] at h;cases h
   | some p =>
     simp only[e] at h hs
     obtain⟨hp,e0⟩:=hs
     have e1:=levM_in o (op:=op) (id:=id) (to:=to) hf M hp
     rw[e0] at e1
     rw[e1,isB_set] at hb
     rw[e1,cdat_set]
     obtain⟨h1,h2,h3,_⟩:=dt.blk p (m_lt_E o hp) hb
     obtain⟨_,f1,f2,f3⟩:=same_fields h3
     split at h
     · cases h
     · rcases tab0_B h2 with ⟨a1,_⟩|⟨a1,a2,a3⟩
       · omega
       · obtain⟨d,e2,e3⟩:=newC_B a3
         refine⟨d,e2,?_⟩
         rw[f3];unfold levT;rw[a2,e3,cdat_mkB]
 · have hs:=hsp r i
   cases e:sp r i with
   | none =>
     simp only[e] at h hs
     cases h
     have e1:=levM_out (op:=op) (id:=id) (to:=to) M (v2 hv) hs
     rw[e1] at hb ⊢
     exact⟨hv,hb,rfl,fun⟨p,hp,h⟩=>absurd h (hs p hp)⟩
   | some p =>
     simp only[e] at h hs
     obtain⟨hp,e0⟩:=hs
     have e1:=levM_in o (op:=op) (id:=id) (to:=to) hf M hp
     rw[e0] at e1
     rw[e1,isB_set] at hb
     rw[e1,cdat_set]
     obtain⟨h1,h2,h3,_⟩:=dt.blk p (m_lt_E o hp) hb
     obtain⟨_,f1,f2,f3⟩:=same_fields h3
     split at h
     · rename_i hg
       cases h
       rcases tab0_B h2 with ⟨a1,a2,a3,a4⟩|⟨a1,_⟩
       · refine⟨spot_vpos o hf hg,a3,?_,fun _=>a4⟩
         rw[f3];unfold levT;rw[a2];rfl
       · omega
     · cases h
 · have hs:=hsp r i
   have hs':=hsp r' i'
   have blk:∀p,p<P.m→∀r i,spot P fr p=(r,i)→isB (levM P op id fr to M r i)=true→g p<P.m∨g p=P.m:=fun p hp r i e0 hb=>by
     have e1:=levM_in o (op:=op) (id:=id) (to:=to) hf M hp
     rw[e0] at e1
     rw[e1,isB_set] at hb
     obtain⟨_,h2,_⟩:=dt.blk p (m_lt_E o hp) hb
     rcases tab0_B h2 with ⟨a1,_⟩|⟨a1,_⟩
     · exact .inl a1
     · exact .inr a1
   cases e:sp r i with
   | none =>
     simp only[e] at h hs
     cases e':sp r' i' with
     | none=>simp only[e'] at h;cases h;exact⟨rfl,rfl⟩
     | some q =>
       simp only[e'] at h hs'
       split at h
       · rename_i hg
         exact absurd (Option.some.inj h).symm (hs _ hg)
       · cases h
   | some p =>
     simp only[e] at h hs
     cases e':sp r' i' with
     | none =>
       simp only[e'] at h hs'
       split at h
       · rename_i hg
         exact absurd (Option.some.inj h) (hs' _ hg)
       · cases h
     | some q =>
       simp only[e'] at h hs'
       have hpq:p=q:=by
         refine dt.inj p q (m_lt_E o hs.1) (m_lt_E o hs'.1) ?_
         split at h
         · split at h
           · exact spot_inj o hf (Option.some.inj h)
           · cases h
         · split at h
           · cases h
           · rcases blk p hs.1 r i hs.2 hb with c|c<;>rcases blk q hs'.1 r' i' hs'.2 hb' with c'|c'<;>omega
       subst hpq
       have:=hs.2.symm.trans hs'.2
       exact⟨(Prod.mk.inj this).1,(Prod.mk.inj this).2⟩
end Go.Sh
/- What holds of a store always, whatever was lost: each place of the tape gives at most one way. -/
namespace Go.Sh
variable {G:SP} {w:Nat→UInt64}
inductive Loc where
 | top (x:Nat)
 | blk (h r i q:Nat)
 deriving DecidableEq
def Ent (G:SP) (R:Regs):Loc→Nat→UInt64→UInt64→Prop
 | .top x,ht,v,p=>x<G.top∧ht+1=G.L∧v=(R G.f x)[0]∧p=(R G.f x)[1]
 | .blk h r i q,ht,v,p=>h<G.L∧ht+1=h∧vpos (G.lp h) r i∧isB (G.lv h R r i)=true∧q<4∧v=dget (cdat (G.lv h R r i)) (2*q)∧p=dget (cdat (G.lv h R r i)) (2*q+1)
structure Good1 (G:SP) (w:Nat→UInt64) (u0 ub ht:Nat) (v p:UInt64):Prop where
 lt:p.toNat<ub
 val:v.toNat=G.leaf w ht p.toNat+1
 kind:∃a,p.toNat=G.fp (u0+2*G.L*a) ht
 ht:ht<G.L
structure GoneOk (G:SP) (w:Nat→UInt64) (u0 ub:Nat) (g:List (Nat×Nat)):Prop where
 nodup:(g.map (·.2)).Nodup
 lt:∀x∈g,x.2<ub
 val:∀i x,g[i]? =some x→x.1=G.leaf w (G.L-1-i%G.L) x.2
 kind:∀i x,g[i]? =some x→∃a e,a≤i/G.L∧e≤1∧x.2=G.fp (u0+2*G.L*a) (G.L-1-i%G.L)+e
structure AI (G:SP) (w:Nat→UInt64) (u0 ub:Nat) (S:SSt):Prop where
 wm:∀h,h<G.L→WM (G.lp h) (G.lv h S.R)
 good:∀l ht v p,Ent G S.R l ht v p→v≠0→Good1 G w u0 ub ht v p∧p.toNat∉S.gone.map (·.2)
 uniq:∀l ht v p l' ht' v' p',Ent G S.R l ht v p→Ent G S.R l' ht' v' p'→v≠0→v'≠0→p=p'→l=l'
 gone:GoneOk G w u0 ub S.gone
structure Car (G:SP) (w:Nat→UInt64) (u0 ub h:Nat) (S:SSt) (v p:UInt64):Prop where
 good:v≠0→Good1 G w u0 ub h v p∧p.toNat∉S.gone.map (·.2)
 uniq:∀l ht v' p',v≠0→Ent G S.R l ht v' p'→v'≠0→p'≠p
theorem lview_lput_same {b:Nat} {R M:Regs} {r i:Nat} (h:r<3):lview b (lput b R M) r i=M r i:=by
 unfold lview lput;rw[if_pos (by omega),Nat.add_sub_cancel_left]
theorem lput_out {b:Nat} {R M:Regs} {r i:Nat} (h:r<b∨b+3≤r):lput b R M r i=R r i:=by
 unfold lput;rw[if_neg (by omega)]
theorem lv_other {h h':Nat} {R M:Regs} {r i:Nat} (hne:h≠h') (hr:r<3):G.lv h' (lput (G.base h) R M) r i=G.lv h' R r i:=by
 unfold SP.lv lview
 exact lput_out (by unfold SP.base;omega)
theorem vpos_lt {P:LP} {r i:Nat} (h:vpos P r i):r<3:=by rcases h with ⟨h,_⟩|⟨h,_⟩<;>omega
theorem WM.congr {P:LP} {M M':Regs} (w:WM P M) (h:∀r i,r<3→M' r i=M r i):WM P M':=fun r i hv hb=>by
 rw[h r i (vpos_lt hv)] at hb ⊢;exact w r i hv hb
theorem LI.congr {P:LP} {M M':Regs} {B:UInt64→Option (Nat×Dat)} (l:LI P M B) (h:∀r i,r<3→M' r i=M r i):LI P M' B:=by
 refine⟨fun r i hv hb=>?_,fun id x hx=>?_,fun r i r' i' hv hv' hb hb' he=>?_⟩
 · rw[h r i (vpos_lt hv)] at hb ⊢;exact l.sound r i hv hb
 · obtain⟨r,i,hv,hb⟩:=l.comp id x hx
   exact⟨r,i,hv,by rw[h r i (vpos_lt hv)];exact hb⟩
 · rw[h r i (vpos_lt hv)] at hb he;rw[h r' i' (vpos_lt hv')] at hb' he
   exact l.uniq r i r' i' hv hv' hb hb' he
theorem bid_toNat (o:G.Ok) {x h:Nat} (hx:x<2 ^ G.m):(bid x h).toNat=x/4 ^ h∧(bid x h).toNat≤2147483648:=by
 have h1:x/4 ^ h≤x:=Nat.div_le_self _ _
 have h2:2 ^ G.m≤2 ^ 10:=Nat.pow_le_pow_right (by decide) o.m
 unfold bid;rw[UInt64.toNat_ofNat']
 generalize x/4 ^ h=y at *
 omega
theorem leaf_bd (o:G.Ok) (h p:Nat):G.leaf w h p<1024:=by
 have h1:=G.leaf_lt w h p
 have h2:2 ^ (G.lp h).k≤2 ^ 10:=Nat.pow_le_pow_right (by decide) (o.lev h).k
 omega
theorem leafW_toNat (o:G.Ok) (h p:Nat):(UInt64.ofNat (G.leaf w h p+1)).toNat=G.leaf w h p+1:=by
 have:=leaf_bd (w:=w) o h p
 rw[UInt64.toNat_ofNat'];omega
theorem placeW_toNat {p:Nat} (h:p<2 ^ 63):(UInt64.ofNat p).toNat=p:=by rw[UInt64.toNat_ofNat'];omega
theorem way_ok (o:G.Ok) {u0 u h:Nat} {a:Nat} (hu:u=u0+2*G.L*a) (hh:h<G.L) {S:SSt} (ai:AI G w u0 (G.fp u h+1) S) {v p:UInt64} (c:Car G w u0 (G.fp u h+1) h S v p)
   (hlen:S.gone.length=G.L*a+(G.L-1-h)) :
   (way v p (G.leaf w h (G.fp u h+1),G.fp u h+1)).1<2 ^ (G.lp h).k∧AI G w u0 (G.fp u h+2) { S with gone:=S.gone++[way v p (G.leaf w h (G.fp u h+1),G.fp u h+1)] }:=by
 have hL:=o.L
 have hmod:(G.L*a+(G.L-1-h))%G.L=G.L-1-h:=by
   rw[Nat.mul_add_mod];exact Nat.mod_eq_of_lt (by omega)
 have hdiv:(G.L*a+(G.L-1-h))/G.L=a:=by
   rw[Nat.mul_add_div (by omega),Nat.div_eq_of_lt (by omega)];omega
 have hlev:G.L-1-(G.L-1-h)=h:=by omega
 have key:(way v p (G.leaf w h (G.fp u h+1),G.fp u h+1)).2<G.fp u h+2∧(way v p (G.leaf w h (G.fp u h+1),G.fp u h+1)).1=G.leaf w h (way v p (G.leaf w h (G.fp u h+1),G.fp u h+1)).2 ∧
     (∃b e,b≤a∧e≤1∧(way v p (G.leaf w h (G.fp u h+1),G.fp u h+1)).2=G.fp (u0+2*G.L*b) h+e)∧(way v p (G.leaf w h (G.fp u h+1),G.fp u h+1)).2∉S.gone.map (·.2) ∧
     (∀l ht v' p',Ent G S.R l ht v' p'→v'≠0→p'.toNat≠(way v p (G.leaf w h (G.fp u h+1),G.fp u h+1)).2):=by
   by_cases hv:v=0
   · unfold way;rw[if_pos hv]
     refine⟨by show G.fp u h+1<_;omega,rfl,⟨a,1,by omega,by omega,by rw[hu]⟩,fun hm=>?_,fun l ht v' p' he hv' h1=>?_⟩
     · obtain⟨x,hx,e⟩:=List.mem_map.1 hm
       have:=ai.gone.lt x hx
       have e:x.2=G.fp u h+1:=e
       omega
     · have:=(ai.good l ht v' p' he hv').1.lt
       have h1:p'.toNat=G.fp u h+1:=h1
       omega
   · obtain⟨g,hg⟩:=c.good hv
     unfold way;rw[if_neg hv]
     refine⟨by have:=g.lt;show p.toNat<_;omega,by have:=g.val;show v.toNat-1=G.leaf w h p.toNat;omega,?_,hg,fun l ht v' p' he hv' h1=>?_⟩
     · obtain⟨b,hb⟩:=g.kind
       refine⟨b,0,?_,by omega,by rw[Nat.add_zero];exact hb⟩
       have:=g.lt
       rw[hb,hu] at this
       unfold SP.fp at this
       have h2:2*G.L*b<2*G.L*(a+1):=by rw[Nat.mul_add];omega
       have:=Nat.lt_of_mul_lt_mul_left h2
       omega
     · exact c.uniq l ht v' p' hv he hv' (UInt64.toNat_inj.1 h1)
 obtain⟨k1,k2,k3,k4,k5⟩:=key
 refine⟨by rw[k2];exact G.leaf_lt w h _,ai.wm,fun l ht v' p' he hv'=>?_,ai.uniq,?_⟩
 · obtain⟨g,hg⟩:=ai.good l ht v' p' he hv'
   refine⟨⟨by have:=g.lt;omega,g.val,g.kind,g.ht⟩,fun hm=>?_⟩
   rw[List.map_append] at hm
   rcases List.mem_append.1 hm with h1|h1
   · exact hg h1
   · simp only[List.map_cons,List.map_nil,List.mem_singleton] at h1
     exact k5 l ht v' p' he hv' h1
 · refine⟨?_,fun x hx=>?_,fun i x hi=>?_,fun i x hi=>?_⟩
   · rw[List.map_append]
     rw[List.nodup_append]
     refine⟨ai.gone.nodup,by simp,fun x hx y hy=>?_⟩
     simp only[List.map_cons,List.map_nil,List.mem_singleton] at hy
     subst hy
     exact fun e=>k4 (e▸hx)
   · rcases List.mem_append.1 hx with h1|h1
     · have:=ai.gone.lt x h1;omega
     · simp only[List.mem_singleton] at h1;rw[h1];exact k1
   · rcases Nat.lt_or_ge i S.gone.length with h1|h1
     · rw[List.getElem?_append_left h1] at hi;exact ai.gone.val i x hi
     · rw[List.getElem?_append_right h1] at hi
       have hi0:i-S.gone.length=0:=by
         rcases Nat.eq_zero_or_pos (i-S.gone.length) with h2|h2
         · exact h2
         · rw[List.getElem?_eq_none (by simp;omega)] at hi;cases hi
       rw[hi0] at hi
       simp only[List.getElem?_cons_zero,Option.some.injEq] at hi
       have:i=G.L*a+(G.L-1-h):=by omega
       rw[this,hmod,hlev,←hi];exact k2
   · rcases Nat.lt_or_ge i S.gone.length with h1|h1
     · rw[List.getElem?_append_left h1] at hi;exact ai.gone.kind i x hi
     · rw[List.getElem?_append_right h1] at hi
       have hi0:i-S.gone.length=0:=by
         rcases Nat.eq_zero_or_pos (i-S.gone.length) with h2|h2
         · exact h2
         · rw[List.getElem?_eq_none (by simp;omega)] at hi;cases hi
       rw[hi0] at hi
       simp only[List.getElem?_cons_zero,Option.some.injEq] at hi
       have:i=G.L*a+(G.L-1-h):=by omega
       rw[this,hmod,hlev,hdiv,←hi];exact k3
theorem dget_set (d:Dat) (j:Nat) (x y:UInt64) (i:Nat):dget ((d.setIfInBounds j x).setIfInBounds (j+1) y) i=if i=j+1∧i<8 then y else if i=j∧i<8 then x else dget d i:=by
 unfold dget
 by_cases h:i<8
 · simp only[Vector.getElem?_setIfInBounds]
   by_cases c1:i=j+1
   · subst c1;simp[h]
   · by_cases c2:i=j
     · subst c2;simp[h]
     · rw[if_neg (fun e=>c1 e.symm),if_neg (fun e=>c2 e.symm),if_neg (fun e=>c1 e.1),if_neg (fun e=>c2 e.1)]
 · rw[if_neg (fun e=>h e.2),if_neg (fun e=>h e.2)]
   simp[h]
theorem dget_dat0 (i:Nat):dget dat0 i=0:=by
 unfold dget dat0
 by_cases h:i<8
 · simp[h]
 · simp[h]
theorem part_ok (o:G.Ok) {u0 u h q1:Nat} (hh:h+1<G.L) (hq1:q1<4) (hub:G.fp u h<2 ^ 63) {a:Nat} (hu:u=u0+2*G.L*a) {S:SSt} (ai:AI G w u0 (G.fp u (h+1)+2) S) {id:UInt64} (hid:id.toNat≤2147483648) {fr to:Nat} (hf:fr<2 ^ (G.lp (h+1)).k) (ht:to<2 ^ (G.lp (h+1)).k) :
   AI G w u0 (G.fp u h+1) (G.acc (h+1) (.part (2*q1) (UInt64.ofNat (G.leaf w h (G.fp u h)+1)) (UInt64.ofNat (G.fp u h))) id fr to S) ∧
   Car G w u0 (G.fp u h+1) h (G.acc (h+1) (.part (2*q1) (UInt64.ofNat (G.leaf w h (G.fp u h)+1)) (UInt64.ofNat (G.fp u h))) id fr to S) (dget (G.old (h+1) id fr S).1 (2*q1)) (dget (G.old (h+1) id fr S).1 (2*q1+1)):=by
 have hfp:G.fp u h=G.fp u (h+1)+2:=by unfold SP.fp;omega
 have hw:=ai.wm (h+1) hh
 have lo:=o.lev (h+1)
 generalize hnv:UInt64.ofNat (G.leaf w h (G.fp u h)+1)=nv
 generalize hnp:UInt64.ofNat (G.fp u h)=np
 have env:nv.toNat=G.leaf w h (G.fp u h)+1:=by rw[←hnv];exact leafW_toNat o _ _
 have enp:np.toNat=G.fp u h:=by rw[←hnp];exact placeW_toNat hub
 obtain⟨φ,f1,f2,f3⟩:=lev_map lo (op:= .part (2*q1) nv np) (id:=id) (to:=to) hw hf ht hid
 generalize hM':levM (G.lp (h+1)) (.part (2*q1) nv np) id fr to (G.lv (h+1) S.R)=M' at *
 have eR:(G.acc (h+1) (.part (2*q1) nv np) id fr to S).R=lput (G.base (h+1)) S.R M':=by rw[←hM'];rfl
 have eg:(G.acc (h+1) (.part (2*q1) nv np) id fr to S).gone=S.gone:=rfl
 have own:∀ {r i},r<3→G.lv (h+1) (lput (G.base (h+1)) S.R M') r i=M' r i:=fun hr=>lview_lput_same hr
 have hold:G.old (h+1) id fr S=(dat0,false)∨∃ps,ps<(G.lp (h+1)).m∧isB (spotC (G.lp (h+1)) fr (G.lv (h+1) S.R) ps)=true∧(spotC (G.lp (h+1)) fr (G.lv (h+1) S.R) ps)[1]=id∧G.old (h+1) id fr S=(cdat (spotC (G.lp (h+1)) fr (G.lv (h+1) S.R) ps),true):=seek_mem _
 have cases_:∀l ht v p,Ent G (lput (G.base (h+1)) S.R M') l ht v p→v≠0 →
     (Ent G S.R l ht v p∧∀r i q,l≠.blk (h+1) r i q) ∨
     (∃r i q q0,l= .blk (h+1) r i q∧φ r i=some q0∧vpos (G.lp (h+1)) r i∧isB (M' r i)=true∧Ent G S.R (.blk (h+1) q0.1 q0.2 q) ht v p∧((∃p,p<(G.lp (h+1)).m∧spot (G.lp (h+1)) fr p=q0)→(G.lv (h+1) S.R q0.1 q0.2)[1]≠id)) ∨
     (∃r i q ps,l= .blk (h+1) r i q∧φ r i=none∧vpos (G.lp (h+1)) r i∧isB (M' r i)=true∧ps<(G.lp (h+1)).m∧Ent G S.R (.blk (h+1) (spot (G.lp (h+1)) fr ps).1 (spot (G.lp (h+1)) fr ps).2 q) ht v p∧(spotC (G.lp (h+1)) fr (G.lv (h+1) S.R) ps)[1]=id∧q≠q1) ∨
     (∃r i,l= .blk (h+1) r i q1∧φ r i=none∧vpos (G.lp (h+1)) r i∧isB (M' r i)=true∧v=nv∧p=np∧ht=h):=by
   intro l ht v p he hv
   cases l with
   | top x =>
     left
     refine⟨?_,fun _ _ _ e=>by cases e⟩
     obtain⟨e1,e2,e3,e4⟩:=he
     have hx:lput (G.base (h+1)) S.R M' G.f x=S.R G.f x:=lput_out (by unfold SP.base;omega)
     rw[hx] at e3 e4
     exact⟨e1,e2,e3,e4⟩
   | blk h' r i q =>
     obtain⟨e1,e2,e3,e4,e5,e6,e7⟩:=he
     have hr:=vpos_lt e3
     by_cases hh':h'=h+1
     · subst hh'
       rw[own hr] at e4 e6 e7
       cases hφ:φ r i with
       | some q0 =>
         right;left
         obtain⟨g1,g2,g3,g4⟩:=f2 r i q0 e3 e4 hφ
         rw[g3] at e6 e7
         exact⟨r,i,q,q0,rfl,hφ,e3,e4,⟨e1,e2,g1,g2,e5,e6,e7⟩,g4⟩
       | none =>
         obtain⟨d,g1,g2⟩:=f1 r i e3 e4 hφ
         have g1:some (((G.old (h+1) id fr S).1.setIfInBounds (2*q1) nv).setIfInBounds (2*q1+1) np)=some d:=g1
         rw[g2,←Option.some.inj g1,dget_set] at e6 e7
         by_cases hq:q=q1
         · right;right;right
           subst hq
           rw[if_neg (by omega),if_pos (by omega)] at e6
           rw[if_pos (by omega)] at e7
           exact⟨r,i,rfl,hφ,e3,e4,e6,e7,by omega⟩
         · right;right;left
           rw[if_neg (by omega),if_neg (by omega)] at e6 e7
           rcases hold with ho|⟨ps,p1,p2,p3,p4⟩
           · rw[ho,dget_dat0] at e6;exact absurd e6 hv
           · rw[p4] at e6 e7
             exact⟨r,i,q,ps,rfl,hφ,e3,e4,p1,⟨e1,e2,spot_vpos lo hf p1,p2,e5,e6,e7⟩,p3,hq⟩
     · left
       rw[lv_other (fun e=>hh' e.symm) hr] at e4 e6 e7
       exact⟨⟨e1,e2,e3,e4,e5,e6,e7⟩,fun _ _ _ e=>by cases e;exact hh' rfl⟩
 have goodOld:∀ {l ht v p},Ent G S.R l ht v p→v≠0→Good1 G w u0 (G.fp u h+1) ht v p∧p.toNat∉S.gone.map (·.2)∧p.toNat<G.fp u h:=fun he hv=>by
   obtain⟨g,hg⟩:=ai.good _ _ _ _ he hv
   have:=g.lt
   exact⟨⟨by omega,g.val,g.kind,g.ht⟩,hg,by omega⟩
 have goodNew:Good1 G w u0 (G.fp u h+1) h nv np:=⟨by omega,by rw[env,enp],⟨a,by rw[enp,hu]⟩,by omega⟩
 have newNot:np.toNat∉S.gone.map (·.2):=fun hm=>by
   obtain⟨x,hx,e⟩:=List.mem_map.1 hm
   have:=ai.gone.lt x hx
   have e:x.2=np.toNat:=e
   omega
 refine⟨⟨fun h' hh'=>?_,fun l ht' v p he hv=>?_,fun l ht' v p l' ht'' v' p' he he' hv hv' hp=>?_,?_⟩,⟨fun hv=>?_,fun l ht' v' p' hv he hv' hp=>?_⟩⟩
 · rw[eR]
   by_cases e:h+1=h'
   · subst e
     have:=levM_wm lo (op:= .part (2*q1) nv np) hw hf ht hid
     rw[hM'] at this
     exact this.congr fun r i hr=>own hr
   · exact(ai.wm h' hh').congr fun r i hr=>lv_other e hr
 · rw[eR] at he;rw[eg]
   rcases cases_ l ht' v p he hv with ⟨c,_⟩|⟨r,i,q,q0,_,_,_,_,c,_⟩|⟨r,i,q,ps,_,_,_,_,_,c,_⟩|⟨r,i,_,_,_,_,e1,e2,e3⟩
   · exact⟨(goodOld c hv).1,(goodOld c hv).2.1⟩
   · exact⟨(goodOld c hv).1,(goodOld c hv).2.1⟩
   · exact⟨(goodOld c hv).1,(goodOld c hv).2.1⟩
   · rw[e1,e2,e3];exact⟨goodNew,newNot⟩
 · rw[eR] at he he'
   rcases cases_ l ht' v p he hv with ⟨c,n⟩|⟨r,i,q,q0,rfl,c1,c2,c3,c,c4⟩|⟨r,i,q,ps,rfl,c1,c2,c3,c4,c,c5,c6⟩|⟨r,i,rfl,c1,c2,c3,e1,e2,e3⟩
   · rcases cases_ l' ht'' v' p' he' hv' with ⟨d,n'⟩|⟨r',i',q',q0',rfl,d1,d2,d3,d,d4⟩|⟨r',i',q',ps',rfl,d1,d2,d3,d4,d,d5,d6⟩|⟨r',i',rfl,d1,d2,d3,g1,g2,g3⟩
     · exact ai.uniq _ _ _ _ _ _ _ _ c d hv hv' hp
     · exact absurd (ai.uniq _ _ _ _ _ _ _ _ c d hv hv' hp) (n _ _ _)
     · exact absurd (ai.uniq _ _ _ _ _ _ _ _ c d hv hv' hp) (n _ _ _)
     · have:=(goodOld c hv).2.2
       rw[hp,g2] at this;omega
   · rcases cases_ l' ht'' v' p' he' hv' with ⟨d,n'⟩|⟨r',i',q',q0',rfl,d1,d2,d3,d,d4⟩|⟨r',i',q',ps',rfl,d1,d2,d3,d4,d,d5,d6⟩|⟨r',i',rfl,d1,d2,d3,g1,g2,g3⟩
     · exact absurd (ai.uniq _ _ _ _ _ _ _ _ d c hv' hv hp.symm) (n' _ _ _)
     · have e:=ai.uniq _ _ _ _ _ _ _ _ c d hv hv' hp
       injection e with _ e1 e2 e3
       have:=f3 r i r' i' c2 d2 c3 d3 (by rw[c1,d1];exact congrArg some (Prod.ext e1 e2))
       rw[this.1,this.2,e3]
     · have e:=ai.uniq _ _ _ _ _ _ _ _ c d hv hv' hp
       injection e with _ e1 e2 e3
       refine absurd d5 ?_
       have:=c4 ⟨ps',d4,(Prod.ext e1 e2).symm⟩
       rw[e1,e2] at this;exact this
     · have:=(goodOld c hv).2.2
       rw[hp,g2] at this;omega
   · rcases cases_ l' ht'' v' p' he' hv' with ⟨d,n'⟩|⟨r',i',q',q0',rfl,d1,d2,d3,d,d4⟩|⟨r',i',q',ps',rfl,d1,d2,d3,d4,d,d5,d6⟩|⟨r',i',rfl,d1,d2,d3,g1,g2,g3⟩
     · exact absurd (ai.uniq _ _ _ _ _ _ _ _ d c hv' hv hp.symm) (n' _ _ _)
     · have e:=ai.uniq _ _ _ _ _ _ _ _ c d hv hv' hp
       injection e with _ e1 e2 e3
       refine absurd c5 ?_
       have:=d4 ⟨ps,c4,Prod.ext e1 e2⟩
       rw[←e1,←e2] at this;exact this
     · have e:=ai.uniq _ _ _ _ _ _ _ _ c d hv hv' hp
       injection e with _ e1 e2 e3
       have:=f3 r i r' i' c2 d2 c3 d3 (by rw[c1,d1])
       rw[this.1,this.2,e3]
     · have:=(goodOld c hv).2.2
       rw[hp,g2] at this;omega
   · rcases cases_ l' ht'' v' p' he' hv' with ⟨d,n'⟩|⟨r',i',q',q0',rfl,d1,d2,d3,d,d4⟩|⟨r',i',q',ps',rfl,d1,d2,d3,d4,d,d5,d6⟩|⟨r',i',rfl,d1,d2,d3,g1,g2,g3⟩
     · have:=(goodOld d hv').2.2
       rw[←hp,e2] at this;omega
     · have:=(goodOld d hv').2.2
       rw[←hp,e2] at this;omega
     · have:=(goodOld d hv').2.2
       rw[←hp,e2] at this;omega
     · have:=f3 r i r' i' c2 d2 c3 d3 (by rw[c1,d1])
       rw[this.1,this.2]
 · rw[eg]
   exact⟨ai.gone.nodup,fun x hx=>by have:=ai.gone.lt x hx;omega,ai.gone.val,ai.gone.kind⟩
 · rw[eg]
   rcases hold with ho|⟨ps,p1,p2,p3,p4⟩
   · rw[ho,dget_dat0] at hv;exact absurd rfl hv
   · rw[p4] at hv ⊢
     have he:Ent G S.R (.blk (h+1) (spot (G.lp (h+1)) fr ps).1 (spot (G.lp (h+1)) fr ps).2 q1) h _ _:=⟨hh,rfl,spot_vpos lo hf p1,p2,hq1,rfl,rfl⟩
     exact⟨(goodOld he hv).1,(goodOld he hv).2.1⟩
 · rw[eR] at he
   rcases hold with ho|⟨ps,p1,p2,p3,p4⟩
   · rw[ho,dget_dat0] at hv;exact absurd rfl hv
   · rw[p4] at hv hp
     have he0:Ent G S.R (.blk (h+1) (spot (G.lp (h+1)) fr ps).1 (spot (G.lp (h+1)) fr ps).2 q1) h _ _:=⟨hh,rfl,spot_vpos lo hf p1,p2,hq1,rfl,rfl⟩
     rcases cases_ l ht' v' p' he hv' with ⟨d,n'⟩|⟨r',i',q',q0',rfl,d1,d2,d3,d,d4⟩|⟨r',i',q',ps',rfl,d1,d2,d3,d4,d,d5,d6⟩|⟨r',i',rfl,d1,d2,d3,g1,g2,g3⟩
     · exact absurd (ai.uniq _ _ _ _ _ _ _ _ d he0 hv' hv hp) (n' _ _ _)
     · have e:=ai.uniq _ _ _ _ _ _ _ _ d he0 hv' hv hp
       injection e with _ e1 e2 e3
       refine absurd p3 ?_
       have:=d4 ⟨ps,p1,(Prod.ext e1 e2).symm⟩
       rw[e1,e2] at this;exact this
     · have e:=ai.uniq _ _ _ _ _ _ _ _ d he0 hv' hv hp
       injection e with _ e1 e2 e3
       exact d6 e3
     · have e:=g2.symm.trans hp
       have h0:np.toNat<G.fp u h:=by rw[e];exact(goodOld he0 hv).2.2
       omega
end Go.Sh
/- A store's access: what holds always behind it. -/
namespace Go.Sh
variable {G:SP} {w:Nat→UInt64}
theorem zero_ok (o:G.Ok) {u0 ub:Nat} {S:SSt} (ai:AI G w u0 ub S) {op:LOp} {id:UInt64} (hid:id.toNat≤2147483648) {fr to:Nat} (hf:fr<2 ^ (G.lp 0).k) (ht:to<2 ^ (G.lp 0).k) :
   AI G w u0 ub (G.acc 0 op id fr to S):=by
 have hw:=ai.wm 0 (by have:=o.L;omega)
 have lo:=o.lev 0
 generalize hM':levM (G.lp 0) op id fr to (G.lv 0 S.R)=M' at *
 have eR:(G.acc 0 op id fr to S).R=lput (G.base 0) S.R M':=by rw[←hM'];rfl
 have eg:(G.acc 0 op id fr to S).gone=S.gone:=rfl
 have old:∀ {l ht v p},Ent G (lput (G.base 0) S.R M') l ht v p→Ent G S.R l ht v p:=by
   intro l ht v p he
   cases l with
   | top x =>
     obtain⟨e1,e2,e3,e4⟩:=he
     have hx:lput (G.base 0) S.R M' G.f x=S.R G.f x:=lput_out (by unfold SP.base;omega)
     rw[hx] at e3 e4
     exact⟨e1,e2,e3,e4⟩
   | blk h' r i q =>
     obtain⟨e1,e2,e3,e4,e5,e6,e7⟩:=he
     have hr:=vpos_lt e3
     rw[lv_other (by omega) hr] at e4 e6 e7
     exact⟨e1,e2,e3,e4,e5,e6,e7⟩
 refine⟨fun h' hh'=>?_,fun l ht' v p he hv=>?_,fun l ht' v p l' ht'' v' p' he he' hv hv' hp=>?_,?_⟩
 · rw[eR]
   by_cases e:0=h'
   · subst e
     have:=levM_wm lo (op:=op) hw hf ht hid
     rw[hM'] at this
     exact this.congr fun r i hr=>lview_lput_same hr
   · exact(ai.wm h' hh').congr fun r i hr=>lv_other e hr
 · rw[eR] at he;rw[eg];exact ai.good _ _ _ _ (old he) hv
 · rw[eR] at he he';exact ai.uniq _ _ _ _ _ _ _ _ (old he) (old he') hv hv' hp
 · rw[eg];exact ai.gone
theorem fp_top (G:SP) (u:Nat):G.fp u (G.L-1)=u:=by unfold SP.fp;omega
def SP.begin (G:SP) (w:Nat→UInt64) (xt:Nat) (S:SSt):SSt :=
 { S with R:=set2 S.R (G.f,xt) (topC (UInt64.ofNat (G.leaf w (G.L-1) (G.fp S.used (G.L-1))+1)) (UInt64.ofNat (G.fp S.used (G.L-1)))),used:=S.used+2*G.L }
theorem start_ok (o:G.Ok) {u0 a:Nat} {S:SSt} (hu:S.used=u0+2*G.L*a) (hub:S.used<2 ^ 63) (ai:AI G w u0 S.used S) {xt:Nat} (hx:xt<G.top) :
   AI G w u0 (G.fp S.used (G.L-1)+1) (G.begin w xt S)∧Car G w u0 (G.fp S.used (G.L-1)+1) (G.L-1) (G.begin w xt S) (S.R G.f xt)[0] (S.R G.f xt)[1]:=by
 have hL:=o.L
 have ef:=fp_top G S.used
 generalize hnv:UInt64.ofNat (G.leaf w (G.L-1) (G.fp S.used (G.L-1))+1)=nv
 generalize hnp:UInt64.ofNat (G.fp S.used (G.L-1))=np
 have env:nv.toNat=G.leaf w (G.L-1) (G.fp S.used (G.L-1))+1:=by rw[←hnv];exact leafW_toNat o _ _
 have enp:np.toNat=S.used:=by rw[←hnp,ef];exact placeW_toNat hub
 have eR:(G.begin w xt S).R=set2 S.R (G.f,xt) (topC nv np):=by rw[←hnv,←hnp];rfl
 have eg:(G.begin w xt S).gone=S.gone:=rfl
 have hlv:∀h r i,G.lv h (set2 S.R (G.f,xt) (topC nv np)) r i=G.lv h S.R r i:=fun h r i=>by
   unfold SP.lv lview set2
   rw[if_neg (fun e=>by have:=e.1;unfold SP.base at this;omega)]
 have cases_:∀l ht v p,Ent G (set2 S.R (G.f,xt) (topC nv np)) l ht v p→(Ent G S.R l ht v p∧l≠.top xt)∨(l= .top xt∧v=nv∧p=np∧ht+1=G.L):=by
   intro l ht v p he
   cases l with
   | top x =>
     obtain⟨e1,e2,e3,e4⟩:=he
     by_cases c:x=xt
     · subst c
       have e:set2 S.R (G.f,x) (topC nv np) G.f x=topC nv np:=by unfold set2;rw[if_pos ⟨rfl,rfl⟩]
       rw[e] at e3 e4
       exact .inr ⟨rfl,e3,e4,e2⟩
     · have e:set2 S.R (G.f,xt) (topC nv np) G.f x=S.R G.f x:=by unfold set2;rw[if_neg (fun h=>c h.2)]
       rw[e] at e3 e4
       exact .inl ⟨⟨e1,e2,e3,e4⟩,fun h=>by cases h;exact c rfl⟩
   | blk h' r i q =>
     obtain⟨e1,e2,e3,e4,e5,e6,e7⟩:=he
     rw[hlv] at e4 e6 e7
     exact .inl ⟨⟨e1,e2,e3,e4,e5,e6,e7⟩,fun h=>by cases h⟩
 have goodOld:∀ {l ht v p},Ent G S.R l ht v p→v≠0→Good1 G w u0 (S.used+1) ht v p∧p.toNat∉S.gone.map (·.2)∧p.toNat<S.used:=fun he hv=>by
   obtain⟨g,hg⟩:=ai.good _ _ _ _ he hv
   have:=g.lt
   exact⟨⟨by omega,g.val,g.kind,g.ht⟩,hg,this⟩
 have goodNew:Good1 G w u0 (S.used+1) (G.L-1) nv np:=⟨by omega,by rw[env,enp,ef],⟨a,by rw[enp,←hu,ef]⟩,by omega⟩
 have newNot:np.toNat∉S.gone.map (·.2):=fun hm=>by
   obtain⟨x,hx,e⟩:=List.mem_map.1 hm
   have:=ai.gone.lt x hx
   have e:x.2=np.toNat:=e
   omega
 rw[ef]
 have heOld:Ent G S.R (.top xt) (G.L-1) (S.R G.f xt)[0] (S.R G.f xt)[1]:=⟨hx,by omega,rfl,rfl⟩
 refine⟨⟨fun h' hh'=>?_,fun l ht' v p he hv=>?_,fun l ht' v p l' ht'' v' p' he he' hv hv' hp=>?_,?_⟩,⟨fun hv=>?_,fun l ht' v' p' hv he hv' hp=>?_⟩⟩
 · rw[eR];exact(ai.wm h' hh').congr fun r i _=>hlv h' r i
 · rw[eR] at he;rw[eg]
   rcases cases_ l ht' v p he with ⟨c,_⟩|⟨_,e1,e2,e3⟩
   · exact⟨(goodOld c hv).1,(goodOld c hv).2.1⟩
   · rw[e1,e2,show ht'=G.L-1 by omega];exact⟨goodNew,newNot⟩
 · rw[eR] at he he'
   rcases cases_ l ht' v p he with ⟨c,n⟩|⟨rfl,e1,e2,e3⟩
   · rcases cases_ l' ht'' v' p' he' with ⟨d,n'⟩|⟨rfl,g1,g2,g3⟩
     · exact ai.uniq _ _ _ _ _ _ _ _ c d hv hv' hp
     · have:=(goodOld c hv).2.2
       rw[hp,g2] at this;omega
   · rcases cases_ l' ht'' v' p' he' with ⟨d,n'⟩|⟨rfl,g1,g2,g3⟩
     · have:=(goodOld d hv').2.2
       rw[←hp,e2] at this;omega
     · rfl
 · rw[eg];exact⟨ai.gone.nodup,fun x hx=>by have:=ai.gone.lt x hx;omega,ai.gone.val,ai.gone.kind⟩
 · rw[eg];exact⟨(goodOld heOld hv).1,(goodOld heOld hv).2.1⟩
 · rw[eR] at he
   rcases cases_ l ht' v' p' he with ⟨d,n'⟩|⟨rfl,g1,g2,g3⟩
   · exact n' (ai.uniq _ _ _ _ _ _ _ _ d heOld hv' hv hp)
   · have:=(goodOld heOld hv).2.2
     rw[←hp,g2] at this;omega
theorem goDn_ok (o:G.Ok) {u0 a u:Nat} (hu:u=u0+2*G.L*a) (hub:u+2*G.L<2 ^ 63) {op:LOp} {x:Nat} (hx:x<2 ^ G.m):∀h v p S,h<G.L→AI G w u0 (G.fp u h+1) S→Car G w u0 (G.fp u h+1) h S v p→S.gone.length=G.L*a+(G.L-1-h) →
   AI G w u0 (u+2*G.L) (goDn G w u op x h v p S).1∧(goDn G w u op x h v p S).1.gone.length=G.L*(a+1)∧(goDn G w u op x h v p S).1.used=S.used
 | 0,v,p,S,hh,ai,c,hlen=>by
   obtain⟨h1,h2⟩:=way_ok o hu hh ai c hlen
   have:=zero_ok o h2 (op:=op) (id:=bid x 0) (to:=G.leaf w 0 (G.fp u 0)) (bid_toNat o hx).2 h1 (G.leaf_lt w 0 _)
   have e:G.fp u 0+2=u+2*G.L:=by unfold SP.fp;omega
   rw[e] at this
   refine⟨this,?_,rfl⟩
   show(S.gone++[_]).length=_
   rw[List.length_append,hlen,Nat.mul_succ];simp;omega
 | h+1,v,p,S,hh,ai,c,hlen=>by
   obtain⟨h1,h2⟩:=way_ok o hu hh ai c hlen
   have hb:G.fp u h<2 ^ 63:=by unfold SP.fp;omega
   obtain⟨p1,p2⟩:=part_ok o hh (q1:=x/4 ^ (h+1-1)%4) (Nat.mod_lt _ (by decide)) hb hu h2 (id:=bid x (h+1)) (to:=G.leaf w (h+1) (G.fp u (h+1))) (bid_toNat o hx).2 h1 (G.leaf_lt w (h+1) _)
   exact goDn_ok o hu hub hx h _ _ _ (by omega) p1 p2 (by show(S.gone++[_]).length=_;rw[List.length_append,hlen];simp;omega)
theorem stAcc_ok (o:G.Ok) {u0 a:Nat} {S:SSt} (hu:S.used=u0+2*G.L*a) (hub:S.used+2*G.L<2 ^ 63) (ai:AI G w u0 S.used S) (hg:S.gone.length=G.L*a) {op:LOp} {x:Nat} (hx:x<2 ^ G.m) (hxt:x/4 ^ (G.L-1)<G.top) :
   AI G w u0 (S.used+2*G.L) (stAcc G w op x S).1∧(stAcc G w op x S).1.gone.length=G.L*(a+1)∧(stAcc G w op x S).1.used=S.used+2*G.L:=by
 have hL:=o.L
 obtain⟨s1,s2⟩:=start_ok o hu (by omega) ai hxt
 obtain⟨g1,g2,g3⟩:=goDn_ok o hu hub (op:=op) hx (G.L-1) _ _ _ (by omega) s1 s2 (by show S.gone.length=_;omega)
 exact⟨g1,g2,g3⟩
end Go.Sh
/- A store while no block is lost: what is told of blocks, and which ways are gone. -/
namespace Go.Sh
variable {G:SP} {w:Nat→UInt64}
abbrev Blks:=Nat→UInt64→Option (Nat×Dat)
abbrev Ways:=Nat→UInt64→UInt64×UInt64
def told (G:SP) (R:Regs) (Bs:Blks) (h:Nat) (id:UInt64):UInt64×UInt64 :=
 if h+1=G.L then ((R G.f id.toNat)[0],(R G.f id.toNat)[1]) else
 match Bs (h+1) (UInt64.ofNat (id.toNat/4)) with
 | some (_,d)=>(dget d (2*(id.toNat%4)),dget d (2*(id.toNat%4)+1))
 | none=>(0,0)
structure NI (G:SP) (S:SSt) (Bs:Blks) (K:Ways) (A:UInt64→Option Dat):Prop where
 li:∀h,h<G.L→LI (G.lp h) (G.lv h S.R) (Bs h)
 tl:∀h id,h<G.L→told G S.R Bs h id=K h id
 lk:∀h id leaf d,h<G.L→Bs h id=some (leaf,d)→(K h id).1.toNat=leaf+1
 ab:∀id,(Bs 0 id).map (·.2)=A id
 mt:∀h id,h<G.L→Bs h id≠none→id∈S.ids h
def newWay (G:SP) (w:Nat→UInt64) (u h:Nat):UInt64×UInt64:=(UInt64.ofNat (G.leaf w h (G.fp u h)+1),UInt64.ofNat (G.fp u h))
def kupd (G:SP) (w:Nat→UInt64) (u x:Nat) (K:Ways) (h:Nat):Ways:=fun h' id=>if id=bid x h'∧h≤h' then newWay G w u h' else K h' id
def wayOf (G:SP) (w:Nat→UInt64) (u x:Nat) (K:Ways) (h:Nat):Nat×Nat:=way (K h (bid x h)).1 (K h (bid x h)).2 (G.leaf w h (G.fp u h+1),G.fp u h+1)
structure NIc (G:SP) (w:Nat→UInt64) (u x h:Nat) (S:SSt) (Bs:Blks) (K:Ways) (A:UInt64→Option Dat):Prop where
 li:∀h,h<G.L→LI (G.lp h) (G.lv h S.R) (Bs h)
 tl:∀h' id,h'<G.L→told G S.R Bs h' id=kupd G w u x K h h' id
 lk:∀h' id leaf d,h'<G.L→¬(h'=h∧id=bid x h)→Bs h' id=some (leaf,d)→(kupd G w u x K h h' id).1.toNat=leaf+1
 cr:∀leaf d,Bs h (bid x h)=some (leaf,d)→(K h (bid x h)).1.toNat=leaf+1
 ab:∀id,(Bs 0 id).map (·.2)=A id
 mt:∀h id,h<G.L→Bs h id≠none→id∈S.ids h
theorem goDn_over (op:LOp) (u x:Nat):∀h v p S h',h<h'→(goDn G w u op x h v p S).1.over h'=S.over h'∧(goDn G w u op x h v p S).1.ids h'=S.ids h'
 | 0,v,p,S,h',hh=>by
   have hne:h'≠0:=by omega
   exact⟨by show(if h'=0 then _ else S.over h')=_;rw[if_neg hne],by show(if h'=0 then _ else S.ids h')=_;rw[if_neg hne]⟩
 | h+1,v,p,S,h',hh=>by
   have hne:h'≠h+1:=by omega
   obtain⟨h1,h2⟩:=goDn_over op u x h (dget (G.old (h+1) (bid x (h+1)) (way v p (G.leaf w (h+1) (G.fp u (h+1)+1),G.fp u (h+1)+1)).1 { S with gone:=S.gone++[way v p (G.leaf w (h+1) (G.fp u (h+1)+1),G.fp u (h+1)+1)] }).1 (2*(x/4 ^ h%4))) (dget (G.old (h+1) (bid x (h+1)) (way v p (G.leaf w (h+1) (G.fp u (h+1)+1),G.fp u (h+1)+1)).1 { S with gone:=S.gone++[way v p (G.leaf w (h+1) (G.fp u (h+1)+1),G.fp u (h+1)+1)] }).1 (2*(x/4 ^ h%4)+1))
     (G.acc (h+1) (.part (2*(x/4 ^ h%4)) (UInt64.ofNat (G.leaf w h (G.fp u h)+1)) (UInt64.ofNat (G.fp u h))) (bid x (h+1)) (way v p (G.leaf w (h+1) (G.fp u (h+1)+1),G.fp u (h+1)+1)).1 (G.leaf w (h+1) (G.fp u (h+1))) { S with gone:=S.gone++[way v p (G.leaf w (h+1) (G.fp u (h+1)+1),G.fp u (h+1)+1)] }) h' (by omega)
   refine⟨h1.trans ?_,h2.trans ?_⟩
   · show(if h'=h+1 then _ else S.over h')=_;rw[if_neg hne]
   · show(if h'=h+1 then _ else S.ids h')=_;rw[if_neg hne]
theorem bid_div {x h:Nat} (o:G.Ok) (hx:x<2 ^ G.m):UInt64.ofNat ((bid x h).toNat/4)=bid x (h+1)∧(bid x h).toNat%4=x/4 ^ h%4:=by
 have h1:=(bid_toNat o hx (h:=h)).1
 rw[h1]
 refine⟨?_,rfl⟩
 unfold bid
 rw[Nat.pow_succ,←Nat.div_div_eq_div_mul]
theorem meets_mem {op:LOp} {id:UInt64} {l:List UInt64}:∀ {y},y∈l→y∈meets op id l:=by
 intro y hy
 cases op<;>simp only[meets]
 · exact hy
 · split
   · exact hy
   · exact List.mem_append_left _ hy
 · split
   · exact hy
   · exact List.mem_append_left _ hy
 · exact hy
theorem meets_now {op:LOp} {id:UInt64} {l:List UInt64} {old:Dat} {there:Bool} (ht:there=true→id∈l) (h:op.now old there≠none):id∈meets op id l:=by
 cases op with
 | look =>
   cases there with
   | true=>exact ht rfl
   | false=>simp[LOp.now] at h
 | put d=>simp only[meets];split
          · assumption
          · simp
 | part a x y=>simp only[meets];split
               · assumption
               · simp
 | drop=>simp[LOp.now] at h
def bset (Bs:Blks) (h:Nat) (id:UInt64) (v:Option (Nat×Dat)):Blks:=fun h' z=>if h'=h∧z=id then v else Bs h' z
theorem bset_ne {Bs:Blks} {h h':Nat} {id z:UInt64} {v:Option (Nat×Dat)} (hn:¬(h'=h∧z=id)):bset Bs h id v h' z=Bs h' z:=if_neg hn
theorem bset_eq {Bs:Blks} {h h':Nat} {id z:UInt64} {v:Option (Nat×Dat)} (hn:h'=h∧z=id):bset Bs h id v h' z=v:=if_pos hn
theorem acc_step (o:G.Ok) {h:Nat} (hh:h<G.L) {S:SSt} {Bs:Blks} {op:LOp} {id:UInt64} (hid:id.toNat≤2147483648) {fr to:Nat} (hf:fr<2 ^ (G.lp h).k) (ht:to<2 ^ (G.lp h).k)
   (li:∀h,h<G.L→LI (G.lp h) (G.lv h S.R) (Bs h)) (mt:∀h id,h<G.L→Bs h id≠none→id∈S.ids h) (hw:∀leaf d,Bs h id=some (leaf,d)→leaf=fr)
   (fin:(G.acc h op id fr to S).over h=false∨(S.over h=false∧((G.acc h op id fr to S).ids h).length≤G.t)) :
   (G.acc h op id fr to S).over h=false∧G.old h id fr S=(match Bs h id with|some (_,d)=>(d,true)|none=>(dat0,false)) ∧
   (∀h',h'<G.L→LI (G.lp h') (G.lv h' (G.acc h op id fr to S).R) (bset Bs h id ((op.now (G.old h id fr S).1 (G.old h id fr S).2).map (fun d=>(to,d))) h')) ∧
   (∀h' z,h'<G.L→bset Bs h id ((op.now (G.old h id fr S).1 (G.old h id fr S).2).map (fun d=>(to,d))) h' z≠none→z∈(G.acc h op id fr to S).ids h'):=by
 have lo:=o.lev h
 have l:=li h hh
 have hold:G.old h id fr S=_:=lev_old lo l hf hw
 have eo:(G.acc h op id fr to S).over h=(S.over h||levLost (G.lp h) op id fr to (G.lv h S.R)):=by show(if h=h then _ else _)=_;rw[if_pos rfl]
 have ei:(G.acc h op id fr to S).ids h=meets op id (S.ids h):=by show(if h=h then _ else _)=_;rw[if_pos rfl]
 have hthere:(G.old h id fr S).2=true→id∈S.ids h:=fun ht=>by
   refine mt h id hh fun hn=>?_
   rw[hold,hn] at ht;cases ht
 have lost:levLost (G.lp h) op id fr to (G.lv h S.R)=false∧S.over h=false:=by
   rcases fin with hf0|⟨h0,hl⟩
   · rw[eo] at hf0
     rw[Bool.or_eq_false_iff] at hf0
     exact⟨hf0.2,hf0.1⟩
   · refine⟨lev_few lo l hf ht hid (meets op id (S.ids h)) (by rw[←ei];exact hl) (fun x hx=>meets_mem (mt h x hh hx)) (fun hn=>meets_now hthere hn),h0⟩
 have lnew:=lev_li lo l hf ht hid hw lost.1
 refine⟨by rw[eo,lost.1,lost.2];rfl,hold,fun h' hh'=>?_,fun h' z hh' hz=>?_⟩
 · by_cases c:h'=h
   · subst c
     have e:bset Bs h' id ((op.now (G.old h' id fr S).1 (G.old h' id fr S).2).map (fun d=>(to,d))) h'=fun x=>if x=id then (op.now (levOld (G.lp h') id fr (G.lv h' S.R)).1 (levOld (G.lp h') id fr (G.lv h' S.R)).2).map (fun d=>(to,d)) else Bs h' x:=by
       funext z
       by_cases c:z=id
       · rw[bset_eq ⟨rfl,c⟩,if_pos c];rfl
       · rw[bset_ne (fun h=>c h.2),if_neg c]
     rw[e]
     exact lnew.congr fun r i hr=>lview_lput_same hr
   · have e:bset Bs h id ((op.now (G.old h id fr S).1 (G.old h id fr S).2).map (fun d=>(to,d))) h'=Bs h':=by
       funext z;rw[bset_ne (fun h=>c h.1)]
     rw[e]
     exact(li h' hh').congr fun r i hr=>lv_other (fun e=>c e.symm) hr
 · by_cases c:h'=h
   · subst c
     rw[ei]
     by_cases c2:z=id
     · subst c2
       rw[bset_eq ⟨rfl,rfl⟩] at hz
       exact meets_now hthere fun hn=>hz (by rw[hn];rfl)
     · rw[bset_ne (fun h=>c2 h.2)] at hz
       exact meets_mem (mt h' z hh' hz)
   · rw[bset_ne (fun h=>c h.1)] at hz
     show z∈(if h'=h then _ else S.ids h')
     rw[if_neg c];exact mt h' z hh' hz
def outA (A:UInt64→Option Dat) (id:UInt64):Dat×Bool:=match A id with|some d=>(d,true)|none=>(dat0,false)
theorem kupd_down {u x h h':Nat} {K:Ways} {id:UInt64} (hn:¬(h'=h∧id=bid x h)):kupd G w u x K h h' id=kupd G w u x K (h+1) h' id:=by
 unfold kupd
 by_cases c:id=bid x h'∧h≤h'
 · have:h+1≤h':=by
     rcases Nat.eq_or_lt_of_le c.2 with e|e
     · exact absurd ⟨e.symm,by rw[e];exact c.1⟩ hn
     · exact e
   rw[if_pos c,if_pos ⟨c.1,this⟩]
 · rw[if_neg c,if_neg fun h2=>c ⟨h2.1,by omega⟩]
theorem kupd_up {u x h:Nat} {K:Ways}:kupd G w u x K (h+1) h (bid x h)=K h (bid x h):=by
 unfold kupd;rw[if_neg (by omega)]
theorem kupd_new {u x h h':Nat} {K:Ways} (hh:h≤h'):kupd G w u x K h h' (bid x h')=newWay G w u h':=by
 unfold kupd;rw[if_pos ⟨rfl,hh⟩]
theorem newWay_leaf (o:G.Ok) (u h:Nat):(newWay G w u h).1.toNat=G.leaf w h (G.fp u h)+1:=leafW_toNat o h _
theorem way_leaf {v p:UInt64} {sp:Nat×Nat} {leaf:Nat} (h:v.toNat=leaf+1):leaf=(way v p sp).1:=by
 unfold way
 rw[if_neg (fun e=>by rw[e] at h;simp at h)]
 show leaf=v.toNat-1
 omega
theorem told_acc {h:Nat} {op:LOp} {id:UInt64} {fr to:Nat} {S:SSt} (x:Nat):(G.acc h op id fr to S).R G.f x=S.R G.f x :=
 lput_out (by unfold SP.base;omega)
theorem goDn_ni (o:G.Ok) {u0 a u:Nat} (hu:u=u0+2*G.L*a) (hub:u+2*G.L<2 ^ 63) {op:LOp} {x:Nat} (hx:x<2 ^ G.m) {K:Ways} {A:UInt64→Option Dat}:∀h S Bs,h<G.L→AI G w u0 (G.fp u h+1) S→Car G w u0 (G.fp u h+1) h S (K h (bid x h)).1 (K h (bid x h)).2→S.gone.length=G.L*a+(G.L-1-h) →
   NIc G w u x h S Bs K A →
   ((∀h',h'≤h→(goDn G w u op x h (K h (bid x h)).1 (K h (bid x h)).2 S).1.over h'=false)∨(∀h',h'≤h→S.over h'=false∧((goDn G w u op x h (K h (bid x h)).1 (K h (bid x h)).2 S).1.ids h').length≤G.t)) →
   ∃Bs',NI G (goDn G w u op x h (K h (bid x h)).1 (K h (bid x h)).2 S).1 Bs' (kupd G w u x K 0) (fun id=>if id=bid x 0 then op.now (outA A id).1 (outA A id).2 else A id)∧(goDn G w u op x h (K h (bid x h)).1 (K h (bid x h)).2 S).2=outA A (bid x 0) ∧
    (goDn G w u op x h (K h (bid x h)).1 (K h (bid x h)).2 S).1.gone=S.gone++(List.range (h+1)).map (fun i=>wayOf G w u x K (h-i))∧∀h',h'≤h→(goDn G w u op x h (K h (bid x h)).1 (K h (bid x h)).2 S).1.over h'=false
 | 0,S,Bs,hh,ai,c,hlen,n,fin=>by
   obtain⟨h1,h2⟩:=way_ok o hu hh ai c hlen
   generalize hfr:way (K 0 (bid x 0)).1 (K 0 (bid x 0)).2 (G.leaf w 0 (G.fp u 0+1),G.fp u 0+1)=fr at *
   have hgo:goDn G w u op x 0 (K 0 (bid x 0)).1 (K 0 (bid x 0)).2 S=(G.acc 0 op (bid x 0) fr.1 (G.leaf w 0 (G.fp u 0)) { S with gone:=S.gone++[fr] },G.old 0 (bid x 0) fr.1 { S with gone:=S.gone++[fr] }):=by rw[←hfr];rfl
   rw[hgo] at fin ⊢
   have hw:∀leaf d,Bs 0 (bid x 0)=some (leaf,d)→leaf=fr.1:=fun leaf d e=>by rw[←hfr];exact way_leaf (n.cr leaf d e)
   obtain⟨a1,a2,a3,a4⟩:=acc_step o hh (S:={ S with gone:=S.gone++[fr] }) (op:=op) (id:=bid x 0) (bid_toNat o hx).2 h1 (G.leaf_lt w 0 (G.fp u 0)) n.li n.mt hw (fin.imp (fun f=>f 0 (Nat.le_refl _)) fun f=>f 0 (Nat.le_refl _))
   have eA:outA A (bid x 0)=G.old 0 (bid x 0) fr.1 { S with gone:=S.gone++[fr] }:=by
     rw[a2];unfold outA;rw[←n.ab]
     cases Bs 0 (bid x 0)<;>rfl
   refine⟨_,⟨a3,fun h' id hh'=>?_,fun h' id leaf d hh' he=>?_,fun id=>?_,a4⟩,eA.symm,?_,fun h' hh'=>?_⟩
   · rw[←n.tl h' id hh']
     unfold told
     by_cases c:h'+1=G.L
     · rw[if_pos c,if_pos c,told_acc]
     · rw[if_neg c,if_neg c,bset_ne (by omega)]
   · by_cases c:h'=0∧id=bid x 0
     · rw[bset_eq c] at he
       obtain⟨y,_,e⟩:=Option.map_eq_some_iff.1 he
       have e:=(Prod.mk.inj e).1
       rw[c.1,c.2,kupd_new (Nat.le_refl _),newWay_leaf o,←e]
     · rw[bset_ne c] at he
       exact n.lk h' id leaf d hh' c he
   · by_cases c:id=bid x 0
     · subst c
       rw[bset_eq ⟨rfl,rfl⟩,if_pos rfl,eA]
       cases op.now (G.old 0 (bid x 0) fr.1 { S with gone:=S.gone++[fr] }).1 (G.old 0 (bid x 0) fr.1 { S with gone:=S.gone++[fr] }).2<;>rfl
     · rw[bset_ne (fun h=>c h.2),if_neg c];exact n.ab id
   · show S.gone++[fr]=_
     simp[wayOf,hfr]
   · have:h'=0:=by omega
     subst this;exact a1
 | h+1,S,Bs,hh,ai,c,hlen,n,fin=>by
   obtain⟨h1,h2⟩:=way_ok o hu hh ai c hlen
   have hb:G.fp u h<2 ^ 63:=by unfold SP.fp;omega
   have hqq:x/4 ^ h%4<4:=Nat.mod_lt _ (by decide)
   obtain⟨bd1,bd2⟩:=bid_div (h:=h) o hx
   obtain⟨p1,p2⟩:=part_ok o hh hqq hb hu h2 (id:=bid x (h+1)) (to:=G.leaf w (h+1) (G.fp u (h+1))) (bid_toNat o hx).2 h1 (G.leaf_lt w (h+1) _)
   generalize hfr:way (K (h+1) (bid x (h+1))).1 (K (h+1) (bid x (h+1))).2 (G.leaf w (h+1) (G.fp u (h+1)+1),G.fp u (h+1)+1)=fr at *
   generalize hq:x/4 ^ h%4=q at *
   have hw:∀leaf d,Bs (h+1) (bid x (h+1))=some (leaf,d)→leaf=fr.1:=fun leaf d e=>by rw[←hfr];exact way_leaf (n.cr leaf d e)
   have hgo:goDn G w u op x (h+1) (K (h+1) (bid x (h+1))).1 (K (h+1) (bid x (h+1))).2 S =
       goDn G w u op x h (dget (G.old (h+1) (bid x (h+1)) fr.1 { S with gone:=S.gone++[fr] }).1 (2*q)) (dget (G.old (h+1) (bid x (h+1)) fr.1 { S with gone:=S.gone++[fr] }).1 (2*q+1)) (G.acc (h+1) (.part (2*q) (UInt64.ofNat (G.leaf w h (G.fp u h)+1)) (UInt64.ofNat (G.fp u h))) (bid x (h+1)) fr.1 (G.leaf w (h+1) (G.fp u (h+1))) { S with gone:=S.gone++[fr] }):=by
     rw[←hfr,←hq];rfl
   rw[hgo] at fin ⊢
   have ov:=fun v p=>goDn_over (G:=G) (w:=w) op u x h v p (G.acc (h+1) (.part (2*q) (UInt64.ofNat (G.leaf w h (G.fp u h)+1)) (UInt64.ofNat (G.fp u h))) (bid x (h+1)) fr.1 (G.leaf w (h+1) (G.fp u (h+1))) { S with gone:=S.gone++[fr] }) (h+1) (by omega)
   obtain⟨a1,a2,a3,a4⟩:=acc_step o hh (S:={ S with gone:=S.gone++[fr] }) (op:= .part (2*q) (UInt64.ofNat (G.leaf w h (G.fp u h)+1)) (UInt64.ofNat (G.fp u h))) (id:=bid x (h+1)) (bid_toNat o hx).2 h1 (G.leaf_lt w (h+1) (G.fp u (h+1))) n.li n.mt hw
     (fin.imp (fun f=>(ov _ _).1.symm.trans (f (h+1) (Nat.le_refl _))) fun f=>⟨(f (h+1) (Nat.le_refl _)).1,by rw[←(ov _ _).2];exact(f (h+1) (Nat.le_refl _)).2⟩)
   generalize hold:G.old (h+1) (bid x (h+1)) fr.1 { S with gone:=S.gone++[fr] }=old at *
   have hcar:dget old.1 (2*q)=(K h (bid x h)).1∧dget old.1 (2*q+1)=(K h (bid x h)).2:=by
     have ht:=n.tl h (bid x h) (by omega)
     rw[kupd_up] at ht
     unfold told at ht
     rw[if_neg (by omega),bd1,bd2] at ht
     rw[a2,←ht]
     cases Bs (h+1) (bid x (h+1)) with
     | none=>exact⟨dget_dat0 _,dget_dat0 _⟩
     | some y=>exact⟨rfl,rfl⟩
   rw[hcar.1,hcar.2] at fin p2 ⊢
   have dno:∀z,(G.acc (h+1) (.part (2*q) (UInt64.ofNat (G.leaf w h (G.fp u h)+1)) (UInt64.ofNat (G.fp u h))) (bid x (h+1)) fr.1 (G.leaf w (h+1) (G.fp u (h+1))) { S with gone:=S.gone++[fr] }).over z=if z=h+1 then false else S.over z:=fun z=>by
     by_cases c:z=h+1
     · rw[if_pos c,c];exact a1
     · rw[if_neg c];show(if z=h+1 then _ else S.over z)=_;rw[if_neg c]
   have nic:NIc G w u x h (G.acc (h+1) (.part (2*q) (UInt64.ofNat (G.leaf w h (G.fp u h)+1)) (UInt64.ofNat (G.fp u h))) (bid x (h+1)) fr.1 (G.leaf w (h+1) (G.fp u (h+1))) { S with gone:=S.gone++[fr] }) (bset Bs (h+1) (bid x (h+1)) ((LOp.now (.part (2*q) (UInt64.ofNat (G.leaf w h (G.fp u h)+1)) (UInt64.ofNat (G.fp u h))) old.1 old.2).map (fun d=>(G.leaf w (h+1) (G.fp u (h+1)),d)))) K A:=by
     refine⟨a3,fun h' id hh'=>?_,fun h' id leaf d hh' hne he=>?_,fun leaf d he=>?_,fun id=>?_,a4⟩
     · unfold told
       by_cases cL:h'+1=G.L
       · have:=n.tl h' id hh'
         unfold told at this
         rw[if_pos cL] at this ⊢
         rw[told_acc,kupd_down (by omega)]
         exact this
       · have ho:=n.tl h' id hh'
         unfold told at ho
         rw[if_neg cL] at ho ⊢
         by_cases cp:h'+1=h+1∧UInt64.ofNat (id.toNat/4)=bid x (h+1)
         · have eh:h'=h:=by omega
           subst eh
           rw[bset_eq cp]
           have hid4:id.toNat/4=x/4 ^ (h'+1):=by
             have:=congrArg UInt64.toNat cp.2
             rw[(bid_toNat o hx).1,UInt64.toNat_ofNat'] at this
             have:=id.toNat_lt
             omega
           show(dget ((old.1.setIfInBounds (2*q) _).setIfInBounds (2*q+1) _) (2*(id.toNat%4)),dget ((old.1.setIfInBounds (2*q) _).setIfInBounds (2*q+1) _) (2*(id.toNat%4)+1))=_
           rw[dget_set,dget_set]
           by_cases cq:id.toNat%4=q
           · have hidx:id=bid x h':=by
               apply UInt64.toNat_inj.1
               rw[(bid_toNat o hx).1]
               have e4:x/4 ^ (h'+1)=x/4 ^ h'/4:=by rw[Nat.pow_succ,←Nat.div_div_eq_div_mul]
               omega
             rw[hidx,kupd_new (Nat.le_refl _),←hidx,if_neg (by omega),if_pos (by omega),if_pos (by omega)]
             rfl
           · have hidx:¬(h'=h'∧id=bid x h'):=fun e=>cq (by rw[e.2,bd2])
             rw[kupd_down hidx,if_neg (by omega),if_neg (by omega),if_neg (by omega),if_neg (by omega),←ho,cp.2,a2]
             cases Bs (h'+1) (bid x (h'+1)) with
             | none=>exact Prod.ext (dget_dat0 _) (dget_dat0 _)
             | some y=>rfl
         · rw[bset_ne cp,ho]
           refine(kupd_down ?_).symm
           rintro⟨rfl,rfl⟩
           exact cp ⟨rfl,bd1⟩
     · by_cases c:h'=h+1∧id=bid x (h+1)
       · rw[bset_eq c] at he
         obtain⟨y,_,e⟩:=Option.map_eq_some_iff.1 he
         have e:=(Prod.mk.inj e).1
         rw[c.1,c.2,kupd_new (by omega),newWay_leaf o,←e]
       · rw[bset_ne c] at he
         rw[kupd_down hne]
         exact n.lk h' id leaf d hh' c he
     · rw[bset_ne (by omega)] at he
       have:=n.lk h (bid x h) leaf d (by omega) (by omega) he
       rw[kupd_up] at this;exact this
     · rw[bset_ne (by omega)];exact n.ab id
   obtain⟨Bs',r1,r2,r3,r4⟩:=goDn_ni o hu hub (op:=op) hx (K:=K) (A:=A) h _ _ (by omega) p1 p2 (by show(S.gone++[_]).length=_;rw[List.length_append,hlen];simp;omega) nic
     (fin.imp (fun f h' hh'=>f h' (by omega)) fun f h' hh'=>⟨by rw[dno,if_neg (by omega)];exact(f h' (by omega)).1,(f h' (by omega)).2⟩)
   refine⟨Bs',r1,r2,?_,fun h' hh'=>?_⟩
   · have e1:(List.range (h+1+1)).map (fun i=>wayOf G w u x K (h+1-i))=fr::(List.range (h+1)).map (fun i=>wayOf G w u x K (h-i)):=by
       have e2:wayOf G w u x K (h+1)=fr:=hfr
       rw[List.range_succ_eq_map,List.map_cons,List.map_map,Nat.sub_zero,e2]
       refine congrArg (fr::·) (List.map_congr_left fun i _=>?_)
       show wayOf G w u x K (h+1-(i+1))=_
       rw[show h+1-(i+1)=h-i by omega]
     rw[r3,e1]
     show S.gone++[fr]++_=_
     rw[List.append_assoc];rfl
   · by_cases c:h'=h+1
     · subst c;rw[(ov _ _).1];exact a1
     · exact r4 h' (by omega)
theorem stAcc_ni (o:G.Ok) {u0 a:Nat} {S:SSt} (hu:S.used=u0+2*G.L*a) (hub:S.used+2*G.L<2 ^ 63) (ai:AI G w u0 S.used S) (hg:S.gone.length=G.L*a) {op:LOp} {x:Nat} (hx:x<2 ^ G.m) (hxt:x/4 ^ (G.L-1)<G.top) {Bs:Blks} {K:Ways} {A:UInt64→Option Dat} (n:NI G S Bs K A)
   (fin:(∀h,h<G.L→(stAcc G w op x S).1.over h=false)∨(∀h,h<G.L→S.over h=false∧((stAcc G w op x S).1.ids h).length≤G.t)) :
   ∃Bs',NI G (stAcc G w op x S).1 Bs' (kupd G w S.used x K 0) (fun id=>if id=bid x 0 then op.now (outA A id).1 (outA A id).2 else A id)∧(stAcc G w op x S).2=outA A (bid x 0) ∧
    (stAcc G w op x S).1.gone=S.gone++(List.range G.L).map (fun i=>wayOf G w S.used x K (G.L-1-i))∧∀h,h<G.L→(stAcc G w op x S).1.over h=false:=by
 have hL:=o.L
 obtain⟨s1,s2⟩:=start_ok o hu (by omega) ai hxt
 have hbt:=(bid_toNat o hx (h:=G.L-1)).1
 have hlv:∀(c:Cel) h r i,G.lv h (set2 S.R (G.f,x/4 ^ (G.L-1)) c) r i=G.lv h S.R r i:=fun c h r i=>by
   unfold SP.lv lview set2
   rw[if_neg (fun e=>by have:=e.1;unfold SP.base at this;omega)]
 have hk:K (G.L-1) (bid x (G.L-1))=((S.R G.f (x/4 ^ (G.L-1)))[0],(S.R G.f (x/4 ^ (G.L-1)))[1]):=by
   rw[←n.tl (G.L-1) _ (by omega)]
   unfold told
   rw[if_pos (by omega),hbt]
 have hst:stAcc G w op x S=goDn G w S.used op x (G.L-1) (K (G.L-1) (bid x (G.L-1))).1 (K (G.L-1) (bid x (G.L-1))).2 (G.begin w (x/4 ^ (G.L-1)) S):=by rw[hk];rfl
 rw[hst] at fin ⊢
 have hkc:∀h' id,¬(h'=G.L-1∧id=bid x (G.L-1))→h'<G.L→kupd G w S.used x K (G.L-1) h' id=K h' id:=fun h' id hn hh=>by
   unfold kupd;rw[if_neg]
   rintro⟨c1,c2⟩
   have:h'=G.L-1:=by omega
   exact hn ⟨this,by rw[c1,this]⟩
 have nic:NIc G w S.used x (G.L-1) (G.begin w (x/4 ^ (G.L-1)) S) Bs K A:=by
   refine⟨fun h hh=>(n.li h hh).congr fun r i _=>hlv _ h r i,fun h' id hh'=>?_,fun h' id leaf d hh' hne he=>?_,fun leaf d he=>n.lk _ _ leaf d (by omega) he,n.ab,n.mt⟩
   · have ho:=n.tl h' id hh'
     by_cases c:h'=G.L-1∧id=bid x (G.L-1)
     · rw[c.1,c.2,kupd_new (Nat.le_refl _)]
       unfold told
       rw[if_pos (by omega),hbt]
       have:(G.begin w (x/4 ^ (G.L-1)) S).R G.f (x/4 ^ (G.L-1))=topC (newWay G w S.used (G.L-1)).1 (newWay G w S.used (G.L-1)).2:=by
         show set2 S.R _ _ G.f _=_
         unfold set2;rw[if_pos ⟨rfl,rfl⟩];rfl
       rw[this];rfl
     · rw[hkc h' id c hh',←ho]
       unfold told
       by_cases cL:h'+1=G.L
       · rw[if_pos cL,if_pos cL]
         have hne:id.toNat≠x/4 ^ (G.L-1):=fun e=>c ⟨by omega,UInt64.toNat_inj.1 (by rw[hbt,e])⟩
         have:(G.begin w (x/4 ^ (G.L-1)) S).R G.f id.toNat=S.R G.f id.toNat:=by
           show set2 S.R _ _ G.f _=_
           unfold set2;rw[if_neg (fun h=>hne h.2)]
         rw[this]
       · rw[if_neg cL,if_neg cL]
   · rw[hkc h' id hne hh']
     exact n.lk h' id leaf d hh' he
 have s2':Car G w u0 (G.fp S.used (G.L-1)+1) (G.L-1) (G.begin w (x/4 ^ (G.L-1)) S) (K (G.L-1) (bid x (G.L-1))).1 (K (G.L-1) (bid x (G.L-1))).2:=by rw[hk];exact s2
 obtain⟨Bs',r1,r2,r3,r4⟩:=goDn_ni o hu hub (op:=op) hx (K:=K) (A:=A) (G.L-1) _ _ (by omega) s1 s2' (by show S.gone.length=_;omega) nic
   (fin.imp (fun f h' hh'=>f h' (by omega)) fun f h' hh'=>f h' (by omega))
 refine⟨Bs',r1,r2,?_,fun h' hh'=>r4 h' (by omega)⟩
 rw[r3,show G.L-1+1=G.L by omega];rfl
theorem NI.zero {S:SSt} (hR:∀r i,S.R r i=cel0):NI G S (fun _ _=>none) (fun _ _=>(0,0)) (fun _=>none):=by
 refine⟨fun h _=>LI.zero fun r i _=>hR _ _,fun h id _=>?_,fun h id leaf d _ he=>(by cases he),fun _=>rfl,fun h id _ hn=>absurd rfl hn⟩
 unfold told
 split
 · rw[hR];rfl
 · rfl
theorem AI.zero {u0:Nat} {S:SSt} (hR:∀r i,S.R r i=cel0) (hg:S.gone=[]):AI G w u0 u0 S:=by
 refine⟨fun h _ r i _ hb=>?_,fun l ht v p he hv=>?_,fun l ht v p l' ht' v' p' he _ hv=>?_,?_⟩
 · have e:G.lv h S.R r i=cel0:=hR _ _
   rw[e,isB_cel0] at hb;cases hb
 · cases l with
   | top x=>obtain⟨_,_,e,_⟩:=he;rw[hR] at e;exact absurd e hv
   | blk h r i q =>
     obtain⟨_,_,_,hb,_⟩:=he
     have e:G.lv h S.R r i=cel0:=hR _ _
     rw[e,isB_cel0] at hb;cases hb
 · cases l with
   | top x=>obtain⟨_,_,e,_⟩:=he;rw[hR] at e;exact absurd e hv
   | blk h r i q =>
     obtain⟨_,_,_,hb,_⟩:=he
     have e:G.lv h S.R r i=cel0:=hR _ _
     rw[e,isB_cel0] at hb;cases hb
 · rw[hg];exact⟨List.nodup_nil,fun x hx=>(by cases hx),fun i x hi=>(by simp at hi),fun i x hi=>(by simp at hi)⟩
end Go.Sh

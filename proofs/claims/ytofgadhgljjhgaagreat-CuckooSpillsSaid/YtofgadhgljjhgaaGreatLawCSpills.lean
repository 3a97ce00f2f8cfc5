/- CuckooSpills. -/
import Derived.Test.YtofgadhgljjhgaaGreatRdL
import Derived.Test.YtofgadhgljjhgaaGreatCukT
namespace Go.Proofs.Tryz
open Go Go.Sh Go.RowKit
set_option maxRecDepth 8000
def nSp (a b:Nat):Int:=((4*(1+a)+16*b+2368:Nat):Int)
theorem nSp_w {a b:Nat} (ha:a<3) (hb:b<4):w64 (w64 (w64 (w64 (4*w64 (1+(a:Int)))+w64 (16*(b:Int)))+64)+2304)=nSp a b:=by
 unfold nSp
 rw[w64_id (n:=1+(a:Int)) (by omega) (by omega),w64_id (n:=4*(1+(a:Int))) (by omega) (by omega),w64_id (n:=16*(b:Int)) (by omega) (by omega),w64_id (n:=4*(1+(a:Int))+16*(b:Int)) (by omega) (by omega),w64_id (n:=4*(1+(a:Int))+16*(b:Int)+64) (by omega) (by omega),w64_id (by omega) (by omega)]
 omega
theorem nSp_gj {a b:Nat} (ha:a<3) (hb:b<4) (x:IxS):GJ (cG (nSp a b)) (xP (nSp a b) x)∧(xP (nSp a b) x).sp=1+b∧2≤(xP (nSp a b) x).K:=by
 have:a=0∨a=1∨a=2:=by omega
 have:b=0∨b=1∨b=2∨b=3:=by omega
 rcases ‹a=0∨_› with rfl|rfl|rfl<;>rcases ‹b=0∨_› with rfl|rfl|rfl|rfl<;>exact⟨⟨xP_cp _ x,rfl,rfl,by decide,rfl⟩,rfl,by show 2≤1+_;decide⟩
def belowM (i:Nat):UInt64→Option UInt64:=fun y=>if y.toNat<i then some (y+1) else none
theorem belowM_succ {i:Nat} (hi:i<1000):belowM (i+1)=fun y=>if y=UInt64.ofNat i then some (UInt64.ofNat i+1) else belowM i y:=by
 have e:(UInt64.ofNat i).toNat=i:=by rw[UInt64.toNat_ofNat'];omega
 funext y
 unfold belowM
 by_cases h:y=UInt64.ofNat i
 · subst h;rw[if_pos rfl,if_pos (by omega)]
 · have:y.toNat≠i:=fun h'=>h (UInt64.toNat_inj.1 (by rw[e];exact h'))
   rw[if_neg h]
   by_cases c:y.toNat<i
   · rw[if_pos c,if_pos (by omega)]
   · rw[if_neg c,if_neg (by omega)]
theorem key_up {y:Nat} (hy:y<1000):UInt64.ofNat y+1≠0:=fun h=>by
 have:=congrArg UInt64.toNat h
 rw[UInt64.toNat_add,UInt64.toNat_ofNat'] at this
 simp at this;omega
theorem lt_ofNat {i j:Nat} (hi:i<1000) (hj:j<1000):UInt64.ofNat i<UInt64.ofNat j↔i<j:=by
 rw[UInt64.lt_iff_toNat_lt,UInt64.toNat_ofNat',UInt64.toNat_ofNat']
 omega
theorem belowM_in {n y:Nat} (h:y<n) (hy:y<1000):belowM n (UInt64.ofNat y)=some (UInt64.ofNat y+1):=by
 unfold belowM;rw[if_pos (by rw[UInt64.toNat_ofNat'];omega)]
theorem law_cspills {h:Hp} {k s w:Int} (k1: -9223372036854775808≤k) (k2:k≤9223372036854775807) (s1: -9223372036854775808≤s) (s2:s≤9223372036854775807) (w1: -9223372036854775808≤w) (w2:w≤9223372036854775807) :
   callK prog 7 [.int .i64 k,.int .i64 s,.int .i64 w] h fun v h'=>v= .bool true∧Keep h h':=by
 refine c7 _ _ _ ?_
 unfold G7
 refine law_shown.to fun h1 kk1=>⟨_,rfl,ifB_neg rfl ((law_pick k1 k2 (n:=3) (by decide)).to fun h2 kk2=>⟨_,rfl,(law_pick s1 s2 (n:=4) (by decide)).to fun h3 kk3=>⟨_,rfl,?_⟩⟩)⟩
 have ha:=pickN_lt k (n:=3) (by decide)
 have hb:=pickN_lt s (n:=4) (by decide)
 rw[nSp_w ha hb]
 generalize pickN k 3=n1 at *
 generalize pickN s 4=n2 at *
 have lo: -9223372036854775808≤nSp n1 n2:=by unfold nSp;omega
 have hi:nSp n1 n2≤9223372036854775807:=by unfold nSp;omega
 have kk:=(kk1.trans kk2).trans kk3
 refine(law_made lo hi (RdS.nilS vu h3) (by decide)).mono ?_
 rintro _ h4 ⟨B,x,pk,pu,py,rfl,F,R,fB,k4⟩
 refine⟨some _,some _,some _,some _,some _,some _,_,rfl,newC fun b1 h5 f5 e5 k5=>?_⟩
 have f10:h3 b1=none:=k4.free f5
 refine stW (k4.trans k5) f10 e5 rfl fun h6 k6 e6 o6=>ifB_neg rfl ?_
 have R6:=R.loc F f5 k5 o6
 have nb1:¬SFo (cG (nSp n1 n2)) B nilS nilS b1:=R.r.out F.c.o f5
 have fB1:∀y,SFo (cG (nSp n1 n2)) B nilS nilS y→h3 y=none:=fun y hy=>fB y (.inl hy)
 obtain⟨gj,hsp,hK2⟩:=nSp_gj ha hb x
 have fj0:FJ (cG (nSp n1 n2)) (fun p=>([]:List UInt64).getD p 0) 0 S00:=⟨R.p,⟨_,_,_,NI.zero (fun _ _=>rfl)⟩,fun _ _=>rfl,(fun i hi=>by cases hi),List.nodup_nil⟩
 have ig0:IGood (cG (nSp n1 n2)) (xP (nSp n1 n2) x) S00 (belowM 0):=by
   have:belowM 0=fun _=>none:=by funext y;simp[belowM]
   rw[this];exact IGood.zero F.c fun _ _=>rfl
 have hspE:(xP (nSp n1 n2) x).sp=1+pickN ((nSp n1 n2).tdiv 16) 4:=rfl
 refine(law_shape lo hi).to fun h7 k7=>⟨_,_,_,rfl,?_⟩
 rw[←hspE]
 have hK:(xP (nSp n1 n2) x).K≤16:=F.K
 have R7:=R6.keep F k7
 have e7:=k7.get e6
 have k37:=k6.trans k7
 clear hspE R R6 e6 k6 k7 k4 k5 e5 o6 fB
 generalize cG (nSp n1 n2)=G at *
 generalize xP (nSp n1 n2) x=X at *
 have hN:w64 (((X.sp:Nat):Int)+2)=((X.sp+2:Nat):Int):=by rw[w64_id (by omega) (by omega)];omega
 rw[hN]
 have hsp4:X.sp≤4:=by omega
 let In:Nat→SSt→Nat→Hp→Prop:=fun a S z g=>∃(e:Nat) (ev:List Ev) (es gs:Sl),a≤z∧e≤z∧IRun G [] B X x a e S ev es gs g∧FJ G (fun p=>([]:List UInt64).getD p 0) a S∧¬SFo G B es gs b1∧g b1=some (.cells #[vpn (some ⟨B.m.b,0⟩),vpn (some ⟨B.sb,0⟩),vpn (some ⟨x.xb,0⟩),vpn (some pk),vpn (some pu),vpn (some py)] 32 (0,0))∧Keep h3 g∧(∀y,SFo G B es gs y→h3 y=none)
 have i0:In 0 S00 0 h7:=⟨0,[],nilS,nilS,by omega,by omega,R7,fj0,nb1,e7,k37,fB1⟩
 have over:∀ {a S},FJ G (fun p=>([]:List UInt64).getD p 0) a S→(List.range G.L).any S.over=false:=fun {a S} f=>by
   rw[List.any_eq_false]
   intro z hz
   have:=f.fine z (List.mem_range.1 hz)
   rw[this];simp
 refine⟨fun m q t n' g kk=>w=m∧(⟨b1,0⟩:Pt)=q∧((X.sp+2:Nat):Int)=t∧∃(i a:Nat) (S:SSt),n'=i∧i≤X.sp+2∧kk=X.sp+2-i∧In a S (100*i) g∧IGood G X S (belowM i),
   ⟨X.sp+2,rfl,rfl,rfl,0,0,_,rfl,by omega,rfl,i0,ig0⟩,?_⟩
 clear i0 ig0 fj0 R7 e7 k37 nb1 fB1
 rintro m q t n' g kk ⟨rfl,rfl,rfl,i,a,S,rfl,hi,rfl,hI,ig⟩
 obtain⟨e,ev,es,gs,ha',he',Rg,fj,nb,c1,kg,Fg⟩:=hI
 refine ifD (fun hlt=>?_) fun hge=>?_
 · have hi':i<X.sp+2:=by omega
   refine⟨some ⟨x.xb,0⟩,rd1 c1 rfl,?_⟩
   rw[toU_eq (by omega),w64_id (n:=(i:Int)+1) (by omega) (by omega)]
   have tU:toU ((i:Int)+1)=UInt64.ofNat i+1:=by
     have:((i:Int)+1)=((i+1:Nat):Int):=by omega
     rw[this,toU_eq (by omega)]
     apply UInt64.toNat_inj.1
     rw[UInt64.toNat_add,UInt64.toNat_ofNat',UInt64.toNat_ofNat'];simp
   rw[tU]
   have hMi:belowM i (UInt64.ofNat i)=none:=by
     unfold belowM;rw[UInt64.toNat_ofNat',if_neg (by omega)]
   refine(cuk_insert F Rg (by omega) (by omega) (UInt64.ofNat i) (UInt64.ofNat i+1) true).mono ?_
   rintro _ g3 ⟨ev3,es3,gs3,rfl,R3,v3⟩
   have fj3:=fj.ins gj (by omega) (UInt64.ofNat i) (UInt64.ofNat i+1) true
   have hd:(insS G (fun p=>([]:List UInt64).getD p 0) X (UInt64.ofNat i) (UInt64.ofNat i+1) true S).2=true:=by
     cases hc:(insS G (fun p=>([]:List UInt64).getD p 0) X (UInt64.ofNat i) (UInt64.ofNat i+1) true S).2 with
     | true=>rfl
     | false =>
       have:=ins_no gj fj.p (by omega) hK2 ig fj3.fine hc (L:=List.range i) fun k c hk=>by
         unfold belowM at hk
         split at hk
         · rename_i h;exact List.mem_range.2 h
         · cases hk
       rw[List.length_range] at this;omega
   obtain⟨ig3,_⟩:=ig_ins (w:=(fun p=>([]:List UInt64).getD p 0)) (key:=UInt64.ofNat i) (cell:=UInt64.ofNat i+1) (on:=true) F.c fj.p (by omega) ig (fun _=>hMi)
   rw[hd,Bool.true_and,if_pos rfl,←belowM_succ (by omega)] at ig3
   have e13:=v3.get c1 nb
   have n13:=v3.out (by rw[c1];simp) nb
   obtain⟨K3,F3⟩:=v3.keep kg Fg
   refine⟨true,congrArg Value.bool hd,ifB_neg rfl ⟨some ⟨B.sb,0⟩,rd1 e13 rfl,(store_over F.c.o R3.r).mono ?_⟩⟩
   rintro _ g4 ⟨rfl,rfl⟩
   refine⟨false,congrArg Value.bool (over fj3),ifB_neg rfl ⟨X.sp+2-(i+1),by omega,rfl,rfl,rfl,i+1,_,_,rfl,by omega,rfl,⟨_,ev3,es3,gs3,?_,?_,R3,fj3,n13,e13,K3,F3⟩,ig3⟩⟩<;>omega
 · have hil:i=X.sp+2:=by omega
   subst hil
   clear hge
   have hM9:belowM (X.sp+2) 99=none:=by unfold belowM;rw[if_neg (by show ¬99<_;omega)]
   refine⟨some ⟨x.xb,0⟩,rd1 c1 rfl,(cuk_insert F Rg (by omega) (by omega) 99 1 true).mono ?_⟩
   rintro _ g3 ⟨ev3,es3,gs3,rfl,R3,v3⟩
   have fj3:=fj.ins gj (by omega) 99 1 true
   obtain⟨ig3,_⟩:=ig_ins (w:=fun p=>([]:List UInt64).getD p 0) (key:=99) (cell:=1) (on:=true) F.c fj.p (by omega) ig (fun _=>hM9)
   have hd:(insS G (fun p=>([]:List UInt64).getD p 0) X 99 1 true S).2=false:=by
     cases hc:(insS G (fun p=>([]:List UInt64).getD p 0) X 99 1 true S).2 with
     | false=>rfl
     | true =>
       rw[hc,Bool.true_and,if_pos rfl] at ig3
       obtain⟨A,_,r,_⟩:=ig3 fj3.fine
       have n9:∀j,j<X.sp+2→UInt64.ofNat j≠99:=fun j hj=>ofNat_ne (i:=j) (j:=99) (by omega) (by decide) (by omega)
       have:=rep_few r gj.T (n:=X.sp+3) (ks:=fun j=>if j<X.sp+2 then UInt64.ofNat j else 99) (fun j hj=>by
         by_cases c:j<X.sp+2
         · simp only[if_pos c]
           exact⟨_,by rw[if_neg (n9 j c)];exact belowM_in c (by omega)⟩
         · simp only[if_neg c]
           exact⟨1,by simp⟩) fun j j' hj hj' he=>by
         by_cases c:j<X.sp+2<;>by_cases c':j'<X.sp+2
         · simp only[if_pos c,if_pos c'] at he
           exact ofNat_inj (by omega) (by omega) he
         · simp only[if_pos c,if_neg c'] at he;exact absurd he (n9 j c)
         · simp only[if_neg c,if_pos c'] at he;exact absurd he.symm (n9 j' c')
         · omega
       omega
   have hR:=ins_noR F.c fj.p (by omega) hd
   have e13:=v3.get c1 nb
   have n13:=v3.out (by rw[c1];simp) nb
   obtain⟨K3,F3⟩:=v3.keep kg Fg
   refine⟨false,congrArg Value.bool hd,ifB_neg rfl ⟨some ⟨B.m.b,0⟩,rd1 e13 rfl,(irun_count F R3 (by omega) (key:=0) (by decide) 0).mono ?_⟩⟩
   rintro _ g4 ⟨ev4,es4,rfl,R4,v4⟩
   refine⟨_,rfl,ifB_neg (by rw[hR.1,cntS_none hR.2];rfl) ?_⟩
   rw[hd] at ig3
   have e14:=v4.get e13 n13
   have n14:=v4.out (by rw[e13];simp) n13
   obtain⟨K4,F4⟩:=v4.keep K3 F3
   obtain⟨S3,fj3,ig3,R4⟩:∃S3,FJ G (fun p=>([]:List UInt64).getD p 0) (a+2*X.K) S3∧IGood G X S3 (belowM (X.sp+2))∧IRun G [] B X x (a+2*X.K) (e+2*X.K+2+1) S3 ev4 es4 gs3 g4:=⟨_,fj3,ig3,R4⟩
   clear hR hd R3 e13 n13 K3 F3 v3 v4 ig fj Rg c1 nb kg Fg
   refine(law_pick w1 w2 (n:=X.sp+2) (by omega)).to fun g5 k5=>⟨_,rfl,?_⟩
   have hpk:=pickN_lt w (n:=X.sp+2) (by omega)
   generalize pickN w (X.sp+2)=y at hpk ⊢
   have hky:UInt64.ofNat y+1≠0:=key_up (by omega)
   have e15:=k5.get e14
   have R5:=R4.keep F k5
   rw[toU_eq (by omega)]
   refine⟨some ⟨x.xb,0⟩,rd1 e15 rfl,(cuk_find F R5 (by omega) (by omega) (UInt64.ofNat y)).mono ?_⟩
   rintro _ g6 ⟨ev6,es6,gs6,rfl,R6,v6⟩
   have fj6:=fj3.find gj (by omega) (UInt64.ofNat y)
   obtain⟨_,iq6⟩:=ig_find F.c fj3.p (by omega) ig3 hky
   have ig7:=ig_rem F.c fj3.p (by omega) ig3 hky true
   obtain⟨t,at_,hs6,ht⟩:∃t at_,(findS G (fun p=>([]:List UInt64).getD p 0) X (UInt64.ofNat y) S3).2=(t,at_,UInt64.ofNat y+1)∧0≤t:=by
     rcases iq6 fj6.fine with ⟨v,t,at_,h1,h2,h3⟩|⟨h1,_⟩
     · rw[belowM_in hpk (by omega)] at h1;cases h1;exact⟨t,at_,h2,h3⟩
     · rw[belowM_in hpk (by omega)] at h1;cases h1
   rw[hs6] at ig7 ⊢
   have e16:=v6.get e15 n14
   have n16:=v6.out (by rw[e15];simp) n14
   obtain⟨K6,F6⟩:=v6.keep (K4.trans k5) F4
   refine⟨_,_,_,rfl,newC fun b2 h7 f7 e7 k7=>?_⟩
   refine stW (K6.trans k7) (K6.free f7) e7 rfl fun h8 k8 e8 o8=>?_
   have R8:=R6.loc F f7 k7 o8
   have d12:b1≠b2:=fun e=>by rw[←e,e16] at f7;cases f7
   have e18:h8 b1=_:=(o8 b1 d12).trans (k7.get e16)
   have nb2:¬SFo G B es6 gs6 b2:=R6.r.out F.c.o f7
   refine⟨some ⟨x.xb,0⟩,rd1 e18 rfl,_,rd1 e8 rfl,_,rd1 e8 rfl,_,rd1 e8 rfl,(cuk_remove F R8 (by omega) (by omega) (UInt64.ofNat y) t at_ (UInt64.ofNat y+1) true).mono ?_⟩
   rintro _ g9 ⟨ev9,es9,gs9,rfl,R9,v9⟩
   have fj9:=fj6.rem gj (by omega) (UInt64.ofNat y) t at_ true
   obtain⟨K9,F9⟩:=v9.keep k8 F6
   have e19:=v9.get e18 n16
   have n19:=v9.out (by rw[e18];simp) n16
   have e29:=v9.get e8 nb2
   have n29:=v9.out (by rw[e8];simp) nb2
   obtain⟨S5,fj9,ig9,R9⟩:∃S5,FJ G (fun p=>([]:List UInt64).getD p 0) (a+2*X.K+2+1) S5∧IGood G X S5 (fun z=>if z=UInt64.ofNat y then none else belowM (X.sp+2) z)∧IRun G [] B X x (a+2*X.K+2+1) (e+2*X.K+2+1+3+2) S5 ev9 es9 gs9 g9:=⟨_,fj9,ig7,R9⟩
   refine⟨rfl,some ⟨x.xb,0⟩,rd1 e19 rfl,(cuk_insert F R9 (by omega) (by omega) 99 77 true).mono ?_⟩
   rintro _ g10 ⟨ev10,es10,gs10,rfl,R10,v10⟩
   have fj10:=fj9.ins gj (by omega) 99 77 true
   have hd:(insS G (fun p=>([]:List UInt64).getD p 0) X 99 77 true S5).2=true:=by
     cases hc:(insS G (fun p=>([]:List UInt64).getD p 0) X 99 77 true S5).2 with
     | true=>rfl
     | false =>
       have:=ins_no gj fj9.p (by omega) hK2 ig9 fj10.fine hc (L:=(List.range (X.sp+2)).erase y) fun k c hk=>by
         split at hk
         · cases hk
         · rename_i hne
           unfold belowM at hk
           split at hk
           · rename_i h
             refine(List.mem_erase_of_ne fun e=>hne ?_).2 (List.mem_range.2 h)
             apply UInt64.toNat_inj.1;rw[UInt64.toNat_ofNat',←e];omega
           · cases hk
       rw[List.length_erase_of_mem (List.mem_range.2 hpk),List.length_range] at this;omega
   obtain⟨ig10,_⟩:=ig_ins (w:=fun p=>([]:List UInt64).getD p 0) (key:=99) (cell:=77) (on:=true) F.c fj9.p (by omega) ig9 (fun _=>by
     rw[if_neg (show ¬(99:UInt64)=UInt64.ofNat y from Ne.symm (ofNat_ne (i:=y) (j:=99) (by omega) (by decide) (by omega)))];exact hM9)
   rw[hd] at ig10
   obtain⟨K10,F10⟩:=v10.keep K9 F9
   have e110:=v10.get e19 n19
   have n110:=v10.out (by rw[e19];simp) n19
   have e210:=v10.get e29 n29
   have n210:=v10.out (by rw[e29];simp) n29
   let M:UInt64→Option UInt64:=fun z=>if z=99 then some 77 else if z=UInt64.ofNat y then none else belowM (X.sp+2) z
   obtain⟨S6,fj10,ig10,R10⟩:∃S6,FJ G (fun p=>([]:List UInt64).getD p 0) (a+2*X.K+2+1+2*X.K) S6∧IGood G X S6 M∧IRun G [] B X x (a+2*X.K+2+1+2*X.K) (e+2*X.K+2+1+3+2+2*X.K+2) S6 ev10 es10 gs10 g10:=⟨_,fj10,ig10,R10⟩
   refine⟨true,congrArg Value.bool hd,fun q2 n13 x5 q3 t7 x6 g kk=>(⟨b1,0⟩:Pt)=q2∧((X.sp+2:Nat):Int)=n13∧UInt64.ofNat y=x5∧(⟨b2,0⟩:Pt)=q3∧true=t7∧∃(j a e:Nat) (S:SSt) (ev:List Ev) (es gs:Sl),x6=UInt64.ofNat j∧j≤X.sp+2∧kk=X.sp+2-j∧a≤1000+10*j∧e≤1000+10*j∧IRun G [] B X x a e S ev es gs g∧FJ G (fun p=>([]:List UInt64).getD p 0) a S∧IGood G X S M∧¬SFo G B es gs b1∧¬SFo G B es gs b2∧g b1=some (.cells #[vpn (some ⟨B.m.b,0⟩),vpn (some ⟨B.sb,0⟩),vpn (some ⟨x.xb,0⟩),vpn (some pk),vpn (some pu),vpn (some py)] 32 (0,0))∧g b2=h8 b2∧Keep h3 g∧(∀y,SFo G B es gs y→h3 y=none),
     ⟨X.sp+2,rfl,rfl,rfl,rfl,rfl,0,_,_,S6,ev10,es10,gs10,rfl,by omega,rfl,?_,?_,R10,fj10,ig10,n110,n210,e110,e210.trans e8.symm,K10,F10⟩,?_⟩
   · omega
   · omega
   clear R10 fj10 ig10 n110 n210 e110 e210 K10 F10
   rintro q2 n13 x5 q3 t7 x6 g kk ⟨rfl,rfl,rfl,rfl,rfl,j,a,e,S,ev,es,gs,rfl,hj,rfl,ha,he,Rg,fj,ig,nb,nb2,c1,c2,kg,Fg⟩
   rw[toU_eq (by omega)]
   refine ifD (fun hlt=>?_) fun hge=>?_
   · have hj':j<X.sp+2:=(lt_ofNat (by omega) (by omega)).1 hlt
     refine⟨some ⟨x.xb,0⟩,rd1 c1 rfl,(cuk_find F Rg (by omega) (by omega) (UInt64.ofNat j)).mono ?_⟩
     rintro _ g3 ⟨ev3,es3,gs3,rfl,R3,v3⟩
     have fj3:=fj.find gj (by omega) (UInt64.ofNat j)
     obtain⟨ig3,iq3⟩:=ig_find F.c fj.p (by omega) ig (key_up (y:=j) (by omega))
     have e13:=v3.get c1 nb
     have n13:=v3.out (by rw[c1];simp) nb
     have c2':h8 b2≠none:=by rw[e8];simp
     have n23:=v3.out (by rw[c2];exact c2') nb2
     have e23:=(v3.2.1 b2 (by rw[c2];exact c2') nb2).trans c2
     obtain⟨K3,F3⟩:=v3.keep kg Fg
     have hMj:M (UInt64.ofNat j)=if j=y then none else some (UInt64.ofNat j+1):=by
       show(if UInt64.ofNat j=99 then some 77 else if UInt64.ofNat j=UInt64.ofNat y then none else belowM (X.sp+2) (UInt64.ofNat j))=_
       rw[if_neg (show ¬UInt64.ofNat j=99 from ofNat_ne (i:=j) (j:=99) (by omega) (by decide) (by omega)),belowM_in hj' (by omega)]
       by_cases c:j=y
       · rw[if_pos c,if_pos (by rw[c])]
       · rw[if_neg c,if_neg (ofNat_ne (by omega) (by omega) c)]
     have nx:∀(b3:Nat) (h7 h8':Hp),g3 b3=none→Keep g3 h7→(∀y,y≠b3→h8' y=h7 y)→Keep h3 h8'→∃k7,k7<X.sp+2-j∧((⟨b1,0⟩:Pt)=⟨b1,0⟩∧((X.sp+2:Nat):Int)=((X.sp+2:Nat):Int)∧UInt64.ofNat y=UInt64.ofNat y∧(⟨b2,0⟩:Pt)=⟨b2,0⟩∧true=true∧∃(j2 a e:Nat) (S:SSt) (ev:List Ev) (es gs:Sl),UInt64.ofNat j+1=UInt64.ofNat j2∧j2≤X.sp+2∧k7=X.sp+2-j2∧a≤1000+10*j2∧e≤1000+10*j2∧IRun G [] B X x a e S ev es gs h8'∧FJ G (fun p=>([]:List UInt64).getD p 0) a S∧IGood G X S M∧¬SFo G B es gs b1∧¬SFo G B es gs b2∧h8' b1=some (.cells #[vpn (some ⟨B.m.b,0⟩),vpn (some ⟨B.sb,0⟩),vpn (some ⟨x.xb,0⟩),vpn (some pk),vpn (some pu),vpn (some py)] 32 (0,0))∧h8' b2=h8 b2∧Keep h3 h8'∧(∀y,SFo G B es gs y→h3 y=none)):=fun b3 h7 h8' f7 k7 o8 k8=>by
       refine⟨X.sp+2-(j+1),by omega,rfl,rfl,rfl,rfl,rfl,j+1,_,_,_,ev3,es3,gs3,?_,by omega,rfl,?_,?_,R3.loc F f7 k7 o8,fj3,ig3,n13,n23,(o8 b1 fun e=>by rw[←e,e13] at f7;cases f7).trans (k7.get e13),?_,k8,F3⟩
       · apply UInt64.toNat_inj.1
         rw[UInt64.toNat_add,UInt64.toNat_ofNat',UInt64.toNat_ofNat'];simp
       · omega
       · omega
       · rw[o8 b2 fun e=>by rw[←e,e23] at f7;exact c2' f7,k7 b2 (by rw[e23];exact c2'),e23]
     rcases iq3 fj3.fine with ⟨v,t3,at3,h1,h2,h3'⟩|⟨h1,h2⟩
     · have hjy:j≠y:=fun c=>by rw[hMj,if_pos c] at h1;cases h1
       rw[hMj,if_neg hjy] at h1
       cases h1
       have hne:=ofNat_ne (i:=j) (j:=y) (by omega) (by omega) hjy
       rw[h2]
       refine⟨_,_,_,rfl,newC fun b3 h7 f7 e7 k7=>stW (K3.trans k7) (K3.free f7) e7 rfl fun h8' k8 e8' o8=>⟨_,rd1 e8' rfl,ifB_neg ?_ (ifB_pos ?_ ⟨_,rd1 e8' rfl,ifB_neg ?_ (nx b3 h7 h8' f7 k7 o8 k8)⟩)⟩⟩
       · rw[decide_eq_true h3',decide_eq_false hne];rfl
       · rw[decide_eq_false hne];rfl
       · rw[decide_eq_true rfl];rfl
     · have hjy:j=y:=by
         by_cases c:j=y
         · exact c
         · rw[hMj,if_neg c] at h1;cases h1
       rw[h2]
       refine⟨_,_,_,rfl,newC fun b3 h7 f7 e7 k7=>stW (K3.trans k7) (K3.free f7) e7 rfl fun h8' k8 e8' o8=>⟨_,rd1 e8' rfl,ifB_neg ?_ (ifB_neg ?_ (nx b3 h7 h8' f7 k7 o8 k8))⟩⟩
       · rw[hjy,decide_eq_true rfl];rfl
       · rw[hjy,decide_eq_true rfl];rfl
   · refine⟨_,rd1 (c2.trans e8) rfl,ifB_pos (decide_eq_true rfl) (ifB_pos rfl ⟨some ⟨x.xb,0⟩,rd1 c1 rfl,(cuk_find F Rg (by omega) (by omega) 99).mono ?_⟩)⟩
     rintro _ g3 ⟨ev3,es3,gs3,rfl,R3,v3⟩
     have fj3:=fj.find gj (by omega) 99
     obtain⟨_,iq3⟩:=ig_find F.c fj.p (by omega) ig (key:=99) (by decide)
     have e13:=v3.get c1 nb
     obtain⟨K3,F3⟩:=v3.keep kg Fg
     have hM:M 99=some 77:=if_pos rfl
     obtain⟨t3,at3,hs⟩:∃t3 at3,(findS G (fun p=>([]:List UInt64).getD p 0) X 99 S).2=(t3,at3,77):=by
       rcases iq3 fj3.fine with ⟨v,t3,at3,h1,h2,_⟩|⟨h1,_⟩
       · rw[hM] at h1;cases h1;exact⟨_,_,h2⟩
       · rw[hM] at h1;cases h1
     rw[hs]
     refine⟨_,_,_,rfl,ifB_pos rfl ⟨some ⟨B.sb,0⟩,rd1 e13 rfl,(store_over F.c.o R3.r).mono ?_⟩⟩
     rintro _ g4 ⟨rfl,rfl⟩
     exact⟨false,congrArg Value.bool (over fj3),rfl,kk.trans K3⟩
end Go.Proofs.Tryz

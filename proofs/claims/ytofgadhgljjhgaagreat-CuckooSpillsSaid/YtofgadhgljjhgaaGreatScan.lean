/- Tables that are looked at whole: scan.Get and scan.Put. -/
import Derived.Test.YtofgadhgljjhgaaGreatMem
import Derived.Test.YtofgadhgljjhgaaGreatEvC
namespace Go.Proofs.Tryz
open Go Go.Sh Go.RowKit
set_option maxRecDepth 8000
theorem toU_nat {i:Nat} (h:i<2 ^ 63):(toU (i:Int)).toNat=i:=by
 have e2:((toU (i:Int)).toNat:Int)=i:=toU_ok (by simp[uok];omega)
 omega
theorem toU_eq {i:Nat} (h:i<2 ^ 63):toU (i:Int)=UInt64.ofNat i:=by
 apply UInt64.toNat_inj.1
 rw[toU_nat h,UInt64.toNat_ofNat'];omega
theorem toU_beq {i:Nat} (h:i<2 ^ 63) (x:UInt64):(toU (i:Int)==x)=decide (i=x.toNat):=by
 rw[Bool.eq_iff_iff]
 simp only[beq_iff_eq,decide_eq_true_eq]
 constructor
 · rintro rfl;exact(toU_nat h).symm
 · intro e;apply UInt64.toNat_inj.1;rw[toU_nat h,e]
theorem set2_same (R:Regs) (q:Nat×Nat):set2 R q (R q.1 q.2)=R:=by
 funext r i;unfold set2;split
 · rename_i h;rw[h.1,h.2]
 · rfl
theorem set2_ne (R:Regs) {q:Nat×Nat} {c:Cel} {r i:Nat} (h:¬(r=q.1∧i=q.2)):set2 R q c r i=R r i:=by unfold set2;rw[if_neg h]
section
variable {T:TypeId} {m:MS} {R:Regs} {ev:List Ev} {es:Sl} {h:Hp}
theorem scan_get (M:MemR T m R ev es h) {r:Nat} (hr:r<m.nr) (x:UInt64) (hl:ev.length<4000000000000) :
   callK prog 85 [vp ⟨m.b,0⟩,.int .i64 r,vu x] h fun v h'=>∃es',v=wv (if x.toNat<m.rn r then R r x.toNat else cel0)∧MemR T m R (ev++reads r (m.rn r)) es' h'∧Mv (MF m es) h (MF m es') h':=by
 have hrn:=M.rn r hr
 refine c85 _ _ _ ?_
 unfold G85
 refine newC fun b1 h1 f1 e1 k1=>newC fun b2 h2 f2 e2 k2=>?_
 have n12:b2≠b1:=fun e=>by rw[e,e1] at f2;cases f2
 have M2:=M.keep (k1.trans k2)
 refine(mem_size M2 hr).mono ?_
 rintro _ _ ⟨rfl,rfl⟩
 have f20:=k1.free f2
 refine⟨_,rfl,fun q1 n2 x1 q2 q3 n3 n4 g k=>q1=⟨m.b,0⟩∧n2=r∧x=x1∧q2=⟨b1,0⟩∧q3=⟨b2,0⟩∧n3=(m.rn r:Nat)∧∃i es',n4=(i:Nat)∧i≤m.rn r∧k=m.rn r-i∧MemR T m R (ev++reads r i) es' g∧Mv (MF m es) h (MF m es') g∧¬MF m es' b1∧¬MF m es' b2 ∧
     g b1=some (.cells (SV.cells (.ws 12 cel0)).toArray 56 (0,0))∧g b2=some (.cells (SV.cells (.ws 12 (if x.toNat<i then R r x.toNat else cel0))).toArray 56 (0,0)),
   ⟨m.rn r,rfl,rfl,rfl,rfl,rfl,rfl,0,es,rfl,by omega,rfl,by simpa [reads] using M2,mvK (k1.trans k2) _,M.out f1,M.out f20,k2.get e1,e2⟩,?_⟩
 rintro q1 n2 x1 q2 q3 n3 n4 g k ⟨rfl,rfl,rfl,rfl,rfl,rfl,i,es',rfl,hi,rfl,Mg,vg,nb1,nb2,g1,g2⟩
 have hrl:=reads_length r i
 refine ifD (fun hlt=>?_) fun hge=>?_
 · have hi':i<m.rn r:=by omega
   refine⟨_,wb_rd g2,?_⟩
   refine(word_equal _ _).to fun g' kg'=>⟨_,rfl,wb_rd (kg'.get g2),?_⟩
   refine(mem_read (Mg.keep kg') hr hi' (by rw[List.length_append,hrl];omega)).mono ?_
   rintro _ g3 ⟨es3,rfl,M3,v3⟩
   have v03:=(vg.more kg').trans v3
   have g13:=v3.get (kg'.get g1) nb1
   have g23:=v3.get (kg'.get g2) nb2
   have nb13:=v3.out (by rw[kg'.get g1];simp) nb1
   have nb23:=v3.out (by rw[kg'.get g2];simp) nb2
   refine⟨_,rfl,wb_rd g23,?_⟩
   refine(word_pickCell _ _ _).to fun g4 k4=>⟨_,rfl,?_⟩
   refine wbMW (n:=12) (v03.more k4) f20 (k4.get g23) (by simp[SV.cells]) fun g5 v5 e5 o5=>⟨_,?_,rfl,rfl,rfl,rfl,rfl,rfl,i+1,es3,w64_id (by omega) (by omega),by omega,rfl,?_,v5,nb13,nb23,?_,?_⟩
   · omega
   · rw[reads_succ,←List.append_assoc]
     exact(M3.keep k4).move fun y hy=>o5 y fun e=>nb23 (e▸hy)
   · rw[o5 _ (Ne.symm n12)];exact k4.get g13
   · rw[e5]
     congr 4
     rw[toU_beq (by omega)]
     by_cases c:i=x.toNat
     · rw[decide_eq_true c,if_pos rfl,if_pos (show x.toNat<i+1 by omega),c]
     · rw[decide_eq_false c]
       by_cases c2:x.toNat<i
       · rw[if_neg (by simp),if_pos c2,if_pos (show x.toNat<i+1 by omega)]
       · rw[if_neg (by simp),if_neg c2,if_neg (show ¬x.toNat<i+1 by omega)]
 · have:i=m.rn r:=by omega
   subst this
   refine⟨_,wb_rd g2,wbMW (n:=12) vg f1 g1 (by simp[SV.cells]) fun g5 v5 e5 o5=>⟨_,wb_rd e5,es',rfl,Mg.move fun y hy=>o5 y fun e=>nb1 (e▸hy),v5⟩⟩
theorem scan_put (M:MemR T m R ev es h) {r:Nat} (hr:r<m.nr) (x:UInt64) (c:Cel) (d:Bool) (hl:ev.length<4000000000000) :
   callK prog 52 [vp ⟨m.b,0⟩,.int .i64 r,vu x,wv c,vu (mask d)] h fun v h'=>∃es',v= .tuple #[]∧MemR T m (if x.toNat<m.rn r∧d=true then set2 R (r,x.toNat) c else R) (ev++writes r (m.rn r)) es' h'∧Mv (MF m es) h (MF m es') h':=by
 have hrn:=M.rn r hr
 refine c52 _ _ _ _ _ ?_
 unfold G52
 refine newC fun b1 h1 f1 e1 k1=>?_
 have M2:=M.keep k1
 refine(mem_size M2 hr).mono ?_
 rintro _ _ ⟨rfl,rfl⟩
 refine⟨_,rfl,fun q1 n2 x1 x2 q2 n3 n4 g k=>q1=⟨m.b,0⟩∧n2=r∧x=x1∧x2=mask d∧q2=⟨b1,0⟩∧n3=(m.rn r:Nat)∧∃i es',n4=(i:Nat)∧i≤m.rn r∧k=m.rn r-i∧MemR T m (if x.toNat<i∧d=true then set2 R (r,x.toNat) c else R) (ev++writes r i) es' g∧Mv (MF m es) h (MF m es') g∧¬MF m es' b1 ∧
     g b1=some (.cells (SV.cells (.ws 12 c)).toArray 56 (0,0)),
   ⟨m.rn r,rfl,rfl,rfl,rfl,rfl,rfl,0,es,rfl,by omega,rfl,by simpa [writes] using M2,mvK k1 _,M.out f1,e1⟩,?_⟩
 rintro q1 n2 x1 x2 q2 n3 n4 g k ⟨rfl,rfl,rfl,rfl,rfl,rfl,i,es',rfl,hi,rfl,Mg,vg,nb1,g1⟩
 have hwl:=writes_length r i
 refine ifD (fun hlt=>?_) fun hge=>?_
 · have hi':i<m.rn r:=by omega
   refine(word_equal _ _).to fun g' kg'=>⟨_,rfl,_,wb_rd (kg'.get g1),?_⟩
   refine(mem_read (Mg.keep kg') hr hi' (by rw[List.length_append,hwl];omega)).mono ?_
   rintro _ g3 ⟨es3,rfl,M3,v3⟩
   have g13:=v3.get (kg'.get g1) nb1
   have nb13:=v3.out (by rw[kg'.get g1];simp) nb1
   refine⟨_,rfl,wb_rd g13,?_⟩
   rw[mask_and]
   refine(word_pickCell _ _ _).to fun g4 k4=>⟨_,rfl,?_⟩
   refine(mem_write (M3.keep k4) hr hi' _ (by simp only[List.length_append,hwl,List.length_singleton];omega)).mono ?_
   rintro _ g5 ⟨es5,rfl,M5,v5⟩
   have g15:=v5.get (k4.get g13) nb13
   have nb15:=v5.out (by rw[k4.get g13];simp) nb13
   refine⟨rfl,_,?_,rfl,rfl,rfl,rfl,rfl,rfl,i+1,es5,w64_id (by omega) (by omega),by omega,rfl,?_,((vg.more kg').trans (v3.more k4)).trans v5,nb15,g15⟩
   · omega
   · rw[writes_succ,show ∀a b:Ev,ev++(writes r i++[a,b])=ev++writes r i++[a]++[b] by simp]
     rw[toU_beq (by omega)] at M5
     have key:∀(R1:Regs),R1=(if x.toNat<i∧d=true then set2 R (r,x.toNat) c else R)→set2 R1 (r,i) (if (decide (i=x.toNat)&&d)=true then c else R1 r i)=if x.toNat<i+1∧d=true then set2 R (r,x.toNat) c else R:=by
       rintro R1 hR
       by_cases c1:i=x.toNat
       · have h1:¬(x.toNat<i∧d=true):=by omega
         rw[if_neg h1] at hR
         cases d with
         | true=>rw[if_pos (by simp[c1]),if_pos ⟨by omega,rfl⟩,hR,c1]
         | false=>rw[if_neg (by simp),if_neg (by simp),hR];exact set2_same R (r,i)
       · rw[if_neg (by simp[c1])]
         have e0:set2 R1 (r,i) (R1 r i)=R1:=set2_same R1 (r,i)
         rw[e0,hR]
         by_cases c2:x.toNat<i∧d=true
         · rw[if_pos c2,if_pos ⟨by omega,c2.2⟩]
         · rw[if_neg c2,if_neg (fun h=>c2 ⟨by omega,h.2⟩)]
     rw[key _ rfl] at M5
     exact M5
 · have:i=m.rn r:=by omega
   subst this
   exact⟨es',rfl,Mg,vg⟩
end
end Go.Proofs.Tryz

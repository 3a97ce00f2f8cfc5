/- Chapters 2, 3: a tape; what was seen of a memory. -/
import Derived.Test.YtofgadhgljjhgaaGreatMemN
import Derived.Test.YtofgadhgljjhgaaGreatLvA
namespace Go.Proofs.Tryz
open Go Go.Sh Go.RowKit
set_option maxRecDepth 8000
theorem clone_w {h:Hp} {s:Sl} {l:List UInt64} (r:RdS vu h s l) (hl:l.length*8≤140737488355328) :
   callK prog 76 [vs s] h fun v h'=>∃s',v=vs s'∧OwnS vu h h' s' l∧Keep h h':=by
 refine c76 s ?_
 unfold G76
 refine ifB_intro (fun hn=>?_) (fun hn=>?_)
 · have hp:s.q=none:=by
     cases e:s.q with
     | none=>rfl
     | some q=>rw[Sl.q_p e] at hn;cases hn
   have:l=[]:=List.length_eq_zero_iff.1 (by have:=r.nil hp;have:=r.cap;have:=r.len;omega)
   subst this
   exact⟨_,rfl,OwnS.nilS _ _ _,Keep.refl h⟩
 · exact OwnS.copy rtW (fun _=>rfl) r hl (by decide) fun s' h' o k=>⟨s',rfl,o,k⟩
/-! ## a tape -/
def TapR (T:TypeId) (tb tw:Nat) (ws:List UInt64) (u:Nat) (h:Hp):Prop :=
 ∃s,h tb=some (.cells #[vs s,.int .i64 u,.bool (decide (ws.length<u))] T (0,0))∧RdS vu h s (ws.drop u)∧∀q,s.q=some q→q.b=tw∧q.b≠tb
section
variable {T:TypeId} {tb tw:Nat} {ws:List UInt64} {u:Nat} {h:Hp}
theorem TapR.dom (t:TapR T tb tw ws u h):h tb≠none:=by obtain⟨s,e,_⟩:=t;rw[e];simp
theorem TapR.move {h':Hp} (t:TapR T tb tw ws u h) (e1:h' tb=h tb) (e2:tw≠tb→h tw≠none→h' tw=h tw):TapR T tb tw ws u h':=by
 obtain⟨s,e,r,hq⟩:=t
 refine⟨s,by rw[e1,e],r.move fun q h1 h2=>?_,hq⟩
 have:=r.there h1 h2
 rw[(hq q h1).1] at this ⊢
 exact e2 (by rw[←(hq q h1).1];exact(hq q h1).2) this
theorem TapR.keep {h':Hp} (t:TapR T tb tw ws u h) (k:Keep h h'):TapR T tb tw ws u h':=t.move (k _ t.dom) fun _ h=>k _ h
theorem tape_new {s:Sl} (r:RdS vu h s ws) (hl:ws.length*8≤140737488355328) :
   callK prog 37 [vs s] h fun v h'=>∃(T:TypeId) (tb tw:Nat),v=vp ⟨tb,0⟩∧TapR T tb tw ws 0 h'∧h tb=none∧(tw≠tb→h tw=none∧h' tw≠none)∧Keep h h':=by
 refine c37 _ ?_
 unfold G37
 refine(clone_w r hl).mono ?_
 rintro _ h1 ⟨s',rfl,o,k⟩
 refine⟨_,rfl,newC fun b1 h2 f1 e1 k1=>?_⟩
 cases hq:s'.q with
 | none =>
   refine⟨_,b1,b1,rfl,⟨s',e1,by simpa using o.rd.keep k1,fun q h=>by rw[hq] at h;cases h⟩,k.free f1,fun h=>absurd rfl h,k.trans k1⟩
 | some p =>
   have hp:=o.blk hq
   refine⟨_,b1,p.b,rfl,⟨s',e1,by simpa using o.rd.keep k1,fun q h=>?_⟩,k.free f1,fun _=>⟨hp.1,by rw[k1 _ hp.2];exact hp.2⟩,k.trans k1⟩
   rw[hq] at h;cases h
   exact⟨rfl,fun e=>hp.2 (e▸f1)⟩
theorem tape_next (t:TapR T tb tw ws u h) (hu:u<2 ^ 62) :
   callK prog 115 [vp ⟨tb,0⟩] h fun v h'=>v= .tuple #[vu (ws.getD u 0),.int .i64 u]∧TapR T tb tw ws (u+1) h'∧∀x,x≠tb→h' x=h x:=by
 obtain⟨s,e,r,hq⟩:=t
 refine c115 _ ?_
 unfold G115
 have ew:w64 ((u:Int)+1)=((u+1:Nat):Int):=by rw[w64_id (by omega) (by omega)];omega
 have hlen:=r.len
 rw[List.length_drop] at hlen
 refine⟨_,rd1 e rfl,_,rd1 e rfl,_,_,e,by simp,?_⟩
 rw[ew]
 have e1:upd h tb (.cells (hwr #[vs s,.int .i64 u,.bool (decide (ws.length<u))] (0+1) [.int .i64 ((u+1:Nat):Int)]) T (0,0)) tb=some (.cells #[vs s,.int .i64 ((u+1:Nat):Int),.bool (decide (ws.length<u))] T (0,0)):=by rw[upd_same];rfl
 generalize hg:upd h tb (.cells (hwr #[vs s,.int .i64 u,.bool (decide (ws.length<u))] (0+1) [.int .i64 ((u+1:Nat):Int)]) T (0,0))=g at e1 ⊢
 have o1:∀x,x≠tb→g x=h x:=fun x hx=>by rw[←hg];exact upd_ne _ _ hx
 have r1:RdS vu g s (ws.drop u):=r.move fun q h1 _=>o1 _ (hq q h1).2
 refine⟨s,rd1 e1 rfl,ifD (fun hz=>?_) fun hz=>?_⟩
 · have hle:ws.length≤u:=by omega
   refine⟨_,_,e1,by simp,?_,⟨s,?_,?_,hq⟩,fun x hx=>by rw[upd_ne _ _ hx,o1 x hx]⟩
   · rw[List.getD_eq_getElem?_getD,List.getElem?_eq_none hle];rfl
   · rw[upd_same,decide_eq_true (show ws.length<u+1 by omega)];rfl
   · rw[List.drop_eq_nil_of_le (show ws.length≤u+1 by omega)]
     rw[List.drop_eq_nil_of_le hle] at r1
     exact r1.move fun q h1 _=>upd_ne _ _ (hq q h1).2
 · have hlt:u<ws.length:=by omega
   obtain⟨q,hqq,hc⟩:=r1.at (i:=0) (by rw[List.length_drop];omega)
   have e5:(ws.drop u)[0]'(by rw[List.length_drop];omega)=ws.getD u 0:=by simp[List.getD,hlt]
   rw[e5] at hc
   refine⟨s,rd1 e1 rfl,q,hqq,Int.NonNeg.mk 0,by omega,_,hc,s,rd1 e1 rfl,Int.NonNeg.mk 1,by omega,_,_,e1,by simp,rfl,⟨⟨slPt s.p 1 s.cap 1,s.len-1,s.cap-1,slZ s.z 1 s.cap 1⟩,?_,?_,?_⟩,fun x hx=>by rw[upd_ne _ _ hx,o1 x hx]⟩
   · rw[upd_same,decide_eq_false (show ¬ws.length<u+1 by omega),decide_eq_false (show ¬ws.length<u by omega)];rfl
   · have r2:RdS vu (upd g tb (.cells (hwr #[vs s,.int .i64 ((u+1:Nat):Int),.bool (decide (ws.length<u))] 0 [vs ⟨slPt s.p 1 s.cap 1,s.len-1,s.cap-1,slZ s.z 1 s.cap 1⟩]) T (0,0))) s (ws.drop u):=r1.move fun q h1 _=>upd_ne _ _ (hq q h1).2
     have r3:=r2.drop (n:=1) (by rw[List.length_drop];omega)
     rw[List.drop_drop] at r3
     exact r3
   · intro q' hq'
     obtain⟨p,hp,e⟩:=cut_q0 r.nil (by have:=r.cap;omega) hq'
     rw[e];exact hq p hp
end
end Go.Proofs.Tryz

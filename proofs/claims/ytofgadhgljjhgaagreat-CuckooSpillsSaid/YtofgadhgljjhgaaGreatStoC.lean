/- Chapters 11 and 13: stores' sizes, and configs that are right. -/
import Derived.Test.YtofgadhgljjhgaaGreatBase
namespace Go.Proofs.Tryz
open Go Go.Sh Go.RowKit
set_option maxRecDepth 8000
theorem rtI:RowT prog 64 3 (.int .i64 0) 8:=⟨by kernel_rfl,by kernel_rfl,by kernel_rfl,by kernel_rfl,rfl⟩
structure StOk (m:Nat) (s t:Int) (L:Nat):Prop where
 m:m≤10
 s:1≤s∧s≤8
 t:1≤t∧t≤64
 L:1≤L∧L≤4
theorem StOk.lev {m:Nat} {s t:Int} {L:Nat} (o:StOk m s t L) (h:Nat):LevOk (m-2*h) s t:=⟨by have:=o.m;omega,o.s,o.t⟩
abbrev v4 (m:Nat) (s t:Int) (L:Nat):Value:= .agg #[.int .i64 (2 ^ m),.int .i64 s,.int .i64 t,.int .i64 L]
theorem step4 {j:Nat} (hj:j≤10):max (w64 (((2:Int) ^ j).tdiv 4)) 1=2 ^ (j-2):=by
 have key:∀j:Fin 11,max (((2:Int) ^ j.val).tdiv 4) 1=2 ^ (j.val-2)∧0≤((2:Int) ^ j.val).tdiv 4∧((2:Int) ^ j.val).tdiv 4≤1024:=by decide
 obtain⟨h1,h2,h3⟩:=key ⟨j,by omega⟩
 simp only at h1 h2 h3
 rw[w64_id (by omega) (by omega),h1]
theorem store_blocks {m:Nat} {s t:Int} {L:Nat} (o:StOk m s t L) (n:Nat) (hn:n≤100):PureC prog 111 [v4 m s t L,.int .i64 n] (.int .i64 (2 ^ (m-2*n))):=by
 intro h
 refine c111 _ s t L n ?_
 unfold G111
 refine newC fun b1 h1 _ e1 k1=>rdI e1 rfl ?_
 refine⟨fun x l i h2 k=>l=n∧∃j:Nat,i=j∧j≤n∧x=2 ^ (m-2*j)∧Keep h h2∧k=n-j,⟨_,rfl,0,rfl,Nat.zero_le _,rfl,k1,rfl⟩,?_⟩
 rintro x l i h2 k ⟨rfl,j,rfl,hj,rfl,k2,rfl⟩
 refine ifD (fun hlt=>⟨by decide,_,?_,rfl,j+1,w64_id (by omega) (by omega),by omega,?_,k2,rfl⟩) fun hge=>?_
 · omega
 · rw[step4 (by have:=o.m;omega)];rfl
 · have:j=n:=by omega
   subst this;exact⟨rfl,k2⟩
theorem store_level {m:Nat} {s t:Int} {L:Nat} (o:StOk m s t L) (n:Nat) (hn:n≤100):PureC prog 75 [v4 m s t L,.int .i64 n] (.agg #[.int .i64 (2 ^ (m-2*n)),.int .i64 s,.int .i64 t]):=by
 intro h
 refine c75 _ s t L n ?_
 unfold G75
 refine newC fun b1 h1 _ e1 k1=>newC fun b2 h2 f2 e2 k2=>rd4 (k2.get e1) (rdI (k2.get e1) rfl (rdI (k2.get e1) rfl ?_))
 refine(store_blocks o n hn).to fun h3 k3=>⟨_,rfl,⟨rd1 ((k2.trans k3).get e1) rfl,trivial⟩,⟨rd1 ((k2.trans k3).get e1) rfl,trivial⟩,?_⟩
 exact stN ((k1.trans k2).trans k3) (k1.free f2) (k3.get e2) (by simp) fun h4 k4 e4 _=>rd3 e4 ⟨rfl,k4⟩
theorem store_top {m:Nat} {s t:Int} {L:Nat} (o:StOk m s t L):PureC prog 73 [v4 m s t L] (.int .i64 (2 ^ (m-2*(L-1)))):=by
 intro h
 have hL:=o.L
 refine c73 _ s t L ?_
 unfold G73
 refine newC fun b1 h1 _ e1 k1=>rd4 e1 (rdI e1 rfl ?_)
 rw[w64_id (by omega) (by omega),show(L:Int)-1=((L-1:Nat):Int) by omega]
 exact(store_blocks o (L-1) (by omega)).to fun h2 k2=>⟨_,rfl,rfl,k1.trans k2⟩
theorem store_down {m:Nat} {s t:Int} {L:Nat} (h:Hp):callK prog 81 [v4 m s t L] h fun v h'=>∃b,v= .func (.func 114) #[] #[vp ⟨b,0⟩]∧h b=none ∧
   h' b=some (.cells #[.int .i64 (2 ^ m),.int .i64 s,.int .i64 t,.int .i64 L] 68 (0,0))∧Keep h h':=by
 refine c81 _ s t L ?_
 unfold G81
 exact newC fun b1 h1 f1 e1 k1=>⟨b1,rfl,f1,e1,k1⟩
theorem store_down1 {h:Hp} {q:Pt} {L:Nat} (hL:L≤1000) {y:Value} (S:Nat→Hp→Prop) (h0:S 0 h) (hc:hcell h q.b (q.o+3)=some (.int .i64 L))
   (step:∀i h',i<L→S i h'→callV prog y [.int .i64 ((L:Int)-1-i)] h' fun v h''=>v= .bool true∧S (i+1) h'') :
   callK prog 114 [y,vp q] h fun _ h'=>S L h':=by
 refine c114 y q ?_
 unfold G114
 refine⟨L,hc,fun v n h1 k=>v=y∧∃i:Nat,n=(L:Int)-1-i∧i≤L∧S i h1∧k=L-i,⟨_,rfl,0,by rw[w64_id (by omega) (by omega)];simp,Nat.zero_le _,h0,rfl⟩,?_⟩
 rintro v n h1 k ⟨rfl,i,rfl,hi,hs,rfl⟩
 refine ifD (fun hlt=>?_) fun hge=>?_
 · refine(step i h1 (by omega) hs).mono ?_
   rintro _ h2 ⟨rfl,hs2⟩
   exact⟨_,rfl,ifB_pos rfl ⟨_,by omega,rfl,i+1,by rw[w64_id (by omega) (by omega)];omega,by omega,hs2,rfl⟩⟩
 · have:i=L:=by omega
   subst this;exact hs
theorem store_right {m:Nat} {s t:Int} {L:Nat} (o:StOk m s t L):PureC prog 72 [v4 m s t L] (.bool true):=by
 intro h
 have hL:=o.L
 refine c72 _ s t L ?_
 unfold G72
 refine newC fun b1 h1 f1 e1 k1=>newC fun b2 h2 f2 e2 k2=>rdI (k2.get e1) rfl (ifD (fun e=>absurd e (by omega)) fun _=>rdI (k2.get e1) rfl (ifD (fun e=>absurd e (by omega)) fun _=>rd4 (k2.get e1) ?_))
 refine(store_down h2).mono ?_
 rintro _ h3 ⟨b,rfl,fb,eb,k3⟩
 refine⟨_,rfl,trivial,fun z k hk hr=>⟨rfl,?_⟩⟩
 have kz:Keep h3 (upd h3 k (rdyL z)):=(Keep.refl h3).upd hk _
 refine(store_down1 (L:=L) (q:=⟨b,0⟩) (y:=yv k) (by omega) (fun i h'=>h' k=some (rdyL z)∧Keep h3 h') ⟨upd_same _ _ _,kz⟩ (rd1 (kz.get eb) rfl) ?_).mono ?_
 · rintro i h' hi ⟨hz,kk⟩
   refine⟨rfl,rfl,hr _ h' _ hz ⟨hz,?_⟩⟩
   have kb:Keep h3 (upd h' k (busyL z)):=kk.upd hk _
   refine rd4 (((k2.trans k3).trans kb).get e1) ?_
   obtain⟨j,hj⟩:∃j:Nat,(L:Int)-1-i=j:=⟨L-1-i,by omega⟩
   rw[hj]
   refine(store_level o j (by omega)).to fun h5 k5=>⟨_,_,_,rfl,?_⟩
   refine(level_right (o.lev j)).to fun h6 k6=>⟨_,rfl,ifB_neg rfl ⟨(k5.trans k6).get (upd_same _ _ _),rfl,upd_same _ _ _,?_⟩⟩
   exact(kb.trans (k5.trans k6)).upd hk _
 · rintro _ h4 ⟨hz,kk⟩
   refine .inr ⟨hz,?_⟩
   have kg:Keep h3 (upd h4 k (goneL z none)):=kk.upd hk _
   exact stN ((k1.trans k2).trans (k3.trans kg)) (k1.free f2) ((k3.trans kg).get e2) (by simp) fun h5 k5 e5 _=>⟨_,rd1 e5 rfl,rfl,k5⟩
def levL (m:Nat) (s t:Int) (h:Nat):List Int:=[s*(2*2 ^ (m-2*h)-1),t,tbl (m-2*h) s t]
def sizesL (m:Nat) (s t:Int) (L n:Nat):List Int:=(2 ^ (m-2*(L-1)):Int)::(List.range n).flatMap (levL m s t)
theorem sizesL_succ (m:Nat) (s t:Int) (L n:Nat):sizesL m s t L (n+1)=sizesL m s t L n++levL m s t n:=by
 simp[sizesL,List.range_succ]
theorem sizesL_length (m:Nat) (s t:Int) (L n:Nat):(sizesL m s t L n).length=3*n+1:=by
 induction n with
 | zero=>rfl
 | succ n ih=>rw[sizesL_succ,List.length_append,ih];simp[levL];omega
theorem mul_nn {a b c d:Int} (h1:0≤a) (h2:a≤b) (h3:0≤c) (h4:c≤d):0≤a*c∧a*c≤b*d :=
 ⟨Int.mul_nonneg h1 h3,Int.mul_le_mul h2 h4 h3 (by omega)⟩
end Go.Proofs.Tryz

/- What changes nothing when operations of one statement are carried out in another order. -/
import Derived.Test.YtofgadhgljjhgaaGreatShMem
namespace Go.Sh
open Go Go.RowKit
/-! ## Monotony of each reading -/
section
variable {P:Program} {n:Nat} {e:Env}
theorem evK_det {x:Operand} {K:SV→Prop} (h:evK n e x K):∃s,K s∧∀K',evK n e x K'↔K' s:=by
 cases x with
 | tmp t =>
   simp only[evK] at h
   split at h
   · rename_i s hs
     exact⟨s,h,fun K'=>by simp only[evK,hs]⟩
   · exact h.elim
 | const v=>exact⟨_,h,fun _=>Iff.rfl⟩
 | global g=>exact⟨_,h,fun _=>Iff.rfl⟩
 | func f=>exact⟨_,h,fun _=>Iff.rfl⟩
theorem evT_det {ty:Ty} {x:Operand} {K:SV→Prop} (h:evT n ty e x K):∃s,K s∧∀K',evT n ty e x K'↔K' s:=by
 cases x with
 | const v=>exact⟨_,h,fun _=>Iff.rfl⟩
 | tmp t=>exact evK_det (x:= .tmp t) h
 | global g=>exact evK_det (n:=n) (e:=e) (x:= .global g) h
 | func f=>exact evK_det (n:=n) (e:=e) (x:= .func f) h
theorem evKs_det:∀(l:List Operand) (K:List SV→Prop),evKs n e l K→∃r,K r∧∀K',evKs n e l K'↔K' r
 | [],K,h=>⟨[],h,fun _=>Iff.rfl⟩
 | x::l,K,h=>by
   obtain⟨s,hs,h1⟩:=evK_det h
   obtain⟨r,hr,h2⟩:=evKs_det l _ hs
   exact⟨_,hr,fun K'=>(h1 _).trans (h2 _)⟩
theorem evAs_det:∀(l:List Operand) (ts:List TypeId) (K:List SV→Prop),evAs P n e l ts K→∃r,K r∧∀K',evAs P n e l ts K'↔K' r
 | [],_,K,h=>⟨[],h,fun _=>Iff.rfl⟩
 | x::l,[],K,h=>by
   obtain⟨s,hs,h1⟩:=evK_det h
   obtain⟨r,hr,h2⟩:=evAs_det l [] _ hs
   exact⟨_,hr,fun K'=>(h1 _).trans (h2 _)⟩
 | x::l,t::ts,K,h=>by
   obtain⟨s,hs,h1⟩:=evT_det h
   obtain⟨r,hr,h2⟩:=evAs_det l ts _ hs
   exact⟨_,hr,fun K'=>(h1 _).trans (h2 _)⟩
theorem ptK_det {tys:Nat→Ty}:∀(l:List (Nat×Operand)) (K:List (Nat×SV)→Prop),ptK P n e tys l K→∃r,K r∧∀K',ptK P n e tys l K'↔K' r
 | [],K,h=>⟨[],h,fun _=>Iff.rfl⟩
 | (i,x)::l,K,h=>by
   obtain⟨s,hs,h1⟩:=evT_det h
   obtain⟨r,hr,h2⟩:=ptK_det l _ hs
   exact⟨_,hr,fun K'=>(h1 _).trans (h2 _)⟩
theorem oOp_det {x:Option Operand} {K:Option SV→Prop} (h:oOp n e x K):∃s,K s∧∀K',oOp n e x K'↔K' s:=by
 cases x with
 | none=>exact⟨none,h,fun _=>Iff.rfl⟩
 | some x =>
   obtain⟨s,hs,h1⟩:=evK_det h
   exact⟨some s,hs,fun K'=>h1 _⟩
end
def Det (R:(SV→Prop)→Prop):Prop:=∀K,R K→∃r,∀K',R K'↔K' r
theorem numK_det {s:SV} {K:IntKind→Int→Prop} (h:numK s K):∃k i,K k i∧∀K',numK s K'↔K' k i:=by
 cases s<;>first|exact h.elim|exact⟨_,_,h,fun _=>Iff.rfl⟩
theorem bndK_det {x:SV} {most:Nat} {K:Nat→Prop} (h:bndK x most K):∃m,K m∧∀K',bndK x most K'↔K' m:=by
 obtain⟨k,i,⟨h0,h1,hk⟩,hd⟩:=numK_det h
 exact⟨_,hk,fun K'=>(hd _).trans ⟨fun h=>h.2.2,fun h=>⟨h0,h1,h⟩⟩⟩
theorem bndsK_det {len cap:Nat} {lo hi mx:Option SV} {K:Nat→Nat→Nat→Prop} (h:bndsK len cap lo hi mx K) :
   ∃a b c,K a b c∧∀K',bndsK len cap lo hi mx K'↔K' a b c:=by
 unfold bndsK at h
 split at h
 · exact⟨_,_,_,h,fun K'=>by simp only[bndsK]⟩
 · obtain⟨l,hk,hd⟩:=bndK_det h
   exact⟨_,_,_,hk,fun K'=>by simp only[bndsK];exact hd _⟩
 · obtain⟨l,hk,hd⟩:=bndK_det h
   exact⟨_,_,_,hk,fun K'=>by simp only[bndsK];exact hd _⟩
 · obtain⟨l,hk,hd⟩:=bndK_det h
   obtain⟨l2,hk,hd2⟩:=bndK_det hk
   exact⟨_,_,_,hk,fun K'=>by simp only[bndsK];exact(hd _).trans (hd2 _)⟩
 · obtain⟨l,hk,hd⟩:=bndK_det h
   obtain⟨l2,hk,hd2⟩:=bndK_det hk
   exact⟨_,_,_,hk,fun K'=>by simp only[bndsK];exact(hd _).trans (hd2 _)⟩
 · obtain⟨l,hk,hd⟩:=bndK_det h
   obtain⟨l2,hk,hd2⟩:=bndK_det hk
   obtain⟨l3,hk,hd3⟩:=bndK_det hk
   exact⟨_,_,_,hk,fun K'=>by simp only[bndsK];exact(hd _).trans ((hd2 _).trans (hd3 _))⟩
 · exact h.elim
theorem sliceK_det {P:Program} {T:TypeId} {x:SV} {lo hi mx:Option SV}:Det (sliceK P T x lo hi mx):=by
 intro K h
 unfold sliceK at h ⊢
 split at h
 · split at h
   · obtain⟨a,b,c,_,hd⟩:=bndsK_det h
     exact⟨_,fun K'=>hd _⟩
   · exact h.elim
 · split at h
   · obtain⟨a,b,c,_,hd⟩:=bndsK_det h
     exact⟨_,fun K'=>hd _⟩
   · exact h.elim
 · split at h
   · obtain⟨a,b,c,_,hd⟩:=bndsK_det h
     exact⟨_,fun K'=>hd _⟩
   · exact h.elim
 · exact h.elim
theorem unK_det {op:UnOp} {x:SV}:Det (unK op x):=by
 intro K h
 unfold unK at h ⊢
 split at h<;>first|exact h.elim|exact⟨_,fun _=>Iff.rfl⟩
theorem convK_det {P:Program} {s d:TypeId} {x:SV}:Det (convK P s d x):=by
 intro K h
 unfold convK at h ⊢
 split at h<;>first|exact h.elim|exact⟨_,fun _=>Iff.rfl⟩
theorem arI_det {op:BinOp} {k:IntKind} {a b:Int}:Det (arI op k a b):=by
 intro K h
 cases op<;>first|exact h.elim|exact⟨_,fun _=>Iff.rfl⟩|exact⟨_,fun K'=>⟨fun hh=>hh.2,fun hh=>⟨h.1,hh⟩⟩⟩
theorem arU_det {op:BinOp} {a b:UInt64}:Det (arU op a b):=by
 intro K h
 cases op<;>first|exact h.elim|exact⟨_,fun _=>Iff.rfl⟩|exact⟨_,fun K'=>⟨fun hh=>hh.2,fun hh=>⟨h.1,hh⟩⟩⟩
theorem shK_det {op:BinOp} {k:IntKind} {a:Int} {c:Nat}:Det (shK op k a c):=by
 intro K h
 cases op<;>first|exact h.elim|exact⟨_,fun _=>Iff.rfl⟩
theorem shU_det {op:BinOp} {a:UInt64} {c:Nat}:Det (shU op a c):=by
 intro K h
 cases op<;>first|exact h.elim|exact⟨_,fun _=>Iff.rfl⟩
theorem eqK_det {P:Program} {T:TypeId} {x y:SV} {K:Bool→Prop} (h:eqK P T x y K):∃r,K r∧∀K',eqK P T x y K'↔K' r:=by
 unfold eqK at h ⊢
 split at h
 · exact⟨_,h,fun _=>Iff.rfl⟩
 · exact⟨_,h,fun _=>Iff.rfl⟩
 · exact⟨_,h,fun _=>Iff.rfl⟩
 · exact⟨_,h,fun _=>Iff.rfl⟩
 · exact⟨_,h,fun _=>Iff.rfl⟩
 · rcases h with ⟨rfl,h⟩|⟨t,v,rfl,h⟩
   · refine⟨_,h,fun K'=>⟨?_,fun hh=>Or.inl ⟨rfl,hh⟩⟩⟩
     rintro (⟨_,hh⟩|⟨_,_,hh,_⟩)
     · exact hh
     · cases hh
   · refine⟨_,h,fun K'=>⟨?_,fun hh=>Or.inr ⟨t,v,rfl,hh⟩⟩⟩
     rintro (⟨hh,_⟩|⟨_,_,_,hh⟩)
     · cases hh
     · exact hh
 · exact h.elim
theorem binK_det {P:Program} {op:BinOp} {T:TypeId} {x y:SV}:Det (binK P op T x y):=by
 intro K h
 unfold binK at h ⊢
 split at h
 · split at h
   · obtain⟨h0,h⟩:=h
     obtain⟨r,hr⟩:=shK_det K h
     rename_i hs
     exact⟨r,fun K'=>by simp only[hs,if_true];exact⟨fun hh=>(hr K').1 hh.2,fun hh=>⟨h0,(hr K').2 hh⟩⟩⟩
   · split at h
     · rename_i hs hk
       subst hk
       obtain⟨r,hr⟩:=arI_det K h
       exact⟨r,fun K'=>by simp only[hs,if_true,if_false,Bool.false_eq_true];exact hr K'⟩
     · exact h.elim
 · exact arU_det K h
 · exact shK_det K h
 · obtain⟨h0,h⟩:=h
   obtain⟨r,hr⟩:=shU_det K h
   exact⟨r,fun K'=>⟨fun hh=>(hr K').1 hh.2,fun hh=>⟨h0,(hr K').2 hh⟩⟩⟩
 · cases op
   case add=>exact⟨_,fun K'=>⟨fun hh=>hh.2,fun hh=>⟨h.1,hh⟩⟩⟩
   case eql=>exact⟨_,fun _=>Iff.rfl⟩
   case neq=>exact⟨_,fun _=>Iff.rfl⟩
   all_goals exact h.elim
 · cases op
   case eql =>
     obtain⟨r,_,hr⟩:=eqK_det h
     exact⟨_,fun K'=>hr _⟩
   case neq =>
     obtain⟨r,_,hr⟩:=eqK_det h
     exact⟨_,fun K'=>hr _⟩
   all_goals exact h.elim
theorem ixAddrK_det {P:Program} {T:TypeId} {x:SV} {i:Int}:Det (ixAddrK P T x i):=by
 intro K h
 unfold ixAddrK at h ⊢
 split at h
 · split at h
   · obtain⟨q,hq,h0,h1,h⟩:=h
     exact⟨_,fun K'=>⟨fun⟨q',hq',_,_,hh⟩=>by rw[hq] at hq';cases hq';exact hh,fun hh=>⟨q,hq,h0,h1,hh⟩⟩⟩
   · exact h.elim
 · split at h
   · obtain⟨h0,h1,h⟩:=h
     exact⟨_,fun K'=>⟨fun hh=>hh.2.2,fun hh=>⟨h0,h1,hh⟩⟩⟩
   · exact h.elim
 · exact h.elim
theorem ixK_det {P:Program} {T:TypeId} {x:SV} {i:Int}:Det (ixK P T x i):=by
 intro K h
 unfold ixK at h ⊢
 split at h
 · split at h
   · rename_i hc
     obtain⟨h0,h1,h⟩:=h
     exact⟨_,fun K'=>by rw[if_pos hc];exact⟨fun⟨_,_,hh⟩=>hh,fun hh=>⟨h0,h1,hh⟩⟩⟩
   · exact h.elim
 · obtain⟨h0,h1,h⟩:=h
   exact⟨_,fun K'=>⟨fun⟨_,_,hh⟩=>hh,fun hh=>⟨h0,h1,hh⟩⟩⟩
 · exact h.elim
theorem fldK_det {P:Program} {s:TypeId} {i:Nat} {l:List SV}:Det (fldK P s i l):=by
 intro K h
 unfold fldK at h ⊢
 split at h
 · split at h
   · split at h
     · rename_i hc
       exact⟨_,fun K'=>by rw[if_pos hc]⟩
     · exact h.elim
   · exact h.elim
 · exact h.elim
theorem bldS_det {P:Program} {fs:Array Field}:∀(ps:List (Nat×SV)) (l:List SV) (K:List SV→Prop),bldS P fs ps l K→∃r,∀K',bldS P fs ps l K'↔K' r
 | [],l,K,h=>⟨l,fun _=>Iff.rfl⟩
 | (i,r)::ps,l,K,h=>by
   simp only[bldS] at h ⊢
   split at h
   · split at h
     · rename_i hc
       obtain⟨hf,h⟩:=flatK_elim h
       obtain⟨r,hr⟩:=bldS_det ps _ K h
       exact⟨r,fun K'=>by rw[if_pos hc];exact⟨fun h=>(hr K').1 (flatK_elim h).2,fun h=>flatK_intro hf ((hr K').2 h)⟩⟩
     · exact h.elim
   · exact h.elim
theorem bldW_det {n:Nat}:∀(ps:List (Nat×SV)) (c:Vector UInt64 n) (K:Vector UInt64 n→Prop),bldW n ps c K→∃r,∀K',bldW n ps c K'↔K' r:=by
 intro ps
 induction ps with
 | nil=>exact fun c K h=>⟨c,fun _=>Iff.rfl⟩
 | cons p ps ih =>
   intro c K h
   obtain⟨i,r⟩:=p
   cases r<;>try exact h.elim
   simp only[bldW] at h ⊢
   split at h
   · rename_i hc
     obtain⟨r,hr⟩:=ih _ K h
     exact⟨r,fun K'=>by rw[dif_pos hc];exact hr K'⟩
   · exact h.elim
theorem bldK_det {P:Program} {T:TypeId} {ps:List (Nat×SV)}:Det (bldK P T ps):=by
 intro K h
 unfold bldK at h ⊢
 split at h
 · split at h
   · split at h
     · rename_i hc
       obtain⟨r,hr⟩:=bldS_det _ _ _ h
       exact⟨_,fun K'=>by rw[if_pos hc];exact hr _⟩
     · exact h.elim
   · exact h.elim
 · split at h
   · split at h
     · rename_i hc
       obtain⟨r,hr⟩:=bldW_det _ _ _ h
       exact⟨_,fun K'=>by rw[if_pos hc];exact hr _⟩
     · exact h.elim
   · exact h.elim
 · exact h.elim
theorem lenK_det {P:Program} {T:TypeId} {x:SV}:Det (lenK P T x):=by
 intro K h
 unfold lenK at h ⊢
 split at h<;>first|exact h.elim|exact⟨_,fun _=>Iff.rfl⟩
theorem mm2_det {b:Bool} {x y:SV}:Det (mm2 b x y):=by
 intro K h
 unfold mm2 at h ⊢
 split at h<;>first|exact h.elim|exact⟨_,fun _=>Iff.rfl⟩
theorem bltK_det {P:Program} {b:Builtin} {ats:Array TypeId} {xs:List SV}:Det (bltK P b ats xs):=by
 intro K h
 unfold bltK at h ⊢
 split at h
 · split at h
   · exact lenK_det K h
   · exact h.elim
 · split at h
   · split at h
     · exact⟨_,fun _=>Iff.rfl⟩
     · exact h.elim
   · exact h.elim
 · exact mm2_det K h
 · exact mm2_det K h
 · exact h.elim
theorem ncK_det {x:SV}:Det (ncK x):=by
 intro K h
 unfold ncK at h ⊢
 split at h
 · exact⟨_,fun _=>Iff.rfl⟩
 · obtain⟨p,rfl,hk⟩:=h
   exact⟨_,fun K'=>⟨fun⟨p',hp,hh⟩=>by cases hp;exact hh,fun hh=>⟨p,rfl,hh⟩⟩⟩
 · exact⟨_,fun _=>Iff.rfl⟩
 · exact h.elim
theorem pkK_det {c a b:SV}:Det (pkK c a b):=by
 intro K h
 unfold pkK at h ⊢
 split at h
 · exact⟨_,fun _=>Iff.rfl⟩
 · rename_i c _
   cases c
   · exact⟨_,fun _=>Iff.rfl⟩
   · exact⟨_,fun _=>Iff.rfl⟩
 · exact h.elim
theorem boK_det {P:Program} {n:Nat} {op:BinOp} {T:TypeId} {y:Operand} {e:Env} {a:SV}:Det (boK P n op T y e a):=by
 intro K h
 unfold boK at h ⊢
 split at h
 · exact binK_det K h
 · obtain⟨b,hk,hd⟩:=evK_det h
   split at hk
   · exact hk.elim
   · rename_i l l'
     split at hk
     · rename_i r hr
       cases op<;>try exact(show False from hk).elim
       · exact⟨.b r,fun K'=>(hd _).trans (by simp only[hr,agOp])⟩
       · exact⟨.b (!r),fun K'=>(hd _).trans (by simp only[hr,agOp])⟩
     · exact hk.elim
   · rename_i k1 c1 m1 c2
     split at hk
     · rename_i hm
       subst hm
       split at hk
       · rename_i r hr
         cases op<;>try exact(show False from hk).elim
         · exact⟨.b r,fun K'=>(hd _).trans (by simp only[dif_pos,hr,agOp])⟩
         · exact⟨.b (!r),fun K'=>(hd _).trans (by simp only[dif_pos,hr,agOp])⟩
       · exact hk.elim
     · exact hk.elim
   · rename_i hv hag hws
     obtain⟨r,hr⟩:=binK_det K hk
     refine⟨r,fun K'=>(hd _).trans ?_⟩
     split
     · rename_i x;exact(hv x rfl).elim
     · exact(hag _ _ rfl rfl).elim
     · exact(hws _ _ _ _ rfl rfl).elim
     · exact hr K'
theorem pureK_det {P:Program} {n:Nat} {o:Op} {ty:TypeId} {e:Env}:Det (pureK P n o ty e):=by
 intro K h
 unfold pureK at h ⊢
 split at h
 · obtain⟨s,_,hd⟩:=evT_det h;exact⟨s,hd⟩
 · obtain⟨s,_,hd⟩:=evT_det h;exact⟨s,hd⟩
 · obtain⟨c,h,hd⟩:=evK_det h
   obtain⟨a,h,hd2⟩:=evK_det h
   obtain⟨b,h,hd3⟩:=evK_det h
   obtain⟨r,hr⟩:=pkK_det K h
   exact⟨r,fun K'=>(hd _).trans ((hd2 _).trans ((hd3 _).trans (hr K')))⟩
 · obtain⟨c,h,hd⟩:=evK_det h
   obtain⟨r,hr⟩:=ncK_det K h
   exact⟨r,fun K'=>(hd _).trans (hr K')⟩
 · obtain⟨c,h,hd⟩:=evK_det h
   obtain⟨r,hr⟩:=boK_det K h
   exact⟨r,fun K'=>(hd _).trans (hr K')⟩
 · obtain⟨c,h,hd⟩:=evK_det h
   obtain⟨r,hr⟩:=unK_det K h
   exact⟨r,fun K'=>(hd _).trans (hr K')⟩
 · obtain⟨c,h,hd⟩:=evK_det h
   obtain⟨r,hr⟩:=convK_det K h
   exact⟨r,fun K'=>(hd _).trans (hr K')⟩
 · split at h
   · obtain⟨c,h,hd⟩:=evK_det h
     split at h
     · exact⟨_,fun K'=>hd _⟩
     · exact h.elim
   · exact h.elim
 · obtain⟨c,h,hd⟩:=evK_det h
   split at h
   · obtain⟨r,hr⟩:=fldK_det K h
     exact⟨r,fun K'=>(hd _).trans (hr K')⟩
   · exact h.elim
 · obtain⟨c,h,hd⟩:=evK_det h
   obtain⟨j,h,hd2⟩:=evK_det h
   obtain⟨k,i,h,hd3⟩:=numK_det h
   obtain⟨r,hr⟩:=ixAddrK_det K h
   exact⟨r,fun K'=>(hd _).trans ((hd2 _).trans ((hd3 _).trans (hr K')))⟩
 · obtain⟨c,h,hd⟩:=evK_det h
   obtain⟨j,h,hd2⟩:=evK_det h
   obtain⟨k,i,h,hd3⟩:=numK_det h
   obtain⟨r,hr⟩:=ixK_det K h
   exact⟨r,fun K'=>(hd _).trans ((hd2 _).trans ((hd3 _).trans (hr K')))⟩
 · obtain⟨c,h,hd⟩:=evK_det h
   split at h
   · split at h
     · rename_i r hr
       exact⟨r,fun K'=>(hd _).trans (by simp only[hr])⟩
     · exact h.elim
   · exact h.elim
 · obtain⟨c,h,hd⟩:=evK_det h
   obtain⟨lo,h,hd2⟩:=oOp_det h
   obtain⟨hi,h,hd3⟩:=oOp_det h
   obtain⟨mx,h,hd4⟩:=oOp_det h
   obtain⟨r,hr⟩:=sliceK_det K h
   exact⟨r,fun K'=>(hd _).trans ((hd2 _).trans ((hd3 _).trans ((hd4 _).trans (hr K'))))⟩
 · split at h
   · rename_i hc
     obtain⟨c,h,hd⟩:=evKs_det _ _ h
     exact⟨_,fun K'=>by rw[if_pos hc];exact hd _⟩
   · exact h.elim
 · split at h
   · exact h.elim
   · obtain⟨c,h,hd⟩:=evT_det h
     exact⟨_,fun K'=>hd _⟩
   · exact h.elim
 · obtain⟨c,h,hd⟩:=ptK_det _ _ h
   obtain⟨r,hr⟩:=bldK_det K h
   exact⟨r,fun K'=>(hd _).trans (hr K')⟩
 · obtain⟨c,h,hd⟩:=evKs_det _ _ h
   obtain⟨r,hr⟩:=bltK_det K h
   exact⟨r,fun K'=>(hd _).trans (hr K')⟩
 · exact h.elim
/-! ## A bounded part -/
def Bdd (h:Hp):Prop:=∃N,∀b,N≤b→h b=none
theorem Bdd.upd {h:Hp} (hb:Bdd h) (b:Nat) (o:Obj):Bdd (upd h b o):=by
 obtain⟨N,hN⟩:=hb
 refine⟨max N (b+1),fun x hx=>?_⟩
 rw[upd_ne _ _ (by omega)]
 exact hN x (by omega)
theorem Cov.bdd {h:Hp} {w:World} (c:Cov h w):Bdd h:=by
 refine⟨w.heap.size,fun b hb=>?_⟩
 cases hx:h b with
 | none=>rfl
 | some o=>exact absurd (c.lt hx) (by omega)
theorem Bdd.world {h:Hp} (hb:Bdd h):∃w,Cov h w:=by
 obtain⟨N,hN⟩:=hb
 refine⟨{ (default:World) with heap:=Array.ofFn (n:=N) fun i=>(h i.1).getD default },fun b o ho=>?_⟩
 have hlt:b<N:=by
   rcases Nat.lt_or_ge b N with h1|h1
   · exact h1
   · rw[hN b h1] at ho;cases ho
 simp[hlt,ho]
theorem Bdd.fresh {h:Hp} (hb:Bdd h):∃b,h b=none:=let ⟨N,hN⟩:=hb;⟨N,hN N (Nat.le_refl _)⟩
/-! ## Each kind of operation -/
theorem storeK_mono {h:Hp} {q:Pt} {l:List Value} {K K':Hp→Prop} (hk:storeK h q l K) (hm:∀h',K h'→K' h'):storeK h q l K' :=
 let ⟨c,t,hb,hl,hK⟩:=hk;⟨c,t,hb,hl,hm _ hK⟩
theorem newK_mono {h:Hp} {o:Obj} {K K':Nat→Hp→Prop} (hk:newK h o K) (hm:∀b h',K b h'→K' b h'):newK h o K':=fun b hb=>hm _ _ (hk b hb)
def Beside {α:Type} (b:Nat) (o:Obj) (K:α→Hp→Prop):α→Hp→Prop:=fun r h=>∃h',h=upd h' b o∧h' b=none∧K r h'
theorem hcell_beside {h:Hp} {b:Nat} (o:Obj) (hb:h b=none) {x i:Nat} {v:Value} (hv:hcell h x i=some v):hcell (upd h b o) x i=some v:=by
 have hx:x≠b:=by
   intro e;subst e
   simp[hcell,hb] at hv
 unfold hcell at hv ⊢
 rw[upd_ne _ _ hx];exact hv
theorem rdL_beside {h:Hp} {b:Nat} (o:Obj) (hb:h b=none) {x:Nat}:∀ {l:List Value} {i:Nat},rdL h x i l→rdL (upd h b o) x i l
 | [],_,_=>trivial
 | _::_,_,hr=>⟨hcell_beside o hb hr.1,rdL_beside o hb hr.2⟩
theorem Stands.beside {h:Hp} {b:Nat} (o:Obj) (hb:h b=none) {q:Pt} {r:SV} (hs:Stands h q r):Stands (upd h b o) q r:=rdL_beside o hb hs
theorem storeK_beside {h:Hp} {b:Nat} {o:Obj} (hb:h b=none) {q:Pt} {l:List Value} {K:Hp→Prop} (hk:storeK h q l K) :
   storeK (upd h b o) q l fun h'=>∃h'',h'=upd h'' b o∧h'' b=none∧K h'':=by
 obtain⟨c,t,hq,hl,hK⟩:=hk
 have hne:q.b≠b:=by intro e;rw[e,hb] at hq;cases hq
 refine⟨c,t,by rw[upd_ne _ _ hne];exact hq,hl,_,upd_comm h _ _ (Ne.symm hne),?_,hK⟩
 rw[upd_ne _ _ (Ne.symm hne)];exact hb
theorem newK_beside {h:Hp} {b:Nat} {o p:Obj} (hb:h b=none) {K:Nat→Hp→Prop} (hk:newK h p K) :
   newK (upd h b o) p fun x h'=>∃h'',h'=upd h'' b o∧h'' b=none∧K x h'':=by
 intro x hx
 have hne:x≠b:=by intro e;subst e;rw[upd_same] at hx;cases hx
 rw[upd_ne _ _ hne] at hx
 refine⟨_,upd_comm h _ _ (Ne.symm hne),?_,hk x hx⟩
 rw[upd_ne _ _ (Ne.symm hne)];exact hb
theorem srcK_mono {h:Hp} {x:SV} {sz n:Nat} {K K':List Value→Prop} (hk:srcK h x sz n K) (hm:∀l,K l→K' l):srcK h x sz n K':=by
 unfold srcK at hk ⊢
 split at hk
 · obtain⟨l,h1,h2,h3,h4⟩:=hk;exact⟨l,h1,h2,h3,hm _ h4⟩
 · exact⟨hk.1,hm _ hk.2⟩
 · exact hk.elim
theorem srcK_beside {h:Hp} {b:Nat} {o:Obj} (hb:h b=none) {x:SV} {sz n:Nat} {K:List Value→Prop} (hk:srcK h x sz n K):srcK (upd h b o) x sz n K:=by
 unfold srcK at hk ⊢
 split at hk
 · obtain⟨l,h1,h2,h3,h4⟩:=hk
   refine⟨l,h1,h2,?_,h4⟩
   split at h3
   · exact rdL_beside o hb h3
   · exact h3
 · exact hk
 · exact hk.elim
theorem lenOfK_mono {x:SV} {K K':Nat→Prop} (hk:lenOfK x K) (hm:∀n,K n→K' n):lenOfK x K':=by
 unfold lenOfK at hk ⊢
 split at hk<;>first|exact hk.elim|exact hm _ hk
theorem callK_beside {P:Program} {f:FuncId} {args:List Value} {h:Hp} {b:Nat} {o:Obj} {Q:Value→Hp→Prop} (hb:h b=none) (hk:callK P f args h Q) :
   callK P f args (upd h b o) fun v h'=>∃h'',h'=upd h'' b o∧h'' b=none∧Q v h'':=by
 refine⟨hk.1,fun w c=>?_⟩
 have c0:Cov h w:=by
   intro x y hx
   have hne:x≠b:=by intro e;subst e;rw[hb] at hx;cases hx
   exact c x y (by rw[upd_ne _ _ hne];exact hx)
 have hw:w.heap[b]? =some o:=c b o (upd_same _ _ _)
 have hlt:b<w.heap.size:=(Array.getElem?_eq_some_iff.1 hw).1
 refine(hk.2 w c0).mono ?_
 rintro e w' ⟨v,h',rfl,hQ,c',g⟩
 obtain⟨hb',hw'⟩:=g.rest b hb hlt
 refine⟨v,upd h' b o,rfl,⟨h',rfl,hb',hQ⟩,?_,?_⟩
 · intro x y hx
   by_cases e:x=b
   · subst e;rw[upd_same] at hx;cases hx;rw[hw',hw]
   · rw[upd_ne _ _ e] at hx;exact c' x y hx
 · refine⟨g.os,g.tape,g.output,g.size,fun x hx hl=>?_⟩
   have hne:x≠b:=by intro e;subst e;rw[upd_same] at hx;cases hx
   rw[upd_ne _ _ hne] at hx
   rw[upd_ne _ _ hne]
   exact g.rest x hx hl
theorem yldK_beside {P:Program} {l:Nat} {args:List Value} {h:Hp} {b:Nat} {o:Obj} {Q:Value→Hp→Prop} (hb:h b=none) (hk:yldK P l args h Q) :
   yldK P l args (upd h b o) fun v h'=>∃h'',h'=upd h'' b o∧h'' b=none∧Q v h'':=by
 intro w c
 have c0:Cov h w:=by
   intro x y hx
   have hne:x≠b:=by intro e;subst e;rw[hb] at hx;cases hx
   exact c x y (by rw[upd_ne _ _ hne];exact hx)
 have hw:w.heap[b]? =some o:=c b o (upd_same _ _ _)
 have hlt:b<w.heap.size:=(Array.getElem?_eq_some_iff.1 hw).1
 obtain⟨r,h1,h2,h3⟩:=hk w c0
 refine⟨r,h1,h2,h3.mono ?_⟩
 rintro e w' ⟨v,h',rfl,hQ,c',g⟩
 obtain⟨hb',hw'⟩:=g.rest b hb hlt
 refine⟨v,upd h' b o,rfl,⟨h',rfl,hb',hQ⟩,?_,?_⟩
 · intro x y hx
   by_cases e:x=b
   · subst e;rw[upd_same] at hx;cases hx;rw[hw',hw]
   · rw[upd_ne _ _ e] at hx;exact c' x y hx
 · refine⟨g.os,g.tape,g.output,g.size,fun x hx hl=>?_⟩
   have hne:x≠b:=by intro e;subst e;rw[upd_same] at hx;cases hx
   rw[upd_ne _ _ hne] at hx
   rw[upd_ne _ _ hne]
   exact g.rest x hx hl
theorem callK_bdd {P:Program} {f:FuncId} {args:List Value} {h:Hp} {Q:Value→Hp→Prop} (hk:callK P f args h Q):callK P f args h fun v h'=>Q v h'∧Bdd h' :=
 ⟨hk.1,fun w c=>(hk.2 w c).mono fun _ _ ⟨v,h',he,hQ,c',g⟩=>⟨v,h',he,⟨hQ,c'.bdd⟩,c',g⟩⟩
theorem yldK_bdd {P:Program} {l:Nat} {args:List Value} {h:Hp} {Q:Value→Hp→Prop} (hk:yldK P l args h Q):yldK P l args h fun v h'=>Q v h'∧Bdd h':=fun w c =>
 let ⟨r,h1,h2,h3⟩:=hk w c
 ⟨r,h1,h2,h3.mono fun _ _ ⟨v,h',he,hQ,c',g⟩=>⟨v,h',he,⟨hQ,c'.bdd⟩,c',g⟩⟩
theorem callV_beside {P:Program} {x:Value} {args:List Value} {h:Hp} {b:Nat} {o:Obj} {Q:Value→Hp→Prop} (hb:h b=none) (hk:callV P x args h Q) :
   callV P x args (upd h b o) fun v h'=>∃h'',h'=upd h'' b o∧h'' b=none∧Q v h'':=by
 unfold callV at hk ⊢
 split at hk
 · exact⟨hk.1,callK_beside hb hk.2⟩
 · exact⟨hk.1,hk.2.1,yldK_beside hb hk.2.2⟩
 · exact hk.elim
theorem callV_bdd {P:Program} {x:Value} {args:List Value} {h:Hp} {Q:Value→Hp→Prop} (hk:callV P x args h Q):callV P x args h fun v h'=>Q v h'∧Bdd h':=by
 unfold callV at hk ⊢
 split at hk
 · exact⟨hk.1,callK_bdd hk.2⟩
 · exact⟨hk.1,hk.2.1,yldK_bdd hk.2.2⟩
 · exact hk.elim
theorem appK_mono {P:Program} {T:TypeId} {x:Sl} {y:SV} {h:Hp} {K K':Sl→Hp→Prop} (hk:appK P T x y h K) (hm:∀r h',K r h'→K' r h'):appK P T x y h K':=by
 unfold appK at hk ⊢
 split at hk
 · split at hk
   · refine lenOfK_mono hk fun n hk=>srcK_mono hk fun l hk=>?_
     cases hc:decide (x.len+n≤x.cap) with
     | true =>
       rw[hc] at hk
       simp only[cond_true] at hk ⊢
       split at hk
       · exact storeK_mono hk fun _ hh=>hm _ _ hh
       · exact⟨hk.1,hm _ _ hk.2⟩
     | false =>
       rw[hc] at hk
       simp only[cond_false] at hk ⊢
       exact⟨hk.1,hk.2.1,srcK_mono hk.2.2 fun l0 hh cp hcp=>newK_mono (hh cp hcp) fun _ _ h2=>hm _ _ h2⟩
   · exact hk.elim
 · exact hk.elim
theorem appK_beside {P:Program} {T:TypeId} {x:Sl} {y:SV} {h:Hp} {b:Nat} {o:Obj} (hb:h b=none) {K:Sl→Hp→Prop} (hk:appK P T x y h K) :
   appK P T x y (upd h b o) (Beside b o K):=by
 unfold appK at hk ⊢
 split at hk
 · split at hk
   · refine lenOfK_mono hk fun n hk=>srcK_mono (srcK_beside hb hk) fun l hk=>?_
     cases hc:decide (x.len+n≤x.cap) with
     | true =>
       rw[hc] at hk
       simp only[cond_true] at hk ⊢
       split at hk
       · exact storeK_mono (storeK_beside hb hk) fun _ hh=>hh
       · exact⟨hk.1,h,rfl,hb,hk.2⟩
     | false =>
       rw[hc] at hk
       simp only[cond_false] at hk ⊢
       exact⟨hk.1,hk.2.1,srcK_mono (srcK_beside hb hk.2.2) fun l0 hh cp hcp=>newK_mono (newK_beside hb (hh cp hcp)) fun _ _ h2=>h2⟩
   · exact hk.elim
 · exact hk.elim
theorem appK_bdd {P:Program} {T:TypeId} {x:Sl} {y:SV} {h:Hp} (hB:Bdd h) {K:Sl→Hp→Prop} (hk:appK P T x y h K) :
   appK P T x y h (fun r h'=>K r h'∧Bdd h'):=by
 unfold appK at hk ⊢
 split at hk
 · split at hk
   · refine lenOfK_mono hk fun n hk=>srcK_mono hk fun l hk=>?_
     cases hc:decide (x.len+n≤x.cap) with
     | true =>
       rw[hc] at hk
       simp only[cond_true] at hk ⊢
       split at hk
       · obtain⟨c,t,h1,h2,h3⟩:=hk
         exact⟨c,t,h1,h2,h3,hB.upd _ _⟩
       · exact⟨hk.1,hk.2,hB⟩
     | false =>
       rw[hc] at hk
       simp only[cond_false] at hk ⊢
       exact⟨hk.1,hk.2.1,srcK_mono hk.2.2 fun l0 hh cp hcp b hbb=>⟨hh cp hcp b hbb,hB.upd _ _⟩⟩
   · exact hk.elim
 · exact hk.elim
theorem cpyK_mono {P:Program} {T:TypeId} {x:Sl} {y:SV} {h:Hp} {K K':Nat→Hp→Prop} (hk:cpyK P T x y h K) (hm:∀r h',K r h'→K' r h'):cpyK P T x y h K':=by
 unfold cpyK at hk ⊢
 split at hk
 · split at hk
   · refine lenOfK_mono hk fun n hk=>srcK_mono hk fun l hk=>?_
     split at hk
     · exact storeK_mono hk fun _ hh=>hm _ _ hh
     · exact⟨hk.1,hm _ _ hk.2⟩
   · exact hk.elim
 · exact hk.elim
theorem cpyK_beside {P:Program} {T:TypeId} {x:Sl} {y:SV} {h:Hp} {b:Nat} {o:Obj} (hb:h b=none) {K:Nat→Hp→Prop} (hk:cpyK P T x y h K) :
   cpyK P T x y (upd h b o) (Beside b o K):=by
 unfold cpyK at hk ⊢
 split at hk
 · split at hk
   · refine lenOfK_mono hk fun n hk=>srcK_mono (srcK_beside hb hk) fun l hk=>?_
     split at hk
     · exact storeK_mono (storeK_beside hb hk) fun _ hh=>hh
     · exact⟨hk.1,h,rfl,hb,hk.2⟩
   · exact hk.elim
 · exact hk.elim
theorem cpyK_bdd {P:Program} {T:TypeId} {x:Sl} {y:SV} {h:Hp} (hB:Bdd h) {K:Nat→Hp→Prop} (hk:cpyK P T x y h K) :
   cpyK P T x y h (fun r h'=>K r h'∧Bdd h'):=by
 unfold cpyK at hk ⊢
 split at hk
 · split at hk
   · refine lenOfK_mono hk fun n hk=>srcK_mono hk fun l hk=>?_
     split at hk
     · obtain⟨c,t,h1,h2,h3⟩:=hk
       exact⟨c,t,h1,h2,h3,hB.upd _ _⟩
     · exact⟨hk.1,hk.2,hB⟩
   · exact hk.elim
 · exact hk.elim
/-! ## The classes -/
inductive Cls where
 | pur|read|act|new
 deriving DecidableEq
def cls:Op→Cls
 | .load _ _=> .read
 | .store _ _ _=> .act
 | .box _ _=> .new
 | .alloc _=> .new
 | .buildSlice _ _ _=> .new
 | .makeSlice _ _ _=> .new
 | .makeMap _ none=> .new
 | .call { callee:= .builtin .append,.. }=> .act
 | .call { callee:= .builtin .copy,.. }=> .act
 | .call { callee:= .value _,.. }=> .act
 | .call { callee:= .builtin .clear,.. }=> .act
 | .mapUpdate _ _ _ _=> .act
 | _=> .pur
def IsNew (R:Hp→(SV→Hp→Prop)→Prop):Prop :=
 ∃(o:Obj) (mk:Nat→SV),∀h' K',R h' K'↔∀b,h' b=none→K' (mk b) (upd h' b o)
mutual
theorem exT_mono:∀(t:Ty) (K K':SV→Prop),exT t K→(∀r,K r→K' r)→exT t K'
 | .i k,K,K',⟨n,hk⟩,hm=>⟨n,hm _ hk⟩
 | .u,K,K',⟨n,hk⟩,hm=>⟨n,hm _ hk⟩
 | .b,K,K',⟨n,hk⟩,hm=>⟨n,hm _ hk⟩
 | .p,K,K',⟨n,hk⟩,hm=>⟨n,hm _ hk⟩
 | .f,K,K',⟨n,c,hk⟩,hm=>⟨n,c,hm _ hk⟩
 | .pn,K,K',⟨n,hk⟩,hm=>⟨n,hm _ hk⟩
 | .s,K,K',⟨n,hk⟩,hm=>⟨n,hm _ hk⟩
 | .str,K,K',⟨n,hk⟩,hm=>⟨n,hm _ hk⟩
 | .m,K,K',⟨n,hk⟩,hm=>⟨n,hm _ hk⟩
 | .ws n,K,K',⟨c,hk⟩,hm=>⟨c,hm _ hk⟩
 | .ag l,K,K',hl,hm=>exTL_mono l _ _ hl fun r hr=>hm _ hr
 | .tup l,K,K',hl,hm=>exTL_mono l _ _ hl fun r hr=>hm _ hr
 | .v,K,K',⟨x,hk⟩,hm=>⟨x,hm _ hk⟩
theorem exTL_mono:∀(l:List Ty) (K K':List SV→Prop),exTL l K→(∀r,K r→K' r)→exTL l K'
 | [],K,K',hk,hm=>hm _ hk
 | t::l,K,K',hk,hm=>exT_mono t _ _ hk fun r hr=>exTL_mono l _ _ hr fun rs hrs=>hm _ hrs
end
mutual
theorem loadK_gen (h:Hp) (b:Nat):∀(t:Ty) (o:Nat) (K:SV→Prop),loadK h b t o K →
   ∃r,K r∧rdL h b o (SV.cells r)∧r≠.no∧(SV.cells r).length=t.size∧∀h' K',rdL h' b o (SV.cells r)→K' r→loadK h' b t o K'
 | .i k,o,K,⟨n,hn,hk⟩=>⟨_,hk,⟨hn,trivial⟩,by simp,rfl,fun _ _ hr hk'=>⟨n,hr.1,hk'⟩⟩
 | .u,o,K,⟨n,hn,hk⟩=>⟨_,hk,⟨hn,trivial⟩,by simp,rfl,fun _ _ hr hk'=>⟨n,hr.1,hk'⟩⟩
 | .b,o,K,⟨n,hn,hk⟩=>⟨_,hk,⟨hn,trivial⟩,by simp,rfl,fun _ _ hr hk'=>⟨n,hr.1,hk'⟩⟩
 | .p,o,K,⟨n,hn,hk⟩=>⟨_,hk,⟨hn,trivial⟩,by simp,rfl,fun _ _ hr hk'=>⟨n,hr.1,hk'⟩⟩
 | .f,o,K,⟨n,c,hn,hk⟩=>⟨_,hk,⟨hn,trivial⟩,by simp,rfl,fun _ _ hr hk'=>⟨n,c,hr.1,hk'⟩⟩
 | .pn,o,K,⟨n,hn,hk⟩=>⟨_,hk,⟨hn,trivial⟩,by simp,rfl,fun _ _ hr hk'=>⟨n,hr.1,hk'⟩⟩
 | .s,o,K,⟨n,hn,hk⟩=>⟨_,hk,⟨hn,trivial⟩,by simp,rfl,fun _ _ hr hk'=>⟨n,hr.1,hk'⟩⟩
 | .str,o,K,⟨n,hn,hk⟩=>⟨_,hk,⟨hn,trivial⟩,by simp,rfl,fun _ _ hr hk'=>⟨n,hr.1,hk'⟩⟩
 | .m,o,K,⟨n,hn,hk⟩=>⟨_,hk,⟨hn,trivial⟩,by simp,rfl,fun _ _ hr hk'=>⟨n,hr.1,hk'⟩⟩
 | .ws n,o,K,⟨c,hc,hk⟩=>by
     refine⟨.ws n c,hk,?_,by simp,by simp[SV.cells,Ty.size],fun h' K' hr hk'=>⟨c,?_,hk'⟩⟩
     · rw[rdL_iff];intro i hi
       have hi':i<n:=by simpa [SV.cells] using hi
       rw[hc i hi'];simp[SV.cells]
     · intro i hi
       have:=(rdL_iff h' b _ o).1 hr i (by simpa [SV.cells] using hi)
       rw[this];simp[SV.cells]
 | .ag l,o,K,hl=>by
     obtain⟨r,hk,hr,hn,hg⟩:=loadKL_gen h b l o _ hl
     exact⟨.ag r,hk,hr,by simp,hn,fun h' K' hr' hk'=>hg h' _ hr' hk'⟩
 | .tup _,_,_,hl=>hl.elim
 | .v,o,K,⟨x,hx,h1,hk⟩=>⟨_,hk,⟨hx,trivial⟩,by simp,rfl,fun _ _ hr hk'=>⟨x,hr.1,h1,hk'⟩⟩
theorem loadKL_gen (h:Hp) (b:Nat):∀(l:List Ty) (o:Nat) (K:List SV→Prop),loadKL h b l o K →
   ∃r,K r∧rdL h b o (SV.cellsL r)∧(SV.cellsL r).length=Ty.sizeL l∧∀h' K',rdL h' b o (SV.cellsL r)→K' r→loadKL h' b l o K'
 | [],o,K,hk=>⟨[],hk,trivial,rfl,fun _ _ _ hk'=>hk'⟩
 | t::l,o,K,hk=>by
    obtain⟨r,hk1,hr,_,hn,hg⟩:=loadK_gen h b t o _ hk
    obtain⟨rs,hk2,hrs,hns,hgs⟩:=loadKL_gen h b l _ _ hk1
    refine⟨r::rs,hk2,?_,by simp[SV.cellsL,Ty.sizeL,hn,hns],fun h' K' hr' hk'=>?_⟩
    · show rdL h b o (SV.cells r++SV.cellsL rs)
      rw[rdL_append,hn];exact⟨hr,hrs⟩
    · have hr2:rdL h' b o (SV.cells r++SV.cellsL rs):=hr'
      rw[rdL_append,hn] at hr2
      exact hg h' _ hr2.1 (hgs h' _ hr2.2 hk')
end
theorem ldK_gen {P:Program} {T:TypeId} {h:Hp} {q:Pt} {K:SV→Prop} (hl:ldK P T h q K) :
   ∃r,K r∧Stands h q r∧r≠.no∧∀h' K',Stands h' q r→K' r→ldK P T h' q K':=by
 unfold ldK at hl
 split at hl
 · rename_i hc
   obtain⟨r,hk,hr,hn,_,hg⟩:=loadK_gen _ _ _ _ _ hl
   exact⟨r,hk,hr,hn,fun h' K' hs hk'=>by unfold ldK;rw[if_pos hc];exact hg h' K' hs hk'⟩
 · exact hl.elim
def adr (n:Nat) (o:Op) (e:Env):Option Pt :=
 match o with
 | .load _ (.tmp t)=>match (if t<n then e t else none) with|some (.p q)=>some q|_=>none
 | .load _ (.global g)=>some ⟨g,0⟩
 | _=>none
section
variable {P:Program} {n:Nat} {o:Op} {ty:TypeId} {e:Env} {h:Hp} {K:SV→Hp→Prop}
theorem opK_pur (hc:cls o= .pur):opK P n o ty e h K=pureK P n o ty e fun r=>K r h:=by
 unfold opK
 split<;>first|(simp[cls] at hc;done)|rfl
theorem opK_read (hc:cls o= .read) (hk:opK P n o ty e h K) :
   ∃q r,adr n o e=some q∧K r h∧Stands h q r∧r≠.no∧∀h' K',Stands h' q r→K' r h'→opK P n o ty e h' K':=by
 obtain⟨T,a,rfl⟩:∃T a,o= .load T a:=by
   cases o with
   | load T a=>exact⟨T,a,rfl⟩
   | makeMap t r=>cases r<;>simp[cls] at hc
   | call c =>
     obtain⟨callee,args,ats⟩:=c
     cases callee with
     | builtin b=>cases b<;>simp[cls] at hc
     | value f=>simp[cls] at hc
     | invoke r m=>simp[cls] at hc
   | _=>simp[cls] at hc
 simp only[opK] at hk
 obtain⟨s,hk,hd⟩:=evK_det hk
 split at hk
 · rename_i q
   obtain⟨r,hk,hs,hn,hg⟩:=ldK_gen hk
   refine⟨q,r,?_,hk,hs,hn,fun h' K' hs' hk'=>?_⟩
   · cases a with
     | tmp t =>
       have:=(hd (fun s'=>s'= .p q)).2 rfl
       simp only[evK] at this
       simp only[adr]
       split at this
       · rename_i s hs';subst this;rw[hs']
       · exact this.elim
     | const v =>
       exfalso
       have:=(hd (fun s'=>s'= .p q)).2 rfl
       simp only[evK,ofV] at this
       split at this<;>first|cases this|(split at this<;>cases this)
     | global g =>
       have:=(hd (fun s'=>s'= .p q)).2 rfl
       simp only[evK] at this
       cases this;rfl
     | func f =>
       exfalso
       have:=(hd (fun s'=>s'= .p q)).2 rfl
       simp only[evK] at this
       cases this
   · simp only[opK]
     exact(hd _).2 (hg h' _ hs' hk')
 · exact hk.elim
theorem opK_new (hc:cls o= .new) (hk:opK P n o ty e h K):IsNew (opK P n o ty e):=by
 unfold opK at hk
 split at hk<;>try (simp[cls] at hc;done)
 · obtain⟨s,hk,hd⟩:=evT_det hk
   obtain⟨hf,hk⟩:=flatK_elim hk
   exact⟨_,fun b=> .p ⟨b,0⟩,fun h' K'=>by simp only[opK];exact(hd _).trans ⟨fun h=>(flatK_elim h).2,fun h=>flatK_intro hf h⟩⟩
 · split at hk
   · rename_i z hz
     exact⟨_,fun b=> .p ⟨b,0⟩,fun h' K'=>by simp only[opK,hz];exact Iff.rfl⟩
   · exact hk.elim
 · rename_i T len ps
   obtain⟨s,hk,hd⟩:=ptK_det _ _ hk
   have hbl:∀h (K:Sl→Hp→Prop),bldRow P T len s h K→IsNew (fun h (K:SV→Hp→Prop)=>bldRow P T len s h fun r h=>K (.s r) h):=by
     intro h K hk
     unfold bldRow at hk
     split at hk
     · rename_i el hu
       split at hk
       · rename_i sz z hz hzr
         split at hk
         · rename_i hcc
           exact⟨_,fun b=> .s ⟨some ⟨b,0⟩,len,len,none⟩,fun h' K'=>by unfold bldRow;simp only[hu,hz,hzr];rw[if_pos hcc];exact Iff.rfl⟩
         · exact hk.elim
       · exact hk.elim
     · exact hk.elim
   obtain⟨ob,mk,h1⟩:=hbl _ _ hk
   exact⟨ob,mk,fun h' K'=>by simp only[opK];exact(hd _).trans (h1 h' K')⟩
 · rename_i T l c
   obtain⟨s,hk,hd⟩:=evK_det hk
   obtain⟨s2,hk,hd2⟩:=evK_det hk
   obtain⟨k,i,hk,hd3⟩:=numK_det hk
   obtain⟨k',i',hk,hd4⟩:=numK_det hk
   have hbl:∀h (K:Sl→Hp→Prop),mkRow P T i i' h K→IsNew (fun h (K:SV→Hp→Prop)=>mkRow P T i i' h fun r h=>K (.s r) h):=by
     intro h K hk
     unfold mkRow at hk
     split at hk
     · rename_i el hu
       split at hk
       · rename_i sz z by_ hz hzr hby
         obtain⟨h1,h2,h3,h4,hk⟩:=hk
         exact⟨_,fun b=> .s ⟨some ⟨b,0⟩,i.toNat,i'.toNat,none⟩,fun h' K'=>by unfold mkRow;simp only[hu,hz,hzr,hby];exact⟨fun hh=>hh.2.2.2.2,fun hk'=>⟨h1,h2,h3,h4,hk'⟩⟩⟩
       · exact hk.elim
     · exact hk.elim
   obtain⟨ob,mk,h1⟩:=hbl _ _ hk
   exact⟨ob,mk,fun h' K'=>by simp only[opK];exact(hd _).trans ((hd2 _).trans ((hd3 _).trans ((hd4 _).trans (h1 h' K'))))⟩
 · exact⟨_,fun b=> .m (some b),fun h' K'=>by simp only[opK];exact Iff.rfl⟩
theorem mupK_mono {h:Hp} {r:Option Nat} {k:UInt64} {v:Value} {K K':Hp→Prop} (hk:mupK h r k v K) (hm:∀h',K h'→K' h'):mupK h r k v K' :=
 let ⟨b,l,c,h1,h2,h3⟩:=hk;⟨b,l,c,h1,h2,hm _ h3⟩
theorem mupK_beside {h:Hp} {b:Nat} {o:Obj} (hb:h b=none) {r:Option Nat} {k:UInt64} {v:Value} {K:Hp→Prop} (hk:mupK h r k v K) :
   mupK (upd h b o) r k v fun h'=>∃h'',h'=upd h'' b o∧h'' b=none∧K h'':=by
 obtain⟨x,l,c,h1,h2,h3⟩:=hk
 have hne:x≠b:=by intro e;rw[e,hb] at h2;cases h2
 exact⟨x,l,c,h1,by rw[upd_ne _ _ hne];exact h2,_,upd_comm h _ _ (Ne.symm hne),by rw[upd_ne _ _ (Ne.symm hne)];exact hb,h3⟩
theorem clrK_mono {h:Hp} {T:TypeId} {x:Sl} {K K':Hp→Prop} (hk:clrK P T x h K) (hm:∀h',K h'→K' h'):clrK P T x h K':=by
 unfold clrK at hk ⊢
 split at hk
 · split at hk
   · split at hk
     · rename_i h1
       simp only[h1,if_true]
       cases h0:decide (x.len=0) with
       | true=>rw[h0] at hk;exact hm _ hk
       | false=>rw[h0] at hk;obtain⟨q,hq,hk⟩:=hk;exact⟨q,hq,storeK_mono hk hm⟩
     · exact hk.elim
   · exact hk.elim
 · exact hk.elim
theorem clrK_beside {h:Hp} {b:Nat} {o:Obj} (hb:h b=none) {T:TypeId} {x:Sl} {K:Hp→Prop} (hk:clrK P T x h K) :
   clrK P T x (upd h b o) fun h'=>∃h'',h'=upd h'' b o∧h'' b=none∧K h'':=by
 unfold clrK at hk ⊢
 split at hk
 · split at hk
   · split at hk
     · rename_i h1
       simp only[h1,if_true]
       cases h0:decide (x.len=0) with
       | true=>rw[h0] at hk;exact⟨h,rfl,hb,hk⟩
       | false=>rw[h0] at hk;obtain⟨q,hq,hk⟩:=hk;exact⟨q,hq,storeK_beside hb hk⟩
     · exact hk.elim
   · exact hk.elim
 · exact hk.elim
theorem clrK_bdd {h:Hp} {T:TypeId} {x:Sl} {K:Hp→Prop} (hB:Bdd h) (hk:clrK P T x h K):clrK P T x h fun h'=>K h'∧Bdd h':=by
 unfold clrK at hk ⊢
 split at hk
 · split at hk
   · split at hk
     · rename_i h1
       simp only[h1,if_true]
       cases h0:decide (x.len=0) with
       | true=>rw[h0] at hk;exact⟨hk,hB⟩
       | false=>rw[h0] at hk;obtain⟨q,hq,c,t,a1,a2,a3⟩:=hk;exact⟨q,hq,c,t,a1,a2,a3,hB.upd _ _⟩
     · exact hk.elim
   · exact hk.elim
 · exact hk.elim
theorem opK_act (hc:cls o= .act) (hk:opK P n o ty e h K) :
   (∀K',(∀r h',K r h'→K' r h')→opK P n o ty e h K') ∧
   (∀b ob,h b=none→opK P n o ty e (upd h b ob) (Beside b ob K)) ∧
   (Bdd h→opK P n o ty e h fun r h'=>K r h'∧Bdd h'):=by
 unfold opK at hk
 split at hk<;>try (simp[cls] at hc;done)
 · rename_i T a x
   obtain⟨s,hk,hd⟩:=evK_det hk
   split at hk
   · rename_i q
     obtain⟨r,hk,hd2⟩:=evT_det hk
     split at hk
     · rename_i hcc
       obtain⟨hf,hk⟩:=flatK_elim hk
       refine⟨fun K' hm=>?_,fun b ob hb=>?_,fun hB=>?_⟩
       all_goals
         simp only[opK]
         refine(hd _).2 ((hd2 _).2 ?_)
         rw[if_pos hcc]
         refine flatK_intro hf ?_
       · exact storeK_mono hk fun _ hh=>hm _ _ hh
       · exact storeK_mono (storeK_beside hb hk) fun _ hh=>hh
       · obtain⟨c,t,h1,h2,h3⟩:=hk
         exact⟨c,t,h1,h2,h3,hB.upd _ _⟩
     · exact hk.elim
   · exact hk.elim
 · rename_i args ats
   obtain⟨r,hk,hd⟩:=evAs_det _ _ _ hk
   split at hk
   · rename_i x y
     split at hk
     · rename_i T T' hT hT'
       split at hk
       · rename_i ht
         refine⟨fun K' hm=>?_,fun b ob hb=>?_,fun hB=>?_⟩
         all_goals
           simp only[opK]
           refine(hd _).2 ?_
           simp only[hT,hT',ht,if_true]
         · exact appK_mono hk fun _ _=>hm _ _
         · exact appK_beside hb hk
         · exact appK_bdd hB hk
       · exact hk.elim
     · exact hk.elim
   · exact hk.elim
 · rename_i args ats
   obtain⟨r,hk,hd⟩:=evAs_det _ _ _ hk
   split at hk
   · rename_i x y
     split at hk
     · rename_i T hT
       refine⟨fun K' hm=>?_,fun b ob hb=>?_,fun hB=>?_⟩
       all_goals
         simp only[opK]
         refine(hd _).2 ?_
         simp only[hT]
       · exact cpyK_mono hk fun _ _=>hm _ _
       · exact cpyK_beside hb hk
       · exact cpyK_bdd hB hk
     · exact hk.elim
   · exact hk.elim
 · rename_i args ats
   obtain⟨r,hk,hd⟩:=evAs_det _ _ _ hk
   split at hk
   · rename_i x
     split at hk
     · rename_i T hT
       refine⟨fun K' hm=>?_,fun b ob hb=>?_,fun hB=>?_⟩
       all_goals
         simp only[opK]
         refine(hd _).2 ?_
         simp only[hT]
       · exact clrK_mono hk fun _=>hm _ _
       · exact clrK_beside hb hk
       · exact clrK_bdd hB hk
     · exact hk.elim
   · exact hk.elim
 · rename_i T m k x
   split at hk
   · rename_i kt vt hu
     split at hk
     · rename_i kd hu2
       obtain⟨mv,hk,hd⟩:=evK_det hk
       obtain⟨kv,hk,hd2⟩:=evK_det hk
       obtain⟨xv,hk,hd3⟩:=evT_det hk
       split at hk
       · rename_i r k'
         refine⟨fun K' hm=>?_,fun b ob hb=>?_,fun hB=>?_⟩
         all_goals
           simp only[opK,hu,hu2]
           refine(hd _).2 ((hd2 _).2 ((hd3 _).2 ?_))
         · exact mupK_mono hk fun _=>hm _ _
         · exact mupK_beside hb hk
         · obtain⟨x,l,c,h1,h2,h3⟩:=hk
           exact⟨x,l,c,h1,h2,h3,hB.upd _ _⟩
       · exact hk.elim
     · exact hk.elim
   · exact hk.elim
 · rename_i f args ats
   obtain⟨fv,hk,hd⟩:=evK_det hk
   obtain⟨r,hk,hd2⟩:=evAs_det _ _ _ hk
   split at hk
   · rename_i g c hk2
     split at hk
     rotate_left
     · rename_i hok
       obtain⟨v,hrun,hv⟩:=hk
       refine⟨fun K' hm=>?_,fun b ob hb=>?_,fun hB=>?_⟩
       all_goals
         simp only[opK]
         refine(hd _).2 ((hd2 _).2 ?_)
         simp only[hok]
       · exact⟨v,hrun,exT_mono _ _ _ hv fun r hr=>⟨hr.1,hm _ _ hr.2⟩⟩
       · exact⟨v,hrun,exT_mono _ _ _ hv fun r hr=>⟨hr.1,h,rfl,hb,hr.2⟩⟩
       · exact⟨v,hrun,exT_mono _ _ _ hv fun r hr=>⟨hr.1,hr.2,hB⟩⟩
     rename_i hok
     refine⟨fun K' hm=>?_,fun b ob hb=>?_,fun hB=>?_⟩
     all_goals
       simp only[opK]
       refine(hd _).2 ((hd2 _).2 ?_)
       simp only[hok]
     · exact hk.mono fun v h' hh=>exT_mono _ _ _ hh fun r hr=>⟨hr.1,hm _ _ hr.2⟩
     · refine(callK_beside hb hk).mono ?_
       rintro v h' ⟨h'',rfl,hb'',hh⟩
       exact exT_mono _ _ _ hh fun r hr=>⟨hr.1,h'',rfl,hb'',hr.2⟩
     · exact(callK_bdd hk).mono fun v h' hh=>exT_mono _ _ _ hh.1 fun r hr=>⟨hr.1,hr.2,hh.2⟩
   · rename_i x
     refine⟨fun K' hm=>?_,fun b ob hb=>?_,fun hB=>?_⟩
     all_goals
       simp only[opK]
       refine(hd _).2 ((hd2 _).2 ?_)
     · exact hk.mono fun v h' hh=>exT_mono _ _ _ hh fun r hr=>⟨hr.1,hm _ _ hr.2⟩
     · refine(callV_beside hb hk).mono ?_
       rintro v h' ⟨h'',rfl,hb'',hh⟩
       exact exT_mono _ _ _ hh fun r hr=>⟨hr.1,h'',rfl,hb'',hr.2⟩
     · exact(callV_bdd hk).mono fun v h' hh=>exT_mono _ _ _ hh.1 fun r hr=>⟨hr.1,hr.2,hh.2⟩
   · exact hk.elim
end
end Go.Sh

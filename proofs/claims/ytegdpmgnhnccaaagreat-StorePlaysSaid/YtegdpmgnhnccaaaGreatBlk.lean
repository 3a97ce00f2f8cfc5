import Derived.Test.YtegdpmgnhnccaaaGreatLevG
import Derived.Lib.Walk
import Derived.Lib.Small
namespace Go.Proofs.Tryz
open Go Go.cQ Go.RowKit
set_option maxHeartbeats 4000000 in
set_option maxRecDepth 100000 in
theorem aai (aV mp:Nat)(w:World)(n:Nat)(l:Array MapEntry)(clock:Nat)(c:Array Value)(t:TypeId)(aa:w.heap[aV]? =dB c t)(ad:c[6]? =some (.map (some mp)))(aq:w.heap[mp]? =some (.map l clock)) :
 Calls prog 72 #[.pointer (some ⟨aV,0,none⟩)] w λe bX=>e= .returned (U l.size)/\bX=w:=by
 have aT:w.cell? ⟨aV,6,none⟩=some (.map (some mp)):=by simp[World.cell?,aa,ad]
 have jW:=run_len_map (P:=prog) (w:=w) 196 3 mp l clock (by kernel_rfl) aq
 go_enter func72,ntmps72
 go_wp2
 go_ret
 exact⟨rfl,rfl⟩
theorem aaj {h:ai}{aV mp:Nat}{c:Array Value}{t:TypeId}{ids:List a8}(e:h aV=dB c t)(ad:c[6]? =some (.map (some mp)))(m:lf h mp ids) :
 aw 72 [bu ⟨aV,0⟩] h λv ag=>v=U ids.length/\ag=h:=by
 obtain⟨l,clock,aq,aJ⟩:=m;refine⟨by kernel_rfl,λw hs=>(aai aV mp w 0 _ clock c t (hs _ _ e) ad (hs _ _ aq)).mono λe bX ⟨he,hw⟩=>⟨_,h,he,⟨?_,rfl⟩,hw▸hs,hw▸dN.refl _ _⟩⟩;rw[<-aJ];simp
theorem aak {h:ai}{aV:Nat}{c:Array Value}{t:TypeId}{b:Bool}(e:h aV=dB c t)(ad:c[5]? =some (.bool b)) :
 aw 71 [bu ⟨aV,0⟩] h λv ag=>v= .bool b/\ag=h:=by
 refine aal _ ?_;unfold OU;exact⟨_,aF e ad,rfl,rfl⟩
section
variable {T:TypeId} {m:jo} {R:dw} {a_:List dt} {es:an} {h:ai}
theorem aam {P:c1}{f:Nat}(o:P.dk)(L:oR m P f)(M:cN T m R a_ es h) :
 aw 90 [bu ⟨m.b,0⟩,U f,.agg #[U (2 ^ P.k),U P.s,U P.t]] h λv ag=>∃(aV mp:Nat),v= .tuple #[bu ⟨aV,0⟩,U 0]/\ag aV=dB (l3 P m.b f false mp) 198/\lf ag mp []/\h aV=none/\h mp=none/\aV≠mp/\bB h ag:=by
 have ol:=o.fu;have bf:=L.bf;have jq:=L.ep;refine aan _ _ _ _ _ ?_;unfold OV;refine bL λaj aa f1 aC aE=>jV aC ?_;refine(OS ol).to λad az=>⟨_,_,_,rfl,jV (az.get aC) ?_⟩;refine(H5 ol).to λaq aD=>⟨_,rfl,b0 rfl ?_⟩;have jX:=(aE.trans az).trans aD;have oS:=(az.trans aD).get aC;have fS:=M.bE jX;have arF:((2 ^ P.k:Nat):Int)=2 ^ P.k:=by simp
 have ia:((P.s*(2 ^ (P.k+1)-1):Nat):Int)=P.s*(2*2 ^ P.k-1):=by
  have aM:1<=2 ^ P.k:=auJ;rw[atP,ava,Int.natCast_sub (by omega)];simp[Int.mul_comm]
 refine(uw fS (r:=f) (by omega)).mono ?_;rintro _ _ ⟨rfl,rfl⟩;refine⟨_,rfl,b0 ?_ ?_⟩
 .show decide (((m.cq f:Nat):Int)<_)=false;rw[L.gT,ia];exact hv
 rw[show al ((f:Int)+1)=((f+1:Nat):Int) by rw[bl];omega,show al ((f:Int)+2)=((f+2:Nat):Int) by rw[bl];omega];refine(uw fS (r:=f+1) (by omega)).mono ?_;rintro _ _ ⟨rfl,rfl⟩;refine⟨_,rfl,b0 ?_ ?_⟩
 .show decide (((m.cq (f+1):Nat):Int)<_)=false;rw[L.ev];exact hv
 refine(uw fS (r:=f+2) (by omega)).mono ?_;rintro _ _ ⟨rfl,rfl⟩;refine⟨_,rfl,b0 ?_ ?_⟩
 .show decide (((m.cq (f+2):Nat):Int)<_)=false;rw[L.e5,L.kO];simp
 refine jV oS (bL λaB aJ f4 b5 bc=>bL λaS aW f5 cD bU=>?_);have n32:aB≠aS:=λe=>by rw[<-e,b5] at f5;cases f5
 exact⟨aS,aB,rfl,cD,⟨[],0,bU.get b5,rfl⟩,(jX.trans bc).free f5,jX.free f4,atf n32,(jX.trans bc).trans bU⟩
end

import Derived.Test.YtofgadhgljjhgaaGreatMem
import Derived.Test.YtofgadhgljjhgaaGreatEvC
namespace Go.Proofs.Tryz
open Go Go.cD Go.RowKit
set_option maxRecDepth 8000
theorem uh {i:Nat}(h:i<2 ^ 63):(cI (i:Int)).toNat=i:=by
 have a8:((cI (i:Int)).toNat:Int)=i:=AK (by simp[yv];omega)
 omega
theorem jk {i:Nat}(h:i<2 ^ 63):cI (i:Int)=UInt64.ofNat i:=by
 apply UInt64.toNat_inj.1
 rw[uh h,UInt64.toNat_ofNat'];omega
theorem acD {i:Nat}(h:i<2 ^ 63)(x:UInt64):(cI (i:Int)==x)=decide (i=x.toNat):=by
 rw[Bool.eq_iff_iff]
 simp only[beq_iff_eq,decide_eq_true_eq]
 constructor
 .rintro rfl;exact(uh h).symm
 .intro e;apply UInt64.toNat_inj.1;rw[uh h,e]
theorem Kj (R:dF)(q:Nat×Nat):fA R q (R q.1 q.2)=R:=by
 funext r i;unfold fA;split
 .rename_i h;rw[h.1,h.2]
 .rfl
theorem LM (R:dF){q:Nat×Nat}{c:cv}{r i:Nat}(h:¬(r=q.1/\i=q.2)):fA R q c r i=R r i:=by unfold fA;rw[if_neg h]
section
variable {T:TypeId} {m:jw} {R:dF} {a7:List de} {es:ar} {h:ak}
theorem aud (M:cV T m R a7 es h){r:Nat}(aP:r<m.eX)(x:UInt64)(aT:a7.length<4000000000000) :
 ao 85 [bg ⟨m.b,0⟩,U r,ab x] h λv ah=>∃aW,v=ea (if x.toNat<m.cf r then R r x.toNat else e6)/\cV T m R (a7++reads r (m.cf r)) aW ah/\bT (bF m es) h (bF m aW) ah:=by
 have oD:=M.cf r aP
 refine aoO _ _ _ ?_
 unfold Zx
 refine bM λae aa f1 aF aE=>bM λay ad f2 a8 aC=>?_
 have cA:ay≠ae:=λe=>by rw[e,aF] at f2;cases f2
 have M2:=M.bD (aE.trans aC)
 refine(ta M2 aP).mono ?_
 rintro _ _ ⟨rfl,rfl⟩
 have f20:=aE.free f2
 refine⟨_,rfl,λq1 aA bq aJ bd aL aO g k=>q1=⟨m.b,0⟩/\aA=r/\x=bq/\aJ=⟨ae,0⟩/\bd=⟨ay,0⟩/\aL=(m.cf r:Nat)/\∃i aW,aO=(i:Nat)/\i<=m.cf r/\k=m.cf r-i/\cV T m R (a7++reads r i) aW g/\bT (bF m es) h (bF m aW) g/\¬bF m aW ae/\¬bF m aW ay /\
  g ae=some (.cells (af.cells (.ws 12 e6)).toArray 56 (0,0))/\g ay=some (.cells (af.cells (.ws 12 (if x.toNat<i then R r x.toNat else e6))).toArray 56 (0,0)),
  ⟨m.cf r,rfl,rfl,rfl,rfl,rfl,rfl,0,es,rfl,by omega,rfl,by simpa [reads] using M2,hF (aE.trans aC) _,M.out f1,M.out f20,aC.get aF,a8⟩,?_⟩
 rintro q1 aA bq aJ bd aL aO g k ⟨rfl,rfl,rfl,rfl,rfl,rfl,i,aW,rfl,hi,rfl,gk,fS,e1,kp,g1,g2⟩
 have qv:=wG r i
 refine cd (λca=>?_) λdx=>?_
 .have b5:i<m.cf r:=by omega
  refine⟨_,dv g2,?_⟩
  refine(L3 _ _).to λbo hI=>⟨_,rfl,dv (hI.get g2),?_⟩
  refine(uK (gk.bD hI) aP b5 (by rw[List.length_append,qv];omega)).mono ?_
  rintro _ g3 ⟨gQ,rfl,gj,v3⟩
  have lv:=(fS.more hI).trans v3
  have mj:=v3.get (hI.get g1) e1
  have si:=v3.get (hI.get g2) kp
  have nz:=v3.out (by rw[hI.get g1];simp) e1
  have vR:=v3.out (by rw[hI.get g2];simp) kp
  refine⟨_,rfl,dv si,?_⟩
  refine(L4 _ _ _).to λg4 bh=>⟨_,rfl,?_⟩
  refine fB (n:=12) (lv.more bh) f20 (bh.get si) (by simp[af.cells]) λg5 v5 cy cm=>⟨_,?_,rfl,rfl,rfl,rfl,rfl,rfl,i+1,gQ,bf (by omega) (by omega),by omega,rfl,?_,v5,nz,vR,?_,?_⟩
  .omega
  .rw[HE,<-List.append_assoc]
   exact(gj.bD bh).move λy aB=>cm y λe=>vR (e▸aB)
  .rw[cm _ (Ne.symm cA)];exact bh.get mj
  .rw[cy]
   congr 4
   rw[acD (by omega)]
   by_cases c:i=x.toNat
   .rw[decide_eq_true c,if_pos rfl,if_pos (show x.toNat<i+1 by omega),c]
   .rw[decide_eq_false c]
    by_cases aY:x.toNat<i
    .rw[if_neg (by simp),if_pos aY,if_pos (show x.toNat<i+1 by omega)]
    .rw[if_neg (by simp),if_neg aY,if_neg (show ¬x.toNat<i+1 by omega)]
 .have:i=m.cf r:=by omega
  subst this
  refine⟨_,dv g2,fB (n:=12) fS f1 g1 (by simp[af.cells]) λg5 v5 cy cm=>⟨_,dv cy,aW,rfl,gk.move λy aB=>cm y λe=>e1 (e▸aB),v5⟩⟩
theorem TG (M:cV T m R a7 es h){r:Nat}(aP:r<m.eX)(x:UInt64)(c:cv)(d:Bool)(aT:a7.length<4000000000000) :
 ao 52 [bg ⟨m.b,0⟩,U r,ab x,ea c,ab (mask d)] h λv ah=>∃aW,v= .tuple #[]/\cV T m (if x.toNat<m.cf r/\d=true then fA R (r,x.toNat) c else R) (a7++writes r (m.cf r)) aW ah/\bT (bF m es) h (bF m aW) ah:=by
 have oD:=M.cf r aP
 refine an2 _ _ _ _ _ ?_
 unfold Y_
 refine bM λae aa f1 aF aE=>?_
 have M2:=M.bD aE
 refine(ta M2 aP).mono ?_
 rintro _ _ ⟨rfl,rfl⟩
 refine⟨_,rfl,λq1 aA bq bz aJ aL aO g k=>q1=⟨m.b,0⟩/\aA=r/\x=bq/\bz=mask d/\aJ=⟨ae,0⟩/\aL=(m.cf r:Nat)/\∃i aW,aO=(i:Nat)/\i<=m.cf r/\k=m.cf r-i/\cV T m (if x.toNat<i/\d=true then fA R (r,x.toNat) c else R) (a7++writes r i) aW g/\bT (bF m es) h (bF m aW) g/\¬bF m aW ae /\
  g ae=some (.cells (af.cells (.ws 12 c)).toArray 56 (0,0)),
  ⟨m.cf r,rfl,rfl,rfl,rfl,rfl,rfl,0,es,rfl,by omega,rfl,by simpa [writes] using M2,hF aE _,M.out f1,aF⟩,?_⟩
 rintro q1 aA bq bz aJ aL aO g k ⟨rfl,rfl,rfl,rfl,rfl,rfl,i,aW,rfl,hi,rfl,gk,fS,e1,g1⟩
 have uM:=ru r i
 refine cd (λca=>?_) λdx=>?_
 .have b5:i<m.cf r:=by omega
  refine(L3 _ _).to λbo hI=>⟨_,rfl,_,dv (hI.get g1),?_⟩
  refine(uK (gk.bD hI) aP b5 (by rw[List.length_append,uM];omega)).mono ?_
  rintro _ g3 ⟨gQ,rfl,gj,v3⟩
  have mj:=v3.get (hI.get g1) e1
  have nz:=v3.out (by rw[hI.get g1];simp) e1
  refine⟨_,rfl,dv mj,?_⟩
  rw[aue]
  refine(L4 _ _ _).to λg4 bh=>⟨_,rfl,?_⟩
  refine(zd (gj.bD bh) aP b5 _ (by simp only[List.length_append,uM,List.length_singleton];omega)).mono ?_
  rintro _ g5 ⟨su,rfl,ij,v5⟩
  have pI:=v5.get (bh.get mj) nz
  have auf:=v5.out (by rw[bh.get mj];simp) nz
  refine⟨rfl,_,?_,rfl,rfl,rfl,rfl,rfl,rfl,i+1,su,bf (by omega) (by omega),by omega,rfl,?_,((fS.more hI).trans (v3.more bh)).trans v5,auf,pI⟩
  .omega
  .rw[Bz,show ∀a b:de,a7++(writes r i++[a,b])=a7++writes r i++[a]++[b] by simp]
   rw[acD (by omega)] at ij
   have key:∀(fz:dF),fz=(if x.toNat<i/\d=true then fA R (r,x.toNat) c else R)->fA fz (r,i) (if (decide (i=x.toNat)&&d)=true then c else fz r i)=if x.toNat<i+1/\d=true then fA R (r,x.toNat) c else R:=by
    rintro fz jd
    by_cases aQ:i=x.toNat
    .have aa:¬(x.toNat<i/\d=true):=by omega
     rw[if_neg aa] at jd
     cases d with
     | true=>rw[if_pos (by simp[aQ]),if_pos ⟨by omega,rfl⟩,jd,aQ]
     | false=>rw[if_neg (by simp),if_neg (by simp),jd];exact Kj R (r,i)
    .rw[if_neg (by simp[aQ])]
     have dB:fA fz (r,i) (fz r i)=fz:=Kj fz (r,i)
     rw[dB,jd]
     by_cases aY:x.toNat<i/\d=true
     .rw[if_pos aY,if_pos ⟨by omega,aY.2⟩]
     .rw[if_neg aY,if_neg (λh=>aY ⟨by omega,h.2⟩)]
   rw[key _ rfl] at ij
   exact ij
 .have:i=m.cf r:=by omega
  subst this
  exact⟨aW,rfl,gk,fS⟩
end

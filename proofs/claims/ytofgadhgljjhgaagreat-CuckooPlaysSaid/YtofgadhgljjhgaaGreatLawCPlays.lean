import Derived.Test.YtofgadhgljjhgaaGreatRdL
import Derived.Test.YtofgadhgljjhgaaGreatCukD
namespace Go.Proofs.Tryz
open Go Go.cD Go.RowKit
set_option maxRecDepth 8000
theorem ajf {X:ek}(h:X.K<=16)(op a:Nat):yD X op a<=a+32:=by unfold yD;split<;>(try split)<;>omega
theorem ajg {X:ek}(h:X.K<=16)(op:Nat)(e:c1):(yE X op e).n<=e.n+34:=by
 unfold yE
 split
 .show(e+2).n+1<=_;rw[c1.iT];omega
 .split
  .rw[c1.iT];show(e+X.K).n+1+1+X.K<=_;rw[c1.iT];omega
  .show(c1.rd (e+2)+1).n+1<=_;rw[c1.iT];show(e+2).n+1+1+1<=_;rw[c1.iT];omega
theorem ajh (b:Bool):(bif false then true else !(b==b))=false:=by cases b<;>rfl
theorem aji {h:ak}{n:Int}(aw: -9223372036854775808<=n)(aA:n<=9223372036854775807){dQ:ar}{ws:List UInt64}(rC:fi ab h dQ ws)(MB:ws.length*8<=140737488355328){kb:ar}{l:List wE}(y7:fN Er h kb l)(_:l.length*32<=140737488355328) :
 ao 5 [U n,bb dQ,bb kb] h λv ah=>v= .bool true/\bL h ah:=by
 refine fJ _ _ _ ?_
 unfold V5
 refine ahs.to λaa aE=>⟨_,rfl,bS rfl (h4 (λ_=>⟨rfl,aE⟩) λajj=>h4 (λ_=>⟨rfl,aE⟩) λ_=>?_)⟩
 have hlen:l.length<=12:=by
  have:¬(12:Int)<(kb.len:Int):=of_decide_eq_false ajj
  have:=y7.len;omega
 refine(Ux aw aA (rC.bD aE) MB).mono ?_
 rintro _ ad ⟨B,x,C,mg,Ny,rfl,F,E,T⟩
 refine⟨some _,some _,some _,some _,some _,some _,_,rfl,bM λae an f3 b0 aI=>?_⟩
 have f10:aa ae=none:=T.K.free f3
 refine jl (T.K.trans aI) f10 b0 rfl λaK bh b1 dr=>bS rfl ?_
 have ju:=T.loc F E f3 aI dr
 have e1:=T.out F E f3
 have b1:aK ae=some (.cells (AY B x C (Eg x mg).cz) 32 (0,0)):=b1
 have kt:=y7.len
 have eM:=F.K
 clear T
 generalize Eg x mg=y at *
 generalize eE n=G at *
 generalize o5 n x=X at *
 have o:=F.c.o
 refine⟨λs1 q1 aw g bP=>kb=s1/\(⟨ae,0⟩:aD)=q1/\∃(i a:Nat) (e:c1) (S:cU) (a7:List de) (es gs:ar) (V:jz),aw=i/\i<=l.length/\bP=l.length-i/\a<=100*i/\e.n<=100*i/\k_ aa G ws B X x C y a e S a7 es gs V g/\¬lU G B es gs C V ae/\g ae=some (.cells (AY B x C y.cz) 32 (0,0)),
  ⟨l.length,rfl,rfl,0,0,.nil,_,[],gD,gD,Ny,rfl,by omega,rfl,by omega,Nat.le_refl _,ju,e1,b1⟩,?_⟩
 rintro s1 q1 D4 g bP ⟨rfl,rfl,i,a,e,S,a7,es,gs,V,rfl,hi,rfl,bO,he,qs,w0,hB⟩
 refine cd (λca=>?_) λ_=>?_
 .have b5:i<l.length:=by omega
  have V6:=y7.bD UX (aE.trans qs.K)
  obtain⟨q,aj⟩:=V6.ptr (by omega)
  obtain⟨gG,aQ,aY,ck,_⟩:=wD UX (V6.rd q aj) b5
  have ny:Int.toNat (i:Int)=i:=by omega
  refine⟨some ⟨B.m.b,0⟩,az hB rfl,some ⟨B.cr,0⟩,az hB rfl,some ⟨x.cz,0⟩,az hB rfl,some ⟨C.m.b,0⟩,az hB rfl,some ⟨C.cr,0⟩,az hB rfl,some ⟨y.cz,0⟩,az hB rfl,q,aj,by omega,by omega,_,by rw[ny];exact gG,_,by rw[ny];exact aQ,_,by rw[ny];exact aY,_,by rw[ny];exact ck,(afI F E qs (by omega) (by omega) l[i]).mono ?_⟩
  rintro _ bp ⟨pG,b_,aW,cN,cB,rfl,va,V7⟩
  have dE:=V7.get hB w0
  have bx:=V7.out (by rw[hB];simp) w0
  have sH:=ajf eM (e_ l[i].op 7) a
  have dY:=ajg eM (e_ l[i].op 7) e
  refine⟨_,rfl,bS rfl ⟨some ⟨B.cr,0⟩,az dE rfl,some ⟨C.cr,0⟩,az dE rfl,(ajk o va.I.r).mono ?_⟩⟩
  rintro _ _ ⟨rfl,rfl⟩
  refine⟨_,rfl,⟨az dE rfl,trivial⟩,(ajl o va.Q.r).mono ?_⟩
  rintro _ _ ⟨rfl,rfl⟩
  exact⟨_,rfl,bS (ajh _) ⟨l.length-(i+1),by omega,rfl,rfl,i+1,_,_,pG,b_,aW,cN,cB,bf (by omega) (by omega),by omega,rfl,by omega,by omega,va,bx,dE⟩⟩
 have od:=qs.I.el F
 have M2:=qs.Q.r.mem
 refine⟨some ⟨B.m.b,0⟩,az hB rfl,some ⟨C.m.b,0⟩,az hB rfl,_,rfl,V.es,az M2.top rfl,(ajm qs.I.r.mem (by omega)).mono ?_⟩
 rintro _ b7 ⟨bG,rfl,kJ,e9⟩
 have y8:=qs.bD F E e9
 have gd:=e9.get hB
 have oe:=y8.Q.r.mem
 refine⟨_,rfl,⟨az oe.top rfl,trivial⟩,⟨az gd rfl,trivial⟩,(afC kJ.rd oe.w6.rd (by omega)).mono ?_⟩
 rintro _ _ ⟨rfl,rfl⟩
 refine⟨_,rfl,bS rfl ⟨some ⟨B.m.b,0⟩,az gd rfl,(ajn y8.I.r.mem).mono ?_⟩⟩
 rintro _ _ ⟨rfl,rfl⟩
 refine⟨_,rfl,bS rfl ?_⟩
 have ix:=F.c.sp
 refine⟨λbI aL bo bP=>(⟨ae,0⟩:aD)=bI/\∃(j:Nat) (oB eL:List de) (ih ds:ar),aL=j/\j<=X.sp/\bP=X.sp-j/\cV B.n1 B.m S.R oB ih bo/\cV C.n1 C.m S.R eL ds bo/\oB.length<=a7.length+j/\eL.length<=a7.length+j/\(∀z,bF B.m ih z->¬bF C.m ds z)/\(∀z,bF B.m ih z->aa z=none)/\(∀z,bF C.m ds z->aa z=none)/\bL aa bo/\¬bF B.m ih ae/\¬bF C.m ds ae/\bo ae=some (.cells (AY B x C y.cz) 32 (0,0)),
  ⟨X.sp,rfl,0,a7,a7,es,V.es,rfl,by omega,rfl,y8.I.r.mem,oe,Nat.le_refl _,Nat.le_refl _,λz aa ad=>y8.d z (.inl (.inl aa)) (.inl (.inl ad)),λz bc=>y8.p0 z (.inl (.inl bc)),λz bc=>y8.iy z (.inl (.inl bc)),y8.K,λbc=>w0 (.inl (.inl bc)),λbc=>w0 (.inr (.inl bc)),gd⟩,?_⟩
 rintro bI aL bo bP ⟨rfl,j,oB,eL,ih,ds,rfl,aV,rfl,iF,ec,h_,gx,d,p0,iy,BE,V8,V9,EX⟩
 refine⟨some ⟨C.m.b,0⟩,az EX rfl,(sq ec E.eX).mono ?_⟩
 rintro _ _ ⟨rfl,rfl⟩
 rw[E.cf]
 refine⟨_,rfl,cd (λca=>?_) λ_=>⟨rfl,aE.trans BE⟩⟩
 have j6:j<X.sp:=by omega
 refine⟨some ⟨B.m.b,0⟩,az EX rfl,some ⟨C.m.b,0⟩,az EX rfl,(uK iF F.eX (a:=j) (by rw[F.cf];exact j6) (by omega)).mono ?_⟩
 rintro _ g2 ⟨V_,rfl,Ex,v1⟩
 have a8:=v1.get EX V8
 have MZ:=ec.move λz bc=>v1.2.1 z (ec.dn bc) λh=>d z h bc
 have bC:∀z,bF B.m V_ z->¬bF C.m ds z:=λz bc ad=>(v1.1 z bc).elim (λh=>d z h ad) (ec.dn ad)
 refine⟨_,rfl,⟨az a8 rfl,trivial⟩,(tJ MZ E.eX (a:=j) (by rw[E.cf];exact j6) (by omega)).mono ?_⟩
 rintro _ g3 ⟨ajo,rfl,ajp,v2⟩
 have ajq:=v1.out (by rw[EX];simp) V8
 refine⟨_,rfl,bS (by simp) ⟨X.sp-(j+1),by omega,rfl,j+1,_,_,V_,ajo,bf (by omega) (by omega),by omega,rfl,Ex.move λz bc=>v2.2.1 z (Ex.dn bc) (bC z bc),ajp,by simp;omega,by simp;omega,λz bc ad=>(v2.1 z ad).elim (bC z bc) (Ex.dn bc),λz bc=>(v1.1 z bc).elim (p0 z) BE.free,λz bc=>(v2.1 z bc).elim (iy z) λh=>?_,?_,ajq,v2.out (by rw[a8];simp) V9,v2.get a8 V9⟩⟩
 .exact BE.free (v1.2.2 z h)
 .intro z bc
  have aa:=v1.2.1 z (by rw[BE z bc];exact bc) λh=>bc (p0 z h)
  rw[v2.2.1 z (by rw[aa,BE z bc];exact bc) λh=>bc (iy z h),aa,BE z bc]

import Derived.Test.YtofgadhgljjhgaaGreatMem
import Derived.Test.YtofgadhgljjhgaaGreatArr
import Derived.Test.YtofgadhgljjhgaaGreatEvC
namespace Go.Proofs.Tryz
open Go Go.cD Go.RowKit
set_option maxRecDepth 8000
theorem ak5 {h:ak}{s:ar}{l:List Int}(r:fi eR h s l)(aT:l.length<=1000000){g:FuncId}(aS:∀x∈l,eW prog g [eR x] (.bool false)) :
 ao 109 [bb s,.func (.func g) #[] #[]] h λv ah=>v=U (-1)/\bL h ah:=by
 refine Vc s _ ?_
 unfold M0
 refine⟨λs1 v n i aa k=>s1=s/\v= .func (.func g) #[] #[]/\n=s.len/\∃j:Nat,i=j/\bL h aa/\k=s.len-j,⟨_,rfl,rfl,rfl,0,rfl,bL.refl h,rfl⟩,?_⟩
 rintro s1 v n i aa k ⟨rfl,rfl,rfl,j,rfl,aE,rfl⟩
 have:=r.len
 refine cd (λca=>?_) λ_=>⟨rfl,aE⟩
 have aV:j<l.length:=by omega
 refine(r.bD aE).cp aV λq _ aZ=>⟨_,aZ,?_⟩
 refine eW.ak6 (cs:=[]) (aS _ (List.getElem_mem aV)) λad aC=>⟨_,rfl,bS rfl ⟨_,?_,rfl,rfl,rfl,j+1,bf (by omega) (by omega),aE.trans aC,rfl⟩⟩
 omega
theorem ak7 {h:ak}{s:ar}{l:List Int}(r:fi eR h s l)(aT:l.length<=1000000){g:FuncId}(aS:∀x∈l,eW prog g [eR x] (.bool false)) :
 ao 71 [bb s,.func (.func g) #[] #[]] h λv ah=>v= .bool false/\bL h ah:=by
 refine ak8 s _ ?_
 refine(ak5 r aT aS).mono ?_
 rintro _ aa ⟨rfl,aE⟩
 exact⟨_,rfl,rfl,aE⟩
theorem ak9 {n:Nat}(aa:1<=n)(ad:n<=4096):eW prog 70 [eR n] (.bool false):=by
 intro h
 refine ak_ (n:Int) ?_
 unfold Xj
 refine bS (decide_eq_false (by omega)) ⟨?_,bL.refl h⟩
 have:(bif false then true else decide ((4096:Int)<(n:Int)))=false:=decide_eq_false (by omega)
 rw[this]
theorem Xk {n j k:Nat}(aV:j<n)(ag:k<12):(kT (if n*12=0 then #[] else Value.cells (.agg #[.int .u64 0,.int .u64 0,.int .u64 0,.int .u64 0,.int .u64 0,.int .u64 0,.int .u64 0,.int .u64 0,.int .u64 0,.int .u64 0,.int .u64 0,.int .u64 0])) (n*12))[j*12+k]? =some (ab e6[k]):=by
 rw[if_neg (by omega)]
 have aZ:Value.cells (.agg #[.int .u64 0,.int .u64 0,.int .u64 0,.int .u64 0,.int .u64 0,.int .u64 0,.int .u64 0,.int .u64 0,.int .u64 0,.int .u64 0,.int .u64 0,.int .u64 0])=#[ab 0,ab 0,ab 0,ab 0,ab 0,ab 0,ab 0,ab 0,ab 0,ab 0,ab 0,ab 0]:=by rfl
 rw[aZ]
 unfold kT
 have e:(j*12+k)%12=k:=by omega
 have ca:j*12+k<n*12:=by omega
 simp[ca,e]
 have:k=0∨k=1∨k=2∨k=3∨k=4∨k=5∨k=6∨k=7∨k=8∨k=9∨k=10∨k=11:=by omega
 rcases this with rfl|rfl|rfl|rfl|rfl|rfl|rfl|rfl|rfl|rfl|rfl|rfl<;>rfl
theorem Mo (z:Array Value)(n:Nat):(kT z n).size=n:=by simp[kT]
def qQ (l b6:List Nat):List ar:=(List.range b6.length).map λj=>⟨some ⟨b6.getD j 0,0⟩,l.getD j 0,l.getD j 0,none⟩
theorem Xl (l b6:List Nat)(b:Nat):qQ l (b6++[b])=qQ l b6++[⟨some ⟨b,0⟩,l.getD b6.length 0,l.getD b6.length 0,none⟩]:=by
 unfold qQ
 rw[List.length_append,List.length_singleton,List.range_succ,List.map_append,List.map_singleton]
 congr 1
 .refine List.map_congr_left λj aV=>?_
  have aV:=List.mem_range.1 aV
  have e:(b6++[b]).getD j 0=b6.getD j 0:=by simp[List.getD,List.getElem?_append_left aV]
  rw[e]
 .have e:(b6++[b]).getD b6.length 0=b:=by simp[List.getD]
  rw[e]
theorem Xm:vk prog 51 143 (.slice none 0 0) 24:=⟨by kernel_rfl,by kernel_rfl,by kernel_rfl,by kernel_rfl,rfl⟩
theorem Xn (x:ar):(bb x).oneCell'=true:=rfl
theorem ag5 {h:ak}{s:ar}{l:List Nat}(r:fi eR h s (l.map λn:Nat=>(n:Int)))(aa:1<=l.length)(ad:l.length<=16)(au:∀n∈l,1<=n/\n<=4096) :
 ao 34 [bb s] h λv ah=>∃(T:TypeId) (m:jw),v= .tuple #[bg ⟨m.b,0⟩,U 0]/\cV T m (λ_ _=>e6) [] ⟨none,0,0,none⟩ ah/\m.eX=l.length/\(∀i,m.cf i=l.getD i 0)/\(∀x,bF m ⟨none,0,0,none⟩ x->h x=none)/\bL h ah:=by
 have hlen:=r.len
 rw[List.length_map] at hlen
 refine ala _ ?_
 unfold Xo
 refine bS (decide_eq_false (by omega)) (bS (decide_eq_false (by omega)) ?_)
 refine(ak7 r (by simp;omega) (λx ai=>?_)).mono ?_
 .obtain⟨n,aH,rfl⟩:=List.mem_map.1 ai
  exact ak9 (au n aH).1 (au n aH).2
 rintro _ g1 ⟨rfl,aE⟩
 refine⟨_,rfl,bS rfl (bM λae g2 f1 aF aC=>?_)⟩
 have pJ:h ae=none:=aE.free f1
 let oA:List Nat->ak->Prop:=λb6 g=>∀j,j<b6.length->h (b6.getD j 0)=none/\∃c t,g (b6.getD j 0)=some (.cells c t (0,0))/\c.size=l.getD j 0*12/\∀a,a<l.getD j 0->∀k (ag:k<12),c[a*12+k]? =some (ab e6[k])
 refine⟨λcj s1 aw aA g bP=>cj=some ⟨ae,0⟩/\s=s1/\aw=(l.length:Nat)/\∃(i:Nat) (rs:ar) (b6:List Nat),aA=i/\i<=l.length/\bP=l.length-i/\b6.length=i/\g ae=some (.cells #[bb rs,bb ⟨none,0,0,none⟩,.bool false] 142 (0,0))/\cW bb h g rs (qQ l b6)/\oA b6 g/\b6.Nodup/\ae∉b6/\(∀q,rs.q=some q->q.b≠ae/\q.b∉b6)/\bL h g,
  ⟨l.length,rfl,rfl,by rw[hlen],0,_,[],rfl,by omega,rfl,rfl,aF,cW.gD ..,λj aV=>absurd aV (by simp),List.nodup_nil,by simp,(by intro q aj;cases aj),aE.trans aC⟩,?_⟩
 rintro cj s1 aw aA g bP ⟨rfl,rfl,rfl,i,rs,b6,rfl,hi,rfl,rfl,iV,hL,qR,ir,e1,qS,cO⟩
 refine cd (λca=>?_) λdx=>?_
 .have b5:b6.length<l.length:=by omega
  have aH:=au _ (List.getElem_mem b5)
  have c_:l.getD b6.length 0=l[b6.length]:=by simp[List.getD,b5]
  rw[<-c_] at aH
  refine(r.bD cO).cp (i:=b6.length) (by simpa using b5) λq _ aZ=>?_
  have e:(l.map λn:Nat=>(n:Int))[b6.length]'(by simpa using b5)=((l.getD b6.length 0:Nat):Int):=by rw[c_];simp
  rw[e] at aZ
  generalize nC:l.getD b6.length 0=n at *
  refine⟨_,aZ,_,rfl,_,az iV rfl,by omega,by omega,by omega,by omega,bM λay g3 f2 a8 aI=>?_⟩
  have mv:Int.toNat (n:Int)=n:=by omega
  rw[mv]
  rw[mv] at a8
  have hZ:h ay=none:=cO.free f2
  have Om:=hL.bD aI
  refine cW.Bu Xm Xn Om ⟨some ⟨ay,0⟩,n,n,none⟩ (λb au=>cO.free (aI.free au)) (by simp[qQ];omega) (by decide) ?_
  intro Fc g4 Fe vp tC alb
  have zr:=aI.get iV
  have cZ:ay≠ae:=λe=>by rw[e,iV] at f2;cases f2
  have On:g4 ae=_:=(vp ae (by rw[zr];simp) λq aj e=>(qS q aj).1 e.symm).trans zr
  have EF:bL h g4:=λx ai=>by
   have an:g3 x≠none:=by rw[aI x (by rw[cO x ai];exact ai),cO x ai];exact ai
   rw[vp x an λq aj e=>ai (e▸(hL.bl aj).1),aI x (by rw[cO x ai];exact ai),cO x ai]
  have vq:∀q,Fc.q=some q->q.b≠ae/\q.b≠ay/\q.b∉b6:=λq aj=>by
   rcases tC q aj with ⟨p,aS,e⟩|aH
   .rw[e];exact⟨(qS p aS).1,λe=>(hL.bl aS).2 (e▸f2),(qS p aS).2⟩
   .refine⟨λe=>(by rw[e,zr] at aH;cases aH),λe=>(by rw[e,a8] at aH;cases aH),λhm=>?_⟩
    obtain⟨j,aV,e⟩:=List.getElem_of_mem hm
    obtain⟨_,c,t,aZ,_⟩:=qR j aV
    have:b6.getD j 0=q.b:=by simp[List.getD,aV,e]
    rw[this] at aZ
    rw[aI.get aZ] at aH;cases aH
  refine⟨_,rfl,pE EF pJ On (by simp) λg5 y1 cy cm=>⟨l.length-(b6.length+1),by omega,rfl,rfl,rfl,b6.length+1,Fc,b6++[ay],bf (by omega) (by omega),by omega,rfl,by simp,by rw[cy];rfl,?_,?_,?_,?_,?_,y1⟩⟩
  .rw[Xl,nC]
   exact Fe.move λq aj=>cm _ (vq q aj).1
  .intro j aV
   by_cases c:j<b6.length
   .have e:(b6++[ay]).getD j 0=b6.getD j 0:=by simp[List.getD,List.getElem?_append_left c]
    rw[e]
    obtain⟨h0,nH,t,aZ,aq,aM⟩:=qR j c
    have hm:b6.getD j 0∈b6:=by simp[List.getD,c]
    refine⟨h0,nH,t,?_,aq,aM⟩
    rw[cm _ λe=>e1 (e▸hm),vp _ (by rw[aI.get aZ];simp) λq aj e=>(qS q aj).2 (e▸hm),aI.get aZ]
   .have k6:j=b6.length:=by simp at aV;omega
    subst k6
    have e:(b6++[ay]).getD b6.length 0=ay:=by simp[List.getD]
    rw[e,nC]
    refine⟨hZ,_,_,by rw[cm _ cZ,vp _ (by rw[a8];simp) λq aj e=>(hL.bl aj).2 (e▸f2),a8],?_,λa bO k ag=>Xk bO ag⟩
    exact Mo _ _
  .rw[List.nodup_append]
   refine⟨ir,by simp,λa bO b au e=>?_⟩
   simp at au;subst au;subst e
   obtain⟨j,aV,e⟩:=List.getElem_of_mem bO
   obtain⟨_,c,t,aZ,_⟩:=qR j aV
   have:b6.getD j 0=a:=by simp[List.getD,aV,e]
   rw[this,f2] at aZ;cases aZ
  .intro hm
   rcases List.mem_append.1 hm with h|h
   .exact e1 h
   .simp at h;exact cZ h.symm
  .intro q aj
   refine⟨(vq q aj).1,λhm=>?_⟩
   rcases List.mem_append.1 hm with h|h
   .exact(vq q aj).2.2 h
   .simp at h;exact(vq q aj).2.1 h
 .have aH:b6.length=l.length:=by omega
  have y7:=hL.len
  simp only[qQ,List.length_map,List.length_range] at y7
  refine⟨_,⟨ae,rs,λj=>b6.getD j 0,λj=>l.getD j 0,l.length⟩,rfl,⟨iV,cF.gD ..,⟨(show 0<l.length by omega),ad⟩,(show rs.len=l.length by omega),?_,?_,?_,?_,?_,(by intro q aj;cases aj),?_⟩,rfl,λ_=>rfl,?_,cO⟩
  .intro j aV
   have aV:j<l.length:=aV
   obtain⟨q,aj,e⟩:=hL.rd.at (i:=j) (by simp[qQ];omega)
   refine⟨q,aj,?_⟩
   rw[e]
   simp[qQ]
  .intro j aV
   have aV:j<l.length:=aV
   obtain⟨_,c,t,aq,aM,a3⟩:=qR j (by omega)
   exact⟨c,t,aq,aM,a3⟩
  .intro j aV
   have aV:j<l.length:=aV
   have:l.getD j 0=l[j]:=by simp[List.getD,aV]
   show l.getD j 0<=4096
   rw[this];exact(au _ (List.getElem_mem aV)).2
  .intro j aV e
   have aV:j<l.length:=aV
   have hm:b6.getD j 0∈b6:=by simp[List.getD,show j<b6.length by omega]
   exact e1 ((show b6.getD j 0=ae from e)▸hm)
  .intro j k aV ag e
   have aV:j<l.length:=aV
   have ag:k<l.length:=ag
   exact BY ir (by omega) (by omega) e
  .intro q aj
   refine⟨(qS q aj).1,λj aV e=>?_,(by intro p aS;cases aS)⟩
   have aV:j<l.length:=aV
   have hm:b6.getD j 0∈b6:=by simp[List.getD,show j<b6.length by omega]
   exact(qS q aj).2 ((show q.b=b6.getD j 0 from e)▸hm)
  .rintro x (rfl|⟨q,aj,_⟩|⟨j,aV,rfl⟩|⟨q,aj,rfl⟩)
   .exact pJ
   .cases aj
   .have aV:j<l.length:=aV
    exact(qR j (by omega)).1
   .exact(hL.bl aj).1

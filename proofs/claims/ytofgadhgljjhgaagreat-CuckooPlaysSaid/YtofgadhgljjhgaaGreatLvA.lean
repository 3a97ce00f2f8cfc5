import Derived.Test.YtofgadhgljjhgaaGreatDealC
import Derived.Test.YtofgadhgljjhgaaGreatPla
import Derived.Test.YtofgadhgljjhgaaGreatSrtRow
namespace Go.Proofs.Tryz
open Go Go.cD Go.RowKit
set_option maxRecDepth 8000
theorem WC (x:Nat):Int.fdiv (x:Int) (2 ^ min (UInt64.toNat 1) 64)=((x/2:Nat):Int):=by
 show Int.fdiv (x:Int) ((2:Nat):Int)=_
 cases x<;>rfl
theorem ajW {k a b:Nat}(ag:k<=10)(bO:a<2 ^ k)(au:b<2 ^ k):eW prog 171 [U (2 ^ k),U a,U b] (U (ky k a b)):=by
 intro h
 have aS:2 ^ k<=2 ^ 10:=Nat.pow_le_pow_right (by decide) ag
 refine ajX _ _ _ ?_
 unfold WD
 refine(Ix ag bO).to λaa aE=>⟨_,rfl,bS rfl ?_⟩
 refine(Ix ag au).to λad aC=>⟨_,rfl,bS rfl ?_⟩
 refine⟨λaw aA aL aO g bP=>aw=2 ^ k/\∃j x y:Nat,aA=x/\aL=y/\aO=j/\j<=k/\bP=k-j/\x<2 ^ (k-j)/\y<2 ^ (k-j)/\p4 k a b=j+p4 (k-j) x y/\bL h g,
  ⟨k,rfl,0,a,b,rfl,rfl,rfl,by omega,rfl,bO,au,by simp,aE.trans aC⟩,?_⟩
 rintro aw aA aL aO g bP ⟨rfl,j,x,y,rfl,rfl,rfl,aV,rfl,ai,aB,he,cO⟩
 refine u6 (λdf=>?_) λheq=>?_
 .have N0:x≠y:=λe=>df (by rw[e])
  have ajY:j<k:=by
   rcases Nat.lt_or_ge j k with c|c
   .exact c
   .rw[show k-j=0 by omega] at ai aB;simp at ai aB;omega
  have aF:k-j=(k-(j+1))+1:=by omega
  rw[aF] at he ai aB
  rw[Nat.pow_succ] at ai aB
  have a8:p4 (k-(j+1)+1) x y=p4 (k-(j+1)) (x/2) (y/2)+1:=by rw[p4,if_neg N0]
  rw[a8] at he
  refine⟨k-(j+1),by omega,rfl,j+1,x/2,y/2,WC x,WC y,bf (by omega) (by omega),ajY,rfl,by omega,by omega,by rw[he];omega,cO⟩
 .have N0:x=y:=by omega
  subst N0
  refine(Hv ag).to λg2 aC=>⟨_,rfl,?_,cO.trans aC⟩
  have h0:p4 (k-j) x x=0:=by
   cases k-j with
   | zero=>rfl
   | succ n=>unfold p4;rw[if_pos rfl]
  rw[h0,Nat.add_zero] at he
  unfold ky
  rw[he,bf (by omega) (by omega)]
  congr 1;omega
theorem vf (c:cv):dU c=decide (c[0]=1):=by unfold dU;rfl
theorem WE {c:cv}{k:Nat}(ag:k<=10)(h:c[2].toNat<2 ^ k):al ((c[2].toNat:Nat):Int)=((c[2].toNat:Nat):Int):=by
 have aS:2 ^ k<=2 ^ 10:=Nat.pow_le_pow_right (by decide) ag
 exact bf (by omega) (by omega)
theorem ajZ {P:db}(o:P.da){av:Nat}(a_:av<2 ^ P.k){c:cv}(aZ:dU c=true->c[2].toNat<2 ^ P.k){h:ak}{ba:Nat}(aT:br h ba 0=some (U (2 ^ P.k))) :
 ao 153 [bg ⟨ba,0⟩,ea c,U av] h λv ah=>v= .agg #[ab (iX P av c).1,U (iX P av c).2]/\bL h ah:=by
 refine aj0 _ _ _ ?_
 unfold WG
 refine bM λae aa f1 aF aE=>bM λay ad f2 a8 aC=>?_
 have cZ:ay≠ae:=λe=>by rw[e,aF] at f2;cases f2
 have p5:=aC.get aF
 have fE:=aE.trans aC
 refine⟨Int.NonNeg.mk 0,Int.NonNeg.mk 11,_,fb p5 (i:=0) (by decide),u6 (λaH=>?_) λaB=>?_⟩
 .have au:¬dU c=true:=by rw[vf];simpa using aH
  refine jl fE (aE.free f2) a8 rfl λan aI b0 _=>⟨_,az b0 rfl,_,az b0 rfl,?_,aI⟩
  unfold iX;rw[if_neg au]
 .have au:dU c=true:=by rw[vf];simpa using aB
  refine⟨Int.NonNeg.mk 1,Int.NonNeg.mk 10,_,fb p5 (i:=1) (by decide),_,fE.cell aT,Int.NonNeg.mk 2,Int.NonNeg.mk 9,_,fb p5 (i:=2) (by decide),?_⟩
  rw[WE o.k (aZ au)]
  refine(ajW o.k a_ (aZ au)).to λan aI=>⟨_,rfl,⟨fb (aI.get p5) (i:=1) (by decide),trivial⟩,?_⟩
  refine jl (fE.trans aI) (aE.free f2) (aI.get a8) rfl λaK bh b1 _=>⟨_,az b1 rfl,_,az b1 rfl,?_,bh⟩
  unfold iX;rw[if_pos au]
theorem aj1 (d:c0):d.toList=[d[0],d[1],d[2],d[3],d[4],d[5],d[6],d[7]]:=by
 apply List.ext_getElem
 .simp
 .intro i aa ad
  simp at aa
  have h:i=0∨i=1∨i=2∨i=3∨i=4∨i=5∨i=6∨i=7:=by omega
  rcases h with rfl|rfl|rfl|rfl|rfl|rfl|rfl|rfl<;>simp
theorem I0:vk prog 22 36 (.int .u64 0) 8:=⟨by kernel_rfl,by kernel_rfl,by kernel_rfl,by kernel_rfl,rfl⟩
theorem HZ {x y:ar}{h:ak}{l:List UInt64}(jq:fi ab h y l){q:aD}(ai:x.q=some q){c:Nat}(aZ:c=Nat.min l.length x.len){K:Nat->ak->Prop}(ag:aX h q ((l.take c).map ab) λah=>K c ah):l4 prog 22 x (.s y) h K:=by
 subst aZ
 unfold l4
 rw[I0.Es]
 simp only[I0.dA,sy,n3,jq.len,ai]
 have hm:Nat.min l.length x.len<=l.length:=Nat.min_le_left _ _
 refine⟨(l.take (Nat.min l.length x.len)).map ab,by simp,by simp only[List.mem_map];rintro v ⟨a,_,rfl⟩;rfl,?_,ag⟩
 cases e:y.q with
 | none=>have aa:=jq.nil e;have ad:=jq.cap;have an:=jq.len;have:l=[]:=List.length_eq_zero_iff.1 (by omega);simp[this]
 | some p =>
  simp only
  rw[Ij]
  intro i hi
  have b5:i<l.length:=by simp at hi;omega
  rw[jq.rd p e i b5];simp
theorem aj2 (a0 aq aM a3 a4 a5 iB I1 aj3 a9 aj4 WH ga ae ay aN bJ bZ dC eo:Value):h5 #[a0,aq,aM,a3,a4,a5,iB,I1,aj3,a9,aj4,WH] 3 [ga,ae,ay,aN,bJ,bZ,dC,eo]=#[a0,aq,aM,ga,ae,ay,aN,bJ,bZ,dC,eo,WH]:=by
 apply Array.ext
 .rw[AL];rfl
 .intro i aa ad
  have h:i<12:=ad
  apply Option.some.inj
  rw[<-Array.getElem?_eq_getElem,<-Array.getElem?_eq_getElem,wC]
  have h:i=0∨i=1∨i=2∨i=3∨i=4∨i=5∨i=6∨i=7∨i=8∨i=9∨i=10∨i=11:=by omega
  rcases h with rfl|rfl|rfl|rfl|rfl|rfl|rfl|rfl|rfl|rfl|rfl|rfl<;>rfl
theorem aj5 (id l:UInt64)(d:c0):af.cells (.ws 12 (la id l d))=[ab 1,ab id,ab l,ab d[0],ab d[1],ab d[2],ab d[3],ab d[4],ab d[5],ab d[6],ab d[7],ab 0]:=by simp[af.cells,la]
theorem ajC (id:UInt64){to:Nat}(bw:to<2 ^ 63)(d:c0):eW prog 138 [ab id,U to,ea d] (ea (la id (UInt64.ofNat to) d)):=by
 intro h
 refine aj6 _ _ _ ?_
 unfold WI
 refine bM λae aa f1 aF aE=>bM λay ad f2 a8 aC=>bM λaN an f3 b0 aI=>?_
 have cZ:ay≠ae:=λe=>by rw[e,aF] at f2;cases f2
 have n31:aN≠ae:=λe=>by rw[e,aC.get aF] at f3;cases f3
 have n32:aN≠ay:=λe=>by rw[e,a8] at f3;cases f3
 have f30:=aE.free (aC.free f3)
 rw[jk bw]
 refine jl (aE.trans (aC.trans aI)) f30 b0 rfl λaK bh b1 dr=>⟨Int.NonNeg.mk 11,Int.NonNeg.mk 1,Int.NonNeg.mk 3,Int.NonNeg.mk 8,?_⟩
 have uW:=(dr _ (Ne.symm n31)).trans ((aC.trans aI).get aF)
 have jq:fi ab aK ⟨gA (some ⟨ae,0⟩) 0 8 1,8,8,none⟩ d.toList:=by
  refine⟨by simp,Nat.le_refl _,(by intro h;cases h),λq aj i hi=>?_⟩
  cases aj
  have b5:i<8:=by simpa using hi
  have:=fb uW b5
  simpa using this
 refine HZ jq (q:=⟨aN,3⟩) rfl (c:=8) (by simp) ?_
 refine pE bh f30 b1 (by simp) λaR bE cy cm=>?_
 have tO:aR aN=some (.cells (af.cells (.ws 12 (la id (UInt64.ofNat to) d))).toArray 56 (0,0)):=by
  rw[cy,aj1]
  have aF:List.map ab (List.take 8 [d[0],d[1],d[2],d[3],d[4],d[5],d[6],d[7]])=[ab d[0],ab d[1],ab d[2],ab d[3],ab d[4],ab d[5],ab d[6],ab d[7]]:=by simp
  rw[aF,aj2,aj5]
 refine⟨_,dv tO,?_⟩
 refine pg (n:=12) bE (aE.free f2) ((cm _ (Ne.symm n32)).trans ((dr _ (Ne.symm n32)).trans (aI.get a8))) rfl λbp ch dE _=>⟨_,dv dE,rfl,ch⟩
theorem aj7 {h:ak}{s:ar}{l:List Int}(r:fi eR h s l)(aT:l.length<=1000000)(x:Int):ao 160 [bb s,U x] h λv ah=>v= .bool (decide (x∈l))/\ah=h:=by
 refine aj8 _ _ ?_
 unfold WJ
 refine aj9 _ _ ?_
 unfold WK
 refine⟨λs1 aw aA aL g k=>s1=s/\aw=x/\aA=s.len/\g=h/\∃j:Nat,aL=j/\j<=s.len/\k=s.len-j/\x∉l.take j,⟨_,rfl,rfl,rfl,rfl,0,rfl,by omega,rfl,by simp⟩,?_⟩
 rintro s1 aw aA aL g k ⟨rfl,rfl,rfl,rfl,j,rfl,u7,rfl,n4⟩
 have hlen:=r.len
 refine cd (λca=>?_) λdx=>⟨_,rfl,?_,rfl⟩
 .have aV:j<l.length:=by omega
  refine r.cp aV λq _ aZ=>⟨_,aZ,cd (λe=>⟨_,rfl,?_,rfl⟩) λe=>⟨s1.len-(j+1),by omega,rfl,rfl,rfl,rfl,j+1,bf (by omega) (by omega),by omega,rfl,λhm=>?_⟩⟩
  .rw[decide_eq_true (show(0:Int)<=(j:Int) by omega),decide_eq_true (by rw[e];exact List.getElem_mem aV)]
  .rw[List.take_add_one,List.getElem?_eq_getElem aV] at hm
   rcases List.mem_append.1 hm with h|h
   .exact n4 h
   .simp at h;exact e h
 .rw[List.take_of_length_le (by omega)] at n4
  rw[decide_eq_false n4];rfl
theorem mK {A gF B:Nat->Prop}{h ah:ak}(v:bT A h gF ah):bT (λx=>A x∨B x) h (λx=>gF x∨B x) ah :=
 ⟨λb au=>au.elim (λx=>(v.1 b x).imp .inl id) λx=> .inl (.inr x),λb au aH=>v.2.1 b au λx=>aH (.inl x),v.2.2⟩
theorem A1 {A B BB:Nat->Prop}{h ah:ak}(v:bT B h BB ah):bT (λx=>A x∨B x) h (λx=>A x∨BB x) ah :=
 ⟨λb au=>au.elim (λx=> .inl (.inl x)) λx=>(v.1 b x).imp .inr id,λb au aH=>v.2.1 b au λx=>aH (.inr x),v.2.2⟩
section
variable {T:TypeId} {m:jw} {R:dF} {a7:List de} {es:ar} {h:ak}
theorem WL (M:cV T m R a7 es h){ba f n:Nat}(a_:f<=1000)(aP:f+2<m.eX)(aH:n<=m.cf (f+2))(aT:a7.length<3000000000000){v:Value}{fn:Nat->cv->cv}{S:Nat->(Nat->Prop)->ak->Prop}{F:Nat->Prop}
 (tP:S 0 F h) (bV:∀b,F b->¬bF m es b) (dn:∀i F g,S i F g->∀b,F b->g b≠none) (bD:∀i F g bo,S i F g->(∀b,F b->bo b=g b)->S i F bo)
 (gy:∀i F g,S i F g->br g ba 3=some (bg ⟨m.b,0⟩)/\br g ba 4=some (U f))
 (step:∀i F g,i<n->S i F g->gi prog v [U i,ea (R (f+2) i)] g λr bo=>r=ea (fn i (R (f+2) i))/\∃dW,S (i+1) dW bo/\bT F g dW bo) :
 ao 151 [bg ⟨ba,0⟩,U n,v] h λr ah=>∃aW dW,r= .tuple #[]/\cV T m (en R (f+2) λi=>if i<n then fn i (R (f+2) i) else R (f+2) i) (a7++writes ((f:Int)+2) n) aW ah/\S n dW ah/\(∀b,dW b->¬bF m aW b)/\bT (λx=>bF m es x∨F x) h (λx=>bF m aW x∨dW x) ah:=by
 have oD:=M.cf _ aP
 refine aj_ _ _ _ ?_
 unfold WM
 have gI:((f:Int)+2)=((f+2:Nat):Int):=by omega
 refine⟨λq1 v1 aw aA g bP=>q1=⟨ba,0⟩/\v1=v/\aw=(n:Nat)/\∃(i:Nat) (aW:ar) (dW:Nat->Prop),aA=i/\i<=n/\bP=n-i/\cV T m (en R (f+2) λj=>if j<i then fn j (R (f+2) j) else R (f+2) j) (a7++writes ((f:Int)+2) i) aW g/\S i dW g/\(∀b,dW b->¬bF m aW b)/\bT (λx=>bF m es x∨F x) h (λx=>bF m aW x∨dW x) g,
  ⟨n,rfl,rfl,rfl,0,es,F,rfl,by omega,rfl,?_,tP,bV,bT.refl _ _⟩,?_⟩
 .have e:(en R (f+2) λj=>if j<0 then fn j (R (f+2) j) else R (f+2) j)=R:=by
   have:(λj=>if j<0 then fn j (R (f+2) j) else R (f+2) j)=R (f+2):=by funext j;simp
   rw[this];exact BJ R _
  rw[e];simpa [writes] using M
 rintro q1 v1 aw aA g bP ⟨rfl,rfl,rfl,i,aW,dW,rfl,hi,rfl,gk,mV,WN,fS⟩
 refine cd (λca=>?_) λdx=>?_
 .have b5:i<n:=by omega
  obtain⟨o6,uV⟩:=gy i dW g mV
  have uM:=ru ((f:Int)+2) i
  have iA:al ((f:Int)+2)=((f+2:Nat):Int):=by rw[bf (by omega) (by omega)];omega
  refine⟨some ⟨m.b,0⟩,o6,_,uV,some ⟨m.b,0⟩,o6,_,uV,?_⟩
  rw[iA]
  refine(uK gk aP (show i<m.cf (f+2) by omega) (by rw[List.length_append,uM];omega)).mono ?_
  rintro _ g1 ⟨ih,rfl,oi,WO⟩
  obtain⟨s1,d1⟩:=l6 WO (dn i dW g mV) WN
  have fm:=bD i dW g g1 mV s1
  obtain⟨aka,akb⟩:=gy i dW g1 fm
  have jd:en R (f+2) (λj=>if j<i then fn j (R (f+2) j) else R (f+2) j) (f+2) i=R (f+2) i:=by unfold en;rw[if_pos rfl];exact if_neg (Nat.lt_irrefl i)
  refine⟨_,rfl,⟨akb,trivial⟩,⟨aka,trivial⟩,?_⟩
  rw[jd]
  refine(step i dW g1 b5 fm).mono ?_
  rintro _ g2 ⟨rfl,y5,fy,v2⟩
  obtain⟨akc,akd⟩:=gy (i+1) y5 g2 fy
  obtain⟨s2,d2⟩:=l6 v2 (λx ai=>oi.dn ai) (λx ai hY=>d1 x hY ai)
  have M2:=oi.move s2
  refine⟨_,rfl,⟨akd,trivial⟩,⟨akc,trivial⟩,?_⟩
  refine(zd M2 aP (show i<m.cf (f+2) by omega) _ (by simp only[List.length_append,uM,List.length_singleton];omega)).mono ?_
  rintro _ g3 ⟨gQ,rfl,gj,v3⟩
  obtain⟨bG,d3⟩:=l6 v3 (dn (i+1) y5 g2 fy) (λx ai te=>d2 x te ai)
  have kf:=bD (i+1) y5 g2 g3 fy bG
  refine⟨rfl,n-(i+1),by omega,rfl,rfl,rfl,i+1,gQ,y5,bf (by omega) (by omega),by omega,rfl,?_,kf,d3,((fS.trans (mK WO)).trans (A1 v2)).trans (mK v3)⟩
  have aF:fA (en R (f+2) λj=>if j<i then fn j (R (f+2) j) else R (f+2) j) (f+2,i) (fn i (R (f+2) i))=en R (f+2) λj=>if j<i+1 then fn j (R (f+2) j) else R (f+2) j:=by
   funext e5 j
   unfold fA en
   show(if e5=f+2/\j=i then _ else if e5=f+2 then (if j<i then fn j (R (f+2) j) else R (f+2) j) else _)=if e5=f+2 then (if j<i+1 then fn j (R (f+2) j) else R (f+2) j) else _
   by_cases aQ:e5=f+2
   .rw[if_pos aQ,if_pos aQ]
    by_cases aY:j=i
    .rw[if_pos ⟨aQ,aY⟩,if_pos (by omega),aY]
    .rw[if_neg (λh=>aY h.2)]
     by_cases ck:j<i
     .rw[if_pos ck,if_pos (by omega)]
     .rw[if_neg ck,if_neg (by omega)]
   .rw[if_neg (λh=>aQ h.1),if_neg aQ,if_neg aQ]
  rw[aF] at gj
  rw[Bz,show ∀a b:de,a7++(writes ((f:Int)+2) i++[a,b])=a7++writes ((f:Int)+2) i++[a]++[b] by simp,gI]
  rw[gI] at gj
  exact gj
 .have:i=n:=by omega
  subst this
  exact⟨aW,dW,rfl,gk,mV,WN,fS⟩
end
end Go.Proofs.Tryz
namespace Go.Proofs.Tryz
open Go Go.cD Go.RowKit
set_option maxRecDepth 8000
theorem _root_.Go.cD.db.da.gy {P:db}(o:P.da):lR P.k P.s P.t:=⟨o.k,by have:=o.s;omega,by have:=o.t;omega⟩
theorem Nz (P:db):iw P.k P.s P.t=(P.n:Nat):=by unfold iw db.n;simp
abbrev nv (P:db)(BO f:Nat)(eS:Bool)(mp:Nat):Array Value:=#[U (2 ^ P.k),U P.s,U P.t,bg ⟨BO,0⟩,U f,.bool eS,.map (some mp)]
def rowOf (P:db)(av i:Nat)(c:cv):Row:=⟨nO P av i c,(iX P av c).1,(iX P av c).2⟩
theorem ake:oZ prog 249 255 3 (.agg #[.int .u64 0,.int .u64 0,U 0]) 24:=⟨by kernel_rfl,by kernel_rfl,by kernel_rfl,by kernel_rfl,rfl⟩
theorem akf:oZ prog 260 252 2 (.agg #[.int .u64 0,U 0]) 16:=⟨by kernel_rfl,by kernel_rfl,by kernel_rfl,by kernel_rfl,rfl⟩
theorem WQ {P:db}{av:Nat}{c:cv}(h:dU c=true):iX P av c=(c[1],((ky P.k av c[2].toNat:Nat):Int)):=by unfold iX;rw[if_pos h]
theorem N1 (c:cv)(x y:UInt64):(c.set 11 x).set 11 y=c.set 11 y:=by
 apply Vector.ext;intro i hi;simp[Vector.getElem_set]
theorem akg {P:db}(o:P.da){av:Nat}(a_:av<2 ^ P.k){ba ae ay aN bJ bZ:Nat}{g:ak}{T:TypeId}{s:ar}{l:List Row}
 (aF:br g ae 0=some (bg ⟨ba,0⟩)) (dB:br g ba 0=some (U (2 ^ P.k))) (a8:br g ay 0=some (U av)) (b1:br g bJ 0=some (U P.n)) (b0:br g aN 0=some (U P.k))
 (B:kI 3 xc T g bZ s l) (aT:l.length<=100000) {i:Nat} (hi:i<100000) (c:cv) (aZ:dU c=true->c[2].toNat<2 ^ P.k) :
 gi prog (.func (.func 152) #[] #[bg ⟨ae,0⟩,bg ⟨ay,0⟩,bg ⟨bJ,0⟩,bg ⟨aN,0⟩,bg ⟨bZ,0⟩]) [U i,ea c] g λr bo=>r=ea (c.set 11 (nO P av i c))/\∃cX,kI 3 xc T bo bZ cX (l++[rowOf P av i c])/\bT (lF bZ s) g (lF bZ cX) bo:=by
 refine⟨rfl,?_⟩
 refine akh _ _ _ _ _ _ _ ?_
 unfold WR
 refine bM λbq g1 f1 lY aE=>bM λbz g2 f2 kE aC=>?_
 have cZ:bz≠bq:=λe=>by rw[e,lY] at f2;cases f2
 have tN:=aC.get lY
 have fE:=aE.trans aC
 refine⟨some ⟨ba,0⟩,fE.cell aF,_,dv tN,_,fE.cell a8,?_⟩
 refine(ajZ o a_ aZ (fE.cell dB)).mono ?_
 rintro _ g3 ⟨rfl,aI⟩
 refine⟨_,_,rfl,bM λb8 g4 f4 sk bh=>?_⟩
 have nw:=fE.trans aI
 have vi:=nw.trans bh
 have f40:g b8=none:=nw.free f4
 have f20:g bz=none:=aE.free f2
 have n31:b8≠bq:=λe=>by rw[e,aI.get tN] at f4;cases f4
 have n32:b8≠bz:=λe=>by rw[e,aI.get kE] at f4;cases f4
 refine jl vi f40 sk rfl λg5 bE iH cm=>⟨Int.NonNeg.mk 11,Int.NonNeg.mk 0,?_⟩
 have aki:g5 bq=_:=(cm _ (Ne.symm n31)).trans ((aI.trans bh).get tN)
 have akj:g5 bz=_:=(cm _ (Ne.symm n32)).trans ((aI.trans bh).get kE)
 refine pQ bE f1 aki (i:=11) (by decide) λg6 ch oI dZ=>?_
 have E6:=(dZ _ n31).trans iH
 have N2:=(dZ _ cZ).trans akj
 rw[jk (show i<2 ^ 63 by omega)] at oI
 have fin:∀(g7:ak) (key:UInt64),bL g g7->g7 bq=some (.cells (af.cells (.ws 12 (c.set 11 key))).toArray 56 (0,0))->g7 b8=some (.cells #[ab (iX P av c).1,U (iX P av c).2] 252 (0,0))->(∃a t,g7 bz=some (.cells a t (0,0))/\a.size=12)->key=nO P av i c ->
  ∃s1,br g7 bZ 0=some (bb s1)/\Int.NonNeg 11/\Int.NonNeg 0/\∃c6,br g7 bq 11=some (ab c6)/\∃eg,br g7 b8 0=some (ab eg)/\∃bx,br g7 b8 (0+1)=some (U bx)/\bj g7 (.cells #[ab c6,ab eg,U bx] 255) λbJ bW=>fh prog 249 s1 (.s ⟨some ⟨bJ,0⟩,1,1,none⟩) bW λs2 b7=>aX b7 ⟨bZ,0⟩ [bb s2] λct=>∃aY:cv,bU ct bq 0 aY/\aX ct ⟨bz,0⟩ (af.cells (.ws 12 aY)) λcw=>∃ck:cv,bU cw bz 0 ck /\
   (ea ck=ea (c.set 11 (nO P av i c))/\∃cX,kI 3 xc T cw bZ cX (l++[rowOf P av i c])/\bT (lF bZ s) g (lF bZ cX) cw):=by
  rintro g7 key c9 aq a3 ⟨a,t,aM,I2⟩ rfl
  have w_:=B.bD c9
  refine⟨_,az w_.cell rfl,Int.NonNeg.mk 11,Int.NonNeg.mk 0,_,fb aq (i:=11) (by decide),_,az a3 rfl,_,az a3 rfl,?_⟩
  rw[xd]
  refine kI.push ake tQ akk w_ [rowOf P av i c] (by rfl) rfl (by simp;omega) (by decide) λcX g8 akl fr=>?_
  have hg:∀x,g x=none->g7 x≠none->¬lF bZ s x:=λx aa _ h=>B.dn h aa
  have ee:=fr.get aq (hg bq f1 (by rw[aq];simp))
  have hG:=fr.get aM (hg bz f20 (by rw[aM];simp))
  have aA:¬lF bZ cX bz:=fr.out (by rw[aM];simp) (hg bz f20 (by rw[aM];simp))
  refine⟨_,dv ee,?_⟩
  refine fB (n:=12) ((hF c9 _).trans fr) f20 hG I2 λg9 v9 gd eO=>⟨_,dv gd,rfl,cX,akl.move λx ai=>eO x λe=>aA (e▸ai),v9⟩
 refine⟨_,ch.cell b1,cd (λvl=>?_) λvl=>?_⟩
 .refine⟨Int.NonNeg.mk 0,Int.NonNeg.mk 11,_,fb oI (i:=0) (by decide),?_⟩
  rw[WS]
  refine h4 (λau=>?_) λau=>?_
  .have hA:dU c=true:=by rw[vf];simpa using au
   refine⟨_,ch.cell b0,_,az E6 rfl,_,az E6 rfl,Int.NonNeg.mk 11,Int.NonNeg.mk 0,?_⟩
   refine pQ ch f1 oI (i:=11) (by decide) λg7 c9 pL eK=>?_
   rw[N1] at pL
   refine fin g7 _ c9 pL ((eK _ n31).trans E6) ⟨_,_,(eK _ cZ).trans N2,rfl⟩ ?_
   have bV:=BP P.k av c[2].toNat
   have ag:=o.k
   rw[WQ hA]
   unfold nO
   rw[if_pos ⟨by omega,hA⟩]
   have cy:al ((P.k:Int)-((ky P.k av c[2].toNat:Nat):Int))=((P.k-ky P.k av c[2].toNat:Nat):Int):=by rw[bf (by omega) (by omega)];omega
   show cI (al ((P.k:Int)-((ky P.k av c[2].toNat:Nat):Int)))*(4294967296:UInt64)+c[1]=_
   rw[cy,jk (by omega)]
  .have hA:¬dU c=true:=by rw[vf];simpa using au
   refine fin g6 _ ch oI E6 ⟨_,_,N2,rfl⟩ ?_
   unfold nO;rw[if_neg λh=>hA h.2]
 .refine fin g6 _ ch oI E6 ⟨_,_,N2,rfl⟩ ?_
  unfold nO;rw[if_neg λh=>vl (by have:=h.1;omega)]
theorem BL:af.cells (.ws 12 e6)=[ab 0,ab 0,ab 0,ab 0,ab 0,ab 0,ab 0,ab 0,ab 0,ab 0,ab 0,ab 0]:=by rfl
theorem mem_cast {l:List Nat}{i:Nat}:((i:Int)∈l.map λp:Nat=>(p:Int))↔i∈l:=by
 rw[List.mem_map]
 constructor
 .rintro⟨a,aa,ad⟩;have:a=i:=by omega
  exact this▸aa
 .exact λh=>⟨i,h,rfl⟩
def BQ (n:Nat)(pl lo:List Nat)(i:Nat)(c:cv):cv:=(if i∈lo then e6 else c).set 11 (if i<n then UInt64.ofNat (pl.getD i 0) else UInt64.ofNat i)
theorem akm {n:Nat}{pl lo:List Nat}{bJ fG ic:Nat}{g:ak}{eF hf:ar}
 (gd:br g ic 0=some (bb hf)) (b1:br g bJ 0=some (U n)) (fP:br g fG 0=some (bb eF)) (akn:fi eR g hf (lo.map λp:Nat=>(p:Int))) (ako:fi eR g eF (pl.map λp:Nat=>(p:Int)))
 (aH:pl.length=n) (au:∀x∈pl,x<2 ^ 63) (aT:lo.length<=1000000) {i:Nat} (hi:i<100000) (c:cv) :
 gi prog (.func (.func 159) #[] #[bg ⟨ic,0⟩,bg ⟨bJ,0⟩,bg ⟨fG,0⟩]) [U i,ea c] g λr bo=>r=ea (BQ n pl lo i c)/\bL g bo:=by
 refine⟨rfl,?_⟩
 refine akp _ _ _ _ _ ?_
 unfold WT
 refine bM λbq g1 f1 lY aE=>bM λbz g2 f2 kE aC=>?_
 have cZ:bz≠bq:=λe=>by rw[e,lY] at f2;cases f2
 have tN:=aC.get lY
 have fE:=aE.trans aC
 have f20:g bz=none:=aE.free f2
 refine⟨_,fE.cell gd,?_⟩
 refine(aj7 (akn.bD fE) (by simpa using aT) (i:Int)).mono ?_
 rintro _ g3 ⟨rfl,rfl⟩
 refine⟨_,rfl,?_⟩
 have fin:∀(g5:ak) (d:cv),bL g g5->g5 bq=some (.cells (af.cells (.ws 12 (d.set 11 (UInt64.ofNat i)))).toArray 56 (0,0))->(∃a t,g5 bz=some (.cells a t (0,0))/\a.size=12)->d=(if i∈lo then e6 else c) ->
  ∃aw,br g5 bJ 0=some (U aw)/\aG (decide ((i:Int)<aw)) (∃s2,br g5 fG 0=some (bb s2)/\∃q1,ar.q s2=some q1/\0<=(i:Int)/\(i:Int)+1<=(s2.len:Int)/\∃aA,br g5 q1.b (q1.o+Int.toNat (i:Int)*1)=some (U aA)/\Int.NonNeg 11/\Int.NonNeg 0/\aX g5 ⟨bq,0+11⟩ [ab (cI aA)] λbp=>∃aQ:cv,bU bp bq 0 aQ/\aX bp ⟨bz,0⟩ (af.cells (.ws 12 aQ)) λb3=>∃aY:cv,bU b3 bz 0 aY/\(ea aY=ea (BQ n pl lo i c)/\bL g b3))
   (∃ck:cv,bU g5 bq 0 ck/\aX g5 ⟨bz,0⟩ (af.cells (.ws 12 ck)) λbW=>∃dz:cv,bU bW bz 0 dz/\(ea dz=ea (BQ n pl lo i c)/\bL g bW)):=by
  rintro g5 d bE aq ⟨a,t,aM,I2⟩ rfl
  refine⟨_,bE.cell b1,cd (λvl=>?_) λvl=>?_⟩
  .have b5:i<pl.length:=by omega
   refine⟨_,bE.cell fP,?_⟩
   refine(ako.bD bE).cp (i:=i) (by simpa using b5) λq _ aZ=>?_
   have c_:(pl.map λp:Nat=>(p:Int))[i]'(by simpa using b5)=((pl.getD i 0:Nat):Int):=by simp[List.getD,b5]
   rw[c_] at aZ
   have ca:pl.getD i 0<2 ^ 63:=by
    have:pl.getD i 0=pl[i]:=by simp[List.getD,b5]
    rw[this];exact au _ (List.getElem_mem b5)
   refine⟨_,aZ,Int.NonNeg.mk 11,Int.NonNeg.mk 0,?_⟩
   refine pQ bE f1 aq (i:=11) (by decide) λg6 ch oI dZ=>?_
   rw[N1,jk ca] at oI
   refine⟨_,dv oI,pg (n:=12) ch f20 ((dZ _ cZ).trans aM) I2 λg7 c9 pL _=>⟨_,dv pL,?_,c9⟩⟩
   unfold BQ;rw[if_pos (show i<n by omega)]
  .refine⟨_,dv aq,pg (n:=12) bE f20 aM I2 λg7 c9 pL _=>⟨_,dv pL,?_,c9⟩⟩
   unfold BQ;rw[if_neg (show ¬i<n by omega)]
 refine h4 (λbw=>?_) λbw=>?_
 .have hm:i∈lo:=mem_cast.1 (of_decide_eq_true bw)
  rw[<-BL]
  refine pg (n:=12) fE f1 tN (by simp[af.cells]) λg4 bh sk dr=>⟨Int.NonNeg.mk 11,Int.NonNeg.mk 0,?_⟩
  refine pQ bh f1 sk (i:=11) (by decide) λg5 bE iH cm=>?_
  rw[jk (show i<2 ^ 63 by omega)] at iH
  exact fin g5 e6 bE iH ⟨_,_,(cm _ cZ).trans ((dr _ cZ).trans kE),rfl⟩ (by rw[if_pos hm])
 .have hm:i∉lo:=λh=>of_decide_eq_false bw (mem_cast.2 h)
  refine⟨Int.NonNeg.mk 11,Int.NonNeg.mk 0,?_⟩
  refine pQ fE f1 tN (i:=11) (by decide) λg5 bE iH cm=>?_
  rw[jk (show i<2 ^ 63 by omega)] at iH
  exact fin g5 c bE iH ⟨_,_,(cm _ cZ).trans kE,rfl⟩ (by rw[if_neg hm])
theorem akq (D:Nat->Prop)(h0:ak):rj prog D h0 (.func (.func 156) #[] #[]) BR (λr=>r.key.toNat) (λ_=>True):=by
 intro h O x y _ _
 refine⟨rfl,?_⟩
 refine akr _ _ _ _ _ _ ?_
 unfold WU
 refine bM λbq g1 f1 lY aE=>bM λbz g2 f2 kE aC=>⟨_,az (aC.get lY) rfl,_,az kE rfl,?_⟩
 refine(U3 x.key y.key).to λg3 aI=>⟨_,rfl,_,rfl,?_,(aE.trans aC).trans aI⟩
 rw[<-UInt64.lt_iff_toNat_lt]
 constructor
 .intro h;by_cases c:x.key<y.key
  .exact c
  .rw[if_neg c] at h;split at h<;>omega
 .intro h;rw[if_pos h];decide
end Go.Proofs.Tryz
namespace Go.Proofs.Tryz
open Go Go.cD Go.RowKit
set_option maxRecDepth 8000
theorem WV {k a b:Nat}(ag:k<=1000)(h:a<=b):jr (oj k a)<=jr (oj k b):=by
 have neg:∀x:UInt64×Int,x.2<0->jr x=1001*18446744073709551616:=λx ai=>by unfold jr;rw[if_pos ai]
 have le:∀c,jr (oj k c)<=1001*18446744073709551616:=λc=>by
  unfold jr
  split
  .exact Nat.le_refl _
  .have:=(oj k c).1.toNat_lt;omega
 by_cases au:b<4611686018427387904
 .have bO:a<4611686018427387904:=by omega
  by_cases hg:(k:Int)-(b/4294967296:Nat)<0
  .rw[neg (oj k b) (by unfold oj;rw[if_pos au];exact hg)];exact le a
  .have aks:¬(k:Int)-(a/4294967296:Nat)<0:=by omega
   unfold oj
   rw[if_pos au,if_pos bO]
   unfold jr
   rw[if_neg aks,if_neg hg]
   have aF:(UInt64.ofNat (a%4294967296)).toNat=a%4294967296:=by rw[UInt64.toNat_ofNat'];omega
   have a8:(UInt64.ofNat (b%4294967296)).toNat=b%4294967296:=by rw[UInt64.toNat_ofNat'];omega
   show _*18446744073709551616+(UInt64.ofNat (a%4294967296)).toNat<=_*18446744073709551616+(UInt64.ofNat (b%4294967296)).toNat
   rw[aF,a8]
   omega
 .rw[neg (oj k b) (by unfold oj;rw[if_neg au];decide)];exact le a
theorem bT.to {A B C:Nat->Prop}{h0 h:ak}(v:bT A h0 B h)(rR:∀x,C x->B x∨h0 x=none):bT A h0 C h :=
 ⟨λb au=>(rR b au).elim (v.1 b) .inr,v.2.1,v.2.2⟩
theorem N3 {A B:Nat->Prop}{h0 h:ak}{b o:Nat}{c:Array Value}{t:TypeId}{l:List Value}{K:ak->Prop}(v:bT A h0 B h)(au:B b)(e:h b=some (.cells c t (0,0)))(aU:o+l.length<=c.size)
 (ag:∀ah,bT A h0 B ah->ah b=some (.cells (h5 c o l) t (0,0))->(∀x,x≠b->ah x=h x)->K ah):aX h ⟨b,o⟩ l K:=by
 refine⟨c,t,e,aU,ag _ ⟨v.1,λx ai aH=>?_,λx ai=>?_⟩ (eH _ _ _) λx ai=>cQ _ _ ai⟩
 .have:x≠b:=λe=>by subst e;exact(v.1 x au).elim aH ai
  rw[cQ _ _ this,v.2.1 x ai aH]
 .by_cases e:x=b
  .rw[e,eH] at ai;cases ai
  .rw[cQ _ _ e] at ai;exact v.2.2 x ai
theorem akt {D F:Nat->Prop}{h ah:ak}(O:dN D h ah)(fp:∀x,D x->F x)(aH:∀x,D x->ah x≠none):bT F h F ah :=
 ⟨λ_ h=> .inl h,λx ai a_=>O x ai λd=>a_ (fp x d),λx ai=>Classical.byContradiction λaZ=>by
  by_cases d:D x
  .exact aH x d ai
  .rw[O x aZ d] at ai;exact aZ ai⟩
theorem fN.aku {α:Type}{k:Nat}{f:α->List Value}(a_:∀x,(f x).length=k){h:ak}{s:ar}{l:List α}(r:fN f h s l){n:Nat}(aH:n<=l.length):fN f h ⟨gA s.p 0 s.cap k,n-0,s.cap-0,iL s.z 0 s.cap k⟩ (l.take n):=by
 have hlen:=r.len;have uE:=r.cap
 have aj:ar.q ⟨gA s.p 0 s.cap k,n-0,s.cap-0,iL s.z 0 s.cap k⟩=s.q:=by
  obtain⟨p,k,c,z⟩:=s
  simp only[ar.q,iL,gA,Nat.zero_mul,or_true,if_true]
  cases z with
  | some z=>rfl
  | none =>
   simp only
   split
   .rfl
   .cases p<;>rfl
 refine⟨by simp;omega,by simp;omega,λe=>?_,λq ng=>?_⟩
 .rw[aj] at e;have:=r.nil e;simp;exact this
 .rw[aj] at ng
  have e:l.flatMap f=(l.take n).flatMap f++(l.drop n).flatMap f:=by rw[<-List.flatMap_append,List.take_append_drop]
  have:=r.rd q ng
  rw[pN] at this ⊢
  intro i hi
  have:=this i (by rw[e,List.length_append];omega)
  rw[this]
  congr 1
  simp only[e]
  rw[List.getElem_append_left hi]
theorem zf (R:dF)(r:Nat)(f g:Nat->cv):en (en R r f) r g=en R r g:=by
 funext e5 i;unfold en;by_cases c:e5=r
 .rw[if_pos c,if_pos c]
 .rw[if_neg c,if_neg c,if_neg c]
theorem sK (R:dF)(r:Nat)(f:Nat->cv):en R r f r=f:=by funext i;unfold en;rw[if_pos rfl]
section
variable {T:TypeId} {m:jw} {R:dF} {a7:List de} {es:ar} {h:ak}
theorem cV.congr (M:cV T m R a7 es h){dm:dF}(jd:∀r,r<m.eX->∀j,j<m.cf r->dm r j=R r j):cV T m dm a7 es h :=
 ⟨M.top,M.w6,M.eX,M.len,M.row,λi hi=>by
  obtain⟨c,t,e,aU,r⟩:=M.iM i hi
  refine⟨c,t,e,aU,λj aV k ag=>?_⟩
  rw[jd i hi j aV];exact r j aV k ag,M.cf,M.d1,M.d2,M.d3,M.d4⟩
theorem cV.BM {r n:Nat}{f g:Nat->cv}(M:cV T m (en R r λi=>if i<n then f i else g i) a7 es h)(aH:m.cf r<=n):cV T m (en R r f) a7 es h :=
 M.congr λe5 _ j aV=>by
  unfold en
  by_cases c:e5=r
  .subst c;rw[if_pos rfl,if_pos rfl];exact(if_pos (show j<n by omega)).symm
  .rw[if_neg c,if_neg c]
end
end Go.Proofs.Tryz
namespace Go.Proofs.Tryz
open Go Go.cD Go.RowKit
set_option maxRecDepth 8000
section
variable {T:TypeId} {m:jw} {R:dF} {a7:List de} {es:ar} {h:ak}
theorem WW (M:cV T m R a7 es h){r K k N:Nat}(aP:r<m.eX)(eM:K<=10)(ji:N=2 ^ K)(aH:N<=m.cf r)(ag:k<12)(aT:a7.length<3000000000000) :
 ao 154 [bg ⟨m.b,0⟩,U r,U N,U k] h λv ah=>∃aW,v=U 0/\cV T m (en R r (hV (ie k ag) (je K) (R r))) (a7++w4 r K) aW ah/\bT (bF m es) h (bF m aW) ah:=by
 subst ji
 have:=akv M aP eM aH ag aT
 rw[show(2:Int) ^ K=((2 ^ K:Nat):Int) by simp] at this
 exact this
theorem I3 (f E:Nat):writes ((f:Int)+2) (2 ^ E)++w4 ((f+2:Nat):Int) E=iO f E:=by
 unfold iO;rw[show((f+2:Nat):Int)=(f:Int)+2 by omega]
theorem II (f:Int){E:Nat}(jJ:E<=8):(iO f E).length<=512+4*102400:=by
 have aa:=EN (K:=E) (by omega)
 have ad:2 ^ E<=256:=Nat.pow_le_pow_right (n:=2) (by decide) jJ
 unfold iO w4
 rw[List.length_append,ru,IG];omega
def WX (P:db)(r:Row):Prop:=(r.id,r.deep)=oj P.k r.key.toNat
theorem ajE {P:db}(o:P.da)(M:cV T m R a7 es h){iP:TypeId}{ba f mp:Nat}{eS:Bool}(jJ:mc P.k P.s P.t=2 ^ P.E)(kv:h ba=some (.cells (nv P m.b f eS mp) iP (0,0)))(vc:¬bF m es ba)
 (a_:f<=1000) (aP:f+2<m.eX) (oD:m.cf (f+2)=2 ^ P.E) {av:Nat} (gI:av<2 ^ P.k) (dR:xe P (R (f+2))) (aT:a7.length<2000000000000) :
 ao 139 [bg ⟨ba,0⟩,U av] h λv ah=>∃aW,v= .tuple #[]/\cV T m (en R (f+2) (ke P av (R (f+2)))) (a7++(iO f P.E++iO f P.E)) aW ah /\
  ah ba=some (.cells (nv P m.b f (eS||lH P av (R (f+2))) mp) iP (0,0))/\¬bF m aW ba/\bT (λx=>bF m es x∨x=ba) h (λx=>bF m aW x∨x=ba) ah:=by
 have ol:=o.gy
 have akw:=y9 o
 have y_:=o.E
 have rl:=II (f:Int) y_
 have aH:=o.n
 have ji:(2:Int) ^ P.E=((2 ^ P.E:Nat):Int):=by simp
 rw[ji] at jJ
 generalize tR:2 ^ P.E=N at *
 have iA:al ((f:Int)+2)=((f+2:Nat):Int):=by rw[bf (by omega) (by omega)];omega
 refine akx _ _ ?_
 unfold WY
 refine bM λae aa f1 aF aE=>bM λay ad f2 a8 aC=>?_
 have cZ:ay≠ae:=λe=>by rw[e,aF] at f2;cases f2
 have hQ:=aC.get aF
 have fE:=aE.trans aC
 have gx:=fE.get kv
 refine⟨some ⟨ba,0⟩,az hQ rfl,_,rfl,_,az gx rfl,_,az gx rfl,_,az gx rfl,?_⟩
 refine(LH ol).to λan aI=>⟨_,_,_,rfl,bM λaN aK f4 b1 bh=>?_⟩
 have tS:=aI.trans bh
 have vi:=fE.trans tS
 have f30:h aN=none:=(fE.trans aI).free f4
 have n31:aN≠ae:=λe=>by rw[e,aI.get hQ] at f4;cases f4
 have n32:aN≠ay:=λe=>by rw[e,aI.get a8] at f4;cases f4
 have WZ:ba≠aN:=λe=>by rw[<-e,kv] at f30;cases f30
 refine jl vi f30 b1 rfl λaR bE cy cm=>⟨_,az cy rfl,_,az cy rfl,_,az cy rfl,?_⟩
 have oC:=(cm _ (Ne.symm n31)).trans (tS.get hQ)
 have E7:=(cm _ (Ne.symm n32)).trans (tS.get a8)
 have m_:=bE.get kv
 refine⟨some ⟨ba,0⟩,az oC rfl,_,rfl,_,az m_ rfl,_,az m_ rfl,_,az m_ rfl,?_⟩
 refine(LF ol.r6).to λbp ch=>⟨_,rfl,⟨az (ch.get m_) rfl,az (ch.get m_) rfl,az (ch.get m_) rfl,trivial⟩,⟨az (ch.get oC) rfl,trivial⟩,?_⟩
 refine(Hw ol).to λb3 c9=>⟨_,rfl,bM λbJ bW f8 fP eN=>?_⟩
 have lV:(P.s:Int)*((P.k:Int)+1)+(P.t:Int)+1=(P.n:Nat):=Nz P
 rw[jJ,lV]
 have zi:=(ch.trans c9).trans eN
 have I4:=bE.trans zi
 have f40:h bJ=none:=(bE.trans (ch.trans c9)).free f8
 have n41:bJ≠ae:=λe=>by rw[e,(ch.trans c9).get oC] at f8;cases f8
 have n42:bJ≠ay:=λe=>by rw[e,(ch.trans c9).get E7] at f8;cases f8
 have n43:bJ≠aN:=λe=>by rw[e,(ch.trans c9).get cy] at f8;cases f8
 refine jl I4 f40 fP rfl λb7 e9 gd eO=>bM λbZ ct f10 sd fC=>?_
 have I5:=fC.get ((eO _ (Ne.symm n41)).trans (zi.get oC))
 have nJ:=fC.get ((eO _ (Ne.symm n42)).trans (zi.get E7))
 have vm:=fC.get ((eO _ (Ne.symm n43)).trans (zi.get cy))
 have om:=fC.get gd
 have N4:=e9.trans fC
 have I6:=N4.get kv
 have f50:h bZ=none:=e9.free f10
 have f20:h ay=none:=aE.free f2
 let Z:Nat->Prop:=λx=>x=ba∨x=ae∨x=ay∨x=aN∨x=bJ
 have kg:∀x,Z x->ct x≠none:=by
  rintro x (rfl|rfl|rfl|rfl|rfl)
  .rw[I6];simp
  .rw[I5];simp
  .rw[nJ];simp
  .rw[vm];simp
  .rw[om];simp
 have I7:∀x,Z x->x=ba∨h x=none:=by
  rintro x (rfl|rfl|rfl|rfl|rfl)
  .exact .inl rfl
  .exact .inr f1
  .exact .inr f20
  .exact .inr f30
  .exact .inr f40
 have aky:¬Z bZ:=λz=>by
  have:=kg bZ z
  rcases z with e|e|e|e|e
  all_goals rw[e] at f10
  .rw[e9.get kv] at f10;cases f10
  .rw[(eO _ (Ne.symm n41)).trans (zi.get oC)] at f10;cases f10
  .rw[(eO _ (Ne.symm n42)).trans (zi.get E7)] at f10;cases f10
  .rw[(eO _ (Ne.symm n43)).trans (zi.get cy)] at f10;cases f10
  .rw[gd] at f10;cases f10
 have akz:∀x,Z x->¬bF m es x:=λx z hm=>by
  rcases I7 x z with rfl|ai
  .exact vc hm
  .exact M.dn hm ai
 have N5:=M.bD N4
 let akA:Nat->cv->cv:=λi c=>c.set 11 (nO P av i c)
 let rows:Nat->List Row:=λi=>(List.range i).map λj=>rowOf P av j (R (f+2) j)
 let S:Nat->(Nat->Prop)->ak->Prop:=λi F g=>∃s,F=(λx=>Z x∨lF bZ s x)/\kI 3 xc 249 g bZ s (rows i)/\(∀x,Z x->g x=ct x)/\(∀x,Z x->¬lF bZ s x)
 have akB:S 0 (λx=>Z x∨lF bZ ⟨none,0,0,none⟩ x) ct:=by
  refine⟨_,rfl,⟨sd,cF.gD ..,λp aS=>(by cases aS)⟩,λ_ _=>rfl,?_⟩
  rintro x z (rfl|⟨p,aS,_⟩)
  .exact aky z
  .cases aS
 have W0:∀i F g,S i F g->∀b,F b->g b≠none:=by
  rintro i _ g ⟨s,rfl,B,bc,_⟩ b (z|au)
  .rw[bc b z];exact kg b z
  .exact B.dn au
 have akC:∀i F g bo,S i F g->(∀b,F b->bo b=g b)->S i F bo:=by
  rintro i _ g bo ⟨s,rfl,B,bc,aH⟩ aU
  exact⟨s,rfl,B.move λx ai=>aU x (.inr ai),λx z=>(aU x (.inl z)).trans (bc x z),aH⟩
 have akD:∀i F g,S i F g->br g ba 3=some (bg ⟨m.b,0⟩)/\br g ba 4=some (U f):=by
  rintro i _ g ⟨s,rfl,B,bc,aH⟩
  have:=(bc ba (.inl rfl)).trans I6
  exact⟨az this rfl,az this rfl⟩
 refine⟨some ⟨ba,0⟩,az I5 rfl,?_⟩
 refine(WL N5 a_ aP (n:=N) (by omega) (by omega) (fn:=akA) (S:=S) akB ?_ W0 akC akD ?_).mono ?_
 .rintro b (z|rfl|⟨p,aS,_⟩)
  .exact akz b z
  .exact λhm=>M.dn hm f50
  .cases aS
 .rintro i _ g hi ⟨s,rfl,B,bc,akE⟩
  have c1:=(bc ba (.inl rfl)).trans I6
  have g1:=(bc ae (.inr (.inl rfl))).trans I5
  have g2:=(bc ay (.inr (.inr (.inl rfl)))).trans nJ
  have g3:=(bc aN (.inr (.inr (.inr (.inl rfl))))).trans vm
  have g4:=(bc bJ (.inr (.inr (.inr (.inr rfl))))).trans om
  refine(akg o gI (az g1 rfl) (az c1 rfl) (az g2 rfl) (az g4 rfl) (az g3 rfl) B (by simp[rows];omega) (i:=i) (by omega) (R (f+2) i) (λau=>dR.leaf i au)).mono ?_
  rintro _ bo ⟨rfl,cX,BB,fZ⟩
  have ap:=l6 fZ (λx z=>by rw[bc x z];exact kg x z) akE
  refine⟨rfl,_,⟨cX,rfl,?_,λx z=>(ap.1 x z).trans (bc x z),ap.2⟩,A1 fZ⟩
  have e:rows (i+1)=rows i++[rowOf P av i (R (f+2) i)]:=by simp[rows,List.range_succ]
  rw[e];exact BB
 rintro _ cw ⟨ih,y4,rfl,E8,W1,d11,v11⟩
 have wl:=ru ((f:Int)+2) N
 have I8:bT (λx=>bF m es x∨x=ba) h (λx=>bF m es x∨(Z x∨lF bZ ⟨none,0,0,none⟩ x)) ct:=(hF N4 _).to λx ai=>by
  rcases ai with ai|z|rfl|⟨p,aS,_⟩
  .exact .inl (.inl ai)
  .exact(I7 x z).imp .inr id
  .exact .inr f50
  .cases aS
 have N6:=I8.trans v11
 have akF:=W0 N y4 cw W1
 have E8:cV T m (en R (f+2) (hh P av (R (f+2)))) _ _ _:=cV.BM (f:=hh P av (R (f+2))) (g:=R (f+2)) E8 (by omega)
 obtain⟨s,rfl,akG,BS,akH⟩:=W1
 have N7:=(BS ba (.inl rfl)).trans I6
 have N8:=(BS ae (.inr (.inl rfl))).trans I5
 have akI:=(BS aN (.inr (.inr (.inr (.inl rfl))))).trans vm
 have akJ:=(BS bJ (.inr (.inr (.inr (.inr rfl))))).trans om
 refine⟨rfl,some ⟨ba,0⟩,az N8 rfl,_,rfl,some ⟨m.b,0⟩,az N7 rfl,some ⟨ba,0⟩,az N8 rfl,_,rfl,_,az N7 rfl,?_⟩
 rw[iA]
 refine(WW E8 aP (by omega) tR.symm (by omega) (k:=11) (by decide) (by simp only[List.length_append,wl];omega)).mono ?_
 rintro _ bK ⟨ds,rfl,zj,iI⟩
 have zj:cV T m (en R (f+2) (fk P av (R (f+2)))) (a7++iO f P.E) ds bK:=by
  rw[zf,sK,List.append_assoc,<-tR,I3] at zj;exact zj
 obtain⟨h6,d12⟩:=l6 iI akF d11
 have E9:=akG.move λx ai=>h6 x (.inr ai)
 have N9:=N6.trans (mK iI)
 refine⟨_,rfl,s,az E9.cell rfl,?_⟩
 let D:Nat->Prop:=λx=>∃q,s.q=some q/\x=q.b
 refine(akK (akq D bK) (λq aj=>⟨q,aj,rfl⟩) (n:=N) (by omega) (d:=λj=>rowOf P av j (R (f+2) j)) E9.own (dN.refl _ _) (λ_ _=>trivial)).mono ?_
 rintro _ dI ⟨rfl,bC,BT,I9,W2,j5,_⟩
 have akL:∀x,D x->dI x≠none:=by rintro _ ⟨q,aj,rfl⟩;exact(BT.bl aj).2
 have BU:=N9.trans (akt I9 (λx bV=> .inr (.inr (.inr bV))) akL)
 have E_:∀x,Z x->dI x=cw x:=λx z=>by
  rw[I9 x (by rw[h6 x (.inl z),BS x z];exact kg x z) λd=>akH x z (.inr d),h6 x (.inl z)]
 have I_:=zj.move λx ai=>I9 x (zj.dn ai) λd=>d12 x (.inr (.inr d)) ai
 have lI:dI bZ=some (.cells #[bb s] 249 (0,0)):=by
  rw[I9 bZ (by rw[E9.cell];simp) fun⟨q,aj,e⟩=>E9.ne q aj e.symm,E9.cell]
 have H1:=(E_ ae (.inr (.inl rfl))).trans N8
 have N_:=(E_ aN (.inr (.inr (.inr (.inl rfl))))).trans akI
 have W3:=(E_ bJ (.inr (.inr (.inr (.inr rfl))))).trans akJ
 have akM:=(E_ ba (.inl rfl)).trans N7
 have akN:=BT.len
 have ac:=BT.cap
 simp only[List.length_map,List.length_range] at akN
 refine⟨rfl,s,az lI rfl,_,az W3 rfl,by omega,by omega,?_⟩
 let it:Nat->UInt64×Int:=λj=>((bC j).id,(bC j).deep)
 have u1:=fN.aku tQ BT.rd (n:=P.n) (by simp;omega)
 refine⟨λc2 dj dP cC bG bX fl eG g bP=>c2=⟨ae,0⟩/\dj=⟨aN,0⟩/\dP=⟨bJ,0⟩/\cC=(N:Nat)/\bX=⟨gA s.p 0 s.cap 3,P.n-0,s.cap-0,iL s.z 0 s.cap 3⟩/\fl=(P.n:Nat)/\∃i:Nat,eG=i/\i<=P.n/\bP=P.n-i/\cF 2 oM dI g bG ((List.range i).map it)/\bL dI g,
  ⟨P.n,rfl,rfl,rfl,rfl,rfl,rfl,0,rfl,by omega,rfl,cF.gD ..,bL.refl _⟩,?_⟩
 rintro c2 dj dP cC bG bX fl eG cu bP ⟨rfl,rfl,rfl,rfl,rfl,rfl,i,rfl,hi,rfl,ei,cO⟩
 refine cd (λca=>?_) λdx=>?_
 .have b5:i<P.n:=by omega
  refine(u1.bD tQ cO).cp tQ (i:=i) (by simp;omega) λq aj k0=>?_
  have e:(((List.range N).map bC).take P.n)[i]'(by simp;omega)=bC i:=by simp
  rw[e] at k0
  obtain⟨aQ,aY,ck,_⟩:=k0
  rw[show(i:Int).toNat=i by omega]
  refine⟨_,aQ,_,aY,_,ck,bM λdC g1 f6 dE ch=>?_⟩
  refine jl (cO.trans ch) (cO.free f6) dE rfl λg2 sE W4 dZ=>⟨_,az W4 rfl,_,az W4 rfl,?_⟩
  have W5:=(ei.bD ch).move (ah:=g2) λq aj=>dZ _ λe=>(ei.bl aj).2 (e▸f6)
  refine cF.push akf lB U5 W5 [it i] (by rfl) rfl (λb au=>sE.free au) (by simp;omega) (by decide) λcX g3 kJ akO _ azl=>⟨P.n-(i+1),by omega,rfl,rfl,rfl,rfl,rfl,rfl,i+1,bf (by omega) (by omega),by omega,rfl,?_,y3 W5 sE akO⟩
  have e:(List.range (i+1)).map it=(List.range i).map it++[it i]:=by simp[List.range_succ]
  rw[e];exact kJ
 have hi:i=P.n:=by omega
 subst hi
 generalize akP:R (f+2)=cS at *
 have akQ:∀j,j<N->WX P (bC j):=λj aV=>W2.all (P:=WX P) (λx _ ai=>by
  have aa:=W6 o (av:=av) dR (i:=x) (by omega)
  have ad:gU (hh P av cS x)=(nO P av x (cS x)).toNat:=by unfold gU hh;rw[xd]
  rw[ad] at aa
  exact aa) (Nat.zero_le _) aV
 have akR:((List.range (2 ^ P.E)).map λj=>(bC j).key.toNat).Perm ((List.range (2 ^ P.E)).map λi=>gU (hh P av cS i)):=by
  have aa:=W2.2.map λr:Row=>r.key.toNat
  rw[List.map_map,List.map_map,Nat.sub_zero,<-List.range_eq_range'] at aa
  rw[tR]
  refine aa.trans (List.Perm.of_eq (List.map_congr_left λx _=>?_))
  show(nO P av x (cS x)).toNat=_
  unfold gU hh;rw[xd]
 have kn:∀j,j<N->it j=iX P av (fk P av cS j):=λj aV=>by
  rw[<-akS o (bC:=λj=>(bC j).key.toNat) dR akR (λa b aa ad=>j5 a b (Nat.zero_le _) aa (by omega)) (i:=j) (by omega)]
  exact akQ j aV
 have dY:(List.range P.n).map it=(List.range P.n).map λj=>iX P av (fk P av cS j):=List.map_congr_left λj aV=>kn j (by have:=List.mem_range.1 aV;omega)
 rw[dY] at ei
 have o9:((List.range P.n).map λj=>iX P av (fk P av cS j)).map (·.2)=iu P av cS:=by
  unfold iu
  rw[List.map_map]
  exact List.map_congr_left λj _=>Ja P av _
 have lQ:(iu P av cS).length=P.n:=by simp[iu]
 have dl:=Oa P.k P.s P.t (by have:=o.s;omega) (iu P av cS) (by rw[lQ];unfold db.n;omega)
 refine⟨_,az (cO.get N_) rfl,_,az (cO.get N_) rfl,_,az (cO.get N_) rfl,?_⟩
 refine(aii (k:=P.k) (s:=P.s) (t:=P.t) ol.r6 ei.rd (by simp[db.n]) (λx ai=>?_) ?_).mono ?_
 .obtain⟨j,_,rfl⟩:=List.mem_map.1 ai
  rw[Ja];unfold vn
  have:=BP P.k av (fk P av cS j)[2].toNat
  split<;>omega
 .intro a b aa ad
  have rB:b<P.n:=by simpa using ad
  have zk:∀j,j<P.n->((List.range P.n).map λj=>iX P av (fk P av cS j)).getD j rI=oj P.k (gU (fk P av cS j)):=λj aV=>by
   rw[<-Ob o dR (by omega)];simp[List.getD,aV]
  rw[zk a (by omega),zk b rB]
  exact WV (by have:=o.k;omega) (W7 P av cS aa (by omega))
 rintro _ dy ⟨cl,eb,rfl,pj,pM,rE⟩
 rw[o9] at pj pM
 have Jb:(kX P.k P.s P.t (iu P av cS)).length=P.n:=dl.len.trans lQ
 have Oc:∀x∈kX P.k P.s P.t (iu P av cS),x<2 ^ 63:=λx ai=>by have:=dl.lt x ai;omega
 have akT:(ld P.k P.s P.t (iu P av cS)).length<=1000000:=by
  have aa:=List.length_filter_le (λi=>(im P.k P.s P.t (iu P av cS) (gL P.k)).getD i none==none) (List.range (gg (iu P av cS)))
  have ad:=tx (iu P av cS)
  rw[List.length_range] at aa
  unfold ld;omega
 have Od:=cO.trans rE
 refine⟨cl,eb,rfl,bM λfG eV W8 HY rF=>bM λic gE Jc akU l3=>?_⟩
 have BV:ic≠fG:=λe=>by rw[e,HY] at Jc;cases Jc
 have akV:=(Od.trans rF).trans l3
 have Oe:dI fG=none:=Od.free W8
 have Of:dI ic=none:=(Od.trans rF).free Jc
 refine jl akV Oe (l3.get HY) rfl λeA pR akW xf=>jl pR Of ((xf _ BV).trans akU) rfl λeP yX rr ss=>?_
 have W9:=(ss _ (Ne.symm BV)).trans akW
 have W_:bL dy eP:=λx ai=>by
  have fq:x≠fG:=λe=>ai (e▸W8)
  have f_:x≠ic:=λe=>by have:=rF x ai;rw[e,Jc] at this;rw[e] at ai;exact ai this.symm
  rw[ss x f_,xf x fq,l3 x (by rw[rF x ai];exact ai),rF x ai]
 have zl:=yX.get H1
 have IK:=yX.get W3
 have Og:=yX.get akM
 have nh:=pj.bD W_
 have ni:=pM.bD W_
 let pk:Nat->Prop:=λx=>Z x∨x=fG∨x=ic∨(∃q,cl.q=some q/\x=q.b)∨(∃q,eb.q=some q/\x=q.b)
 have zm:∀x,pk x->Z x∨dI x=none:=by
  rintro x (z|rfl|rfl|⟨q,aj,rfl⟩|⟨q,aj,rfl⟩)
  .exact .inl z
  .exact .inr Oe
  .exact .inr Of
  .exact .inr (cO.free (pj.bl aj).1)
  .exact .inr (cO.free (pM.bl aj).1)
 have akX:∀x,pk x->eP x≠none:=by
  rintro x (z|rfl|rfl|⟨q,aj,rfl⟩|⟨q,aj,rfl⟩)
  .have h0:dI x≠none:=by rw[E_ x z,BS x z];exact kg x z
   rw[yX x h0];exact h0
  .rw[W9];simp
  .rw[rr];simp
  .exact(nh.bl aj).2
  .exact(ni.bl aj).2
 have Xa:∀x,pk x->¬bF m ds x:=λx z hm=>(zm x z).elim (λz=>d12 x (.inl z) hm) λai=>I_.dn hm ai
 have xg:bT (λx=>bF m es x∨x=ba) h (λx=>bF m ds x∨pk x) eP:=(BU.more yX).to λx ai=>ai.elim (λhm=> .inl (.inl hm)) λz=>(zm x z).elim (λz=> .inl (.inr (.inl z))) λai=> .inr (BU.2.2 x ai)
 have vo:=I_.bD yX
 have nl:∀x,h x=none->x≠ba:=λx ai e=>by rw[e,kv] at ai;cases ai
 have fin:∀(g:ak) (jM:Bool),bT (λx=>bF m es x∨x=ba) h (λx=>bF m ds x∨pk x) g->cV T m (en R (f+2) (fk P av cS)) (a7++iO f P.E) ds g->g ba=some (.cells (nv P m.b f jM mp) iP (0,0))->(∀x,pk x->x≠ba->g x=eP x)->jM=(eS||lH P av cS) ->
  ∃eO:Option aD,br g ae 0=some (a1 eO)/\ao 151 [a1 eO,U N,.func (.func 159) #[] #[bg ⟨ic,0⟩,bg ⟨bJ,0⟩,bg ⟨fG,0⟩]] g λfr fR=>fr= .tuple #[]/\∃fO:Option aD,br fR ae 0=some (a1 fO)/\∃fK:aD,fO=some fK/\∃hd:Option aD,br fR fK.b (fK.o+3)=some (a1 hd)/\∃gz:Option aD,br fR ae 0=some (a1 gz)/\∃gN:aD,gz=some gN/\∃n26,br fR gN.b (gN.o+4)=some (U n26) /\
   ao 154 [a1 hd,U (al (n26+2)),U N,U 11] fR λv9 g_=>∃n27,v9=U n27/\∃aW,Value.tuple #[]= .tuple #[]/\cV T m (en R (f+2) (ke P av cS)) (a7++(iO f P.E++iO f P.E)) aW g_ /\
  g_ ba=some (.cells (nv P m.b f (eS||lH P av cS) mp) iP (0,0))/\¬bF m aW ba/\bT (λx=>bF m es x∨x=ba) h (λx=>bF m aW x∨x=ba) g_:=by
  rintro g jM V gk c1 bc rfl
  have ee:pk ae:= .inl (.inr (.inl rfl))
  have z4:pk bJ:= .inl (.inr (.inr (.inr (.inr rfl))))
  have IU:pk fG:= .inr (.inl rfl)
  have z9:pk ic:= .inr (.inr (.inl rfl))
  have Fa:pk ba:= .inl (.inl rfl)
  have akY:=nl fG (BU.2.2 _ Oe)
  have akZ:=nl ic (BU.2.2 _ Of)
  have g1:=(bc ae ee (nl _ f1)).trans zl
  have g4:=(bc bJ z4 (nl _ f40)).trans IK
  have g8:=(bc fG IU akY).trans W9
  have g9:=(bc ic z9 akZ).trans rr
  have BW:=(nh.move (ah:=g) λq aj=>bc _ (.inr (.inr (.inr (.inl ⟨q,aj,rfl⟩)))) (nl _ (BU.2.2 _ (cO.free (pj.bl aj).1)))).rd
  have BX:=(ni.move (ah:=g) λq aj=>bc _ (.inr (.inr (.inr (.inr ⟨q,aj,rfl⟩)))) (nl _ (BU.2.2 _ (cO.free (pM.bl aj).1)))).rd
  have Oh:∀x,pk x->g x≠none:=λx z=>by
   by_cases c:x=ba
   .rw[c,c1];simp
   .rw[bc x z c];exact akX x z
  refine⟨some ⟨ba,0⟩,az g1 rfl,?_⟩
  refine(WL gk a_ aP (n:=N) (by omega) (by simp only[List.length_append];omega) (fn:=BQ P.n (kX P.k P.s P.t (iu P av cS)) (ld P.k P.s P.t (iu P av cS))) (S:=λ_ F bo=>F=pk/\∀x,pk x->bo x=g x) ⟨rfl,λ_ _=>rfl⟩ Xa ?_ ?_ ?_ ?_).mono ?_
  .rintro i _ bo ⟨rfl,aU⟩ b z;rw[aU b z];exact Oh b z
  .rintro i _ bo Jd ⟨rfl,aU⟩ ad;exact⟨rfl,λx z=>(ad x z).trans (aU x z)⟩
  .rintro i _ bo ⟨rfl,aU⟩
   have:=(aU ba Fa).trans c1
   exact⟨az this rfl,az this rfl⟩
  .rintro i _ bo hi ⟨rfl,aU⟩
   refine(akm (n:=P.n) (az ((aU ic z9).trans g9) rfl) (az ((aU bJ z4).trans g4) rfl) (az ((aU fG IU).trans g8) rfl) (BX.move λq aj _=>aU _ (.inr (.inr (.inr (.inr ⟨q,aj,rfl⟩))))) (BW.move λq aj _=>aU _ (.inr (.inr (.inr (.inl ⟨q,aj,rfl⟩))))) Jb Oc akT (i:=i) (by omega) _).mono ?_
   rintro _ Jd ⟨rfl,bP⟩
   exact⟨rfl,pk,⟨rfl,λx z=>(bP x (by rw[aU x z];exact Oh x z)).trans (aU x z)⟩,hF bP _⟩
  rintro _ fR ⟨gQ,qH,rfl,Je,⟨rfl,z25⟩,d25,v25⟩
  rw[zf,sK] at Je
  have Je:cV T m (en R (f+2) (lJ P av cS)) _ _ _:=cV.BM (f:=lJ P av cS) (g:=fk P av cS) Je (by omega)
  have q1:=(z25 ae ee).trans g1
  have Oi:=(z25 ba Fa).trans c1
  refine⟨rfl,some ⟨ba,0⟩,az q1 rfl,_,rfl,some ⟨m.b,0⟩,az Oi rfl,some ⟨ba,0⟩,az q1 rfl,_,rfl,_,az Oi rfl,?_⟩
  rw[iA]
  refine(WW Je aP (by omega) tR.symm (by omega) (k:=11) (by decide) (by simp only[List.length_append,wl];omega)).mono ?_
  rintro _ g_ ⟨mn,rfl,Xb,Jf⟩
  rw[zf,sK,List.append_assoc (a7++iO f P.E),<-tR,I3,List.append_assoc] at Xb
  obtain⟨zn,d26⟩:=l6 Jf (λx z=>by rw[z25 x z];exact Oh x z) d25
  refine⟨_,rfl,mn,rfl,Xb,(zn ba Fa).trans Oi,d26 ba Fa,((V.trans v25).trans (mK Jf)).to λx ai=>?_⟩
  rcases ai with ai|rfl
  .exact .inl (.inl ai)
  .exact .inl (.inr Fa)
 have sM:∀x,bF m ds x->x≠ba:=λx ai e=>Xa ba (.inl (.inl rfl)) (e▸ai)
 refine⟨some ⟨ba,0⟩,az zl rfl,some ⟨ba,0⟩,az zl rfl,_,rfl,_,az Og rfl,?_⟩
 refine h4 (λbw=>?_) λbw=>?_
 .refine⟨_,rfl,N3 xg (.inr (.inl (.inl rfl))) Og (by simp) λfw Oj Ok rS=>?_⟩
  exact fin fw true Oj (vo.move λx ai=>rS x (sM x ai)) (by rw[Ok];rfl) (λx z ai=>rS x ai) (by rw[bw];rfl)
 .refine⟨_,az rr rfl,_,rfl,N3 xg (.inr (.inl (.inl rfl))) Og (by simp) λfw Oj Ok rS=>?_⟩
  refine fin fw _ Oj (vo.move λx ai=>rS x (sM x ai)) (by rw[Ok];rfl) (λx z ai=>rS x ai) ?_
  rw[bw]
  show decide ((0:Int)<(eb.len:Int))=lH P av cS
  rw[pM.len,List.length_map]
  unfold lH
  cases ld P.k P.s P.t (iu P av cS)<;>simp
end

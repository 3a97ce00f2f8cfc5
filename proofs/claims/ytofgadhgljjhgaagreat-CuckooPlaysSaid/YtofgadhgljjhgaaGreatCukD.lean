import Derived.Test.YtofgadhgljjhgaaGreatCukS
namespace Go.Proofs.Tryz
open Go Go.cD Go.RowKit
set_option maxRecDepth 8000
theorem afC {h:ak}{s1 s2:ar}{a7:List de}(ew:fN sb h s1 a7)(fF:fN sb h s2 a7)(aT:a7.length<4000000000000):ao 19 [bb s1,bb s2] h λv ah=>v= .bool true/\ah=h:=by
 have h_:=ew.len
 have gx:=fF.len
 refine nx _ _ ?_
 unfold Tj
 refine bS (by rw[h_,gx];simp) ⟨λt1 t2 aw g bP=>s1=t1/\s2=t2/\h=g/\∃i:Nat,aw=i/\i<=a7.length/\bP=a7.length-i,⟨a7.length,rfl,rfl,rfl,0,rfl,by omega,rfl⟩,?_⟩
 rintro t1 t2 aw g bP ⟨rfl,rfl,rfl,i,rfl,hi,rfl⟩
 refine cd (λca=>?_) λ_=>⟨rfl,rfl⟩
 have b5:i<a7.length:=by omega
 obtain⟨q1,oX⟩:=ew.ptr (by omega)
 obtain⟨aJ,tf⟩:=fF.ptr (by omega)
 obtain⟨a0,aq,aM,_⟩:=wD AX (ew.rd q1 oX) b5
 obtain⟨gG,aQ,aY,_⟩:=wD AX (fF.rd aJ tf) b5
 have ny:Int.toNat (i:Int)=i:=by omega
 refine⟨q1,oX,by omega,by omega,_,by rw[ny];exact a0,_,by rw[ny];exact aq,_,by rw[ny];exact aM,aJ,tf,by omega,by omega,_,by rw[ny];exact gG,_,by rw[ny];exact aQ,_,by rw[ny];exact aY,bS (by simp) ⟨a7.length-(i+1),by omega,rfl,rfl,rfl,i+1,bf (by omega) (by omega),by omega,rfl⟩⟩
def yD (X:ek)(op a:Nat):Nat:=if op<2 then a+2 else if op<5 then a+2*X.K else a+2+1
def yE (X:ek)(op:Nat)(e:c1):c1:=if op<2 then (e+2).rd else if op<5 then (e+X.K).rd.wr+X.K else ((e+2).rd+1).wr
def AY (B:jy)(x:ko)(C:lT)(mg:Nat):Array Value:=#[bg ⟨B.m.b,0⟩,bg ⟨B.cr,0⟩,bg ⟨x.cz,0⟩,bg ⟨C.m.b,0⟩,bg ⟨C.cr,0⟩,bg ⟨mg,0⟩]
section
variable {h0:ak} {G:cG} {ws:List UInt64} {B:jy} {X:ek} {x:ko} {C:lT} {y:ko} {a:Nat} {e:c1} {S:cU} {a7:List de} {es gs:ar} {V:jz} {h ah:ak}
abbrev lU (G:cG)(B:jy)(es gs:ar)(C:lT)(V:jz):Nat->Prop:=λz=>cH G B es gs z∨c8 C G.L V z
theorem k_.out (T:k_ h0 G ws B X x C y a e S a7 es gs V h)(F:kR G B X x)(E:lq G C X y){b:Nat}(au:h b=none):¬lU G B es gs C V b:=λhu=>hu.elim (λaU=>T.I.dn F (.inl aU) au) λaU=>T.Q.dn E (.inl aU) au
theorem Tk (F:kR G B X x)(E:lq G C X y)(T:k_ h0 G ws B X x C y a e S a7 es gs V h)(bO:a<=9000)(he:e.n<=9000)(key:UInt64){ae:Nat}{T1:TypeId}(aF:h ae=some (.cells (AY B x C y.cz) T1 (0,0)))(e1:¬lU G B es gs C V ae){K:Nat->Nat->ak->Prop}
 (ag:∀b_ aW cN cB g aN bJ,k_ h0 G ws B X x C y (a+2) (e+2).rd (gK G (λp=>ws.getD p 0) X key S).1 b_ aW cN cB g->bT (lU G B es gs C V) h (lU G B aW cN C cB) g->¬lU G B aW cN C cB aN->¬lU G B aW cN C cB bJ ->
  g aN=some (.cells #[U (gK G (λp=>ws.getD p 0) X key S).2.1,ab (gK G (λp=>ws.getD p 0) X key S).2.2.1,ab (gK G (λp=>ws.getD p 0) X key S).2.2.2] 40 (0,0))->g bJ=some (.cells #[U (gK G (λp=>ws.getD p 0) X key S).2.1,ab (gK G (λp=>ws.getD p 0) X key S).2.2.1,ab (gK G (λp=>ws.getD p 0) X key S).2.2.2] 128 (0,0))->K aN bJ g) :
 ao 12 [bg ⟨x.cz,0⟩,ab key] h λv2 aR=>∃(aO:Int),∃(b8 c6:UInt64),v2= .agg #[U aO,ab b8,ab c6]/\bj aR (.cells #[U 0,.int .u64 0,.int .u64 0] 40) λaN bp=>aX bp ⟨aN,0⟩ [U aO,ab b8,ab c6] λb3=>∃(cb:Option aD),br b3 ae (0+5)=some (a1 cb)/\ao 55 [a1 cb,ab key] b3 λv3 bW=>∃(bm:Int),∃(eg e2:UInt64),v3= .agg #[U bm,ab eg,ab e2]/\bj bW (.cells #[U 0,.int .u64 0,.int .u64 0] 128) λbJ b7=>aX b7 ⟨bJ,0⟩ [U bm,ab eg,ab e2] λct=>K aN bJ ct:=by
 refine(LY F T.I bO he key).mono ?_
 rintro _ aR ⟨oB,ih,qq,rfl,uH,v1⟩
 obtain⟨AZ,d1,gX,sc⟩:=T.prog F E uH v1
 refine⟨_,_,_,rfl,bM λaN bp f3 b0 aI=>?_⟩
 have lr:bT (lU G B es gs C V) h (lU G B ih qq C V) aR:=mK v1
 have oC:=lr.get aF e1
 have dV:=lr.out (by rw[aF];simp) e1
 have f30:h aN=none:=lr.2.2 _ f3
 refine lu (lr.more aI) f30 b0 rfl λb3 afD fo eK=>?_
 have cJ:ae≠aN:=λe=>by rw[<-e,oC] at f3;cases f3
 have tg:b3 ae=_:=(eK ae cJ).trans (aI.get oC)
 have afE:=uH.loc F f3 aI eK
 have afF:=AZ.loc E f3 aI eK
 have A0:bL h0 b3:=λz bc=>by rw[eK z λe=>bc (by rw[e];exact sc.free f3),aI z (by rw[sc z bc];exact bc),sc z bc]
 have n37:¬lU G B ih qq C V aN:=λhu=>hu.elim (λaU=>uH.dn F (.inl aU) f3) λaU=>AZ.dn E (.inl aU) f3
 refine⟨some ⟨y.cz,0⟩,az tg rfl,(afG E afF bO he key).mono ?_⟩
 rintro _ bW ⟨eL,eY,rfl,afH,fr⟩
 have Tl:=T.LZ F afE d1 gX A0 afH fr
 have u8:bT (lU G B ih qq C V) b3 (lU G B ih qq C eY) bW:=A1 fr
 have Tm:=afD.trans u8
 have Tn:=u8.get fo n37
 have n38:=u8.out (by rw[fo];simp) n37
 refine⟨_,_,_,rfl,bM λbJ b7 f4 b1 bh=>?_⟩
 have f40:h bJ=none:=Tm.2.2 _ f4
 refine lu (Tm.more bh) f40 b1 rfl λct uI sd fO=>?_
 have n34:aN≠bJ:=λe=>by rw[<-e,Tn] at f4;cases f4
 exact ag oB ih qq eY ct aN bJ (Tl.loc F E f4 bh fO) uI n38 (Tl.out F E f4) ((fO aN n34).trans (bh.get Tn)) sd
theorem afI (F:kR G B X x)(E:lq G C X y)(T:k_ h0 G ws B X x C y a e S a7 es gs V h)(bO:a<=8000)(he:e.n<=8000)(s:wE) :
 ao 17 [.agg (AY B x C y.cz),.agg #[U s.op,ab s.key,ab s.cell,.bool s.on]] h λv ah=>∃pG b_ aW cN cB,v= .bool true/\k_ h0 G ws B X x C y (yD X (e_ s.op 7) a) (yE X (e_ s.op 7) e) pG b_ aW cN cB ah/\bT (lU G B es gs C V) h (lU G B aW cN C cB) ah:=by
 suffices H:∀Q:Value->ak->Prop,(∀ah,(∃pG b_ aW cN cB,k_ h0 G ws B X x C y (yD X (e_ s.op 7) a) (yE X (e_ s.op 7) e) pG b_ aW cN cB ah/\bT (lU G B es gs C V) h (lU G B aW cN C cB) ah)->Q (.bool true) ah)->ao 17 [.agg (AY B x C y.cz),.agg #[U s.op,ab s.key,ab s.cell,.bool s.on]] h Q from H _ λah ⟨aq,aM,a3,a4,a5,bR⟩=>⟨aq,aM,a3,a4,a5,rfl,bR⟩
 intro Q fI
 have aS:=mL s.op (n:=7) (by decide)
 have afJ:=yF s.lo s.hi (n:=7) (by decide)
 generalize e_ s.op 7=op at *
 have eM:=F.K
 refine th _ _ _ _ _ _ _ _ _ _ ?_
 unfold To
 refine bM λae aa f1 aF aE=>bM λay ad f2 a8 aC=>?_
 have hQ:=aC.get aF
 have f20:=aE.free f2
 have m6:=aE.trans aC
 have e1:=T.out F E f1
 have kp:=T.out F E f20
 generalize afK:s.key%1152921504606846976=key
 refine⟨_,az a8 rfl,by decide,λq1 aJ jT g=>(⟨ae,0⟩:aD)=q1/\(⟨ay,0⟩:aD)=aJ/\key=jT/\5<=op/\bL ad g,⟨_,az a8 rfl,afJ.to λan aI=>⟨_,rfl,λq1 aJ bz aL t1 g=>(⟨ae,0⟩:aD)=q1/\(⟨ay,0⟩:aD)=aJ/\key=bz/\((op:Nat):Int)=aL/\decide (op<2)=t1/\bL ad g,?_,?_⟩⟩,?_⟩
 .rw[afK]
  refine h4 (λbc=>⟨rfl,rfl,rfl,rfl,?_,aI⟩) λbc=>⟨rfl,rfl,rfl,rfl,?_,aI⟩
  .have:=of_decide_eq_true bc
   exact decide_eq_true (by omega)
  .have bc:=of_decide_eq_false bc
   rw[Bool.eq_iff_iff,decide_eq_true_iff,decide_eq_true_iff]
   omega
 .rintro q1 aJ bz aL t1 g ⟨rfl,rfl,rfl,rfl,rfl,cO⟩
  have qs:=T.bD F E (m6.trans cO)
  have HC:=m6.trans cO
  have qt:=cO.get hQ
  have se:=cO.get a8
  refine cd (λad=>?_) λad=>?_
  .refine⟨some ⟨x.cz,0⟩,az qt rfl,Tk F E qs (by omega) (by omega) key (T1:=32) qt e1 λb_ aW cN cB qu aN bJ A2 uI aL aO b0 b1=>?_⟩
   refine⟨_,az b0 rfl,_,az b1 rfl,dg (decide_eq_true rfl) ⟨_,az b0 rfl,_,az b1 rfl,dg (decide_eq_true rfl) ⟨_,az b0 rfl,_,az b1 rfl,?_⟩⟩⟩
   have au:(bif true then decide ((gK G (λp=>ws.getD p 0) X key S).2.2.2=(gK G (λp=>ws.getD p 0) X key S).2.2.2) else false)=true:=decide_eq_true rfl
   rw[au]
   rw[<-show yD X op a=a+2 from if_pos ad,<-show yE X op e=c1.rd (e+2) from if_pos ad] at A2
   exact fI _ ⟨_,b_,aW,cN,cB,A2,(hF HC _).trans uI⟩
  .have ins:op<5->∃(c7:Option aD),br g ae (0+2)=some (a1 c7)/\∃(hR:UInt64),br g ay (0+2)=some (ab hR)/\∃(t2:Bool),br g ay (0+3)=some (.bool t2)/\∃(dr:Option aD),br g ae (0+5)=some (a1 dr)/\∃(fa:UInt64),br g ay (0+2)=some (ab fa)/\∃(t3:Bool),br g ay (0+3)=some (.bool t3)/\ao 15 [a1 c7,ab key,ab hR,.bool t2] g λv4 cw=>∃(t4:Bool),v4= .bool t4/\(br cw ay (0+3)=some (.bool t3)/\True)/\(br cw ay (0+2)=some (ab fa)/\True)/\(br cw ae (0+5)=some (a1 dr)/\True)/\ao 56 [a1 dr,ab key,ab fa,.bool t3] cw λv5 bK=>∃(t5:Bool),v5= .bool t5/\Q (.bool (t4==t5)) bK:=λaR=>by
    refine⟨some ⟨x.cz,0⟩,az qt rfl,_,az se rfl,_,az se rfl,some ⟨y.cz,0⟩,az qt rfl,_,az se rfl,_,az se rfl,(Tp F qs.I (by omega) (by omega) key s.cell s.on).mono ?_⟩
    rintro _ cw ⟨oB,ih,qq,rfl,uH,v1⟩
    obtain⟨AZ,d1,gX,sc⟩:=qs.prog F E uH v1
    have lr:bT (lU G B es gs C V) g (lU G B ih qq C V) cw:=mK v1
    have nW:=lr.get qt e1
    have Tq:=lr.get se kp
    refine⟨_,rfl,⟨az Tq rfl,trivial⟩,⟨az Tq rfl,trivial⟩,⟨az nW rfl,trivial⟩,(afL E AZ (by omega) (by omega) key s.cell s.on).mono ?_⟩
    rintro _ bK ⟨eL,eY,rfl,L0,v2⟩
    have uJ:=qs.LZ F uH d1 gX sc L0 v2
    refine⟨_,rfl,?_⟩
    rw[beq_self_eq_true]
    rw[<-show yD X op a=a+2*X.K from (if_neg ad).trans (if_pos aR),<-show yE X op e=(c1.rd (e+X.K)).wr+X.K from (if_neg ad).trans (if_pos aR)] at uJ
    exact fI _ ⟨_,oB,ih,qq,eY,uJ,(hF HC _).trans (lr.trans (A1 v2))⟩
   refine h4 (λbc=>ins (by have:=of_decide_eq_true bc;omega)) λhG=>h4 (λbc=>ins (by have:=of_decide_eq_true bc;omega)) λz3=>h4 (λbc=>ins (by have:=of_decide_eq_true bc;omega)) λz4=>⟨rfl,rfl,rfl,?_,cO⟩
   have:=of_decide_eq_false hG
   have:=of_decide_eq_false z3
   have:=of_decide_eq_false z4
   omega
 .rintro bd bI jT g ⟨rfl,rfl,rfl,aR,cO⟩
  have qs:=T.bD F E (m6.trans cO)
  have HC:=m6.trans cO
  have qt:=cO.get hQ
  have se:=cO.get a8
  refine⟨some ⟨x.cz,0⟩,az qt rfl,Tk F E qs (by omega) (by omega) key (T1:=32) qt e1 λb_ aW cN cB qu aN bJ A2 uI aL aO b0 b1=>?_⟩
  have aQ:=uI.get qt e1
  have m7:=uI.out (by rw[qt];simp) e1
  have aY:=uI.get se kp
  have oY:=uI.out (by rw[se];simp) kp
  refine⟨some ⟨x.cz,0⟩,az aQ rfl,_,az b0 rfl,_,az b0 rfl,_,az b0 rfl,_,az aY rfl,?_⟩
  refine(Tr F A2.I (by omega) (by show(e+2).n+1<=9000;rw[c1.iT];omega) key _ _ _ s.on).mono ?_
  rintro _ fw ⟨oB,ih,qq,rfl,uH,v1⟩
  obtain⟨AZ,d1,gX,sc⟩:=A2.prog F E uH v1
  have lr:bT (lU G B aW cN C cB) qu (lU G B ih qq C cB) fw:=mK v1
  have mh:=lr.get aQ m7
  have sf:=lr.get aY oY
  have DL:=lr.get b0 aL
  have n34:=lr.out (by rw[b0];simp) aL
  have HD:=lr.get b1 aO
  have n44:=lr.out (by rw[b1];simp) aO
  refine⟨rfl,some ⟨y.cz,0⟩,az mh rfl,_,az HD rfl,_,az HD rfl,_,az HD rfl,_,az sf rfl,?_⟩
  refine(afM E AZ (by omega) (by show(e+2).n+1<=9000;rw[c1.iT];omega) key _ _ _ s.on).mono ?_
  rintro _ fR ⟨eL,eY,rfl,L0,v2⟩
  have uJ:=A2.LZ F uH d1 gX sc L0 v2
  have rn:bT (lU G B ih qq C cB) fw (lU G B ih qq C eY) fR:=A1 v2
  have wF:=rn.get DL n34
  have L1:=rn.get HD n44
  refine⟨rfl,_,az wF rfl,_,az L1 rfl,dg (decide_eq_true rfl) ⟨_,az wF rfl,_,az L1 rfl,dg (decide_eq_true rfl) ⟨_,az wF rfl,_,az L1 rfl,?_⟩⟩⟩
  have au:(bif true then decide ((gK G (λp=>ws.getD p 0) X key S).2.2.2=(gK G (λp=>ws.getD p 0) X key S).2.2.2) else false)=true:=decide_eq_true rfl
  rw[au]
  rw[<-show yD X op a=a+2+1 from (if_neg (by omega)).trans (if_neg (by omega)),<-show yE X op e=c1.wr (c1.rd (e+2)+1) from (if_neg (by omega)).trans (if_neg (by omega))] at uJ
  exact fI _ ⟨_,oB,ih,qq,eY,uJ,(hF HC _).trans ((uI.trans lr).trans rn)⟩
end

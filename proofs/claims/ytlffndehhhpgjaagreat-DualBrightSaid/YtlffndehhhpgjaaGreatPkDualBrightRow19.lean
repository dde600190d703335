/- Walks and plain laws for DualBrightRow, part 19. -/
import Derived.Test.YtlffndehhhpgjaaGreatPkDualBrightRow18
namespace Go.Proofs.YtlffndehhhpgjaaGreat
set_option linter.unusedVariables false
set_option linter.unusedSimpArgs false
set_option maxRecDepth 100000
set_option maxHeartbeats 4000000
open _root_.List renaming getElem?_eq_getElem → yAA, getElem_mem → yAH, take_succ_eq_append_getElem → yAI, take_of_length_le → yAL, mem_iff_getElem → yAM, length_map → yAS, all_eq_true → yAT, getElem?_map → yAZ, length_eq_zero_iff → yBT, any_eq_true → yDO
open _root_.Nat renaming le_refl → yAC, zero_le → yAK, lt_or_ge → yAP
open _root_.Int renaming toNat_natCast → yEG
open _root_.Array renaming getElem?_eq_some_iff → yAB
open _root_.Option renaming getD_some → yBA
section
open Go.RowKit
theorem own_lenM{W:World}{base n size:Nat}{e:TypeId}{v:Value}{xs:List Value}(h:W.ownsRow base e size v n xs):n<=maxLen:=by
 rcases h.2 with⟨_,h0⟩|⟨g,cap,cur,_,_,_,hnc,hcm,_⟩
 ·rw[h0];decide
 ·omega
theorem r5bright_c(w:World)(a a2:Option Addr)(n cap n2 cap2:Nat)(M:Mask)(Y:List Int)(hn:M.length=n)(hn2:Y.length=n2)(hm:n<=maxLen)(hm2:n2<=maxLen)(H:zAM w a M)(H2:zAH w a2 Y)(p:Int):
 Calls Tryz.prog 60 #[.slice a n cap,.slice a2 n2 cap2,.int .i64 p] w fun e w'=>e=.returned (.tuple #[ratV (zCY M Y p).1,.int .i64 (zCY M Y p).2])∧Below w.heap.size w w':=by
 obtain⟨s,hs⟩:=exq (w.heap.size)
 obtain⟨wz,hwz⟩:=exq (w.alloc (.cells #[.int .i64 0,.int .i64 0] 29))
 have hbz:Below w.heap.size w wz:=by rw[hwz];exact(Below.refl _ _).alloc (yAC _) _
 have qa:RatI wz s (0,0):=by rw[hwz,hs];exact RatI.made w (0,0)
 have HSW:=hid (show w.heap.size<=s by omega)
 have HRD:=hid (r3Read_c wz a a2 n cap n2 cap2 M Y hn hn2 hm hm2 (H.below hbz) (H2.below hbz))
 have HB1:=hid (Below.refl wz.heap.size wz)
 have hc1:=check_one (M:=M) (y:=Y) p
 have HQ:=hid (fun(X:World) (hX:Below wz.heap.size wz X)=>qa.keep (hX.block _ qa.lt))
 have HBZ:=hid hbz
 obtain⟨R,hR⟩:=exq (zCY M Y p)
 rw[<- hR]
 by_cases h0:rdE M Y=0
 rotate_left
 ·rw[if_neg h0]at hc1
  have HR:=hid (show R=((0,0),rdE M Y)by rw[hR];unfold zCY;rw[hc1,if_pos h0])
  have hnf:(rdE M Y !=0)=true:=by simpa using h0
  obtain⟨E,hE⟩:=exq (rdE M Y)
  rw[<- hE]at HRD HR hnf
  clear hn hn2 H H2 hR hbz qa hc1 h0 hE
  go_enter Tryz.func60,Tryz.ntmps60
  go_upto_region 1 with fail
  rw[<- hs,<- hwz]
  clear hs hwz
  go_upto_region 2 with (go_at_call 71;refine HRD.out.mono ?_;rintro e w1 ⟨rfl,rfl⟩;refine Stop.of ?_)
  refine Stop.go ?_
  have hR2:=HQ.out _ HB1.out
  obtain⟨r0,r1,r2,r3,r4⟩:=hR2.cells
  have X1:=hid (RatI.set (p:=(0,0)) hR2)
  have X2:=hid (zCZ (zAA HBZ.out HB1.out) HSW.out (.int .i64 (0)) (.int .i64 (0)))
  clear hR2
  go_wp2
  clear r0 r1 r2 r3 r4
  generalize (wz.setCell ⟨s,0,none⟩ (.int .i64 (0))).setCell ⟨s,1,none⟩ (.int .i64 (0))=WF at X1 X2⊢
  obtain⟨t0,t1,t2,t3,t4⟩:=X1.out.cells
  refine bodyPost_ret (v:=.tuple #[.agg #[.int .i64 (0),.int .i64 (0)],.int .i64 (E)]) ?_ rfl ⟨by rw[HR.out];rfl,X2.out⟩
  simp[results,Tryz.results60,go_sem,t0,t1,t2,t3,t4]
 rw[h0]at HRD
 rw[if_pos h0]at hc1
 obtain⟨hok,hyl,hmil⟩:=zOV h0
 obtain⟨hM,h1,h6,hcc,hc10⟩:=zCR hok
 obtain⟨b_,off_,ra,rc,rfl,hb,hc⟩:=zCT H (by omega)
 have HCC:=hid (show wz.cell? ⟨b_,off_,none⟩=some (.slice ra (zAD M) rc)from(hbz.cell (p:=⟨b_,off_,none⟩) hb).trans hc)
 obtain⟨W,hW⟩:=exq (zAD M)
 rw[<- hW]at HCC
 have hi0:(0:Int)<(n:Int):=by omega
 have hsub:IntKind.i64.wrap ((W:Int)-1)=(W:Int)-1:=IntWalk.i64_in _ (by omega)
 by_cases hB:inB p 0 ((W:Int)-1)=true
 rotate_left
 ·have hB':inB p 0 ((W:Int)-1)=false:=by simpa using hB
  have HWI:=hid (fun(X:World)=>zPN p 0 ((W:Int)-1) X)
  rw[hB']at HWI
  have HR:=hid (show R=((0,0),5)by
   rw[hR];unfold zCY
   rw[<- hW,hB']at hc1
   rw[hc1]
   rfl)
  clear hn hn2 H H2 hR hbz qa hc1
  clear hM h1 h6 hcc hc10 hok hyl hmil hb hc hW hB hB' h0
  go_enter Tryz.func60,Tryz.ntmps60
  go_upto_region 1 with fail
  rw[<- hs,<- hwz]
  clear hs hwz
  go_upto_region 2 with (go_at_call 71;refine HRD.out.mono ?_;rintro e w1 ⟨rfl,rfl⟩;refine Stop.of ?_)
  refine Stop.go ?_
  have cc:=HCC.out
  go_upto_region 5 with (go_at_call 93;refine(HWI.out _).mono ?_;rintro e w2 ⟨rfl,rfl⟩;refine Stop.of ?_)
  refine Stop.go ?_
  clear cc
  have hR2:=HQ.out _ HB1.out
  obtain⟨r0,r1,r2,r3,r4⟩:=hR2.cells
  have X1:=hid (RatI.set (p:=(0,0)) hR2)
  have X2:=hid (zCZ (zAA HBZ.out HB1.out) HSW.out (.int .i64 (0)) (.int .i64 (0)))
  clear hR2
  go_wp2
  clear r0 r1 r2 r3 r4
  generalize (wz.setCell ⟨s,0,none⟩ (.int .i64 (0))).setCell ⟨s,1,none⟩ (.int .i64 (0))=WF at X1 X2⊢
  obtain⟨t0,t1,t2,t3,t4⟩:=X1.out.cells
  refine bodyPost_ret (v:=.tuple #[.agg #[.int .i64 (0),.int .i64 (0)],.int .i64 (5)]) ?_ rfl ⟨by rw[HR.out];rfl,X2.out⟩
  simp[results,Tryz.results60,go_sem,t0,t1,t2,t3,t4]
 have HWI:=hid (fun(X:World)=>zPN p 0 ((W:Int)-1) X)
 have hpb:0<=p∧p<W:=by
  have hin:=hB
  unfold inB at hin
  simp only[Bool.and_eq_true,decide_eq_true_eq]at hin
  omega
 rw[hB]at HWI
 have hck:zAV M Y [p]=0:=by rw[hc1,<- hW,if_pos hB]
 have HLG:=hid (fun(X:World) (hX:Below w.heap.size w X)=>r5lights_c X (some ⟨b_,off_,none⟩) a2 n cap n2 cap2 M Y hn hn2 hm hm2 (H.below hX) (H2.below hX) h0)
 obtain⟨LF,hLF⟩:=exq (zCQ M Y)
 have hLP:zBB M Y=LF.map (sprF W):=by rw[hLF,hW];rfl
 by_cases hnl:LF.length=0
 ·have HR:=hid (show R=((0,0),8)by rw[hR];unfold zCY;rw[if_neg (fun h=>h hck),if_pos (by rw[<- hLF];exact yBT.1 hnl)])
  rw[<- hLF]at HLG
  have hnz:((LF.length:Int)==0)=true:=by simp[hnl]
  clear hn hn2 H H2 hR hbz qa hc1
  clear hM h1 h6 hcc hc10 hok hyl hmil hb hc hW hB h0 hck hLF hLP hnl hpb
  go_enter Tryz.func60,Tryz.ntmps60
  go_upto_region 1 with fail
  rw[<- hs,<- hwz]
  clear hs hwz
  go_upto_region 2 with (go_at_call 71;refine HRD.out.mono ?_;rintro e w1 ⟨rfl,rfl⟩;refine Stop.of ?_)
  refine Stop.go ?_
  have cc:=HCC.out
  go_upto_region 5 with (go_at_call 93;refine(HWI.out _).mono ?_;rintro e w2 ⟨rfl,rfl⟩;refine Stop.of ?_)
  refine Stop.go ?_
  clear cc
  go_upto_region 7 with (go_at_call 121;refine(HLG.out _ HBZ.out).mono ?_;rintro e w3 ⟨⟨fa,fc,rfl,hfa⟩,hb3⟩;have HB3:=hid hb3;have HFA:=hid hfa;clear hb3 hfa;refine Stop.of ?_)
  refine Stop.go ?_
  have hR2:=HQ.out _ HB3.out
  obtain⟨r0,r1,r2,r3,r4⟩:=hR2.cells
  have X1:=hid (RatI.set (p:=(0,0)) hR2)
  have X2:=hid (zCZ (zAA HBZ.out HB3.out) HSW.out (.int .i64 (0)) (.int .i64 (0)))
  clear hR2
  go_wp2
  clear r0 r1 r2 r3 r4
  generalize (w3.setCell ⟨s,0,none⟩ (.int .i64 (0))).setCell ⟨s,1,none⟩ (.int .i64 (0))=WF at X1 X2⊢
  obtain⟨t0,t1,t2,t3,t4⟩:=X1.out.cells
  refine bodyPost_ret (v:=.tuple #[.agg #[.int .i64 (0),.int .i64 (0)],.int .i64 (8)]) ?_ rfl ⟨by rw[HR.out];rfl,X2.out⟩
  simp[results,Tryz.results60,go_sem,t0,t1,t2,t3,t4]
 obtain⟨P,rfl⟩:∃P:Nat,p=(P:Int):=⟨p.toNat,by omega⟩
 have hPW:P<W:=by omega
 obtain⟨_,g3⟩:=zPV (M:=M) (y:=Y) h0 (by rw[<- hW];exact hPW)
 have HCI:=hid (fun(X:World) (hX:Below w.heap.size w X)=>show Calls Tryz.prog 122 #[.slice (some ⟨b_,off_,none⟩) n cap] X fun e w'=>(∃b c,e=.returned (.tuple #[.slice b (zEN M (zAD M)).length c,.int .i64 0])∧(zEN M (zAD M)).length<=maxLen∧zAM w' b (zEN M (zAD M)))∧Below X.heap.size X w' from by
  refine(r3Circuits_c X _ n cap M hn hm (H.below hX)).mono ?_
  rintro e w' ⟨v,base,hbs,hb,⟨h,_⟩|⟨_,rfl,hr⟩⟩
  ·rw[hok]at h;cases h
  ·obtain⟨vs,ho,_⟩:=id hr
   obtain⟨ra,rc,rfl⟩:=zAC ho
   exact⟨⟨ra,rc,rfl,own_lenM ho,hr.rows rfl (fun r hr=>by rw[zRT hok hr];unfold maxLen;omega)⟩,hb⟩)
 have HCL:=hid (fun(c:List Int) (hc:c∈zEN M (zAD M))=>zRT hok hc)
 have HRY:=hid (show rayB M P=(zEN M (zAD M)).any fun c=>posB c&&decide (0<vec c P)from rfl)
 have hne:¬zCQ M Y=[]:=fun h=>hnl (by rw[hLF,h];rfl)
 have HR1:=hid (show rayB M P=true->R=((0,0),10)from fun h=>by
  rw[hR];unfold zCY;rw[if_neg (fun h=>h hck),if_neg hne,if_pos (by rw[show((P:Int)).toNat=P by omega];exact h)])
 obtain⟨L,hL⟩:=exq (zBB M Y)
 have hhi:hiTo L P L.length=(zOS L P).2:=by
  refine hi_span (fun k hk=>?_) L.length (yAC _) (by rw[hL,hLP,yAS];omega)
  rw[yAA hk,yBA]
  have hx:L[k]∈zBB M Y:=by rw[<- hL];exact yAH hk
  obtain⟨q1,q2,q3⟩:=zDT hok hyl hmil hx
  refine⟨?_,q3 P⟩
  have e3:zAB L[k] P=(L[k])[P]'(by omega):=by unfold zAB;rw[yAA (show P<(L[k]).length by omega)];rfl
  rw[e3]
  exact yAT.1 q2 _ (yAH _)
 have HR2:=hid (show rayB M P=false->R=(hiTo L P LF.length,0)from fun h=>by
  have hll:LF.length=L.length:=by rw[hL,hLP,yAS]
  rw[hR,hll,hhi,hL];unfold zCY;rw[if_neg (fun h=>h hck),if_neg hne,if_neg (by rw[show((P:Int)).toNat=P by omega,h];simp),show((P:Int)).toNat=P by omega])
 have HFT:=hid (fun(f:FitT) (hf:f∈LF)=>show zCI W f.1∧f.2.length=f.1.length∧f.1.length<=10 from by
  rw[hLF]at hf
  obtain⟨k1,k2,_⟩:=zHF hok hyl hmil (zIA.1 hf).1
  rw[hW]
  exact⟨k1,k2,by have:=zPJ k1;omega⟩)
 have HSPR:=hid (fun(X:World) (us ur:Value) (f:FitT) (hX:Below w.heap.size w X) (hd:HdF X us ur f) (hf:zCI W f.1∧f.2.length=f.1.length∧f.1.length<=10)=>r4spread_c X (some ⟨b_,off_,none⟩) n cap M W us ur f hn (by omega) hW (by omega) (H.below hX) hd hf.1 hf.2.1 hf.2.2)
 have HFL:=hid (show LF.length<=11264 by
  have:=light_len (M:=M) (y:=Y) h0
  rw[hLP,yAS]at this;exact this)
 have HLK:=hid (fun(k:Nat) (hk:k<LF.length)=>show zAB (L[k]?.getD []) P=zAB (sprF W LF[k]) P from by
  rw[hL,hLP,yAZ,yAA hk];rfl)
 have HF2:=hid (fun(k:Nat)=>show F2 (zAB (L[k]?.getD []) P)from by rw[hL];exact g3 k)
 have hF2z:F2 (0,1):=by unfold F2 F64;simp
 have HHF:=hid (show ∀k:Nat,F2 (hiTo L P k)from fun k=>by
  induction k with
  |zero=>exact hF2z
  |succ k ih=>
   show F2 (if 0<cmpF (zAB (L[k]?.getD []) P) (hiTo L P k)then zAB (L[k]?.getD []) P else hiTo L P k)
   split
   ·exact HF2.out k
   ·exact ih)
 have HSL:=hid (fun(f:FitT)=>zLZ W f)
 obtain⟨C,hC⟩:=exq (zEN M (zAD M))
 rw[<- hC]at HCI HCL HRY
 rw[<- hLF]at HLG
 rw[<- hW]at HCL
 have HPW:=hid hPW
 have HW10:=hid (show W<=10 by omega)
 have hnz:((LF.length:Int)==0)=false:=beq_eq_false_iff_ne.2 (by omega)
 have HFC:=hid (fun(X:World) (hX:Below w.heap.size w X)=>H.below hX)
 clear hn hn2 H H2 hR hbz qa hc1
 clear hM h1 h6 hcc hc10 hok hyl hmil hb hc hW hB h0 hck hLF hLP hnl hpb hPW g3 hne hhi hL hF2z hC HFC
 go_enter Tryz.func60,Tryz.ntmps60
 go_upto_region 1 with fail
 rw[<- hs,<- hwz]
 clear hs hwz
 go_upto_region 2 with (go_at_call 71;refine HRD.out.mono ?_;rintro e w1 ⟨rfl,rfl⟩;refine Stop.of ?_)
 refine Stop.go ?_
 have cc:=HCC.out
 go_upto_region 5 with (go_at_call 93;refine(HWI.out _).mono ?_;rintro e w2 ⟨rfl,rfl⟩;refine Stop.of ?_)
 refine Stop.go ?_
 clear cc
 go_upto_region 7 with (go_at_call 121;refine(HLG.out _ HBZ.out).mono ?_;rintro e w3 ⟨⟨fa,fc,rfl,hfa⟩,hb3⟩;have HB3:=hid hb3;have HFA:=hid hfa;clear hb3 hfa;refine Stop.of ?_)
 refine Stop.go ?_
 go_upto_region 9 with fail
 clear hnz
 go_upto_region 10 with (go_at_call 122;refine(HCI.out _ (zAA HBZ.out HB3.out)).mono ?_;rintro e w4 ⟨⟨ca,cc,rfl,hcm,hrw⟩,hb4⟩;have HB4:=hid (zAA HB3.out hb4);have HB34:=hid hb4;have HRW:=hid hrw;have HCM:=hid hcm;clear hb4 hrw hcm;refine Stop.of ?_)
 refine Stop.go ?_
 have hcm:=HCM.out
 unfold maxLen at hcm
 clear hi0 hsub
 go_wp2
 go_loopw [51] (fun i wr=>∃k:Nat,k<=C.length∧i=.int .i64 k∧Hid (∀q,q<k->(posB (C[q]?.getD [])&&decide (0<vec (C[q]?.getD []) P))=false)∧wr=w4) (fun i _=>C.length-(intOf i).toNat)
 case atStart=>exact⟨0,yAK _,rfl,hid (fun q h=>by omega),rfl⟩
 case round=>
  obtain⟨k,hk,rfl,HQQ,hwr⟩:=hrel
  subst hwr
  by_cases hkl:k<C.length
  ·obtain⟨b,off,xa,xn,xc,rfl,hbs,hc0,hxn,hxm,hxi⟩:=HRW.out k hkl
   have hcl:=HCL.out _ (yAH hkl)
   obtain⟨c,hc⟩:=exq (C[k]'hkl)
   rw[<- hc]at hxn hxi hcl
   have HCK2:=hid (show C[k]?.getD []=c by rw[yAA hkl,hc];rfl)
   obtain rfl:xn=W:=by omega
   obtain⟨cb,co,rfl,hcb,hcc⟩:=hxi P (by rw[hcl];exact HPW.out)
   have hv:c[P]?.getD 0=vec c P:=rfl
   rw[hv]at hcc
   obtain⟨v,hvv⟩:=exq (vec c P)
   rw[<- hvv]at hcc
   have HV:=hid hvv
   have HXI:=hid hxi
   have HXN:=hid hcl
   have HCC2:=hid hcc
   have hw10:=HW10.out
   have i2:(k:Int)<(C.length:Int):=by omega
   have HMC:=hid (show c∈C by rw[hc];exact yAH hkl)
   have HNX:=hid (show(posB c&&decide (0<v))=false->∀q,q<k+1->(posB (C[q]?.getD [])&&decide (0<vec (C[q]?.getD []) P))=false from fun h q hq=>by
    rcases yAP q k with h2|h2
    ·exact HQQ.out q h2
    ·obtain rfl:q=k:=by omega
     rw[HCK2.out,<- hvv];exact h)
   have HKL:=hid hkl
   have HPC:=hid (show posB c=c.all fun n=>decide (0<=n)from rfl)
   clear hc hcl hv hvv hxi hxn hbs hcb hcc
   go_wp2
   obtain⟨wo,hwo⟩:=exq (wr)
   subst hwo
   go_loopw [14,57] (fun lv j wx=>∃t:Nat,t<=xn∧j=.int .i64 t∧lv=.bool ((c.take t).all fun n=>decide (0<=n))∧wx=wo) (fun _ j _=>xn-(intOf j).toNat)
   case atStart=>exact⟨0,yAK _,rfl,rfl,rfl⟩
   case round=>
    obtain⟨t,ht,rfl,rfl,hwx⟩:=hrel
    subst hwx
    by_cases htl:t<xn
    ·have htf:t<c.length:=by rw[HXN.out];exact htl
     obtain⟨rb,ro,e,hrb,hr0⟩:=HXI.out t htf
     cases e
     rw[yAA htf,yBA]at hr0
     have hts:(c.take (t+1)).all (fun n=>decide (0<=n))=((c.take t).all (fun n=>decide (0<=n))&&decide (0<=c[t]'htf)):=by
      rw[yAI htf,List.all_append];simp
     obtain⟨N,hN⟩:=exq (c[t]'htf)
     rw[<- hN]at hr0 hts
     obtain⟨lb,hlb⟩:=exq ((c.take t).all (fun n=>decide (0<=n)))
     rw[<- hlb]at hts⊢
     have HTS:=hid hts
     have j1:(t:Int)<(xn:Int):=by omega
     have j0:(0:Int)<=(t:Int):=by omega
     clear hts hN hlb hrb
     by_cases hN0:0<=N
     ·have HE1:=hid (show(c.take (t+1)).all (fun n=>decide (0<=n))=lb by rw[HTS.out,decide_eq_true hN0,Bool.and_true])
      cases lb
      ·go_wp2
       refine⟨⟨t+1,by omega,by go_num,by rw[HE1.out],(by first|trivial|rfl)⟩,by simp[intOf];omega⟩
      ·go_wp2
       refine⟨⟨t+1,by omega,by go_num,by rw[HE1.out],(by first|trivial|rfl)⟩,by simp[intOf];omega⟩
     ·have HE1:=hid (show(c.take (t+1)).all (fun n=>decide (0<=n))=false by rw[HTS.out,decide_eq_false hN0,Bool.and_false])
      cases lb
      ·go_wp2
       refine⟨⟨t+1,by omega,by go_num,by rw[HE1.out],(by first|trivial|rfl)⟩,by simp[intOf];omega⟩
      ·go_wp2
       refine⟨⟨t+1,by omega,by go_num,by rw[HE1.out],(by first|trivial|rfl)⟩,by simp[intOf];omega⟩
    ·obtain rfl:t=xn:=by omega
     have hla:((c.take t).all fun n=>decide (0<=n))=posB c:=by rw[yAL (by rw[HXN.out];exact yAC _),HPC.out]
     rw[hla]
     obtain⟨lb,hlb⟩:=exq (posB c)
     rw[<- hlb]
     have HLB:=hid hlb.symm
     have j1:¬(t:Int)<(t:Int):=by omega
     have hcc:=HCC2.out
     have j3:(P:Int)<(t:Int):=by have:=HPW.out;omega
     have j0:(0:Int)<=(P:Int):=by omega
     clear hla hlb
     cases lb
     ·have HQ3:=hid (HNX.out (by rw[HLB.out,Bool.false_and]))
      go_wp2
      refine⟨⟨k+1,by omega,by go_num,HQ3,(by first|trivial|rfl)⟩,by simp[intOf];omega⟩
     ·by_cases hv0:0<v
      ·have HRT:=hid (HR1.out (by rw[HRY.out];exact yDO.2 ⟨c,HMC.out,by rw[HLB.out,<- HV.out];simpa using hv0⟩))
       have hR2:=HQ.out _ HB4.out
       obtain⟨r0,r1,r2,r3,r4⟩:=hR2.cells
       have X1:=hid (RatI.set (p:=(0,0)) hR2)
       have X2:=hid (zCZ (zAA HBZ.out HB4.out) HSW.out (.int .i64 (0)) (.int .i64 (0)))
       clear hR2
       go_wp2
       clear r0 r1 r2 r3 r4
       generalize (wr.setCell ⟨s,0,none⟩ (.int .i64 (0))).setCell ⟨s,1,none⟩ (.int .i64 (0))=WF at X1 X2⊢
       obtain⟨t0,t1,t2,t3,t4⟩:=X1.out.cells
       refine bodyPost_ret (v:=.tuple #[.agg #[.int .i64 (0),.int .i64 (0)],.int .i64 (10)]) ?_ rfl ⟨by rw[HRT.out];rfl,X2.out⟩
       simp[results,Tryz.results60,go_sem,t0,t1,t2,t3,t4]
      ·have HQ3:=hid (HNX.out (by rw[decide_eq_false hv0,Bool.and_false]))
       go_wp2
       refine⟨⟨k+1,by omega,by go_num,HQ3,(by first|trivial|rfl)⟩,by simp[intOf];omega⟩
  ·obtain rfl:k=C.length:=by omega
   have HRF:=hid (HR2.out (by
    rw[HRY.out,Bool.eq_false_iff]
    intro h
    obtain⟨c,hc,h2⟩:=yDO.1 h
    obtain⟨q,hq,rfl⟩:=yAM.1 hc
    have:=HQQ.out q hq
    rw[yAA hq]at this
    rw[yBA,h2]at this
    cases this))
   have i2:¬(C.length:Int)<(C.length:Int):=by omega
   have HFA4:=hid (HFA.out.below HB34.out)
   clear HQQ HR1 HR2
   go_upto_region 23 with fail
   obtain⟨g,hg⟩:=exq (wr.heap.size)
   obtain⟨w5,hw5⟩:=exq (wr.alloc (.cells #[.int .i64 0,.int .i64 1] 29))
   rw[<- hg,<- hw5]
   have HG5:=hid (show RatI w5 g (0,1)by rw[hw5,hg];exact RatI.made wr (0,1))
   have HB5:=hid (show Below wz.heap.size wz w5 by rw[hw5];exact HB4.out.alloc HB4.out.size _)
   have HB45:=hid (show Below wr.heap.size wr w5 by rw[hw5];exact(Below.refl _ _).alloc (yAC _) _)
   have HGZ:=hid (show wr.heap.size<=g∧wz.heap.size<=g from⟨by omega,by have:=HB4.out.size;omega⟩)
   clear hg hw5
   have hfl:=HFL.out
   go_wp2
   obtain⟨wo,hwo⟩:=exq (wr)
   subst hwo
   go_loopw [80] (fun i wx=>∃k:Nat,k<=LF.length∧i=.int .i64 k∧RatI wx g (hiTo L P k)∧Below wo.heap.size wo wx) (fun i _=>LF.length-(intOf i).toNat)
   case atStart=>exact⟨0,yAK _,rfl,HG5.out,HB45.out⟩
   case round=>
    obtain⟨k,hk,rfl,hgk,hbk⟩:=hrel
    have HGK:=hid hgk
    have HBK:=hid hbk
    by_cases hlt:k<LF.length
    ·obtain⟨fb,off,us,ur,rfl,hfb,q0,q1,hd⟩:=HFA4.out.hd hlt
     obtain⟨f,hf⟩:=exq (LF[k])
     rw[<- hf]at hd
     have hff:=HFT.out f (by rw[hf];exact yAH hlt)
     obtain⟨pa,pn,pc,va,vn,vc,rfl,rfl,_⟩:=id hd
     have q0':wr.cell? ⟨fb,off+k*2,none⟩=some (.slice pa pn pc):=(hbk.cell (p:=⟨fb,_,none⟩) hfb).trans q0
     have q1':wr.cell? ⟨fb,off+k*2+1,none⟩=some (.slice va vn vc):=(hbk.cell (p:=⟨fb,_,none⟩) hfb).trans q1
     have HSP:=hid (fun(X:World) (hX:Below wr.heap.size wr X)=>HSPR.out X _ _ f (zAA HBZ.out (zAA HB4.out (zAA hbk hX))) (hd.below (zAA hbk hX)) hff)
     have hx:=HLK.out k hlt
     rw[<- hf]at hx
     obtain⟨x,hxe⟩:=exq (zAB (L[k]?.getD []) P)
     obtain⟨hv,hhv⟩:=exq (hiTo L P k)
     have HNX:=hid (show hiTo L P (k+1)=if 0<cmpF x hv then x else hv by rw[hxe,hhv];rfl)
     have HFX:=hid (show F2 x by rw[hxe];exact HF2.out k)
     have HFH:=hid (show F2 hv by rw[hhv];exact HHF.out k)
     rw[<- hxe]at hx
     have HXE:=hid hx
     have HSLF:=hid (HSL.out f)
     obtain⟨ch,hch⟩:=exq (cmpF x hv)
     rw[<- hch]at HNX
     have HCH:=hid (fun(Z:World)=>show Calls Tryz.prog 31 #[.agg #[.int .i64 x.1,.int .i64 x.2],.agg #[.int .i64 hv.1,.int .i64 hv.2]] Z fun e w'=>e=.returned (.int .i64 ch)∧Below Z.heap.size Z w' from by
      rw[hch];exact zPM _ Z _ _ _ _ HFX.out.1 HFX.out.2 HFH.out.1 HFH.out.2 (yAC _))
     have HGK:=hid (show RatI wr g hv by rw[hhv];exact hgk)
     have hk9:k<=11264:=by omega
     have i3:(k:Int)<(LF.length:Int):=by omega
     have hi0:(0:Int)<=(k:Int):=by omega
     clear hd hff hf hx hxe hhv hch hgk hbk hfb q0 q1
     go_upto_region 26 with fail
     obtain⟨h,hh⟩:=exq (wr.heap.size)
     obtain⟨wh,hwh⟩:=exq (wr.alloc (.cells #[.slice pa pn pc,.slice va vn vc] 73))
     rw[<- hh,<- hwh]
     have hbh:Below wr.heap.size wr wh:=by rw[hwh];exact(Below.refl _ _).alloc (yAC _) _
     have hch:wh.heap[h]? =some (.cells #[.slice pa pn pc,.slice va vn vc] 73 (0,0)):=by rw[hwh,hh];exact World.alloc_heap_new _ _
     have y0:wh.cell? ⟨h,0,none⟩=some (.slice pa pn pc):=by simp[World.cell?,hch]
     have y1:wh.cell? ⟨h,1,none⟩=some (.slice va vn vc):=by simp[World.cell?,hch]
     have HBH:=hid hbh
     clear q0' q1' hh hwh hbh hch
     go_upto_region 27 with (go_at_call 100;refine(HSP.out _ HBH.out).mono ?_;rintro e w6 ⟨gx,rfl,hgx,hrx,hb6⟩;have HB6:=hid (zAA HBH.out hb6);have HRX:=hid hrx;clear hb6 hrx hgx;refine Stop.of ?_)
     refine Stop.go ?_
     clear y0 y1
     have HXP:=hid (show P<(sprF W f).length by rw[HSLF.out];exact HPW.out)
     have HSA:=hid (fun(Z:World) (hZ:Below w6.heap.size w6 Z)=>show Z.cell? ⟨gx,P*2,none⟩=some (.int .i64 x.1)∧Z.cell? ⟨gx,P*2+1,none⟩=some (.int .i64 x.2)∧Z.cell? ⟨g,0,none⟩=some (.int .i64 hv.1)∧Z.cell? ⟨g,1,none⟩=some (.int .i64 hv.2)from by
      obtain⟨a0,a1,_⟩:=(HRX.out.keep (hZ.block _ HRX.out.lt)).cells HXP.out
      have ex:(sprF W f)[P]'HXP.out=x:=by rw[HXE.out];unfold zAB;rw[yAA HXP.out];rfl
      rw[ex]at a0 a1
      obtain⟨b0,b1,_⟩:=(HGK.out.keep ((zAA HB6.out hZ).block _ HGK.out.lt)).cells
      exact⟨a0,a1,b0,b1⟩)
     go_upto_region 27 with fail
     have j3:(P:Int)<(W:Int):=by have:=HPW.out;omega
     have j0:(0:Int)<=(P:Int):=by omega
     refine zAG (fun j' Z=>wAll j'=true->Z.cell? ⟨gx,P*2,none⟩=some (.int .i64 x.1)∧Z.cell? ⟨gx,P*2+1,none⟩=some (.int .i64 x.2)∧Z.cell? ⟨g,0,none⟩=some (.int .i64 hv.1)∧Z.cell? ⟨g,1,none⟩=some (.int .i64 hv.2)) (by kernel_rfl) ?_
     have hbd:Below w6.heap.size w6 w6.drew:=(Below.refl _ _).drew
     generalize w6.drew=wd at hbd⊢
     have HDA:=hid hbd
     clear hbd
     refine AnyT.tD (i:=0) (v:=.slice (some ⟨gx,0,none⟩) W W) rfl rfl (by rintro w' ⟨q0,q1,q2,q3⟩;go_simp) (HSA.out _ HDA.out) ?_;go_frame
     refine AnyT.tD (i:=1) (v:=.int .i64 P) rfl rfl (by rintro w' ⟨q0,q1,q2,q3⟩;go_simp) (HSA.out _ HDA.out) ?_;go_frame
     refine AnyT.tD (i:=2) (v:=.pointer (some ⟨gx,P*2,none⟩)) rfl rfl (by rintro w' ⟨q0,q1,q2,q3⟩;go_simp) (HSA.out _ HDA.out) ?_;go_frame
     refine AnyT.tD (i:=3) (v:=.agg #[.int .i64 x.1,.int .i64 x.2]) rfl rfl (by rintro w' ⟨q0,q1,q2,q3⟩;go_simp) (HSA.out _ HDA.out) ?_;go_frame
     refine AnyT.tD (i:=4) (v:=.agg #[.int .i64 hv.1,.int .i64 hv.2]) rfl rfl (by rintro w' ⟨q0,q1,q2,q3⟩;go_simp) (HSA.out _ HDA.out) ?_;go_frame
     refine AnyT.nx (i:=5) rfl ?_
     go_wp2_with (go_at_call 31;refine(HCH.out _).mono ?_;rintro e wc ⟨rfl,hbc⟩;refine Stop.of ?_)
     refine Stop.go ?_
     have HEA:=hid (zAA HDA.out hbc)
     clear hbc
     go_wp2
     refine⟨fun _=>HSA.out _ HEA.out,?_⟩
     refine AnyT.nx (i:=6) rfl ?_
     go_wp2
     refine⟨fun _=>(HSA.out _ HEA.out),?_⟩
     refine AnyT.done (by kernel_rfl) ?_ _
     have HGC:=hid (HGK.out.keep ((zAA HB6.out HEA.out).block _ HGK.out.lt))
     have HBC:=hid (zAA HBK.out (zAA HB6.out HEA.out))
     obtain⟨a0,a1,_⟩:=HSA.out _ HEA.out
     by_cases hch:0<ch
     ·have HN1:=hid (show hiTo L P (k+1)=x by rw[HNX.out,if_pos hch])
      obtain⟨b0,b1,b2,b3,b4⟩:=HGC.out.cells
      have S1:=hid (RatI.set (p:=x) HGC.out)
      have S2:=hid ((zBQ wc g (.int .i64 x.1) (.int .i64 x.2)).below HBC.out HBC.out.size (fun k hk=>by have:=HGZ.out;show k≠g;omega))
      clear HSA
      go_wp2
      refine⟨⟨k+1,by omega,by go_num,by rw[HN1.out];exact S1.out,S2.out⟩,by simp[intOf];omega⟩
     ·have HN1:=hid (show hiTo L P (k+1)=hv by rw[HNX.out,if_neg hch])
      clear HSA
      go_wp2
      refine⟨⟨k+1,by omega,by go_num,by rw[HN1.out];exact HGC.out,HBC.out⟩,by simp[intOf];omega⟩
    ·obtain rfl:k=LF.length:=by omega
     obtain⟨r,hr⟩:=exq (hiTo L P LF.length)
     rw[<- hr]at HRF
     have HGK:=hid (show RatI wr g r by rw[hr];exact hgk)
     have HBW:=hid (zAA HB4.out hbk)
     obtain⟨b0,b1,_⟩:=HGK.out.cells
     have i3:¬(LF.length:Int)<(LF.length:Int):=by omega
     clear hr hgk hbk
     have hR2:=HQ.out _ HBW.out
     obtain⟨r0,r1,r2,r3,r4⟩:=hR2.cells
     have X1:=hid (RatI.set (p:=(r.1,r.2)) hR2)
     have X2:=hid (zCZ (zAA HBZ.out HBW.out) HSW.out (.int .i64 (r.1)) (.int .i64 (r.2)))
     clear hR2
     go_wp2
     clear r0 r1 r2 r3 r4
     generalize (wr.setCell ⟨s,0,none⟩ (.int .i64 (r.1))).setCell ⟨s,1,none⟩ (.int .i64 (r.2))=WF at X1 X2⊢
     obtain⟨t0,t1,t2,t3,t4⟩:=X1.out.cells
     refine bodyPost_ret (v:=.tuple #[.agg #[.int .i64 (r.1),.int .i64 (r.2)],.int .i64 (0)]) ?_ rfl ⟨by rw[HRF.out];rfl,X2.out⟩
     simp[results,Tryz.results60,go_sem,t0,t1,t2,t3,t4]
end
section
open Go.RowKit
theorem two5_c(w:World):Calls Tryz.prog 72 #[] w fun e w'=>Below w.heap.size w w'∧∃a cap,e=.returned (.slice a 2 cap)∧zAM w' a twoM:=by
 go_enter Tryz.func72,Tryz.ntmps72
 go_wp2
 go_ret
 exact⟨(((Below.refl _ _).alloc (yAC _) _).alloc (by simp) _).alloc (by simp;omega) _,_,_,rfl,two_rows w⟩
theorem zHU(w:World)(n:Int):Calls Tryz.prog 51 #[.int .i64 n] w fun e w'=>e=.returned (.agg #[.int .i64 n,.int .i64 1])∧Below w.heap.size w w':=by
 obtain⟨rb,hrb⟩:=exq (w.heap.size)
 obtain⟨wz,hwz⟩:=exq (w.alloc (.cells #[.int .i64 0,.int .i64 0] 29))
 have hbz:Below w.heap.size w wz:=by rw[hwz];exact(Below.refl _ _).alloc (yAC _) _
 have hrz:RatI wz rb (0,0):=by rw[hwz,hrb];exact RatI.made w (0,0)
 obtain⟨r0,r1,r2,r3,r4⟩:=hrz.cells
 have X1:=hid (RatI.set (p:=(n,1)) hrz)
 have X2:=hid ((zBQ wz rb (.int .i64 n) (.int .i64 1)).below hbz hbz.size (fun k hk=>by show k≠rb;omega))
 have HWZ:=hid hwz
 clear hwz hrz hbz
 go_enter Tryz.func51,Tryz.ntmps51
 go_upto_region 1 with fail
 rw[<- hrb,<- HWZ.out]
 clear hrb
 go_wp2
 clear r0 r1 r2 r3 r4
 generalize (wz.setCell ⟨rb,0,none⟩ (.int .i64 n)).setCell ⟨rb,1,none⟩ (.int .i64 1)=WF at X1 X2⊢
 obtain⟨t0,t1,t2,t3,t4⟩:=X1.out.cells
 refine bodyPost_ret (v:=.agg #[.int .i64 n,.int .i64 1]) ?_ rfl ⟨rfl,X2.out⟩
 simp[results,Tryz.results51,go_sem,t0,t1,t2,t3,t4]
theorem aw5_val:valE twoM [1,-1]=((2,1),0):=by decide+kernel
theorem aw5_prov:zEG twoM [1,1] [(0,1),(1,1),(0,1)] [(1,1),(0,1)]=true:=by decide+kernel
theorem ints2(w:World)(x y:Int)(T:TypeId):zAH (w.alloc (.cells #[.int .i64 x,.int .i64 y] T)) (some ⟨w.heap.size,0,none⟩) [x,y]:=fun j hj=>⟨w.heap.size,0,rfl,by simp,by
 rw[World.cell?_alloc_at _ _ _ _ rfl]
 match j,hj with
 |0,_=>rfl
 |1,_=>rfl⟩
theorem rats3(w:World)(a b c d e f:Int)(T:TypeId):zCB (w.alloc (.cells #[.int .i64 a,.int .i64 b,.int .i64 c,.int .i64 d,.int .i64 e,.int .i64 f] T)) (some ⟨w.heap.size,0,none⟩) [(a,b),(c,d),(e,f)]:=fun j hj=>⟨w.heap.size,0,rfl,by simp,by
 rw[World.cell?_alloc_at _ _ _ _ rfl]
 match j,hj with
 |0,_=>rfl
 |1,_=>rfl
 |2,_=>rfl,by
 rw[World.cell?_alloc_at _ _ _ _ rfl]
 match j,hj with
 |0,_=>rfl
 |1,_=>rfl
 |2,_=>rfl⟩
theorem rats2(w:World)(a b c d:Int)(T:TypeId):zCB (w.alloc (.cells #[.int .i64 a,.int .i64 b,.int .i64 c,.int .i64 d] T)) (some ⟨w.heap.size,0,none⟩) [(a,b),(c,d)]:=fun j hj=>⟨w.heap.size,0,rfl,by simp,by
 rw[World.cell?_alloc_at _ _ _ _ rfl]
 match j,hj with
 |0,_=>rfl
 |1,_=>rfl,by
 rw[World.cell?_alloc_at _ _ _ _ rfl]
 match j,hj with
 |0,_=>rfl
 |1,_=>rfl⟩
theorem awake5_c(w:World):Calls Tryz.prog 18 #[] w fun e w'=>e=.returned (.bool true)∧Below w.heap.size w w':=by
 go_enter Tryz.func18,Tryz.ntmps18
 go_upto_region 2 with (go_at_call 72;refine(two5_c _).mono ?_;rintro e w1 ⟨hb1,a,cap,rfl,hR⟩;refine Stop.of ?_)
 refine Stop.go ?_
 have hbA:Below w1.heap.size w1 (w1.alloc (.cells #[.int .i64 1,.int .i64 (-1)] 3)):=(Below.refl _ _).alloc (yAC _) _
 have HV:=hid (dvalue_c (w1.alloc (.cells #[.int .i64 1,.int .i64 (-1)] 3)) a (some ⟨w1.heap.size,0,none⟩) 2 cap 2 2 twoM [1,-1] rfl rfl (by decide) (by decide) (hR.below hbA) (ints2 w1 1 (-1) _))
 rw[aw5_val]at HV
 have HB1:=hid (zAA hb1 hbA)
 clear hb1 hbA hR
 go_upto_region 2 with (go_at_call 19;refine HV.out.mono ?_;rintro e w2 ⟨rfl,hb2⟩;refine Stop.of ?_)
 refine Stop.go ?_
 have HB2:=hid (zAA HB1.out hb2)
 clear hb2 HB1 HV
 have hr:ratV (2,1)=.agg #[.int .i64 2,.int .i64 1]:=rfl
 rw[hr]
 clear hr
 go_upto_region 2 with fail
 go_upto_region 3 with (go_at_call 51;refine(zHU _ _).mono ?_;rintro e w3 ⟨rfl,hb3⟩;have HB3:=hid hb3;clear hb3;refine Stop.of ?_)
 refine Stop.go ?_
 go_upto_region 3 with (go_at_call 51;refine(zHU _ _).mono ?_;rintro e w4 ⟨rfl,hb4⟩;have HB4:=hid hb4;clear hb4;refine Stop.of ?_)
 refine Stop.go ?_
 go_upto_region 3 with (go_at_call 51;refine(zHU _ _).mono ?_;rintro e w5 ⟨rfl,hb5⟩;have HB5:=hid hb5;clear hb5;refine Stop.of ?_)
 refine Stop.go ?_
 go_upto_region 3 with (go_at_call 51;refine(zHU _ _).mono ?_;rintro e w6 ⟨rfl,hb6⟩;have HB6:=hid hb6;clear hb6;refine Stop.of ?_)
 refine Stop.go ?_
 go_upto_region 3 with (go_at_call 51;refine(zHU _ _).mono ?_;rintro e w7 ⟨rfl,hb7⟩;have HB7:=hid hb7;clear hb7;refine Stop.of ?_)
 refine Stop.go ?_
 go_upto_region 3 with fail
 have B25:Below (w2.alloc (.cells #[.int .i64 2,.int .i64 1] 29)).heap.size (w2.alloc (.cells #[.int .i64 2,.int .i64 1] 29)) w5:=zAA HB3.out (zAA HB4.out HB5.out)
 have B57:Below (w5.alloc (.cells #[.int .i64 0,.int .i64 1,.int .i64 1,.int .i64 1,.int .i64 0,.int .i64 1] 29)).heap.size (w5.alloc (.cells #[.int .i64 0,.int .i64 1,.int .i64 1,.int .i64 1,.int .i64 0,.int .i64 1] 29)) w7:=zAA HB6.out HB7.out
 have R2:=RatI.made w2 (2,1)
 have R5:RatI w5 w2.heap.size (2,1):=R2.keep (B25.block _ R2.lt)
 have bC:Below w5.heap.size w5 (w5.alloc (.cells #[.int .i64 0,.int .i64 1,.int .i64 1,.int .i64 1,.int .i64 0,.int .i64 1] 29)):=(Below.refl _ _).alloc (yAC _) _
 have b57:Below w5.heap.size w5 w7:=zAA bC B57
 have R7:RatI w7 w2.heap.size (2,1):=R5.keep (b57.block _ R5.lt)
 have X7:zCB w7 (some ⟨w5.heap.size,0,none⟩) [(0,1),(1,1),(0,1)]:=(rats3 w5 0 1 1 1 0 1 29).below B57
 have bA:Below w2.heap.size w2 (w2.alloc (.cells #[.int .i64 2,.int .i64 1] 29)):=(Below.refl _ _).alloc (yAC _) _
 have bw7:Below w.heap.size w w7:=zAA HB2.out (zAA bA (zAA B25 b57))
 obtain⟨b1,hb1⟩:=exq (w2.heap.size)
 obtain⟨ap,hap⟩:=exq (w5.heap.size)
 obtain⟨ax,hax⟩:=exq (w7.heap.size)
 obtain⟨b3,hb3⟩:=exq (w7.heap.size+1)
 obtain⟨wB,hwB⟩:=exq ((w7.alloc (.cells #[.int .i64 1,.int .i64 1,.int .i64 0,.int .i64 1] 29)).alloc (.cells #[.slice (some ⟨w5.heap.size,0,none⟩) 3 3,.slice (some ⟨w7.heap.size,0,none⟩) 2 2] 78))
 have bD:Below w7.heap.size w7 (w7.alloc (.cells #[.int .i64 1,.int .i64 1,.int .i64 0,.int .i64 1] 29)):=(Below.refl _ _).alloc (yAC _) _
 have bB:Below w7.heap.size w7 wB:=by rw[hwB];exact bD.alloc bD.size _
 have bDB:Below (w7.alloc (.cells #[.int .i64 1,.int .i64 1,.int .i64 0,.int .i64 1] 29)).heap.size (w7.alloc (.cells #[.int .i64 1,.int .i64 1,.int .i64 0,.int .i64 1] 29)) wB:=by rw[hwB];exact(Below.refl _ _).alloc (yAC _) _
 have HRB:=hid (R7.keep (bB.block _ R7.lt))
 have HPB:=hid (X7.below bB)
 have HXB:=hid ((rats2 w7 1 1 0 1 29).below bDB)
 have HLB:=hid (show wB.heap[w7.heap.size+1]? =some (.cells #[.slice (some ⟨w5.heap.size,0,none⟩) 3 3,.slice (some ⟨w7.heap.size,0,none⟩) 2 2] 78 (0,0))by
  have h:=World.alloc_heap_new (w7.alloc (.cells #[.int .i64 1,.int .i64 1,.int .i64 0,.int .i64 1] 29)) (.cells #[.slice (some ⟨w5.heap.size,0,none⟩) 3 3,.slice (some ⟨w7.heap.size,0,none⟩) 2 2] 78)
  rw[World.size_alloc]at h
  rw[hwB];exact h)
 have HBW:=hid (zAA bw7 bB)
 rw[<- hwB]
 rw[<- hb1]at HRB⊢
 rw[<- hb3]at HLB⊢
 rw[<- hap]at HPB HLB⊢
 rw[<- hax]at HXB HLB⊢
 clear B25 B57 R2 R5 bC b57 R7 X7 bA bw7 hb1 hap hax hb3 hwB bD bB bDB HB2 HB3 HB4 HB5 HB6 HB7
 have HS:=hid (fun(X:World) (hX:Below wB.heap.size wB X)=>show X.cell? ⟨b1,0,none⟩=some (.int .i64 2)∧X.cell? ⟨b1,1,none⟩=some (.int .i64 1)∧X.cell? ⟨b3,0,none⟩=some (.slice (some ⟨ap,0,none⟩) 3 3)∧X.cell? ⟨b3,1,none⟩=some (.slice (some ⟨ax,0,none⟩) 2 2)from by
  obtain⟨c0,c1,_⟩:=(HRB.out.keep (hX.block _ HRB.out.lt)).cells
  have h:=(hX.block _ (yAB.1 HLB.out).1).trans HLB.out
  exact⟨c0,c1,by simp[World.cell?,h],by simp[World.cell?,h]⟩)
 have HPV:=hid (fun(X:World) (a a3:Option Addr) (cap cap3:Nat) (hX:Below wB.heap.size wB X) (hR:zAM X a twoM) (hY:zAH X a3 [1,1])=>dproves_c X a a3 (some ⟨ap,0,none⟩) (some ⟨ax,0,none⟩) 2 cap 2 cap3 3 3 2 2 twoM [1,1] [(0,1),(1,1),(0,1)] [(1,1),(0,1)] rfl rfl rfl rfl (by decide) (by decide) (by decide) (by decide) hR hY (HPB.out.below hX) (HXB.out.below hX))
 rw[aw5_prov]at HPV
 refine zAG (fun j X=>wAll j=true->X.cell? ⟨b1,0,none⟩=some (.int .i64 2)∧X.cell? ⟨b1,1,none⟩=some (.int .i64 1)∧X.cell? ⟨b3,0,none⟩=some (.slice (some ⟨ap,0,none⟩) 3 3)∧X.cell? ⟨b3,1,none⟩=some (.slice (some ⟨ax,0,none⟩) 2 2)) (by kernel_rfl) ?_
 have hbd:Below wB.heap.size wB wB.drew:=(Below.refl _ _).drew
 generalize wB.drew=wd at hbd⊢
 have HBD:=hid hbd
 clear hbd
 refine AnyT.nx (i:=0) rfl ?_
 go_wp2
 refine⟨fun _=>HS.out _ HBD.out,?_⟩
 refine AnyT.nx (i:=1) rfl ?_
 go_wp2
 refine⟨fun _=>HS.out _ HBD.out,?_⟩
 refine AnyT.nx (i:=2) rfl ?_
 go_wp2
 refine⟨fun _=>HS.out _ HBD.out,?_⟩
 refine AnyT.tD (i:=3) (v:=.agg #[.int .i64 2,.int .i64 1]) rfl rfl (by rintro w' ⟨q0,q1,q2,q3⟩;go_simp) (HS.out _ HBD.out) ?_;go_frame
 refine AnyT.nx (i:=4) rfl ?_
 go_wp2_with (go_at_call 51;refine(zHU _ _).mono ?_;rintro e w3 ⟨rfl,hb3⟩;have HB3:=hid (zAA HBD.out hb3);clear hb3;refine Stop.of ?_)
 refine Stop.go ?_
 go_wp2
 refine⟨fun _=>HS.out _ HB3.out,?_⟩
 refine AnyT.nx (i:=5) rfl ?_
 go_wp2
 refine⟨fun _=>HS.out _ HB3.out,?_⟩
 refine AnyT.nx (i:=6) rfl ?_
 go_wp2
 refine⟨fun _=>HS.out _ HB3.out,?_⟩
 refine AnyT.nx (i:=7) rfl ?_
 go_wp2
 refine⟨fun _=>HS.out _ HB3.out,?_⟩
 refine AnyT.tD (i:=10) (v:=.agg #[.slice (some ⟨ap,0,none⟩) 3 3,.slice (some ⟨ax,0,none⟩) 2 2]) rfl rfl (by rintro w' ⟨q0,q1,q2,q3⟩;go_simp) (HS.out _ HB3.out) ?_;go_frame
 refine AnyT.next2 (i:=8) (j:=9) (by kernel_rfl) (wpOp_of_list rfl ?_) (wpOp_of_list rfl ?_)
 ·go_wp2_with (go_at_call 72;refine(two5_c _).mono ?_;rintro e w4 ⟨hb4,a4,cap4,rfl,hR4⟩;have HB4:=hid (zAA HB3.out hb4);have HR4:=hid hR4;clear hb4 hR4;refine Stop.of ?_)
  refine Stop.go ?_
  go_wp2
  refine⟨fun _=>HS.out _ HB4.out,?_⟩
  refine AnyT.nx (i:=9) rfl ?_
  go_wp2
  have hb5:Below w4.heap.size w4 (w4.alloc (.cells #[.int .i64 1,.int .i64 1] 3)):=(Below.refl _ _).alloc (yAC _) _
  have HB5:=hid (zAA HB4.out hb5)
  have HPV2:=hid (HPV.out _ a4 (some ⟨w4.heap.size,0,none⟩) cap4 2 HB5.out (HR4.out.below hb5) (ints2 w4 1 1 3))
  clear hb5
  refine⟨fun _=>HS.out _ HB5.out,?_⟩
  refine AnyT.nx (i:=11) rfl ?_
  go_wp2_with (go_at_call 61;refine HPV2.out.mono ?_;rintro e w8 ⟨rfl,hb8⟩;have HB8:=hid (zAA HB5.out hb8);clear hb8;refine Stop.of ?_)
  refine Stop.go ?_
  go_wp2
  refine⟨fun _=>HS.out _ HB8.out,?_⟩
  refine AnyT.nx (i:=12) rfl ?_
  go_wp2
  refine⟨fun _=>HS.out _ HB8.out,?_⟩
  refine AnyT.nx (i:=13) rfl ?_
  go_wp2
  refine⟨fun _=>HS.out _ HB8.out,?_⟩
  refine AnyT.done (by kernel_rfl) ?_ _
  go_wp2
  go_ret
  exact⟨rfl,zAA HBW.out HB8.out⟩
 ·go_wp2
  obtain⟨w4,hw4⟩:=exq (w3.alloc (.cells #[.int .i64 1,.int .i64 1] 3))
  have hb4:Below w3.heap.size w3 w4:=by rw[hw4];exact(Below.refl _ _).alloc (yAC _) _
  have HY4:=hid (show zAH w4 (some ⟨w3.heap.size,0,none⟩) [1,1]by rw[hw4];exact ints2 w3 1 1 3)
  have HB4:=hid (zAA HB3.out hb4)
  rw[<- hw4]
  clear hb4 hw4
  refine⟨fun _=>HS.out _ HB4.out,?_⟩
  refine AnyT.nx (i:=8) rfl ?_
  go_wp2_with (go_at_call 72;refine(two5_c _).mono ?_;rintro e w5 ⟨hb5,a4,cap4,rfl,hR4⟩;have HB5:=hid (zAA HB4.out hb5);have HPV2:=hid (HPV.out _ a4 (some ⟨w3.heap.size,0,none⟩) cap4 2 HB5.out hR4 (HY4.out.below hb5));clear hb5 hR4;refine Stop.of ?_)
  refine Stop.go ?_
  go_wp2
  refine⟨fun _=>HS.out _ HB5.out,?_⟩
  refine AnyT.nx (i:=11) rfl ?_
  go_wp2_with (go_at_call 61;refine HPV2.out.mono ?_;rintro e w8 ⟨rfl,hb8⟩;have HB8:=hid (zAA HB5.out hb8);clear hb8;refine Stop.of ?_)
  refine Stop.go ?_
  go_wp2
  refine⟨fun _=>HS.out _ HB8.out,?_⟩
  refine AnyT.nx (i:=12) rfl ?_
  go_wp2
  refine⟨fun _=>HS.out _ HB8.out,?_⟩
  refine AnyT.nx (i:=13) rfl ?_
  go_wp2
  refine⟨fun _=>HS.out _ HB8.out,?_⟩
  refine AnyT.done (by kernel_rfl) ?_ _
  go_wp2
  go_ret
  exact⟨rfl,zAA HBW.out HB8.out⟩
end
section
open Go.RowKit
def AnyB(e:Ending):Prop:=∃b,e=.returned (.bool b)
theorem AnyB.of{e:Ending}(b:Bool)(h:e=.returned (.bool b)):AnyB e:=⟨b,h⟩
theorem long5_c(w:World)(a:Option Addr)(n cap:Nat)(L:List (List Int))(hn:L.length=n)(hm:n<=maxLen)(H:zAM w a L):
 Calls Tryz.prog 25 #[.slice a n cap] w fun e w'=>AnyB e∧w=w':=by
 have HN:=hid hn
 have HH:=hid H
 clear hn H
 unfold maxLen at hm
 go_enter Tryz.func25,Tryz.ntmps25
 go_wp2
 go_loop [7] (fun i=>∃k:Nat,k<=n∧i=.int .i64 k) (fun i=>n-(intOf i).toNat)
 case atStart=>exact⟨0,yAK _,rfl⟩
 case round=>
  obtain⟨k,hk,rfl⟩:=hrel
  by_cases hlt:k<n
  ·have hkl:k<L.length:=by rw[HN.out];exact hlt
   obtain⟨b,off,ra,rn,rc,rfl,hbs,hq0,hrn,hrm,hri⟩:=HH.out k hkl
   clear hrn hri hkl hrm
   by_cases h1:100<rn
   ·have hi:(100:Int)<(rn:Int):=by omega
    go_wp2
    go_ret
    exact⟨AnyB.of _ rfl,rfl⟩
   ·have hi:¬(100:Int)<(rn:Int):=by omega
    go_wp2
    go_round
    case rel=>exact⟨k+1,by omega,by go_num⟩
    case measure=>simp[intOf];omega
  ·go_wp2
   go_ret
   exact⟨AnyB.of _ rfl,rfl⟩
theorem wide5_c(w:World)(a:Option Addr)(n cap:Nat)(L:List (List Rt))(hn:L.length=n)(hm:n<=maxLen)(H:zKD w a L):
 Calls Tryz.prog 26 #[.slice a n cap] w fun e w'=>AnyB e∧w=w':=by
 have HN:=hid hn
 have HH:=hid H
 clear hn H
 unfold maxLen at hm
 go_enter Tryz.func26,Tryz.ntmps26
 go_wp2
 go_loop [7] (fun i=>∃k:Nat,k<=n∧i=.int .i64 k) (fun i=>n-(intOf i).toNat)
 case atStart=>exact⟨0,yAK _,rfl⟩
 case round=>
  obtain⟨k,hk,rfl⟩:=hrel
  by_cases hlt:k<n
  ·have hkl:k<L.length:=by rw[HN.out];exact hlt
   obtain⟨b,off,ra,rn,rc,rfl,hbs,hq0,hrn,hrm,hri⟩:=HH.out k hkl
   clear hrn hri hkl hrm
   by_cases h1:60<rn
   ·have hi:(60:Int)<(rn:Int):=by omega
    go_wp2
    go_ret
    exact⟨AnyB.of _ rfl,rfl⟩
   ·have hi:¬(60:Int)<(rn:Int):=by omega
    go_wp2
    go_round
    case rel=>exact⟨k+1,by omega,by go_num⟩
    case measure=>simp[intOf];omega
  ·go_wp2
   go_ret
   exact⟨AnyB.of _ rfl,rfl⟩
theorem pics_one{W:World}{a2:Option Addr}{n2 cap2:Nat}{h:List Rt}(hn2:h.length=n2)(hm2:n2<=maxLen)(H2:zCB W a2 h):
 zKD (W.alloc (.cells #[.slice a2 n2 cap2] 42)) (some ⟨W.heap.size,0,none⟩) [h]:=by
 have hb:Below W.heap.size W (W.alloc (.cells #[.slice a2 n2 cap2] 42)):=(Below.refl _ _).alloc (yAC _) _
 intro j hj
 match j,hj with
 |0,_=>exact⟨_,0,a2,n2,cap2,rfl,by simp,by rw[World.cell?_alloc_at _ _ _ _ rfl];rfl,hn2,hm2,H2.below hb⟩
end
section
open Go.RowKit
theorem dualBright_c(w:World)(a:Option Addr)(n cap:Nat)(M:Mask)(hn:M.length=n)(hm:n<=maxLen)(H:zAM w a M)(_:∀y∈M,∀z∈y,zFN z)
 (a2:Option Addr)(n2 cap2:Nat)(Y:List Int)(hn2:Y.length=n2)(hm2:n2<=maxLen)(H2:zAH w a2 Y)(_:∀z∈Y,zFN z)(p:Int)(_:zFN p)
 (a3:Option Addr)(n3 cap3:Nat)(x:List Rt)(hn3:x.length=n3)(hm3:n3<=maxLen)(H3:zCB w a3 x)(_:∀r∈x,zFN r.1∧zFN r.2):
 Calls Tryz.prog 12 #[.slice a n cap,.slice a2 n2 cap2,.int .i64 p,.slice a3 n3 cap3] w fun e w'=>e=.returned (.bool true)∧Below w.heap.size w w':=by
 have HAW:=hid (fun X=>awake5_c X)
 have HLI:=hid (light_c w a n cap M hn hm H)
 have HLO:=hid (fun(X:World) (hX:Below w.heap.size w X)=>long5_c (X.alloc (.cells #[.slice a2 n2 cap2] 24)) (some ⟨X.heap.size,0,none⟩) 1 1 [Y] rfl (by decide) (rows_one hn2 hm2 (H2.below hX)))
 have HWI:=hid (fun(X:World) (hX:Below w.heap.size w X)=>wide5_c (X.alloc (.cells #[.slice a3 n3 cap3] 42)) (some ⟨X.heap.size,0,none⟩) 1 1 [x] rfl (by decide) (pics_one hn3 hm3 (H3.below hX)))
 have HD:=hid (fun(X:World) (hX:Below w.heap.size w X)=>dbright_c X a a2 n cap n2 cap2 M Y hn hn2 hm hm2 (H.below hX) (H2.below hX) p)
 have HR:=hid (fun(X:World) (hX:Below w.heap.size w X)=>r5bright_c X a a2 n cap n2 cap2 M Y hn hn2 hm hm2 (H.below hX) (H2.below hX) p)
 have HMK:=hid (fun(X:World) (hX:Below w.heap.size w X)=>r3makes_c X a a3 a2 n cap n3 cap3 n2 cap2 M x Y hn hn3 hn2 hm hm3 hm2 (H.below hX) (H3.below hX) (H2.below hX))
 have HLAW:=hid (fun(v:Rt) (h1:zCY M Y p=(v,0)) (h2:zDA M x Y=true) (h3:∀r∈x,0<=r.1)=>bright_law h1 h2 h3)
 have HXL:=hid (fun(h:zDA M x Y=true)=>show n3<=10 from by
  obtain⟨h1,h2,_⟩:=makes_sol h
  obtain⟨hok,_⟩:=zOV h1
  have:=(zCR hok).2.2.2.2
  omega)
 have HX3:=hid (fun(X:World) (hX:Below w.heap.size w X)=>H3.below hX)
 have HN3:=hid hn3
 obtain⟨E,hE⟩:=exq (zCY M Y p)
 obtain⟨B,hB⟩:=exq (zDA M x Y)
 rw[<- hE]at HD HR HLAW
 rw[<- hB]at HMK HLAW HXL
 obtain⟨⟨vn,vd⟩,E2⟩:=E
 simp only[ratV]at HD HR
 clear hn hn2 hn3 H H2 H3 hE hB
 go_enter Tryz.func12,Tryz.ntmps12
 go_wp2_with (go_at_call 16;refine HLI.out.mono ?_;rintro e w1 ⟨⟨sb,rfl⟩,rfl⟩;refine Stop.of ?_)
 refine Stop.go ?_
 cases sb
 ·go_wp2_with (go_at_call 18;refine(HAW.out _).mono ?_;rintro e w2 ⟨rfl,hb2⟩)
  go_ret
  exact⟨rfl,hb2⟩
 go_wp2_with (go_at_call 25;refine(HLO.out _ (Below.refl _ _)).mono ?_;rintro e w1 ⟨⟨lb,rfl⟩,rfl⟩;refine Stop.of ?_)
 refine Stop.go ?_
 obtain⟨wa,hwa⟩:=exq (w.alloc (.cells #[.slice a2 n2 cap2] 24))
 have HBA:=hid (show Below w.heap.size w wa by rw[hwa];exact(Below.refl _ _).alloc (yAC _) _)
 rw[<- hwa]
 clear hwa
 cases lb
 rotate_left
 ·go_wp2_with (go_at_call 18;refine(HAW.out _).mono ?_;rintro e w2 ⟨rfl,hb2⟩)
  go_ret
  exact⟨rfl,zAA HBA.out hb2⟩
 go_wp2_with (go_at_call 26;refine(HWI.out _ HBA.out).mono ?_;rintro e w1 ⟨⟨wb,rfl⟩,rfl⟩;refine Stop.of ?_)
 refine Stop.go ?_
 obtain⟨wc,hwc⟩:=exq (wa.alloc (.cells #[.slice a3 n3 cap3] 42))
 have HBC:=hid (show Below w.heap.size w wc by rw[hwc];exact HBA.out.alloc HBA.out.size _)
 rw[<- hwc]
 clear hwc
 cases wb
 rotate_left
 ·go_wp2_with (go_at_call 18;refine(HAW.out _).mono ?_;rintro e w2 ⟨rfl,hb2⟩)
  go_ret
  exact⟨rfl,zAA HBC.out hb2⟩
 go_upto_region 4 with (go_at_call 59;refine(HD.out _ HBC.out).mono ?_;rintro e w4 ⟨rfl,hb4⟩;have HB4:=hid (zAA HBC.out hb4);clear hb4;refine Stop.of ?_)
 refine Stop.go ?_
 go_upto_region 4 with fail
 obtain⟨b4,hb4⟩:=exq (w4.heap.size)
 obtain⟨w5,hw5⟩:=exq (w4.alloc (.cells #[.int .i64 vn,.int .i64 vd] 29))
 rw[<- hb4,<- hw5]
 have HV5:=hid (show RatI w5 b4 (vn,vd)by rw[hw5,hb4];exact RatI.made w4 (vn,vd))
 have HB5:=hid (show Below w.heap.size w w5 by rw[hw5];exact HB4.out.alloc HB4.out.size _)
 clear hb4 hw5
 go_upto_region 5 with (go_at_call 60;refine(HR.out _ HB5.out).mono ?_;rintro e w6 ⟨rfl,hb6⟩;have HB6:=hid hb6;clear hb6;refine Stop.of ?_)
 refine Stop.go ?_
 go_upto_region 5 with fail
 obtain⟨b6,hb6⟩:=exq (w6.heap.size)
 obtain⟨w7,hw7⟩:=exq (w6.alloc (.cells #[.int .i64 vn,.int .i64 vd] 29))
 rw[<- hb6,<- hw7]
 have HP7:=hid (show RatI w7 b6 (vn,vd)by rw[hw7,hb6];exact RatI.made w6 (vn,vd))
 have h57:Below w5.heap.size w5 w7:=by rw[hw7];exact HB6.out.alloc HB6.out.size _
 have HV7:=hid (HV5.out.keep (h57.block _ HV5.out.lt))
 have HB7:=hid (zAA HB5.out h57)
 clear hb6 hw7 h57
 obtain⟨x0,x1,_⟩:=HV7.out.cells
 obtain⟨x4,x5,_⟩:=HP7.out.cells
 simp only[]at x0 x1 x4 x5
 by_cases he2:E2=0
 rotate_left
 ·have hne:(E2 !=0)=true:=by simpa using he2
  clear he2
  go_wp2_with (go_at_call 18;refine(HAW.out _).mono ?_;rintro e wB ⟨rfl,hbB⟩)
  go_ret
  exact⟨rfl,zAA HB7.out hbB⟩
 subst he2
 cases B
 ·go_wp2_with (first
   | (go_at_call 30;refine(HMK.out _ HB7.out).mono ?_;rintro e w8 ⟨rfl,hb8⟩)
   | (go_at_call 18;refine(HAW.out _).mono ?_;rintro e w9 ⟨rfl,hb9⟩))
  go_ret
  exact⟨rfl,zAA HB7.out (zAA hb8 hb9)⟩
 have HL2:=hid (HLAW.out _ rfl rfl)
 have hn10:=HXL.out rfl
 clear HLAW HXL
 go_upto_region 9 with (go_at_call 30;refine(HMK.out _ HB7.out).mono ?_;rintro e w8 ⟨rfl,hb8⟩;have HB8:=hid (zAA HB7.out hb8);have HB78:=hid hb8;clear hb8;refine Stop.of ?_)
 refine Stop.go ?_
 clear x0 x1 x4 x5
 go_upto_region 9 with fail
 go_wp2
 go_loopw [63] (fun i wr=>∃k:Nat,k<=n3∧i=.int .i64 k∧Hid (∀q (hq:q<x.length),q<k->0<=x[q].1)∧Below w8.heap.size w8 wr) (fun i _=>n3-(intOf i).toNat)
 case atStart=>exact⟨0,yAK _,rfl,hid (fun q hq h=>by omega),Below.refl _ _⟩
 case round=>
  obtain⟨k,hk,rfl,HQQ,hbk⟩:=hrel
  have HBK:=hid hbk
  by_cases hkl:k<n3
  ·have hkx:k<x.length:=by rw[HN3.out];exact hkl
   obtain⟨xb,xo,rfl,hxb,hx0,hx1⟩:=(HX3.out wr (zAA HB8.out hbk)) k hkx
   obtain⟨⟨N,D⟩,hND⟩:∃q,q=x[k]'hkx:=⟨_,rfl⟩
   rw[<- hND]at hx0 hx1
   simp only[]at hx0 hx1
   have HND:=hid hND
   have j1:(k:Int)<(n3:Int):=by omega
   have j0:(0:Int)<=(k:Int):=by omega
   clear hbk hND hxb
   go_upto_region 12 with fail
   obtain⟨wb,hwb⟩:=exq (wr.alloc (.cells #[.int .i64 N,.int .i64 D] 29))
   obtain⟨rq,hrq⟩:=exq (wr.heap.size)
   rw[<- hrq,<- hwb]
   have hrw:RatI wb rq (N,D):=by rw[hwb,hrq];exact RatI.made wr (N,D)
   have HBB:=hid (show Below w8.heap.size w8 wb by rw[hwb];exact HBK.out.alloc HBK.out.size _)
   obtain⟨y0,y1,_⟩:=hrw.cells
   simp only[]at y0 y1
   clear hwb hrq hrw hx0 hx1
   by_cases hN:N<0
   ·go_wp2_with (go_at_call 18;refine(HAW.out _).mono ?_;rintro e wB ⟨rfl,hbB⟩)
    go_ret
    exact⟨rfl,zAA HB8.out (zAA HBB.out hbB)⟩
   ·have HQ3:=hid (show ∀q (hq:q<x.length),q<k+1->0<=x[q].1 from fun q hq h=>by
     rcases yAP q k with h2|h2
     ·exact HQQ.out q hq h2
     ·obtain rfl:q=k:=by omega
      rw[<- HND.out];show 0<=N;omega)
    go_wp2
    refine⟨⟨k+1,by omega,by go_num,HQ3,HBB.out⟩,by simp[intOf];omega⟩
  ·obtain rfl:k=n3:=by omega
   obtain⟨hp0,hpx,hxv,hvv,hcm⟩:=HL2.out (fun r hr=>by
    obtain⟨q,hq,rfl⟩:=yAM.1 hr
    exact HQQ.out q hq (by rw[<- HN3.out];exact hq))
   obtain⟨P,rfl⟩:∃P:Nat,p=(P:Int):=⟨p.toNat,by omega⟩
   rw[yEG]at hpx hxv hcm
   obtain⟨xb,xo,rfl,hxb,hx0,hx1⟩:=HX3.out w (Below.refl _ _) P hpx
   have hxt:zAB x P=x[P]'hpx:=by unfold zAB;rw[yAA hpx];rfl
   rw[hxt]at hxv hcm
   obtain⟨⟨N,D⟩,hND⟩:∃q,q=x[P]'hpx:=⟨_,rfl⟩
   rw[<- hND]at hx0 hx1 hxv hcm
   simp only[]at hx0 hx1
   have h1:=zAR.1 hxv
   have h2:=zAR.1 hvv
   simp only[]at h1 h2
   have HCM:=hid (fun(Z:World)=>zPM (dF D+dF vd).toNat Z N D vn vd (by unfold F64;omega) (by unfold F64;omega) (by unfold F64;omega) (by unfold F64;omega) (yAC _))
   obtain⟨cv,hcv⟩:=exq (cmpR N D vn vd)
   have hcv0:cv<=0:=by rw[hcv];exact hcm
   rw[<- hcv]at HCM
   have hP3:(P:Int)<(k:Int):=by have:=HN3.out;omega
   have hP0:(0:Int)<=(P:Int):=by omega
   have i2:¬(k:Int)<(k:Int):=by omega
   have HBW:=hid (zAA HB8.out hbk)
   have HS:=hid (fun(Z:World) (hZ:Below wr.heap.size wr Z)=>show Z.cell? ⟨xb,xo+P*2,none⟩=some (.int .i64 N)∧Z.cell? ⟨xb,xo+P*2+1,none⟩=some (.int .i64 D)∧Z.cell? ⟨b4,0,none⟩=some (.int .i64 vn)∧Z.cell? ⟨b4,1,none⟩=some (.int .i64 vd)from by
    have hwz:=zAA HBW.out hZ
    have h78:=zAA HB78.out (zAA hbk hZ)
    obtain⟨c0,c1,_⟩:=(HV7.out.keep (h78.block _ HV7.out.lt)).cells
    exact⟨(hwz.cell (p:=⟨xb,_,none⟩) hxb).trans hx0,(hwz.cell (p:=⟨xb,_,none⟩) hxb).trans hx1,c0,c1⟩)
   clear hp0 hpx hxv hvv hcm hxb hx0 hx1 hxt hND h1 h2 hcv hbk HQQ HL2
   go_upto_region 15 with fail
   refine zAG (fun j' Z=>wAll j'=true->Z.cell? ⟨xb,xo+P*2,none⟩=some (.int .i64 N)∧Z.cell? ⟨xb,xo+P*2+1,none⟩=some (.int .i64 D)∧Z.cell? ⟨b4,0,none⟩=some (.int .i64 vn)∧Z.cell? ⟨b4,1,none⟩=some (.int .i64 vd)) (by kernel_rfl) ?_
   have hbd:Below wr.heap.size wr wr.drew:=(Below.refl _ _).drew
   generalize wr.drew=wd at hbd⊢
   have HDA:=hid hbd
   clear hbd
   refine AnyT.tD (i:=0) (v:=.slice (some ⟨xb,xo,none⟩) k cap3) rfl rfl (by rintro w' ⟨q0,q1,q2,q3⟩;go_simp) (HS.out _ HDA.out) ?_;go_frame
   refine AnyT.tD (i:=1) (v:=.int .i64 P) rfl rfl (by rintro w' ⟨q0,q1,q2,q3⟩;go_simp) (HS.out _ HDA.out) ?_;go_frame
   refine AnyT.tD (i:=2) (v:=.pointer (some ⟨xb,xo+P*2,none⟩)) rfl rfl (by rintro w' ⟨q0,q1,q2,q3⟩;go_simp) (HS.out _ HDA.out) ?_;go_frame
   refine AnyT.tD (i:=3) (v:=.agg #[.int .i64 N,.int .i64 D]) rfl rfl (by rintro w' ⟨q0,q1,q2,q3⟩;go_simp) (HS.out _ HDA.out) ?_;go_frame
   refine AnyT.tD (i:=4) (v:=.agg #[.int .i64 vn,.int .i64 vd]) rfl rfl (by rintro w' ⟨q0,q1,q2,q3⟩;go_simp) (HS.out _ HDA.out) ?_;go_frame
   refine AnyT.nx (i:=5) rfl ?_
   go_wp2_with (go_at_call 31;refine(HCM.out _).mono ?_;rintro e wq ⟨rfl,hbc⟩;refine Stop.of ?_)
   refine Stop.go ?_
   have HEA:=hid (zAA HDA.out hbc)
   clear hbc
   go_wp2
   refine⟨fun _=>HS.out _ HEA.out,?_⟩
   refine AnyT.nx (i:=6) rfl ?_
   go_wp2
   refine⟨fun _=>HS.out _ HEA.out,?_⟩
   refine AnyT.nx (i:=7) rfl ?_
   go_wp2
   refine⟨fun _=>HS.out _ HEA.out,?_⟩
   refine AnyT.nx (i:=8) rfl ?_
   go_wp2_with (go_at_call 18;refine(HAW.out _).mono ?_;rintro e wA ⟨rfl,hbA⟩;refine Stop.of ?_)
   refine Stop.go ?_
   have HEB:=hid (zAA HEA.out hbA)
   clear hbA
   go_wp2
   refine⟨fun _=>HS.out _ HEB.out,?_⟩
   refine AnyT.nx (i:=9) rfl ?_
   go_wp2
   refine⟨fun _=>HS.out _ HEB.out,?_⟩
   refine AnyT.nx (i:=10) rfl ?_
   go_wp2
   refine⟨fun _=>HS.out _ HEB.out,?_⟩
   refine AnyT.done (by kernel_rfl) ?_ _
   have HFF:=hid (zAA HBW.out HEB.out)
   clear HS
   go_wp2
   go_ret
   exact⟨rfl,HFF.out⟩
end
end Go.Proofs.YtlffndehhhpgjaaGreat

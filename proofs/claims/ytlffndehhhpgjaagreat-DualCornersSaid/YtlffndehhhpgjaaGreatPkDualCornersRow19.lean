/- Walks and plain laws for DualCornersRow, part 19. -/
import Derived.Deep.CutRange
import Derived.Test.YtlffndehhhpgjaaGreatPkDualCornersRow18
namespace Go.Proofs.YtlffndehhhpgjaaGreat
set_option linter.unusedVariables false
set_option linter.unusedSimpArgs false
set_option maxRecDepth 100000
set_option maxHeartbeats 4000000
section
open Go.RowKit
theorem zPO(w:World)(a:Option Addr)(n cap:Nat)(M:Mask)(hn:M.length=n)(hm:n<=maxLen)(H:zAN w a M)(_:∀y∈M,∀z∈y,zJN z)
 (a2:Option Addr)(n2 cap2:Nat)(Y:List Int)(hn2:Y.length=n2)(hm2:n2<=maxLen)(H2:zAI w a2 Y)(_:∀z∈Y,zJN z)
 (p:Int)(_:zJN p):
 Calls Tryz.prog 11 #[.slice a n cap,.slice a2 n2 cap2,.int .i64 p] w fun e w'=>e=.returned (.bool true)∧Below w.heap.size w w':=by
 have HAW:=hid (fun X=>awake5_c X)
 have HLI:=hid (light_c w a n cap M hn hm H)
 have HLO:=hid (fun(X:World) (hX:Below w.heap.size w X)=>long5_c (X.alloc (.cells #[.slice a2 n2 cap2] 24)) (some ⟨X.heap.size,0,none⟩) 1 1 [Y] rfl (by decide) (rows_one hn2 hm2 (H2.below hX)))
 have HCO:=hid (fun(X:World) (hX:Below w.heap.size w X)=>zOI X a a2 n cap n2 cap2 M Y hn hn2 hm hm2 (H.below hX) (H2.below hX))
 have HUN0:=hid (fun(X:World) (hX:Below w.heap.size w X)=>dunique_c X a a2 n cap n2 cap2 M Y hn hn2 hm hm2 (H.below hX) (H2.below hX))
 have HRG:=hid (fun(X:World) (hX:Below w.heap.size w X)=>drange_c X a a2 n cap n2 cap2 M Y hn hn2 hm hm2 (H.below hX) (H2.below hX) p)
 obtain⟨C,hC⟩:=exq (zBO M Y)
 obtain⟨K,hK⟩:=exq (C.length)
 have HKL:=hid hK
 have HCC:=hid hC
 by_cases hv:(valE M Y).2=0
 rotate_left
 ·have hne:((valE M Y).2 !=0)=true:=by simpa using hv
  have HNE:=hid hne
  clear hn hn2 H H2 HUN0 HRG hv hne hC hK
  go_enter Tryz.func11,Tryz.ntmps11
  go_wp2_with (go_at_call 16;refine HLI.out.mono ?_;rintro e w1 ⟨⟨sb,rfl⟩,rfl⟩;refine Stop.of ?_)
  refine Stop.go ?_
  cases sb
  ·go_wp2_with (go_at_call 18;refine(HAW.out _).mono ?_;rintro e w2 ⟨rfl,hb2⟩)
   go_ret
   exact⟨rfl,hb2⟩
  go_wp2_with (go_at_call 25;refine(HLO.out _ (Below.refl _ _)).mono ?_;rintro e w1 ⟨⟨lb,rfl⟩,rfl⟩;refine Stop.of ?_)
  refine Stop.go ?_
  obtain⟨wa,hwa⟩:=exq (w.alloc (.cells #[.slice a2 n2 cap2] 24))
  have HBA:=hid (show Below w.heap.size w wa by rw[hwa];exact(Below.refl _ _).alloc (Nat.le_refl _) _)
  rw[<- hwa]
  clear hwa
  cases lb
  rotate_left
  ·go_wp2_with (go_at_call 18;refine(HAW.out _).mono ?_;rintro e w2 ⟨rfl,hb2⟩)
   go_ret
   exact⟨rfl,zAA HBA.out hb2⟩
  obtain⟨F,hF⟩:=exq ((valE M Y).2)
  have hne:=HNE.out
  rw[<- hF]at hne
  go_upto_region 4 with (go_at_call 37;refine(HCO.out _ HBA.out).mono ?_;rintro e w4 ⟨⟨ca,cc,rfl,_,_⟩,hb4⟩;rw[<- HCC.out,<- HKL.out,<- hF];have HB4:=hid (zAA HBA.out hb4);clear hb4;refine Stop.of ?_)
  refine Stop.go ?_
  go_wp2_with (go_at_call 18;refine(HAW.out _).mono ?_;rintro e w5 ⟨rfl,hb5⟩)
  go_ret
  exact⟨rfl,zAA HB4.out hb5⟩
 have hrd:=(zJR hv).1
 have HV0:=hid hv
 obtain⟨hok,hyl,hmil⟩:=zHV hrd
 obtain⟨hO,h1,h6,hc1,hc10⟩:=zDJ hok
 have hK1:0<K:=by rw[hK,hC];exact List.length_pos_iff.2 (zOJ hrd hv)
 have hUK:cornN M Y=K:=by
  rw[hK,hC,zLC hv]
  unfold cornN
  rw[if_pos hv]
 have HUN:=hid (fun(X:World) (hX:Below w.heap.size w X)=>show Calls Tryz.prog 39 #[.slice a n cap,.slice a2 n2 cap2] X fun e w'=>e=.returned (.tuple #[.bool (decide (K=1)),.int .i64 0])∧Below X.heap.size X w' from by
  have h:=HUN0.out X hX
  rw[hUK,hv]at h
  exact h)
 obtain⟨W,hW⟩:=exq (zAC M)
 obtain⟨cx,hcx⟩:∃cx:Nat->List Rt,cx=fun k=>C[k]?.getD []:=⟨_,rfl⟩
 have hce:∀k (hk:k<C.length),C[k]=cx k:=fun k hk=>by rw[hcx];show C[k]=C[k]?.getD [];rw[List.getElem?_eq_getElem hk];rfl
 have HCE:=hid (fun(X:World) (ca:Option Addr) (h:zHS X ca C) (k:Nat) (hk:k<K)=>show ∃b off ra cap,ca=some ⟨b,off,none⟩∧b<X.heap.size∧X.cell? ⟨b,off+k,none⟩=some (.slice ra (cx k).length cap)∧zBE X ra (cx k)from by
  obtain⟨b,off,ra,m,cap,e,h1,h2,h3,_,h4⟩:=h k (by omega)
  rw[hce]at h3 h4
  exact⟨b,off,ra,cap,e,h1,by rw[h3];exact h2,h4⟩)
 have hlaw:∀k (hk:k<K),zDK M Y (cx k)=(true,0)∧zCF M (cx k) Y=true∧(cx k).length=W∧(cx k).all zAH=true∧zDA (zAC M) (zDP (cx k) W)=0∧fitF M Y (zDP (cx k) W)=some (zDP (cx k) W,zFL (cx k) W):=fun k hk=>by
  rw[hW]
  rw[<- hce k (by omega)];exact corner_law hrd hv (by rw[<- hC];exact List.getElem_mem _)
 have HLEN:=hid (fun k (hk:k<K)=>(hlaw k hk).2.2.1)
 have HVB:=hid (fun k (hk:k<K)=>zFY (hlaw k hk).2.2.2.1)
 have HLE:=hid (fun(X:World) (hX:Below w.heap.size w X) (k:Nat) (hk:k<K) (xa:Option Addr) (xc:Nat) (hx:zBE X xa (cx k))=>show Calls Tryz.prog 27 #[.slice a n cap,.slice a2 n2 cap2,.slice xa W xc] X fun e w'=>e=.returned (.tuple #[.bool true,.int .i64 0])∧Below X.heap.size X w' from by
  have h:=dleast_c X a a2 xa n cap n2 cap2 W xc M Y (cx k) hn hn2 (hlaw k hk).2.2.1 hm hm2 (by unfold maxLen;omega) (H.below hX) (H2.below hX) hx
  rw[(hlaw k hk).1]at h
  exact h)
 have HMK:=hid (fun(X:World) (hX:Below w.heap.size w X) (k:Nat) (hk:k<K) (xa:Option Addr) (xc:Nat) (hx:zBE X xa (cx k))=>show Calls Tryz.prog 30 #[.slice a n cap,.slice xa W xc,.slice a2 n2 cap2] X fun e w'=>e=.returned (.bool true)∧Below X.heap.size X w' from by
  have h:=r3makes_c X a xa a2 n cap W xc n2 cap2 M (cx k) Y hn (hlaw k hk).2.2.1 hn2 hm (by unfold maxLen;omega) hm2 (H.below hX) hx (H2.below hX)
  rw[(hlaw k hk).2.1]at h
  exact h)
 have HIF:=hid (fun(X:World) (hX:Below w.heap.size w X) (k:Nat) (hk:k<K) (ia ra:Option Addr) (ic rc:Nat) (h1:zAI X ia (zDP (cx k) W)) (h2:zBE X ra (zFL (cx k) W))=>
  isFit_y X a a2 ia ra n cap n2 cap2 (zDP (cx k) W).length ic (zFL (cx k) W).length rc M Y (zDP (cx k) W,zFL (cx k) W) hn hn2 hm hm2 (H.below hX) (H2.below hX) rfl (by have:=zIR (cx k) W;omega) rfl (by rw[val_len];have:=zIR (cx k) W;unfold maxLen;omega) h1 h2 hrd hok (hlaw k hk).2.2.2.2.1 (hlaw k hk).2.2.2.2.2)
 have HMX:=hid (fun(X:World) (j k:Nat) (hj:j<K) (hk:k<K) (xa xb:Option Addr) (xc xd:Nat) (h1:zBE X xa (cx j)) (h2:zBE X xb (cx k))=>dmixed_c X xa xb W xc W xd (cx j) (cx k) (hlaw j hj).2.2.1 (hlaw k hk).2.2.1 (by omega) (by omega) h1 h2)
 have HLH:=hid (fun(X:World) (hX:Below w.heap.size w X) (j k:Nat) (hj:j<K) (hk:k<K) (L:List Rt) (he:mixE (cx j) (cx k)=(L,0)) (xa:Option Addr) (xc:Nat) (hx:zBE X xa L)=>show Calls Tryz.prog 27 #[.slice a n cap,.slice a2 n2 cap2,.slice xa L.length xc] X fun e w'=>e=.returned (.tuple #[.bool true,.int .i64 0])∧Below X.heap.size X w' from by
  have hml:=mix_least (hlaw j hj).1 (hlaw k hk).1 he
  have hlen:L.length=W:=by rw[(zMU hml).2.2.1,hW]
  have h:=dleast_c X a a2 xa n cap n2 cap2 L.length xc M Y L hn hn2 rfl hm hm2 (by unfold maxLen;omega) (H.below hX) (H2.below hX) hx
  rw[hml]at h
  exact h)
 obtain⟨R,hR⟩:=exq (zHQ M Y p)
 rw[<- hR]at HRG
 obtain⟨⟨l1,l2⟩,⟨g1,g2⟩,E⟩:=R
 simp only[ratV]at HRG
 obtain⟨HL,hHL⟩:∃HL:Nat->Bool,HL=fun k=>decide (E=0)&&zPJ C p.toNat (l1,l2) k:=⟨_,rfl⟩
 obtain⟨HH,hHH⟩:∃HH:Nat->Bool,HH=fun k=>decide (E=0)&&zPJ C p.toNat (g1,g2) k:=⟨_,rfl⟩
 have HBK:=hid (show E≠0->∀k,HL k=false∧HH k=false from fun h k=>by rw[hHL,hHH];simp[h])
 have HST:=hid (show E=0->∀k (hk:k<K),HL (k+1)=(HL k||decide (zAB (cx k) p.toNat=(l1,l2)))∧HH (k+1)=(HH k||decide (zAB (cx k) p.toNat=(g1,g2)))from fun h k hk=>by
  have e:C[k]?.getD []=cx k:=by rw[hcx]
  rw[hHL,hHH]
  simp only[h,decide_true,Bool.true_and,zPJ,e,and_self])
 have HZ0:=hid (show HL 0=false∧HH 0=false from by rw[hHL,hHH];simp[zPJ])
 have HRF:=hid (show E=0->(0<=p∧p<(W:Int)∧F2 (l1,l2)∧F2 (g1,g2))∧HL K=true∧HH K=true∧∀k (hk:k<K),F2 (zAB (cx k) p.toNat)∧¬cmpR (zAB (cx k) p.toNat).1 (zAB (cx k) p.toNat).2 l1 l2<0∧¬0<cmpR (zAB (cx k) p.toNat).1 (zAB (cx k) p.toNat).2 g1 g2 from fun hE=>by
  subst hE
  have hck:zAU M Y [p]=0:=by
   apply Classical.byContradiction
   intro h
   unfold zHQ at hR
   rw[if_pos h]at hR
   exact h (Prod.mk.inj (Prod.mk.inj hR).2).2.symm
  unfold zHQ at hR
  rw[if_neg (fun h=>h hck),if_neg (fun h=>h hv),<- hC]at hR
  have e1:(l1,l2)=(zDY C p.toNat).1:=(Prod.mk.inj hR).1
  have e2:(g1,g2)=(zDY C p.toNat).2:=(Prod.mk.inj (Prod.mk.inj hR).2).1
  obtain⟨_,_,_,hso⟩:=zFG hck
  have hpb:=hso.2 p (by simp)
  obtain⟨c0,c1,c2⟩:=corn_span hv (P:=p.toNat) (by omega)
  rw[<- hC]at c0 c1 c2
  have hden:∀k:Nat,0<(zAB (C[k]?.getD []) p.toNat).2:=fun k=>by
   rcases Nat.lt_or_ge k C.length with c|c
   ·rw[List.getElem?_eq_getElem c]
    have e:=hce k c
    obtain⟨q1,q2,q3,q4⟩:=zFY (hlaw k (by omega)).2.2.2.1 p.toNat
    show 0<(zAB C[k] p.toNat).2
    rw[e]
    omega
   ·rw[List.getElem?_eq_none c]
    show 0<(zAB [] p.toNat).2
    unfold zAB;simp
  obtain⟨s1,s2,s3⟩:=span_law hden c0
  obtain⟨f1,f2⟩:=span_f c2 C.length
  have f1:F2 (zDY C p.toNat).1:=f1
  have f2:F2 (zDY C p.toNat).2:=f2
  rw[<- e1]at s1 s2 f1
  rw[<- e2]at s1 s3 f2
  refine⟨⟨hpb.1,by omega,f1,f2⟩,by rw[hHL,hK];simp only[decide_true,Bool.true_and];exact s2,by rw[hHH,hK];simp only[decide_true,Bool.true_and];exact s3,fun k hk=>?_⟩
  have e:C[k]?.getD []=cx k:=by rw[hcx]
  have t1:=s1 k (by omega)
  have t2:=c2 k
  rw[e]at t1 t2
  exact⟨t2,t1.1,t1.2⟩)
 have HRW:=hid hR
 have W10:W<=10:=by omega
 clear hn hn2 H H2 HUN0 hv hC hrd hok hyl hmil hO h1 h6 hc1 hUK hW hlaw hR hHL hHH hcx hce hK
 go_enter Tryz.func11,Tryz.ntmps11
 go_wp2_with (go_at_call 16;refine HLI.out.mono ?_;rintro e w1 ⟨⟨sb,rfl⟩,rfl⟩;refine Stop.of ?_)
 refine Stop.go ?_
 cases sb
 ·go_wp2_with (go_at_call 18;refine(HAW.out _).mono ?_;rintro e w2 ⟨rfl,hb2⟩)
  go_ret
  exact⟨rfl,hb2⟩
 go_wp2_with (go_at_call 25;refine(HLO.out _ (Below.refl _ _)).mono ?_;rintro e w1 ⟨⟨lb,rfl⟩,rfl⟩;refine Stop.of ?_)
 refine Stop.go ?_
 obtain⟨wa,hwa⟩:=exq (w.alloc (.cells #[.slice a2 n2 cap2] 24))
 have HBA:=hid (show Below w.heap.size w wa by rw[hwa];exact(Below.refl _ _).alloc (Nat.le_refl _) _)
 rw[<- hwa]
 clear hwa
 cases lb
 rotate_left
 ·go_wp2_with (go_at_call 18;refine(HAW.out _).mono ?_;rintro e w2 ⟨rfl,hb2⟩)
  go_ret
  exact⟨rfl,zAA HBA.out hb2⟩
 go_upto_region 4 with (go_at_call 37;refine(HCO.out _ HBA.out).mono ?_;rintro e w4 ⟨⟨ca,cc,rfl,hcl,hpi⟩,hb4⟩;rw[<- HCC.out]at hpi hcl⊢;rw[<- HKL.out,HV0.out];have HPI:=hid hpi;have HKM:=hid hcl;have HB4:=hid (zAA HBA.out hb4);clear hb4 hpi hcl;refine Stop.of ?_)
 refine Stop.go ?_
 go_upto_region 7 with (go_at_call 39;refine(HUN.out _ HB4.out).mono ?_;rintro e w5 ⟨rfl,hb5⟩;have HB45:=hid hb5;have HB5:=hid (zAA HB4.out hb5);clear hb5;refine Stop.of ?_)
 refine Stop.go ?_
 go_upto_region 7 with fail
 go_upto_region 8 with (go_at_call 42;refine(HRG.out _ HB5.out).mono ?_;rintro e w6 ⟨rfl,hb6⟩;have HB46:=hid (zAA HB45.out hb6);have HB6:=hid (zAA HB5.out hb6);clear hb6;refine Stop.of ?_)
 refine Stop.go ?_
 go_upto_region 8 with fail
 obtain⟨b,hb⟩:=exq (w6.heap.size)
 obtain⟨w7,hw7⟩:=exq ((w6.alloc (.cells #[.int .i64 l1,.int .i64 l2] 29)).alloc (.cells #[.int .i64 g1,.int .i64 g2] 29))
 rw[<- hb,<- hw7]
 have A1:=hid (show RatI w7 b (l1,l2)from by
  rw[hw7,hb]
  exact(RatI.made w6 (l1,l2)).keep (Below.heap_alloc _ _ _ (by simp)))
 have A2:=hid (show RatI w7 (b+1) (g1,g2)from by
  have h:=RatI.made (w6.alloc (.cells #[.int .i64 l1,.int .i64 l2] 29)) (g1,g2)
  rw[World.size_alloc]at h
  rw[hw7,hb];exact h)
 have h67:Below w6.heap.size w6 w7:=by rw[hw7];exact((Below.refl _ _).alloc (Nat.le_refl _) _).alloc (by simp) _
 have HB7:=hid (zAA HB6.out h67)
 have HPX:=hid (HPI.out.below (zAA HB46.out h67))
 clear hb hw7 h67 HPI HB46 HB45
 have i0:¬(K:Int)=0:=by omega
 have i1:((K:Int)==0)=false:=by simp;omega
 obtain⟨UB,hUB⟩:=exq (decide (K=1))
 have j1:((K:Int)==1)=UB:=by
  rw[hUB]
  by_cases h:K=1
  ·simp[h]
  ·have:¬(K:Int)=1:=by omega
   simp[h,this]
 rw[<- hUB]
 clear hUB
 have HK1:=hid hK1
 have HK2:=hid (show K<=11264 by rw[HKL.out];exact HKM.out)
 go_upto_region 10 with fail
 go_wp2
 go_loopw [14,15,75] (fun va vb i wr=>∃k:Nat,k<=K∧va=.bool (HL k)∧vb=.bool (HH k)∧i=.int .i64 k∧Below w7.heap.size w7 wr) (fun _ _ i _=>K-(intOf i).toNat)
 case atStart=>exact⟨0,Nat.zero_le _,by rw[HZ0.out.1],by rw[HZ0.out.2],rfl,Below.refl _ _⟩
 case round=>
  obtain⟨k,hk,rfl,rfl,rfl,hbk⟩:=hrel
  obtain⟨wo,hwo⟩:=exq (wr)
  subst hwo
  by_cases hkl:k<K
  ·have HBK7:=hid hbk
   have HBW:=hid (zAA HB7.out hbk)
   have HKK:=hid hkl
   obtain⟨pb,po,xa,xc,rfl,hpb,hpc,hpr⟩:=HCE.out _ ca (HPX.out.below hbk) k hkl
   have HXR:=hid hpr
   have i2:(k:Int)<(K:Int):=by omega
   have hlen:=HLEN.out k hkl
   rw[hlen]at hpc
   clear hbk hkl hpr
   go_upto_region 14 with fail
   go_upto_region 15 with (go_at_call 27;refine(HLE.out _ HBW.out k HKK.out xa xc HXR.out).mono ?_;rintro e w8 ⟨rfl,hb8⟩;have HB8:=hid hb8;clear hb8;refine Stop.of ?_)
   refine Stop.go ?_
   go_wp2_with (go_at_call 30;refine(HMK.out _ (zAA HBW.out HB8.out) k HKK.out xa xc (HXR.out.below HB8.out)).mono ?_;rintro e w9 ⟨rfl,hb9⟩;have HB9:=hid (zAA HB8.out hb9);clear hb9;refine Stop.of ?_)
   refine Stop.go ?_
   go_upto_region 18 with fail
   obtain⟨fb,hfb⟩:=exq (w9.heap.size)
   obtain⟨wf,hwf⟩:=exq (w9.alloc (.cells #[.slice none 0 0,.slice none 0 0] 73))
   rw[<- hfb,<- hwf]
   have HF0:=hid (show FitX wf w9.heap.size fb (.slice none 0 0) (.slice none 0 0) [] []from⟨by rw[hwf,hfb];exact World.alloc_heap_new _ _,World.ownsRow_nil _ _ _ _,World.ownsRow_nil _ _ _ _⟩)
   have HBF:=hid (show Below w9.heap.size w9 wf by rw[hwf];exact(Below.refl _ _).alloc (Nat.le_refl _) _)
   have HFB:=hid (show w9.heap.size<=fb by omega)
   clear hfb hwf hpb hpc hlen
   go_wp2
   go_loopw [102] (fun i wx=>∃(t:Nat) (u v:Value),t<=W∧i=.int .i64 t∧FitX wx w9.heap.size fb u v (zDP (cx k) t) (zFL (cx k) t)∧Below w9.heap.size w9 wx) (fun i _=>W-(intOf i).toNat)
   case atStart=>exact⟨0,_,_,Nat.zero_le _,rfl,HF0.out,HBF.out⟩
   case round=>
    obtain⟨t,u,v,ht,rfl,hfx,hbx⟩:=hrel
    by_cases htl:t<W
    ·obtain⟨xb,xo,rfl,hxb,hx0,hx1⟩:=(HXR.out.below (zAA HB9.out hbx)) t (by rw[HLEN.out k HKK.out];exact htl)
     have er:zAB (cx k) t=(cx k)[t]'(by rw[HLEN.out k HKK.out];exact htl):=by unfold zAB;rw[List.getElem?_eq_getElem (by rw[HLEN.out k HKK.out];exact htl)];rfl
     have hps:=zDN (cx k) t
     obtain⟨⟨rn,rd⟩,hr⟩:∃r,r=zAB (cx k) t:=⟨_,rfl⟩
     rw[<- er,<- hr]at hx0 hx1
     rw[<- hr]at hps
     simp only[]at hx0 hx1 hps
     obtain⟨P,hP⟩:=exq (zDP (cx k) t)
     obtain⟨V,hV⟩:=exq (zFL (cx k) t)
     have hPl:P.length<=t:=by rw[hP];exact zIR _ _
     have hVl:V.length=P.length:=by rw[hP,hV];exact val_len _ _
     rw[<- hP,<- hV]at hfx hps
     have HPS:=hid hps
     have HTL:=hid htl
     have HPL:=hid hPl
     have HVL:=hid hVl
     have HBX:=hid hbx
     have HFX:=hid hfx
     have i3:(t:Int)<(W:Int):=by omega
     clear hps htl er hr hP hV hPl hVl hbx hxb hfx
     go_upto_region 21 with fail
     obtain⟨g,hg⟩:=exq (wr.heap.size)
     obtain⟨w11,hw11⟩:=exq (wr.alloc (.cells #[.int .i64 rn,.int .i64 rd] 29))
     rw[<- hg,<- hw11]
     have G1:=hid (show RatI w11 g (rn,rd)by rw[hw11,hg];exact RatI.made wr (rn,rd))
     have h11:Below wr.heap.size wr w11:=by rw[hw11];exact(Below.refl _ _).alloc (Nat.le_refl _) _
     have HB11:=hid (zAA HBX.out h11)
     have HX11:=hid (HFX.out.below h11)
     have HGU:=hid (fun(k:Nat) (e:u.ownBlock=some k)=>show g≠k from by have:=own_below_lt HFX.out.2.1 e;omega)
     have HGF:=hid (show g≠fb from by have:=HFX.out.lt;omega)
     clear hw11 hg h11 hx0 hx1
     obtain⟨y0,y1,_⟩:=G1.out.cells
     simp only[]at y0 y1
     by_cases hz:rn=0
     ·subst hz
      have HNX:=hid (HPS.out.1 rfl)
      go_wp2
      refine⟨⟨t+1,u,v,HTL.out,by go_num,by rw[HNX.out.1,HNX.out.2];exact HX11.out,HB11.out⟩,by have:=HTL.out;simp[intOf];omega⟩
     ·have hne:(rn !=0)=true:=by simpa using hz
      have HNX:=hid (HPS.out.2 hz)
      obtain⟨ua,uc,rfl⟩:=zAD HX11.out.2.1
      obtain⟨va,vc,rfl⟩:=zAD HX11.out.2.2
      obtain⟨z0,z1,_⟩:=zBN HX11.out.1
      clear hz
      go_upto_region 22 with fail
      have M1:=hid (show P.length+1<=maxLen by have:=HPL.out;unfold maxLen;omega)
      have M2:=hid (show(P.length+1)*8<=140737488355328 by have:=HPL.out;omega)
      have M4:=hid (show(V.length+1)*16<=140737488355328 by have:=HPL.out;have:=HVL.out;omega)
      have M5:=hid (show V.length+1<=maxLen by have:=HPL.out;have:=HVL.out;unfold maxLen;omega)
      have M3:=hid (Nat.le_trans HB11.out.size (zCH w11 (.cells #[.int .i64 t] 3)))
      have HXA:=hid (HX11.out.below ((Below.refl _ w11).alloc (Nat.le_refl _) (.cells #[.int .i64 t] 3)))
      go_wp2_with (at_builtin;refine zAQ _ rfl (.tmp 111) (.tmp 113) 24 rfl w9.heap.size 3 (.int .i64 0) 1 8 Tryz.underlying24 zEF rfl Nat.one_pos (.slice ua P.length uc) P.length _ rfl HXA.out.2.1 (some ⟨w11.heap.size,0,none⟩) 1 1 [.int .i64 t] rfl rfl zCD (zBT w11 _ _) (zEE _) M1.out M2.out M3.out ?_;refine Stop.of ?_)
      refine Stop.go ?_
      intro a3 c3 w12 own12 g12
      have HX12:=hid (FitX.pix (p':=P++[(t:Int)]) HXA.out g12 (by rw[List.length_append,List.map_append];exact own12))
      have HB12:=hid (zAG (((HB11.out.alloc HB11.out.size _).grown g12 M3.out (fun k hk=>(HXA.out.2.1.lt k hk).1))) HFB.out 0 (.slice a3 (P.length+1) c3))
      have hG12:RatI w12 g (rn,rd):=(G1.out.keep ((Below.refl _ w11).alloc (Nat.le_refl _) _ |>.block g G1.out.lt)).keep ((Keep.grown g12).block g (Nat.lt_of_lt_of_le G1.out.lt (zCH _ _)) (fun e=>HGU.out g e.symm rfl))
      have HG13:=hid (hG12.keep (Below.heap_setCell w12 ⟨fb,0,none⟩ (.slice a3 (P.length+1) c3) g HGF.out))
      clear z0 z1 y0 y1
      obtain⟨z0,z1,z2,z3,z4⟩:=zBN (FitX.boxP HXA.out g12)
      clear own12 g12 hG12
      go_upto_region 23 with fail
      clear z0 z1 z2 z3 z4
      generalize w12.setCell ⟨fb,0,none⟩ (.slice a3 (P.length+1) c3)=w13 at HX12 HB12 HG13⊢
      obtain⟨z0,z1,_⟩:=zBN HX12.out.1
      obtain⟨y0,y1,_⟩:=HG13.out.cells
      simp only[]at y0 y1
      have M6:=hid (Nat.le_trans HB12.out.size (zCH w13 (.cells #[.int .i64 rn,.int .i64 rd] 29)))
      have HXB:=hid (HX12.out.below ((Below.refl _ w13).alloc (Nat.le_refl _) (.cells #[.int .i64 rn,.int .i64 rd] 29)))
      go_wp2_with (at_builtin;refine zAQ _ rfl (.tmp 117) (.tmp 119) 42 rfl w9.heap.size 29 (.agg #[.int .i64 0,.int .i64 0]) 2 16 Tryz.underlying42 zHH rfl (by decide) (.slice va V.length vc) V.length _ rfl HXB.out.2.2 (some ⟨w13.heap.size,0,none⟩) 1 1 (zBC (rn,rd)) rfl rfl zCD (zPA w13 (rn,rd) _) (zMF _) M5.out M4.out M6.out ?_;refine Stop.of ?_)
      refine Stop.go ?_
      intro a4 c4 w14 own14 g14
      have HX14:=hid (FitX.val (x':=V++[(rn,rd)]) HXB.out g14 (by rw[List.length_append,zGQ];exact own14))
      have HB14:=hid (zAG (((HB12.out.alloc HB12.out.size _).grown g14 M6.out (fun k hk=>(HXB.out.2.2.lt k hk).1))) HFB.out 1 (.slice a4 (V.length+1) c4))
      clear z0 z1 y0 y1
      obtain⟨z0,z1,z2,z3,z4⟩:=zBN (FitX.boxV HXB.out g14)
      clear own14 g14
      go_wp2
      refine⟨⟨t+1,_,_,HTL.out,by go_num,by rw[HNX.out.1,HNX.out.2];exact HX14.out,HB14.out⟩,by have:=HTL.out;simp[intOf];omega⟩
    ·obtain rfl:t=W:=by omega
     have i3:¬(t:Int)<(t:Int):=by omega
     obtain⟨ua,uc,rfl⟩:=zAD hfx.2.1
     obtain⟨va,vc,rfl⟩:=zAD hfx.2.2
     have hpl:=zIR (cx k) t
     have HUI:=hid (show zAI wr ua (zDP (cx k) t)from by
      obtain⟨a',c',e,h,_⟩:=zCS hfx.2.1 rfl
      cases e
      exact h)
     have HVR:=hid (show zBE wr va (zFL (cx k) t)from by
      obtain⟨a',c',e,_,h⟩:=zCR.reads (show zCR wr w9.heap.size (.slice va (zFL (cx k) t).length vc) (zFL (cx k) t)from hfx.2.2)
      cases e
      exact h)
     have HB10:=hid (zAA HB9.out hbx)
     have HBW10:=hid (zAA HBW.out HB10.out)
     have HIS:=hid (HIF.out wr HBW10.out k HKK.out ua va uc vc HUI.out HVR.out)
     obtain⟨z0,z1,_⟩:=zBN hfx.1
     obtain⟨P,hP⟩:=exq ((zDP (cx k) t).length)
     obtain⟨V,hV⟩:=exq ((zFL (cx k) t).length)
     rw[<- hP,<- hV]at HIS
     rw[<- hP]at z0
     rw[<- hV]at z1
     clear hfx hbx hpl hP hV
     go_upto_region 27 with (go_at_call 58;refine HIS.out.mono ?_;rintro e w15 ⟨rfl,hb15⟩;have HB15:=hid (zAA HB10.out hb15);clear hb15;refine Stop.of ?_)
     refine Stop.go ?_
     go_upto_region 27 with fail
     clear z0 z1
     obtain⟨nx,hnx⟩:=exq ((k+1)%K)
     have hnl:nx<K:=by rw[hnx];exact Nat.mod_lt _ HK1.out
     have HNL:=hid hnl
     have hk2:=HK2.out
     have hkk:=HKK.out
     have q1:IntKind.i64.wrap ((k:Int)+1)=(k:Int)+1:=IntWalk.i64_in _ (by omega)
     have q2:((k:Int)+1)% (K:Int)=(nx:Int):=by rw[hnx];simp
     have q3:((k:Int)+1).tmod (K:Int)=(nx:Int):=by rw[Int.tmod_eq_emod_of_nonneg (by omega),q2]
     have q4:IntKind.i64.wrap (nx:Int)=(nx:Int):=IntWalk.i64_in _ (by omega)
     have q5:¬(K:Int)=0:=by omega
     have q6:(nx:Int)<(K:Int):=by omega
     obtain⟨pb',po',xb,xd,e,hpb2,hpc2,hpr2⟩:=HCE.out w15 (some ⟨pb,po,none⟩) (HPX.out.below (zAA HBK7.out HB15.out)) nx hnl
     cases e
     rw[HLEN.out nx hnl]at hpc2
     have HMI:=hid (HMX.out w15 k nx HKK.out hnl xa xb xc xd (HXR.out.below HB15.out) hpr2)
     obtain⟨⟨L,E2⟩,hLE⟩:∃z,z=mixE (cx k) (cx nx):=⟨_,rfl⟩
     have HLQ:=hid hLE.symm
     rw[<- hLE]at HMI
     clear hnx hnl hkk hpr2 hLE hpb2
     go_upto_region 28 with (go_at_call 33;refine HMI.out.mono ?_;rintro e w16 ⟨⟨ma,mc,rfl,hmr⟩,hb16⟩;have HMR:=hid hmr;have HB16:=hid (zAA HB15.out hb16);clear hmr hb16;refine Stop.of ?_)
     refine Stop.go ?_
     go_upto_region 28 with fail
     clear q1 q2 q3 q4 q5 q6 hpc2
     go_upto_if 142 with fail
     go_cut [25,26]from 143 to 155 (fun _ _ wx=>Below wo.heap.size wo wx)
     case first=>
      by_cases hE2:E2=0
      ·subst hE2
       have HLS:=hid (HLH.out w16 (zAA HBW.out HB16.out) k nx HKK.out HNL.out L HLQ.out ma mc HMR.out)
       go_wp2_with (go_at_call 27;refine HLS.out.mono ?_;rintro e w17 ⟨rfl,hb17⟩;have HB17:=hid (zAA HB16.out hb17);clear hb17;refine Stop.of ?_)
       refine Stop.go ?_
       go_wp2
       go_meet
       case rel=>exact HB17.out
      ·have hne:(E2==0)=false:=by simpa using hE2
       go_wp2
       go_meet
       case rel=>exact HB16.out
     case rest=>
      obtain⟨w17,hw17⟩:=exq (wc)
      rw[<- hw17]at hcut⊢
      have HB17:=hid hcut
      clear hw17 hcut
      by_cases hE:E=0
      rotate_left
      ·have hne:(E !=0)=true:=by simpa using hE
       have HNX:=hid (show HL (k+1)=HL k∧HH (k+1)=HH k from⟨by rw[(HBK.out hE _).1,(HBK.out hE _).1],by rw[(HBK.out hE _).2,(HBK.out hE _).2]⟩)
       have HKK1:=hid (show k+1<=K from HKK.out)
       go_wp2
       refine⟨⟨k+1,HKK1.out,by rw[HNX.out.1],by rw[HNX.out.2],by go_num,zAA HBK7.out HB17.out⟩,by have:=HKK1.out;simp[intOf];omega⟩
      obtain⟨⟨p0,pW,fl,fg⟩,_,_,hcm⟩:=HRF.out hE
      obtain⟨fr,c1,c2⟩:=hcm k HKK.out
      have hst:=HST.out hE k HKK.out
      obtain⟨pn,rfl⟩:∃pn:Nat,p=(pn:Int):=⟨p.toNat,by omega⟩
      rw[Int.toNat_natCast]at fr c1 c2 hst
      obtain⟨xb,xo,rfl,hxb,hx0,hx1⟩:=(HXR.out.below HB17.out) pn (by rw[HLEN.out k HKK.out];omega)
      have er:zAB (cx k) pn=(cx k)[pn]'(by rw[HLEN.out k HKK.out];omega):=by unfold zAB;rw[List.getElem?_eq_getElem (by rw[HLEN.out k HKK.out];omega)];rfl
      obtain⟨⟨rn,rd⟩,hr⟩:∃r,r=zAB (cx k) pn:=⟨_,rfl⟩
      rw[<- er,<- hr]at hx0 hx1
      rw[<- hr]at fr c1 c2 hst
      simp only[]at hx0 hx1 fr c1 c2
      have HCA0:=hid (fun(X:World)=>zNY _ X rn rd l1 l2 fr.1 fr.2 fl.1 fl.2 (Nat.le_refl _))
      have HCB0:=hid (fun(X:World)=>zNY _ X rn rd g1 g2 fr.1 fr.2 fg.1 fg.2 (Nat.le_refl _))
      obtain⟨cA,hcA⟩:=exq (cmpR rn rd l1 l2)
      obtain⟨cB,hcB⟩:=exq (cmpR rn rd g1 g2)
      rw[<- hcA]at HCA0 c1
      rw[<- hcB]at HCB0 c2
      have HSA:=hid (fun(Z:World) (hZ:Below w17.heap.size w17 Z)=>show Z.cell? ⟨xb,xo+pn*2,none⟩=some (.int .i64 rn)∧Z.cell? ⟨xb,xo+pn*2+1,none⟩=some (.int .i64 rd)∧Z.cell? ⟨b,0,none⟩=some (.int .i64 l1)∧Z.cell? ⟨b,1,none⟩=some (.int .i64 l2)∧Z.cell? ⟨b+1,0,none⟩=some (.int .i64 g1)∧Z.cell? ⟨b+1,1,none⟩=some (.int .i64 g2)from by
       obtain⟨a0,a1,_⟩:=(A1.out.keep ((zAA (zAA HBK7.out HB17.out) hZ).block _ A1.out.lt)).cells
       obtain⟨b0,b1,_⟩:=(A2.out.keep ((zAA (zAA HBK7.out HB17.out) hZ).block _ A2.out.lt)).cells
       exact⟨(hZ.cell (p:=⟨xb,_,none⟩) hxb).trans hx0,(hZ.cell (p:=⟨xb,_,none⟩) hxb).trans hx1,a0,a1,b0,b1⟩)
      have HST1:=hid hst
      have HBW17:=hid (zAA HBK7.out HB17.out)
      have i5:¬(pn:Int)<0:=by omega
      have i6:¬(t:Int)<=(pn:Int):=by omega
      have k6:decide (t<=pn)=false:=decide_eq_false (by omega)
      have k5:decide ((pn:Int)<0)=false:=decide_eq_false (by omega)
      have kA:decide (cA<0)=false:=decide_eq_false (by omega)
      have kB:decide (0<cB)=false:=decide_eq_false (by omega)
      have i7:(0:Int)<=(pn:Int):=by omega
      have i8:(pn:Int)<(t:Int):=by omega
      have HKK1:=hid (show k+1<=K from HKK.out)
      have HREFL:=hid (Below.refl w17.heap.size w17)
      clear hcA hcB hst hr er hx0 hx1 fr fl fg hcm p0 pW hxb
      subst hE
      go_upto_region 33 with fail
      refine zAF (fun j' Z=>wAll j'=true->Z.cell? ⟨xb,xo+pn*2,none⟩=some (.int .i64 rn)∧Z.cell? ⟨xb,xo+pn*2+1,none⟩=some (.int .i64 rd)∧Z.cell? ⟨b,0,none⟩=some (.int .i64 l1)∧Z.cell? ⟨b,1,none⟩=some (.int .i64 l2)∧Z.cell? ⟨b+1,0,none⟩=some (.int .i64 g1)∧Z.cell? ⟨b+1,1,none⟩=some (.int .i64 g2)) (by kernel_rfl) ?_
      have hbd:Below w17.heap.size w17 w17.drew:=zAA HREFL.out (Below.refl _ _).drew
      generalize w17.drew=wd1 at hbd⊢
      have HD1:=hid hbd
      clear hbd
      refine AnyT.nx (i:=0) rfl ?_
      go_wp2
      refine⟨fun _=>HSA.out _ HD1.out,?_⟩
      refine AnyT.nx (i:=1) rfl ?_
      go_wp2
      refine⟨fun _=>HSA.out _ HD1.out,?_⟩
      refine AnyT.nx (i:=2) rfl ?_
      go_wp2
      refine⟨fun _=>HSA.out _ HD1.out,?_⟩
      refine AnyT.tD (i:=3) (v:=.int .i64 pn) rfl rfl (by rintro w' ⟨r0,r1,r2,r3,r4,r5⟩;go_simp) (HSA.out _ HD1.out) ?_;go_frame
      refine AnyT.tD (i:=4) (v:=.slice (some ⟨xb,xo,none⟩) t xc) rfl rfl (by rintro w' ⟨r0,r1,r2,r3,r4,r5⟩;go_simp) (HSA.out _ HD1.out) ?_;go_frame
      refine AnyT.tD (i:=5) (v:=.int .i64 t) rfl rfl (by rintro w' ⟨r0,r1,r2,r3,r4,r5⟩;go_simp) (HSA.out _ HD1.out) ?_;go_frame
      refine AnyT.nx (i:=6) rfl ?_
      go_wp2
      refine⟨fun _=>HSA.out _ HD1.out,?_⟩
      refine AnyT.nx (i:=7) rfl ?_
      go_wp2
      refine⟨fun _=>HSA.out _ HD1.out,?_⟩
      refine AnyT.nx (i:=8) rfl ?_
      go_wp2
      refine⟨fun _=>HSA.out _ HD1.out,?_⟩
      refine AnyT.tD (i:=9) (v:=.slice (some ⟨xb,xo,none⟩) t xc) rfl rfl (by rintro w' ⟨r0,r1,r2,r3,r4,r5⟩;go_simp) (HSA.out _ HD1.out) ?_;go_frame
      refine AnyT.tD (i:=10) (v:=.int .i64 pn) rfl rfl (by rintro w' ⟨r0,r1,r2,r3,r4,r5⟩;go_simp) (HSA.out _ HD1.out) ?_;go_frame
      refine AnyT.tD (i:=11) (v:=.pointer (some ⟨xb,xo+pn*2,none⟩)) rfl rfl (by rintro w' ⟨r0,r1,r2,r3,r4,r5⟩;go_simp) (HSA.out _ HD1.out) ?_;go_frame
      refine AnyT.tD (i:=12) (v:=.agg #[.int .i64 rn,.int .i64 rd]) rfl rfl (by rintro w' ⟨r0,r1,r2,r3,r4,r5⟩;go_simp) (HSA.out _ HD1.out) ?_;go_frame
      refine AnyT.tD (i:=13) (v:=.agg #[.int .i64 l1,.int .i64 l2]) rfl rfl (by rintro w' ⟨r0,r1,r2,r3,r4,r5⟩;go_simp) (HSA.out _ HD1.out) ?_;go_frame
      refine AnyT.nx (i:=14) rfl ?_
      go_wp2_with (go_at_call 31;refine(HCA0.out _).mono ?_;rintro e wc1 ⟨rfl,hbc⟩;refine Stop.of ?_)
      refine Stop.go ?_
      have HD2:=hid (zAA HD1.out hbc)
      clear hbc
      go_wp2
      refine⟨fun _=>HSA.out _ HD2.out,?_⟩
      refine AnyT.nx (i:=15) rfl ?_
      go_wp2
      refine⟨fun _=>HSA.out _ HD2.out,?_⟩
      refine AnyT.nx (i:=16) rfl ?_
      go_wp2
      refine⟨fun _=>HSA.out _ HD2.out,?_⟩
      refine AnyT.nx (i:=17) rfl ?_
      go_wp2
      refine⟨fun _=>HSA.out _ HD2.out,?_⟩
      refine AnyT.tD (i:=18) (v:=.slice (some ⟨xb,xo,none⟩) t xc) rfl rfl (by rintro w' ⟨r0,r1,r2,r3,r4,r5⟩;go_simp) (HSA.out _ HD2.out) ?_;go_frame
      refine AnyT.tD (i:=19) (v:=.int .i64 pn) rfl rfl (by rintro w' ⟨r0,r1,r2,r3,r4,r5⟩;go_simp) (HSA.out _ HD2.out) ?_;go_frame
      refine AnyT.tD (i:=20) (v:=.pointer (some ⟨xb,xo+pn*2,none⟩)) rfl rfl (by rintro w' ⟨r0,r1,r2,r3,r4,r5⟩;go_simp) (HSA.out _ HD2.out) ?_;go_frame
      refine AnyT.tD (i:=21) (v:=.agg #[.int .i64 rn,.int .i64 rd]) rfl rfl (by rintro w' ⟨r0,r1,r2,r3,r4,r5⟩;go_simp) (HSA.out _ HD2.out) ?_;go_frame
      refine AnyT.tD (i:=22) (v:=.agg #[.int .i64 g1,.int .i64 g2]) rfl rfl (by rintro w' ⟨r0,r1,r2,r3,r4,r5⟩;go_simp) (HSA.out _ HD2.out) ?_;go_frame
      refine AnyT.nx (i:=23) rfl ?_
      go_wp2_with (go_at_call 31;refine(HCB0.out _).mono ?_;rintro e wc2 ⟨rfl,hbc⟩;refine Stop.of ?_)
      refine Stop.go ?_
      have HD3:=hid (zAA HD2.out hbc)
      clear hbc
      go_wp2
      refine⟨fun _=>HSA.out _ HD3.out,?_⟩
      refine AnyT.nx (i:=24) rfl ?_
      go_wp2
      refine⟨fun _=>HSA.out _ HD3.out,?_⟩
      refine AnyT.nx (i:=25) rfl ?_
      go_wp2
      refine⟨fun _=>HSA.out _ HD3.out,?_⟩
      refine AnyT.done (by kernel_rfl) ?_ _
      go_upto_region 35 with fail
      obtain⟨bl,hbl⟩:=exq (HL k)
      obtain⟨bh,hbh⟩:=exq (HH k)
      rw[<- hbl,<- hbh]at HST1⊢
      clear hbl hbh
      go_cut [14]from 184 to 192 (fun v wx=>v=.bool (bl||decide ((rn,rd)=(l1,l2)))∧Below w17.heap.size w17 wx)
      case first=>
       cases bl
       ·by_cases e1:rn=l1
        ·have k1:(rn=l1)=True:=eq_true e1
         by_cases e2:rd=l2
         ·have k2:(rd=l2)=True:=eq_true e2
          have HQ:=hid (And.intro e1 e2)
          clear e1 e2
          refine zAF (fun j' Z=>wAll j'=true->Z.cell? ⟨xb,xo+pn*2,none⟩=some (.int .i64 rn)∧Z.cell? ⟨xb,xo+pn*2+1,none⟩=some (.int .i64 rd)∧Z.cell? ⟨b,0,none⟩=some (.int .i64 l1)∧Z.cell? ⟨b,1,none⟩=some (.int .i64 l2)∧Z.cell? ⟨b+1,0,none⟩=some (.int .i64 g1)∧Z.cell? ⟨b+1,1,none⟩=some (.int .i64 g2)) (by kernel_rfl) ?_
          have hbd:Below w17.heap.size w17 wc2.drew:=zAA HD3.out (Below.refl _ _).drew
          generalize wc2.drew=wd4 at hbd⊢
          have HD4:=hid hbd
          clear hbd
          refine AnyT.nx (i:=0) rfl ?_
          go_wp2
          refine⟨fun _=>HSA.out _ HD4.out,?_⟩
          refine AnyT.nx (i:=1) rfl ?_
          go_wp2
          refine⟨fun _=>HSA.out _ HD4.out,?_⟩
          refine AnyT.tD (i:=2) (v:=.slice (some ⟨xb,xo,none⟩) t xc) rfl rfl (by rintro w' ⟨r0,r1,r2,r3,r4,r5⟩;go_simp) (HSA.out _ HD4.out) ?_;go_frame
          refine AnyT.tD (i:=3) (v:=.int .i64 pn) rfl rfl (by rintro w' ⟨r0,r1,r2,r3,r4,r5⟩;go_simp) (HSA.out _ HD4.out) ?_;go_frame
          refine AnyT.tD (i:=4) (v:=.pointer (some ⟨xb,xo+pn*2,none⟩)) rfl rfl (by rintro w' ⟨r0,r1,r2,r3,r4,r5⟩;go_simp) (HSA.out _ HD4.out) ?_;go_frame
          refine AnyT.tD (i:=5) (v:=.agg #[.int .i64 rn,.int .i64 rd]) rfl rfl (by rintro w' ⟨r0,r1,r2,r3,r4,r5⟩;go_simp) (HSA.out _ HD4.out) ?_;go_frame
          refine AnyT.tD (i:=6) (v:=.agg #[.int .i64 l1,.int .i64 l2]) rfl rfl (by rintro w' ⟨r0,r1,r2,r3,r4,r5⟩;go_simp) (HSA.out _ HD4.out) ?_;go_frame
          refine AnyT.nx (i:=7) rfl ?_
          go_wp2
          refine⟨fun _=>HSA.out _ HD4.out,?_⟩
          refine AnyT.nx (i:=8) rfl ?_
          go_wp2
          refine⟨fun _=>HSA.out _ HD4.out,?_⟩
          refine AnyT.nx (i:=9) rfl ?_
          go_wp2
          refine⟨fun _=>HSA.out _ HD4.out,?_⟩
          refine AnyT.done (by kernel_rfl) ?_ _
          go_wp2
          go_meet
          case rel=>exact⟨by have:=HQ.out;simp[this.1,this.2],HD4.out⟩
         ·have HQ:=hid (And.intro e1 e2)
          clear e1
          refine zAF (fun j' Z=>wAll j'=true->Z.cell? ⟨xb,xo+pn*2,none⟩=some (.int .i64 rn)∧Z.cell? ⟨xb,xo+pn*2+1,none⟩=some (.int .i64 rd)∧Z.cell? ⟨b,0,none⟩=some (.int .i64 l1)∧Z.cell? ⟨b,1,none⟩=some (.int .i64 l2)∧Z.cell? ⟨b+1,0,none⟩=some (.int .i64 g1)∧Z.cell? ⟨b+1,1,none⟩=some (.int .i64 g2)) (by kernel_rfl) ?_
          have hbd:Below w17.heap.size w17 wc2.drew:=zAA HD3.out (Below.refl _ _).drew
          generalize wc2.drew=wd4 at hbd⊢
          have HD4:=hid hbd
          clear hbd
          refine AnyT.nx (i:=0) rfl ?_
          go_wp2
          refine⟨fun _=>HSA.out _ HD4.out,?_⟩
          refine AnyT.nx (i:=1) rfl ?_
          go_wp2
          refine⟨fun _=>HSA.out _ HD4.out,?_⟩
          refine AnyT.tD (i:=2) (v:=.slice (some ⟨xb,xo,none⟩) t xc) rfl rfl (by rintro w' ⟨r0,r1,r2,r3,r4,r5⟩;go_simp) (HSA.out _ HD4.out) ?_;go_frame
          refine AnyT.tD (i:=3) (v:=.int .i64 pn) rfl rfl (by rintro w' ⟨r0,r1,r2,r3,r4,r5⟩;go_simp) (HSA.out _ HD4.out) ?_;go_frame
          refine AnyT.tD (i:=4) (v:=.pointer (some ⟨xb,xo+pn*2,none⟩)) rfl rfl (by rintro w' ⟨r0,r1,r2,r3,r4,r5⟩;go_simp) (HSA.out _ HD4.out) ?_;go_frame
          refine AnyT.tD (i:=5) (v:=.agg #[.int .i64 rn,.int .i64 rd]) rfl rfl (by rintro w' ⟨r0,r1,r2,r3,r4,r5⟩;go_simp) (HSA.out _ HD4.out) ?_;go_frame
          refine AnyT.tD (i:=6) (v:=.agg #[.int .i64 l1,.int .i64 l2]) rfl rfl (by rintro w' ⟨r0,r1,r2,r3,r4,r5⟩;go_simp) (HSA.out _ HD4.out) ?_;go_frame
          refine AnyT.nx (i:=7) rfl ?_
          go_wp2
          refine⟨fun _=>HSA.out _ HD4.out,?_⟩
          refine AnyT.nx (i:=8) rfl ?_
          go_wp2
          refine⟨fun _=>HSA.out _ HD4.out,?_⟩
          refine AnyT.nx (i:=9) rfl ?_
          go_wp2
          refine⟨fun _=>HSA.out _ HD4.out,?_⟩
          refine AnyT.done (by kernel_rfl) ?_ _
          go_wp2
          go_meet
          case rel=>exact⟨by have:=HQ.out;simp[this.1,this.2],HD4.out⟩
        ·have HQ:=hid e1
         refine zAF (fun j' Z=>wAll j'=true->Z.cell? ⟨xb,xo+pn*2,none⟩=some (.int .i64 rn)∧Z.cell? ⟨xb,xo+pn*2+1,none⟩=some (.int .i64 rd)∧Z.cell? ⟨b,0,none⟩=some (.int .i64 l1)∧Z.cell? ⟨b,1,none⟩=some (.int .i64 l2)∧Z.cell? ⟨b+1,0,none⟩=some (.int .i64 g1)∧Z.cell? ⟨b+1,1,none⟩=some (.int .i64 g2)) (by kernel_rfl) ?_
         have hbd:Below w17.heap.size w17 wc2.drew:=zAA HD3.out (Below.refl _ _).drew
         generalize wc2.drew=wd4 at hbd⊢
         have HD4:=hid hbd
         clear hbd
         refine AnyT.nx (i:=0) rfl ?_
         go_wp2
         refine⟨fun _=>HSA.out _ HD4.out,?_⟩
         refine AnyT.nx (i:=1) rfl ?_
         go_wp2
         refine⟨fun _=>HSA.out _ HD4.out,?_⟩
         refine AnyT.tD (i:=2) (v:=.slice (some ⟨xb,xo,none⟩) t xc) rfl rfl (by rintro w' ⟨r0,r1,r2,r3,r4,r5⟩;go_simp) (HSA.out _ HD4.out) ?_;go_frame
         refine AnyT.tD (i:=3) (v:=.int .i64 pn) rfl rfl (by rintro w' ⟨r0,r1,r2,r3,r4,r5⟩;go_simp) (HSA.out _ HD4.out) ?_;go_frame
         refine AnyT.tD (i:=4) (v:=.pointer (some ⟨xb,xo+pn*2,none⟩)) rfl rfl (by rintro w' ⟨r0,r1,r2,r3,r4,r5⟩;go_simp) (HSA.out _ HD4.out) ?_;go_frame
         refine AnyT.tD (i:=5) (v:=.agg #[.int .i64 rn,.int .i64 rd]) rfl rfl (by rintro w' ⟨r0,r1,r2,r3,r4,r5⟩;go_simp) (HSA.out _ HD4.out) ?_;go_frame
         refine AnyT.tD (i:=6) (v:=.agg #[.int .i64 l1,.int .i64 l2]) rfl rfl (by rintro w' ⟨r0,r1,r2,r3,r4,r5⟩;go_simp) (HSA.out _ HD4.out) ?_;go_frame
         refine AnyT.nx (i:=7) rfl ?_
         go_wp2
         refine⟨fun _=>HSA.out _ HD4.out,?_⟩
         refine AnyT.nx (i:=8) rfl ?_
         go_wp2
         refine⟨fun _=>HSA.out _ HD4.out,?_⟩
         refine AnyT.nx (i:=9) rfl ?_
         go_wp2
         refine⟨fun _=>HSA.out _ HD4.out,?_⟩
         refine AnyT.done (by kernel_rfl) ?_ _
         go_wp2
         go_meet
         case rel=>exact⟨by have:=HQ.out;simp[this],HD4.out⟩
       ·have HQ:=hid True.intro
        refine zAF (fun j' Z=>wAll j'=true->Z.cell? ⟨xb,xo+pn*2,none⟩=some (.int .i64 rn)∧Z.cell? ⟨xb,xo+pn*2+1,none⟩=some (.int .i64 rd)∧Z.cell? ⟨b,0,none⟩=some (.int .i64 l1)∧Z.cell? ⟨b,1,none⟩=some (.int .i64 l2)∧Z.cell? ⟨b+1,0,none⟩=some (.int .i64 g1)∧Z.cell? ⟨b+1,1,none⟩=some (.int .i64 g2)) (by kernel_rfl) ?_
        have hbd:Below w17.heap.size w17 wc2.drew:=zAA HD3.out (Below.refl _ _).drew
        generalize wc2.drew=wd4 at hbd⊢
        have HD4:=hid hbd
        clear hbd
        refine AnyT.nx (i:=0) rfl ?_
        go_wp2
        refine⟨fun _=>HSA.out _ HD4.out,?_⟩
        refine AnyT.nx (i:=1) rfl ?_
        go_wp2
        refine⟨fun _=>HSA.out _ HD4.out,?_⟩
        refine AnyT.tN (i:=2) rfl rfl (HSA.out _ HD4.out) ?_;go_frame
        refine AnyT.tN (i:=3) rfl rfl (HSA.out _ HD4.out) ?_;go_frame
        refine AnyT.tN (i:=4) rfl rfl (HSA.out _ HD4.out) ?_;go_frame
        refine AnyT.tN (i:=5) rfl rfl (HSA.out _ HD4.out) ?_;go_frame
        refine AnyT.tN (i:=6) rfl rfl (HSA.out _ HD4.out) ?_;go_frame
        refine AnyT.tN (i:=7) rfl rfl (HSA.out _ HD4.out) ?_;go_frame
        refine AnyT.nx (i:=8) rfl ?_
        go_wp2
        refine⟨fun _=>HSA.out _ HD4.out,?_⟩
        refine AnyT.nx (i:=9) rfl ?_
        go_wp2
        refine⟨fun _=>HSA.out _ HD4.out,?_⟩
        refine AnyT.done (by kernel_rfl) ?_ _
        go_wp2
        go_meet
        case rel=>exact⟨by have:=HQ.out;simp,HD4.out⟩
      case rest=>
       obtain⟨rfl,hbc⟩:=hcut
       obtain⟨wd5,hwd⟩:=exq (wc)
       rw[<- hwd]at hbc⊢
       have HD5:=hid hbc
       clear hbc hwd
       go_upto_region 36 with fail
       cases bh
       ·by_cases e1:rn=g1
        ·have k1:(rn=g1)=True:=eq_true e1
         by_cases e2:rd=g2
         ·have k2:(rd=g2)=True:=eq_true e2
          have HQ:=hid (And.intro e1 e2)
          clear e1 e2
          refine zAF (fun j' Z=>wAll j'=true->Z.cell? ⟨xb,xo+pn*2,none⟩=some (.int .i64 rn)∧Z.cell? ⟨xb,xo+pn*2+1,none⟩=some (.int .i64 rd)∧Z.cell? ⟨b,0,none⟩=some (.int .i64 l1)∧Z.cell? ⟨b,1,none⟩=some (.int .i64 l2)∧Z.cell? ⟨b+1,0,none⟩=some (.int .i64 g1)∧Z.cell? ⟨b+1,1,none⟩=some (.int .i64 g2)) (by kernel_rfl) ?_
          have hbd:Below w17.heap.size w17 wd5.drew:=zAA HD5.out (Below.refl _ _).drew
          generalize wd5.drew=wd6 at hbd⊢
          have HD6:=hid hbd
          clear hbd
          refine AnyT.nx (i:=0) rfl ?_
          go_wp2
          refine⟨fun _=>HSA.out _ HD6.out,?_⟩
          refine AnyT.nx (i:=1) rfl ?_
          go_wp2
          refine⟨fun _=>HSA.out _ HD6.out,?_⟩
          refine AnyT.tD (i:=2) (v:=.slice (some ⟨xb,xo,none⟩) t xc) rfl rfl (by rintro w' ⟨r0,r1,r2,r3,r4,r5⟩;go_simp) (HSA.out _ HD6.out) ?_;go_frame
          refine AnyT.tD (i:=3) (v:=.int .i64 pn) rfl rfl (by rintro w' ⟨r0,r1,r2,r3,r4,r5⟩;go_simp) (HSA.out _ HD6.out) ?_;go_frame
          refine AnyT.tD (i:=4) (v:=.pointer (some ⟨xb,xo+pn*2,none⟩)) rfl rfl (by rintro w' ⟨r0,r1,r2,r3,r4,r5⟩;go_simp) (HSA.out _ HD6.out) ?_;go_frame
          refine AnyT.tD (i:=5) (v:=.agg #[.int .i64 rn,.int .i64 rd]) rfl rfl (by rintro w' ⟨r0,r1,r2,r3,r4,r5⟩;go_simp) (HSA.out _ HD6.out) ?_;go_frame
          refine AnyT.tD (i:=6) (v:=.agg #[.int .i64 g1,.int .i64 g2]) rfl rfl (by rintro w' ⟨r0,r1,r2,r3,r4,r5⟩;go_simp) (HSA.out _ HD6.out) ?_;go_frame
          refine AnyT.nx (i:=7) rfl ?_
          go_wp2
          refine⟨fun _=>HSA.out _ HD6.out,?_⟩
          refine AnyT.nx (i:=8) rfl ?_
          go_wp2
          refine⟨fun _=>HSA.out _ HD6.out,?_⟩
          refine AnyT.nx (i:=9) rfl ?_
          go_wp2
          refine⟨fun _=>HSA.out _ HD6.out,?_⟩
          refine AnyT.done (by kernel_rfl) ?_ _
          have HBZ:=hid (zAA HBW17.out HD6.out)
          go_wp2
          refine⟨⟨k+1,HKK1.out,by rw[HST1.out.1];simp,by rw[HST1.out.2];have:=HQ.out;simp[this.1,this.2],by go_num,HBZ.out⟩,by have:=HKK1.out;simp[intOf];omega⟩
         ·have HQ:=hid (And.intro e1 e2)
          clear e1
          refine zAF (fun j' Z=>wAll j'=true->Z.cell? ⟨xb,xo+pn*2,none⟩=some (.int .i64 rn)∧Z.cell? ⟨xb,xo+pn*2+1,none⟩=some (.int .i64 rd)∧Z.cell? ⟨b,0,none⟩=some (.int .i64 l1)∧Z.cell? ⟨b,1,none⟩=some (.int .i64 l2)∧Z.cell? ⟨b+1,0,none⟩=some (.int .i64 g1)∧Z.cell? ⟨b+1,1,none⟩=some (.int .i64 g2)) (by kernel_rfl) ?_
          have hbd:Below w17.heap.size w17 wd5.drew:=zAA HD5.out (Below.refl _ _).drew
          generalize wd5.drew=wd6 at hbd⊢
          have HD6:=hid hbd
          clear hbd
          refine AnyT.nx (i:=0) rfl ?_
          go_wp2
          refine⟨fun _=>HSA.out _ HD6.out,?_⟩
          refine AnyT.nx (i:=1) rfl ?_
          go_wp2
          refine⟨fun _=>HSA.out _ HD6.out,?_⟩
          refine AnyT.tD (i:=2) (v:=.slice (some ⟨xb,xo,none⟩) t xc) rfl rfl (by rintro w' ⟨r0,r1,r2,r3,r4,r5⟩;go_simp) (HSA.out _ HD6.out) ?_;go_frame
          refine AnyT.tD (i:=3) (v:=.int .i64 pn) rfl rfl (by rintro w' ⟨r0,r1,r2,r3,r4,r5⟩;go_simp) (HSA.out _ HD6.out) ?_;go_frame
          refine AnyT.tD (i:=4) (v:=.pointer (some ⟨xb,xo+pn*2,none⟩)) rfl rfl (by rintro w' ⟨r0,r1,r2,r3,r4,r5⟩;go_simp) (HSA.out _ HD6.out) ?_;go_frame
          refine AnyT.tD (i:=5) (v:=.agg #[.int .i64 rn,.int .i64 rd]) rfl rfl (by rintro w' ⟨r0,r1,r2,r3,r4,r5⟩;go_simp) (HSA.out _ HD6.out) ?_;go_frame
          refine AnyT.tD (i:=6) (v:=.agg #[.int .i64 g1,.int .i64 g2]) rfl rfl (by rintro w' ⟨r0,r1,r2,r3,r4,r5⟩;go_simp) (HSA.out _ HD6.out) ?_;go_frame
          refine AnyT.nx (i:=7) rfl ?_
          go_wp2
          refine⟨fun _=>HSA.out _ HD6.out,?_⟩
          refine AnyT.nx (i:=8) rfl ?_
          go_wp2
          refine⟨fun _=>HSA.out _ HD6.out,?_⟩
          refine AnyT.nx (i:=9) rfl ?_
          go_wp2
          refine⟨fun _=>HSA.out _ HD6.out,?_⟩
          refine AnyT.done (by kernel_rfl) ?_ _
          have HBZ:=hid (zAA HBW17.out HD6.out)
          go_wp2
          refine⟨⟨k+1,HKK1.out,by rw[HST1.out.1];simp,by rw[HST1.out.2];have:=HQ.out;simp[this.1,this.2],by go_num,HBZ.out⟩,by have:=HKK1.out;simp[intOf];omega⟩
        ·have HQ:=hid e1
         refine zAF (fun j' Z=>wAll j'=true->Z.cell? ⟨xb,xo+pn*2,none⟩=some (.int .i64 rn)∧Z.cell? ⟨xb,xo+pn*2+1,none⟩=some (.int .i64 rd)∧Z.cell? ⟨b,0,none⟩=some (.int .i64 l1)∧Z.cell? ⟨b,1,none⟩=some (.int .i64 l2)∧Z.cell? ⟨b+1,0,none⟩=some (.int .i64 g1)∧Z.cell? ⟨b+1,1,none⟩=some (.int .i64 g2)) (by kernel_rfl) ?_
         have hbd:Below w17.heap.size w17 wd5.drew:=zAA HD5.out (Below.refl _ _).drew
         generalize wd5.drew=wd6 at hbd⊢
         have HD6:=hid hbd
         clear hbd
         refine AnyT.nx (i:=0) rfl ?_
         go_wp2
         refine⟨fun _=>HSA.out _ HD6.out,?_⟩
         refine AnyT.nx (i:=1) rfl ?_
         go_wp2
         refine⟨fun _=>HSA.out _ HD6.out,?_⟩
         refine AnyT.tD (i:=2) (v:=.slice (some ⟨xb,xo,none⟩) t xc) rfl rfl (by rintro w' ⟨r0,r1,r2,r3,r4,r5⟩;go_simp) (HSA.out _ HD6.out) ?_;go_frame
         refine AnyT.tD (i:=3) (v:=.int .i64 pn) rfl rfl (by rintro w' ⟨r0,r1,r2,r3,r4,r5⟩;go_simp) (HSA.out _ HD6.out) ?_;go_frame
         refine AnyT.tD (i:=4) (v:=.pointer (some ⟨xb,xo+pn*2,none⟩)) rfl rfl (by rintro w' ⟨r0,r1,r2,r3,r4,r5⟩;go_simp) (HSA.out _ HD6.out) ?_;go_frame
         refine AnyT.tD (i:=5) (v:=.agg #[.int .i64 rn,.int .i64 rd]) rfl rfl (by rintro w' ⟨r0,r1,r2,r3,r4,r5⟩;go_simp) (HSA.out _ HD6.out) ?_;go_frame
         refine AnyT.tD (i:=6) (v:=.agg #[.int .i64 g1,.int .i64 g2]) rfl rfl (by rintro w' ⟨r0,r1,r2,r3,r4,r5⟩;go_simp) (HSA.out _ HD6.out) ?_;go_frame
         refine AnyT.nx (i:=7) rfl ?_
         go_wp2
         refine⟨fun _=>HSA.out _ HD6.out,?_⟩
         refine AnyT.nx (i:=8) rfl ?_
         go_wp2
         refine⟨fun _=>HSA.out _ HD6.out,?_⟩
         refine AnyT.nx (i:=9) rfl ?_
         go_wp2
         refine⟨fun _=>HSA.out _ HD6.out,?_⟩
         refine AnyT.done (by kernel_rfl) ?_ _
         have HBZ:=hid (zAA HBW17.out HD6.out)
         go_wp2
         refine⟨⟨k+1,HKK1.out,by rw[HST1.out.1];simp,by rw[HST1.out.2];have:=HQ.out;simp[this],by go_num,HBZ.out⟩,by have:=HKK1.out;simp[intOf];omega⟩
       ·have HQ:=hid True.intro
        refine zAF (fun j' Z=>wAll j'=true->Z.cell? ⟨xb,xo+pn*2,none⟩=some (.int .i64 rn)∧Z.cell? ⟨xb,xo+pn*2+1,none⟩=some (.int .i64 rd)∧Z.cell? ⟨b,0,none⟩=some (.int .i64 l1)∧Z.cell? ⟨b,1,none⟩=some (.int .i64 l2)∧Z.cell? ⟨b+1,0,none⟩=some (.int .i64 g1)∧Z.cell? ⟨b+1,1,none⟩=some (.int .i64 g2)) (by kernel_rfl) ?_
        have hbd:Below w17.heap.size w17 wd5.drew:=zAA HD5.out (Below.refl _ _).drew
        generalize wd5.drew=wd6 at hbd⊢
        have HD6:=hid hbd
        clear hbd
        refine AnyT.nx (i:=0) rfl ?_
        go_wp2
        refine⟨fun _=>HSA.out _ HD6.out,?_⟩
        refine AnyT.nx (i:=1) rfl ?_
        go_wp2
        refine⟨fun _=>HSA.out _ HD6.out,?_⟩
        refine AnyT.tN (i:=2) rfl rfl (HSA.out _ HD6.out) ?_;go_frame
        refine AnyT.tN (i:=3) rfl rfl (HSA.out _ HD6.out) ?_;go_frame
        refine AnyT.tN (i:=4) rfl rfl (HSA.out _ HD6.out) ?_;go_frame
        refine AnyT.tN (i:=5) rfl rfl (HSA.out _ HD6.out) ?_;go_frame
        refine AnyT.tN (i:=6) rfl rfl (HSA.out _ HD6.out) ?_;go_frame
        refine AnyT.tN (i:=7) rfl rfl (HSA.out _ HD6.out) ?_;go_frame
        refine AnyT.nx (i:=8) rfl ?_
        go_wp2
        refine⟨fun _=>HSA.out _ HD6.out,?_⟩
        refine AnyT.nx (i:=9) rfl ?_
        go_wp2
        refine⟨fun _=>HSA.out _ HD6.out,?_⟩
        refine AnyT.done (by kernel_rfl) ?_ _
        have HBZ:=hid (zAA HBW17.out HD6.out)
        go_wp2
        refine⟨⟨k+1,HKK1.out,by rw[HST1.out.1];simp,by rw[HST1.out.2];have:=HQ.out;simp,by go_num,HBZ.out⟩,by have:=HKK1.out;simp[intOf];omega⟩
  ·obtain rfl:k=K:=by omega
   have i2:¬(k:Int)<(k:Int):=by omega
   have HBW:=hid (zAA HB7.out hbk)
   clear hbk
   by_cases hE:E=0
   ·obtain⟨_,e1,e2,_⟩:=HRF.out hE
    subst hE
    rw[e1,e2]
    go_wp2_with (go_at_call 18;refine(HAW.out _).mono ?_;rintro e wD ⟨rfl,hbD⟩)
    go_ret
    exact⟨rfl,zAA HBW.out hbD⟩
   ·have hne:(E !=0)=true:=by simpa using hE
    obtain⟨e1,e2⟩:=HBK.out hE k
    rw[e1,e2]
    go_wp2_with (go_at_call 18;refine(HAW.out _).mono ?_;rintro e wD ⟨rfl,hbD⟩)
    go_ret
    exact⟨rfl,zAA HBW.out hbD⟩
end
end Go.Proofs.YtlffndehhhpgjaaGreat

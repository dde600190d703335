/- Walks and plain laws for DualSureRow, part 15. -/
import Derived.Test.YtlffndehhhpgjaaGreatPkDualSureRow14
namespace Go.Proofs.YtlffndehhhpgjaaGreat
set_option linter.unusedVariables false
set_option linter.unusedSimpArgs false
set_option maxRecDepth 100000
set_option maxHeartbeats 4000000
section
open Go.RowKit
theorem dualSure_c(w:World)(a:Option Addr)(n cap:Nat)(M:Mask)(hn:M.length=n)(hm:n<=maxLen)(H:zAL w a M)(_:∀y∈M,∀z∈y,zJR z)
 (a2:Option Addr)(n2 cap2:Nat)(x:List Int)(hn2:x.length=n2)(hm2:n2<=maxLen)(H2:zAE w a2 x)(_:∀z∈x,zJR z):
 Calls Tryz.prog 9 #[.slice a n cap,.slice a2 n2 cap2] w fun e w'=>e=.returned (.bool true)∧Below w.heap.size w w':=by
 have HAW:=hid (fun X=>awake5_c X)
 have HLI:=hid (light_c w a n cap M hn hm H)
 have HSH:=hid (r2Shown_c w a n cap M hn hm H a2 n2 cap2 x hn2 hm2 H2)
 have HD:=hid (dfinds_c w a n cap M hn hm H a2 n2 cap2 x hn2 hm2 H2)
 by_cases hs:zFI M x=true
 rotate_left
 ·have hs':zFI M x=false:=by simpa using hs
  rw[hs']at HSH
  clear hn hn2 H H2 hs hs' HD
  go_enter Tryz.func9,Tryz.ntmps9
  go_wp2_with (go_at_call 16;refine HLI.out.mono ?_;rintro e w1 ⟨⟨sb,rfl⟩,rfl⟩;refine Stop.of ?_)
  refine Stop.go ?_
  cases sb
  ·go_wp2_with (go_at_call 18;refine(HAW.out _).mono ?_;rintro e w2 ⟨rfl,hb2⟩)
   go_ret
   exact⟨rfl,hb2⟩
  ·go_wp2_with (first
    | (go_at_call 49;refine HSH.out.mono ?_;rintro e w1 ⟨rfl,rfl⟩)
    | (go_at_call 18;refine(HAW.out _).mono ?_;rintro e w2 ⟨rfl,hb2⟩))
   go_ret
   exact⟨rfl,hb2⟩
 rw[hs]at HSH
 have hsE:zCI M x=0:=by
  unfold zFI at hs
  simp only[Bool.and_eq_true,decide_eq_true_eq]at hs
  exact zDT.2 ⟨hs.1,hs.2.1,hs.2.2⟩
 obtain⟨hok,hxl,hxm⟩:=zDT.1 hsE
 obtain⟨hO,h1,h6,hc1,hc10⟩:=zCN hok
 obtain⟨Y,hY⟩:=exq (zCZ M x)
 have hyl:Y.length=n:=by rw[hY];unfold zCZ;rw[List.length_map];exact hn
 have HFE:=hid (show((zGQ M x).2=0∧milB Y=true∧(valE M Y).2=0∧(zGQ M x).1=decide (zBK M Y=[zCG x]))∨(zGQ M x).2≠0 from by
  unfold zGQ
  rw[if_pos hsE,<- hY]
  by_cases hmy:milB Y=true
  ·rw[if_pos hmy]
   exact .inl ⟨rfl,hmy,by rw[hY]at hmy⊢;exact read_val hsE hmy,rfl⟩
  ·rw[if_neg hmy]
   exact .inr (by decide))
 have HFI:=hid (fun(hmy:milB Y=true) (k:Int) (hb:zGZ M k) (hg:∀j,j<n2->zAS M j j=zAS M 0 0) (hx:nzC x n2<=k)=>show zBK M Y=[zCG x]from by
  rw[hY]at hmy⊢
  have e:n2=zAA M:=by omega
  rw[e]at hg hx
  exact sure_finds hsE hmy hb hg hx)
 have HRD:=hid (fun(X:World) (hX:Below w.heap.size w X)=>r2ReadO_c X a n cap M hn hm (H.below hX) a2 n2 cap2 x hn2 hm2 (H2.below hX) hsE)
 rw[<- hY]at HRD
 have HCO:=hid (fun(X:World) (hX:Below w.heap.size w X) (ya:Option Addr) (yc:Nat) (hy:zAE X ya Y)=>zMJ X a ya n cap n yc M Y hn hyl hm hm (H.below hX) hy)
 have HBO:=hid (fun(X:World) (hX:Below w.heap.size w X)=>r4Bound_c X a n cap M hn hm (H.below hX) hok)
 have HCL:=hid (fun(X:World) (hX:Below w.heap.size w X) (j:Nat) (hj:j<n2)=>r2Column_c X a n cap M hn hm (H.below hX) hok j (by omega))
 have HDO:=hid (fun(X:World) (j:Nat) (va vb:Option Addr) (vc vd:Nat) (hA:zAE X va (colV M j)) (hB:zAE X vb (colV M j))=>by
  have h:=r2dot_c X va vb n vc n vd (colV M j) (colV M j) ((zDW M j).trans hn) ((zDW M j).trans hn) (by omega) (Nat.le_refl _) hA hB (colV_bnd hO j) (colV_bnd hO j)
  rw[gram_dot]at h
  exact h)
 have HX:=hid (fun(X:World) (hX:Below w.heap.size w X)=>H2.below hX)
 have HXN:=hid hn2
 have N10:n2<=10:=by omega
 have HN1:=hid (show 0<n2 by omega)
 have HWL:=hid (show(zCG x).length=n2 by unfold zCG;rw[List.length_map];exact hn2)
 have HTK:=hid (fun(k:Nat) (hk:k<n2)=>show zAK ((zCG x).take (k+1))=zAK ((zCG x).take k)++zAV (vec x k,1)from by
  rw[List.take_succ_eq_append_getElem (by unfold zCG;rw[List.length_map];omega),zJM]
  unfold zCG vec
  simp[List.getElem?_eq_getElem (show k<x.length by omega)])
 obtain⟨E,hE⟩:=exq (zGQ M x)
 rw[<- hE]at HD HFE
 obtain⟨E1,E2⟩:=E
 simp only[]at HD HFE
 obtain⟨C,hC⟩:=exq (zBK M Y)
 have HCC:=hid hC
 rw[<- hC]at HFE HFI
 clear hn hn2 H H2 hs hsE hok hxl hxm hO h1 h6 hc1 hc10 hY hyl hE hC
 go_enter Tryz.func9,Tryz.ntmps9
 go_wp2_with (go_at_call 16;refine HLI.out.mono ?_;rintro e w1 ⟨⟨sb,rfl⟩,rfl⟩;refine Stop.of ?_)
 refine Stop.go ?_
 cases sb
 ·go_wp2_with (go_at_call 18;refine(HAW.out _).mono ?_;rintro e w2 ⟨rfl,hb2⟩)
  go_ret
  exact⟨rfl,hb2⟩
 go_upto_region 3 with (go_at_call 49;refine HSH.out.mono ?_;rintro e w1 ⟨rfl,rfl⟩)
 go_upto_region 4 with (go_at_call 47;refine HD.out.mono ?_;rintro e w2 ⟨rfl,hb2⟩;have HB2:=hid hb2;clear hb2;refine Stop.of ?_)
 refine Stop.go ?_
 go_upto_region 4 with fail
 by_cases hE2:E2=0
 rotate_left
 ·have hne:(E2 !=0)=true:=by simpa using hE2
  go_wp2_with (go_at_call 18;refine(HAW.out _).mono ?_;rintro e w3 ⟨rfl,hb3⟩)
  go_ret
  exact⟨rfl,zAB HB2.out hb3⟩
 subst hE2
 obtain⟨_,hmy,hv0,hE1⟩:=HFE.out.resolve_right (fun h=>h rfl)
 have HMY:=hid hmy
 have HV0:=hid hv0
 have HE1:=hid hE1
 clear hmy hv0 hE1 HFE
 go_upto_region 7 with (go_at_call 50;refine(HRD.out _ HB2.out).mono ?_;rintro e w3 ⟨⟨ya,yc,rfl,hyi⟩,hb3⟩;have HYI:=hid hyi;have HB3:=hid (zAB HB2.out hb3);clear hyi hb3;refine Stop.of ?_)
 refine Stop.go ?_
 go_upto_region 7 with fail
 go_upto_region 8 with (go_at_call 37;refine(HCO.out _ HB3.out ya yc HYI.out).mono ?_;rintro e w4 ⟨⟨ca,cc,rfl,hcl,hpi⟩,hb4⟩;rw[<- HCC.out]at hcl hpi⊢;rw[HV0.out];have HPI:=hid hpi;have HB4:=hid (zAB HB3.out hb4);have HCLE:=hid hcl;clear hpi hb4 hcl;refine Stop.of ?_)
 refine Stop.go ?_
 go_upto_region 8 with fail
 go_upto_region 10 with fail
 go_wp2
 go_loopw [11,61] (fun v i wr=>∃k:Nat,k<=n2∧i=.int .i64 k∧zEM wr w4.heap.size v ((zCG x).take k)∧Below w4.heap.size w4 wr) (fun _ i _=>n2-(intOf i).toNat)
 case atStart=>exact⟨0,Nat.zero_le _,rfl,zEM.nil _ _,Below.refl _ _⟩
 case round=>
  obtain⟨k,hk,rfl,hown,hbk⟩:=hrel
  by_cases hkl:k<n2
  ·obtain⟨b,off,rfl,hblt,hbc⟩:=HX.out _ (zAB HB4.out hbk) k (by rw[HXN.out];exact hkl)
   have hlen:((zCG x).take k).length=k:=by rw[List.length_take,HWL.out];omega
   obtain⟨va,vc,rfl,_,_⟩:=zEM.reads hown
   unfold zEM at hown
   rw[hlen]at hown⊢
   have HOWN:=hid hown
   have HBK:=hid hbk
   have HKL:=hid hkl
   have j1:(k:Int)<(n2:Int):=by omega
   obtain⟨z,hz⟩:=exq (x[k]?.getD 0)
   rw[<- hz]at hbc
   have HZ:=hid (show zAK ((zCG x).take (k+1))=zAK ((zCG x).take k)++zAV (z,1)by rw[hz];exact HTK.out k hkl)
   clear hown hbk hkl hblt hz
   go_upto_region 14 with fail
   go_wp2_with (go_at_call 51;refine(zFG _ z).mono ?_;rintro e w5 ⟨rfl,hb5⟩;have HB5:=hid hb5;clear hb5;refine Stop.of ?_)
   refine Stop.go ?_
   have HB45:=hid (zAB HBK.out HB5.out)
   have HO:=hid (zBQ HOWN.out HB5.out)
   have M1:=hid (show k+1<=maxLen by unfold maxLen;omega)
   have M2:=hid (show(k+1)*16<=140737488355328 by omega)
   have M3:=hid (Nat.le_trans HB45.out.size (zCV w5 (.cells #[.int .i64 z,.int .i64 1] 29)))
   go_wp2_with (at_builtin;refine zBN _ rfl (.tmp 65) (.tmp 68) 42 rfl w4.heap.size 29 (.agg #[.int .i64 0,.int .i64 0]) 2 16 Tryz.underlying42 zIU rfl (by decide) (.slice va k vc) k _ rfl (HO.out.alloc _) (some ⟨w5.heap.size,0,none⟩) 1 1 (zAV (z,1)) rfl rfl zDM (rat_news w5 (z,1) _) (zMW _) M1.out M2.out M3.out ?_;refine Stop.of ?_)
   refine Stop.go ?_
   intro a3 c3 w6 own6 g6
   have hB6:Below w4.heap.size w4 w6:=(HB45.out.alloc HB45.out.size _).grown g6 M3.out (fun k hk=>(HO.out.lt k hk).1)
   go_wp2
   have hl1:((zCG x).take (k+1)).length=k+1:=by rw[List.length_take,HWL.out];omega
   refine⟨⟨k+1,HKL.out,by go_num,?_,hB6⟩,by have:=HKL.out;simp[intOf];omega⟩
   unfold zEM
   rw[hl1,HZ.out]
   exact own6
  ·obtain rfl:k=n2:=by omega
   have j1:¬(k:Int)<(k:Int):=by omega
   rw[List.take_of_length_le (by rw[HWL.out];exact Nat.le_refl _)]at hown
   obtain⟨wa,wc,rfl,_,hra⟩:=zEM.reads hown
   have HBK:=hid hbk
   have HRA:=hid hra
   have HBW:=hid (zAB HB4.out hbk)
   rw[HWL.out]
   clear hown hbk hra
   go_upto_region 16 with fail
   cases E1
   case' true=>
    have hC1:C=[zCG x]:=of_decide_eq_true HE1.out.symm
    have HFIN:=hid (show ∀(q:Int),zGZ M q->(∀j,j<k->zAS M j j=zAS M 0 0)->nzC x k<=q->true=true from fun _ _ _ _=>rfl)
    have hp0:=(HPI.out.below HBK.out) 0 (by rw[hC1];exact Nat.one_pos)
    obtain⟨pb,po,pa,pn,pc,rfl,hpb,hpc,hpn,hpm,hpr⟩:=hp0
    have hCl:C.length=1:=by rw[hC1];rfl
    have hC0:C[0]'(by omega)=zCG x:=by simp only[hC1];rfl
    rw[hC0]at hpn hpr
    rw[Nat.add_zero]at hpc
    have HPR:=hid hpr
    have HPN:=hid hpn
    rw[hCl]
    have HSA:=hid (sameRats_c _ pa wa pn pc k wc (zCG x) (zCG x) hpn HWL.out hpm (by unfold maxLen;omega) hpr HRA.out)
    rw[decide_eq_true rfl]at HSA
    clear hC1 hpn hpr hCl hC0 hpm HE1
    go_upto_region 18 with (go_at_call 35;refine HSA.out.mono ?_;rintro e w7 ⟨rfl,hb7⟩;have HB7:=hid (zAB HBW.out hb7);clear hb7)
   case' false=>
    have HFIN:=hid (show ∀(q:Int),zGZ M q->(∀j,j<k->zAS M j j=zAS M 0 0)->nzC x k<=q->false=true from fun q h1 h2 h3=>by
     have:=HFI.out HMY.out q h1 h2 h3
     rw[HE1.out];exact decide_eq_true this)
    obtain⟨w7,hw7⟩:=exq (wr)
    rw[<- hw7]at HBW⊢
    have HB7:=HBW
    clear hw7
    go_upto_region 18 with fail
   all_goals (
    have HCL0:=hid (fun(X:World) (hX:Below w.heap.size w X)=>show Calls Tryz.prog 53 #[.slice a n cap,.int .i64 0] X fun e w'=>(∃va vc,e=.returned (.tuple #[.slice va n vc,.int .i64 0])∧zAE w' va (colV M 0))∧Below X.heap.size X w' from HCL.out X hX 0 HN1.out)
    clear HRA HBK HFI HPI HRD HCO HD HTK HWL HBW
    go_upto_region 19 with (go_at_call 52;refine(HBO.out _ HB7.out).mono ?_;rintro e w8 ⟨⟨q,F,rfl,hF⟩,hb8⟩;have HBF:=hid hF;have HB8:=hid (zAB HB7.out hb8);clear hF hb8;refine Stop.of ?_)
    refine Stop.go ?_
    go_wp2
    go_loopw [16,92] (fun c jv wr=>∃j:Nat,j<=k∧c=.int .i64 (nzC x j)∧jv=.int .i64 j∧Hid (∀t,t<j->zAS M t t=zAS M 0 0)∧Below w.heap.size w wr) (fun _ jv _=>k-(intOf jv).toNat)
    case atStart=>exact⟨0,Nat.zero_le _,rfl,rfl,hid (fun t ht=>by omega),HB8.out⟩
    case round=>
     obtain⟨j,hj,rfl,rfl,HG,hbj⟩:=hrel
     by_cases hjk:j<k
     ·obtain⟨b,off,rfl,hblt,hbc⟩:=HX.out _ hbj j (by rw[HXN.out];exact hjk)
      have j1:(j:Int)<(k:Int):=by omega
      have hcb:=nzC_bnd x j
      have hst:=zND x j
      obtain⟨c,hc⟩:=exq (nzC x j)
      obtain⟨z,hz⟩:=exq (vec x j)
      have hz2:x[j]?.getD 0=z:=by rw[hz];rfl
      rw[hz2]at hbc
      rw[<- hz,<- hc]at hst
      rw[<- hc]at hcb⊢
      have HBJ:=hid hbj
      have HJK:=hid hjk
      have HLT:=hid hblt
      clear hz2 hz hc hbj hjk hblt
      by_cases hz0:z=0
      case' pos=>
       subst hz0
       obtain⟨c2,hc2⟩:=exq (c)
       have HC2:=hid (show nzC x (j+1)=c2 by rw[hst,if_pos rfl];omega)
       rw[<- hc2]
       clear hst hcb hc2
       go_upto_region 25 with fail
      case' neg=>
       have hne:(z !=0)=true:=by simpa using hz0
       obtain⟨c2,hc2⟩:=exq (c+1)
       have hw:IntKind.i64.wrap (c+1)=c2:=by rw[hc2];exact IntWalk.i64_in _ (by omega)
       have HC2:=hid (show nzC x (j+1)=c2 by rw[hst,if_neg hz0];omega)
       clear hst hcb hc2
       go_upto_region 25 with fail
      all_goals (
       go_upto_region 26 with (go_at_call 53;refine(HCL.out _ HBJ.out j HJK.out).mono ?_;rintro e w9 ⟨⟨va,vc,rfl,hvi⟩,hb9⟩;have HVI:=hid hvi;have HB9:=hid (zAB HBJ.out hb9);clear hvi hb9;refine Stop.of ?_)
       refine Stop.go ?_
       go_upto_region 26 with fail
       go_upto_region 27 with (go_at_call 53;refine(HCL0.out _ HB9.out).mono ?_;rintro e wA ⟨⟨vb,vd,rfl,hvi⟩,hbA⟩;have HVA:=hid (HVI.out.below hbA);have HVB:=hid hvi;have HBA:=hid (zAB HB9.out hbA);clear hvi hbA;refine Stop.of ?_)
       refine Stop.go ?_
       go_upto_region 27 with fail
       have HDJ:=hid (HDO.out wA j va va vc vc HVA.out HVA.out)
       have HD0:=hid (fun(X:World) (hX:Below wA.heap.size wA X)=>HDO.out X 0 vb vb vd vd (HVB.out.below hX) (HVB.out.below hX))
       obtain⟨G,hG⟩:=exq (zAS M j j)
       obtain⟨G0,hG0⟩:=exq (zAS M 0 0)
       rw[<- hG]at HDJ
       rw[<- hG0]at HD0 HG
       have HGV:=hid (show G=G0->∀t,t<j+1->zAS M t t=zAS M 0 0 from fun e t ht=>by
        rw[<- hG0]
        rcases Nat.lt_or_ge t j with h|h
        ·exact HG.out t h
        ·obtain rfl:t=j:=by omega
         rw[<- hG,e])
       clear hG hG0
       go_wp2_with (go_at_call 54;refine HDJ.out.mono ?_;rintro e wB ⟨rfl,k1,hwB⟩;have HBB:=hid (show Below wA.heap.size wA wB by rw[hwB];exact zBW (Below.refl _ _) k1);clear hwB;refine Stop.of ?_)
       refine Stop.go ?_
       go_wp2_with (go_at_call 54;refine(HD0.out _ HBB.out).mono ?_;rintro e wC ⟨rfl,k2,hwC⟩;have HBC:=hid (show Below w.heap.size w wC by rw[hwC];exact zBW (zAB HBA.out HBB.out) k2);clear hwC;refine Stop.of ?_)
       refine Stop.go ?_
       by_cases hgg:G=G0
       ·have hge:(G !=G0)=false:=by rw[hgg];simp
        have HNX:=hid (HGV.out hgg)
        have HJ1:=hid (show j+1<=k from HJK.out)
        have HMS:=hid (show k-(j+1)<k-j by have:=HJK.out;omega)
        clear HGV
        subst hgg
        go_wp2
        refine⟨⟨j+1,HJ1.out,by rw[HC2.out],by go_num,HNX,HBC.out⟩,by have:=HMS.out;simp[intOf];omega⟩
       ·have hge:(G !=G0)=true:=by simpa using hgg
        go_wp2_with (go_at_call 18;refine(HAW.out _).mono ?_;rintro e wD ⟨rfl,hbD⟩)
        go_ret
        exact⟨rfl,zAB HBC.out hbD⟩)
     ·obtain rfl:j=k:=by omega
      have j1:¬(j:Int)<(j:Int):=by omega
      obtain⟨c,hc⟩:=exq (nzC x j)
      rw[<- hc]at HFIN⊢
      have HBJ:=hid hbj
      clear hc hbj
      by_cases hF:F=0
      ·subst hF
       by_cases hq:q<c
       ·go_wp2_with (go_at_call 18;refine(HAW.out _).mono ?_;rintro e wD ⟨rfl,hbD⟩)
        go_ret
        exact⟨rfl,zAB HBJ.out hbD⟩
       ·have hfin:=HFIN.out q (HBF.out rfl) HG.out (by omega)
        first
         |exact absurd hfin (by decide)
         | (go_wp2_with (go_at_call 18;refine(HAW.out _).mono ?_;rintro e wD ⟨rfl,hbD⟩)
            go_ret
            exact⟨rfl,zAB HBJ.out hbD⟩)
      ·have hne:(F !=0)=true:=by simpa using hF
       go_wp2_with (go_at_call 18;refine(HAW.out _).mono ?_;rintro e wD ⟨rfl,hbD⟩)
       go_ret
       exact⟨rfl,zAB HBJ.out hbD⟩)
end
end Go.Proofs.YtlffndehhhpgjaaGreat

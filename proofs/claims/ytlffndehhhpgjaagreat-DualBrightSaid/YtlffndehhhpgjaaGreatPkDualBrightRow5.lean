/- Walks and plain laws for DualBrightRow, part 5. -/
import Derived.Maps.RangeWalk
import Derived.Maps.AppendAt
import Derived.Deep.CutRange
import Derived.Test.YtlffndehhhpgjaaGreatPkDualBrightRow4
namespace Go.Proofs.YtlffndehhhpgjaaGreat
set_option linter.unusedVariables false
set_option linter.unusedSimpArgs false
set_option maxRecDepth 100000
set_option maxHeartbeats 4000000
open _root_.List renaming getElem?_eq_getElem → yAA, getElem_mem → yAH, take_succ_eq_append_getElem → yAI, take_of_length_le → yAL, length_append → yAN, getElem?_append_left → yAO, getElem?_append_right → yAQ, length_map → yAS, all_eq_true → yAT, length_take → yAU, length_cons → yBB, append_nil → yBC, drop_eq_getElem_cons → yBD, map_append → yBF, getElem_cons_zero → yBG, mem_map → yBJ, getElem_append_right → yBL, getElem_append_left → yBO, range_succ → yBQ, length_eq_zero_iff → yBT, append_assoc → yBZ, set_cons_zero → yCA, ext_getElem → yCC, length_nil → yCD, mem_range → yCH, getElem?_set_ne → yCI, set_append_right → yCZ, mem_append_right → yDA, getElem_set_ne → yDP, mem_append_left → yDZ, drop_eq_nil_of_le → yEC, length_set → yFE, getElem_zipWith → yGB, getElem_map → yGG, map_congr_left → yGJ, getElem_range → yGS, findIdx?_eq_some_iff_getElem → yGT, eraseIdx_append_of_length_le → yGW
open _root_.Nat renaming le_refl → yAC, le_trans → yAF, zero_le → yAK, lt_or_ge → yAP, zero_add → yAW, one_pos → yBH, eq_zero_or_pos → yBR, sub_self → yCF, min_eq_left → yEI, le_of_lt → yFH
open _root_.Int renaming toNat_natCast → yEG
open _root_.Array renaming getElem?_eq_some_iff → yAB, toList_setIfInBounds → yEA
section
open Go.RowKit
theorem zKQ{P:Program}{c:Code}{Q:Exit->Act->World->Prop}{a:Act}{w:World}(R:Act->Act->World->Prop)(h1:c.wp P (fun e a' w'=>e=.normal∧R a a' w') a w)(h2:∀a' w',R a a' w'->Q .normal a' w'):c.wp P Q a w:=
 Code.wp_mono (fun e a' w' ⟨he,hr⟩=>by subst he;exact h2 a' w' hr) h1
theorem prim1(w:World):zPB Tryz.prog 224 #[] w (fun n=>decide (n≠0)):=by
 intro x W hb
 by_cases e:x=0
 ·subst e
  go_enter Tryz.func224,Tryz.ntmps224
  go_wp2
  go_ret
  exact⟨rfl,Below.refl _ _⟩
 ·have hd:(x==0)=false:=by simpa using e
  have HE:=hid e
  clear e
  go_enter Tryz.func224,Tryz.ntmps224
  go_wp2
  go_ret
  exact⟨zAP (by have:=HE.out;simp[this]),Below.refl _ _⟩
theorem zLP:∀{l:List Int},(∀x∈l,x=0)->zBN l=0
 | [],_=>rfl
 |x::l,h=>by unfold zBN;rw[if_pos (h x (by simp))];exact zLP fun y hy=>h y (by simp[hy])
theorem idx_nz(l:List Int):(idxP (fun n=>decide (n≠0)) l 0= -1∧zBN l=0)∨∃k:Nat,k<l.length∧idxP (fun n=>decide (n≠0)) l 0=(k:Int)∧zBN l=l[k]?.getD 0:=by
 rw[zNY]
 cases h:l.findIdx? (fun n=>decide (n≠0))with
 |none=>
  left
  refine⟨rfl,zLP fun x hx=>?_⟩
  have:=List.findIdx?_eq_none_iff.1 h x hx
  simpa using this
 |some k=>
  right
  obtain⟨h1,h2,h3⟩:=yGT.1 h
  refine⟨k,h1,by simp,?_⟩
  have hv:∀j (hj:j<l.length),vec l j=l[j]:=fun j hj=>zCV hj
  have:=zKX (l:=l) (i:=k) (fun j hj=>by
   rw[hv j (by omega)]
   have:=h3 j hj
   simpa using this) (by rw[hv k h1];simpa using h2)
  rw[this];rfl
theorem primitive_c(w:World)(b n cap:Nat)(l:List Int)(hn:l.length=n)(hm:n<=maxLen)(H:zBD w b l)(hB:BndL 4611686018427387904 l):
 Calls Tryz.prog 181 #[.slice (some ⟨b,0,none⟩) n cap] w fun e w'=>e=.returned (.slice (some ⟨b,0,none⟩) n cap)∧zBD w' b (zGC l)∧Keep (fun k=>k≠b) w w':=by
 have HS:=hid (zIS w b n cap l hn hm H hB)
 have hsl:(zBI l).length=n:=by rw[zCM,hn]
 have hsb:BndL 4611686018427387904 (zBI l):=by
  refine zFE (P:=fun x=> -((4611686018427387904:Nat):Int)<=x∧x<=((4611686018427387904:Nat):Int)) fun c=>?_
  have h1:=shortF_le l c
  have h2:=zDY (P:=fun x=> -((4611686018427387904:Nat):Int)<=x∧x<=((4611686018427387904:Nat):Int)) (by omega) hB c
  omega
 have hp:zGC l=if zBN (zBI l)<0 then negF (zBI l)else zBI l:=rfl
 rw[hp]
 obtain⟨s,hs⟩:=exq (zBI l)
 rw[<- hs]at HS hsl hsb⊢
 have HSL:=hid hsl
 have HSB:=hid hsb
 have hm9:=hm
 unfold maxLen at hm9
 clear hn H hB hs hp hsl hsb
 rcases idx_nz s with⟨hi,hf⟩|⟨k,hks,hi,hf⟩
 ·rw[hf]
  have HIX:=hid hi
  clear hi hf
  go_enter Tryz.func181,Tryz.ntmps181
  go_wp2_with (go_at_call 223;refine HS.out.mono ?_;rintro e w1 ⟨rfl,hr1,hk1⟩;refine Stop.of ?_)
  refine Stop.go ?_
  have HI:=hid (indexI w1 (some ⟨b,0,none⟩) n cap s HSL.out hm hr1.ints 224 #[] _ (enters_of Tryz.func224 (by kernel_rfl) rfl) (prim1 w1))
  rw[HIX.out]at HI
  have HR1:=hid hr1
  have HK1:=hid hk1
  clear hr1 hk1 HS
  go_wp2_with (go_at_call 166;refine HI.out.mono ?_;rintro e w2 ⟨rfl,hb2⟩)
  go_ret
  exact⟨rfl,HR1.out.keep (hb2.block b HR1.out.lt),HK1.out.trans (Keep.of_below hb2)⟩
 ·rw[hf]
  obtain⟨x,hx⟩:=exq (s[k]?.getD 0)
  rw[<- hx]
  have hkn:k<n:=by rw[<- HSL.out];exact hks
  have i1:(0:Int)<=(k:Int):=by omega
  have i2:(k:Int)<(n:Int):=by omega
  have HIX:=hid hi
  have HX:=hid hx
  have HKS:=hid hks
  clear hi hf hx hks
  by_cases hxn:x<0
  ·rw[if_pos hxn]
   have hd:decide (x<0)=true:=decide_eq_true hxn
   clear hxn
   go_enter Tryz.func181,Tryz.ntmps181
   go_wp2_with (go_at_call 223;refine HS.out.mono ?_;rintro e w1 ⟨rfl,hr1,hk1⟩;refine Stop.of ?_)
   refine Stop.go ?_
   have HI:=hid (indexI w1 (some ⟨b,0,none⟩) n cap s HSL.out hm hr1.ints 224 #[] _ (enters_of Tryz.func224 (by kernel_rfl) rfl) (prim1 w1))
   rw[HIX.out]at HI
   have hc1:=hr1.cell HKS.out
   rw[<- HX.out]at hc1
   have hlt1:=hr1.lt
   have HR1:=hid hr1
   have HK1:=hid hk1
   clear hr1 hk1 HS
   go_wp2_with (go_at_call 166;refine HI.out.mono ?_;rintro e w2 ⟨rfl,hb2⟩;refine Stop.of ?_)
   refine Stop.go ?_
   have hc2:w2.cell? ⟨b,k,none⟩=some (.int .i64 x):=(hb2.cell (p:=⟨b,k,none⟩) hlt1).trans hc1
   have HR2:=hid (HR1.out.keep (hb2.block b HR1.out.lt))
   have HK2:=hid (HK1.out.trans (Keep.of_below hb2))
   clear HI hb2 hc1 HR1 HK1
   go_wp2
   go_loopw [20] (fun i wr=>∃t:Nat,t<=n∧i=.int .i64 t∧zBD wr b (zJQ (fun x=> -x) s t)∧Keep (fun k=>k≠b) w2 wr) (fun i _=>n-(intOf i).toNat)
   case atStart=>exact⟨0,yAK _,rfl,by rw[zKW];exact HR2.out,Keep.refl _ _⟩
   case round=>
    obtain⟨t,ht,rfl,hr,hkp⟩:=hrel
    by_cases hltt:t<n
    ·have htl:t<s.length:=by rw[HSL.out];exact hltt
     have d2:=hr.cell (j:=t) (by rw[zGG];exact htl)
     rw[zRH _ htl]at d2
     have hz:=hr.frozen t
     have hbd:=HSB.out.get htl
     have hst:=zNZ (fun x=> -x) htl
     have HSET:=hid (fun(X:World) (hX:X.heap[b]? =wr.heap[b]?) v=>(hr.keep hX).set t (by rw[zGG];exact htl) v)
     have hgs:=hr.lt
     obtain⟨y,hy⟩:=exq (s[t]?.getD 0)
     rw[<- hy]at d2 hbd hst
     have HST:=hid hst
     have HKP:=hid hkp
     have hwn:IntKind.i64.wrap (-y)= -y:=IntWalk.i64_in _ (by omega)
     have ht0:(0:Int)<=(t:Int):=by omega
     have ht1:(t:Int)<(n:Int):=by omega
     clear hr hkp hst hy htl hc2 i1 i2
     go_wp2
     refine⟨⟨t+1,by omega,by go_num,?_,HKP.out.trans (Keep.set wr b t _)⟩,by simp[intOf];omega⟩
     rw[<- HST.out]
     exact HSET.out wr rfl _
    ·obtain rfl:t=n:=by omega
     go_wp2
     go_ret
     rw[<- HSL.out,zOA]at hr
     exact⟨rfl,hr,HK2.out.trans hkp⟩
  ·rw[if_neg hxn]
   have hd:decide (x<0)=false:=decide_eq_false hxn
   clear hxn
   go_enter Tryz.func181,Tryz.ntmps181
   go_wp2_with (go_at_call 223;refine HS.out.mono ?_;rintro e w1 ⟨rfl,hr1,hk1⟩;refine Stop.of ?_)
   refine Stop.go ?_
   have HI:=hid (indexI w1 (some ⟨b,0,none⟩) n cap s HSL.out hm hr1.ints 224 #[] _ (enters_of Tryz.func224 (by kernel_rfl) rfl) (prim1 w1))
   rw[HIX.out]at HI
   have hc1:=hr1.cell HKS.out
   rw[<- HX.out]at hc1
   have hlt1:=hr1.lt
   have HR1:=hid hr1
   have HK1:=hid hk1
   clear hr1 hk1 HS
   go_wp2_with (go_at_call 166;refine HI.out.mono ?_;rintro e w2 ⟨rfl,hb2⟩;refine Stop.of ?_)
   refine Stop.go ?_
   have hc2:w2.cell? ⟨b,k,none⟩=some (.int .i64 x):=(hb2.cell (p:=⟨b,k,none⟩) hlt1).trans hc1
   have HR2:=hid (HR1.out.keep (hb2.block b HR1.out.lt))
   have HK2:=hid (HK1.out.trans (Keep.of_below hb2))
   clear HI hb2 hc1 HR1 HK1
   go_wp2
   go_ret
   exact⟨rfl,HR2.out,HK2.out⟩
theorem zCR{M:Mask}(h:okM M=true):MaskOk M (zAD M)∧1<=M.length∧M.length<=6∧1<=zAD M∧zAD M<=10:=by
 unfold okM inB at h
 simp only[Bool.and_eq_true,decide_eq_true_eq,yAT]at h
 obtain⟨⟨h1,h2⟩,h3⟩:=h
 have hr:∀r∈M,r.length=zAD M∧(1<=r.length∧r.length<=10)∧∀x∈r,-1<=x∧x<=1:=fun r hr=>by
  have h4:=h3 r hr
  unfold zHK inB at h4
  simp only[Bool.and_eq_true,decide_eq_true_eq,yAT]at h4
  obtain⟨h5,⟨h6,h7⟩,h8⟩:=h4
  exact⟨h5,⟨by omega,by omega⟩,h8⟩
 have h0:M.length≠0:=by omega
 have hm0:M[0]'(by omega)∈M:=yAH _
 obtain⟨k1,k2,_⟩:=hr _ hm0
 refine⟨⟨fun r hr'=>(hr r hr').1,by omega,fun r hr' c=>zDY (P:=fun x=> -1<=x∧x<=1) (by decide) (hr r hr').2.2 c⟩,by omega,by omega,by omega,by omega⟩
theorem cols_all{M:List (List Int)}{n:Nat}(h:∀r∈M,r.length=n):zAO M (allI n)=M:=by
 unfold zAO
 conv=>rhs;rw[<- List.map_id M]
 refine yGJ fun r hr=>?_
 refine yCC (by simp[allI,h r hr]) fun i h1 h2=>?_
 simp only[allI,yGG,yGS,id]
 simp only[yEG]
 exact zCV _
theorem allI_mem{n:Nat}{j:Int}(h:j∈allI n):0<=j∧j<(n:Int):=by
 unfold allI at h
 obtain⟨i,hi,rfl⟩:=yBJ.1 h
 have:=yCH.1 hi
 omega
theorem zCT{w:World}{a:Option Addr}{M:Mask}(H:zAM w a M)(h0:0<M.length):
 ∃b off ra rc,a=some ⟨b,off,none⟩∧b<w.heap.size∧w.cell? ⟨b,off,none⟩=some (.slice ra (zAD M) rc):=by
 obtain⟨b,off,ra,rn,rc,rfl,hb,hc,hn,_,_⟩:=H 0 h0
 refine⟨b,off,ra,rc,rfl,hb,?_⟩
 have e:zAD M=rn:=by unfold zAD;rw[yAA h0];exact hn
 rw[e];simpa using hc
theorem rank_c(w:World)(a:Option Addr)(n cap:Nat)(M:Mask)(hn:M.length=n)(hm:n<=maxLen)(H:zAM w a M):
 Calls Tryz.prog 177 #[.slice a n cap] w fun e w'=>Below w.heap.size w w'∧
  ((okM M=false∧e=.returned (.tuple #[.int .i64 0,.int .i64 1]))∨(okM M=true∧e=.returned (.tuple #[.int .i64 (zDE M (zAD M)),.int .i64 0]))):=by
 have HV:=hid (zIU w a n cap M hn hm H)
 cases hok:okM M
 ·rw[hok]at HV
  clear hn H
  go_enter Tryz.func177,Tryz.ntmps177
  go_wp2_with (go_at_call 79;refine HV.out.mono ?_;rintro e w1 ⟨rfl,hb1⟩)
  go_ret2
  exact⟨hb1,.inl ⟨by first|trivial|rfl,rfl⟩⟩
 ·rw[hok]at HV
  obtain⟨hM,h1,h6,hc1,hc10⟩:=zCR hok
  obtain⟨b,off,ra,rc,rfl,hb,hc⟩:=zCT H (by omega)
  have HR:=hid H
  have HN:=hid hn
  have HM:=hid hM
  have hn0:0<n:=by omega
  obtain⟨W,hW⟩:=exq (zAD M)
  rw[<- hW]at hc hc1 hc10 HM⊢
  obtain⟨rk,hrk⟩:=exq (zDE M W)
  rw[<- hrk]
  have HRK:=hid hrk
  have hz:(0:Int)<(n:Int):=by omega
  have hW1:W<=1000:=by omega
  have hn6:n<=6:=by omega
  clear hn H hM hok hW hrk
  go_enter Tryz.func177,Tryz.ntmps177
  go_wp2_with (go_at_call 79;refine HV.out.mono ?_;rintro e w1 ⟨rfl,hb1⟩;refine Stop.of ?_)
  refine Stop.go ?_
  have HS:=hid (fun(X:World) (hX:Below w.heap.size w X)=>(hX.cell (p:=⟨b,off,none⟩) hb).trans hc)
  have HRR:=hid (fun(X:World) (hX:Below w.heap.size w X)=>HR.out.below hX)
  have HB1:=hid hb1
  clear hb1 HR
  go_wp2
  refine zKQ (fun fr fr' X=>∃v7 v8 v9 v10 v11 v12 v13 v14 v15 v16 v17 v18,fr'=((((((((((((((fr.put (some 7) v7).put (some 8) v8).put (some 9) v9).put (some 10) v10).put (some 11) v11).put (some 12) v12).put (some 13) v13).put (some 14) v14).put (some 15) v15).put (some 16) v16).put (some 17) v17).put (some 18) v18).put (some 19) (.int .i64 rk)).put (some 2) (.int .i64 rk)).put (some 3) (.int .i64 0)∧Below w.heap.size w X) ?_ ?_
  ·refine zAG (fun j' X=>wAll j'=true->X.cell? ⟨b,off,none⟩=some (.slice ra W rc)) (by kernel_rfl) ?_
   have hbd:Below w.heap.size w w1.drew:=HB1.out.drew
   generalize w1.drew=wd at hbd⊢
   refine AnyT.tD (i:=0) (v:=.slice (some ⟨b,off,none⟩) n cap) rfl rfl (by rintro w' q5;go_simp) (HS.out _ hbd) ?_;go_frame
   refine AnyT.tD (i:=1) (v:=.slice (some ⟨b,off,none⟩) n cap) rfl rfl (by rintro w' q5;go_simp) (HS.out _ hbd) ?_;go_frame
   refine AnyT.tD (i:=2) (v:=.pointer (some ⟨b,off,none⟩)) rfl rfl (by rintro w' q5;go_simp) (HS.out _ hbd) ?_;go_frame
   refine AnyT.tD (i:=3) (v:=.slice ra W rc) rfl rfl (by rintro w' q5;go_simp) (HS.out _ hbd) ?_;go_frame
   refine AnyT.tD (i:=4) (v:=.int .i64 W) rfl rfl (by rintro w' q5;go_simp) (HS.out _ hbd) ?_;go_frame
   refine AnyT.tD (i:=7) (v:=.slice (some ⟨b,off,none⟩) n cap) rfl rfl (by rintro w' q5;go_simp) (HS.out _ hbd) ?_;go_frame
   refine AnyT.tD (i:=8) (v:=.pointer (some ⟨b,off,none⟩)) rfl rfl (by rintro w' q5;go_simp) (HS.out _ hbd) ?_;go_frame
   refine AnyT.tD (i:=9) (v:=.slice ra W rc) rfl rfl (by rintro w' q5;go_simp) (HS.out _ hbd) ?_;go_frame
   refine AnyT.tD (i:=10) (v:=.int .i64 W) rfl rfl (by rintro w' q5;go_simp) (HS.out _ hbd) ?_;go_frame
   refine AnyT.nx (i:=5) rfl ?_
   go_wp2_with (go_at_call 194;refine(all_c wd W hW1).mono ?_;rintro e w2 ⟨v,rfl,ho2,hb2⟩;refine Stop.of ?_)
   refine Stop.go ?_
   obtain⟨va,vc,rfl,hi2,hm2⟩:=zCK ho2 (zRW W)
   have hbw2:=zAA hbd hb2
   have HCH:=hid (zRU w2 _ n cap M HN.out (by omega) (HRR.out _ hbw2) va W vc (allI W) (zRW W) hW1 hi2 (fun r hr j hj=>by rw[HM.out.wid r hr];exact allI_mem hj) 221 #[] (enters_of Tryz.func221 (by kernel_rfl) rfl) (fun _=>[]) (none_more w2 n) (fun i _=>⟨by simp,by simp;omega⟩))
   rw[zLS,cols_all HM.out.wid]at HCH
   clear ho2 hi2 hb2
   go_wp2
   refine⟨fun _=>HS.out _ hbw2,?_⟩
   refine AnyT.nx (i:=6) rfl ?_
   go_wp2_with (go_at_call 220;refine HCH.out.mono ?_;rintro e w3 ⟨v3,rfl,hO3,hb3⟩;refine Stop.of ?_)
   refine Stop.go ?_
   have hbw3:=zAA hbw2 hb3
   have HRD:=hid (zQV w3 w2.heap.size v3 M W (OwnT.of hO3) hb3.size HM.out.wid hW1 (by rw[HN.out];omega) (by rw[HN.out];omega) W (yAC _) (fun t ht r hr=>⟨(HM.out.bnd ht r hr).1,fun x hx=>by have:=(HM.out.bnd ht r hr).2 x hx;omega⟩))
   have hbs2:=hbw2.size
   clear hO3 hb3 HCH
   go_wp2
   refine⟨fun _=>HS.out _ hbw3,?_⟩
   refine AnyT.nx (i:=11) rfl ?_
   go_wp2_with (go_at_call 195;refine HRD.out.mono ?_;rintro e w4 ⟨v4,rfl,hO4,hT4,hb4⟩;refine Stop.of ?_)
   refine Stop.go ?_
   have hbw4:Below w.heap.size w w4:=hbw3.trans (hb4.mono hbs2)
   rw[zKT]at hO4
   obtain⟨ja,jc,rfl,hJI,hJm⟩:=zCK hO4 (zFI _)
   have e4:(pRed M W).2.length=rk:=HRK.out.symm
   rw[e4]
   clear hO4 hT4 hb4 hJI hJm e4 HRD
   go_wp2
   refine⟨fun _=>HS.out _ hbw4,?_⟩
   refine AnyT.tD (i:=12) (v:=.int .i64 rk) rfl rfl (by rintro w' q5;go_simp) (HS.out _ hbw4) ?_;go_frame
   refine AnyT.tD (i:=13) (v:=.int .i64 rk) rfl rfl (by rintro w' q5;go_simp) (HS.out _ hbw4) ?_;go_frame
   refine AnyT.tD (i:=14) (v:=.int .i64 0) rfl rfl (by rintro w' q5;go_simp) (HS.out _ hbw4) ?_;go_frame
   exact⟨by kernel_rfl,rfl,.slice (some ⟨b,off,none⟩) n cap,.slice (some ⟨b,off,none⟩) n cap,.pointer (some ⟨b,off,none⟩),.slice ra W rc,.int .i64 W,.slice va W vc,v3,.slice (some ⟨b,off,none⟩) n cap,.pointer (some ⟨b,off,none⟩),.slice ra W rc,.int .i64 W,.slice ja rk jc,(by go_frame),hbw4⟩
  ·rintro a5 w5 ⟨v7,v8,v9,v10,v11,v12,v13,v14,v15,v16,v17,v18,rfl,hb5⟩
   go_frame
   go_wp2
   go_ret2
   exact⟨hb5,.inr ⟨by first|trivial|rfl,rfl⟩⟩
end
section
open Go.RowKit
def zJN(p:List Int)(j:Nat)(r:List Int)(k:Nat):List Int:=(List.range k).map (fun c=>vec r c*vec p j-vec p c*vec r j)
theorem mixTo_len(p:List Int)(j:Nat)(r:List Int)(k:Nat):(zJN p j r k).length=k:=by simp[zJN]
theorem mixTo_succ(p:List Int)(j:Nat)(r:List Int)(k:Nat):zJN p j r (k+1)=zJN p j r k++[vec r k*vec p j-vec p k*vec r j]:=by
 unfold zJN;rw[yBQ,yBF];rfl
theorem mixTo_all{p r:List Int}(j:Nat)(h:p.length=r.length):zBE p j r=zDV (zJN p j r r.length):=by
 unfold zBE zJN
 congr 1
 refine yCC (by simp[h]) fun i h1 h2=>?_
 simp only[List.length_zipWith,yAS,List.length_range]at h1 h2
 simp only[yGB,yGG,yGS]
 rw[zCV (show i<r.length by omega),zCV (show i<p.length by omega)]
theorem zNA(w:World)(a a2:Option Addr)(n cap cap2:Nat)(r p:List Int)(hn:r.length=n)(hn2:p.length=n)(hm:n<=1000)(H:zAH w a r)(H2:zAH w a2 p)(hB:BndL 1073741824 r)(hB2:BndL 1073741824 p)(j:Nat)(hj:j<n):
 Calls Tryz.prog 251 #[.slice a n cap,.slice a2 n cap2,.int .i64 j] w fun e w'=>∃v base,e=.returned v∧w.heap.size<=base∧w'.ownsRow base 3 1 v n ((zBE p j r).map (Value.int .i64))∧Below w.heap.size w w':=by
 rw[mixTo_all j (show p.length=r.length by omega),hn]
 have HN:=hid hn
 have HN2:=hid hn2
 have HH:=hid H
 have HH2:=hid H2
 have HB:=hid hB
 have HB2:=hid hB2
 clear hn hn2 H H2 hB hB2
 go_enter Tryz.func251,Tryz.ntmps251
 go_wp2
 go_loopw [7,11] (fun v i wr=>∃k:Nat,k<=n∧i=.int .i64 k∧wr.ownsRow w.heap.size 3 1 v k ((zJN p j r k).map (Value.int .i64))∧Below w.heap.size w wr) (fun _ i _=>n-(intOf i).toNat)
 case atStart=>exact⟨0,yAK _,rfl,World.ownsRow_nil _ _ _ _,Below.refl _ _⟩
 case round=>
  obtain⟨k,hk,rfl,hown,hbt⟩:=hrel
  by_cases hlt:k<n
  ·obtain⟨b,off,rfl,hbs,hc1⟩:=HH.out k (by rw[HN.out];exact hlt)
   obtain⟨b',off',e',_,hc2⟩:=HH.out j (by rw[HN.out];exact hj)
   cases e'
   obtain⟨b2,off2,rfl,hbs2,hc3⟩:=HH2.out k (by rw[HN2.out];exact hlt)
   obtain⟨b2',off2',e',_,hc4⟩:=HH2.out j (by rw[HN2.out];exact hj)
   cases e'
   have d1:=HB.out.get (show k<r.length by rw[HN.out];exact hlt)
   have d2:=HB.out.get (show j<r.length by rw[HN.out];exact hj)
   have d3:=HB2.out.get (show k<p.length by rw[HN2.out];exact hlt)
   have d4:=HB2.out.get (show j<p.length by rw[HN2.out];exact hj)
   have hsn:(zJN p j r (k+1)).map (Value.int .i64)=(zJN p j r k).map (Value.int .i64)++[.int .i64 (r[k]?.getD 0*p[j]?.getD 0-p[k]?.getD 0*r[j]?.getD 0)]:=by rw[mixTo_succ,yBF];rfl
   obtain⟨x,hx⟩:=exq (r[k]?.getD 0)
   obtain⟨rj,hrj⟩:=exq (r[j]?.getD 0)
   obtain⟨y,hy⟩:=exq (p[k]?.getD 0)
   obtain⟨pj,hpj⟩:=exq (p[j]?.getD 0)
   rw[<- hx]at hc1 d1 hsn
   rw[<- hrj]at hc2 d2 hsn
   rw[<- hy]at hc3 d3 hsn
   rw[<- hpj]at hc4 d4 hsn
   have e1:=zGP (show-(1073741824:Int)<=x∧x<=1073741824 by omega) (show-(1073741824:Int)<=pj∧pj<=1073741824 by omega)
   have e2:=zGP (show-(1073741824:Int)<=y∧y<=1073741824 by omega) (show-(1073741824:Int)<=rj∧rj<=1073741824 by omega)
   obtain⟨m1,hm1⟩:=exq (x*pj)
   obtain⟨m2,hm2⟩:=exq (y*rj)
   rw[<- hm1,<- hm2]at hsn
   rw[<- hm1]at e1
   rw[<- hm2]at e2
   obtain⟨z,hz⟩:=exq (m1-m2)
   rw[<- hz]at hsn
   have w1:IntKind.i64.wrap (x*pj)=m1:=by rw[<- hm1];exact IntWalk.i64_in _ (by omega)
   have w2:IntKind.i64.wrap (y*rj)=m2:=by rw[<- hm2];exact IntWalk.i64_in _ (by omega)
   have w3:IntKind.i64.wrap (m1-m2)=z:=by rw[<- hz];exact IntWalk.i64_in _ (by omega)
   obtain⟨va,vc,rfl⟩:=zAC hown
   have HSN:=hid hsn
   have HO:=hid hown
   have HBT:=hid hbt
   have HS:=hid (fun(X:World) (hX:Below w.heap.size w X)=>show X.cell? ⟨b,off+k,none⟩=some (.int .i64 x)∧X.cell? ⟨b,off+j,none⟩=some (.int .i64 rj)∧X.cell? ⟨b2,off2+k,none⟩=some (.int .i64 y)∧X.cell? ⟨b2,off2+j,none⟩=some (.int .i64 pj)from
    have hbw:=hX
    ⟨(hbw.cell (p:=⟨b,off+k,none⟩) hbs).trans hc1,(hbw.cell (p:=⟨b,off+j,none⟩) hbs).trans hc2,(hbw.cell (p:=⟨b2,off2+k,none⟩) hbs2).trans hc3,(hbw.cell (p:=⟨b2,off2+j,none⟩) hbs2).trans hc4⟩)
   have M1:=hid (show k+1<=maxLen by unfold maxLen;omega)
   have M2:=hid (show(k+1)*8<=140737488355328 by omega)
   have M3:=hid hbt.size
   have i1:(0:Int)<=(k:Int):=by omega
   have i2:(k:Int)<(n:Int):=by omega
   have i3:(0:Int)<=(j:Int):=by omega
   have i4:(j:Int)<(n:Int):=by omega
   have hbsw:b<w.heap.size∧b2<w.heap.size:=⟨hbs,hbs2⟩
   clear hown hbt hsn hx hrj hy hpj hm1 hm2 hz hc1 hc2 hc3 hc4 d1 d2 d3 d4 e1 e2
   go_wp2
   refine zKQ (fun fr fr' X=>∃v14 v15 v16 v17 v18 v19 v20 v21 v22 v23 v24 v25 v26 v27 v28 v29 v30 v31 v32 v33 v34 v35,fr'=(((((((((((((((((((((((fr.put (some 14) v14).put (some 15) v15).put (some 16) v16).put (some 17) v17).put (some 18) v18).put (some 19) v19).put (some 20) v20).put (some 21) v21).put (some 22) v22).put (some 23) v23).put (some 24) v24).put (some 25) v25).put (some 26) v26).put (some 27) v27).put (some 28) v28).put (some 29) v29).put (some 30) v30).put (some 31) v31).put (some 32) v32).put (some 33) v33).put (some 34) v34).put (some 35) v35).put (some 7) v35)∧(∃a3 c3,v35=.slice a3 (k+1) c3)∧X.ownsRow w.heap.size 3 1 v35 (k+1) ((zJN p j r (k+1)).map (Value.int .i64))∧Below w.heap.size w X) ?_ ?_
   ·refine zAG (fun j' X=>wAll j'=true->X.cell? ⟨b,off+k,none⟩=some (.int .i64 x)∧X.cell? ⟨b,off+j,none⟩=some (.int .i64 rj)∧X.cell? ⟨b2,off2+k,none⟩=some (.int .i64 y)∧X.cell? ⟨b2,off2+j,none⟩=some (.int .i64 pj)) (by kernel_rfl) ?_
    have hbd:Below w.heap.size w wr.drew:=HBT.out.drew
    have HO2:=hid (zBJ HO.out ((Below.refl _ wr).drew))
    have HB3:=hid hbd
    generalize wr.drew=wd at hbd HO2 HB3⊢
    refine AnyT.tD (i:=0) (v:=.slice va k vc) rfl rfl (by rintro w' ⟨q1,q2,q3,q4⟩;go_simp) (HS.out _ hbd) ?_;go_frame
    refine AnyT.tD (i:=1) (v:=.slice (some ⟨b,off,none⟩) n cap) rfl rfl (by rintro w' ⟨q1,q2,q3,q4⟩;go_simp) (HS.out _ hbd) ?_;go_frame
    refine AnyT.tD (i:=2) (v:=.int .i64 k) rfl rfl (by rintro w' ⟨q1,q2,q3,q4⟩;go_simp) (HS.out _ hbd) ?_;go_frame
    refine AnyT.tD (i:=3) (v:=.pointer (some ⟨b,off+k,none⟩)) rfl rfl (by rintro w' ⟨q1,q2,q3,q4⟩;go_simp) (HS.out _ hbd) ?_;go_frame
    refine AnyT.tD (i:=4) (v:=.int .i64 x) rfl rfl (by rintro w' ⟨q1,q2,q3,q4⟩;go_simp) (HS.out _ hbd) ?_;go_frame
    refine AnyT.tD (i:=5) (v:=.slice (some ⟨b2,off2,none⟩) n cap2) rfl rfl (by rintro w' ⟨q1,q2,q3,q4⟩;go_simp) (HS.out _ hbd) ?_;go_frame
    refine AnyT.tD (i:=6) (v:=.int .i64 j) rfl rfl (by rintro w' ⟨q1,q2,q3,q4⟩;go_simp) (HS.out _ hbd) ?_;go_frame
    refine AnyT.tD (i:=7) (v:=.pointer (some ⟨b2,off2+j,none⟩)) rfl rfl (by rintro w' ⟨q1,q2,q3,q4⟩;go_simp) (HS.out _ hbd) ?_;go_frame
    refine AnyT.tD (i:=8) (v:=.int .i64 pj) rfl rfl (by rintro w' ⟨q1,q2,q3,q4⟩;go_simp) (HS.out _ hbd) ?_;go_frame
    refine AnyT.tD (i:=9) (v:=.int .i64 m1) rfl rfl (by rintro w' ⟨q1,q2,q3,q4⟩;go_simp) (HS.out _ hbd) ?_;go_frame
    refine AnyT.tD (i:=10) (v:=.slice (some ⟨b2,off2,none⟩) n cap2) rfl rfl (by rintro w' ⟨q1,q2,q3,q4⟩;go_simp) (HS.out _ hbd) ?_;go_frame
    refine AnyT.tD (i:=11) (v:=.int .i64 k) rfl rfl (by rintro w' ⟨q1,q2,q3,q4⟩;go_simp) (HS.out _ hbd) ?_;go_frame
    refine AnyT.tD (i:=12) (v:=.pointer (some ⟨b2,off2+k,none⟩)) rfl rfl (by rintro w' ⟨q1,q2,q3,q4⟩;go_simp) (HS.out _ hbd) ?_;go_frame
    refine AnyT.tD (i:=13) (v:=.int .i64 y) rfl rfl (by rintro w' ⟨q1,q2,q3,q4⟩;go_simp) (HS.out _ hbd) ?_;go_frame
    refine AnyT.tD (i:=14) (v:=.slice (some ⟨b,off,none⟩) n cap) rfl rfl (by rintro w' ⟨q1,q2,q3,q4⟩;go_simp) (HS.out _ hbd) ?_;go_frame
    refine AnyT.tD (i:=15) (v:=.int .i64 j) rfl rfl (by rintro w' ⟨q1,q2,q3,q4⟩;go_simp) (HS.out _ hbd) ?_;go_frame
    refine AnyT.tD (i:=16) (v:=.pointer (some ⟨b,off+j,none⟩)) rfl rfl (by rintro w' ⟨q1,q2,q3,q4⟩;go_simp) (HS.out _ hbd) ?_;go_frame
    refine AnyT.tD (i:=17) (v:=.int .i64 rj) rfl rfl (by rintro w' ⟨q1,q2,q3,q4⟩;go_simp) (HS.out _ hbd) ?_;go_frame
    refine AnyT.tD (i:=18) (v:=.int .i64 m2) rfl rfl (by rintro w' ⟨q1,q2,q3,q4⟩;go_simp) (HS.out _ hbd) ?_;go_frame
    refine AnyT.tD (i:=19) (v:=.int .i64 z) rfl rfl (by rintro w' ⟨q1,q2,q3,q4⟩;go_simp) (HS.out _ hbd) ?_;go_frame
    refine AnyT.nx (i:=20) rfl ?_
    go_wp2
    have hbA:=hbd.alloc hbd.size (.cells #[.int .i64 z] 3)
    refine⟨fun _=>HS.out _ hbA,?_⟩
    refine AnyT.nx (i:=21) rfl ?_
    (refine zAN _ rfl (.tmp 14) (.tmp 34) 24 rfl w.heap.size 3 (.int .i64 0) 1 8 Tryz.underlying24 zDN rfl yBH (.slice va k vc) k _ rfl (HO2.out.alloc _) (some ⟨wd.heap.size,0,none⟩) 1 1 [.int .i64 z] rfl rfl zBS (zBC wd _ _) (zEL _) M1.out M2.out (yAF HB3.out.size (zCL _ _)) ?_)
    intro a3 c3 w3 own3 g3
    have hb3:=hbA.grown g3 hbA.size (fun q hq=>(HO2.out.lt q hq).1)
    refine⟨fun _=>HS.out _ hb3,?_⟩
    refine AnyT.tD (i:=22) (v:=.slice a3 (k+1) c3) rfl rfl (by rintro w' ⟨q1,q2,q3,q4⟩;go_simp) (HS.out _ hb3) ?_;go_frame
    exact⟨by kernel_rfl,rfl,.slice va k vc,.slice (some ⟨b,off,none⟩) n cap,.int .i64 k,.pointer (some ⟨b,off+k,none⟩),.int .i64 x,.slice (some ⟨b2,off2,none⟩) n cap2,.int .i64 j,.pointer (some ⟨b2,off2+j,none⟩),.int .i64 pj,.int .i64 m1,.slice (some ⟨b2,off2,none⟩) n cap2,.int .i64 k,.pointer (some ⟨b2,off2+k,none⟩),.int .i64 y,.slice (some ⟨b,off,none⟩) n cap,.int .i64 j,.pointer (some ⟨b,off+j,none⟩),.int .i64 rj,.int .i64 m2,.int .i64 z,.slice (some ⟨wd.heap.size,0,none⟩) 1 1,.slice a3 (k+1) c3,(by first|rfl|go_frame),⟨a3,c3,rfl⟩,by rw[HSN.out];exact own3,hb3⟩
   ·rintro a5 w5 ⟨v14,v15,v16,v17,v18,v19,v20,v21,v22,v23,v24,v25,v26,v27,v28,v29,v30,v31,v32,v33,v34,v35,rfl,⟨a3,c3,rfl⟩,ho5,hb5⟩
    go_frame
    go_wp2
    exact⟨⟨k+1,by omega,by go_num,ho5,hb5⟩,by simp[intOf];omega⟩
  ·obtain rfl:k=n:=by omega
   have hmb:BndL 4611686018427387904 (zJN p j r k):=by
    intro x hx
    unfold zJN at hx
    obtain⟨c,hc,rfl⟩:=yBJ.1 hx
    have hck:=yCH.1 hc
    have d1:=HB.out.get (show c<r.length by rw[HN.out];exact hck)
    have d2:=HB.out.get (show j<r.length by rw[HN.out];exact hj)
    have d3:=HB2.out.get (show c<p.length by rw[HN2.out];exact hck)
    have d4:=HB2.out.get (show j<p.length by rw[HN2.out];exact hj)
    have e1:=zGP (show-(1073741824:Int)<=r[c]?.getD 0∧r[c]?.getD 0<=1073741824 by omega) (show-(1073741824:Int)<=p[j]?.getD 0∧p[j]?.getD 0<=1073741824 by omega)
    have e2:=zGP (show-(1073741824:Int)<=p[c]?.getD 0∧p[c]?.getD 0<=1073741824 by omega) (show-(1073741824:Int)<=r[j]?.getD 0∧r[j]?.getD 0<=1073741824 by omega)
    show-((4611686018427387904:Nat):Int)<=r[c]?.getD 0*p[j]?.getD 0-p[c]?.getD 0*r[j]?.getD 0∧r[c]?.getD 0*p[j]?.getD 0-p[c]?.getD 0*r[j]?.getD 0<=((4611686018427387904:Nat):Int)
    omega
   obtain⟨va,vc,rfl,hi,_⟩:=zCK hown (mixTo_len p j r k)
   have HP:=hid (zGM wr va k vc (zJN p j r k) (mixTo_len p j r k) hm hi hmb)
   have HBT:=hid hbt
   clear hown hi hmb hbt
   go_wp2_with (go_at_call 226;refine HP.out.mono ?_;rintro e w4 ⟨v4,rfl,ho4,hb4⟩;refine Stop.of ?_)
   refine Stop.go ?_
   have HO4:=hid ho4
   have hb:=zAA HBT.out hb4
   clear ho4 hb4
   go_wp2
   go_ret
   exact⟨v4,wr.heap.size,rfl,HBT.out.size,HO4.out,hb⟩
end
section
open Go.RowKit
def HeadV(W:World)(xs:List Value)(L:List (List Int)):Prop:=
 xs.length=L.length∧∀j (hj:j<L.length),∃ra rn rc,xs[j]? =some (.slice ra rn rc)∧L[j].length=rn∧rn<=maxLen∧zAH W ra L[j]
theorem rows_of_own{W:World}{base n c:Nat}{T:TypeId}{a:Option Addr}{xs:List Value}{L:List (List Int)}(h:W.ownsRow base T 1 (.slice a n c) n xs)(hv:HeadV W xs L)(hl:L.length=n):zAM W a L:=by
 intro j hj
 rcases h.2 with⟨_,h0⟩|⟨g,cap,cur,e,hg,hh,rest⟩
 ·omega
 ·cases e
  have hlt:=(yAB.1 hh).1
  have hc:W.cell? ⟨g,j,none⟩=xs[j]? :=World.ownsRow.cellAt (w:=W) (base:=base) (e:=T) (size:=1) (g:=g) (n:=n) (cap:=c) (xs:=xs) h j (by omega)
  obtain⟨ra,rn,rc,h1,h2,h3,h4⟩:=hv.2 j hj
  exact⟨g,0,ra,rn,rc,rfl,hlt,by rw[yAW,hc];exact h1,h2,h3,h4⟩
end
section
section
open Go.RowKit
def RowS(W:World)(v:Value)(l:List Int):Prop:=
 (∃g c,v=.slice (some ⟨g,0,none⟩) l.length c∧zBD W g l)∨(l=[]∧∃a c,v=.slice a 0 c)
theorem RowS.sl{W:World}{v:Value}{l:List Int}(h:RowS W v l)(hm:l.length<=maxLen):SlV W v l:=by
 rcases h with⟨g,c,rfl,hs⟩|⟨rfl,a,c,rfl⟩
 ·exact⟨_,_,_,rfl,rfl,hm,hs.ints⟩
 ·exact⟨_,_,_,rfl,rfl,yAK _,fun j hj=>by simp at hj⟩
theorem RowS.below{W W':World}{v:Value}{l:List Int}(h:RowS W v l)(hb:Below W.heap.size W W'):RowS W' v l:=by
 rcases h with⟨g,c,rfl,hs⟩|h
 ·exact .inl ⟨g,c,rfl,hs.keep (hb.block g hs.lt)⟩
 ·exact .inr h
def TabS(W:World)(base:Nat)(v:Value)(L:List (List Int)):Prop:=
 ∃vs,W.ownsRow base 24 1 v L.length vs∧∀j (hj:j<L.length),∃u,vs[j]? =some u∧RowS W u L[j]
theorem TabS.nil(W:World)(base:Nat):TabS W base (.slice none 0 0) []:=⟨[],World.ownsRow_nil _ _ _ _,fun j hj=>by simp at hj⟩
theorem TabS.below{W W':World}{base:Nat}{v:Value}{L:List (List Int)}(h:TabS W base v L)(hb:Below W.heap.size W W'):TabS W' base v L:=by
 obtain⟨vs,h1,h2⟩:=h
 refine⟨vs,zBJ h1 hb,fun j hj=>?_⟩
 obtain⟨u,hu,hr⟩:=h2 j hj
 exact⟨u,hu,hr.below hb⟩
theorem TabS.rows{W:World}{base n c:Nat}{a:Option Addr}{L:List (List Int)}(h:TabS W base (.slice a n c) L)(hl:L.length=n)(hm:∀r∈L,r.length<=maxLen):zAM W a L:=by
 obtain⟨vs,h1,h2⟩:=h
 rw[hl]at h1
 refine rows_of_own (xs:=vs) h1 ⟨by have:=h1.1;omega,fun j hj=>?_⟩ hl
 obtain⟨u,hu,hr⟩:=h2 j hj
 obtain⟨ra,rn,rc,rfl,e1,e2,e3⟩:=hr.sl (hm _ (yAH hj))
 exact⟨ra,rn,rc,hu,e1,e2,e3⟩
theorem TabS.snoc{W w1 w3:World}{base:Nat}{v v' u:Value}{L:List (List Int)}{r:List Int}{vs:List Value}(h1:W.ownsRow base 24 1 v L.length vs)
 (h2:∀j (hj:j<L.length),∃u,vs[j]? =some u∧RowS W u L[j])(hb:Below W.heap.size W w1)(hr:RowS w1 u r)(hg:w1.grownBy w3 v.ownBlock)
 (ho':w3.ownsRow base 24 1 v' (L.length+1) (vs++[u])):TabS w3 base v' (L++[r]):=by
 have hlen:vs.length=L.length:=by have:=h1.1;omega
 have hown:∀b,v.ownBlock=some b->∃c f,w1.heap[b]? =some (.cells c 24 f):=by
  intro b hb'
  rcases h1.2 with⟨rfl,_⟩|⟨g,cap,cur,rfl,hbg,hgg,_⟩
  ·simp[Value.ownBlock]at hb'
  ·obtain rfl:g=b:=by simpa[Value.ownBlock]using hb'
   exact⟨cur,_,(hb.block g (yAB.1 hgg).1).trans hgg⟩
 have hold:∀b l,zBD w1 b l->zBD w3 b l:=by
  intro b l hs
  refine hs.keep (hg.block b hs.lt ?_)
  intro e
  obtain⟨c,f,hc⟩:=hown b e.symm
  obtain⟨sp,hs⟩:=hs
  rw[hs]at hc
  simp at hc
 have hup:∀u l,RowS w1 u l->RowS w3 u l:=by
  rintro u l (⟨g,c,rfl,hs⟩|h)
  ·exact .inl ⟨g,c,rfl,hold _ _ hs⟩
  ·exact .inr h
 refine⟨vs++[u],by simpa using ho',fun j hj=>?_⟩
 simp only[yAN,yBB,yCD,yAW]at hj
 by_cases hjl:j<L.length
 ·obtain⟨u',hu',hr'⟩:=h2 j hjl
  rw[yBO hjl]
  exact⟨u',by rw[yAO (by omega)];exact hu',hup _ _ (hr'.below hb)⟩
 ·obtain rfl:j=L.length:=by omega
  rw[yBL (yAC _)]
  simp only[yCF,yBG]
  exact⟨u,by rw[yAQ (by omega),hlen];simp,hup _ _ hr⟩
theorem TabS.at{W:World}{base n:Nat}{v:Value}{L:List (List Int)}(h:TabS W base v L)(hl:L.length=n){i:Nat}(hi:i<n):
 ∃g0 cap u,v=.slice (some ⟨g0,0,none⟩) n cap∧base<=g0∧g0<W.heap.size∧W.cell? ⟨g0,i,none⟩=some u∧RowS W u (L[i]?.getD [])∧W.frozen? ⟨g0,i,none⟩=false∧
  ∀u' r,RowS W u' r->TabS (W.setCell ⟨g0,i,none⟩ u') base v (L.set i r)∧∀k,k≠g0->(W.setCell ⟨g0,i,none⟩ u').heap[k]? =W.heap[k]? :=by
 subst hl
 obtain⟨vs,h1,h2⟩:=h
 obtain⟨u,hu,hr⟩:=h2 i hi
 rcases h1.2 with⟨rfl,h0⟩|⟨g0,cap,cur,rfl,hbg,hgg,hnc,hcm,hsz,htk⟩
 ·omega
 have hcell:=World.ownsRow.cellAt (w:=W) (base:=base) (e:=24) (size:=1) (g:=g0) (n:=L.length) (cap:=cap) (xs:=vs) h1 i (by omega)
 have hvl:vs.length=L.length:=by have:=h1.1;omega
 refine⟨g0,cap,u,rfl,hbg,(yAB.1 hgg).1,by rw[hcell];exact hu,by rw[yAA hi];exact hr,by simp[World.frozen?,hgg],?_⟩
 intro u' r hr'
 have hkeep:∀k,k≠g0->(W.setCell ⟨g0,i,none⟩ u').heap[k]? =W.heap[k]? :=fun k hk=>Below.heap_setCell _ _ _ _ hk
 have hup:∀u l,RowS W u l->RowS (W.setCell ⟨g0,i,none⟩ u') u l:=by
  rintro u l (⟨g,c,rfl,hs⟩|h)
  ·refine .inl ⟨g,c,rfl,hs.keep (hkeep g ?_)⟩
   rintro rfl
   obtain⟨sp,hs⟩:=hs
   rw[hgg]at hs
   cases hs
  ·exact .inr h
 have hb2:(W.setCell ⟨g0,i,none⟩ u').heap[g0]? =some (.cells (cur.setIfInBounds i u') 24 (0,0)):=zAT hgg i u'
 refine⟨⟨vs.set i u',⟨by simpa using h1.1,.inr ⟨g0,cap,cur.setIfInBounds i u',by simp,hbg,hb2,by simpa using hnc,hcm,by simpa using hsz,?_⟩⟩,fun j hj=>?_⟩,hkeep⟩
 ·rw[<- htk]
  simp only[yEA,yFE,Nat.mul_one]
  rw[List.take_set]
 ·have hj':j<L.length:=by simpa using hj
  by_cases e:i=j
  ·subst e
   exact⟨u',by simp[hvl,hj'],by simpa using hup _ _ hr'⟩
  ·obtain⟨u2,hu2,hr2⟩:=h2 j hj'
   exact⟨u2,by rw[yCI e];exact hu2,by rw[yDP e];exact hup _ _ hr2⟩
end
section
open Go.RowKit
theorem zHW{W:World}{b0:Nat}{v:Value}{l:List Int}{n:Nat}(h:W.ownsRow b0 3 1 v n (l.map (Value.int .i64)))(hn:l.length=n):RowS W v l:=by
 rcases yBR n with h0|h0
 ·obtain⟨a,c,rfl⟩:=zAC h
  subst h0
  exact .inr ⟨yBT.1 hn,a,c,rfl⟩
 ·obtain⟨g,cap,rfl,_,hs⟩:=zJC h hn h0
  exact .inl ⟨g,cap,by rw[hn],hs⟩
theorem RowS.slice{W:World}{v:Value}{l:List Int}(h:RowS W v l):∃a c,v=.slice a l.length c:=by
 rcases h with⟨g,c,rfl,_⟩|⟨rfl,a,c,rfl⟩
 ·exact⟨_,_,rfl⟩
 ·exact⟨_,_,rfl⟩
theorem zQD{M:List (List Int)}{S:List Int}{k:Nat}(hk:k<M.length):(zAO M S).take (k+1)=(zAO M S).take k++[S.map (fun j=>vec M[k] j.toNat)]:=by
 have hc:k<(zAO M S).length:=by rw[zBA];exact hk
 rw[yAI hc]
 congr 2
 simp[zAO]
theorem r3columns_c(w:World)(a:Option Addr)(n cap:Nat)(M:List (List Int))(hn:M.length=n)(hn6:n<=1000)(H:zAM w a M)(a2:Option Addr)(k2 cap2:Nat)(S:List Int)(hk2:S.length=k2)(hk21:k2<=1000)(H2:zAH w a2 S)
 (hS:∀r∈M,∀j∈S,0<=j∧j<r.length):
 Calls Tryz.prog 184 #[.slice a n cap,.slice a2 k2 cap2] w fun e w'=>∃v,e=.returned v∧TabS w' w.heap.size v (zAO M S)∧Below w.heap.size w w':=by
 have HN:=hid hn
 have HH:=hid H
 have HK2:=hid hk2
 have HH2:=hid H2
 have HS:=hid hS
 have HCT:=hid (fun(k:Nat) (hk:k<M.length)=>zQD (M:=M) (S:=S) hk)
 have HCL:=hid (zBA M S)
 obtain⟨C,hC⟩:=exq (zAO M S)
 rw[<- hC]at HCT HCL⊢
 clear hn H hk2 H2 hS hC
 go_enter Tryz.func184,Tryz.ntmps184
 go_wp2
 go_loopw [5,13] (fun v i wr=>∃k:Nat,k<=n∧i=.int .i64 k∧TabS wr w.heap.size v (C.take k)∧Below w.heap.size w wr) (fun _ i _=>n-(intOf i).toNat)
 case atStart=>exact⟨0,yAK _,rfl,TabS.nil _ _,Below.refl _ _⟩
 case round=>
  obtain⟨k,hk,rfl,ho,hbk⟩:=hrel
  obtain⟨wo,hwo⟩:=exq (wr)
  subst hwo
  by_cases hlt:k<n
  ·have hkM:k<M.length:=by rw[HN.out];exact hlt
   obtain⟨b,off,ra,rn,rc,rfl,hbs,hq0,hrn,hrm,hri⟩:=(HH.out.below hbk) k hkM
   have htk:=HCT.out k hkM
   have hsr:=HS.out M[k] (yAH hkM)
   obtain⟨r,hr⟩:=exq (M[k])
   rw[<- hr]at htk hsr hrn hri
   have hlen:(C.take k).length=k:=by rw[yAU,HCL.out];omega
   have HL:=hid hlen
   have HTK:=hid htk
   have HSR:=hid hsr
   have HRN:=hid hrn
   have HRI:=hid hri
   have HO:=hid ho
   have HBK:=hid hbk
   obtain⟨va,vc,hv⟩:∃va vc,u5=.slice va k vc:=by
    obtain⟨_,ho1,_⟩:=ho
    obtain⟨a',c',e⟩:=zAC ho1
    exact⟨a',c',by rw[e,hlen]⟩
   subst hv
   have M0:=World.ownsRow_made (base:=wo.heap.size) (e:=3) (size:=1) wo #[] 0 (yAC _) (yAK _) rfl
   have HM0:=hid M0
   clear hr htk hsr hrn hri hkM ho hlen M0
   go_wp2
   go_loopw [8,20] (fun v i wr=>∃t:Nat,t<=k2∧i=.int .i64 t∧wr.ownsRow wo.heap.size 3 1 v t (((S.take t).map (fun j=>vec r j.toNat)).map (Value.int .i64))∧Below wo.heap.size wo wr) (fun _ i _=>k2-(intOf i).toNat)
   case atStart=>exact⟨0,yAK _,rfl,HM0.out,(Below.refl _ _).alloc (yAC _) _⟩
   case round=>
    obtain⟨t,ht,rfl,hown,hbt⟩:=hrel
    by_cases hlt2:t<k2
    ·have htS:t<S.length:=by rw[HK2.out];exact hlt2
     obtain⟨b2,off2,rfl,hbs2,hc2⟩:=(HH2.out.below (zAA HBK.out hbt)) t htS
     have hpp:=HSR.out S[t] (yAH htS)
     have hg2:S[t]?.getD 0=S[t]:=by rw[yAA htS];rfl
     rw[hg2]at hc2
     have htk2:(S.take (t+1)).map (fun j=>vec r j.toNat)=(S.take t).map (fun j=>vec r j.toNat)++[vec r (S[t]).toNat]:=by
      rw[yAI htS,yBF];rfl
     obtain⟨q,hq⟩:∃q:Nat,S[t]=q:=⟨(S[t]).toNat,by omega⟩
     rw[hq]at hc2 hpp htk2
     rw[show((q:Int)).toNat=q by omega]at htk2
     have hqr:q<r.length:=by omega
     obtain⟨b3,off3,rfl,hbs3,hc3⟩:=(HRI.out.below hbt) q hqr
     have hqn:(q:Int)<(rn:Int):=by have:=HRN.out;omega
     have hq0':(0:Int)<=(q:Int):=by omega
     obtain⟨x,hx⟩:=exq (r[q]?.getD 0)
     have hxv:vec r q=x:=hx.symm
     rw[<- hx]at hc3
     rw[hxv]at htk2
     obtain⟨la,lc,rfl⟩:=zAC hown
     have HTK2:=hid htk2
     have HOW:=hid hown
     have M1:=hid (show t+1<=maxLen by unfold maxLen;omega)
     have M2:=hid (show(t+1)*8<=140737488355328 by omega)
     have M3:=hid (yAF hbt.size (zCL wr (.cells #[.int .i64 x] 3)))
     clear hpp hg2 htk2 hq hx hxv hown htS hqr
     go_wp2_with (at_builtin;refine zAN _ rfl (.tmp 24) (.tmp 29) 24 rfl wo.heap.size 3 (.int .i64 0) 1 8 Tryz.underlying24 zDN rfl yBH (.slice la t lc) t _ rfl (HOW.out.alloc _) (some ⟨wr.heap.size,0,none⟩) 1 1 [.int .i64 x] rfl rfl zBS (zBC wr _ _) (zEL _) M1.out M2.out M3.out ?_;refine Stop.of ?_)
     refine Stop.go ?_
     intro a3 c3 w3 own3 g3
     have hB3:Below wo.heap.size wo w3:=(hbt.alloc hbt.size _).grown g3 M3.out (fun k hk=>(HOW.out.lt k hk).1)
     go_wp2
     refine⟨⟨t+1,by omega,by go_num,?_,hB3⟩,by simp[intOf];omega⟩
     rw[HTK2.out]
     simpa using own3
    ·obtain rfl:t=k2:=by omega
     rw[yAL (by rw[HK2.out];exact yAC _)]at hown
     obtain⟨X,hX⟩:=exq (S.map (fun j=>vec r j.toNat))
     rw[<- hX]at hown HTK
     have hXl:X.length=t:=by rw[hX,yAS,HK2.out]
     obtain⟨la,lc,rfl⟩:=zAC hown
     have hrs:=zHW hown hXl
     obtain⟨vs,ho1,ho2⟩:=HO.out
     have ho1':=ho1
     rw[HL.out]at ho1'
     have hb2a:Below wo.heap.size wo (wr.alloc (.cells #[.slice la t lc] 24)):=hbt.alloc hbt.size _
     have M1:=hid (show k+1<=maxLen by unfold maxLen;omega)
     have M2:=hid (show(k+1)*24<=140737488355328 by omega)
     have M3:=hid (yAF HBK.out.size hb2a.size)
     have HO2':=hid (zBJ ho1' hb2a)
     have HO1:=hid ho1
     have HO2:=hid ho2
     have HRS:=hid (hrs.below ((Below.refl _ wr).alloc (yAC _) (.cells #[.slice la t lc] 24)))
     have HB2':=hid hb2a
     clear hX hXl hown hrs ho1 ho1' ho2 hb2a hbt
     go_wp2_with (at_builtin;refine zAN _ rfl (.tmp 32) (.tmp 34) 22 rfl w.heap.size 24 (.slice none 0 0) 1 24 Tryz.underlying22 zEP rfl yBH (.slice va k vc) k vs rfl HO2'.out (some ⟨wr.heap.size,0,none⟩) 1 1 [.slice la t lc] rfl rfl zBS (zBC wr _ _) (zBL _ _ _) M1.out M2.out M3.out ?_;refine Stop.of ?_)
     refine Stop.go ?_
     intro a5 c5 w5 own5 g5
     have hsn:TabS w5 w.heap.size (.slice a5 (k+1) c5) (C.take k++[X]):=TabS.snoc HO1.out HO2.out HB2'.out HRS.out g5 (by rw[HL.out];exact own5)
     have hB5:Below w.heap.size w w5:=(HBK.out.trans (HB2'.out.mono HBK.out.size)).grown g5 M3.out (fun q hq=>(HO2'.out.lt q hq).1)
     rw[<- HTK.out]at hsn
     go_wp2
     exact⟨⟨k+1,by omega,by go_num,hsn,hB5⟩,by simp[intOf];omega⟩
  ·obtain rfl:k=n:=by omega
   rw[yAL (by rw[HCL.out,HN.out];exact yAC _)]at ho
   go_wp2
   go_ret
   exact⟨_,rfl,ho,hbk⟩
end
section
open Go.RowKit
def RowN(N:Option Nat)(W:World)(v:Value)(l:List Int):Prop:=
 (∃g c,v=.slice (some ⟨g,0,none⟩) l.length c∧zBD W g l∧N≠some g)∨(l=[]∧∃a c,v=.slice a 0 c)
theorem RowN.row{N:Option Nat}{W:World}{v:Value}{l:List Int}(h:RowN N W v l):RowS W v l:=by
 rcases h with⟨g,c,e,hs,_⟩|h
 ·exact .inl ⟨g,c,e,hs⟩
 ·exact .inr h
theorem zMB{N:Option Nat}{W:World}{b0:Nat}{v:Value}{l:List Int}{n:Nat}(h:W.ownsRow b0 3 1 v n (l.map (Value.int .i64)))(hn:l.length=n)(hN:∀k,N=some k->k<b0):RowN N W v l:=by
 rcases yBR n with h0|h0
 ·obtain⟨a,c,rfl⟩:=zAC h
  subst h0
  exact .inr ⟨yBT.1 hn,a,c,rfl⟩
 ·obtain⟨g,cap,rfl,hg,hs⟩:=zJC h hn h0
  exact .inl ⟨g,cap,by rw[hn],hs,fun e=>by have:=hN g e;omega⟩
def zOR(N:Option Nat)(W W':World):Prop:=∀k c,W.heap[k]? =some (.cells c 3 (0,0))->N≠some k->W'.heap[k]? =W.heap[k]?
theorem RowN.keep{N:Option Nat}{W W':World}{v:Value}{l:List Int}(h:RowN N W v l)(hk:zOR N W W'):RowN N W' v l:=by
 rcases h with⟨g,c,e,hs,hne⟩|h
 ·refine .inl ⟨g,c,e,?_,hne⟩
  obtain⟨sp,hs'⟩:=id hs
  exact hs.keep (hk g _ hs' hne)
 ·exact .inr h
theorem zOR.below{N:Option Nat}{W W':World}(hb:Below W.heap.size W W'):zOR N W W':=fun k c h _=>hb.block k (yAB.1 h).1
def TabN(N:Option Nat)(W:World)(base:Nat)(v:Value)(L:List (List Int)):Prop:=
 ∃vs,W.ownsRow base 24 1 v L.length vs∧∀j (hj:j<L.length),∃u,vs[j]? =some u∧RowN N W u L[j]
theorem TabN.tab{N:Option Nat}{W:World}{base:Nat}{v:Value}{L:List (List Int)}(h:TabN N W base v L):TabS W base v L:=by
 obtain⟨vs,h1,h2⟩:=h
 refine⟨vs,h1,fun j hj=>?_⟩
 obtain⟨u,hu,hr⟩:=h2 j hj
 exact⟨u,hu,hr.row⟩
theorem TabN.nil(N:Option Nat)(W:World)(base:Nat):TabN N W base (.slice none 0 0) []:=⟨[],World.ownsRow_nil _ _ _ _,fun j hj=>by simp at hj⟩
theorem zJK{W W':World}{base size n:Nat}{T:TypeId}{v:Value}{xs:List Value}(h:W.ownsRow base T size v n xs)(hk:∀k,v.ownBlock=some k->k<W.heap.size->W'.heap[k]? =W.heap[k]?):W'.ownsRow base T size v n xs:=by
 refine⟨h.1,?_⟩
 rcases h.2 with hn|⟨g,cap,cur,rfl,hbg,hgg,rest⟩
 ·exact .inl hn
 ·exact .inr ⟨g,cap,cur,rfl,hbg,(hk g rfl (yAB.1 hgg).1).trans hgg,rest⟩
theorem own_low{W:World}{base b0 size n:Nat}{T:TypeId}{v:Value}{xs:List Value}(h:W.ownsRow base T size v n xs)(hb:b0<=base):W.ownsRow b0 T size v n xs:=by
 refine⟨h.1,?_⟩
 rcases h.2 with hn|⟨g,cap,cur,rfl,hbg,rest⟩
 ·exact .inl hn
 ·exact .inr ⟨g,cap,cur,rfl,yAF hb hbg,rest⟩
theorem zCE{W:World}{base size n k:Nat}{T:TypeId}{v:Value}{xs:List Value}(h:W.ownsRow base T size v n xs)(hk:v.ownBlock=some k):base<=k∧∃c,W.heap[k]? =some (.cells c T (0,0)):=by
 rcases h.2 with⟨rfl,_⟩|⟨g,cap,cur,rfl,hbg,hgg,_⟩
 ·simp[Value.ownBlock]at hk
 ·obtain rfl:g=k:=by simpa[Value.ownBlock]using hk
  exact⟨hbg,cur,hgg⟩
theorem TabN.type{N:Option Nat}{W:World}{base k:Nat}{v:Value}{L:List (List Int)}(h:TabN N W base v L)(hk:v.ownBlock=some k):base<=k∧k<W.heap.size∧∃c,W.heap[k]? =some (.cells c 24 (0,0)):=by
 obtain⟨vs,h1,_⟩:=h
 obtain⟨h2,c,h3⟩:=zCE h1 hk
 exact⟨h2,(yAB.1 h3).1,c,h3⟩
theorem TabN.low{N:Option Nat}{W:World}{base b0:Nat}{v:Value}{L:List (List Int)}(h:TabN N W base v L)(hb:b0<=base):TabN N W b0 v L:=by
 obtain⟨vs,h1,h2⟩:=h
 exact⟨vs,own_low h1 hb,h2⟩
theorem TabN.keep{N:Option Nat}{W W':World}{base:Nat}{v:Value}{L:List (List Int)}(h:TabN N W base v L)(hk:zOR N W W')(ho:∀k,v.ownBlock=some k->k<W.heap.size->W'.heap[k]? =W.heap[k]?):TabN N W' base v L:=by
 obtain⟨vs,h1,h2⟩:=h
 refine⟨vs,zJK h1 ho,fun j hj=>?_⟩
 obtain⟨u,hu,hr⟩:=h2 j hj
 exact⟨u,hu,hr.keep hk⟩
theorem TabN.below{N:Option Nat}{W W':World}{base:Nat}{v:Value}{L:List (List Int)}(h:TabN N W base v L)(hb:Below W.heap.size W W'):TabN N W' base v L:=
 h.keep (zOR.below hb) fun k _ hk=>hb.block k hk
theorem TabN.piv{W W':World}{base b2 n:Nat}{v p p':Value}{xs:List Value}{L:List (List Int)}(h:TabN p.ownBlock W base v L)(hg:W.grownBy W' p.ownBlock)(hat:p'.ownBlock=p.ownBlock∨p'.ownBlock=some W.heap.size)
 (hP:W.ownsRow b2 3 1 p n xs):TabN p'.ownBlock W' base v L:=by
 have h1:TabN p.ownBlock W' base v L:=by
  refine h.keep (fun k c hk hne=>hg.block k (yAB.1 hk).1 (fun e=>hne e.symm)) fun k hk hlt=>hg.block k hlt fun e=>?_
  obtain⟨_,_,c,hc⟩:=h.type hk
  obtain⟨_,c2,hc2⟩:=zCE hP e.symm
  rw[hc]at hc2
  cases hc2
 have hlt:∀u l,RowN p.ownBlock W u l->RowN p'.ownBlock W' u l:=by
  intro u l hr
  rcases hr with⟨g,c,e,hs,hne⟩|hr
  ·refine .inl ⟨g,c,e,?_,?_⟩
   ·obtain⟨sp,hs'⟩:=id hs
    exact hs.keep (hg.block g hs.lt (fun e=>hne e.symm))
   ·rcases hat with hat|hat
    ·rw[hat];exact hne
    ·rw[hat];intro e
     have h1:W.heap.size=g:=by simpa using e
     have:=hs.lt
     omega
  ·exact .inr hr
 obtain⟨vs,h2,h3⟩:=h
 obtain⟨vs',h4,_⟩:=h1
 refine⟨vs,zJK h2 fun k hk hlt'=>hg.block k hlt' fun e=>?_,fun j hj=>?_⟩
 ·obtain⟨_,c,hc⟩:=zCE h2 hk
  obtain⟨_,c2,hc2⟩:=zCE hP e.symm
  rw[hc]at hc2
  cases hc2
 ·obtain⟨u,hu,hr⟩:=h3 j hj
  exact⟨u,hu,hlt _ _ hr⟩
theorem TabN.beside{N:Option Nat}{W W':World}{base:Nat}{v:Value}{L:List (List Int)}(h:TabN N W base v L){g0:Option Nat}(hk:∀k,k<W.heap.size->g0≠some k->W'.heap[k]? =W.heap[k]?)
 (hg:∀k,g0=some k->∃c,W.heap[k]? =some (.cells c 24 (0,0)))(hne:∀k,g0=some k->v.ownBlock≠some k):TabN N W' base v L:=by
 refine h.keep (fun k c hc hn=>hk k (yAB.1 hc).1 fun e=>?_) fun k hv hlt=>hk k hlt fun e=>hne k e hv
 obtain⟨c2,h2⟩:=hg k e
 rw[h2]at hc
 cases hc
theorem TabN.snoc{N:Option Nat}{w1 w3:World}{base:Nat}{v v' u:Value}{L:List (List Int)}{r:List Int}{vs:List Value}(h1:w1.ownsRow base 24 1 v L.length vs)
 (h2:∀j (hj:j<L.length),∃u,vs[j]? =some u∧RowN N w1 u L[j])(hr:RowN N w1 u r)(hg:w1.grownBy w3 v.ownBlock)
 (ho':w3.ownsRow base 24 1 v' (L.length+1) (vs++[u])):TabN N w3 base v' (L++[r]):=by
 have hlen:vs.length=L.length:=by have:=h1.1;omega
 have hK:zOR N w1 w3:=fun k c hc hn=>hg.block k (yAB.1 hc).1 fun e=>by
  obtain⟨_,c2,h2⟩:=zCE h1 e.symm
  rw[h2]at hc
  cases hc
 refine⟨vs++[u],by simpa using ho',fun j hj=>?_⟩
 simp only[yAN,yBB,yCD,yAW]at hj
 by_cases hjl:j<L.length
 ·obtain⟨u',hu',hr'⟩:=h2 j hjl
  rw[yBO hjl]
  exact⟨u',by rw[yAO (by omega)];exact hu',hr'.keep hK⟩
 ·obtain rfl:j=L.length:=by omega
  rw[yBL (yAC _)]
  simp only[yCF,yBG]
  exact⟨u,by rw[yAQ (by omega),hlen];simp,hr.keep hK⟩
theorem TabN.at{N:Option Nat}{W:World}{base n:Nat}{v:Value}{L:List (List Int)}(h:TabN N W base v L)(hl:L.length=n){i:Nat}(hi:i<n):
 ∃g0 cap u,v=.slice (some ⟨g0,0,none⟩) n cap∧base<=g0∧g0<W.heap.size∧(∃c,W.heap[g0]? =some (.cells c 24 (0,0)))∧W.cell? ⟨g0,i,none⟩=some u∧RowN N W u (L[i]?.getD [])∧W.frozen? ⟨g0,i,none⟩=false∧
  ∀u' r,RowN N W u' r->TabN N (W.setCell ⟨g0,i,none⟩ u') base v (L.set i r)∧∀k,k≠g0->(W.setCell ⟨g0,i,none⟩ u').heap[k]? =W.heap[k]? :=by
 subst hl
 obtain⟨vs,h1,h2⟩:=h
 obtain⟨u,hu,hr⟩:=h2 i hi
 rcases h1.2 with⟨rfl,h0⟩|⟨g0,cap,cur,rfl,hbg,hgg,hnc,hcm,hsz,htk⟩
 ·omega
 have hcell:=World.ownsRow.cellAt (w:=W) (base:=base) (e:=24) (size:=1) (g:=g0) (n:=L.length) (cap:=cap) (xs:=vs) h1 i (by omega)
 have hvl:vs.length=L.length:=by have:=h1.1;omega
 refine⟨g0,cap,u,rfl,hbg,(yAB.1 hgg).1,⟨cur,hgg⟩,by rw[hcell];exact hu,by rw[yAA hi];exact hr,by simp[World.frozen?,hgg],?_⟩
 intro u' r hr'
 have hkeep:∀k,k≠g0->(W.setCell ⟨g0,i,none⟩ u').heap[k]? =W.heap[k]? :=fun k hk=>Below.heap_setCell _ _ _ _ hk
 have hK:zOR N W (W.setCell ⟨g0,i,none⟩ u'):=fun k c hc hn=>hkeep k fun e=>by
  subst e
  rw[hgg]at hc
  cases hc
 have hb2:(W.setCell ⟨g0,i,none⟩ u').heap[g0]? =some (.cells (cur.setIfInBounds i u') 24 (0,0)):=zAT hgg i u'
 refine⟨⟨vs.set i u',⟨by simpa using h1.1,.inr ⟨g0,cap,cur.setIfInBounds i u',by simp,hbg,hb2,by simpa using hnc,hcm,by simpa using hsz,?_⟩⟩,fun j hj=>?_⟩,hkeep⟩
 ·rw[<- htk]
  simp only[yEA,yFE,Nat.mul_one]
  rw[List.take_set]
 ·have hj':j<L.length:=by simpa using hj
  by_cases e:i=j
  ·subst e
   exact⟨u',by simp[hvl,hj'],by simpa using hr'.keep hK⟩
  ·obtain⟨u2,hu2,hr2⟩:=h2 j hj'
   exact⟨u2,by rw[yCI e];exact hu2,by rw[yDP e];exact hr2.keep hK⟩
end
section
open Go.RowKit
def zLV{α:Type}(p:α->Bool)(l:List α):Int:=match zFG p l with|none=> -1|some a=>(a:Int)
theorem lastI_snoc{α:Type}(p:α->Bool)(l:List α)(y:α):zLV p (l++[y])=if p y=true then(l.length:Int)else zLV p l:=by
 unfold zLV
 rw[zNO]
 by_cases h:p y=true
 ·rw[if_pos h,if_pos h]
 ·rw[if_neg h,if_neg h]
theorem lastI_take{α:Type}(p:α->Bool){l:List α}{k:Nat}(hk:k<l.length):zLV p (l.take (k+1))=if p l[k]=true then(k:Int)else zLV p (l.take k):=by
 rw[yAI hk,lastI_snoc,yAU,yEI (by omega)]
theorem rStep_nil{s:RS}(h:s.left=[])(j:Nat):zMZ s j=s:=by unfold zMZ;rw[h];rfl
theorem rStep_none{s:RS}{j:Nat}(h:zFG (nz j) s.left=none):zMZ s j=s:=by unfold zMZ;rw[h]
theorem rStep_some{s:RS}{j a:Nat}(h:zFG (nz j) s.left=some a):zMZ s j=⟨(s.left.eraseIdx a).map (zBE (posF (s.left[a]?.getD []) j) j),s.done.map (zBE (posF (s.left[a]?.getD []) j) j)++[posF (s.left[a]?.getD []) j],s.piv++[j]⟩:=by unfold zMZ;rw[h]
theorem rRed_stop{L:List (List Int)}{j:Nat}(h:(rRed L j).left=[]):∀d,rRed L (j+d)=rRed L j
 |0=>rfl
 |d+1=>by rw[<- Nat.add_assoc,zJE,rRed_stop h d,rStep_nil h]
def zJD(f:List Int->List Int)(l:List (List Int))(a k:Nat):List (List Int):=((l.take k).eraseIdx a).map f
theorem restT_ne{f:List Int->List Int}{l:List (List Int)}{a k:Nat}(hk:k<l.length)(h:k≠a):zJD f l a (k+1)=zJD f l a k++[f l[k]]:=by
 unfold zJD
 rw[yAI hk]
 have hlk:(l.take k).length=k:=by rw[yAU];omega
 rcases yAP a k with h1|h1
 ·rw[List.eraseIdx_append_of_lt_length (by omega),yBF];rfl
 ·rw[yGW (by omega),hlk,List.eraseIdx_of_length_le (l:=l.take k) (by omega),yBF]
  have:a-k=(a-k-1)+1:=by omega
  rw[this];rfl
theorem restT_eq{f:List Int->List Int}{l:List (List Int)}{a:Nat}(hk:a<l.length):zJD f l a (a+1)=zJD f l a a:=by
 unfold zJD
 rw[yAI hk]
 have hlk:(l.take a).length=a:=by rw[yAU];omega
 rw[yGW (by omega),hlk,yCF,List.eraseIdx_of_length_le (l:=l.take a) (by omega)]
 simp
theorem restT_len(f:List Int->List Int)(l:List (List Int))(a k:Nat):(zJD f l a k).length<=k:=by
 unfold zJD
 have h1:=List.length_eraseIdx_le (l.take k) a
 rw[yAS]
 have h2:=List.length_take_le k l
 omega
theorem restT_zero(f:List Int->List Int)(l:List (List Int))(a:Nat):zJD f l a 0=[]:=by simp[zJD]
theorem restT_all{f:List Int->List Int}{l:List (List Int)}{a k:Nat}(h:l.length=k):zJD f l a k=(l.eraseIdx a).map f:=by
 unfold zJD;rw[yAL (by omega)]
def zLX(f:List Int->List Int)(l:List (List Int))(k:Nat):List (List Int):=(l.take k).map f++l.drop k
theorem doneT_len(f:List Int->List Int)(l:List (List Int))(k:Nat):(zLX f l k).length=l.length:=by
 unfold zLX;simp;omega
theorem doneT_at{f:List Int->List Int}{l:List (List Int)}{k:Nat}(hk:k<l.length):(zLX f l k)[k]?.getD []=l[k]:=by
 unfold zLX
 rw[yAQ (by simp;omega)]
 simp[hk,yEI (yFH hk)]
theorem doneT_succ{f:List Int->List Int}{l:List (List Int)}{k:Nat}(hk:k<l.length):zLX f l (k+1)=(zLX f l k).set k (f l[k]):=by
 unfold zLX
 rw[yCZ _ _ (by simp;omega),yAI hk,yBF]
 have:k-((l.take k).map f).length=0:=by simp;omega
 have e:l.drop k=l[k]::l.drop (k+1):=yBD hk
 rw[this,e,yCA,yBZ]
 rfl
theorem doneT_zero(f:List Int->List Int)(l:List (List Int)):zLX f l 0=l:=by simp[zLX]
theorem doneT_all{f:List Int->List Int}{l:List (List Int)}{k:Nat}(h:l.length=k):zLX f l k=l.map f:=by
 unfold zLX;rw[yAL (by omega),yEC (by omega),yBC]
def zIJ(l:List Nat):List Int:=l.map (fun j:Nat=>(j:Int))
def RedI(w wr:World)(L:List (List Int))(j:Nat)(l d p:Value):Prop:=
 TabN p.ownBlock wr w.heap.size l (rRed L j).left∧TabN p.ownBlock wr w.heap.size d (rRed L j).done∧wr.ownsRow w.heap.size 3 1 p (rRed L j).piv.length ((zIJ (rRed L j).piv).map (Value.int .i64))∧Below w.heap.size w wr
structure RedS (w:World) (R0:Nat) (wr:World) (l d r q p:Value) (left done rest:List (List Int)) (P:List Int) (J:List Nat):Prop where
 hl:TabN p.ownBlock wr w.heap.size l left
 hd:TabN p.ownBlock wr w.heap.size d done
 hr:TabN p.ownBlock wr R0 r rest
 hq:RowN p.ownBlock wr q P
 hp:wr.ownsRow w.heap.size 3 1 p J.length ((zIJ J).map (Value.int .i64))
 hb:Below w.heap.size w wr
 hR:R0<=wr.heap.size
 hw:w.heap.size<=R0
 lR:∀k,l.ownBlock=some k->k<R0
 dR:∀k,d.ownBlock=some k->k<R0
 pR:∀k,p.ownBlock=some k->k<R0
theorem RedS.below{w:World}{R0:Nat}{A B:World}{l d r q p:Value}{left done rest:List (List Int)}{P:List Int}{J:List Nat}(h:RedS w R0 A l d r q p left done rest P J)(hb:Below A.heap.size A B):RedS w R0 B l d r q p left done rest P J:=
 ⟨h.hl.below hb,h.hd.below hb,h.hr.below hb,h.hq.keep (zOR.below hb),zBJ h.hp hb,zAA h.hb hb,yAF h.hR hb.size,h.hw,h.lR,h.dR,h.pR⟩
theorem TabN.lt{N:Option Nat}{W:World}{base:Nat}{v:Value}{L:List (List Int)}(h:TabN N W base v L){k:Nat}(hk:v.ownBlock=some k):k<W.heap.size:=(h.type hk).2.1
theorem RedS.start{w wr:World}{L:List (List Int)}{j:Nat}{l d p q:Value}{P:List Int}(h:RedI w wr L j l d p)(hq:RowN p.ownBlock wr q P):RedS w wr.heap.size wr l d (.slice none 0 0) q p (rRed L j).left (rRed L j).done [] P (rRed L j).piv:=
 ⟨h.1,h.2.1,TabN.nil _ _ _,hq,h.2.2.1,h.2.2.2,yAC _,h.2.2.2.size,fun k hk=>h.1.lt hk,fun k hk=>h.2.1.lt hk,fun k hk=>by
   obtain⟨_,c,hc⟩:=zCE h.2.2.1 hk
   exact(yAB.1 hc).1⟩
theorem RedS.push{w:World}{R0:Nat}{A B:World}{l d r q p u r':Value}{left done rest:List (List Int)}{P x:List Int}{J:List Nat}{vs:List Value}(h:RedS w R0 A l d r q p left done rest P J)
 (h1:A.ownsRow R0 24 1 r rest.length vs)(h2:∀j (hj:j<rest.length),∃u,vs[j]? =some u∧RowN p.ownBlock A u rest[j])(hu:RowN p.ownBlock A u x)(hg:A.grownBy B r.ownBlock)
 (ho:B.ownsRow R0 24 1 r' (rest.length+1) (vs++[u])):RedS w R0 B l d r' q p left done (rest++[x]) P J:=by
 have hge:∀k,r.ownBlock=some k->R0<=k:=fun k hk=>(zCE h1 hk).1
 have hgt:∀k,r.ownBlock=some k->∃c,A.heap[k]? =some (.cells c 24 (0,0)):=fun k hk=>(zCE h1 hk).2
 have hk:∀k,k<A.heap.size->r.ownBlock≠some k->B.heap[k]? =A.heap[k]? :=fun k hlt hne=>hg.block k hlt fun e=>hne e.symm
 have hK:zOR p.ownBlock A B:=fun k c hc _=>hk k (yAB.1 hc).1 fun e=>by
  obtain⟨c2,h2⟩:=hgt k e
  rw[h2]at hc;cases hc
 refine⟨h.hl.beside hk hgt fun k e e2=>?_,h.hd.beside hk hgt fun k e e2=>?_,TabN.snoc h1 h2 hu hg ho,h.hq.keep hK,zJK h.hp fun k e hlt=>hk k hlt fun e2=>?_,?_,yAF h.hR hg.size,h.hw,h.lR,h.dR,h.pR⟩
 ·have:=h.lR k e2;have:=hge k e;omega
 ·have:=h.dR k e2;have:=hge k e;omega
 ·have:=h.pR k e;have:=hge k e2;omega
 ·exact h.hb.grown hg (yAF h.hw h.hR) fun k e=>yAF h.hw (hge k e)
theorem RedS.store{w:World}{R0:Nat}{A:World}{l d r q p u:Value}{left done rest:List (List Int)}{P x:List Int}{J:List Nat}{i n:Nat}(h:RedS w R0 A l d r q p left done rest P J)(hn:done.length=n)(hi:i<n)(hu:RowN p.ownBlock A u x):
 ∃g0 cap v,d=.slice (some ⟨g0,0,none⟩) n cap∧A.cell? ⟨g0,i,none⟩=some v∧A.frozen? ⟨g0,i,none⟩=false∧RedS w R0 (A.setCell ⟨g0,i,none⟩ u) (.slice none 0 0) d r q p [] (done.set i x) rest P J:=by
 obtain⟨g0,cap,v,rfl,hb0,hlt,hty,hc,hrow,hf,hset⟩:=h.hd.at hn hi
 refine⟨g0,cap,v,rfl,hc,hf,?_⟩
 obtain⟨hT,hk⟩:=hset u x hu
 have hk':∀k,k<A.heap.size->some g0≠some k->(A.setCell ⟨g0,i,none⟩ u).heap[k]? =A.heap[k]? :=fun k _ hne=>hk k fun e=>hne (by rw[e])
 have hgt:∀k,some g0=some k->∃c,A.heap[k]? =some (.cells c 24 (0,0)):=fun k e=>by cases e;exact hty
 have hlt0:g0<R0:=h.dR g0 rfl
 refine⟨TabN.nil _ _ _,hT,h.hr.beside hk' hgt fun k e e2=>?_,h.hq.keep fun k c hc _=>hk' k (yAB.1 hc).1 fun e=>?_,zJK h.hp fun k e hlt2=>hk' k hlt2 fun e2=>?_,?_,by simpa using h.hR,h.hw,fun k hk=>by simp[Value.ownBlock]at hk,h.dR,h.pR⟩
 ·cases e
  have:=(h.hr.type e2).1
  omega
 ·obtain⟨c2,h2⟩:=hgt k e
  rw[h2]at hc;cases hc
 ·cases e2
  obtain⟨c,hc⟩:=hty
  obtain⟨_,c2,h2⟩:=zCE h.hp e
  rw[h2]at hc;cases hc
 ·exact(Keep.set A g0 i u).below h.hb (yAF h.hw h.hR) fun k hk e=>by omega
theorem RedS.onto{w:World}{R0:Nat}{A B:World}{l d r q p d':Value}{left done rest:List (List Int)}{P:List Int}{J:List Nat}{vs:List Value}(h:RedS w R0 A l d r q p left done rest P J)
 (h1:A.ownsRow w.heap.size 24 1 d done.length vs)(h2:∀j (hj:j<done.length),∃u,vs[j]? =some u∧RowN p.ownBlock A u done[j])(hg:A.grownBy B d.ownBlock)
 (ho:B.ownsRow w.heap.size 24 1 d' (done.length+1) (vs++[q])):TabN p.ownBlock B w.heap.size r rest∧TabN p.ownBlock B w.heap.size d' (done++[P])∧B.ownsRow w.heap.size 3 1 p J.length ((zIJ J).map (Value.int .i64))∧Below w.heap.size w B:=by
 have hge:∀k,d.ownBlock=some k->w.heap.size<=k:=fun k hk=>(zCE h1 hk).1
 have hgt:∀k,d.ownBlock=some k->∃c,A.heap[k]? =some (.cells c 24 (0,0)):=fun k hk=>(zCE h1 hk).2
 have hk:∀k,k<A.heap.size->d.ownBlock≠some k->B.heap[k]? =A.heap[k]? :=fun k hlt hne=>hg.block k hlt fun e=>hne e.symm
 refine⟨(h.hr.beside hk hgt fun k e e2=>?_).low h.hw,TabN.snoc h1 h2 h.hq hg ho,zJK h.hp fun k e hlt=>hk k hlt fun e2=>?_,h.hb.grown hg (yAF h.hw h.hR) hge⟩
 ·have:=h.dR k e;have:=(h.hr.type e2).1;omega
 ·obtain⟨c,hc⟩:=hgt k e2
  obtain⟨_,c2,h2⟩:=zCE h.hp e
  rw[h2]at hc;cases hc
theorem red_end{w A B:World}{r d p p':Value}{left done:List (List Int)}{J:List Nat}{j:Nat}(h1:TabN p.ownBlock A w.heap.size r left)(h2:TabN p.ownBlock A w.heap.size d done)(h3:A.ownsRow w.heap.size 3 1 p J.length ((zIJ J).map (Value.int .i64)))
 (h4:Below w.heap.size w A)(hg:A.grownBy B p.ownBlock)(hat:p'.ownBlock=p.ownBlock∨p'.ownBlock=some A.heap.size)(ho:B.ownsRow w.heap.size 3 1 p' (J.length+1) ((zIJ J).map (Value.int .i64)++[.int .i64 j])):
 TabN p'.ownBlock B w.heap.size r left∧TabN p'.ownBlock B w.heap.size d done∧B.ownsRow w.heap.size 3 1 p' (J++[j]).length ((zIJ (J++[j])).map (Value.int .i64))∧Below w.heap.size w B:=by
 refine⟨h1.piv hg hat h3,h2.piv hg hat h3,?_,h4.grown hg h4.size fun k hk=>(zCE h3 hk).1⟩
 simpa[zIJ]using ho
theorem zIZ{P:Program}(w:World){ops:Array Oper}{rest:List Oper}{o:Oper}{a:Act}{Q:Exit->Act->World->Prop}(hgd:o.guard=none)(s x:Operand)(t:TypeId)
 (ho:o.op=.call {callee:=.builtin .append,args:=#[s,x],argTypes:=#[t,t]})
 (base:Nat)(e:TypeId)(z:Value)(size bytes:Nat)(ht:P.underlying t=some (.slice e))(hinfo:(P.info? e).map (fun i=>(i.zero,i.size,i.bytes))=some (some z,size,bytes))
 (hzs:z.cells.size=size)(hsz:0<size)
 (v:Value)(n:Nat)(xs:List Value)(hs:a.eval s=v)(hown:w.ownsRow base e size v n xs)
 (ad:Addr)(m c:Nat)(news:List Value)(hx:a.eval x=.slice (some ad) m c)(hl:news.length=m*size)
 (hnews:∀j u,news[j]? =some u->w.cell? (ad.add j)=some u)(h1:∀u∈news,u.oneCell'=true)
 (h63:n+m<=maxLen)(hbytes:(n+m)*bytes<=140737488355328)(hbase:base<=w.heap.size)
 (h:∀a' c' w',w'.ownsRow base e size (.slice a' (n+m) c') (n+m) (xs++news)->w.grownBy w' v.ownBlock->((Value.slice a' (n+m) c').ownBlock=v.ownBlock∨(Value.slice a' (n+m) c').ownBlock=some w.heap.size)->wpList P ops Q rest (a.put o.dst (.slice a' (n+m) c')) w'):wpList P ops Q (o::rest) a w:=by
 obtain⟨i,hi,hz,h2,h3⟩:=info_parts hinfo
 refine wpList_append_own_at w hgd s x t ho base e i z size bytes ht hi hz h2 h3 hzs hsz v n xs hs hown ad m c news hx hl hnews h1 h63 hbytes hbase ?_
 intro v' w' ho' hg _ hat
 obtain⟨a',c',rfl⟩:=zAC ho'
 exact h a' c' w' ho' hg hat
end
end
section
open Go.RowKit
theorem RowN.sp{N:Option Nat}{X:World}{g n c:Nat}{P:List Int}(h:RowN N X (.slice (some ⟨g,0,none⟩) n c) P)(h0:0<P.length):zBD X g P:=by
 rcases h with⟨g',c',e,hs,_⟩|⟨rfl,_⟩
 ·cases e;exact hs
 ·simp at h0
theorem RowN.form{N:Option Nat}{X:World}{v:Value}{P:List Int}(h:RowN N X v P)(h0:0<P.length):∃g c,v=.slice (some ⟨g,0,none⟩) P.length c∧zBD X g P:=by
 rcases h with⟨g',c',e,hs,_⟩|⟨rfl,_⟩
 ·exact⟨_,_,e,hs⟩
 ·simp at h0
theorem posF_bnd{B:Nat}{l:List Int}(h:BndL B l)(j:Nat):BndL B (posF l j):=by
 unfold posF
 split
 ·intro x hx
  obtain⟨y,hy,rfl⟩:=yBJ.1 hx
  have:=h y hy
  omega
 ·exact h
theorem RedS.drop{w:World}{R0:Nat}{A:World}{l d r q p:Value}{left done rest:List (List Int)}{P:List Int}{J:List Nat}(h:RedS w R0 A l d r q p left done rest P J):RedS w R0 A (.slice none 0 0) d r q p [] done rest P J:=
 ⟨TabN.nil _ _ _,h.hd,h.hr,h.hq,h.hp,h.hb,h.hR,h.hw,fun k hk=>by simp[Value.ownBlock]at hk,h.dR,h.pR⟩
theorem zNB(w:World)(a:Option Addr)(n cap:Nat)(L:List (List Int))(W:Nat)(hn:L.length=n)(hn6:n<=1000)(H:zAM w a L)(hw:∀r∈L,r.length=W)(hW:W<=1000)(hB0:∀r∈L,BndL 4611686018427387904 r)
 (hB:∀t,t<=W->∀r∈(rRed L t).done++(rRed L t).left,r.length=W∧BndL 1073741824 r)(hlen:∀t,(rRed L t).done.length+(rRed L t).left.length=n)(hpl:∀t,(rRed L t).piv.length=(rRed L t).done.length):
 Calls Tryz.prog 225 #[.slice a n cap] w fun e w'=>∃vD vP,e=.returned (.tuple #[vD,vP])∧TabS w' w.heap.size vD (rRed L W).done∧w'.ownsRow w.heap.size 3 1 vP (rRed L W).piv.length ((zIJ (rRed L W).piv).map (Value.int .i64))∧Below w.heap.size w w':=by
 have HN:=hid hn
 have HH:=hid H
 have HW:=hid hw
 have HB0:=hid hB0
 have HBB:=hid hB
 have HLEN:=hid hlen
 have HPL:=hid hpl
 clear hn H hw hB0 hB hlen hpl
 go_enter Tryz.func225,Tryz.ntmps225
 go_wp2
 go_loopw [4,21] (fun v i wr=>∃k:Nat,k<=n∧i=.int .i64 k∧TabN none wr w.heap.size v ((L.take k).map zDV)∧Below w.heap.size w wr) (fun _ i _=>n-(intOf i).toNat)
 case atStart=>exact⟨0,yAK _,rfl,TabN.nil _ _ _,Below.refl _ _⟩
 case round=>
  obtain⟨k,hk,rfl,ho,hbk⟩:=hrel
  obtain⟨wo,hwo⟩:=exq (wr)
  subst hwo
  by_cases hlt:k<n
  ·have hkL:k<L.length:=by rw[HN.out];exact hlt
   obtain⟨b,off,ra,rn,rc,rfl,hbs,hq0,hrn,hrm,hri⟩:=(HH.out.below hbk) k hkL
   have htk:(L.take (k+1)).map zDV=(L.take k).map zDV++[zDV L[k]]:=by rw[yAI hkL,yBF];rfl
   obtain rfl:rn=W:=by rw[<- hrn];exact HW.out _ (yAH hkL)
   obtain⟨C,hC⟩:=exq ((L.take k).map zDV)
   have hlenC:C.length=k:=by rw[hC,yAS,yAU,HN.out];omega
   rw[<- hC]at htk ho
   have HPR:=hid (zGM wo ra rn rc L[k] hrn hW hri (HB0.out _ (yAH hkL)))
   obtain⟨r,hr⟩:=exq (L[k])
   rw[<- hr]at htk HPR hrn
   have hpl:(zDV r).length=rn:=by unfold zDV;rw[yAS];exact hrn
   obtain⟨P,hP⟩:=exq (zDV r)
   rw[<- hP]at HPR htk hpl
   have HTK:=hid htk
   have HLC:=hid hlenC
   have HPLN:=hid hpl
   have HBK:=hid hbk
   have HO:=hid ho
   obtain⟨va,vc,rfl⟩:∃va vc,u4=.slice va k vc:=by
    obtain⟨_,ho1,_⟩:=ho
    obtain⟨a',c',e⟩:=zAC ho1
    exact⟨a',c',by rw[e,hlenC]⟩
   clear hC hr hP htk hlenC hpl ho hri hrn hkL hbk
   go_wp2_with (go_at_call 226;refine HPR.out.mono ?_;rintro e w4 ⟨v4,rfl,ho4,hb4⟩;refine Stop.of ?_)
   refine Stop.go ?_
   obtain⟨la,lc,rfl⟩:=zAC ho4
   have hb4a:Below wo.heap.size wo (w4.alloc (.cells #[.slice la rn lc] 24)):=hb4.alloc hb4.size _
   have hT:=HO.out.below hb4a
   obtain⟨vs,ho1,he1⟩:=hT
   have hRow:RowN none (w4.alloc (.cells #[.slice la rn lc] 24)) (.slice la rn lc) P:=(zMB ho4 HPLN.out (fun _ h=>by cases h)).keep (zOR.below ((Below.refl _ _).alloc (yAC _) _))
   have ho1':=ho1
   rw[HLC.out]at ho1'
   have M1:=hid (show k+1<=maxLen by unfold maxLen;omega)
   have M2:=hid (show(k+1)*24<=140737488355328 by omega)
   have M3:=hid (yAF HBK.out.size hb4a.size)
   have HO1:=hid ho1
   have HO1':=hid ho1'
   have HE1:=hid he1
   have HRW:=hid hRow
   have HB4:=hid hb4a
   clear ho1 ho1' he1 hRow hb4a ho4 hb4
   go_wp2_with (at_builtin;refine zAN _ rfl (.tmp 25) (.tmp 28) 22 rfl w.heap.size 24 (.slice none 0 0) 1 24 Tryz.underlying22 zEP rfl yBH (.slice va k vc) k vs rfl HO1'.out (some ⟨w4.heap.size,0,none⟩) 1 1 [.slice la rn lc] rfl rfl zBS (zBC w4 _ _) (zBL _ _ _) M1.out M2.out M3.out ?_;refine Stop.of ?_)
   refine Stop.go ?_
   intro a5 c5 w5 own5 g5
   have hsn:TabN none w5 w.heap.size (.slice a5 (k+1) c5) (C++[P]):=TabN.snoc HO1.out HE1.out HRW.out g5 (by rw[HLC.out];exact own5)
   have hB5:Below w.heap.size w w5:=(HBK.out.trans (HB4.out.mono HBK.out.size)).grown g5 M3.out (fun q hq=>(HO1'.out.lt q hq).1)
   rw[<- HTK.out]at hsn
   go_wp2
   exact⟨⟨k+1,by omega,by go_num,hsn,hB5⟩,by simp[intOf];omega⟩
  ·obtain rfl:k=n:=by omega
   rw[yAL (by rw[HN.out];exact yAC _)]at ho
   have hI:RedI w wo L 0 u4 (.slice none 0 0) (.slice none 0 0):=⟨ho,TabN.nil _ _ _,World.ownsRow_nil _ _ _ _,hbk⟩
   clear ho hbk
   go_wp2
   go_loopw [4,5,8,9] (fun l d p i wr=>∃j:Nat,j<=W∧i=.int .i64 j∧RedI w wr L j l d p) (fun _ _ _ i _=>W-(intOf i).toNat)
   case atStart=>exact⟨0,yAK _,rfl,hI⟩
   case round=>
    clear hI
    obtain⟨w0,hw0⟩:=exq (wo)
    subst hw0
    obtain⟨wo,hwo⟩:=exq (wr)
    subst hwo
    obtain⟨j,hj,rfl,hI⟩:=hrel
    have HI:=hid hI
    have hls:=HLEN.out j
    have hpl:=HPL.out j
    have hbb:=HBB.out j hj
    have hsucc:=zJE L j
    have hend:j=W∨(rRed L j).left=[]->rRed L W=rRed L j:=by
     rintro (rfl|h)
     ·rfl
     ·have:=rRed_stop h (W-j)
      rwa [show j+(W-j)=W by omega]at this
    obtain⟨hl,hd,hp,hbw⟩:=hI
    obtain⟨s,hs⟩:=exq (rRed L j)
    rw[<- hs]at hls hpl hbb hsucc hend hl hd hp
    obtain⟨ln,hln⟩:=exq (s.left.length)
    obtain⟨dn,hdn⟩:=exq (s.done.length)
    obtain⟨la,lc,rfl⟩:∃la lc,u4=.slice la ln lc:=by
     obtain⟨_,ho1,_⟩:=hl
     obtain⟨a',c',e⟩:=zAC ho1
     exact⟨a',c',by rw[e,hln]⟩
    obtain⟨da,dc,rfl⟩:∃la lc,u5=.slice la dn lc:=by
     obtain⟨_,ho1,_⟩:=hd
     obtain⟨a',c',e⟩:=zAC ho1
     exact⟨a',c',by rw[e,hdn]⟩
    obtain⟨pa,pc,rfl⟩:∃la lc,u8=.slice la dn lc:=by
     obtain⟨a',c',e⟩:=zAC hp
     exact⟨a',c',by rw[e,hpl,hdn]⟩
    have HS:=hid hs
    have HEND:=hid hend
    have HSUCC:=hid hsucc
    have HBBS:=hid hbb
    have HPLS:=hid hpl
    have HL:=hid hl
    have HD:=hid hd
    have HP:=hid hp
    have HBW:=hid hbw
    have HLN:=hid hln
    have HDN:=hid hdn
    have hln6:ln<=1000:=by omega
    have hdn6:dn<=1000:=by omega
    clear hs hend hsucc hbb hpl hl hd hp hbw hls
    by_cases h0:ln=0
    ·subst h0
     have he:rRed L W=s:=HEND.out (.inr (yBT.1 hln.symm))
     have HE:=hid he
     clear he hln hdn
     go_wp2
     go_ret2
     exact⟨_,_,rfl,by rw[HE.out];exact HD.out.tab,by rw[HE.out];exact HP.out,HBW.out⟩
    ·have hz:(0:Int)<(ln:Int):=by omega
     obtain⟨g0,lcap,u0,e0,hg0,hg0s,_,hc0,hr0,_,_⟩:=HL.out.at hln.symm (i:=0) (by omega)
     cases e0
     have hw0:=(HBBS.out (s.left[0]?.getD []) (by
      rw[yAA (by omega)];exact yDA _ (yAH _))).1
     obtain⟨ra0,rc0,hu0⟩:=hr0.row.slice
     rw[hw0]at hu0
     subst hu0
     clear hw0 hr0 hln hdn
     by_cases hjW:j=W
     ·subst hjW
      have he:=HEND.out (.inl rfl)
      have HE:=hid he
      clear he
      go_wp2
      go_ret2
      exact⟨_,_,rfl,by rw[HE.out];exact HD.out.tab,by rw[HE.out];exact HP.out,HBW.out⟩
     ·have hjlt:j<W:=by omega
      have hji:(j:Int)<(W:Int):=by omega
      have hat:∀k,k<ln->∃g c x,wo.cell? ⟨g0,k,none⟩=some (.slice (some ⟨g,0,none⟩) W c)∧zBD wo g (s.left[k]?.getD [])∧wo.cell? ⟨g,j,none⟩=some (.int .i64 x)∧x=vec (s.left[k]?.getD []) j∧(s.left[k]?.getD []).length=W∧
       RowN (Value.slice pa dn pc).ownBlock wo (.slice (some ⟨g,0,none⟩) W c) (s.left[k]?.getD [])∧zLV (nz j) (s.left.take (k+1))=if x=0 then zLV (nz j) (s.left.take k)else(k:Int):=by
       intro k hk
       obtain⟨g1,c1,u,e1,_,_,_,hc,hr,_,_⟩:=HL.out.at HLN.out.symm hk
       cases e1
       have hkl:k<s.left.length:=by rw[<- HLN.out];exact hk
       have hlw:=(HBBS.out (s.left[k]?.getD []) (by rw[yAA hkl];exact yDA _ (yAH _))).1
       have hsp:∃g c,u=.slice (some ⟨g,0,none⟩) W c∧zBD wo g (s.left[k]?.getD []):=by
        rcases hr with⟨g,c,e,hs,_⟩|⟨e,_⟩
        ·rw[hlw]at e;exact⟨g,c,e,hs⟩
        ·rw[e]at hlw;simp at hlw;omega
       obtain⟨g,c,rfl,hsp⟩:=hsp
       refine⟨g,c,_,hc,hsp,hsp.cell (by omega),rfl,hlw,hr,?_⟩
       rw[lastI_take _ hkl]
       have:s.left[k]?.getD []=s.left[k]:=by rw[yAA hkl];rfl
       rw[this]
       unfold nz
       by_cases hx:vec s.left[k] j=0
       ·rw[if_neg (by simpa using hx)]
        exact(if_pos hx).symm
       ·rw[if_pos (by simpa using hx)]
        exact(if_neg hx).symm
      have HAT:=hid hat
      clear hat
      go_wp2
      go_loopw [10,46] (fun z i wr=>∃k:Nat,k<=ln∧i=.int .i64 k∧z=.int .i64 (zLV (nz j) (s.left.take k))∧wr=wo) (fun _ i _=>ln-(intOf i).toNat)
      case atStart=>exact⟨0,yAK _,rfl,rfl,rfl⟩
      case round=>
       obtain⟨k,hk,rfl,rfl,rfl⟩:=hrel
       by_cases hkl:k<ln
       ·obtain⟨g,c,x,hc1,_,hc2,_,_,_,hla⟩:=HAT.out k hkl
        have HLA:=hid hla
        clear hla
        have hki:(k:Int)<(ln:Int):=by omega
        by_cases hx:x=0
        ·subst hx
         go_wp2
         exact⟨⟨k+1,by omega,by go_num,by rw[HLA.out];rfl,by first|trivial|rfl⟩,by simp[intOf];omega⟩
        ·go_wp2
         exact⟨⟨k+1,by omega,by go_num,by rw[HLA.out,if_neg hx],by first|trivial|rfl⟩,by simp[intOf];omega⟩
       ·obtain rfl:ln=k:=by omega
        have htake:s.left.take ln=s.left:=yAL (by rw[<- HLN.out];exact yAC _)
        rw[htake]
        clear htake hkl
        cases hla:zFG (nz j) s.left with
        |none=>
         have hz1:zLV (nz j) s.left= -1:=by unfold zLV;rw[hla]
         have hst:=rStep_none hla
         rw[hz1]
         have HST:=hid hst
         clear hla hz1 hst
         go_wp2
         refine⟨⟨j+1,by omega,by go_num,?_⟩,by simp[intOf];omega⟩
         unfold RedI
         rw[HSUCC.out,HST.out]
         exact⟨HL.out,HD.out,HP.out,HBW.out⟩
        |some q=>
         have hz1:zLV (nz j) s.left=(q:Int):=by unfold zLV;rw[hla]
         have hst:=rStep_some hla
         obtain⟨hq1,hq2⟩:=zGQ hla
         rw[<- HLN.out]at hq1
         rw[hz1]
         obtain⟨g,c,x,hc1,hsp,hc2,hxv,hlw,hrn,_⟩:=HAT.out q hq1
         have hbr:=(HBBS.out (s.left[q]?.getD []) (by rw[yAA (by rw[<- HLN.out];exact hq1)];exact yDA _ (yAH _))).2
         obtain⟨r,hr⟩:=exq (s.left[q]?.getD [])
         rw[<- hr]at hst hsp hxv hlw hrn hbr
         have hbp:=posF_bnd hbr j
         have hlp:(posF r j).length=W:=by rw[zJI];exact hlw
         have HSC:=hid (zPO wr (some ⟨g,0,none⟩) W c r hlw hW hsp.ints (fun y hy=>by have:=hbr y hy;omega))
         have hpf1:x<0->posF r j=negF r:=fun h=>by unfold posF;rw[if_pos (by rw[<- hxv];exact h)]
         have hpf2:¬x<0->posF r j=r:=fun h=>by unfold posF;rw[if_neg (by rw[<- hxv];exact h)]
         obtain⟨P,hP⟩:=exq (posF r j)
         rw[<- hP]at hst hbp hlp hpf1 hpf2
         have hpn:∀k,(Value.slice pa dn pc).ownBlock=some k->k<wr.heap.size:=fun k hk=>by
          obtain⟨_,c,hc⟩:=zCE HP.out hk
          exact(yAB.1 hc).1
         have hnl:(negF r).length=W:=by unfold negF;rw[yAS];exact hlw
         have HST:=hid hst
         have HRN:=hid hrn
         have HBP:=hid hbp
         have HLP:=hid hlp
         have HPF1:=hid hpf1
         have HPF2:=hid hpf2
         have HPN:=hid hpn
         have HNL:=hid hnl
         have hqi:(q:Int)<(ln:Int):=by omega
         clear hla hz1 hst hq2 hsp hxv hlw hrn hbr hr hbp hlp hpf1 hpf2 hP hpn hnl
         go_upto_if 68 with fail
         go_cut [13]from 31 to 112 (fun v wx=>RowN (Value.slice pa dn pc).ownBlock wx v P∧Below wr.heap.size wr wx)
         case first=>
          by_cases hx0:x<0
          ·have HE:=hid (HPF1.out hx0)
           go_wp2_with (go_at_call 185;refine HSC.out.mono ?_;rintro e w3 ⟨v3,rfl,ho3,hb3⟩)
           go_meet
           case rel=>
            refine⟨?_,hb3⟩
            rw[HE.out]
            exact zMB ho3 HNL.out HPN.out
          ·have HE:=hid (HPF2.out hx0)
           go_wp2
           go_meet
           case rel=>
            refine⟨?_,Below.refl _ _⟩
            rw[HE.out]
            exact HRN.out
         case rest=>
          obtain⟨hq,hbc⟩:=hcut
          obtain⟨gp,cp,e,hsp⟩:=hq.form (by rw[HLP.out];omega)
          rw[HLP.out]at e
          subst e
          have hS:=RedS.start (w:=w) (wr:=wc) (L:=L) (j:=j) (l:=.slice (some ⟨g0,0,none⟩) ln lc) (d:=.slice da dn dc) (p:=.slice pa dn pc) ⟨by rw[<- HS.out];exact HL.out.below hbc,by rw[<- HS.out];exact HD.out.below hbc,by rw[<- HS.out];exact zBJ HP.out hbc,zAA HBW.out hbc⟩ hq
          rw[<- HS.out]at hS
          have HS0:=hid hS
          have HBC:=hid hbc
          clear hS hsp hq hbc
          obtain⟨wo,hwo⟩:=exq (wr)
          subst hwo
          obtain⟨f,hf⟩:=exq (zBE P j)
          have HF:=hid (fun(r:List Int)=>show f r=zBE P j r by rw[hf])
          have hst2:=HST.out
          rw[<- hf]at hst2
          have HST2:=hid hst2
          have hjn:j<W:=hjlt
          clear hf hst2 HST HSC HPF1 HPF2 hc1 hc2
          go_wp2
          go_loopw [14,73] (fun v i wz=>∃k:Nat,k<=ln∧i=.int .i64 k∧RedS w wc.heap.size wz (.slice (some ⟨g0,0,none⟩) ln lc) (.slice da dn dc) v (.slice (some ⟨gp,0,none⟩) W cp) (.slice pa dn pc) s.left s.done (zJD f s.left q k) P s.piv∧Below wc.heap.size wc wz) (fun _ i _=>ln-(intOf i).toNat)
          case atStart=>exact⟨0,yAK _,rfl,by rw[restT_zero];exact HS0.out,Below.refl _ _⟩
          case round=>
           obtain⟨k,hk,rfl,hS,hbz⟩:=hrel
           by_cases hkl:k<ln
           ·obtain⟨gk,ck,xk,hk1,hk2,_,_,hkw,_,_⟩:=HAT.out k hkl
            have hks:k<s.left.length:=by rw[<- HLN.out];exact hkl
            have hcell:wr.cell? ⟨g0,k,none⟩=some (.slice (some ⟨gk,0,none⟩) W ck):=((zAA HBC.out hbz).cell (p:=⟨g0,k,none⟩) hg0s).trans hk1
            have hgk:s.left[k]?.getD []=s.left[k]:=by rw[yAA hks];rfl
            by_cases hkq:k=q
            ·subst hkq
             have hre:=restT_eq (f:=f) hks
             have HRE:=hid hre
             have HSS:=hid hS
             have HBZ:=hid hbz
             clear hre hS hbz hgk hks hk1 hk2 hkw
             go_wp2
             exact⟨⟨k+1,by omega,by go_num,by rw[HRE.out];exact HSS.out,HBZ.out⟩,by simp[intOf];omega⟩
            ·have hne:¬(k:Int)=(q:Int):=by omega
             have hkb:=(HBBS.out s.left[k] (yDA _ (yAH _))).2
             have hrow:zAH wr (some ⟨gk,0,none⟩) s.left[k]:=by rw[<- hgk];exact hk2.ints.below (zAA HBC.out hbz)
             have hpp:zAH wr (some ⟨gp,0,none⟩) P:=(hS.hq.sp (by rw[HLP.out];omega)).ints
             rw[hgk]at hkw
             have HWO:=hid (zNA wr (some ⟨gk,0,none⟩) (some ⟨gp,0,none⟩) W ck cp s.left[k] P hkw HLP.out hW hrow hpp hkb HBP.out j hjlt)
             have hre:=restT_ne (f:=f) hks hkq
             have hXl:(zBE P j s.left[k]).length=W:=by rw[zGZ (by rw[hkw,HLP.out])];exact hkw
             rw[HF.out s.left[k]]at hre
             obtain⟨X,hX⟩:=exq (zBE P j s.left[k])
             rw[<- hX]at HWO hre hXl
             have hrl:=restT_len f s.left q k
             obtain⟨R,hR⟩:=exq (zJD f s.left q k)
             rw[<- hR]at hre hrl hS
             obtain⟨rn,hrn⟩:=exq (R.length)
             obtain⟨va,vc,rfl⟩:∃va vc,u14=.slice va rn vc:=by
              obtain⟨_,ho1,_⟩:=hS.hr
              obtain⟨a',c',e⟩:=zAC ho1
              exact⟨a',c',by rw[e,hrn]⟩
             have hrn6:rn<=1000:=by omega
             have HRNL:=hid hrn
             have HRE:=hid hre
             have HXL:=hid hXl
             have HSS:=hid hS
             have HBZ:=hid hbz
             clear hre hS hbz hgk hks hk1 hk2 hkw hX hR hrn hXl hrow hpp hkb hrl
             go_wp2_with (go_at_call 251;refine HWO.out.mono ?_;rintro e w4 ⟨v4,b4,rfl,hb4s,ho4,hb4⟩;refine Stop.of ?_)
             refine Stop.go ?_
             obtain⟨xa,xc,rfl⟩:=zAC ho4
             have hba:Below wr.heap.size wr (w4.alloc (.cells #[.slice xa W xc] 24)):=hb4.alloc hb4.size _
             have h4:=HSS.out.below hba
             have hu:RowN (Value.slice pa dn pc).ownBlock (w4.alloc (.cells #[.slice xa W xc] 24)) (.slice xa W xc) X:=(zMB ho4 HXL.out (fun k' hk'=>by have:=h4.pR k' hk';have:=HSS.out.hR;omega)).keep (zOR.below ((Below.refl _ _).alloc (yAC _) _))
             obtain⟨vs,hv1,hv2⟩:=h4.hr
             have hv1':=hv1
             rw[<- HRNL.out]at hv1'
             have M1:=hid (show rn+1<=maxLen by unfold maxLen;omega)
             have M2:=hid (show(rn+1)*24<=140737488355328 by omega)
             have M3:=hid h4.hR
             have H4:=hid h4
             have HV1:=hid hv1
             have HV1':=hid hv1'
             have HV2:=hid hv2
             have HU:=hid hu
             have HBA:=hid (zAA HBZ.out hba)
             clear h4 hv1 hv1' hv2 hu hba ho4 hb4 hb4s
             go_wp2_with (at_builtin;refine zAN _ rfl (.tmp 81) (.tmp 86) 22 rfl wc.heap.size 24 (.slice none 0 0) 1 24 Tryz.underlying22 zEP rfl yBH (.slice va rn vc) rn vs rfl HV1'.out (some ⟨w4.heap.size,0,none⟩) 1 1 [.slice xa W xc] rfl rfl zBS (zBC w4 _ _) (zBL _ _ _) M1.out M2.out M3.out ?_;refine Stop.of ?_)
             refine Stop.go ?_
             intro a5 c5 w5 own5 g5
             have h5:=H4.out.push HV1.out HV2.out HU.out g5 (r':=.slice a5 (rn+1) c5) (by rw[<- HRNL.out];exact own5)
             rw[<- HRE.out]at h5
             have hb5:Below wc.heap.size wc w5:=HBA.out.grown g5 M3.out fun k' hk'=>(zCE HV1'.out hk').1
             go_wp2
             exact⟨⟨k+1,by omega,by go_num,h5,hb5⟩,by simp[intOf];omega⟩
           ·obtain rfl:ln=k:=by omega
            have hall:=restT_all (f:=f) (a:=q) HLN.out.symm
            rw[hall]at hS
            have hS2:=hS.drop
            have HS2:=hid hS2
            clear hS hS2 hall hbz hkl hk
            obtain⟨wq,hwq⟩:=exq (wr)
            subst hwq
            go_wp2
            go_loopw [91] (fun i wz=>∃k:Nat,k<=dn∧i=.int .i64 k∧RedS w wc.heap.size wz (.slice none 0 0) (.slice da dn dc) u14 (.slice (some ⟨gp,0,none⟩) W cp) (.slice pa dn pc) [] (zLX f s.done k) ((s.left.eraseIdx q).map f) P s.piv) (fun i _=>dn-(intOf i).toNat)
            case atStart=>exact⟨0,yAK _,rfl,by rw[doneT_zero];exact HS2.out⟩
            case round=>
             obtain⟨k,hk,rfl,hS⟩:=hrel
             by_cases hkl:k<dn
             ·have hks:k<s.done.length:=by rw[<- HDN.out];exact hkl
              obtain⟨gd,cd,ud,ed,_,_,_,hcd,hrd,_,_⟩:=hS.hd.at (by rw[doneT_len];exact HDN.out.symm) hkl
              cases ed
              rw[doneT_at hks]at hrd
              have hkw:=HBBS.out s.done[k] (yDZ _ (yAH _))
              obtain⟨gk,ck,ek,hsk⟩:=hrd.form (by rw[hkw.1];omega)
              rw[hkw.1]at ek
              subst ek
              have hpp:zAH wr (some ⟨gp,0,none⟩) P:=(hS.hq.sp (by rw[HLP.out];omega)).ints
              have HWO:=hid (zNA wr (some ⟨gk,0,none⟩) (some ⟨gp,0,none⟩) W ck cp s.done[k] P hkw.1 HLP.out hW hsk.ints hpp hkw.2 HBP.out j hjlt)
              have hre:=doneT_succ (f:=f) hks
              have hXl:(zBE P j s.done[k]).length=W:=by rw[zGZ (by rw[hkw.1,HLP.out])];exact hkw.1
              rw[HF.out s.done[k]]at hre
              obtain⟨X,hX⟩:=exq (zBE P j s.done[k])
              rw[<- hX]at HWO hre hXl
              have hki:(k:Int)<(dn:Int):=by omega
              have HRE:=hid hre
              have HXL:=hid hXl
              have HSS:=hid hS
              clear hre hS hks hkw hX hXl hpp hrd hsk
              go_wp2_with (go_at_call 251;refine HWO.out.mono ?_;rintro e w4 ⟨v4,b4,rfl,hb4s,ho4,hb4⟩;refine Stop.of ?_)
              refine Stop.go ?_
              obtain⟨xa,xc,rfl⟩:=zAC ho4
              have h4:=HSS.out.below hb4
              have hu:RowN (Value.slice pa dn pc).ownBlock w4 (.slice xa W xc) X:=zMB ho4 HXL.out (fun k' hk'=>by have:=h4.pR k' hk';have:=HSS.out.hR;omega)
              obtain⟨g6,c6,v6,e6,hc6,hf6,h6⟩:=h4.store (by rw[doneT_len];exact HDN.out.symm) hkl hu
              cases e6
              rw[<- HRE.out]at h6
              have H6:=hid h6
              clear h6 h4 hu ho4 hb4 hb4s hcd
              go_wp2
              exact⟨⟨k+1,by omega,by go_num,H6.out⟩,by simp[intOf];omega⟩
             ·obtain rfl:dn=k:=by omega
              have hall:=doneT_all (f:=f) HDN.out.symm
              rw[hall]at hS
              obtain⟨D,hD⟩:=exq (s.done.map f)
              have hDl:D.length=dn:=by rw[hD,yAS];exact HDN.out.symm
              have hst3:=HST2.out
              rw[<- hD]at hst3 hS
              have h4:=hS.below ((Below.refl _ wr).alloc (yAC _) (.cells #[.slice (some ⟨gp,0,none⟩) W cp] 24))
              obtain⟨vs,hv1,hv2⟩:=h4.hd
              have hv1':=hv1
              rw[hDl]at hv1'
              have hpl:=HPLS.out
              rw[<- HDN.out]at hpl
              have HPL2:=hid hpl
              have M1:=hid (show dn+1<=maxLen by unfold maxLen;omega)
              have M2:=hid (show(dn+1)*24<=140737488355328 by omega)
              have M2':=hid (show(dn+1)*8<=140737488355328 by omega)
              have M3:=hid (yAF h4.hw h4.hR)
              have H4:=hid h4
              have HV1:=hid hv1
              have HV1':=hid hv1'
              have HV2:=hid hv2
              have HDL:=hid hDl
              have HST3:=hid hst3
              clear h4 hv1 hv1' hv2 hDl hst3 hD hall hS hpl hk hkl
              go_wp2_with (at_builtin;refine zAN _ rfl (.tmp 105) (.tmp 107) 22 rfl w.heap.size 24 (.slice none 0 0) 1 24 Tryz.underlying22 zEP rfl yBH (.slice da dn dc) dn vs rfl HV1'.out (some ⟨wr.heap.size,0,none⟩) 1 1 [.slice (some ⟨gp,0,none⟩) W cp] rfl rfl zBS (zBC wr _ _) (zBL _ _ _) M1.out M2.out M3.out ?_;refine Stop.of ?_)
              refine Stop.go ?_
              intro a5 c5 w5 own5 g5
              obtain⟨e1,e2,e3,e4⟩:=H4.out.onto HV1.out HV2.out g5 (d':=.slice a5 (dn+1) c5) (by rw[HDL.out];exact own5)
              have hal:Below w5.heap.size w5 (w5.alloc (.cells #[.int .i64 j] 3)):=(Below.refl _ _).alloc (yAC _) _
              have E1:=hid (e1.below hal)
              have E2:=hid (e2.below hal)
              have E3:=hid (zBJ e3 hal)
              have E4:=hid (zAA e4 hal)
              have e3':=E3.out
              rw[HPL2.out]at e3'
              have E3':=hid e3'
              have M4:=hid E4.out.size
              clear e1 e2 e3 e4 e3' hal own5 g5
              go_wp2_with (at_builtin;refine zIZ _ rfl (.tmp 109) (.tmp 111) 24 rfl w.heap.size 3 (.int .i64 0) 1 8 Tryz.underlying24 zDN rfl yBH (.slice pa dn pc) dn _ rfl E3'.out ⟨w5.heap.size,0,none⟩ 1 1 [.int .i64 j] rfl rfl (zBC w5 _ _ _ rfl) (zEL _) M1.out M2'.out M4.out ?_;refine Stop.of ?_)
              refine Stop.go ?_
              intro a6 c6 w6 own6 g6 hat6
              have hfin:=red_end E1.out E2.out E3.out E4.out g6 (by rw[World.size_alloc];exact hat6) (by rw[HPL2.out];exact own6)
              have HFIN:=hid hfin
              clear hfin own6 g6 hat6
              go_wp2
              refine⟨⟨j+1,by omega,by go_num,?_⟩,by simp[intOf];omega⟩
              unfold RedI
              rw[HSUCC.out,HST3.out]
              exact HFIN.out
end
end Go.Proofs.YtlffndehhhpgjaaGreat

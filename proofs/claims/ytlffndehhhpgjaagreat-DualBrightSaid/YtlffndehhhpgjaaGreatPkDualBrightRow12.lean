/- Walks and plain laws for DualBrightRow, part 12. -/
import Derived.Deep.CutRange
import Derived.Test.YtlffndehhhpgjaaGreatPkDualBrightRow11
namespace Go.Proofs.YtlffndehhhpgjaaGreat
set_option linter.unusedVariables false
set_option linter.unusedSimpArgs false
set_option maxRecDepth 100000
set_option maxHeartbeats 4000000
open _root_.List renaming getElem?_eq_getElem → yAA, getElem_mem → yAH, take_succ_eq_append_getElem → yAI, take_of_length_le → yAL, mem_iff_getElem → yAM, length_append → yAN, getElem?_append_left → yAO, getElem?_append_right → yAQ, length_map → yAS, all_eq_true → yAT, length_take → yAU, getElem?_map → yAZ, length_cons → yBB, append_nil → yBC, map_append → yBF, getElem_cons_zero → yBG, pairwise_iff_getElem → yBI, mem_map → yBJ, getElem_append_right → yBL, mem_of_getElem? → yBM, getElem_append_left → yBO, mem_cons → yBP, length_eq_zero_iff → yBT, mem_singleton → yCB, length_nil → yCD, mem_range → yCH, filter_append → yCK, foldl_append → yCO, pairwise_cons → yCQ, mem_append → yCU, cons_append → yDG, nil_append → yDL, mem_filter → yDM, append_toArray → yDR, mem_append_left → yDZ, size_toArray → yED, push_toArray → yEF, length_filterMap_le → yEL, dropLast_concat_getLast → yEQ, mem_filterMap → yFM, contains_iff_mem → yFP
open _root_.Nat renaming le_refl → yAC, le_trans → yAF, lt_of_lt_of_le → yAJ, zero_le → yAK, mul_le_mul → yAV, one_pos → yBH, sub_self → yCF, pow_le_pow_right → yCG, add_zero → yDS
open _root_.Int renaming mul_le_mul_of_nonneg_right → yAX, eq_of_mul_eq_mul_left → yBE, lt_or_le → yBK, mul_pos → yBN, mul_neg_of_neg_of_pos → yBU, mul_nonneg → yBY, mul_ne_zero → yCE, lt_or_gt_of_ne → yCL, le_refl → yDE, toNat_natCast → yEG, eq_of_mul_eq_mul_right → yGA
open _root_.Array renaming getElem?_eq_some_iff → yAB, getElem?_eq_none → yCW, replicate_zero → yDI, replicate_succ → yDJ, toList_inj → yEO
open _root_.Option renaming getD_some → yBA
section
open Go.RowKit
def zPA(M:List (List Int))(n:Nat)(S:List Int):Option (List Int):=if S.length=0∨M.length+1<S.length then none else zIP M n S
theorem zRG{M:List (List Int)}{n:Nat}(h:MaskOk M n)(S:List Int):zOX M S=zDJ M S:=by
 have hc:=h.cols S
 exact(zIV hc.wid hc.le6 (fun r hr c _=>hc.one r hr c)).symm
theorem circ0_skip{M:List (List Int)}{n:Nat}{S:List Int}(h:S.length=0∨M.length+1<S.length):zPA M n S=none:=if_pos h
theorem circ0_no{M:List (List Int)}{n:Nat}{S:List Int}(hM:MaskOk M n)(h:(zDJ M S).length≠1):zPA M n S=none:=by
 unfold zPA
 split
 ·rfl
 ·unfold zIP
  rw[zRG hM]
  match zDJ M S,h with
  | [],_=>rfl
  | [l],h=>simp at h
  |_::_::_,_=>rfl
theorem circ0_zero{M:List (List Int)}{n:Nat}{S l:List Int}(hM:MaskOk M n)(h:zDJ M S=[l])(h0:l.contains 0=true):zPA M n S=none:=by
 unfold zPA
 split
 ·rfl
 ·unfold zIP;rw[zRG hM,h];simp only[h0];rfl
theorem circ0_yes{M:List (List Int)}{n:Nat}{S l:List Int}(hM:MaskOk M n)(hs:¬(S.length=0∨M.length+1<S.length))(h:zDJ M S=[l])(h0:l.contains 0=false):
 zPA M n S=some (if vec (zAK n S l S.length) (S[0]?.getD 0).toNat<0 then negF (zAK n S l S.length)else zAK n S l S.length):=by
 unfold zPA
 rw[if_neg hs]
 unfold zIP;rw[zRG hM,h];simp only[h0];rfl
def zOM(M:List (List Int))(n k:Nat):List (List Int):=((allS n).take k).filterMap (zPA M n)
theorem circK_succ{M:List (List Int)}{n k:Nat}(hk:k<(allS n).length):zOM M n (k+1)=zOM M n k++(zPA M n (allS n)[k]).toList:=by
 unfold zOM
 rw[yAI hk,zIL]
theorem circK_le(M:List (List Int))(n k:Nat):(zOM M n k).length<=(allS n).length:=by
 unfold zOM
 exact yAF (yEL _ _) (by rw[yAU];exact Nat.min_le_right _ _)
theorem circK_all{M:List (List Int)}{n k:Nat}(hM:MaskOk M n)(h:(allS n).length<=k):zOM M n k=zEN M n:=by
 unfold zOM
 rw[yAL h,circ_same hM]
 rfl
theorem zero_take{l:List Int}{t:Nat}(ht:t<l.length):(!(l.take (t+1)).contains 0)=((!(l.take t).contains 0)&&decide (l[t]?.getD 0≠0)):=by
 rw[yAI ht,yAA ht,yBA]
 have e:∀(l:List Int) (y:Int),(l++[y]).contains 0=(l.contains 0||decide (y=0)):=by
  intro l y
  rw[Bool.eq_iff_iff]
  simp only[yFP,yCU,yCB,Bool.or_eq_true,decide_eq_true_eq]
  constructor<;>rintro (h|h)<;>first|exact .inl h|exact .inr h.symm
 rw[e,Bool.not_or]
 congr 1
 by_cases h:l[t]=0<;>simp[h]
theorem sp_made(w:World)(k:Nat):zBD (w.alloc (.cells (madeCells #[.int .i64 0] k) 3)) w.heap.size (List.replicate k 0):=by
 have e:madeCells #[Value.int .i64 0] k=((List.replicate k (0:Int)).map (Value.int .i64)).toArray:=by
  apply yEO.1
  rw[toList_madeCells_one];simp
 exact⟨[],by rw[World.alloc_heap_new,e,yBC]⟩
theorem r3Circuits_c(w:World)(a:Option Addr)(n cap:Nat)(M:Mask)(hn:M.length=n)(hm:n<=maxLen)(H:zAM w a M):
 Calls Tryz.prog 122 #[.slice a n cap] w fun e w'=>∃v base,w.heap.size<=base∧Below w.heap.size w w'∧
  ((okM M=false∧e=.returned (.tuple #[.slice none 0 0,.int .i64 1]))∨(okM M=true∧e=.returned (.tuple #[v,.int .i64 0])∧TabS w' base v (zEN M (zAD M)))):=by
 have HV:=hid (zND w a n cap M hn hm H)
 cases hok:okM M
 ·rw[hok]at HV
  clear hn H
  go_enter Tryz.func122,Tryz.ntmps122
  go_wp2_with (go_at_call 68;refine HV.out.mono ?_;rintro e w1 ⟨rfl,rfl⟩)
  go_ret2
  exact⟨.slice none 0 0,w.heap.size,yAC _,Below.refl _ _,.inl ⟨by first|trivial|rfl,rfl⟩⟩
 ·rw[hok]at HV
  obtain⟨hM,h1,h6,hc1,hc10⟩:=zCR hok
  obtain⟨b,off,ra,rc,rfl,hb,hc⟩:=zCT H (by omega)
  have HMN:=hid hn
  obtain⟨W,hW⟩:=exq (zAD M)
  rw[<- hW]at hc hc1 hc10 hM⊢
  have HALL:=hid (fun k (h:(allS W).length<=k)=>circK_all hM h)
  have HCC:=hid (fun(X:World) (hX:Below w.heap.size w X)=>show X.cell? ⟨b,off,none⟩=some (.slice ra W rc)from(hX.cell (p:=⟨b,off,none⟩) hb).trans hc)
  have HCOL:=hid (fun(X:World) (hX:Below w.heap.size w X) (x:List Int) (a2:Option Addr) (k2 cap2:Nat) (hk:x.length=k2) (hk2:k2<=1000) (hx:zAH X a2 x) (hS:∀j∈x,0<=j∧j<(W:Int))=>
   r3columns_c X (some ⟨b,off,none⟩) n cap M hn (by omega) (H.below hX) a2 k2 cap2 x hk hk2 hx (fun r hr j hj=>by rw[hM.wid r hr];exact hS j hj))
  have HKER:=hid (fun(X:World) (x:List Int) (a3:Option Addr) (c3:Nat) (h0:1<=x.length) (h10:x.length<=1000) (hR:zAM X a3 (zAO M x))=>
   r3kernel_c X a3 n c3 (zAO M x) (by rw[zBA];exact hn) (by omega) x.length h0 h10 (hM.cols x) hR)
  have HKF:=hid (fun(x:List Int) (l:List Int) (hl:l∈zDJ M x)=>zNS hM hl)
  have HSK:=hid (fun(x:List Int) (h:x.length=0∨n+1<x.length)=>circ0_skip (M:=M) (n:=W) (S:=x) (by rw[hn];exact h))
  have HNO:=hid (fun(x:List Int) (h:(zDJ M x).length≠1)=>circ0_no (S:=x) hM h)
  have HZE:=hid (fun(x l:List Int) (h:zDJ M x=[l]) (h0:l.contains 0=true)=>circ0_zero hM h h0)
  have HYE:=hid (fun(x l:List Int) (hs:¬(x.length=0∨n+1<x.length)) (h:zDJ M x=[l]) (h0:l.contains 0=false)=>circ0_yes hM (by rw[hn];exact hs) h h0)
  have HSU:=hid (fun(k:Nat) (hk:k<(allS W).length)=>circK_succ (M:=M) hk)
  have HLE:=hid (fun(k:Nat)=>circK_le M W k)
  have HAOK:=hid (fun(x:List Int) (hx:x∈allS W)=>zOO hx)
  have HA20:=hid (allS_le hc10)
  have hn6:n<=6:=by omega
  have hn1:1<=n:=by omega
  have hni:(0:Int)<(n:Int):=by omega
  obtain⟨A,hA⟩:=exq (allS W)
  have HSETS:=hid (fun(X:World)=>r3sets_c X W hc10)
  rw[<- hA]at HALL HSU HLE HAOK HA20 HSETS
  obtain⟨N,hN⟩:=exq (A.length)
  rw[<- hN]at HALL HLE HA20
  have HN:=hid hN
  have hN20:=HA20.out
  have hcw:=HCC.out w (Below.refl _ _)
  clear hn H hok hc hM hW hA hN h1 h6 hb
  go_enter Tryz.func122,Tryz.ntmps122
  go_wp2_with (go_at_call 68;refine HV.out.mono ?_;rintro e w1 ⟨rfl,rfl⟩;refine Stop.of ?_)
  refine Stop.go ?_
  go_wp2_with (go_at_call 182;refine(HSETS.out w).mono ?_;rintro e w2 ⟨vS,rfl,hTS,hb2⟩;refine Stop.of ?_)
  refine Stop.go ?_
  obtain⟨sa,sc,rfl⟩:∃a c,vS=.slice a N c:=by
   obtain⟨_,ho1,_⟩:=hTS
   obtain⟨a',c',e⟩:=zAC ho1
   exact⟨a',c',by rw[e,HN.out]⟩
  have hRS:=hTS.rows HN.out.symm (fun r hr=>by have:=(HAOK.out r hr).1;unfold maxLen;omega)
  have HRS:=hid hRS
  have HB2:=hid hb2
  clear hTS hRS hb2 HSETS HV
  go_wp2
  go_loopw [4,21] (fun v i wr=>∃k:Nat,k<=N∧i=.int .i64 k∧TabS wr w2.heap.size v (zOM M W k)∧Below w2.heap.size w2 wr) (fun _ i _=>N-(intOf i).toNat)
  case atStart=>exact⟨0,yAK _,rfl,TabS.nil _ _,Below.refl _ _⟩
  case round=>
   obtain⟨k,hk,rfl,ho,hbk⟩:=hrel
   obtain⟨wo,hwo⟩:=exq (wr)
   subst hwo
   by_cases hlt:k<N
   ·have hkA:k<A.length:=by rw[<- HN.out];exact hlt
    obtain⟨bs,os,xa,xn,xc,rfl,hbs,hq0,hxn,hxm,hxi⟩:=(HRS.out.below hbk) k hkA
    have hsu:=HSU.out k hkA
    have haok:=HAOK.out A[k] (yAH _)
    obtain⟨x,hx⟩:=exq (A[k])
    rw[<- hx]at hsu haok hxn hxi
    obtain⟨hxW,hxo⟩:=haok
    have hxr:∀j∈x,0<=j∧j<(W:Int):=fun j hj=>hxo.2 j hj
    have hle:=HLE.out k
    obtain⟨T,hT⟩:=exq (zOM M W k)
    rw[<- hT]at hsu hle ho
    obtain⟨tl,htl⟩:=exq (T.length)
    rw[<- htl]at hle
    obtain⟨va,vc,rfl⟩:∃la lc,u4=.slice la tl lc:=by
     obtain⟨_,ho1,_⟩:=ho
     obtain⟨a',c',e⟩:=zAC ho1
     exact⟨a',c',by rw[e,htl]⟩
    have HSUX:=hid hsu
    have HXI:=hid hxi
    have HXN:=hid hxn
    have HXR:=hid hxr
    have HXO:=hid hxo
    have HO:=hid ho
    have HBK:=hid hbk
    have HTL:=hid htl
    have hxn10:xn<=10:=by omega
    have hcwo:=HCC.out wo (zAA HB2.out hbk)
    have hxp:∀(X:World),Below wo.heap.size wo X->zPA M W x=none->TabS X w2.heap.size (.slice va tl vc) (zOM M W (k+1))∧Below w2.heap.size w2 X:=fun X hX e=>by
     rw[HSUX.out,e]
     simp only[Option.toList_none,yBC]
     exact⟨HO.out.below hX,zAA HBK.out hX⟩
    have HXP:=hid hxp
    clear hx hkA hsu hxW hxo hxr hT htl ho hbk hxi hxm hxn hxp
    have hki:(k:Int)<(N:Int):=by omega
    by_cases hskip:xn=0∨n+1<xn
    ·have hno:=HSK.out x (by rw[HXN.out];exact hskip)
     obtain⟨q1,q2⟩:=HXP.out wo (Below.refl _ _) hno
     have Q1:=hid q1
     have Q2:=hid q2
     clear q1 q2 hno
     rcases hskip with rfl|hsk
     ·go_wp2
      exact⟨⟨k+1,by omega,by go_num,Q1.out,Q2.out⟩,by simp[intOf];omega⟩
     ·have hx0:((xn:Int)==0)=false:=by simp;omega
      have hsk2:(n:Int)+1<(xn:Int):=by omega
      go_wp2
      exact⟨⟨k+1,by omega,by go_num,Q1.out,Q2.out⟩,by simp[intOf];omega⟩
    ·have HSKIP:=hid hskip
     have hx1:1<=xn:=by omega
     have hx0:((xn:Int)==0)=false:=by simp;omega
     have hsk2:¬(n:Int)+1<(xn:Int):=by omega
     have HC1:=hid (HCOL.out wo (zAA HB2.out HBK.out) x xa xn xc HXN.out (by omega) HXI.out HXR.out)
     clear hskip
     go_wp2_with (go_at_call 184;refine HC1.out.mono ?_;rintro e w3 ⟨v3,rfl,hT3,hb3⟩;refine Stop.of ?_)
     refine Stop.go ?_
     obtain⟨ca,cc,rfl⟩:∃a c,v3=.slice a n c:=by
      obtain⟨_,ho1,_⟩:=hT3
      obtain⟨a',c',e⟩:=zAC ho1
      exact⟨a',c',by rw[e,zBA];exact congrArg (fun z=>Value.slice a' z c') HMN.out⟩
     have hkeq:zDJ M x=zII (RP (zAO M x) x.length) (JP (zAO M x) x.length) x.length:=rfl
     have hR3:=hT3.rows (by rw[zBA];exact HMN.out) (fun r hr=>by rw[colsF_wid M x r hr,HXN.out];unfold maxLen;omega)
     have HK1:=hid (HKER.out w3 x ca cc (by rw[HXN.out];exact hx1) (by rw[HXN.out];omega) hR3)
     rw[<- hkeq]at HK1
     have HB3:=hid hb3
     clear hT3 hR3 hb3 hkeq HC1
     have hKF:=HKF.out x
     have hNO:=HNO.out x
     have hZE:=HZE.out x
     have hYE:=fun l=>HYE.out x l (by rw[HXN.out];exact HSKIP.out)
     obtain⟨K,hK⟩:=exq (zDJ M x)
     rw[<- hK]at HK1 hKF hNO hZE hYE
     have HKFX:=hid hKF
     have HNOX:=hid hNO
     have HZEX:=hid hZE
     have HYEX:=hid hYE
     clear hK hKF hNO hZE hYE
     go_wp2_with (go_at_call 183;refine HK1.out.mono ?_;rintro e w4 ⟨v4,base4,rfl,hbs4,hT4,hb4⟩;refine Stop.of ?_)
     refine Stop.go ?_
     have HB4:=hid (zAA HB3.out hb4)
     clear HK1 HB3 hb4 hbs4
     obtain⟨kl,hkl⟩:=exq (K.length)
     obtain⟨ka,kc,rfl⟩:∃a c,v4=.slice a kl c:=by
      obtain⟨_,ho1,_⟩:=hT4
      obtain⟨a',c',e⟩:=zAC ho1
      exact⟨a',c',by rw[e,hkl]⟩
     by_cases hk1:kl=1
     ·subst hk1
      obtain⟨l,rfl⟩:=List.length_eq_one_iff.1 hkl.symm
      obtain⟨hll,hlb⟩:=HKFX.out l (by simp)
      rw[HXN.out]at hll
      have hR4:=hT4.rows rfl (fun r hr=>by rw[yCB.1 hr,hll];unfold maxLen;omega)
      obtain⟨kb,ko,la,ln,lc,rfl,hkb,hkc,hln,hlm,hli⟩:=hR4 0 (by simp)
      simp only[yBG,yDS]at hkc hln hli
      obtain rfl:ln=xn:=by omega
      have HLI:=hid hli
      have HLL:=hid hll
      have HLB:=hid hlb
      have hcw4:=HCC.out w4 (zAA HB2.out (zAA HBK.out HB4.out))
      have HXI4:=hid (HXI.out.below HB4.out)
      clear hT4 hR4 hkl hll hlb hln hlm hli hcwo
      have hmk:∀w,(Instr.makeSlice 24 (.int .i64 (W:Int)) (.int .i64 (W:Int))).run Tryz.prog w=.ok (.slice (some ⟨w.heap.size,0,none⟩) W W) (w.alloc (.cells (madeCells #[.int .i64 0] W) 3)):=
       fun w=>run_make_row' 24 3 (.int .i64 0) 8 Tryz.underlying24 zDN rfl .i64 .i64 W (by omega) (by omega) w
      obtain⟨w7,hw7⟩:=exq (w4.alloc (.cells (madeCells #[.int .i64 0] W) 3))
      have hr7:zBD w7 w4.heap.size (List.replicate W 0):=by rw[hw7];exact sp_made w4 W
      have hb7:Below w4.heap.size w4 w7:=by rw[hw7];exact(Below.refl _ _).alloc (yAC _) _
      have hs7:w7.heap.size=w4.heap.size+1:=by rw[hw7];simp
      have HR7:=hid hr7
      have HB7:=hid hb7
      have HW7:=hid hw7
      clear hr7 hb7 hw7
      go_wp2
      rw[<- HW7.out]
      clear hmk
      go_loopw [9,50] (fun v i wr=>∃t:Nat,t<=ln∧i=.int .i64 t∧v=.bool (!(l.take t).contains 0)∧zBD wr w4.heap.size (zAK W x l t)∧Keep (fun q=>q≠w4.heap.size) w7 wr) (fun _ i _=>ln-(intOf i).toNat)
      case atStart=>exact⟨0,yAK _,rfl,rfl,HR7.out,Keep.refl _ _⟩
      case round=>
       obtain⟨t,ht,rfl,rfl,hr,hkp⟩:=hrel
       have hb47:Below w4.heap.size w4 wr:=hkp.below HB7.out (by omega) (fun q hq=>by omega)
       have hlenF:(zAK W x l t).length=W:=zCJ _ _ _ _
       have hkcr:wr.cell? ⟨kb,ko,none⟩=some (.slice la ln lc):=(hb47.cell (p:=⟨kb,ko,none⟩) hkb).trans hkc
       have hkne:kb≠w4.heap.size:=by omega
       by_cases hlq:t<ln
       ·have htx:t<x.length:=by rw[HXN.out];exact hlq
        have htl2:t<l.length:=by rw[HLL.out];exact hlq
        obtain⟨b7,o7,rfl,hb7,hc7⟩:=HXI4.out t htx
        obtain⟨b8,o8,rfl,hb8,hc8⟩:=HLI.out t htl2
        have hc7r:wr.cell? ⟨b7,o7+t,none⟩=some (.int .i64 (x[t]?.getD 0)):=(hb47.cell (p:=⟨b7,o7+t,none⟩) hb7).trans hc7
        have hc8r:wr.cell? ⟨b8,o8+t,none⟩=some (.int .i64 (l[t]?.getD 0)):=(hb47.cell (p:=⟨b8,o8+t,none⟩) hb8).trans hc8
        have h8ne:b8≠w4.heap.size:=by omega
        have hpb:=HXO.out.get htx
        have hsn:=zCW W x l t
        have hzt:=zero_take htl2
        have hxq:x[t]?.getD 0=x[t]:=by rw[yAA htx];rfl
        rw[hxq]at hc7r hsn
        obtain⟨p,hp⟩:∃p:Nat,x[t]=(p:Int):=⟨(x[t]).toNat,by omega⟩
        rw[hp]at hc7r hpb hsn
        rw[yEG]at hsn
        obtain⟨hp0,hpW⟩:=hpb
        obtain⟨z,hz⟩:=exq (l[t]?.getD 0)
        rw[<- hz]at hc8r hsn hzt
        have hpW':p<W:=by omega
        have hoc:=hr.cell (j:=p) (by rw[hlenF];exact hpW')
        obtain⟨y,hy⟩:=exq ((zAK W x l t)[p]?.getD 0)
        rw[<- hy]at hoc
        have hof:=hr.frozen p
        have hlt3:=hr.lt
        have HSET:=hid (hr.set p (by rw[hlenF];exact hpW') z)
        rw[<- hsn]at HSET
        have HKP:=hid (hkp.trans (Keep.set wr w4.heap.size p (.int .i64 z)))
        have HZT:=hid hzt
        have i1:(0:Int)<=(t:Int):=by omega
        have i2:(t:Int)<(ln:Int):=by omega
        obtain⟨fr,hfr⟩:=exq (!(l.take t).contains 0)
        rw[<- hfr]at HZT⊢
        clear hxq hp hz hy hsn hzt hfr htx htl2 hlenF hr hkp hb47 hc7 hc8 hb7 hb8
        cases fr
        ·go_wp2
         exact⟨⟨t+1,hlq,by go_num,by rw[HZT.out];rfl,HSET.out,HKP.out⟩,by simp[intOf];omega⟩
        ·by_cases hz0:z=0
         ·subst hz0
          go_wp2
          exact⟨⟨t+1,hlq,by go_num,by rw[HZT.out];rfl,HSET.out,HKP.out⟩,by simp[intOf];omega⟩
         ·have hzb:(z !=0)=true:=by simpa using hz0
          have HZB:=hid (show(true&&decide (z≠0))=true by simpa using hz0)
          clear hz0
          go_wp2
          exact⟨⟨t+1,hlq,by go_num,by rw[HZT.out,HZB.out],HSET.out,HKP.out⟩,by simp[intOf];omega⟩
       ·obtain rfl:ln=t:=by omega
        have e:l.take ln=l:=yAL (by rw[HLL.out];exact yAC _)
        rw[e]
        cases h0:l.contains 0
        ·have HSOME:=hid (HYEX.out l rfl h0)
         rw[show(!false)=true from rfl]
         have hx0l:0<x.length:=by rw[HXN.out];exact hx1
         obtain⟨b7,o7,rfl,hb7,hc7⟩:=HXI4.out 0 hx0l
         have hc7r:wr.cell? ⟨b7,o7,none⟩=some (.int .i64 (x[0]?.getD 0)):=(hb47.cell (p:=⟨b7,o7+0,none⟩) hb7).trans hc7
         have hpb:=HXO.out.get hx0l
         have hxq:x[0]?.getD 0=x[0]:=by rw[yAA hx0l];rfl
         have hso:=HSOME.out
         rw[hxq]at hc7r hso
         obtain⟨p,hp⟩:∃p:Nat,x[0]=(p:Int):=⟨(x[0]).toNat,by omega⟩
         rw[hp]at hc7r hpb hso
         rw[yEG,HXN.out]at hso
         obtain⟨hp0,hpW⟩:=hpb
         have hpW':p<W:=by omega
         have hoc:=hr.cell (j:=p) (by rw[hlenF];exact hpW')
         have hov:(zAK W x l ln)[p]?.getD 0=vec (zAK W x l ln) p:=rfl
         rw[hov]at hoc
         have hsb:∀y∈zAK W x l ln,-518400<=y∧y<=518400:=fun y hy=>zKJ (P:=fun z=> -518400<=z∧z<=518400) (by decide) HLB.out ln y hy
         obtain⟨Sp,hSp⟩:=exq (zAK W x l ln)
         rw[<- hSp]at hoc hso hlenF hr hsb
         have HSC:=hid (zPO wr (some ⟨w4.heap.size,0,none⟩) W W Sp hlenF (by omega) hr.ints (fun y hy=>by have:=hsb y hy;omega))
         have hrs:RowS wr (.slice (some ⟨w4.heap.size,0,none⟩) W W) Sp:=.inl ⟨w4.heap.size,W,by rw[hlenF],hr⟩
         obtain⟨z,hz⟩:=exq (vec Sp p)
         rw[<- hz]at hoc hso
         obtain⟨R,hR⟩:=exq ((if z<0 then negF Sp else Sp))
         rw[<- hR]at hso
         have hRl:R.length=W:=by rw[hR];split<;>simp[negF,hlenF]
         have HR1:=hid (fun(h:z<0)=>show R=negF Sp by rw[hR,if_pos h])
         have HR2:=hid (fun(h:¬z<0)=>show R=Sp by rw[hR,if_neg h])
         have HSO:=hid hso
         have HRS2:=hid hrs
         have HB47:=hid hb47
         have HRL:=hid hRl
         have HNL:=hid (show(negF Sp).length=W by unfold negF;rw[yAS];exact hlenF)
         have hpi:(p:Int)<(W:Int):=by omega
         have hpi0:(0:Int)<=(p:Int):=by omega
         have hl0:(0:Int)<(ln:Int):=by omega
         clear e h0 HSOME hb7 hc7 hxq hso hp hsb hSp hrs hz hR hRl hlenF hr hkp hb47 hx0l hov hlq ht
         obtain⟨wz,hwz⟩:=exq (wr)
         subst hwz
         go_upto_if 83 with fail
         go_cut [8]from 22 to 90 (fun v wx=>RowS wx v R∧Below wz.heap.size wz wx)
         case first=>
          by_cases hz0:z<0
          ·have HE:=hid (HR1.out hz0)
           go_wp2_with (go_at_call 185;refine HSC.out.mono ?_;rintro e w9 ⟨v9,rfl,ho9,hb9⟩)
           go_meet
           case rel=>
            refine⟨?_,hb9⟩
            rw[HE.out]
            exact zHW ho9 HNL.out
          ·have HE:=hid (HR2.out hz0)
           go_wp2
           go_meet
           case rel=>
            refine⟨?_,Below.refl _ _⟩
            rw[HE.out]
            exact HRS2.out
         case rest=>
          obtain⟨hrow,hbc⟩:=hcut
          obtain⟨ua,uc,hu⟩:=hrow.slice
          rw[HRL.out]at hu
          subst hu
          have hboc:Below wo.heap.size wo wc:=zAA (zAA HB4.out HB47.out) hbc
          have hb2a:Below wo.heap.size wo (wc.alloc (.cells #[.slice ua W uc] 24)):=hboc.alloc hboc.size _
          obtain⟨vs,hv1,hv2⟩:=HO.out.below hb2a
          have hv1':=hv1
          rw[<- HTL.out]at hv1'
          have M1:=hid (show tl+1<=maxLen by unfold maxLen;omega)
          have M2:=hid (show(tl+1)*24<=140737488355328 by omega)
          have M3:=hid (zAA HBK.out hb2a).size
          have HV1:=hid hv1
          have HV1':=hid hv1'
          have HV2:=hid hv2
          have HRW:=hid (hrow.below ((Below.refl _ wc).alloc (yAC _) (.cells #[.slice ua W uc] 24)))
          have HBF:=hid (zAA HBK.out hb2a)
          clear hrow hbc hboc hb2a hv1 hv1' hv2
          go_wp2_with (at_builtin;refine zAN _ rfl (.tmp 86) (.tmp 88) 22 rfl w2.heap.size 24 (.slice none 0 0) 1 24 Tryz.underlying22 zEP rfl yBH (.slice va tl vc) tl vs rfl HV1'.out (some ⟨wc.heap.size,0,none⟩) 1 1 [.slice ua W uc] rfl rfl zBS (zBC wc _ _) (zBL _ _ _) M1.out M2.out M3.out ?_;refine Stop.of ?_)
          refine Stop.go ?_
          intro a5 c5 w5 own5 g5
          have hsn5:TabS w5 w2.heap.size (.slice a5 (tl+1) c5) (T++[R]):=TabS.snoc HV1.out HV2.out (Below.refl _ _) HRW.out g5 (by rw[<- HTL.out];exact own5)
          have hB5:Below w2.heap.size w2 w5:=HBF.out.grown g5 M3.out fun q hq=>(zCE HV1'.out hq).1
          have hfin:zOM M W (k+1)=T++[R]:=by rw[HSUX.out,HSO.out];rfl
          rw[<- hfin]at hsn5
          have HSN5:=hid hsn5
          have HBN5:=hid hB5
          clear hsn5 hB5 hfin own5 g5
          go_wp2
          exact⟨⟨k+1,by omega,by go_num,HSN5.out,HBN5.out⟩,by simp[intOf];omega⟩
        ·obtain⟨q1,q2⟩:=HXP.out wr (zAA HB4.out hb47) (HZEX.out l rfl h0)
         have Q1:=hid q1
         have Q2:=hid q2
         rw[show(!true)=false from rfl]
         clear q1 q2 h0 e hr hkp hb47 hlenF
         go_wp2
         exact⟨⟨k+1,by omega,by go_num,Q1.out,Q2.out⟩,by simp[intOf];omega⟩
     ·have hno:=HNOX.out (by rw[<- hkl];exact hk1)
      obtain⟨q1,q2⟩:=HXP.out w4 HB4.out hno
      have Q1:=hid q1
      have Q2:=hid q2
      have hkb:((kl:Int) !=1)=true:=ne_one hk1
      clear q1 q2 hno hT4 hkl
      go_wp2
      exact⟨⟨k+1,by omega,by go_num,Q1.out,Q2.out⟩,by simp[intOf];omega⟩
   ·obtain rfl:N=k:=by omega
    have e:=HALL.out N (yAC _)
    rw[e]at ho
    have HO:=hid ho
    have HB:=hid (zAA HB2.out hbk)
    clear e ho hbk
    go_wp2
    go_ret2
    exact⟨_,w2.heap.size,HB2.out.size,HB.out,.inr ⟨by first|trivial|rfl,rfl,HO.out⟩⟩
end
section
open Go.RowKit
theorem light_c(w:World)(a:Option Addr)(n cap:Nat)(M:Mask)(hn:M.length=n)(hm:n<=maxLen)(H:zAM w a M):
 Calls Tryz.prog 16 #[.slice a n cap] w fun e w'=>SomeB e∧w=w':=by
 have HN:=hid hn
 have HH:=hid H
 clear hn H
 unfold maxLen at hm
 go_enter Tryz.func16,Tryz.ntmps16
 go_wp2
 go_loop [3,8] (fun s i=>∃k:Nat,k<=n∧i=.int .i64 k∧∃z:Int,s=.int .i64 z) (fun _ i=>n-(intOf i).toNat)
 case atStart=>exact⟨0,yAK _,rfl,_,rfl⟩
 case round=>
  obtain⟨k,hk,rfl,z,rfl⟩:=hrel
  by_cases hlt:k<n
  ·have hkl:k<M.length:=by rw[HN.out];exact hlt
   obtain⟨b,off,ra,rn,rc,rfl,hbs,hq0,hrn,hrm,hri⟩:=HH.out k hkl
   clear hrn hri hkl hrm
   by_cases h7:(7:Int)<(rn:Int)
   ·by_cases h10:(rn:Int)<=10
    ·go_wp2
     go_ret
     exact⟨⟨_,rfl⟩,rfl⟩
    ·go_wp2
     go_round
     case rel=>exact⟨k+1,by omega,by go_num,_,rfl⟩
     case measure=>simp[intOf];omega
   ·go_wp2
    go_round
    case rel=>exact⟨k+1,by omega,by go_num,_,rfl⟩
    case measure=>simp[intOf];omega
  ·go_wp2
   go_ret
   exact⟨⟨_,rfl⟩,rfl⟩
end
section
open Go.RowKit
theorem named_of{W:Nat}{l:List Int}(h:zCI W l):zEE W l=0:=by
 have h1:ascB l=true:=by
  unfold ascB
  rw[decide_eq_true_eq]
  intro i hi
  rw[yAA (by omega),yAA (by omega)]
  exact yBI.1 h.1 i (i+1) (by omega) (by omega) (by omega)
 unfold zEE
 rw[if_pos h1,if_pos]
 rw[yAT]
 intro p hp
 have:=h.2 p hp
 unfold inB;simp;omega
theorem pix_of{M:Mask}{S:List Int}(hM:okM M=true)(h:zCI (zAD M) S):pixE M S=0:=by unfold pixE;rw[if_pos hM,named_of h]
theorem zRV{M:Mask}{y S:List Int}(hM:okM M=true)(hy:y.length=M.length)(hmil:milB y=true)(h:zCI (zAD M) S):zAV M y S=0:=by
 unfold zAV;rw[if_pos hM,if_pos hy,if_pos hmil,pix_of hM h]
end
section
theorem fits_mem{M:Mask}{y:List Int}(hM:okM M=true)(hy:y.length=M.length)(hmil:milB y=true){f:FitT}:f∈zBZ M y 10↔∃S,zCI (zAD M) S∧fitF M y S=some f:=by
 obtain⟨hO,hm1,_,hc1,hc10⟩:=zCR hM
 have hmil':∀v∈y,-1000000<=v∧v<=1000000:=fun v hv=>by have:=zHZ hmil v hv;omega
 unfold zBZ zBT
 rw[List.mem_flatMap]
 constructor
 ·rintro⟨j,_,hj⟩
  obtain⟨S,hS,hf⟩:=yFM.1 hj
  exact⟨S,zHR hS,hf⟩
 ·rintro⟨S,hS,hf⟩
  obtain⟨_,h1,_⟩:=zMJ hf
  have hsv:zCC M S y=zAX (zAJ (zAO M S) y) S.length:=by unfold zCC;rw[if_pos (zRV hM hy hmil hS)]
  rw[hsv]at h1
  obtain⟨hr,_⟩:=solve_to (hO.cols S) (by rw[zBA];exact hy) hmil' h1
  have hrk:=zQX (hO.cols S)
  rw[hr,zBA]at hrk
  have hW:=zPJ hS
  refine⟨S.length,yCH.2 (by omega),yFM.2 ⟨S,zJW (zAD M) 0 S hS.1 (fun y hy=>by have:=hS.2 y hy;omega),hf⟩⟩
theorem sum_supp{n:Nat}{k:Nat->Int}(r:Nat->Int):sm (fun i=>zGE (zBK n k) r i*vec ((zBK n k).map fun j=>k j.toNat) i) (zBK n k).length=sm (fun c=>r c*k c) n:=by
 have hS:=zET n k
 rw[<- zIC hS r _ (yAC _)]
 unfold dotS
 refine zAS fun c hc=>?_
 rw[zIQ hS (fun j hj hm=>?_) hc]
 rcases Classical.em (k j=0)with c|c
 ·exact c
 ·exact absurd (zCP.2 ⟨hj,c⟩) hm
theorem nrm_supp{n:Nat}{k:Nat->Int}:nrmI (vec ((zBK n k).map fun j=>k j.toNat)) (zBK n k).length=nrmI k n:=by
 have h:=sum_supp (n:=n) (k:=k) (fun c=>sgnI (k c))
 have e1:sm (fun c=>sgnI (k c)*k c) n=nrmI k n:=zAS fun c _=>zMA _
 rw[e1]at h
 rw[<- h]
 refine zAS fun i hi=>?_
 have e2:vec ((zBK n k).map fun j=>k j.toNat) i=k ((zBK n k)[i]).toNat:=by unfold vec;rw[yAZ,yAA hi];rfl
 have e3:zGE (zBK n k) (fun c=>sgnI (k c)) i=sgnI (k ((zBK n k)[i]).toNat):=by unfold zGE;rw[yAA hi]
 rw[e2,e3,zMA]
theorem fit_of_sol{M:Mask}{y:List Int}(hM:okM M=true)(hy:y.length=M.length)(hmil:milB y=true){k:Nat->Int}{E:Int}(hk:SolM M (zAD M) y k E)(hr:zDE (zAO M (zBK (zAD M) k)) (zBK (zAD M) k).length=(zBK (zAD M) k).length):
 ∃f,f∈zBZ M y 10∧f.1=zBK (zAD M) k∧f.2.length=f.1.length∧(∀i,i<f.1.length->(zAB f.2 i).1*E=k ((f.1[i]?.getD 0).toNat)*(zAB f.2 i).2)∧(∀i,0<(zAB f.2 i).2)∧(nrmQ f.2).1*E=(nrmQ f.2).2*nrmI k (zAD M)∧0<(nrmQ f.2).2:=by
 obtain⟨hO,hm1,_,hc1,hc10⟩:=zCR hM
 have hmil':∀v∈y,-1000000<=v∧v<=1000000:=fun v hv=>by have:=zHZ hmil v hv;omega
 have hS:=zET (zAD M) k
 have hy':y.length=(zAO M (zBK (zAD M) k)).length:=by rw[zBA];exact hy
 have hsys:∀q,q<(zAO M (zBK (zAD M) k)).length->sm (fun i=>rowv (zAO M (zBK (zAD M) k)) q i*vec ((zBK (zAD M) k).map fun j=>k j.toNat) i) (zBK (zAD M) k).length=vec y q*E:=by
  intro q hq
  rw[zBA]at hq
  rw[zIE,sum_supp,hk.2 q hq]
 obtain⟨k1,k2,k3⟩:=solve_of (hO.cols _) hy' hmil' hr (show E≠0 by have:=hk.1;omega) hsys
 obtain⟨_,_,_,_,_,_,_,hpos,_,_⟩:=zHG (hO.cols _) hy' hmil' k1
 have hsv:zCC M (zBK (zAD M) k) y=zAX (zAJ (zAO M (zBK (zAD M) k)) y) (zBK (zAD M) k).length:=by unfold zCC;rw[if_pos (zRV hM hy hmil hS)]
 have hvk:∀i (hi:i<(zBK (zAD M) k).length),vec ((zBK (zAD M) k).map fun j=>k j.toNat) i=k ((zBK (zAD M) k)[i]).toNat:=fun i hi=>by unfold vec;rw[yAZ,yAA hi];rfl
 obtain⟨P,hP⟩:=exq (zAX (zAJ (zAO M (zBK (zAD M) k)) y) (zBK (zAD M) k).length)
 rw[<- hP]at k1 k2 k3 hpos hsv
 have hfit:fitF M y (zBK (zAD M) k)=some (zBK (zAD M) k,P.1):=by
  unfold fitF
  rw[hsv,if_pos]
  refine⟨k1,yAT.2 fun r hr=>?_⟩
  obtain⟨i,hi,rfl⟩:=yAM.1 hr
  have hi':i<(zBK (zAD M) k).length:=by omega
  obtain⟨c1,c2,_⟩:=k3 i hi'
  have e1:zAB P.1 i=P.1[i]:=by unfold zAB;rw[yAA hi];rfl
  rw[e1,hvk i hi']at c1
  rw[e1]at c2
  have h0:k ((zBK (zAD M) k)[i]).toNat≠0:=by
   have hm:=yAH hi'
   have hb:=hS.get hi'
   rw[show(zBK (zAD M) k)[i]=((((zBK (zAD M) k)[i]).toNat:Nat):Int)by omega]at hm
   exact(zCP.1 hm).2
  rw[decide_eq_true_eq]
  intro e
  rw[e,Int.zero_mul]at c1
  exact yCE h0 (by omega) c1.symm
 have hvals:∀i,i<(zBK (zAD M) k).length->(zAB P.1 i).1*E=vec ((zBK (zAD M) k).map fun j=>k j.toNat) i*(zAB P.1 i).2:=fun i hi=>(k3 i hi).1
 have hn:=zJL hk.1 hpos (zBK (zAD M) k).length hvals
 rw[nrm_supp]at hn
 have hq:nrmQ P.1=zCU P.1 (zBK (zAD M) k).length:=by unfold nrmQ;rw[k2]
 refine⟨(zBK (zAD M) k,P.1),(fits_mem hM hy hmil).2 ⟨_,hS,hfit⟩,rfl,k2,fun i hi=>?_,hpos,by rw[hq];exact hn,by rw[hq];exact(zNK hpos _).1⟩
 have hi':i<(zBK (zAD M) k).length:=hi
 have:=hvals i hi'
 rw[hvk i hi']at this
 show(zAB P.1 i).1*E=k (((zBK (zAD M) k)[i]?.getD 0).toNat)*(zAB P.1 i).2
 rw[yAA hi']
 exact this
theorem zKL{M:Mask}{y:List Int}(hM:okM M=true)(hy:y.length=M.length)(hmil:milB y=true){f:FitT}(hf:f∈zBZ M y 10):
 zCI (zAD M) f.1∧f.2.length=f.1.length∧f.2.all zAL=true∧(∀r∈f.2,r.1≠0)∧0<(nrmQ f.2).2∧zAL (zBF (nrmQ f.2).1 (nrmQ f.2).2)=true∧zDE (zAO M f.1) f.1.length=f.1.length∧
  ∃(l:Nat->Int) (D:Int),SolM M (zAD M) y l D∧D<=288∧(∀c,c<zAD M->(c:Int)∉f.1->l c=0)∧(∀i (hi:i<f.1.length),(zAB f.2 i).1*D=l (f.1[i]).toNat*(zAB f.2 i).2)∧(nrmQ f.2).1*D=(nrmQ f.2).2*nrmI l (zAD M):=by
 obtain⟨hO,hm1,_,hc1,hc10⟩:=zCR hM
 have hmil':∀v∈y,-1000000<=v∧v<=1000000:=fun v hv=>by have:=zHZ hmil v hv;omega
 obtain⟨S,hS,hfit⟩:=(fits_mem hM hy hmil).1 hf
 obtain⟨rfl,h1,h2⟩:=zMJ hfit
 have hsv:zCC M S y=zAX (zAJ (zAO M S) y) S.length:=by unfold zCC;rw[if_pos (zRV hM hy hmil hS)]
 rw[hsv]at h1 h2⊢
 have hy':y.length=(zAO M S).length:=by rw[zBA];exact hy
 obtain⟨l,D,hD,hD288,k1,_,k3,hpos,hr,hv⟩:=zHG (hO.cols S) hy' hmil' h1
 obtain⟨n1,n2⟩:=solve_norm (hO.cols S) hy' hmil' h1
 have hlen:=zPI h1
 obtain⟨P,hP⟩:=exq ((zAX (zAJ (zAO M S) y) S.length).1)
 rw[<- hP]at h2 k1 hpos hv n1 n2 hlen⊢
 have hq:nrmQ P=zCU P S.length:=by unfold nrmQ;rw[hlen]
 -- spread
 have hL:((List.range S.length).map l).length=S.length:=by simp
 have hvL:∀i,i<S.length->vec ((List.range S.length).map l) i=l i:=fun i hi=>by unfold vec;rw[yAZ,List.getElem?_range hi];rfl
 have hin:∀i (hi:i<S.length),vec (zAK (zAD M) S ((List.range S.length).map l) S.length) (S[i]).toNat=l i:=fun i hi=>by
  rw[zDO hS S.length (yAC _) i hi hi]
  exact hvL i hi
 have hsum:∀r:Nat->Int,sm (fun i=>zGE S r i*l i) S.length=sm (fun c=>r c*vec (zAK (zAD M) S ((List.range S.length).map l) S.length) c) (zAD M):=fun r=>by
  have:=zIC (l:=(List.range S.length).map l) hS r S.length (yAC _)
  unfold dotS at this
  rw[this]
  exact zAS fun i hi=>by rw[hvL i hi]
 refine⟨hS,hlen,yAT.2 fun r hr=>?_,h2,by rw[hq];exact n1,by rw[hq];exact n2,hr,vec (zAK (zAD M) S ((List.range S.length).map l) S.length),D,⟨hD,fun q hq=>?_⟩,hD288,fun c hc hn=>zFA hS hn S.length (yAC _),fun i hi=>by rw[hin i hi];exact k1 i hi,?_⟩
 ·obtain⟨i,hi,rfl⟩:=yAM.1 hr
  have:=hv i
  unfold zAB at this
  rw[yAA hi]at this
  exact this
 ·have:=k3.2 q (by rw[zBA];exact hq)
  rw[zIE,hsum]at this
  exact this
 ·rw[hq,zJL hD hpos S.length k1]
  congr 1
  have h:=hsum (fun c=>sgnI (vec (zAK (zAD M) S ((List.range S.length).map l) S.length) c))
  have e1:sm (fun c=>sgnI (vec (zAK (zAD M) S ((List.range S.length).map l) S.length) c)*vec (zAK (zAD M) S ((List.range S.length).map l) S.length) c) (zAD M)=nrmI (vec (zAK (zAD M) S ((List.range S.length).map l) S.length)) (zAD M):=zAS fun c _=>zMA _
  rw[e1]at h
  rw[<- h]
  refine zAS fun i hi=>?_
  have e3:zGE S (fun c=>sgnI (vec (zAK (zAD M) S ((List.range S.length).map l) S.length) c)) i=sgnI (l i):=by
   unfold zGE;rw[yAA hi]
   simp only[]
   rw[hin i hi]
  rw[e3,zMA]
end
section
def zBG:List Int->List Int->Bool
 | [],[]=>false
 | [],_::_=>true
 |_::_,[]=>false
 |x::a,y::b=>if x=y then zBG a b else decide (x<y)
theorem zOE:∀a,zBG a a=false
 | []=>rfl
 |x::a=>by unfold zBG;rw[if_pos rfl];exact zOE a
theorem zFJ:∀a b,a=b∨zBG a b=true∨zBG b a=true
 | [],[]=>.inl rfl
 | [],_::_=>.inr (.inl rfl)
 |_::_,[]=>.inr (.inr rfl)
 |x::a,y::b=>by
  by_cases e:x=y
  ·subst e
   rcases zFJ a b with h|h|h
   ·exact .inl (by rw[h])
   ·exact .inr (.inl (by unfold zBG;rw[if_pos rfl];exact h))
   ·exact .inr (.inr (by unfold zBG;rw[if_pos rfl];exact h))
  ·rcases yCL e with h|h
   ·exact .inr (.inl (by unfold zBG;rw[if_neg e];simpa using h))
   ·exact .inr (.inr (by unfold zBG;rw[if_neg (fun h=>e h.symm)];simpa using h))
theorem zHQ:∀{a b},zBG a b=true->zBG b a=false
 | [],[],h=>by cases h
 | [],_::_,_=>rfl
 |_::_,[],h=>by cases h
 |x::a,y::b,h=>by
  unfold zBG at h⊢
  by_cases e:x=y
  ·subst e;rw[if_pos rfl]at h⊢;exact zHQ h
  ·rw[if_neg e]at h
   rw[if_neg (fun h=>e h.symm)]
   have:x<y:=by simpa using h
   rw[decide_eq_false_iff_not];omega
theorem zEW:∀{a b c},zBG a b=true->zBG b c=true->zBG a c=true
 | [],_,[],_,h=>by rename_i b _;cases b<;>cases h
 | [],_,_::_,_,_=>rfl
 |_::_,[],_,h,_=>by cases h
 |_::_,_::_,[],_,h=>by cases h
 |x::a,y::b,z::c,h1,h2=>by
  unfold zBG at h1 h2⊢
  by_cases e:x=y
  ·subst e
   rw[if_pos rfl]at h1
   by_cases e2:x=z
   ·subst e2;rw[if_pos rfl]at h2⊢;exact zEW h1 h2
   ·rw[if_neg e2]at h2⊢;exact h2
  ·rw[if_neg e]at h1
   have h1':x<y:=by simpa using h1
   by_cases e2:y=z
   ·subst e2;rw[if_neg e];exact h1
   ·rw[if_neg e2]at h2
    have h2':y<z:=by simpa using h2
    rw[if_neg (by omega)];simp;omega
def zBW(f:FitT):Rt:=zBF (nrmQ f.2).1 (nrmQ f.2).2
def cmpF(r s:Rt):Int:=cmpR r.1 r.2 s.1 s.2
def stepC(s:Rt×List FitT)(f:FitT):Rt×List FitT:=
 if s.2=[]∨cmpF (zBW f) s.1<0 then(zBW f,[f])else if cmpF (zBW f) s.1=0 then(s.1,s.2++[f])else s
def zBP(l:List FitT):Rt×List FitT:=l.foldl stepC ((0,0),[])
theorem zKO(l:List FitT)(f:FitT):zBP (l++[f])=stepC (zBP l) f:=by unfold zBP;rw[yCO];rfl
theorem zJY{r s:Rt}(hr:0<r.2)(hs:0<s.2):cmpF r s=cmpI (r.1*s.2) (s.1*r.2):=by
 unfold cmpF cmpR dF;rw[if_neg (by omega),if_neg (by omega)]
theorem zRS{r s:Rt}(hr:0<r.2)(hs:0<s.2):cmpF r s<0↔r.1*s.2<s.1*r.2:=by
 rw[zJY hr hs];unfold cmpI;split<;>(try split)<;>omega
theorem cmpF_zero{r s:Rt}(hr:0<r.2)(hs:0<s.2):cmpF r s=0↔r.1*s.2=s.1*r.2:=by
 rw[zJY hr hs];unfold cmpI;split<;>(try split)<;>omega
theorem low_eq{r s:Rt}(hr:zAL r=true)(hs:zAL s=true)(h:r.1*s.2=s.1*r.2):r=s:=by
 obtain⟨r1,r2⟩:=r
 obtain⟨s1,s2⟩:=s
 obtain⟨a1,_,_,_,a5⟩:=zAR.1 hr
 obtain⟨b1,_,_,_,b5⟩:=zAR.1 hs
 simp only[]at*
 rw[<- zHI a5,<- zHI b5]
 exact zMX (by omega) (by omega) h
theorem zPK:∀(l:List FitT),(∀f∈l,zAL (zBW f)=true)->(l=[]->zBP l=((0,0),[]))∧(l≠[]->(zBP l).2≠[]∧(∃f∈l,(zBP l).1=zBW f)∧
 (∀f∈l,(zBP l).1.1*(zBW f).2<=(zBW f).1*(zBP l).1.2)∧(zBP l).2=l.filter (fun f=>decide (zBW f=(zBP l).1))):=by
 intro l
 induction hn:l.length generalizing l with
 |zero=>
  intro _
  have:l=[]:=yBT.1 hn
  subst this
  exact⟨fun _=>rfl,fun h=>absurd rfl h⟩
 |succ n ih=>
  intro hv
  obtain⟨m,f,rfl⟩:∃m f,l=m++[f]:=⟨l.dropLast,l.getLast (by intro e;rw[e]at hn;simp at hn),(yEQ _).symm⟩
  have hml:m.length=n:=by simpa using hn
  have hvm:∀g∈m,zAL (zBW g)=true:=fun g hg=>hv g (yDZ _ hg)
  have hvf:zAL (zBW f)=true:=hv f (by simp)
  have pf:0<(zBW f).2:=by have:=(zAR.1 hvf).1;omega
  obtain⟨i1,i2⟩:=ih m hml hvm
  refine⟨fun h=>by simp at h,fun _=>?_⟩
  rw[zKO]
  by_cases hm:m=[]
  ·subst hm
   have e:stepC (zBP []) f=(zBW f,[f]):=by unfold stepC;rw[if_pos (.inl rfl)]
   rw[yDL,e]
   exact⟨by simp,⟨f,by simp,rfl⟩,fun g hg=>by rw[yCB.1 hg];exact yDE _,by simp⟩
  ·obtain⟨j1,⟨g0,hg0,j2⟩,j3,j4⟩:=i2 hm
   have ps:0<(zBP m).1.2:=by rw[j2];have:=(zAR.1 (hvm g0 hg0)).1;omega
   have vs:zAL (zBP m).1=true:=by rw[j2];exact hvm g0 hg0
   unfold stepC
   by_cases c1:(zBP m).2=[]∨cmpF (zBW f) (zBP m).1<0
   ·rw[if_pos c1]
    have c2:(zBW f).1*(zBP m).1.2<(zBP m).1.1*(zBW f).2:=by
     rcases c1 with c|c
     ·exact absurd c j1
     ·exact(zRS pf ps).1 c
    have hlt:∀g∈m,(zBW f).1*(zBW g).2<(zBW g).1*(zBW f).2:=fun g hg=>by
     have h1:=j3 g hg
     have pg:0<(zBW g).2:=by have:=(zAR.1 (hvm g hg)).1;omega
     have e1:(zBW f).1*(zBP m).1.2*(zBW g).2<(zBP m).1.1*(zBW f).2*(zBW g).2:=Int.mul_lt_mul_of_pos_right c2 pg
     have e2:(zBP m).1.1*(zBW g).2*(zBW f).2<=(zBW g).1*(zBP m).1.2*(zBW f).2:=yAX h1 (by omega)
     have e3:(zBW f).1*(zBW g).2*(zBP m).1.2<(zBW g).1*(zBW f).2*(zBP m).1.2:=by
      have x1:(zBW f).1*(zBW g).2*(zBP m).1.2=(zBW f).1*(zBP m).1.2*(zBW g).2:=by grind
      have x2:(zBP m).1.1*(zBW f).2*(zBW g).2=(zBP m).1.1*(zBW g).2*(zBW f).2:=by grind
      have x3:(zBW g).1*(zBW f).2*(zBP m).1.2=(zBW g).1*(zBP m).1.2*(zBW f).2:=by grind
      omega
     exact Int.lt_of_mul_lt_mul_right e3 (by omega)
    refine⟨by simp,⟨f,by simp,rfl⟩,fun g hg=>?_,?_⟩
    ·rcases yCU.1 hg with h|h
     ·exact Int.le_of_lt (hlt g h)
     ·rw[yCB.1 h];exact yDE _
    ·rw[yCK]
     have:m.filter (fun g=>decide (zBW g=zBW f))=[]:=by
      rw[List.filter_eq_nil_iff]
      intro g hg
      rw[decide_eq_true_eq]
      intro e
      have:=hlt g hg
      rw[e]at this
      omega
     show [f]=_
     rw[this];simp
   ·rw[if_neg c1]
    have c1':¬cmpF (zBW f) (zBP m).1<0:=fun h=>c1 (.inr h)
    have c3:(zBP m).1.1*(zBW f).2<=(zBW f).1*(zBP m).1.2:=by
     rcases yBK ((zBW f).1*(zBP m).1.2) ((zBP m).1.1*(zBW f).2)with h|h
     ·exact absurd ((zRS pf ps).2 h) c1'
     ·exact h
    have hle:∀g∈m++[f],(zBP m).1.1*(zBW g).2<=(zBW g).1*(zBP m).1.2:=fun g hg=>by
     rcases yCU.1 hg with h|h
     ·exact j3 g h
     ·rw[yCB.1 h];exact c3
    by_cases c2:cmpF (zBW f) (zBP m).1=0
    ·rw[if_pos c2]
     have e:zBW f=(zBP m).1:=low_eq hvf vs ((cmpF_zero pf ps).1 c2)
     refine⟨by simp,⟨g0,yDZ _ hg0,j2⟩,hle,?_⟩
     rw[yCK,<- j4]
     simp[e]
    ·rw[if_neg c2]
     refine⟨j1,⟨g0,yDZ _ hg0,j2⟩,hle,?_⟩
     rw[yCK,<- j4]
     have:¬zBW f=(zBP m).1:=fun e=>c2 ((cmpF_zero pf ps).2 (by rw[e]))
     simp[this]
def AscF(l:List FitT):Prop:=l.Pairwise (fun f g=>zBG f.1 g.1=true)
theorem asc_uniq{l m:List FitT}(hl:AscF l)(hm:AscF m)(h:l.Perm m):l=m:=
 List.Perm.eq_of_pairwise (fun a b _ _ h1 h2=>by rw[zHQ h1]at h2;cases h2) hl hm h
def insC(f:FitT):List FitT->List FitT
 | []=>[f]
 |g::l=>if zBG f.1 g.1=true then f::g::l else g::insC f l
def zOT(l:List FitT):List FitT:=l.foldl (fun o f=>insC f o) []
theorem zNW(f:FitT):∀l,(insC f l).Perm (f::l)
 | []=>List.Perm.refl _
 |g::l=>by
  unfold insC
  split
  ·exact List.Perm.refl _
  ·exact((zNW f l).cons g).trans (List.Perm.swap f g l)
theorem insC_asc{f:FitT}:∀{l:List FitT},AscF l->(∀g∈l,g.1≠f.1)->AscF (insC f l)
 | [],_,_=>by unfold insC AscF;simp
 |g::l,h,hn=>by
  unfold AscF at h
  rw[yCQ]at h
  unfold insC
  split
  ·rename_i c
   unfold AscF
   rw[yCQ]
   refine⟨fun x hx=>?_,yCQ.2 h⟩
   rcases yBP.1 hx with rfl|hx
   ·exact c
   ·exact zEW c (h.1 x hx)
  ·rename_i c
   have ih:=insC_asc (f:=f) h.2 (fun x hx=>hn x (by simp[hx]))
   unfold AscF
   rw[yCQ]
   refine⟨fun x hx=>?_,ih⟩
   rcases yBP.1 ((zNW f l).mem_iff.1 hx)with rfl|hx
   ·rcases zFJ x.1 g.1 with e|e|e
    ·exact absurd e.symm (hn g (by simp))
    ·exact absurd e c
    ·exact e
   ·exact h.1 x hx
theorem zKK:∀{l:List FitT},(l.map (·.1)).Nodup->AscF (zOT l)∧(zOT l).Perm l:=by
 intro l
 induction hn:l.length generalizing l with
 |zero=>
  intro _
  have:l=[]:=yBT.1 hn
  subst this
  exact⟨List.Pairwise.nil,List.Perm.refl _⟩
 |succ n ih=>
  intro hd
  obtain⟨m,f,rfl⟩:∃m f,l=m++[f]:=⟨l.dropLast,l.getLast (by intro e;rw[e]at hn;simp at hn),(yEQ _).symm⟩
  rw[yBF,List.nodup_append]at hd
  obtain⟨h1,h2⟩:=ih (by simpa using hn) hd.1
  have e:zOT (m++[f])=insC f (zOT m):=by unfold zOT;rw[yCO];rfl
  rw[e]
  refine⟨insC_asc h1 fun g hg e=>?_,(zNW f _).trans ((h2.cons f).trans (List.perm_append_singleton f m).symm)⟩
  have hg':=h2.mem_iff.1 hg
  exact hd.2.2 g.1 (yBJ.2 ⟨g,hg',rfl⟩) f.1 (by simp) e
def cornF(M:Mask)(y:List Int):List FitT:=zOT (zBP (zBZ M y 10)).2
end
section
def valF(M:Mask)(y:List Int):Rt:=(zBP (zBZ M y 10)).1
end
section
theorem zQC{x:List Rt}(hp:∀k,0<(zAB x k).2):∀n:Nat,∃(l:Nat->Int) (D:Int),0<D∧∀k,k<n->(zAB x k).1*D=l k*(zAB x k).2
 |0=>⟨fun _=>0,1,by decide,fun k h=>by omega⟩
 |n+1=>by
  obtain⟨l,D,hD,h⟩:=zQC hp n
  have hn:=hp n
  refine⟨fun k=>if k=n then(zAB x n).1*D else l k*(zAB x n).2,D*(zAB x n).2,yBN hD hn,fun k hk=>?_⟩
  by_cases e:k=n
  ·subst e;simp only[if_true];grind
  ·have:=h k (by omega)
   simp only[if_neg e]
   have e2:(zAB x k).1*(D*(zAB x n).2)=(zAB x k).1*D*(zAB x n).2:=by grind
   rw[e2,this];grind
theorem sumR_sol{r:List Int}{x:List Rt}{l:Nat->Int}{D:Int}(hD:0<D)(hp:∀k,0<(zAB x k).2):∀t,(∀k,k<t->(zAB x k).1*D=l k*(zAB x k).2)->(sumR r x t).1*D=(sumR r x t).2*sm (fun k=>vec r k*l k) t∧0<(sumR r x t).2
 |0,_=>⟨by simp[sumR,sm],by simp[sumR]⟩
 |t+1,h=>by
  obtain⟨ih,ip⟩:=sumR_sol (r:=r) hD hp t (fun k hk=>h k (by omega))
  have ht:=h t (by omega)
  have hpt:=hp t
  have e:sumR r x (t+1)=if vec r t≠0 then((sumR r x t).1*(zAB x t).2+(sumR r x t).2*((zAB x t).1*vec r t),(sumR r x t).2*(zAB x t).2)else sumR r x t:=rfl
  have e2:sm (fun k=>vec r k*l k) (t+1)=sm (fun k=>vec r k*l k) t+vec r t*l t:=rfl
  rw[e,e2]
  obtain⟨⟨a,b⟩,h1⟩:∃q,q=sumR r x t:=⟨_,rfl⟩
  obtain⟨⟨n,d⟩,h2⟩:∃q,q=zAB x t:=⟨_,rfl⟩
  obtain⟨S,hS⟩:=exq (sm (fun k=>vec r k*l k) t)
  obtain⟨v,hv⟩:=exq (vec r t)
  rw[<- h1,<- hS]at ih
  rw[<- h1]at ip
  rw[<- h2]at ht hpt
  rw[<- h1,<- h2,<- hS,<- hv]
  simp only[]at ih ip ht hpt⊢
  split
  ·refine⟨?_,yBN ip hpt⟩
   show(a*d+b*(n*v))*D=b*d*(S+v*l t)
   have e3:(a*d+b*(n*v))*D=a*D*d+b*v*(n*D):=by grind
   rw[e3,ih,ht];grind
  ·rename_i h0
   have h0':v=0:=Classical.not_not.1 h0
   subst h0'
   refine⟨?_,ip⟩
   rw[Int.zero_mul,Int.add_zero];exact ih
theorem all_pos{x:List Rt}(h:x.all zAL=true):∀k,0<(zAB x k).2:=fun k=>by
 unfold zAB
 cases e:x[k]? with
 |none=>decide
 |some r=>
  have:=yAT.1 h r (yBM e)
  rw[zAR]at this
  simp only[yBA];omega
theorem makes_iff{M:Mask}{x:List Rt}{y:List Int}(h0:rdE M y=0)(hl:x.length=zAD M)(hv:x.all zAL=true){l:Nat->Int}{D:Int}(hD:0<D)(h:∀k,k<zAD M->(zAB x k).1*D=l k*(zAB x k).2):zDA M x y=true↔SolM M (zAD M) y l D:=by
 have hp:=all_pos hv
 have key:=fun(i:Nat)=>sumR_sol (r:=M[i]?.getD []) hD hp (zAD M) h
 constructor
 ·intro hm
  unfold zDA at hm
  simp only[Bool.and_eq_true,decide_eq_true_eq]at hm
  refine⟨hD,fun q hq=>?_⟩
  obtain⟨k1,k2⟩:=key q
  have k3:=hm.2.2.2 q hq
  rw[k3]at k1
  have e:(sumR (M[q]?.getD []) x (zAD M)).2*sm (fun k=>vec (M[q]?.getD []) k*l k) (zAD M)=(sumR (M[q]?.getD []) x (zAD M)).2*(vec y q*D):=by rw[<- k1];grind
  exact yBE (by omega) e
 ·intro hs
  refine mk_yes h0 hl hv fun i hi=>?_
  obtain⟨k1,k2⟩:=key i
  have e:=hs.2 i hi
  have e':sm (fun k=>vec (M[i]?.getD []) k*l k) (zAD M)=vec y i*D:=e
  rw[e']at k1
  have k3:(sumR (M[i]?.getD []) x (zAD M)).1*D=(sumR (M[i]?.getD []) x (zAD M)).2*vec y i*D:=by rw[k1];grind
  exact yGA (by omega) k3
theorem makes_sol{M:Mask}{x:List Rt}{y:List Int}(hm:zDA M x y=true):rdE M y=0∧x.length=zAD M∧x.all zAL=true∧∃(l:Nat->Int) (D:Int),SolM M (zAD M) y l D∧∀k,k<zAD M->(zAB x k).1*D=l k*(zAB x k).2:=by
 have hm':=hm
 unfold zDA at hm
 simp only[Bool.and_eq_true,decide_eq_true_eq]at hm
 obtain⟨h1,h2,h3,_⟩:=hm
 obtain⟨l,D,hD,h⟩:=zQC (all_pos h3) (zAD M)
 exact⟨h1,h2,h3,l,D,(makes_iff h1 h2 h3 hD h).1 hm',h⟩
end
section
def zDM(f:FitT):Bool:=f.2.all fun r=>decide (0<=r.1)
def zCQ(M:Mask)(y:List Int):List FitT:=(zBZ M y 10).filter zDM
theorem zIA{M:Mask}{y:List Int}{f:FitT}:f∈zCQ M y↔f∈zBZ M y 10∧zDM f=true:=yDM
theorem sign_of{a b l d:Int}(hb:0<b)(hd:0<d)(h:a*b=l*d):(0<=a↔0<=l):=by
 constructor
 ·intro k
  apply Classical.byContradiction
  intro q
  have h1:0<=a*b:=yBY k (by omega)
  have h2:l*d<0:=yBU (by omega) hd
  omega
 ·intro k
  apply Classical.byContradiction
  intro q
  have h1:0<=l*d:=yBY k (by omega)
  have h2:a*b<0:=yBU (by omega) hb
  omega
end
section
open Go.RowKit
def FitC(W:World)(S:Nat->Prop)(us ur:Value)(f:FitT):Prop:=
 ∃pa pn pc va vn vc,us=.slice pa pn pc∧ur=.slice va vn vc∧f.1.length=pn∧f.2.length=vn∧pn<=maxLen∧vn<=maxLen∧zAH W pa f.1∧zCB W va f.2∧
  (∀b o,pa=some ⟨b,o,none⟩->S b∧b<W.heap.size∧∃c z,W.heap[b]? =some (.cells c 3 z))∧(∀b o,va=some ⟨b,o,none⟩->S b∧b<W.heap.size∧∃c z,W.heap[b]? =some (.cells c 29 z))
theorem FitC.keep{W W':World}{S S' K:Nat->Prop}{us ur:Value}{f:FitT}(h:FitC W S us ur f)(hk:Keep K W W')(hS:∀b,S b->b<W.heap.size->(∃c T z,(T=3∨T=29)∧W.heap[b]? =some (.cells c T z))->K b∧S' b):FitC W' S' us ur f:=by
 obtain⟨pa,pn,pc,va,vn,vc,e1,e2,h1,h2,h3,h4,h5,h6,h7,h8⟩:=h
 have s7:∀b o,pa=some ⟨b,o,none⟩->K b∧S' b:=fun b o e=>by obtain⟨g1,g2,c,z,g3⟩:=h7 b o e;exact hS b g1 g2 ⟨c,_,z,.inl rfl,g3⟩
 have s8:∀b o,va=some ⟨b,o,none⟩->K b∧S' b:=fun b o e=>by obtain⟨g1,g2,c,z,g3⟩:=h8 b o e;exact hS b g1 g2 ⟨c,_,z,.inr rfl,g3⟩
 refine⟨pa,pn,pc,va,vn,vc,e1,e2,h1,h2,h3,h4,fun j hj=>?_,fun j hj=>?_,fun b o e=>?_,fun b o e=>?_⟩
 ·obtain⟨b,o,e,hlt,hc⟩:=h5 j hj
  exact⟨b,o,e,yAJ hlt hk.size,hk.cell hc (s7 b o e).1⟩
 ·obtain⟨b,o,e,hlt,hc,hd⟩:=h6 j hj
  exact⟨b,o,e,yAJ hlt hk.size,hk.cell hc (s8 b o e).1,hk.cell hd (s8 b o e).1⟩
 ·obtain⟨g1,g2,c,z,g3⟩:=h7 b o e
  exact⟨(s7 b o e).2,yAJ g2 hk.size,c,z,(hk.block b g2 (s7 b o e).1).trans g3⟩
 ·obtain⟨g1,g2,c,z,g3⟩:=h8 b o e
  exact⟨(s8 b o e).2,yAJ g2 hk.size,c,z,(hk.block b g2 (s8 b o e).1).trans g3⟩
theorem FitC.elems{W:World}{S:Nat->Prop}{us ur:Value}{f:FitT}(h:FitC W S us ur f)(base:Nat):zDX 3 W base (fun _=>True) us f.1∧zGU W base ur f.2:=by
 obtain⟨pa,pn,pc,va,vn,vc,rfl,rfl,h1,h2,h3,h4,h5,h6,h7,h8⟩:=h
 refine⟨⟨pa,pn,pc,rfl,h1,h3,fun j hj=>?_⟩,⟨va,vn,vc,rfl,h2,h4,fun j hj=>?_⟩⟩
 ·obtain⟨b,o,e,hlt,hc⟩:=h5 j hj
  obtain⟨_,_,c,z,g⟩:=h7 b o e
  exact⟨b,o,e,trivial,hlt,.inr ⟨c,z,g⟩,hc⟩
 ·obtain⟨b,o,e,hlt,hc,hd⟩:=h6 j hj
  obtain⟨_,_,c,z,g⟩:=h8 b o e
  exact⟨b,o,e,hlt,.inr ⟨c,z,g⟩,hc,hd⟩
def zCS(W:World)(base:Nat)(S:Nat->Prop)(v:Value)(T:List FitT):Prop:=
 ∃xs,W.ownsRow base 73 2 v T.length xs∧(∀k,v.ownBlock=some k->S k)∧∀j (hj:j<T.length),∃us ur,xs[j*2]? =some us∧xs[j*2+1]? =some ur∧FitC W S us ur T[j]
theorem zCS.nil(W:World)(base:Nat)(S:Nat->Prop):zCS W base S (.slice none 0 0) []:=⟨[],World.ownsRow_nil _ _ _ _,fun k hk=>by simp[Value.ownBlock]at hk,fun j hj=>by simp at hj⟩
theorem zCS.slice{W:World}{base:Nat}{S:Nat->Prop}{v:Value}{T:List FitT}(h:zCS W base S v T):∃a c,v=.slice a T.length c:=by
 obtain⟨xs,ho,_⟩:=h;exact zAC ho
theorem zCS.keep{W W':World}{base:Nat}{S S' K:Nat->Prop}{v:Value}{T:List FitT}(h:zCS W base S v T)(hk:Keep K W W')(hS:∀b,S b->b<W.heap.size->K b∧S' b):zCS W' base S' v T:=by
 obtain⟨xs,ho,hg,he⟩:=h
 refine⟨xs,⟨ho.1,?_⟩,fun k hk'=>?_,fun j hj=>?_⟩
 ·rcases ho.2 with hn|⟨g,cap,cur,rfl,hb,hgg,rest⟩
  ·exact .inl hn
  ·have hlt:=(yAB.1 hgg).1
   exact .inr ⟨g,cap,cur,rfl,hb,(hk.block g hlt (hS g (hg g rfl) hlt).1).trans hgg,rest⟩
 ·rcases ho.2 with⟨rfl,_⟩|⟨g,cap,cur,rfl,hb,hgg,rest⟩
  ·simp[Value.ownBlock]at hk'
  ·obtain rfl:g=k:=by simpa[Value.ownBlock]using hk'
   exact(hS g (hg g rfl) (yAB.1 hgg).1).2
 ·obtain⟨us,ur,h1,h2,h3⟩:=he j hj
  exact⟨us,ur,h1,h2,h3.keep hk fun b hb hlt _=>hS b hb hlt⟩
theorem zCS.below{W W':World}{base:Nat}{S:Nat->Prop}{v:Value}{T:List FitT}(h:zCS W base S v T)(hb:Below W.heap.size W W'):zCS W' base S v T:=
 h.keep (Keep.of_below hb:Keep (fun _=>True) _ _) (fun _ h _=>⟨trivial,h⟩)
theorem zCS.fitsO{W:World}{base:Nat}{S:Nat->Prop}{v:Value}{T:List FitT}(h:zCS W base S v T):zKE W base v T:=by
 obtain⟨xs,ho,hg,he⟩:=h
 refine⟨xs,ho,fun j hj=>?_⟩
 obtain⟨us,ur,h1,h2,h3⟩:=he j hj
 exact⟨us,ur,h1,h2,(h3.elems base).1,(h3.elems base).2⟩
theorem zCS.snoc{W w1 w2:World}{base:Nat}{S:Nat->Prop}{v v' us ur:Value}{T:List FitT}{t:FitT}{xs:List Value}
 (ho:W.ownsRow base 73 2 v T.length xs)(he:∀j (hj:j<T.length),∃us ur,xs[j*2]? =some us∧xs[j*2+1]? =some ur∧FitC W S us ur T[j])(h1:FitC W S us ur t)
 (hW1:Below W.heap.size W w1)(hg:w1.grownBy w2 v.ownBlock)(ho':w2.ownsRow base 73 2 v' (T.length+1) (xs++[us,ur]))(hS':∀k,v'.ownBlock=some k->S k):zCS w2 base S v' (T++[t]):=by
 have hlen:xs.length=T.length*2:=ho.1
 have hk:Keep (fun b=>some b≠v.ownBlock) W w2:=(Keep.of_below hW1).trans (Keep.grown hg)
 have hel:∀us ur f,FitC W S us ur f->FitC w2 S us ur f:=fun us ur f h=>h.keep hk fun b hb hlt ⟨c,E,z,hE,hh⟩=>by
  refine⟨?_,hb⟩
  rcases ho.2 with⟨rfl,_⟩|⟨g,cap,cur,rfl,hbg,hgg,_⟩
  ·simp[Value.ownBlock]
  ·intro e
   obtain rfl:b=g:=by simpa[Value.ownBlock]using e
   rw[hh]at hgg
   cases hgg
   rcases hE with h|h
   ·exact absurd h (by decide)
   ·exact absurd h (by decide)
 refine⟨xs++[us,ur],by rw[yAN];exact ho',hS',fun j hj=>?_⟩
 by_cases e:j<T.length
 ·obtain⟨us',ur',k1,k2,k3⟩:=he j e
  refine⟨us',ur',by rw[yAO (by omega)];exact k1,by rw[yAO (by omega)];exact k2,?_⟩
  rw[yBO e];exact hel _ _ _ k3
 ·have:j=T.length:=by simp at hj;omega
  subst this
  refine⟨us,ur,by rw[yAQ (by omega),hlen];simp,by rw[yAQ (by omega),hlen,show T.length*2+1-T.length*2=1 by omega];rfl,?_⟩
  simp only[yBL (yAC _),yCF,yBG]
  exact hel _ _ _ h1
theorem FitV.fitC{lo:Nat}{S S':Nat->Prop}{f:FitT}{us ur:Value}{W:World}(h:FitV lo S f (.agg #[us,ur]) W)(hS:∀b,lo<=b->b<W.heap.size->¬S b->S' b):FitC W S' us ur f:=by
 obtain⟨pa,pn,pc,va,vn,vc,e,h1,h2,h3,h4,h5,h6,h7,h8⟩:=h
 simp only[Value.agg.injEq,Array.mk.injEq,List.cons.injEq,and_true]at e
 obtain⟨rfl,rfl⟩:=e
 refine⟨pa,pn,pc,va,vn,vc,rfl,rfl,h1,h2,h3,h4,h5,h6,fun b o e=>?_,fun b o e=>?_⟩
 ·obtain⟨g1,g2,g3,g4⟩:=h7 b o e
  exact⟨hS b g1 g2 g3,g2,g4⟩
 ·obtain⟨g1,g2,g3,g4⟩:=h8 b o e
  exact⟨hS b g1 g2 g3,g2,g4⟩
end
section
open Go.RowKit
attribute [local go_sem] Oper.semAt_some
theorem newsD(w:World)(x0 x1:Value)(T:TypeId):∀j u,[x0,x1][j]? =some u->(w.alloc (.cells #[x0,x1] T)).cell? ((⟨w.heap.size,0,none⟩:Addr).add j)=some u:=by
 intro j u hu
 match j,hu with
 |0,hu=>rw[Addr.add_lit,World.cell?_alloc_at _ _ _ _ rfl];simpa using hu
 |1,hu=>rw[Addr.add_lit,World.cell?_alloc_at _ _ _ _ rfl];simpa using hu
structure ColI (w:World) (base:Nat) (Sr:Nat->Prop) (pre:List FitT) (Z:World):Prop where
 b:Below w.heap.size w Z
 z:base<=Z.heap.size
 o:∃v,Boxed Z w.heap.size 87 v∧zCS Z base (fun q=>base<=q∧¬Sr q) v pre
theorem ColI.keep{w A B:World}{base:Nat}{S S':Nat->Prop}{pre:List FitT}(h:ColI w base S pre A)(hn:∀k,S' k->S k∨A.heap.size<=k)(hl:∀k,S' k->base<=k)(hb:w.heap.size<base)
 (hk:Keep (fun k=>(k<=w.heap.size∨base<=k)∧¬S' k) A B):ColI w base S' pre B:=by
 have hns:∀k,k<base->¬S' k:=fun k hk hs=>by have:=hl k hs;omega
 obtain⟨v,h1,h2⟩:=h.o
 refine⟨hk.below h.b h.b.size fun k hk=>⟨by omega,hns k (by omega)⟩,yAF h.z hk.size,v,(hk.block _ h1.lt ⟨by omega,hns _ (by omega)⟩).trans h1,h2.keep hk fun q hq hlt=>?_⟩
 have h4:¬S' q:=fun hs=>by
  rcases hn q hs with h|h
  ·exact hq.2 h
  ·omega
 exact⟨⟨.inr hq.1,h4⟩,hq.1,h4⟩
theorem appendFits_c(w:World)(k kb qb:Nat)(a a2:Option Addr)(n cap n2 cap2:Nat)(M:Mask)(y:List Int)(hn:M.length=n)(hn2:y.length=n2)(hm:n<=maxLen)(hm2:n2<=maxLen)(h1:1<=n)(hW:zAD M<=10)(hk:k<=1000)
 (hkb:kb<w.heap.size)(hqb:qb<w.heap.size)(hck:w.cell? ⟨kb,0,none⟩=some (.int .i64 k))(hcq:w.heap[qb]? =some (.cells #[.slice a n cap,.slice a2 n2 cap2] 216 (0,0)))(H:zAM w a M)(H2:zAH w a2 y):
 Calls Tryz.prog 253 #[.slice none 0 0,.func (.func 254) #[] #[.pointer (some ⟨kb,0,none⟩),.pointer (some ⟨qb,0,none⟩)]] w fun e w'=>
  Below w.heap.size w w'∧∃v base,e=.returned v∧w.heap.size<=base∧zCS w' base (fun q=>w.heap.size<=q) v (zBZ M y k):=by
 obtain⟨w1,hw1⟩:=exq (w.alloc (.cells #[.slice none 0 0] 87))
 have hs1:w1.heap.size=w.heap.size+1:=by rw[hw1,World.size_alloc]
 have hb1:Below w.heap.size w w1:=by rw[hw1];exact(Below.refl _ _).alloc (yAC _) _
 have hB:Boxed w1 w.heap.size 87 (.slice none 0 0):=by rw[hw1];exact World.alloc_heap_new _ _
 obtain⟨fp,hfp⟩:∃fp:Nat->Prop,fp=fun q=>q<w.heap.size:=⟨_,rfl⟩
 have HIT:=hid (fits_iter w1 fp k kb qb a a2 n cap n2 cap2 M y hn hn2 hm hm2 h1 (by omega) hk (by rw[hfp];intro q hq;show q<w1.heap.size;have:q<w.heap.size:=hq;omega) (by rw[hfp];exact hkb) (by rw[hfp];exact hqb)
  ((hb1.cell (p:=⟨kb,0,none⟩) hkb).trans hck) ((hb1.block _ hqb).trans hcq)
  (fun X _ hX=>by
    have hX2:∀q,q<w.heap.size->X.heap[q]? =w.heap[q]? :=fun q hq=>(hX q (by rw[hfp];exact hq)).trans (hb1.block q hq)
    exact⟨zAM.blk H hX2,zAH.blk H2 hX2⟩))
 have HCNT:=hid (show(zBZ M y k).length<=11264 by
  have h3:=zDF M y (zAD M) (min (min k (zAD M)) M.length+1)
  have h4:2 ^ (zAD M)<=1024:=yCG (by omega) (show zAD M<=10 by omega)
  have h5:(min (min k (zAD M)) M.length+1)*2 ^ (zAD M)<=11*1024:=yAV (by omega) h4
  have h6:(zBZ M y k).length=(zBT M y (zAD M) (min (min k (zAD M)) M.length+1)).length:=rfl
  omega)
 have HFP:=hid hfp
 have HW1:=hid hw1
 have HS1:=hid hs1
 have HB1:=hid hb1
 have HBX:=hid hB
 clear hn hn2 hm hm2 h1 hW hk hkb hqb hck hcq H H2 hw1 hs1 hb1 hB hfp
 refine callsIn_wide (n:=0) |>.1 ?_
 refine callsIn_of_wp_marks Tryz.func253 rfl trivial ?_ rfl
 simp only[Tryz.ntmps253,yED,yBB,yCD,Nat.reduceAdd,Nat.reduceSub,yDJ,yDI,yEF,yDR,yDL,yDG]
 gi_wp2
 rw[<- HW1.out]
 refine range_s (gf:=254) (lb:=#[.pointer (some ⟨kb,0,none⟩),.pointer (some ⟨qb,0,none⟩)]) (xs:=zBZ M y k) (fp:=fp) (V:=FitV) rfl (enters_of Tryz.func254 (by kernel_rfl) rfl)
  HIT.out (Below.refl _ _) (by rw[HFP.out];intro q h;have:=HS1.out;have:q<w.heap.size:=h;omega)
  (fun Sr pre Z=>ColI w (w1.heap.size+2) Sr pre Z)
  (fun _ _ _ _=>False) ?hI (fun _ _ _ _ _ _ h=>h.elim) ?hV ?h0
  (fun v a' Z=>∃p u1 u2 f0 f1,a'={tmps:=#[.slice none 0 0,f0,.pointer (some ⟨w.heap.size,0,none⟩),undef,.slice none 0 0,.pointer (some ⟨p,0,none⟩),f1,v,undef,undef,undef,undef,undef],defers:=[]}∧v=.agg #[u1,u2]∧w1.heap.size+2<=p∧Z.heap[p]? =some (.cells #[u1,u2] 73 (0,0))) ?hAx ?hassign ?hbody ?hdone ?hstop
 case hI=>
  intro Sr Sr' s A B hIA h1 h2 h3 h4 hk
  exact hIA.keep h2 h3 (by have:=HS1.out;omega) (hk.mono fun k hk=>by have:=HS1.out;exact⟨by omega,by omega,hk.2⟩)
 case hV=>
  intro Sr x v A B hv hk
  exact hv.keep hk (fun k hk=>⟨by omega,by omega⟩)
 case h0=>
  intro Z hk hZ
  have hs1:=HS1.out
  exact⟨hk.below HB1.out HB1.out.size fun k hk=>by omega,hZ,_,(hk.block _ HBX.out.lt (by show _<_;omega)).trans HBX.out,zCS.nil _ _ _⟩
 case hAx=>
  rintro v a' A B ⟨p,u1,u2,f0,f1,e1,e2,hp,hc⟩ hk
  exact⟨p,u1,u2,f0,f1,e1,e2,hp,(hk.block p (yAB.1 hc).1 ⟨by omega,by omega⟩).trans hc⟩
 case hassign=>
  rintro l Sr x v Z K hZ ⟨pa,pn,pc,va,vn,vc,rfl,_⟩ hK
  gi_wp2
  refine hK _ _ ((Below.refl _ _).alloc (yAC _) _) ⟨Z.heap.size,_,_,_,_,rfl,rfl,hZ,World.alloc_heap_new Z _⟩
 case hbody=>
  rintro l' Sr pre f _ _ Z hpre hSr hI hv ⟨p,u1,u2,f0,f1,rfl,rfl,hp,hpc⟩ hZ hDo hLo
  obtain⟨v,hvb,hro⟩:=hI.o
  have hFC:FitC Z (fun q=>w1.heap.size+2<=q∧¬Sr q) u1 u2 f:=hv.fitC fun b h1 h2 h3=>⟨h1,h3⟩
  have hcnt:pre.length+1<=11264:=by have h1:=HCNT.out;have h2:=hpre.length_le;simp at h2;omega
  obtain⟨pa,pn,pc,va,vn,vc,e1,e2,_⟩:=id hFC
  subst e1 e2
  have hp0:Z.cell? ⟨p,0,none⟩=some (.slice pa pn pc):=by simp[World.cell?,hpc]
  have hp1:Z.cell? ⟨p,1,none⟩=some (.slice va vn vc):=by simp[World.cell?,hpc]
  have hbc:=hvb.cell
  obtain⟨xs,ho,hg,he⟩:=hro
  obtain⟨i0,hi0,hz0,hz1,hz2⟩:=info_parts zMH
  have HI:=hid hI
  have HVB:=hid hvb
  have HO:=hid ho
  have HG:=hid hg
  have HE:=hid he
  have HFC:=hid hFC
  have HSR:=hid hSr
  have M1:=hid (show pre.length+1<=maxLen by unfold maxLen;omega)
  have M2:=hid (show(pre.length+1)*48<=140737488355328 by omega)
  have M3:=hid (show w1.heap.size+2<=(Z.alloc (.cells #[.slice pa pn pc,.slice va vn vc] 73)).heap.size by simp;omega)
  have HZ:=hid hZ
  clear hI hvb ho hg he hFC hSr hpre hv hcnt hDo hLo hpc
  gi_wp2_with (gi_at_builtin;go_loud (refine wpListIn_append_own_at _ rfl _ _ 87 rfl (w1.heap.size+2) 73 i0 (.agg #[.slice none 0 0,.slice none 0 0]) 2 48 Tryz.underlying87 hi0 hz0 hz1 hz2 rfl (by decide) v _ _ rfl (HO.out.alloc _) ⟨Z.heap.size,0,none⟩ 1 1 [.slice pa pn pc,.slice va vn vc] rfl rfl (newsD Z _ _ _) (by intro u hu;simp at hu;rcases hu with rfl|rfl<;>rfl) M1.out M2.out M3.out ?_;refine Stop.of ?_))
  refine Stop.go ?_
  intro v5 w9 own5 g5 _ hat5
  obtain⟨a5,c5,rfl⟩:=zAC own5
  have hob:∀q,v.ownBlock=some q->w1.heap.size+2<=q∧¬Sr q:=fun q hq=>HG.out q hq
  have hs1:=HS1.out
  have hzz:=HZ.out
  have hZ1:Below Z.heap.size Z (Z.alloc (.cells #[.slice pa pn pc,.slice va vn vc] 73)):=(Below.refl _ _).alloc (yAC _) _
  have hK9:Keep (fun q=>some q≠v.ownBlock) Z w9:=(Keep.of_below hZ1).trans (Keep.grown g5)
  have hS5:∀q,(Value.slice a5 (pre.length+1) c5).ownBlock=some q->w1.heap.size+2<=q∧¬Sr q:=fun q hq=>by
   rcases hat5 with e|e
   ·exact hob q (by rw[<- e];exact hq)
   ·rw[e]at hq
    cases hq
    exact⟨by omega,fun hs=>by have:=(HSR.out _ hs).2;omega⟩
  have hF9:zCS w9 (w1.heap.size+2) (fun q=>w1.heap.size+2<=q∧¬Sr q) (.slice a5 (pre.length+1) c5) (pre++[f]):=zCS.snoc HO.out HE.out HFC.out hZ1 g5 own5 hS5
  have hbx9:Boxed w9 w.heap.size 87 v:=(hK9.block _ HVB.out.lt (by intro e;have:=(hob _ e.symm).1;omega)).trans HVB.out
  have hc9:=hbx9.cell
  have hf9:=hbx9.frozen
  obtain⟨wA,hwA⟩:=exq (w9.setCell ⟨w.heap.size,0,none⟩ (.slice a5 (pre.length+1) c5))
  have kA:Keep (fun q=>q≠w.heap.size) w9 wA:=by rw[hwA];exact Keep.set w9 _ 0 _
  have nA:Boxed wA w.heap.size 87 (.slice a5 (pre.length+1) c5):=by rw[hwA];exact hbx9.set _
  have HA:=hid (And.intro nA (And.intro kA (And.intro hF9 hK9)))
  have HWA:=hid hwA
  have HOB:=hid hob
  clear own5 g5 hat5 hob hK9 hS5 hF9 hbx9 hwA kA nA hs1 hzz hZ1 hi0 hz0 hz1 hz2
  gi_wp2
  rw[<- HWA.out]
  obtain⟨nA,kA,hF9,hK9⟩:=HA.out
  have hs1:=HS1.out
  have kk:Keep (fun q=>q≠w.heap.size∧some q≠v.ownBlock) Z wA:=(hK9.mono fun q hq=>hq.2).trans (kA.mono fun q hq=>hq.1)
  refine⟨kk.size,fun q hq=>?_,?_⟩
  ·have hq1:q<Z.heap.size∧q≠w.heap.size∧some q≠v.ownBlock:=by
    have hzz:=HZ.out
    rcases hq with h|h|h|h
    ·rw[HFP.out]at h
     have h':q<w.heap.size:=h
     exact⟨by omega,by omega,fun e=>by have:=(HOB.out _ e.symm).1;omega⟩
    ·exact⟨by omega,by omega,fun e=>by have:=(HOB.out _ e.symm).1;omega⟩
    ·exact⟨by omega,by omega,fun e=>by have:=(HOB.out _ e.symm).1;omega⟩
    ·have:=HSR.out q h
     exact⟨this.2,by omega,fun e=>(HOB.out _ e.symm).2 h⟩
   exact kk.block q hq1.1 hq1.2
  ·refine⟨kk.below HI.out.b HI.out.b.size fun q hq=>⟨by omega,fun e=>by have:=(HOB.out _ e.symm).1;omega⟩,yAF HZ.out kk.size,_,nA,hF9.keep kA fun q hq _=>⟨by have:=hq.1;omega,hq⟩⟩
 case hdone=>
  intro Sr Z hZ hSr hI hmk
  obtain⟨v,hvb,hro⟩:=hI.o
  have hcv:=hvb.cell
  have HI:=hid hI
  have HRO:=hid hro
  have HMR:=hid hmk
  obtain⟨va,vc,rfl⟩:=hro.slice
  clear hI hvb hro hmk hSr
  gi_wp2
  have hs1:=HS1.out
  refine zFF [w1.heap.size] Z (by simp) (fun h hh=>by rw[yCB.1 hh];exact HMR.out) fun w' hk=>?_
  refine⟨_,results_tmp rfl _ _ _,hk.below HI.out.b HI.out.b.size (fun k hk hh=>by rw[yCB.1 hh]at hk;omega),_,w1.heap.size+2,rfl,by omega,?_⟩
  exact HRO.out.keep hk (fun q hq _=>⟨fun hh=>by have:=hq.1;rw[yCB.1 hh]at this;omega,by have:=hq.1;omega⟩)
 case hstop=>
  intro Sr c pre Z hpre hSr hI hmk
  exact hI.elim
end
section
open Go.RowKit
theorem zRQ(w:World)(k kb qb:Nat)(a a2:Option Addr)(n cap n2 cap2:Nat)(M:Mask)(y:List Int)(hn:M.length=n)(hn2:y.length=n2)(hm:n<=maxLen)(hm2:n2<=maxLen)(h1:1<=n)(hW:zAD M<=10)(hk:k<=1000)
 (hkb:kb<w.heap.size)(hqb:qb<w.heap.size)(hck:w.cell? ⟨kb,0,none⟩=some (.int .i64 k))(hcq:w.heap[qb]? =some (.cells #[.slice a n cap,.slice a2 n2 cap2] 216 (0,0)))(H:zAM w a M)(H2:zAH w a2 y):
 Calls Tryz.prog 233 #[.func (.func 254) #[] #[.pointer (some ⟨kb,0,none⟩),.pointer (some ⟨qb,0,none⟩)]] w fun e w'=>
  Below w.heap.size w w'∧∃v base,e=.returned v∧w.heap.size<=base∧zCS w' base (fun q=>w.heap.size<=q) v (zBZ M y k):=by
 have HA:=hid (appendFits_c w k kb qb a a2 n cap n2 cap2 M y hn hn2 hm hm2 h1 hW hk hkb hqb hck hcq H H2)
 clear hn hn2 hm hm2 h1 hW hk hkb hqb hck hcq H H2
 go_enter Tryz.func233,Tryz.ntmps233
 go_wp2_with (go_at_call 253;refine HA.out.mono ?_;rintro e w1 ⟨hb,v,base,rfl,hbs,hf⟩)
 go_ret
 exact⟨hb,v,base,rfl,hbs,hf⟩
theorem collect2_c(X:World)(q:Nat)(a a2:Option Addr)(n cap n2 cap2:Nat)(M:Mask)(y:List Int)(hn:M.length=n)(hn2:y.length=n2)(hm:n<=maxLen)(hm2:n2<=maxLen)(h1:1<=n)(hW:zAD M<=10)(hk:q<=1000)(H:zAM X a M)(H2:zAH X a2 y)(X2:World)(hX2:X2=(X.alloc (.cells #[.slice a n cap,.slice a2 n2 cap2] 216)).alloc (.cells #[.int .i64 (q:Int)] 3)):
 Calls Tryz.prog 233 #[.func (.func 254) #[] #[.pointer (some ⟨X.heap.size+1,0,none⟩),.pointer (some ⟨X.heap.size,0,none⟩)]] X2 fun e w'=>
  Below X2.heap.size X2 w'∧∃v base,e=.returned v∧X2.heap.size<=base∧zCS w' base (fun q=>X2.heap.size<=q) v (zBZ M y q):=by
 have hb2:Below X.heap.size X X2:=by rw[hX2];exact((Below.refl _ X).alloc (yAC _) _).alloc (by simp) _
 have e1:X2.heap[X.heap.size]? =some (.cells #[.slice a n cap,.slice a2 n2 cap2] 216 (0,0)):=by
  rw[hX2,Below.heap_alloc _ _ _ (by simp)];exact World.alloc_heap_new _ _
 have e2:X2.cell? ⟨X.heap.size+1,0,none⟩=some (.int .i64 (q:Int)):=by
  have:=World.alloc_heap_new (X.alloc (.cells #[.slice a n cap,.slice a2 n2 cap2] 216)) (.cells #[.int .i64 (q:Int)] 3)
  rw[World.size_alloc,<- hX2]at this
  simp[World.cell?,this]
 have hs:X2.heap.size=X.heap.size+2:=by rw[hX2];simp
 exact zRQ X2 q (X.heap.size+1) X.heap.size a a2 n cap n2 cap2 M y hn hn2 hm hm2 h1 hW hk (by omega) (by omega) e2 e1 (H.below hb2) (H2.below hb2)
theorem sparseFits_c(w:World)(a a2:Option Addr)(n cap n2 cap2:Nat)(M:Mask)(y:List Int)(k:Int)(hn:M.length=n)(hn2:y.length=n2)(hm:n<=maxLen)(hm2:n2<=maxLen)(H:zAM w a M)(H2:zAH w a2 y):
 Calls Tryz.prog 197 #[.slice a n cap,.slice a2 n2 cap2,.int .i64 k] w fun e w'=>Below w.heap.size w w'∧((zGV M y k≠0∧e=.returned (.tuple #[.slice none 0 0,.int .i64 (zGV M y k)]))∨
  (zGV M y k=0∧∃v base,e=.returned (.tuple #[v,.int .i64 0])∧w.heap.size<=base∧zCS w' base (fun q=>w.heap.size<=q) v (zBZ M y k.toNat))):=by
 have HC:=hid (counted_c w a a2 n cap n2 cap2 M y k hn hn2 hm hm2 H H2)
 by_cases h0:zGV M y k=0
 ·obtain⟨hM,hyn,hyB,_⟩:=zFV (show zAV M y []=0 by
   unfold zGV at h0;split at h0
   ·assumption
   ·exact h0)
  have hk:inB k 0 10=true:=by
   unfold zGV at h0;split at h0
   ·cases hb:inB k 0 10
    ·rw[hb]at h0;simp at h0
    ·rfl
   ·contradiction
  obtain⟨hM',h1,h6,hc1,hc10⟩:=zCR hM
  have hkk:∃q:Nat,k=(q:Int)∧q<=10:=⟨k.toNat,by unfold inB at hk;simp at hk;omega,by unfold inB at hk;simp at hk;omega⟩
  obtain⟨q,rfl,hq10⟩:=hkk
  have HCO:=hid (fun(X:World) (hX:Below w.heap.size w X) (X2:World)=>collect2_c X q a a2 n cap n2 cap2 M y hn hn2 hm hm2 (by omega) hc10 (by omega) (H.below hX) (H2.below hX) X2)
  rw[h0]at HC⊢
  rw[yEG]
  obtain⟨F,hF⟩:=exq (zBZ M y q)
  rw[<- hF]at HCO⊢
  clear hn hn2 hm hm2 H H2 h0 hM hyn hyB hk hM' h1 h6 hc1 hc10 hF
  go_enter Tryz.func197,Tryz.ntmps197
  go_wp2_with (go_at_call 232;refine HC.out.mono ?_;rintro e w1 ⟨rfl,hb1⟩;refine Stop.of ?_)
  refine Stop.go ?_
  have HB1:=hid hb1
  clear hb1
  go_wp2_with (go_at_call 234;refine(qfits_c _ _ _ _ _ _ _ _).mono ?_;rintro e w2 ⟨rfl,hw2⟩;have HW2:=hid hw2;clear hw2;refine Stop.of ?_)
  refine Stop.go ?_
  have hco:=HCO.out w1 HB1.out w2 HW2.out
  have HC2:=hid hco
  have HB12:=hid (show Below w1.heap.size w1 w2 by rw[HW2.out];exact((Below.refl _ w1).alloc (yAC _) _).alloc (by simp) _)
  clear hco
  go_wp2_with (go_at_call 233;refine HC2.out.mono ?_;rintro e w3 ⟨hb3,v,base,rfl,hbs,hf⟩)
  go_ret2
  exact⟨zAA HB1.out (zAA HB12.out hb3),.inr ⟨trivial,v,base,rfl,by have:=HB1.out.size;have:=HB12.out.size;omega,hf.keep (Keep.refl (fun _=>True) _) fun q hq _=>⟨trivial,by have:=HB1.out.size;have:=HB12.out.size;omega⟩⟩⟩
 ·have hne:(zGV M y k !=0)=true:=by simpa using h0
  have H0:=hid h0
  obtain⟨E,hE⟩:=exq (zGV M y k)
  rw[<- hE]at HC hne H0⊢
  clear hn hn2 H H2 h0 hE
  go_enter Tryz.func197,Tryz.ntmps197
  go_wp2_with (go_at_call 232;refine HC.out.mono ?_;rintro e w1 ⟨rfl,hb1⟩)
  go_ret2
  exact⟨hb1,.inl ⟨H0.out,rfl⟩⟩
theorem dfits_c(w:World)(a a2:Option Addr)(n cap n2 cap2:Nat)(M:Mask)(y:List Int)(hn:M.length=n)(hn2:y.length=n2)(hm:n<=maxLen)(hm2:n2<=maxLen)(H:zAM w a M)(H2:zAH w a2 y)(h0:zAV M y []=0):
 Calls Tryz.prog 135 #[.agg #[.slice a n cap,.slice a2 n2 cap2]] w fun e w'=>Below w.heap.size w w'∧∃v base,e=.returned v∧w.heap.size<=base∧zCS w' base (fun q=>w.heap.size<=q) v (zBZ M y 10):=by
 obtain⟨wz,hwz⟩:=exq (w.alloc (.cells #[.slice a n cap,.slice a2 n2 cap2] 86))
 have hbz:Below w.heap.size w wz:=by rw[hwz];exact(Below.refl _ _).alloc (yAC _) _
 have l0:wz.cell? ⟨w.heap.size,0,none⟩=some (.slice a n cap):=by rw[hwz,World.cell?_alloc_at _ _ _ _ rfl];rfl
 have l1:wz.cell? ⟨w.heap.size,1,none⟩=some (.slice a2 n2 cap2):=by rw[hwz,World.cell?_alloc_at _ _ _ _ rfl];rfl
 have hc:zGV M y 10=0:=by unfold zGV;rw[if_pos h0];decide
 have HF:=hid (sparseFits_c wz a a2 n cap n2 cap2 M y 10 hn hn2 hm hm2 (H.below hbz) (H2.below hbz))
 rw[hc]at HF
 have HBZ:=hid hbz
 obtain⟨F,hF⟩:=exq (zBZ M y 10)
 have hF2:F=zBZ M y (10:Int).toNat:=hF
 rw[<- hF]
 rw[<- hF2]at HF
 have HW:=hid hwz
 clear hn hn2 hm hm2 H H2 h0 hbz hc hF hF2 hwz
 go_enter Tryz.func135,Tryz.ntmps135
 go_upto_region 1 with fail
 rw[<- HW.out]
 go_wp2_with (go_at_call 197;refine HF.out.mono ?_;rintro e w3 ⟨hb3,⟨hx,_⟩|⟨_,v,base,rfl,hbs,hf⟩⟩;first|exact absurd rfl hx|skip)
 go_ret
 exact⟨zAA HBZ.out hb3,v,base,rfl,yAF HBZ.out.size hbs,hf.keep (Keep.refl (fun _=>True) _) fun q hq _=>⟨trivial,yAF HBZ.out.size hq⟩⟩
end
section
open Go.RowKit
theorem AnyT.weak{P:Program}{md:Region.Mode}{ops:Array Oper}{Q:Exit->Act->World->Prop}{T T':Nat->World->Prop}(hT:∀j w,T' j w->T j w):∀(fuel:Nat) (listed:Array Bool) (a:Act) (w:World),AnyT P md ops Q T' fuel listed a w->AnyT P md ops Q T fuel listed a w
 |0,_,_,_,h=>h
 |fuel+1,listed,a,w,h=>⟨h.1,fun i hi=>wpOp_mono (fun a' w' h'=>⟨hT _ _ h'.1,AnyT.weak hT fuel _ _ _ h'.2⟩) (h.2 i hi)⟩
theorem AnyT.takeG{P:Program}{md:Region.Mode}{ops:Array Oper}{Q:Exit->Act->World->Prop}{S:World->Prop}{T:Nat->World->Prop}{i d:Nat}{oi:Oper}{v:Value}{fuel:Nat}{listed:Array Bool}{a:Act}{w:World}{Wf:Nat->Bool}(hT:∀j w,T j w->Wf j=true->S w)(hTi:∀w,S w->T i w)(hi:ops[i]? =some oi)(hd:oi.dst=some d)
 (hs:Region.noSelect ops=true)(hf:Region.free md ops listed i=true)(hr:(Region.ready md ops listed).contains i=true)
 (hQ:∀c a w,Q (.panic c) (a.put (some d) v) w->Q (.panic c) a w)
 (hW:(List.range ops.size).all (fun j=>waits md ops i j||Wf j)=true)(hw:Region.wanted oi (yielded ops a.tmps)=true)(hy:∀w,S w->(execOp a.eval oi).run P w=.ok (.value v) w)(hS:S w)
 (h:AnyT P md ops Q T fuel (listed.setIfInBounds i true) (a.put (some d) v) w):AnyT P md ops Q T (fuel+1) listed a w:=
 AnyT.take hi hs hf hr (by rw[hd];exact hQ) (fun j hj w hT'=>hT j w hT' (by
  by_cases e:j<ops.size
  ·have:=yAT.1 hW j (yCH.2 e)
   rw[hj]at this;simpa using this
  ·unfold waits at hj;rw[yCW (by omega)]at hj;cases hj)) hTi (.inl ⟨hw,hy⟩) hS (by rw[hd];exact h)
end
end Go.Proofs.YtlffndehhhpgjaaGreat

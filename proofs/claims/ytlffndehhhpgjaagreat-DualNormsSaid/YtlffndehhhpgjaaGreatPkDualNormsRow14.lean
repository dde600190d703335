/- Walks and plain laws for DualNormsRow, part 14. -/
import Derived.Test.YtlffndehhhpgjaaGreatPkDualNormsRow13
namespace Go.Proofs.YtlffndehhhpgjaaGreat
set_option linter.unusedVariables false
set_option linter.unusedSimpArgs false
set_option maxRecDepth 100000
set_option maxHeartbeats 4000000
section
open Go.RowKit
def WideP(L:List (List Rt))(e:Ending):Prop:=∃b,e=.returned (.bool b)∧(b=false->∀q,q<L.length->(L[q]?.getD []).length<=60)
theorem WideP.yes(L:List (List Rt)):WideP L (.returned (.bool true)):=⟨true,rfl,fun h=>by cases h⟩
theorem WideP.no{L:List (List Rt)}(h:∀q,q<L.length->(L[q]?.getD []).length<=60):WideP L (.returned (.bool false)):=⟨false,rfl,fun _=>h⟩
theorem wide6_c(w:World)(a:Option Addr)(n cap:Nat)(L:List (List Rt))(hn:L.length=n)(hm:n<=maxLen)(H:PicsAt w a L):
 Calls Tryz.prog 26 #[.slice a n cap] w fun e w'=>WideP L e∧w=w':=by
 have HN:=hid hn
 have HH:=hid H
 clear hn H
 unfold maxLen at hm
 go_enter Tryz.func26,Tryz.ntmps26
 go_wp2
 go_loop [7] (fun i=>∃k:Nat,k<=n∧i=.int .i64 k∧Hid (∀q,q<k->(L[q]?.getD []).length<=60)) (fun i=>n-(intOf i).toNat)
 case atStart=>exact⟨0,Nat.zero_le _,rfl,hid (fun q h=>by omega)⟩
 case round=>
  obtain⟨k,hk,rfl,HQ⟩:=hrel
  by_cases hlt:k<n
  ·have hkl:k<L.length:=by rw[HN.out];exact hlt
   obtain⟨b,off,ra,rn,rc,rfl,hbs,hq0,hrn,hrm,hri⟩:=HH.out k hkl
   have HRN:=hid (show(L[k]?.getD []).length=rn by rw[List.getElem?_eq_getElem hkl];exact hrn)
   clear hrn hri hkl hrm
   by_cases h1:60<rn
   ·have hi:(60:Int)<(rn:Int):=by omega
    go_wp2
    go_ret
    exact⟨WideP.yes _,rfl⟩
   ·have hi:¬(60:Int)<(rn:Int):=by omega
    have HQ2:=hid (show ∀q,q<k+1->(L[q]?.getD []).length<=60 from fun q hq=>by
     rcases Nat.lt_or_ge q k with h|h
     ·exact HQ.out q h
     ·obtain rfl:q=k:=by omega
      rw[HRN.out];omega)
    go_wp2
    go_round
    case rel=>exact⟨k+1,by omega,by go_num,HQ2⟩
    case measure=>simp[intOf];omega
  ·obtain rfl:k=n:=by omega
   have HF:=hid (show ∀q,q<L.length->(L[q]?.getD []).length<=60 from fun q hq=>HQ.out q (by rw[<- HN.out];exact hq))
   go_wp2
   go_ret
   exact⟨WideP.no HF.out,rfl⟩
theorem dualNorms_c(w:World)(a:Option Addr)(n cap:Nat)(x:List Rt)(hn:x.length=n)(hm:n<=maxLen)(H:zAX w a x)(_:∀r∈x,zFB r.1∧zFB r.2)
 (a2:Option Addr)(n2 cap2:Nat)(y:List Rt)(hn2:y.length=n2)(hm2:n2<=maxLen)(H2:zAX w a2 y)(_:∀r∈y,zFB r.1∧zFB r.2):
 Calls Tryz.prog 5 #[.slice a n cap,.slice a2 n2 cap2] w fun e w'=>e=.returned (.bool true)∧Below w.heap.size w w':=by
 have HAW:=hid (fun X=>awake5_c X)
 have HWI:=hid (wide6_c (w.alloc (.cells #[.slice a n cap,.slice a2 n2 cap2] 42)) (some ⟨w.heap.size,0,none⟩) 2 2 [x,y] rfl (by decide) (pics_two hn hm H hn2 hm2 H2))
 have HNO:=hid (fun(X:World) (hX:Below w.heap.size w X)=>dNorm_c X a n cap x hn hm (H.below hX))
 have HNR:=hid (fun(X:World) (hX:Below w.heap.size w X)=>r5Norm_c X a n cap x hn hm (H.below hX))
 have HMD:=hid (fun(h1:n<=1000000) (h2:n2<=1000000) (X:World) (hX:Below w.heap.size w X)=>dmixed_c X a a2 n cap n2 cap2 x y hn hn2 h1 h2 (H.below hX) (H2.below hX))
 have HMR:=hid (fun(h1:n<=1000000) (h2:n2<=1000000) (X:World) (hX:Below w.heap.size w X)=>r5mixed_c X a a2 n cap n2 cap2 x y hn hn2 h1 h2 (H.below hX) (H2.below hX))
 have HB60:=hid (fun(h:∀q,q<[x,y].length->([x,y][q]?.getD []).length<=60)=>show n<=60∧n2<=60 from⟨by rw[<- hn];exact h 0 (by simp),by rw[<- hn2];exact h 1 (by simp)⟩)
 have HML:=hid (show(mixE x y).1.length<=n from by
  unfold mixE
  split
  ·split
   ·split
    ·show(List.zipWith zAU x y).length<=n
     rw[List.length_zipWith];omega
    ·exact Nat.zero_le _
   ·exact Nat.zero_le _
  ·exact Nat.zero_le _)
 obtain⟨P,hP⟩:=exq (zFP x)
 obtain⟨E,hE⟩:=exq (mixE x y)
 rw[<- hP]at HNO HNR
 rw[<- hE]at HMD HMR HML
 obtain⟨⟨pn,pd⟩,P2⟩:=P
 obtain⟨L,E2⟩:=E
 simp only[ratV]at HNO HNR
 simp only[]at HML
 clear hn hn2 H H2 hP hE
 go_enter Tryz.func5,Tryz.ntmps5
 go_wp2_with (go_at_call 26;refine HWI.out.mono ?_;rintro e w1 ⟨⟨wb,rfl,hwb⟩,rfl⟩;refine Stop.of ?_)
 refine Stop.go ?_
 have HWB:=hid hwb
 clear hwb
 obtain⟨wa,hwa⟩:=exq (w.alloc (.cells #[.slice a n cap,.slice a2 n2 cap2] 42))
 have HBA:=hid (show Below w.heap.size w wa by rw[hwa];exact(Below.refl _ _).alloc (Nat.le_refl _) _)
 rw[<- hwa]
 clear hwa
 cases wb
 rotate_left
 ·go_wp2_with (go_at_call 18;refine(HAW.out _).mono ?_;rintro e w2 ⟨rfl,hb2⟩)
  go_ret
  exact⟨rfl,zAA HBA.out hb2⟩
 obtain⟨q1,q2⟩:=HB60.out (HWB.out rfl)
 have HD:=hid (HMD.out (by omega) (by omega))
 have HR:=hid (HMR.out (by omega) (by omega))
 have HLM:=hid (show L.length<=maxLen by have:=HML.out;unfold maxLen;omega)
 clear q1 q2 HMD HMR HB60 HWB
 go_upto_region 4 with (go_at_call 29;refine(HNO.out _ HBA.out).mono ?_;rintro e w2 ⟨rfl,hb2⟩;have HB2:=hid (zAA HBA.out hb2);clear hb2;refine Stop.of ?_)
 refine Stop.go ?_
 go_upto_region 4 with fail
 obtain⟨b,hb⟩:=exq (w2.heap.size)
 obtain⟨w3,hw3⟩:=exq (w2.alloc (.cells #[.int .i64 pn,.int .i64 pd] 29))
 rw[<- hb,<- hw3]
 have A1:=hid (show RatI w3 b (pn,pd)from by rw[hw3,hb];exact RatI.made w2 (pn,pd))
 have HB3:=hid (show Below w.heap.size w w3 by rw[hw3];exact HB2.out.alloc HB2.out.size _)
 clear hb hw3
 go_upto_region 5 with (go_at_call 32;refine(HNR.out _ HB3.out).mono ?_;rintro e w4 ⟨rfl,hb4⟩;have HB4:=hid hb4;clear hb4;refine Stop.of ?_)
 refine Stop.go ?_
 go_upto_region 5 with fail
 obtain⟨c,hc⟩:=exq (w4.heap.size)
 obtain⟨w5,hw5⟩:=exq (w4.alloc (.cells #[.int .i64 pn,.int .i64 pd] 29))
 rw[<- hc,<- hw5]
 have C1:=hid (show RatI w5 c (pn,pd)from by rw[hw5,hc];exact RatI.made w4 (pn,pd))
 have h35:Below w3.heap.size w3 w5:=by rw[hw5];exact HB4.out.alloc HB4.out.size _
 have B1:=hid (A1.out.keep (h35.block _ A1.out.lt))
 have HB5:=hid (zAA HB3.out h35)
 clear hc hw5 h35
 go_upto_region 6 with (go_at_call 33;refine(HD.out _ HB5.out).mono ?_;rintro e w6 ⟨⟨fa,fc,rfl,hfi⟩,hb6⟩;have HB6:=hid hb6;have FI:=hid hfi;clear hb6 hfi;refine Stop.of ?_)
 refine Stop.go ?_
 go_upto_region 7 with (go_at_call 34;refine(HR.out _ (zAA HB5.out HB6.out)).mono ?_;rintro e w7 ⟨⟨ga,gc,rfl,hgi⟩,hb7⟩;have HB7:=hid hb7;have GI:=hid hgi;clear hb7 hgi;refine Stop.of ?_)
 refine Stop.go ?_
 go_upto_region 7 with fail
 have HSI:=hid (sameRats_c w7 fa ga L.length fc L.length gc L L rfl rfl HLM.out HLM.out (FI.out.below HB7.out) GI.out)
 rw[decide_eq_true rfl]at HSI
 have hb57:=zAA HB6.out HB7.out
 obtain⟨x0,x1,_⟩:=(B1.out.keep (hb57.block _ B1.out.lt)).cells
 obtain⟨x4,x5,_⟩:=(C1.out.keep (hb57.block _ C1.out.lt)).cells
 simp only[]at x0 x1 x4 x5
 have HBW:=hid (zAA HB5.out hb57)
 clear hb57
 go_wp2_with (first
  | (go_at_call 35;refine HSI.out.mono ?_;rintro e wA ⟨rfl,hbA⟩)
  | (go_at_call 18;refine(HAW.out _).mono ?_;rintro e wB ⟨rfl,hbB⟩))
 go_ret
 exact⟨rfl,zAA HBW.out (zAA hbA hbB)⟩
end
end Go.Proofs.YtlffndehhhpgjaaGreat

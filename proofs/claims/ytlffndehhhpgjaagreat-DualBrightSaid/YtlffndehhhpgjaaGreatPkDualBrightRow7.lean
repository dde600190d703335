/- Walks and plain laws for DualBrightRow, part 7. -/
import Derived.Lib.SliceRun
import Derived.Test.YtlffndehhhpgjaaGreatPkDualBrightRow6
namespace Go.Proofs.YtlffndehhhpgjaaGreat
set_option linter.unusedVariables false
set_option linter.unusedSimpArgs false
set_option maxRecDepth 100000
set_option maxHeartbeats 4000000
open _root_.List renaming getElem?_eq_getElem → yAA, getElem_mem → yAH, take_succ_eq_append_getElem → yAI, take_of_length_le → yAL, mem_iff_getElem → yAM, length_append → yAN, getElem?_append_left → yAO, getElem?_append_right → yAQ, length_map → yAS, all_eq_true → yAT, length_take → yAU, getElem?_map → yAZ, map_append → yBF, pairwise_iff_getElem → yBI, mem_map → yBJ, mem_cons → yBP, range_succ → yBQ, getElem?_eq_some_iff → yBX, ext_getElem → yCC, length_drop → yDF, any_eq_true → yDO, not_all_eq_any_not → yDU, eq_nil_of_length_eq_zero → yEN, getElem_drop → yFF, mem_drop_iff_getElem → yGD
open _root_.Nat renaming le_refl → yAC, le_trans → yAF, lt_of_lt_of_le → yAJ, zero_le → yAK, lt_or_ge → yAP, zero_add → yAW, one_pos → yBH, eq_zero_or_pos → yBR, add_zero → yDS, pos_of_ne_zero → yFL
open _root_.Int renaming eq_of_mul_eq_mul_left → yBE, mul_comm → yBV, mul_ne_zero → yCE, natCast_mul → yCP, tdiv_eq_of_eq_mul_left → yDH, gcd_dvd_right → yFG, gcd_eq_zero_iff → yFJ, gcd_dvd_left → yFK, natAbs_tdiv → yGX
open _root_.Array renaming getElem?_eq_some_iff → yAB
section
section
open Go.RowKit
theorem chosenT_c(w:World)(a:Option Addr)(n cap:Nat)(M:List (List Int))(hn:M.length=n)(hn6:n<=1000)(H:zAM w a M)(a2:Option Addr)(k2 cap2:Nat)(S:List Int)(hk2:S.length=k2)(hk21:k2<=1000)(H2:zAH w a2 S)
 (hS:∀r∈M,∀j∈S,0<=j∧j<r.length)(g:Nat)(lb:Array Value)(eg:∀args w,(callFunc g args).run Tryz.prog w=.ok (.enter g args) w)(mo:Nat->List Int)(hmo:MoreP Tryz.prog g lb w n mo)(hml:∀i,i<n->(mo i).length<=1000):
 Calls Tryz.prog 220 #[.slice a n cap,.slice a2 k2 cap2,.func (.func g) #[] lb] w fun e w'=>∃v,e=.returned v∧TabS w' w.heap.size v (zEI M S mo)∧Below w.heap.size w w':=by
 have HN:=hid hn
 have HH:=hid H
 have HK2:=hid hk2
 have HH2:=hid H2
 have HS:=hid hS
 have HMO:=hid hmo
 have HML:=hid hml
 have HCT:=hid (fun(k:Nat) (hk:k<M.length)=>zLR (M:=M) (S:=S) (mo:=mo) hk)
 have HCL:=hid (zIX M S mo)
 obtain⟨C,hC⟩:=exq (zEI M S mo)
 rw[<- hC]at HCT HCL⊢
 clear hn H hk2 H2 hS hmo hml hC
 go_enter Tryz.func220,Tryz.ntmps220
 go_wp2
 go_loopw [7,15] (fun v i wr=>∃k:Nat,k<=n∧i=.int .i64 k∧TabS wr w.heap.size v (C.take k)∧Below w.heap.size w wr) (fun _ i _=>n-(intOf i).toNat)
 case atStart=>exact⟨0,yAK _,rfl,TabS.nil _ _,Below.refl _ _⟩
 case round=>
  obtain⟨k,hk,rfl,ho,hbk⟩:=hrel
  obtain⟨wo,hwo⟩:=exq (wr)
  subst hwo
  by_cases hlt:k<n
  ·have hkM:k<M.length:=by rw[HN.out];exact hlt
   obtain⟨b,off,ra,rn,rc,rfl,hbs,hq0,hrn,hrm,hri⟩:=(HH.out.below hbk) k hkM
   have htk:=HCT.out k hkM
   have hsr:=HS.out M[k] (yAH hkM)
   obtain⟨r,hr⟩:=exq (M[k])
   rw[<- hr]at htk hsr hrn hri
   have hlen:(C.take k).length=k:=by rw[yAU,HCL.out];omega
   have HL:=hid hlen
   have HTK:=hid htk
   have HSR:=hid hsr
   have HRN:=hid hrn
   have HRI:=hid hri
   have HO:=hid ho
   have HBK:=hid hbk
   obtain⟨va,vc,hv⟩:∃va vc,u7=.slice va k vc:=by
    obtain⟨_,ho1,_⟩:=ho
    obtain⟨a',c',e⟩:=zAC ho1
    exact⟨a',c',by rw[e,hlen]⟩
   subst hv
   clear hr htk hsr hrn hri hkM ho hlen
   go_wp2
   go_loopw [10,22] (fun v i wr=>∃t:Nat,t<=k2∧i=.int .i64 t∧wr.ownsRow wo.heap.size 3 1 v t (((S.take t).map (fun j=>vec r j.toNat)).map (Value.int .i64))∧Below wo.heap.size wo wr) (fun _ i _=>k2-(intOf i).toNat)
   case atStart=>exact⟨0,yAK _,rfl,World.ownsRow_nil _ _ _ _,Below.refl _ _⟩
   case round=>
    obtain⟨t,ht,rfl,hown,hbt⟩:=hrel
    by_cases hlt2:t<k2
    ·have htS:t<S.length:=by rw[HK2.out];exact hlt2
     obtain⟨b2,off2,rfl,hbs2,hc2⟩:=(HH2.out.below (zAA HBK.out hbt)) t htS
     have hpp:=HSR.out S[t] (yAH htS)
     have hg2:S[t]?.getD 0=S[t]:=by rw[yAA htS];rfl
     rw[hg2]at hc2
     have htk2:(S.take (t+1)).map (fun j=>vec r j.toNat)=(S.take t).map (fun j=>vec r j.toNat)++[vec r (S[t]).toNat]:=by
      rw[yAI htS,yBF];rfl
     obtain⟨q,hq⟩:∃q:Nat,S[t]=q:=⟨(S[t]).toNat,by omega⟩
     rw[hq]at hc2 hpp htk2
     rw[show((q:Int)).toNat=q by omega]at htk2
     have hqr:q<r.length:=by omega
     obtain⟨b3,off3,rfl,hbs3,hc3⟩:=(HRI.out.below hbt) q hqr
     have hqn:(q:Int)<(rn:Int):=by have:=HRN.out;omega
     have hq0':(0:Int)<=(q:Int):=by omega
     obtain⟨x,hx⟩:=exq (r[q]?.getD 0)
     have hxv:vec r q=x:=hx.symm
     rw[<- hx]at hc3
     rw[hxv]at htk2
     obtain⟨la,lc,rfl⟩:=zAC hown
     have HTK2:=hid htk2
     have HOW:=hid hown
     have M1:=hid (show t+1<=maxLen by unfold maxLen;omega)
     have M2:=hid (show(t+1)*8<=140737488355328 by omega)
     have M3:=hid (yAF hbt.size (zCL wr (.cells #[.int .i64 x] 3)))
     clear hpp hg2 htk2 hq hx hxv hown htS hqr
     go_wp2_with (at_builtin;refine zAN _ rfl (.tmp 26) (.tmp 31) 24 rfl wo.heap.size 3 (.int .i64 0) 1 8 Tryz.underlying24 zDN rfl yBH (.slice la t lc) t _ rfl (HOW.out.alloc _) (some ⟨wr.heap.size,0,none⟩) 1 1 [.int .i64 x] rfl rfl zBS (zBC wr _ _) (zEL _) M1.out M2.out M3.out ?_;refine Stop.of ?_)
     refine Stop.go ?_
     intro a3 c3 w3 own3 g3
     have hB3:Below wo.heap.size wo w3:=(hbt.alloc hbt.size _).grown g3 M3.out (fun k hk=>(HOW.out.lt k hk).1)
     go_wp2
     refine⟨⟨t+1,by omega,by go_num,?_,hB3⟩,by simp[intOf];omega⟩
     rw[HTK2.out]
     simpa using own3
    ·obtain rfl:t=k2:=by omega
     rw[yAL (by rw[HK2.out];exact yAC _)]at hown
     obtain⟨la,lc,rfl⟩:=zAC hown
     have HMK:=hid (HMO.out k wr hlt (zAA HBK.out hbt))
     have HOW:=hid hown
     have hml:=HML.out k hlt
     obtain⟨m,hm⟩:=exq (mo k)
     rw[<- hm]at hml HMK HTK
     obtain⟨ml,hmle⟩:=exq (m.length)
     rw[<- hmle]at hml HMK
     have HME:=hid hmle
     clear hown hm hmle
     go_wp2_with (refine HMK.out.mono ?_;rintro e w2 ⟨ma,mc,rfl,hmi,hb2⟩;refine Stop.of ?_)
     refine Stop.go ?_
     have HO2:=hid (zBJ HOW.out hb2)
     have HMI:=hid hmi
     have HB2:=hid (zAA hbt hb2)
     have N1:=hid (show t+ml<=maxLen by unfold maxLen;omega)
     have N2:=hid (show(t+ml)*8<=140737488355328 by omega)
     have N3:=hid (show wo.heap.size<=w2.heap.size from HB2.out.size)
     have N4:=hid (show(m.map (Value.int .i64)).length=ml*1 by rw[yAS,HME.out];omega)
     have N5:=hid (show ma=none->ml=0 from fun h=>by rw[HME.out];exact zNU hmi h)
     have N6:=hid (zNV hmi)
     clear hmi hb2 hbt
     go_wp2_with (at_builtin;refine zAN _ rfl (.tmp 35) (.tmp 38) 24 rfl wo.heap.size 3 (.int .i64 0) 1 8 Tryz.underlying24 zDN rfl yBH (.slice la t lc) t _ rfl HO2.out ma ml mc (m.map (Value.int .i64)) rfl N4.out N5.out N6.out (zMG _) N1.out N2.out N3.out ?_;refine Stop.of ?_)
     refine Stop.go ?_
     intro a3 c3 w3 own3 g3
     have hB3:Below wo.heap.size wo w3:=HB2.out.grown g3 N3.out (fun k hk=>(HO2.out.lt k hk).1)
     rw[<- List.map_map,<- yBF]at own3
     obtain⟨X,hX⟩:=exq (S.map (fun j=>vec r j.toNat)++m)
     rw[<- hX]at own3 HTK
     have hXl:X.length=t+ml:=by rw[hX,yAN,yAS,HK2.out,HME.out]
     have hsr:=zHW own3 hXl
     have HXL:=hid hXl
     obtain⟨vs,ho0,he⟩:=HO.out
     have HO0:=hid ho0
     have ho:=ho0
     rw[HL.out]at ho
     have hb2a:Below wo.heap.size wo (w3.alloc (.cells #[.slice a3 (t+ml) c3] 24)):=hB3.alloc hB3.size _
     have M1:=hid (show k+1<=maxLen by unfold maxLen;omega)
     have M2:=hid (show(k+1)*24<=140737488355328 by omega)
     have M3:=hid (yAF HBK.out.size hb2a.size)
     have HO2':=hid (zBJ ho hb2a)
     have HE:=hid he
     have HSR2:=hid (hsr.below ((Below.refl _ w3).alloc (yAC _) (.cells #[.slice a3 (t+ml) c3] 24)))
     have HB2':=hid hb2a
     have HOO:=hid ho
     clear he hsr hb2a ho ho0 own3 hX hXl hml hB3 g3
     go_wp2_with (at_builtin;refine zAN _ rfl (.tmp 34) (.tmp 40) 22 rfl w.heap.size 24 (.slice none 0 0) 1 24 Tryz.underlying22 zEP rfl yBH (.slice va k vc) k vs rfl HO2'.out (some ⟨w3.heap.size,0,none⟩) 1 1 [.slice a3 (t+ml) c3] rfl rfl zBS (zBC w3 _ _) (zBL _ _ _) M1.out M2.out M3.out ?_;refine Stop.of ?_)
     refine Stop.go ?_
     intro a5 c5 w5 own5 g5
     have hsn:TabS w5 w.heap.size (.slice a5 (k+1) c5) (C.take k++[X]):=TabS.snoc HO0.out HE.out HB2'.out HSR2.out g5 (by rw[HL.out];exact own5)
     have hB5:Below w.heap.size w w5:=(HBK.out.trans (HB2'.out.mono HBK.out.size)).grown g5 M3.out (fun q hq=>(HO2'.out.lt q hq).1)
     rw[<- HTK.out]at hsn
     go_wp2
     exact⟨⟨k+1,by omega,by go_num,hsn,hB5⟩,by simp[intOf];omega⟩
  ·obtain rfl:k=n:=by omega
   rw[yAL (by rw[HCL.out,HN.out];exact yAC _)]at ho
   go_wp2
   go_ret
   exact⟨_,rfl,ho,hbk⟩
end
section
open Go.RowKit
def ascB(l:List Int):Bool:=decide (∀i,i<l.length-1->l[i]?.getD 0<l[i+1]?.getD 0)
def zEE(W:Nat)(l:List Int):Int:=if ascB l=true then(if l.all (fun p=>inB p 0 ((W:Int)-1))=true then 0 else 5)else 7
def pixE(M:Mask)(l:List Int):Int:=if okM M=true then zEE (zAD M) l else 1
theorem asc_pair{l:List Int}(h:ascB l=true):l.Pairwise (· < ·):=by
 have h1:∀i,i<l.length-1->l[i]?.getD 0<l[i+1]?.getD 0:=of_decide_eq_true h
 have h2:∀d i,i+d+1<l.length->l[i]?.getD 0<l[i+d+1]?.getD 0:=by
  intro d
  induction d with
  |zero=>intro i hi;exact h1 i (by omega)
  |succ d ih=>intro i hi;exact Int.lt_trans (ih i (by omega)) (h1 (i+d+1) (by omega))
 rw[yBI]
 intro i j hi hj hij
 have:=h2 (j-i-1) i (by omega)
 rw[show i+(j-i-1)+1=j by omega,yAA hi,yAA hj]at this
 exact this
theorem pair_asc{l:List Int}(h:l.Pairwise (· < ·)):ascB l=true:=by
 refine decide_eq_true fun i hi=>?_
 rw[yAA (by omega),yAA (by omega)]
 exact yBI.1 h i (i+1) (by omega) (by omega) (by omega)
theorem asc_no{l:List Int}{k:Nat}(hk:k+1<l.length)(h:¬l[k]?.getD 0<l[k+1]?.getD 0):ascB l=false:=decide_eq_false fun h1=>h (h1 k (by omega))
theorem asc_yes{l:List Int}(h:∀i,i+1<l.length->l[i]?.getD 0<l[i+1]?.getD 0):ascB l=true:=decide_eq_true fun i hi=>h i (by omega)
theorem named_ok{W:Nat}{l:List Int}(h:zEE W l=0):zCI W l:=by
 unfold zEE at h
 split at h
 ·rename_i h1
  split at h
  ·rename_i h2
   refine⟨asc_pair h1,fun y hy=>?_⟩
   have:=yAT.1 h2 y hy
   unfold inB at this
   simp only[Bool.and_eq_true,decide_eq_true_eq]at this
   omega
  ·omega
 ·omega
theorem named1(w:World)(b:Nat)(m:Int)(hm:0<=m∧m<=1000000000)(hc:w.cell? ⟨b,0,none⟩=some (.int .i64 m))(hb:b<w.heap.size):
 zPB Tryz.prog 248 #[.pointer (some ⟨b,0,none⟩)] w (fun n=>!(inB n 0 (m-1))):=by
 intro x W hW
 have hc':W.cell? ⟨b,0,none⟩=some (.int .i64 m):=(hW.cell (p:=⟨b,0,none⟩) hb).trans hc
 obtain⟨z,hz⟩:=exq (m-1)
 have hw:IntKind.i64.wrap (m-1)=z:=by rw[hz];exact IntWalk.i64_in _ (by omega)
 rw[<- hz]
 obtain⟨B,hB⟩:=exq (inB x 0 z)
 have HP:=hid (zNE x 0 z W)
 rw[<- hB]at HP
 simp only[<- hB]
 clear hB hc hz
 show Calls Tryz.prog 248 #[.int .i64 x,.pointer (some ⟨b,0,none⟩)] W _
 go_enter Tryz.func248,Tryz.ntmps248
 go_wp2_with (go_at_call 88;refine HP.out.mono ?_;rintro e w1 ⟨rfl,rfl⟩)
 go_ret
 exact⟨rfl,Below.refl _ _⟩
theorem named_c(w:World)(W:Nat)(hW:W<=1000)(a:Option Addr)(n cap:Nat)(l:List Int)(hn:l.length=n)(hm:n<=maxLen)(H:zAH w a l):
 Calls Tryz.prog 213 #[.int .i64 W,.slice a n cap] w fun e w'=>e=.returned (.int .i64 (zEE W l))∧Below w.heap.size w w':=by
 have HN:=hid hn
 have HH:=hid (fun(X:World) (hX:Below w.heap.size w X)=>H.below hX)
 obtain⟨E,hE⟩:=exq (zEE W l)
 rw[<- hE]
 have HE:=hid hE
 clear hn H hE
 have hm':n<=9223372036854775807:=by unfold maxLen at hm;omega
 go_enter Tryz.func213,Tryz.ntmps213
 obtain⟨w1,hw1⟩:=exq (w.alloc (.cells #[.int .i64 W] 3))
 have hb1:Below w.heap.size w w1:=by rw[hw1];exact(Below.refl _ _).alloc (yAC _) _
 have hc1:w1.cell? ⟨w.heap.size,0,none⟩=some (.int .i64 W):=by rw[hw1,World.cell?_alloc_at _ _ _ _ rfl];rfl
 have hs1:w.heap.size<w1.heap.size:=by rw[hw1];simp
 have HB1:=hid hb1
 have HC1:=hid hc1
 have HW1:=hid hw1
 clear hb1 hc1 hw1
 go_wp2
 try rw[<- HW1.out]
 go_loopw [9] (fun i wr=>∃k:Nat,k<=n∧i=.int .i64 k∧wr=w1∧Hid (∀i,i+1<k->l[i]?.getD 0<l[i+1]?.getD 0)) (fun i _=>n-(intOf i).toNat)
 case atStart=>exact⟨0,yAK _,rfl,by first|exact HW1.out.symm|rfl,hid (fun i h=>by omega)⟩
 case round=>
  obtain⟨k,hk,rfl,rfl,HNO⟩:=hrel
  by_cases hlt:k<n
  ·have hkl:k<l.length:=by rw[HN.out];exact hlt
   obtain⟨b,off,rfl,hbs,hc⟩:=(HH.out wr HB1.out) k hkl
   rcases yBR k with h0|h0
   ·subst h0
    obtain⟨x,hx⟩:=exq (l[0]?.getD 0)
    rw[<- hx,yDS]at hc
    clear hx hkl
    go_wp2
    exact⟨⟨1,by omega,by go_num,by first|trivial|rfl,hid (fun i h=>by omega)⟩,by simp[intOf];omega⟩
   ·obtain⟨p,rfl⟩:∃p,k=p+1:=⟨k-1,by omega⟩
    obtain⟨b',off',e',_,hc2⟩:=(HH.out wr HB1.out) p (by omega)
    cases e'
    have hpi:((p+1:Nat):Int)-1=(p:Int):=by omega
    have hpn:(p:Int)<(n:Int):=by omega
    have hpp:(0:Int)<((p+1:Nat):Int):=by omega
    have HNO2:=hid (fun(h:¬l[p]?.getD 0<l[p+1]?.getD 0)=>asc_no (by rw[HN.out];exact hlt) h)
    have HNX:=hid (fun(h:l[p]?.getD 0<l[p+1]?.getD 0)=>(show ∀i,i+1<p+1+1->l[i]?.getD 0<l[i+1]?.getD 0 from fun i hi=>by
     rcases yAP i p with h1|h1
     ·exact HNO.out i (by omega)
     ·have:i=p:=by omega
      subst this;exact h))
    obtain⟨x,hx⟩:=exq (l[p+1]?.getD 0)
    obtain⟨y,hy⟩:=exq (l[p]?.getD 0)
    rw[<- hx]at hc HNO2 HNX
    rw[<- hy]at hc2 HNO2 HNX
    clear hx hy hkl
    by_cases hle:x<=y
    ·have HA:=hid (HNO2.out (by omega))
     obtain rfl:E=7:=by rw[HE.out];unfold zEE;rw[HA.out];rfl
     go_wp2
     go_ret
     exact⟨rfl,HB1.out⟩
    ·have HX:=hid (HNX.out (by omega))
     go_wp2
     exact⟨⟨p+1+1,by omega,by go_num,by first|trivial|rfl,HX⟩,by simp[intOf];omega⟩
  ·obtain rfl:n=k:=by omega
   have HA:=hid (asc_yes (l:=l) (fun i hi=>HNO.out i (by rw[<- HN.out];exact hi)))
   have HCF:=hid (zJU wr a n cap l HN.out hm (HH.out wr HB1.out) 248 #[.pointer (some ⟨w.heap.size,0,none⟩)] (fun p=>!(inB p 0 ((W:Int)-1))) (enters_of Tryz.func248 (by kernel_rfl) rfl) (named1 wr w.heap.size W (by omega) HC1.out hs1))
   have hany:l.any (fun p=>!(inB p 0 ((W:Int)-1)))=!(l.all (fun p=>inB p 0 ((W:Int)-1))):=by rw[yDU]
   rw[hany]at HCF
   have hee:=HE.out
   unfold zEE at hee
   rw[if_pos HA.out]at hee
   clear hany HNO
   cases hall:l.all (fun p=>inB p 0 ((W:Int)-1))
   ·rw[hall]at HCF hee
    obtain rfl:E=5:=hee
    clear hall
    go_wp2_with (go_at_call 105;refine HCF.out.mono ?_;rintro e w3 ⟨rfl,hb3⟩)
    go_ret
    exact⟨rfl,zAA HB1.out hb3⟩
   ·rw[hall]at HCF hee
    obtain rfl:E=0:=hee
    clear hall
    go_wp2_with (go_at_call 105;refine HCF.out.mono ?_;rintro e w3 ⟨rfl,hb3⟩)
    go_ret
    exact⟨rfl,zAA HB1.out hb3⟩
theorem pixels_c(w:World)(a a2:Option Addr)(n cap n2 cap2:Nat)(M:Mask)(l:List Int)(hn:M.length=n)(hn2:l.length=n2)(hm:n<=maxLen)(hm2:n2<=maxLen)(H:zAM w a M)(H2:zAH w a2 l):
 Calls Tryz.prog 163 #[.slice a n cap,.slice a2 n2 cap2] w fun e w'=>e=.returned (.int .i64 (pixE M l))∧Below w.heap.size w w':=by
 have HV:=hid (zIU w a n cap M hn hm H)
 cases hok:okM M
 ·rw[hok]at HV
  have he:pixE M l=1:=by unfold pixE;rw[hok];rfl
  rw[he]
  clear hn hn2 H H2 hok he
  go_enter Tryz.func163,Tryz.ntmps163
  go_wp2_with (go_at_call 79;refine HV.out.mono ?_;rintro e w1 ⟨rfl,hb1⟩)
  go_ret
  exact⟨rfl,hb1⟩
 ·rw[hok]at HV
  have he:pixE M l=zEE (zAD M) l:=by unfold pixE;rw[if_pos hok]
  rw[he]
  obtain⟨hM,h1,h6,hc1,hc10⟩:=zCR hok
  obtain⟨b,off,ra,rc,rfl,hb,hc⟩:=zCT H (by omega)
  have hz:(0:Int)<(n:Int):=by omega
  obtain⟨W,hW⟩:=exq (zAD M)
  rw[<- hW]at hc hc1 hc10⊢
  have HS:=hid (fun(X:World) (hX:Below w.heap.size w X)=>(hX.cell (p:=⟨b,off,none⟩) hb).trans hc)
  have HNM:=hid (fun(X:World) (hX:Below w.heap.size w X)=>named_c X W (by omega) a2 n2 cap2 l hn2 hm2 (H2.below hX))
  obtain⟨E,hE⟩:=exq (zEE W l)
  rw[<- hE]at HNM⊢
  clear hn hn2 H H2 hok he hM hW hE hc hb
  go_enter Tryz.func163,Tryz.ntmps163
  go_wp2_with (go_at_call 79;refine HV.out.mono ?_;rintro e w1 ⟨rfl,hb1⟩;refine Stop.of ?_)
  refine Stop.go ?_
  have hc1':=HS.out w1 hb1
  have HB1:=hid hb1
  clear hb1
  go_wp2_with (go_at_call 213;refine(HNM.out w1 HB1.out).mono ?_;rintro e w2 ⟨rfl,hb2⟩)
  go_ret
  exact⟨rfl,zAA HB1.out hb2⟩
theorem pix_ok{M:Mask}{l:List Int}(h:pixE M l=0):okM M=true∧zCI (zAD M) l:=by
 unfold pixE at h
 split at h
 ·rename_i h1;exact⟨h1,named_ok h⟩
 ·omega
theorem zPJ{W:Nat}{l:List Int}(h:zCI W l):l.length<=W:=by
 have h1:(l.map Int.toNat).Pairwise (· < ·):=by
  rw[List.pairwise_map]
  refine h.1.imp_of_mem fun {a b} ha hb hab=>?_
  have:=h.2 a ha
  have:=h.2 b hb
  omega
 have:=zQH (a:=0) (b:=W) h1 (fun x hx=>by
  obtain⟨y,hy,rfl⟩:=yBJ.1 hx
  have:=h.2 y hy
  omega)
 rw[yAS]at this
 omega
end
section
open Go.RowKit
theorem zQY(w:World)(a:Option Addr)(n cap:Nat)(l:List Int)(hn:l.length=n)(hm:n<=maxLen)(H:zAH w a l):
 Calls Tryz.prog 173 #[.slice a n cap] w fun e w'=>e=.returned (.bool (ascB l))∧∃k,w'=w.drewN k:=by
 have HN:=hid hn
 have HH:=hid H
 obtain⟨E,hE⟩:=exq (ascB l)
 rw[<- hE]
 have HE:=hid hE
 clear hn H hE
 have hm':n<=9223372036854775807:=by unfold maxLen at hm;omega
 go_enter Tryz.func173,Tryz.ntmps173
 go_wp2
 go_loopw [3] (fun i wr=>∃k:Nat,1<=k∧(k<=n∨k=1)∧i=.int .i64 k∧(∃q,wr=w.drewN q)∧Hid (∀i,i+1<k->l[i]?.getD 0<l[i+1]?.getD 0)) (fun i _=>n-(intOf i).toNat)
 case atStart=>exact⟨1,yAC _,.inr rfl,rfl,⟨0,rfl⟩,hid (fun i h=>by omega)⟩
 case round=>
  obtain⟨k,hk1,hk,rfl,⟨q,rfl⟩,HNO⟩:=hrel
  by_cases hlt:k<n
  ·obtain⟨p,rfl⟩:∃p,k=p+1:=⟨k-1,by omega⟩
   obtain⟨b,off,rfl,hbs,hc⟩:=HH.out (p+1) (by rw[HN.out];exact hlt)
   obtain⟨b',off',e',_,hc2⟩:=HH.out p (by rw[HN.out];omega)
   cases e'
   have hpi:((p+1:Nat):Int)-1=(p:Int):=by omega
   have hpn:(p:Int)<(n:Int):=by omega
   have HNO2:=hid (fun(h:¬l[p]?.getD 0<l[p+1]?.getD 0)=>asc_no (by rw[HN.out];exact hlt) h)
   have HNX:=hid (fun(h:l[p]?.getD 0<l[p+1]?.getD 0)=>(show ∀i,i+1<p+1+1->l[i]?.getD 0<l[i+1]?.getD 0 from fun i hi=>by
    rcases yAP i p with h1|h1
    ·exact HNO.out i (by omega)
    ·have:i=p:=by omega
     subst this;exact h))
   obtain⟨x,hx⟩:=exq (l[p+1]?.getD 0)
   obtain⟨y,hy⟩:=exq (l[p]?.getD 0)
   rw[<- hx]at hc HNO2 HNX
   rw[<- hy]at hc2 HNO2 HNX
   clear hx hy
   by_cases hle:x<=y
   ·have HA:=hid (HNO2.out (by omega))
    obtain rfl:E=false:=HE.out.trans HA.out
    clear HNO2 HNX
    go_wp2
    go_quiet (fail)
    go_wp2
    go_ret
    exact⟨rfl,_,zOF _ _ _⟩
   ·have HX:=hid (HNX.out (by omega))
    clear HNO2 HNX
    go_wp2
    go_quiet (fail)
    go_wp2
    exact⟨⟨p+1+1,by omega,.inl (by omega),by go_num,⟨_,rfl⟩,HX⟩,by simp[intOf];omega⟩
  ·obtain rfl:E=true:=HE.out.trans (asc_yes fun i hi=>HNO.out i (by have:=HN.out;omega))
   go_wp2
   go_ret
   exact⟨rfl,_,rfl⟩
theorem r3Named_c(w:World)(a a2:Option Addr)(n cap n2 cap2:Nat)(M:Mask)(l:List Int)(hn:M.length=n)(hn2:l.length=n2)(hm2:n2<=maxLen)(H:zAM w a M)(H2:zAH w a2 l)(hok:okM M=true):
 Calls Tryz.prog 115 #[.slice a n cap,.slice a2 n2 cap2] w fun e w'=>e=.returned (.int .i64 (zEE (zAD M) l))∧∃k,w'=w.drewN k:=by
 obtain⟨hM,h1,h6,hc1,hc10⟩:=zCR hok
 obtain⟨b,off,ra,rc,rfl,hb,hc⟩:=zCT H (by omega)
 have hz:(0:Int)<(n:Int):=by omega
 have HAS:=hid (zQY w a2 n2 cap2 l hn2 hm2 H2)
 obtain⟨W,hW⟩:=exq (zAD M)
 rw[<- hW]at hc hc1 hc10⊢
 have hc0:w.cell? ⟨b,off,none⟩=some (.slice ra W rc):=hc
 obtain⟨E,hE⟩:=exq (zEE W l)
 rw[<- hE]
 have HE:=hid hE
 have HN2:=hid hn2
 have HII:=hid H2
 obtain⟨Wm,hWm⟩:=exq ((W:Int)-1)
 have hwm:IntKind.i64.wrap ((W:Int)-1)=Wm:=by rw[hWm];exact IntWalk.i64_in _ (by omega)
 have HWM:=hid hWm
 have hm':n2<=9223372036854775807:=by unfold maxLen at hm2;omega
 clear hn hn2 H H2 hok hM hW hc hE hWm h1 h6
 go_enter Tryz.func115,Tryz.ntmps115
 cases has:ascB l
 ·rw[has]at HAS
  obtain rfl:E=7:=by rw[HE.out];unfold zEE;rw[has];rfl
  clear has
  go_wp2_with (go_at_call 173;refine HAS.out.mono ?_;rintro e w1 ⟨rfl,k1,rfl⟩)
  go_ret
  exact⟨rfl,k1,rfl⟩
 ·rw[has]at HAS
  have HEE:=hid (show E=if l.all (fun p=>inB p 0 Wm)=true then 0 else 5 by rw[HE.out,HWM.out];unfold zEE;rw[if_pos has])
  clear has
  go_wp2_with (go_at_call 173;refine HAS.out.mono ?_;rintro e w1 ⟨rfl,k1,rfl⟩;refine Stop.of ?_)
  refine Stop.go ?_
  go_wp2
  go_loopw [12] (fun i wr=>∃k:Nat,k<=n2∧i=.int .i64 k∧(∃q,wr=w.drewN q)∧Hid (∀j (hj:j<l.length),j<k->inB l[j] 0 Wm=true)) (fun i _=>n2-(intOf i).toNat)
  case atStart=>exact⟨0,yAK _,rfl,⟨k1,rfl⟩,hid (fun j _ h=>by omega)⟩
  case round=>
   obtain⟨k,hk,rfl,⟨q,rfl⟩,HNO⟩:=hrel
   by_cases hlt:k<n2
   ·have hkl:k<l.length:=by rw[HN2.out];exact hlt
    obtain⟨b5,o5,rfl,hbs,hc5⟩:=HII.out k hkl
    have hg:l[k]?.getD 0=l[k]:=by rw[yAA hkl];rfl
    rw[hg]at hc5
    have HST:=hid (fun(h:inB l[k] 0 Wm=false)=>(zIH (p:=fun n:Int=>inB n 0 Wm) hkl h))
    have HNX:=hid (fun(h:inB l[k] 0 Wm=true)=>(show ∀j (hj:j<l.length),j<k+1->inB l[j] 0 Wm=true from fun j hj hlt=>by
     rcases yAP j k with h1|h1
     ·exact HNO.out j hj h1
     ·have:j=k:=by omega
      subst this;exact h))
    obtain⟨x,hx⟩:=exq (l[k])
    rw[<- hx]at hc5 HST HNX
    obtain⟨B,hB⟩:=exq (inB x 0 Wm)
    have HW:=hid (fun(W:World)=>zHY x 0 Wm W)
    rw[<- hB]at HW HST HNX
    clear hg hx hkl hB
    cases B
    ·obtain rfl:E=5:=by rw[HEE.out,HST.out rfl];rfl
     clear HST HNX
     go_wp2_with (go_at_call 174;refine(HW.out _).mono ?_;rintro e w1 ⟨rfl,rfl⟩)
     go_ret
     exact⟨rfl,_,rfl⟩
    ·have HX:=hid (HNX.out rfl)
     clear HST HNX
     go_wp2_with (go_at_call 174;refine(HW.out _).mono ?_;rintro e w1 ⟨rfl,rfl⟩)
     exact⟨⟨k+1,by omega,by go_num,⟨q,rfl⟩,HX⟩,by simp[intOf];omega⟩
   ·obtain rfl:E=0:=by
     rw[HEE.out,zKB (p:=fun n:Int=>inB n 0 Wm) (fun j hj=>HNO.out j hj (by have:=HN2.out;omega))];rfl
    go_wp2
    go_ret
    exact⟨rfl,_,rfl⟩
end
end
section
section
open Go.RowKit
abbrev Rt:=Int×Int
def ratV(r:Rt):Value:=.agg #[.int .i64 r.1,.int .i64 r.2]
def zBH(r:Rt):List Value:=[.int .i64 r.1,.int .i64 r.2]
def zAQ(l:List Rt):List Value:=l.flatMap zBH
theorem ratVals_snoc(l:List Rt)(f:Rt):zAQ (l++[f])=zAQ l++zBH f:=by simp[zAQ]
theorem zBU(l:List Rt):(zAQ l).length=l.length*2:=by
 induction l with
 |nil=>rfl
 |cons f l ih=>show(zBH f++zAQ l).length=_;rw[yAN,ih];simp[zBH];omega
theorem zFB(l:List Rt):∀(j i:Nat) (hj:j<l.length),i<2->(zAQ l)[j*2+i]? =(zBH l[j])[i]? :=by
 induction l with
 |nil=>intro j i hj;simp at hj
 |cons f l ih=>
  intro j i hj hi
  show(zBH f++zAQ l)[j*2+i]? =_
  cases j with
  |zero=>rw[yAO (by simp[zBH];omega)];simp
  |succ j=>
   rw[yAQ (by simp[zBH];omega)]
   have:=ih j i (by simpa using hj) hi
   rw[show(j+1)*2+i-(zBH f).length=j*2+i by simp[zBH];omega,this]
   simp
def zCB(w:World)(a:Option Addr)(l:List Rt):Prop:=
 ∀j (hj:j<l.length),∃b off,a=some ⟨b,off,none⟩∧b<w.heap.size∧w.cell? ⟨b,off+j*2,none⟩=some (.int .i64 l[j].1)∧w.cell? ⟨b,off+j*2+1,none⟩=some (.int .i64 l[j].2)
theorem zCB.below{w w':World}{a:Option Addr}{l:List Rt}(h:zCB w a l)(hb:Below w.heap.size w w'):zCB w' a l:=by
 intro j hj
 obtain⟨b,off,e,hlt,h0,h1⟩:=h j hj
 exact⟨b,off,e,yAJ hlt hb.size,(hb.cell (p:=⟨b,_,none⟩) hlt).trans h0,(hb.cell (p:=⟨b,_,none⟩) hlt).trans h1⟩
def zEC(W:World)(base:Nat)(v:Value)(l:List Rt):Prop:=W.ownsRow base 29 2 v l.length (zAQ l)
theorem zEC.nil(W:World)(base:Nat):zEC W base (.slice none 0 0) []:=World.ownsRow_nil _ _ _ _
theorem zEC.below{W W':World}{base:Nat}{v:Value}{l:List Rt}(h:zEC W base v l)(hb:Below W.heap.size W W'):zEC W' base v l:=zBJ h hb
theorem zEC.reads{W:World}{base:Nat}{v:Value}{l:List Rt}(h:zEC W base v l):∃a cap,v=.slice a l.length cap∧l.length<=maxLen∧zCB W a l:=by
 rcases h.2 with⟨rfl,h0⟩|⟨g,cap,cur,rfl,hbg,hgg,hnc,hcm,hsz,htk⟩
 ·exact⟨none,0,by rw[h0],by rw[h0];decide,fun j hj=>by omega⟩
 ·refine⟨_,cap,rfl,by omega,fun j hj=>⟨g,0,rfl,(yAB.1 hgg).1,?_⟩⟩
  have hc:∀i,i<l.length*2->W.cell? ⟨g,i,none⟩=(zAQ l)[i]? :=fun i hi=>
   World.ownsRow.cellAt (w:=W) (base:=base) (e:=29) (size:=2) (g:=g) (n:=l.length) (cap:=cap) (xs:=zAQ l) ⟨h.1,.inr ⟨g,cap,cur,rfl,hbg,hgg,hnc,hcm,hsz,htk⟩⟩ i hi
  refine⟨?_,?_⟩
  ·rw[yAW,hc _ (by omega)];exact zFB l j 0 hj (by omega)
  ·rw[yAW,hc _ (by omega)];exact zFB l j 1 hj (by omega)
theorem zPW:(Tryz.prog.info? 29).map (fun i=>(i.zero,i.size,i.bytes))=some (some (.agg #[.int .i64 0,.int .i64 0]),2,16):=by kernel_rfl
theorem rat_one(f:Rt):∀u∈zBH f,u.oneCell'=true:=by
 intro u hu
 simp only[zBH,yBP,List.not_mem_nil,or_false]at hu
 rcases hu with rfl|rfl<;>rfl
theorem rat_news(w:World)(f:Rt)(T:TypeId):∀ad,(some ⟨w.heap.size,0,none⟩:Option Addr)=some ad->∀j u,(zBH f)[j]? =some u->(w.alloc (.cells (zBH f).toArray T)).cell? (ad.add j)=some u:=by
 intro ad e j u hu
 cases e
 rw[Addr.add_lit,World.cell?_alloc_at _ _ _ _ rfl]
 simpa using hu
theorem zFZ{x g:Int}(hx: -4611686018427387904<=x∧x<=4611686018427387904): -4611686018427387904<=x.tdiv g∧x.tdiv g<=4611686018427387904:=by
 have h:=yGX x g
 have h2:(x.tdiv g).natAbs<=x.natAbs:=by rw[yGX];exact Nat.div_le_self _ _
 omega
theorem of_c(w:World)(n d:Int)(hn: -4611686018427387904<=n∧n<=4611686018427387904)(hd: -4611686018427387904<=d∧d<=4611686018427387904)(h0:d≠0):
 Calls Tryz.prog 152 #[.int .i64 n,.int .i64 d] w fun e w'=>e=.returned (ratV (ofF n d))∧Below w.heap.size w w':=by
 have HD:=hid (fun(X:World)=>zGH X n d hn hd)
 have hg0:0<Int.gcd n d:=yFL (fun h=>h0 (yFJ.1 h).2)
 have hgl:Int.gcd n d<=4611686018427387904:=by
  have:=Int.gcd_le_natAbs_right n h0
  omega
 obtain⟨G,hG⟩:∃G:Int,G=((Int.gcd n d:Nat):Int):=⟨_,rfl⟩
 unfold ofF
 simp only[]
 rw[<- hG]at HD⊢
 have hG1:1<=G:=by omega
 have hG2:G<=4611686018427387904:=by omega
 clear hG hg0 hgl
 have b1:=zFZ (g:=G) hn
 have b2:=zFZ (g:=G) hd
 by_cases hs:d<0
 ·rw[if_pos hs]
  obtain⟨m,hm⟩:∃m:Int,m= -G:=⟨_,rfl⟩
  rw[<- hm]
  have b3:=zFZ (g:=m) hn
  have b4:=zFZ (g:=m) hd
  have hw1:IntKind.i64.wrap (n.tdiv m)=n.tdiv m:=IntWalk.i64_in _ (by omega)
  have hw2:IntKind.i64.wrap (d.tdiv m)=d.tdiv m:=IntWalk.i64_in _ (by omega)
  have hw00:wrap64 (-G)=m:=by unfold wrap64;omega
  have hne:¬(m=0):=by omega
  clear b1 b2 b3 b4 h0 hm hG1 hG2 hn hd
  go_enter Tryz.func152,Tryz.ntmps152
  go_wp2_with (go_at_call 206;refine(HD.out _).mono ?_;rintro e w1 ⟨rfl,k1,rfl⟩;refine Stop.of ?_)
  refine Stop.go ?_
  have hb1:Below w.heap.size w ((w.alloc (.cells #[.int .i64 0,.int .i64 0] 29)).drewN k1):=zAI ((Below.refl _ w).alloc (yAC _) _) k1
  have hq1:((w.alloc (.cells #[.int .i64 0,.int .i64 0] 29)).drewN k1).heap[w.heap.size]? =some (.cells #[.int .i64 0,.int .i64 0] 29 (0,0)):=World.alloc_heap_new w _
  generalize (w.alloc (.cells #[.int .i64 0,.int .i64 0] 29)).drewN k1=w2 at hb1 hq1⊢
  go_wp2
  go_still_tail 7,(by kernel_rfl)
  change wpList _ _ _ _ _ w2.drew
  have hb2:=hb1.drew
  have hq2:w2.drew.heap[w.heap.size]? =some (.cells #[.int .i64 0,.int .i64 0] 29 (0,0)):=hq1
  generalize w2.drew=w3 at hb2 hq2⊢
  have c0:w3.cell? ⟨w.heap.size,0,none⟩=some (.int .i64 0):=by simp[World.cell?,hq2]
  have c1:w3.cell? ⟨w.heap.size,1,none⟩=some (.int .i64 0):=by simp[World.cell?,hq2]
  have f0:w3.frozen? ⟨w.heap.size,0,none⟩=false:=by simp[World.frozen?,hq2]
  have f1:w3.frozen? ⟨w.heap.size,1,none⟩=false:=by simp[World.frozen?,hq2]
  have hlt3:w.heap.size<w3.heap.size:=(yAB.1 hq2).1
  go_wp2
  simp[bodyPost,results,Tryz.results152,go_sem,c0,c1,f0,f1,hlt3]
  exact⟨rfl,zAE (zAE hb2 (yAC _) 0 _) (yAC _) 1 _⟩
 ·rw[if_neg hs]
  have hw1:IntKind.i64.wrap (n.tdiv G)=n.tdiv G:=IntWalk.i64_in _ (by omega)
  have hw2:IntKind.i64.wrap (d.tdiv G)=d.tdiv G:=IntWalk.i64_in _ (by omega)
  have hne:¬(G=0):=by omega
  clear b1 b2 h0 hG1 hG2 hn hd
  go_enter Tryz.func152,Tryz.ntmps152
  go_wp2_with (go_at_call 206;refine(HD.out _).mono ?_;rintro e w1 ⟨rfl,k1,rfl⟩;refine Stop.of ?_)
  refine Stop.go ?_
  have hb1:Below w.heap.size w ((w.alloc (.cells #[.int .i64 0,.int .i64 0] 29)).drewN k1):=zAI ((Below.refl _ w).alloc (yAC _) _) k1
  have hq1:((w.alloc (.cells #[.int .i64 0,.int .i64 0] 29)).drewN k1).heap[w.heap.size]? =some (.cells #[.int .i64 0,.int .i64 0] 29 (0,0)):=World.alloc_heap_new w _
  generalize (w.alloc (.cells #[.int .i64 0,.int .i64 0] 29)).drewN k1=w2 at hb1 hq1⊢
  go_wp2
  go_still_tail 7,(by kernel_rfl)
  change wpList _ _ _ _ _ w2.drew
  have hb2:=hb1.drew
  have hq2:w2.drew.heap[w.heap.size]? =some (.cells #[.int .i64 0,.int .i64 0] 29 (0,0)):=hq1
  generalize w2.drew=w3 at hb2 hq2⊢
  have c0:w3.cell? ⟨w.heap.size,0,none⟩=some (.int .i64 0):=by simp[World.cell?,hq2]
  have c1:w3.cell? ⟨w.heap.size,1,none⟩=some (.int .i64 0):=by simp[World.cell?,hq2]
  have f0:w3.frozen? ⟨w.heap.size,0,none⟩=false:=by simp[World.frozen?,hq2]
  have f1:w3.frozen? ⟨w.heap.size,1,none⟩=false:=by simp[World.frozen?,hq2]
  have hlt3:w.heap.size<w3.heap.size:=(yAB.1 hq2).1
  go_wp2
  simp[bodyPost,results,Tryz.results152,go_sem,c0,c1,f0,f1,hlt3]
  exact⟨rfl,zAE (zAE hb2 (yAC _) 0 _) (yAC _) 1 _⟩
theorem r3ratio_c(w:World)(n d:Int)(hn: -4611686018427387904<=n∧n<=4611686018427387904)(hd: -4611686018427387904<=d∧d<=4611686018427387904)(h0:d≠0):
 Calls Tryz.prog 250 #[.int .i64 n,.int .i64 d] w fun e w'=>e=.returned (ratV (zBF n d))∧Below w.heap.size w w':=by
 have HD:=hid (fun(X:World)=>zGN X n d hn hd)
 have hg0:0<Int.gcd n d:=yFL (fun h=>h0 (yFJ.1 h).2)
 have hgl:Int.gcd n d<=4611686018427387904:=by
  have:=Int.gcd_le_natAbs_right n h0
  omega
 obtain⟨G,hG⟩:∃G:Int,G=((Int.gcd n d:Nat):Int):=⟨_,rfl⟩
 unfold zBF
 rw[<- hG]at HD⊢
 have hG1:1<=G:=by omega
 have hG2:G<=4611686018427387904:=by omega
 clear hG hg0 hgl
 have b1:=zFZ (g:=G) hn
 have b2:=zFZ (g:=G) hd
 have hw1:IntKind.i64.wrap (n.tdiv G)=n.tdiv G:=IntWalk.i64_in _ (by omega)
 have hw2:IntKind.i64.wrap (d.tdiv G)=d.tdiv G:=IntWalk.i64_in _ (by omega)
 have hne:¬(G=0):=by omega
 clear b1 b2 h0 hG1 hG2 hn hd
 go_enter Tryz.func250,Tryz.ntmps250
 go_wp2_with (go_at_call 211;refine(HD.out _).mono ?_;rintro e w1 ⟨rfl,k1,rfl⟩;refine Stop.of ?_)
 refine Stop.go ?_
 have hb1:Below w.heap.size w ((w.alloc (.cells #[.int .i64 0,.int .i64 0] 29)).drewN k1):=zAI ((Below.refl _ w).alloc (yAC _) _) k1
 have hq1:((w.alloc (.cells #[.int .i64 0,.int .i64 0] 29)).drewN k1).heap[w.heap.size]? =some (.cells #[.int .i64 0,.int .i64 0] 29 (0,0)):=World.alloc_heap_new w _
 generalize (w.alloc (.cells #[.int .i64 0,.int .i64 0] 29)).drewN k1=w2 at hb1 hq1⊢
 go_wp2
 go_still_tail 7,(by kernel_rfl)
 change wpList _ _ _ _ _ w2.drew
 have hb2:=hb1.drew
 have hq2:w2.drew.heap[w.heap.size]? =some (.cells #[.int .i64 0,.int .i64 0] 29 (0,0)):=hq1
 generalize w2.drew=w3 at hb2 hq2⊢
 have c0:w3.cell? ⟨w.heap.size,0,none⟩=some (.int .i64 0):=by simp[World.cell?,hq2]
 have c1:w3.cell? ⟨w.heap.size,1,none⟩=some (.int .i64 0):=by simp[World.cell?,hq2]
 have f0:w3.frozen? ⟨w.heap.size,0,none⟩=false:=by simp[World.frozen?,hq2]
 have f1:w3.frozen? ⟨w.heap.size,1,none⟩=false:=by simp[World.frozen?,hq2]
 have hlt3:w.heap.size<w3.heap.size:=(yAB.1 hq2).1
 go_wp2
 simp[bodyPost,results,Tryz.results250,go_sem,c0,c1,f0,f1,hlt3]
 exact⟨rfl,zAE (zAE hb2 (yAC _) 0 _) (yAC _) 1 _⟩
end
section
open Go.RowKit
def zMW(M:Mask)(y:List Int):Int:=if y.length=M.length then(if milB y=true then 0 else 7)else 9
def zAV(M:Mask)(y l:List Int):Int:=if okM M=true then(if y.length=M.length then(if milB y=true then pixE M l else 7)else 9)else 1
theorem zLC(w:World)(a a2 a3:Option Addr)(n cap n2 cap2 n3 cap3:Nat)(M:Mask)(y l:List Int)(hn:M.length=n)(hn2:y.length=n2)(hn3:l.length=n3)(hm:n<=maxLen)(hm2:n2<=maxLen)(hm3:n3<=maxLen)(H:zAM w a M)(H2:zAH w a2 y)(H3:zAH w a3 l):
 Calls Tryz.prog 101 #[.slice a n cap,.slice a2 n2 cap2,.slice a3 n3 cap3] w fun e w'=>e=.returned (.int .i64 (zAV M y l))∧Below w.heap.size w w':=by
 have HV:=hid (zIU w a n cap M hn hm H)
 cases hok:okM M
 ·rw[hok]at HV
  have hp:zAV M y l=1:=by unfold zAV;rw[hok];rfl
  rw[hp]
  clear hn hn2 hn3 H H2 H3 hok hp
  go_enter Tryz.func101,Tryz.ntmps101
  go_wp2_with (go_at_call 79;refine HV.out.mono ?_;rintro e w1 ⟨rfl,hb1⟩)
  go_ret
  exact⟨rfl,hb1⟩
 ·rw[hok]at HV
  by_cases hl:n2=n
  ·subst hl
   have HII:=hid (fun(X:World) (hX:Below w.heap.size w X)=>H2.below hX)
   have HN2:=hid hn2
   have HPX:=hid (fun(X:World) (hX:Below w.heap.size w X)=>pixels_c X a a3 n2 cap n3 cap3 M l hn hn3 hm hm3 (H.below hX) (H3.below hX))
   have hdl:((n2:Int) !=(n2:Int))=false:=by simp
   have hpre:zAV M y l=if milB y=true then pixE M l else 7:=by unfold zAV;rw[if_pos hok,if_pos (by omega)]
   rw[hpre]
   obtain⟨E,hE⟩:=exq (pixE M l)
   rw[<- hE]at HPX⊢
   obtain⟨mz,hmz⟩:=exq (milB y)
   have HMZ:=hid hmz
   rw[<- hmz]
   clear hn H H2 H3 hok hn2 hn3 hpre hE hmz
   cases mz
   all_goals
    simp only[if_true,if_false,Bool.false_eq_true]
    go_enter Tryz.func101,Tryz.ntmps101
    go_wp2_with (go_at_call 79;refine HV.out.mono ?_;rintro e w1 ⟨rfl,hb1⟩;refine Stop.of ?_)
    refine Stop.go ?_
    have HBW1:=hid hb1
    clear hb1 HV
    go_wp2_with (go_at_call 106;refine(beyond_c _ 1000000).mono ?_;rintro e w2 ⟨q,rfl,hq,hqs,hb2⟩;refine Stop.of ?_)
    refine Stop.go ?_
    have HB2:=hid (zAA HBW1.out hb2)
    have HCF:=hid (zJU w2 a2 n2 cap2 y HN2.out hm2 (HII.out w2 HB2.out) 167 #[.pointer (some ⟨q,0,none⟩)] (fun n=>!(inB n (-1000000) 1000000)) (enters_of Tryz.func167 (by kernel_rfl) rfl) (beyond1 w2 q 1000000 (by decide) hq hqs))
    rw[any_mil,<- HMZ.out]at HCF
    clear hq hqs hb2
   ·go_wp2_with (go_at_call 105;refine HCF.out.mono ?_;rintro e w3 ⟨rfl,hb3⟩)
    go_ret
    exact⟨rfl,zAA HB2.out hb3⟩
   ·go_wp2_with (go_at_call 105;refine HCF.out.mono ?_;rintro e w3 ⟨rfl,hb3⟩;refine Stop.of ?_)
    refine Stop.go ?_
    have HB3:=hid (zAA HB2.out hb3)
    clear HCF hb3
    go_wp2_with (go_at_call 163;refine(HPX.out w3 HB3.out).mono ?_;rintro e w4 ⟨rfl,hb4⟩)
    go_ret
    exact⟨rfl,zAA HB3.out hb4⟩
  ·have hdl:((n2:Int) !=(n:Int))=true:=by simp;omega
   have hpre:zAV M y l=9:=by unfold zAV;rw[if_pos hok,if_neg (by omega)]
   rw[hpre]
   clear hn hn2 hn3 H H2 H3 hok hpre hl
   go_enter Tryz.func101,Tryz.ntmps101
   go_wp2_with (go_at_call 79;refine HV.out.mono ?_;rintro e w1 ⟨rfl,hb1⟩)
   go_ret
   exact⟨rfl,hb1⟩
theorem zNC(w:World)(a:Option Addr)(n cap n2 cap2:Nat)(M:Mask)(l:List Int)(V0:Option Addr)(hn:M.length=n)(hn2:l.length=n2)(hm2:n2<=maxLen)(H:zAH w a l):
 Calls Tryz.prog 134 #[.slice V0 n cap,.slice a n2 cap2] w fun e w'=>e=.returned (.int .i64 (zMW M l))∧w=w':=by
 by_cases hl:n2=n
 ·subst hl
  have he:zMW M l=if milB l=true then 0 else 7:=by unfold zMW;rw[if_pos (by omega)]
  rw[he]
  have HN:=hid hn2
  have HH:=hid H
  obtain⟨E,hE⟩:∃E:Int,E=if milB l=true then 0 else 7:=⟨_,rfl⟩
  rw[<- hE]
  have HE:=hid hE
  have hdl:((n2:Int) !=(n2:Int))=false:=by simp
  clear hn hn2 H he hE
  unfold maxLen at hm2
  go_enter Tryz.func134,Tryz.ntmps134
  go_wp2
  go_loop [14] (fun i=>∃k:Nat,k<=n2∧i=.int .i64 k∧Hid (∀j (hj:j<l.length),j<k->inB l[j] (-1000000) 1000000=true)) (fun i=>n2-(intOf i).toNat)
  case atStart=>exact⟨0,yAK _,rfl,hid (fun j _ h=>by omega)⟩
  case round=>
   obtain⟨k,hk,rfl,HNO⟩:=hrel
   by_cases hlt:k<n2
   ·have hkl:k<l.length:=by rw[HN.out];exact hlt
    obtain⟨b,off,rfl,hbs,hc⟩:=HH.out k hkl
    have hg:l[k]?.getD 0=l[k]:=by rw[yAA hkl];rfl
    rw[hg]at hc
    have HST:=hid (fun(h:inB l[k] (-1000000) 1000000=false)=>(zIH (p:=fun n:Int=>inB n (-1000000) 1000000) hkl h:milB l=false))
    have HNX:=hid (fun(h:inB l[k] (-1000000) 1000000=true)=>(show ∀j (hj:j<l.length),j<k+1->inB l[j] (-1000000) 1000000=true from fun j hj hlt=>by
     rcases yAP j k with h1|h1
     ·exact HNO.out j hj h1
     ·have:j=k:=by omega
      subst this;exact h))
    obtain⟨x,hx⟩:=exq (l[k])
    rw[<- hx]at hc HST HNX
    obtain⟨B,hB⟩:=exq (inB x (-1000000) 1000000)
    have HW:=hid (fun(W:World)=>zHY x (-1000000) 1000000 W)
    rw[<- hB]at HW HST HNX
    clear hg hx hkl hB
    cases B
    ·have HX:=hid (HST.out rfl)
     obtain rfl:E=7:=by rw[HE.out,if_neg (by rw[show milB l=false from HX.out];decide)]
     clear HST HNX
     go_wp2_with (go_at_call 174;refine(HW.out _).mono ?_;rintro e w1 ⟨rfl,rfl⟩)
     go_ret
     exact⟨rfl,rfl⟩
    ·have HX:=hid (HNX.out rfl)
     clear HST HNX
     go_wp2_with (go_at_call 174;refine(HW.out _).mono ?_;rintro e w1 ⟨rfl,rfl⟩)
     go_round
     case rel=>exact⟨k+1,by omega,by go_num,HX⟩
     case measure=>simp[intOf];omega
   ·have hall:milB l=true:=zKB (p:=fun n:Int=>inB n (-1000000) 1000000) (fun j hj=>HNO.out j hj (by have:=HN.out;omega))
    obtain rfl:E=0:=by rw[HE.out,if_pos hall]
    go_wp2
    go_ret
    exact⟨rfl,rfl⟩
 ·have he:zMW M l=9:=by unfold zMW;rw[if_neg (by omega)]
  rw[he]
  have hdl:((n2:Int) !=(n:Int))=true:=by simp;omega
  clear hn hn2 H he hl
  go_enter Tryz.func134,Tryz.ntmps134
  go_wp2
  go_ret
  exact⟨rfl,rfl⟩
end
section
open Go.RowKit
theorem solve1(w:World)(b:Nat)(a:Option Addr)(n cap N:Nat)(y:List Int)(hn:y.length=n)(hN:N<=n)(hm:n<=maxLen)(hc:w.cell? ⟨b,0,none⟩=some (.slice a n cap))(hb:b<w.heap.size)(H:zAH w a y):
 MoreP Tryz.prog 265 #[.pointer (some ⟨b,0,none⟩)] w N (fun i=>[y[i]?.getD 0]):=by
 intro i W hi hW
 have hc':W.cell? ⟨b,0,none⟩=some (.slice a n cap):=(hW.cell (p:=⟨b,0,none⟩) hb).trans hc
 obtain⟨b2,o2,rfl,hb2,hc2⟩:=(H.below hW) i (by omega)
 show Calls Tryz.prog 265 #[.int .i64 i,.pointer (some ⟨b,0,none⟩)] W fun e W'=>∃a c,e=.returned (.slice a 1 c)∧zAH W' a [y[i]?.getD 0]∧Below W.heap.size W W'
 obtain⟨x,hx⟩:=exq (y[i]?.getD 0)
 rw[<- hx]at hc2⊢
 have hin:(i:Int)<(n:Int):=by omega
 unfold maxLen at hm
 clear hn H hc hx
 go_enter Tryz.func265,Tryz.ntmps265
 go_wp2
 go_ret
 refine⟨some ⟨W.heap.size,0,none⟩,1,rfl,fun j hj=>⟨W.heap.size,0,rfl,by simp,?_⟩,(Below.refl _ _).alloc (yAC _) _⟩
 obtain rfl:j=0:=by simpa using hj
 rw[World.cell?_alloc_at _ _ _ _ rfl];rfl
theorem chosenF_y{M:List (List Int)}{S y:List Int}(h:y.length=M.length):zEI M S (fun i=>[y[i]?.getD 0])=zAJ (zAO M S) y:=by
 unfold zEI zAJ zAO
 refine yCC (by simp[h]) fun i h1 h2=>?_
 have hi:i<M.length:=by simpa using h1
 simp[yAA (show i<y.length by omega)]
def zCC(M:Mask)(l y:List Int):List Rt×Int:=if zAV M y l=0 then zAX (zAJ (zAO M l) y) l.length else([],zAV M y l)
theorem zFV{M:Mask}{y l:List Int}(h:zAV M y l=0):okM M=true∧y.length=M.length∧milB y=true∧zCI (zAD M) l:=by
 unfold zAV at h
 by_cases h1:okM M=true
 ·rw[if_pos h1]at h
  by_cases h2:y.length=M.length
  ·rw[if_pos h2]at h
   by_cases h3:milB y=true
   ·rw[if_pos h3]at h
    exact⟨h1,h2,h3,(pix_ok h).2⟩
   ·rw[if_neg h3]at h;omega
  ·rw[if_neg h2]at h;omega
 ·rw[if_neg h1]at h;omega
theorem zHZ{y:List Int}(h:milB y=true):∀v∈y,-((1000000:Nat):Int)<=v∧v<=((1000000:Nat):Int):=by
 intro v hv
 have:=yAT.1 h v hv
 unfold inB at this
 simp only[Bool.and_eq_true,decide_eq_true_eq]at this
 omega
def ofTo(R:List (List Int))(J:List Nat)(n k:Nat):List Rt:=(List.range k).map fun i=>ofF (vec (R[i]?.getD []) n) (vec (R[i]?.getD []) (jf J i))
theorem zRC(R:List (List Int))(J:List Nat)(n k:Nat):(ofTo R J n k).length=k:=by simp[ofTo]
theorem ofTo_succ(R:List (List Int))(J:List Nat)(n k:Nat):ofTo R J n (k+1)=ofTo R J n k++[ofF (vec (R[k]?.getD []) n) (vec (R[k]?.getD []) (jf J k))]:=by
 unfold ofTo;rw[yBQ,yBF];rfl
def SolveSt(wr:World)(base:Nat)(v:Value)(R:List (List Int))(J:List Nat)(n k:Nat):Prop:=zEC wr base v (ofTo R J n (min k J.length))∧∀q,J.length<=q->q<k->vec (R[q]?.getD []) n=0
theorem solve_end{C:List (List Int)}{n:Nat}(hK:(pRed C n).2.length<=n)(h0:∀q,(pRed C n).2.length<=q->q<(pRed C n).1.length->vec ((pRed C n).1[q]?.getD []) n=0):
 zAX C n=if (pRed C n).2.length<n then([],11)else(ofTo (pRed C n).1 (pRed C n).2 n (pRed C n).2.length,0):=by
 unfold zAX
 simp only[]
 have h1:((pRed C n).1.drop (pRed C n).2.length).any (nz n)=false:=by
  rw[Bool.eq_false_iff]
  intro hc
  obtain⟨r,hr,hz⟩:=yDO.1 hc
  obtain⟨i,hi,rfl⟩:=yAM.1 hr
  rw[yFF]at hz
  have:=h0 ((pRed C n).2.length+i) (by omega) (by rw[yDF]at hi;omega)
  rw[yAA (by rw[yDF]at hi;omega)]at this
  simp only[nz,decide_eq_true_eq]at hz
  exact hz this
 rw[h1]
 simp only[Bool.false_eq_true,if_false]
 by_cases c:(pRed C n).2.length<n
 ·rw[if_pos c,if_pos c]
 ·rw[if_neg c,if_neg c]
  have:(pRed C n).2.length=n:=by omega
  rw[this];rfl
theorem solve_none{C:List (List Int)}{n q:Nat}(h1:(pRed C n).2.length<=q)(h2:q<(pRed C n).1.length)(h3:vec ((pRed C n).1[q]?.getD []) n≠0):zAX C n=([],8):=by
 unfold zAX
 simp only[]
 rw[if_pos]
 refine yDO.2 ⟨(pRed C n).1[q],?_,?_⟩
 ·rw[yGD];exact⟨q-(pRed C n).2.length,by omega,by congr 1;omega⟩
 ·rw[yAA h2]at h3
  simpa[nz]using h3
theorem solve_c(w:World)(a a2 a3:Option Addr)(n cap n2 cap2 n3 cap3:Nat)(M:Mask)(l y:List Int)(hn:M.length=n)(hn2:l.length=n2)(hn3:y.length=n3)(hm:n<=maxLen)(hm2:n2<=maxLen)(hm3:n3<=maxLen)(H:zAM w a M)(H2:zAH w a2 l)(H3:zAH w a3 y):
 Calls Tryz.prog 262 #[.slice a n cap,.slice a2 n2 cap2,.slice a3 n3 cap3] w fun e w'=>∃v base,e=.returned (.tuple #[v,.int .i64 (zCC M l y).2])∧w.heap.size<=base∧zEC w' base v (zCC M l y).1∧Below w.heap.size w w':=by
 have hmf:∀(fn:Fn) (first cap:Array Value) (w:World),(Instr.makeFunc fn first cap).run Tryz.prog w=.ok (.func fn first cap) w:=fun _ _ _ _=>rfl
 obtain⟨s,hs⟩:=exq (w.heap.size)
 obtain⟨wf,hwf⟩:=exq (w.alloc (.cells #[.slice a3 n3 cap3] 24))
 have hb0:Below w.heap.size w wf:=by rw[hwf];exact(Below.refl _ _).alloc (yAC _) _
 have hcb:wf.cell? ⟨s,0,none⟩=some (.slice a3 n3 cap3):=by rw[hwf,hs,World.cell?_alloc_at _ _ _ _ rfl];rfl
 have hsf:s<wf.heap.size:=by rw[hwf,hs];simp
 have HCK:=hid (zLC wf a a3 a2 n cap n3 cap3 n2 cap2 M y l hn hn3 hn2 hm hm3 hm2 (H.below hb0) (H3.below hb0) (H2.below hb0))
 have HBF:=hid hb0
 by_cases hck:zAV M y l=0
 ·rw[hck]at HCK
  have hv:zCC M l y=zAX (zAJ (zAO M l) y) n2:=by unfold zCC;rw[if_pos hck,hn2]
  rw[hv]
  obtain⟨hok,hyl,hmil,hso⟩:=zFV hck
  obtain⟨hM,h1,h6,hc1,hc10⟩:=zCR hok
  have hl10:=zPJ hso
  have hn6:n<=6:=by omega
  have hn1:1<=n:=by omega
  have hn210:n2<=10:=by omega
  have hS:∀r∈M,∀j∈l,0<=j∧j<r.length:=fun r hr j hj=>by rw[hM.wid r hr];exact hso.2 j hj
  have HCh:=hid (fun(X:World) (hX:Below wf.heap.size wf X)=>
   have hX0:=zAA hb0 hX
   zRU X a n cap M hn (by omega) (H.below hX0) a2 n2 cap2 l hn2 (by omega) (H2.below hX0) hS 265 #[.pointer (some ⟨s,0,none⟩)] (enters_of Tryz.func265 (by kernel_rfl) rfl) (fun i=>[y[i]?.getD 0])
    (solve1 X s a3 n3 cap3 n y hn3 (by omega) hm3 ((hX.cell (p:=⟨s,0,none⟩) hsf).trans hcb) (yAJ hsf hX.size) (H3.below hX0)) (fun i _=>⟨by simp,by simp⟩))
  rw[chosenF_y (by omega)]at HCh
  have hMC:MaskOk (zAO M l) n2:=by rw[<- hn2];exact hM.cols l
  have hY:=hMC.addY (y:=y) (by rw[zBA];omega) (Y:=1000000) (by omega) (zHZ hmil)
  have hCl:(zAJ (zAO M l) y).length=n:=by rw[zEK (by rw[zBA];omega),zBA,hn]
  obtain⟨C,hC⟩:=exq (zAJ (zAO M l) y)
  rw[<- hC]at HCh hY hCl⊢
  have hle:∀t,t<=n2->∀r∈(pRed C t).1,r.length=n2+1∧BndL 1073741824 r:=fun t ht r hr=>by
   have h:=zRA hY.wid hY.le6 hY.one hY.all ht r hr
   exact⟨h.1,fun x hx=>by have:=h.2 x hx;omega⟩
  have HRd:=hid (fun(W1:World) (base:Nat) (v0:Value) (hO:OwnT W1 base W1.heap.size v0 C) (hb:base<=W1.heap.size)=>zQV W1 base v0 C (n2+1) hO hb hY.wid (by omega) (by omega) (by omega) n2 (by omega) hle)
  have hinv:=zCO C hY.wid n2 (fun j hj q=>zCF (by decide) (fun r hr=>hY.one r hr j hj) q)
  have hRl:(pRed C n2).1.length=n:=by rw[zEJ,hCl]
  have hRw:∀r∈(pRed C n2).1,r.length=n2+1:=fun r hr=>(hle n2 (yAC _) r hr).1
  have hRb:∀r∈(pRed C n2).1,BndL 1073741824 r:=fun r hr=>(hle n2 (yAC _) r hr).2
  have hJn:(pRed C n2).2.length<=n:=by have:=hinv.K_le;omega
  have hJ2:(pRed C n2).2.length<=n2:=by
   have:=zQH (a:=0) (b:=n2) hinv.asc (fun x hx=>⟨yAK _,hinv.lt x hx⟩)
   omega
  have hJlt:∀k,k<(pRed C n2).2.length->jf (pRed C n2).2 k<n2:=fun k hk=>by
   unfold jf;rw[yAA hk];exact hinv.lt _ (yAH hk)
  have hJpos:∀k,k<(pRed C n2).2.length->0<vec ((pRed C n2).1[k]?.getD []) (jf (pRed C n2).2 k):=fun k hk=>(hinv.pp k hk).2
  have HEND:=hid (solve_end (C:=C) (n:=n2) hJ2)
  have HNO:=hid (fun q=>solve_none (C:=C) (n:=n2) (q:=q))
  obtain⟨SV,hSV⟩:=exq (zAX C n2)
  rw[<- hSV]at HEND HNO⊢
  obtain⟨R,hR⟩:=exq ((pRed C n2).1)
  obtain⟨J,hJ⟩:=exq ((pRed C n2).2)
  have e1:(pRed C n2).1=R:=hR.symm
  have e2:(pRed C n2).2=J:=hJ.symm
  rw[e1]at HRd hRl hRw hRb hJpos HEND HNO
  rw[e2]at HRd hJn hJ2 hJlt hJpos HEND HNO
  obtain⟨K,hK⟩:=exq (J.length)
  rw[<- hK]at HRd hJn hJ2 hJlt hJpos HEND HNO
  have HKJ:=hid hK
  have HRL:=hid hRl
  have HRW:=hid hRw
  have HRB:=hid hRb
  have HJLT:=hid hJlt
  have HJPOS:=hid hJpos
  have HSS:=hid hs
  clear e1 e2 hR hJ hK hRl hRw hRb hJlt hJpos hSV hinv hle hC hCl hY hMC hS hso hmil hyl hok hM h1 h6 hc1 hc10 hl10 hck hv hn hn2 hn3 H H2 H3 hb0
  go_enter Tryz.func262,Tryz.ntmps262
  go_wp2_with fail
  rw[<- hwf,<- hs]
  clear hwf hs
  go_wp2_with (go_at_call 101;refine HCK.out.mono ?_;rintro e w1 ⟨rfl,hb1⟩;refine Stop.of ?_)
  refine Stop.go ?_
  go_wp2_with (go_at_call 220;refine(HCh.out w1 hb1).mono ?_;rintro e w2 ⟨v0,rfl,hO2,hb2⟩;refine Stop.of ?_)
  refine Stop.go ?_
  have HRd1:=hid (HRd.out w2 w1.heap.size v0 (OwnT.of hO2) hb2.size)
  clear hO2 HRd HCh
  go_wp2_with (go_at_call 195;refine HRd1.out.mono ?_;rintro e w3 ⟨vJ,rfl,hJo,hT3,hb3⟩;refine Stop.of ?_)
  refine Stop.go ?_
  rw[zKT]at hJo
  obtain⟨ja,jc,rfl,hJI,hJm⟩:=zCK hJo (by rw[zFI,HKJ.out])
  have hv0:∃g0 c0,v0=.slice (some ⟨g0,0,none⟩) n c0:=by
   obtain⟨g0,c0,_,_,e,_⟩:=hT3.at 0 (by rw[HRL.out];omega)
   exact⟨g0,c0,by rw[e,HRL.out]⟩
  obtain⟨g0,c0,rfl⟩:=hv0
  have hRA:=hT3.rowsAt HRL.out (fun r hr=>by rw[HRW.out r hr];unfold maxLen;omega)
  have HJI:=hid hJI
  have HRA:=hid hRA
  have HBW:=hid (show Below w.heap.size w w3 from zAA HBF.out (hb1.trans ((hb2.trans hb3).mono hb1.size)))
  have hsz:s<=w3.heap.size:=by rw[HSS.out];exact HBW.out.size
  clear hJI hRA hJo hT3 hb1 hb2 hb3 HRd1 HCK HBF hcb hsf
  go_wp2
  go_loopw [12,33] (fun v i wr=>∃k:Nat,k<=n∧i=.int .i64 k∧SolveSt wr w3.heap.size v R J n2 k∧Below w3.heap.size w3 wr) (fun _ i _=>n-(intOf i).toNat)
  case atStart=>exact⟨0,yAK _,rfl,⟨by rw[Nat.zero_min];exact zEC.nil _ _,fun q _ h=>by omega⟩,Below.refl _ _⟩
  case round=>
   obtain⟨k,hk,rfl,hst,hbk⟩:=hrel
   by_cases hlt:k<n
   ·obtain⟨b,off,ra,rn,rc,e,hbs,hc,hrn,hrm,hri⟩:=HRA.out k (by rw[HRL.out];exact hlt)
    cases e
    rw[yAW]at hc
    have hrw:rn=n2+1:=by rw[<- hrn];exact HRW.out _ (yAH _)
    have hcw:wr.cell? ⟨g0,k,none⟩=some (.slice ra rn rc):=(hbk.cell (p:=⟨g0,k,none⟩) hbs).trans hc
    clear hc
    obtain⟨b',off',rfl,hbs',hcx⟩:=hri n2 (by omega)
    have hkR:k<R.length:=by rw[HRL.out];exact hlt
    have hvx:∀c,(R[k])[c]?.getD 0=vec (R[k]?.getD []) c:=fun c=>by rw[yAA hkR];rfl
    rw[hvx]at hcx
    have hnx:(n2:Int)<(rn:Int):=by omega
    by_cases hkK:k<K
    ·obtain⟨p,hp⟩:=exq (jf J k)
     have hp2:p<n2:=by rw[hp];exact HJLT.out k hkK
     obtain⟨jb,jo,rfl,hjs,hcj⟩:=HJI.out k (by rw[zFI,<- HKJ.out];exact hkK)
     have hjv:(zKU J)[k]?.getD 0=(p:Int):=by
      have hkl:k<J.length:=by rw[<- HKJ.out];exact hkK
      unfold zKU;rw[hp];unfold jf;simp[hkl]
     rw[hjv]at hcj
     obtain⟨b2,off2,e2,_,hcz⟩:=hri p (by omega)
     cases e2
     rw[hvx]at hcz
     have hzp:0<vec (R[k]?.getD []) p:=by rw[hp];exact HJPOS.out k hkK
     have hbx:=zDY (P:=fun x=> -((1073741824:Nat):Int)<=x∧x<=((1073741824:Nat):Int)) (by omega) (HRB.out _ (yAH hkR))
     have hbx1:=hbx n2
     have hbx2:=hbx p
     have hRk:R[k]?.getD []=R[k]:=by rw[yAA hkR];rfl
     rw[<- hRk]at hbx1 hbx2
     have hsnoc:ofTo R J n2 (k+1)=ofTo R J n2 k++[ofF (vec (R[k]?.getD []) n2) (vec (R[k]?.getD []) p)]:=by rw[hp];exact ofTo_succ R J n2 k
     have HOf:=hid (fun(X:World)=>of_c X (vec (R[k]?.getD []) n2) (vec (R[k]?.getD []) p) (by omega) (by omega) (by omega))
     obtain⟨x,hx⟩:=exq (vec (R[k]?.getD []) n2)
     obtain⟨z,hz⟩:=exq (vec (R[k]?.getD []) p)
     rw[<- hx]at hcx HOf hsnoc
     rw[<- hz]at hcz HOf hsnoc
     obtain⟨Q,hQ⟩:=exq (ofF x z)
     rw[<- hQ]at HOf hsnoc
     obtain⟨q1,q2⟩:=Q
     have HSN:=hid hsnoc
     obtain⟨hst1,hst2⟩:=hst
     rw[<- HKJ.out,show min k K=k by omega]at hst1
     have HST2:=hid (show ∀q,J.length<=q->q<k+1->vec (R[q]?.getD []) n2=0 from fun q h1 h2=>by have:=HKJ.out;omega)
     obtain⟨T,hT⟩:=exq (ofTo R J n2 k)
     rw[<- hT]at hst1 hsnoc
     have hTl:T.length=k:=by rw[hT];exact zRC R J n2 k
     have HO:=hid hst1
     unfold zEC at hst1
     rw[hTl]at hst1
     have HO1:=hid hst1
     obtain⟨va,vc,rfl⟩:=zAC hst1
     have HSN2:=hid (show zAQ (ofTo R J n2 (k+1))=zAQ T++zBH (q1,q2)by rw[hsnoc,ratVals_snoc])
     have HS:=hid (fun(X:World) (hX:Below w3.heap.size w3 X)=>show X.cell? ⟨b',off'+n2,none⟩=some (.int .i64 x)∧X.cell? ⟨jb,jo+k,none⟩=some (.int .i64 p)∧X.cell? ⟨b',off'+p,none⟩=some (.int .i64 z)from
      ⟨(hX.cell (p:=⟨b',off'+n2,none⟩) hbs').trans hcx,(hX.cell (p:=⟨jb,jo+k,none⟩) hjs).trans hcj,(hX.cell (p:=⟨b',off'+p,none⟩) hbs').trans hcz⟩)
     have M1:=hid (show k+1<=maxLen by unfold maxLen;omega)
     have M2:=hid (show(k+1)*16<=140737488355328 by omega)
     have HBK:=hid hbk
     have i1:(k:Int)<(K:Int):=by omega
     have i2:(p:Int)<(rn:Int):=by omega
     clear hst1 hst2 hcx hcj hcz hsnoc hx hz hQ hT hTl hRk hbx hbx1 hbx2 hzp hvx hri hrn hrw hjv hp hbk HO HSN
     simp only[ratV]at HOf
     go_wp2
     refine zAG (fun j' X=>wAll j'=true->X.cell? ⟨b',off'+n2,none⟩=some (.int .i64 x)∧X.cell? ⟨jb,jo+k,none⟩=some (.int .i64 p)∧X.cell? ⟨b',off'+p,none⟩=some (.int .i64 z)) (by kernel_rfl) ?_
     have hbd:Below w3.heap.size w3 wr.drew:=HBK.out.drew
     have HO2:=hid (zBJ HO1.out ((Below.refl _ wr).drew))
     have HB3:=hid hbd
     generalize wr.drew=wd at hbd HO2 HB3⊢
     refine AnyT.tD (i:=0) (v:=.slice va k vc) rfl rfl (by rintro w' ⟨y1,y2,y3⟩;go_simp) (HS.out _ hbd) ?_;go_frame
     refine AnyT.tD (i:=1) (v:=.slice (some ⟨b',off',none⟩) rn rc) rfl rfl (by rintro w' ⟨y1,y2,y3⟩;go_simp) (HS.out _ hbd) ?_;go_frame
     refine AnyT.tD (i:=2) (v:=.int .i64 n2) rfl rfl (by rintro w' ⟨y1,y2,y3⟩;go_simp) (HS.out _ hbd) ?_;go_frame
     refine AnyT.tD (i:=3) (v:=.pointer (some ⟨b',off'+n2,none⟩)) rfl rfl (by rintro w' ⟨y1,y2,y3⟩;go_simp) (HS.out _ hbd) ?_;go_frame
     refine AnyT.tD (i:=4) (v:=.int .i64 x) rfl rfl (by rintro w' ⟨y1,y2,y3⟩;go_simp) (HS.out _ hbd) ?_;go_frame
     refine AnyT.tD (i:=5) (v:=.slice (some ⟨b',off',none⟩) rn rc) rfl rfl (by rintro w' ⟨y1,y2,y3⟩;go_simp) (HS.out _ hbd) ?_;go_frame
     refine AnyT.tD (i:=6) (v:=.slice (some ⟨jb,jo,none⟩) K jc) rfl rfl (by rintro w' ⟨y1,y2,y3⟩;go_simp) (HS.out _ hbd) ?_;go_frame
     refine AnyT.tD (i:=7) (v:=.int .i64 k) rfl rfl (by rintro w' ⟨y1,y2,y3⟩;go_simp) (HS.out _ hbd) ?_;go_frame
     refine AnyT.tD (i:=8) (v:=.pointer (some ⟨jb,jo+k,none⟩)) rfl rfl (by rintro w' ⟨y1,y2,y3⟩;go_simp) (HS.out _ hbd) ?_;go_frame
     refine AnyT.tD (i:=9) (v:=.int .i64 p) rfl rfl (by rintro w' ⟨y1,y2,y3⟩;go_simp) (HS.out _ hbd) ?_;go_frame
     refine AnyT.tD (i:=10) (v:=.pointer (some ⟨b',off'+p,none⟩)) rfl rfl (by rintro w' ⟨y1,y2,y3⟩;go_simp) (HS.out _ hbd) ?_;go_frame
     refine AnyT.tD (i:=11) (v:=.int .i64 z) rfl rfl (by rintro w' ⟨y1,y2,y3⟩;go_simp) (HS.out _ hbd) ?_;go_frame
     refine AnyT.nx (i:=12) rfl ?_
     go_wp2_with (go_at_call 152;refine(HOf.out _).mono ?_;rintro e w4 ⟨rfl,hbl4⟩;refine Stop.of ?_)
     refine Stop.go ?_
     have HB4:=hid (zAA hbd hbl4)
     have HO4:=hid (zBJ HO2.out hbl4)
     have M3:=hid (yAF HB4.out.size (zCL w4 (.cells (zBH (q1,q2)).toArray 29)))
     clear hbd hbl4
     go_wp2
     refine⟨fun _=>HS.out _ HB4.out,?_⟩
     refine AnyT.nx (i:=13) rfl ?_
     go_wp2
     have hbA:Below w3.heap.size w3 (w4.alloc (.cells (zBH (q1,q2)).toArray 29)):=HB4.out.alloc HB4.out.size _
     refine⟨fun _=>HS.out _ hbA,?_⟩
     refine AnyT.nx (i:=14) rfl ?_
     refine zAN _ rfl (.tmp 43) (.tmp 56) 42 rfl w3.heap.size 29 (.agg #[.int .i64 0,.int .i64 0]) 2 16 Tryz.underlying42 zPW rfl (by decide) (.slice va k vc) k _ rfl (HO4.out.alloc _) (some ⟨w4.heap.size,0,none⟩) 1 1 (zBH (q1,q2)) rfl rfl zBS (rat_news w4 (q1,q2) _) (rat_one _) M1.out M2.out M3.out ?_
     intro a5 c5 w5 own5 g5
     have hb5:Below w3.heap.size w3 w5:=hbA.grown g5 M3.out (fun q hq=>(HO4.out.lt q hq).1)
     refine⟨fun _=>HS.out _ hb5,?_⟩
     refine AnyT.tD (i:=15) (v:=.slice a5 (k+1) c5) rfl rfl (by rintro w' ⟨y1,y2,y3⟩;go_simp) (HS.out _ hb5) ?_;go_frame
     refine AnyT.done (by kernel_rfl) ?_ _
     go_wp2
     refine⟨⟨k+1,by omega,by go_num,⟨?_,HST2.out⟩,hb5⟩,by simp[intOf];omega⟩
     rw[<- HKJ.out,show min (k+1) K=k+1 by omega]
     unfold zEC
     rw[zRC,HSN2.out]
     exact own5
    ·have HX8:=hid (fun(h:vec (R[k]?.getD []) n2≠0)=>HNO.out k (by omega) (by rw[HRL.out];exact hlt) h)
     have HX0:=hid (fun(h:vec (R[k]?.getD []) n2=0)=>show SolveSt wr w3.heap.size u12 R J n2 (k+1)from⟨by have h1:=hst.1;rw[<- HKJ.out,show min k K=min (k+1) K by omega]at h1;rw[<- HKJ.out];exact h1,fun q h1 h2=>by
      rcases yAP q k with h3|h3
      ·exact hst.2 q h1 h3
      ·obtain rfl:q=k:=by omega
       exact h⟩)
     obtain⟨x,hx⟩:=exq (vec (R[k]?.getD []) n2)
     rw[<- hx]at hcx HX8 HX0
     have i1:¬((k:Int)<(K:Int)):=by omega
     have HBK:=hid hbk
     have hcx':wr.cell? ⟨b',off'+n2,none⟩=some (.int .i64 x):=(hbk.cell (p:=⟨b',off'+n2,none⟩) hbs').trans hcx
     clear hx hst hbk hcx hvx hri hrn hrw
     by_cases h0:x=0
     ·subst h0
      have HX:=hid (HX0.out rfl)
      clear HX0 HX8
      go_wp2
      exact⟨⟨k+1,by omega,by go_num,HX.out,HBK.out⟩,by simp[intOf];omega⟩
     ·have hxb:(x !=0)=true:=by simpa using h0
      obtain rfl:SV=([],8):=HX8.out h0
      clear HX0 HX8
      go_wp2
      go_ret2
      exact⟨.slice none 0 0,rfl,w.heap.size,yAC _,zEC.nil _ _,zAA HBW.out HBK.out⟩
   ·obtain rfl:k=n:=by omega
    have hSV:SV=if K<n2 then([],11)else(ofTo R J n2 K,0):=HEND.out fun q h1 h2=>hst.2 q (by rw[<- HKJ.out];exact h1) (by rw[HRL.out]at h2;exact h2)
    have hst1:=hst.1
    rw[<- HKJ.out,show min k K=K by omega]at hst1
    have HO:=hid hst1
    have HBK:=hid hbk
    obtain⟨va,vc,hve⟩:=zAC hst1
    rw[zRC]at hve
    subst hve
    clear hst1 hst hbk
    by_cases hKn:K<n2
    ·rw[if_pos hKn]at hSV
     subst hSV
     have i2:(K:Int)<(n2:Int):=by omega
     go_wp2
     go_ret2
     exact⟨.slice none 0 0,rfl,w.heap.size,yAC _,zEC.nil _ _,zAA HBW.out HBK.out⟩
    ·rw[if_neg hKn]at hSV
     subst hSV
     have i2:¬((K:Int)<(n2:Int)):=by omega
     go_wp2
     go_ret2
     exact⟨_,rfl,w3.heap.size,HBW.out.size,HO.out,zAA HBW.out HBK.out⟩
 ·have hv:zCC M l y=([],zAV M y l):=by unfold zCC;rw[if_neg hck]
  rw[hv]
  obtain⟨E,hE⟩:=exq (zAV M y l)
  rw[<- hE]at HCK hck⊢
  have hpb:(E !=0)=true:=by simpa using hck
  have HSS:=hid hs
  clear hn hn2 hn3 H H2 H3 hv hE hb0
  go_enter Tryz.func262,Tryz.ntmps262
  go_wp2_with fail
  rw[<- hwf,<- hs]
  clear hwf hs
  go_wp2_with (go_at_call 101;refine HCK.out.mono ?_;rintro e w1 ⟨rfl,hb1⟩)
  go_ret2
  exact⟨.slice none 0 0,w.heap.size,rfl,yAC _,zEC.nil _ _,zAA HBF.out hb1⟩
end
end
section
section
theorem zMX{a b c d:Int}(hb:0<b)(hd:0<d)(h:a*d=c*b):zBF a b=zBF c d:=by
 have g1:0<Int.gcd a b:=yFL fun e=>by have:=(yFJ.1 e).2;omega
 have g2:0<Int.gcd c d:=yFL fun e=>by have:=(yFJ.1 e).2;omega
 have k1:Int.gcd (a*d) (b*d)=Int.gcd a b*d.natAbs:=Int.gcd_mul_right _ _ _
 have k2:Int.gcd (c*b) (d*b)=Int.gcd c d*b.natAbs:=Int.gcd_mul_right _ _ _
 rw[h,yBV b d,k2]at k1
 obtain⟨a1,ha⟩:=yFK a b
 obtain⟨b1,hb1⟩:=yFG a b
 obtain⟨c1,hc⟩:=yFK c d
 obtain⟨d1,hd1⟩:=yFG c d
 unfold zBF
 obtain⟨G,hG⟩:∃G:Int,G=((Int.gcd a b:Nat):Int):=⟨_,rfl⟩
 obtain⟨H,hH⟩:∃G:Int,G=((Int.gcd c d:Nat):Int):=⟨_,rfl⟩
 have k3:H*b=G*d:=by
  have:=congrArg (fun n:Nat=>(n:Int)) k1
  simp only[yCP]at this
  rw[<- hG,<- hH]at this
  rw[show((b.natAbs:Nat):Int)=b by omega,show((d.natAbs:Nat):Int)=d by omega]at this
  exact this
 rw[<- hG]at ha hb1⊢
 rw[<- hH]at hc hd1⊢
 have hG0:G≠0:=by omega
 have hH0:H≠0:=by omega
 have e1:b1=d1:=by
  rw[hb1,hd1]at k3
  have:(H*G)*b1=(H*G)*d1:=by grind
  exact yBE (yCE hH0 hG0) this
 have hb10:b1≠0:=fun e=>by rw[e]at hb1;omega
 have e2:a1=c1:=by
  rw[ha,hd1,hc,hb1,<- e1]at h
  have:(G*H*b1)*a1=(G*H*b1)*c1:=by grind
  exact yBE (yCE (yCE hG0 hH0) hb10) this
 rw[yDH hG0 (c:=a1) (by rw[ha];exact yBV _ _),yDH hG0 (c:=b1) (by rw[hb1];exact yBV _ _),
  yDH hH0 (c:=c1) (by rw[hc];exact yBV _ _),yDH hH0 (c:=d1) (by rw[hd1];exact yBV _ _),e1,e2]
end
section
section
open Go.RowKit
end
section
open Go.RowKit
end
section
open Go.RowKit
end
section
open Go.RowKit
theorem clone_c(w:World)(a:Option Addr)(n cap:Nat)(l:List Int)(hn:l.length=n)(hm:n*8<=140737488355328)(H:zAH w a l):
 Calls Tryz.prog 231 #[.slice a n cap] w fun e w'=>∃v,e=.returned v∧w'.ownsRow w.heap.size 3 1 v n (l.map (Value.int .i64))∧Below w.heap.size w w':=by
 obtain⟨i0,hi,hz0,hz1,hz2⟩:=info_parts zDN
 have heq:=fun(w:World) (a:Option Addr) (n c:Nat)=>Lib.run_eql_slice_nil (P:=Tryz.prog) w 24 3 a n c 0 0 Tryz.underlying24
 cases a with
 |none=>
  have h0:n=0:=by
   rcases yBR n with h|h
   ·exact h
   ·obtain⟨_,_,e,_⟩:=H 0 (by omega);cases e
  subst h0
  have hl:l=[]:=yEN hn
  subst hl
  clear hn H hm
  go_enter Tryz.func231,Tryz.ntmps231
  go_wp2
  go_ret
  exact⟨_,rfl,World.ownsRow_nil _ _ _ _,Below.refl _ _⟩
 |some ad=>
  have HN:=hid hn
  have hnews:∀j u,(l.map (Value.int .i64))[j]? =some u->(w.alloc (.cells #[] 3)).cell? (ad.add j)=some u:=by
   intro j u hu
   rw[yAZ]at hu
   obtain⟨x,hx,rfl⟩:=Option.map_eq_some_iff.1 hu
   obtain⟨hjl,e⟩:=yBX.1 hx
   obtain⟨b,off,ea,hb,hc⟩:=H j hjl
   cases ea
   rw[Addr.add_lit]
   refine(((Below.refl _ w).alloc (yAC _) (.cells #[] 3)).cell (p:=⟨b,off+j,none⟩) hb).trans ?_
   rw[hc,hx];rfl
  have HNews:=hid hnews
  clear hnews H hn
  go_enter Tryz.func231,Tryz.ntmps231
  go_wp2_with (at_builtin;refine wpList_append_own _ rfl _ _ 24 rfl w.heap.size 3 i0 (.int .i64 0) 1 8 Tryz.underlying24 hi hz0 hz1 hz2 rfl (by decide) _ 0 [] rfl (World.ownsRow_made _ _ 0 (yAC _) (by unfold maxLen;omega) rfl) ad n cap (l.map (Value.int .i64)) rfl (by rw[yAS,HN.out];omega) HNews.out (zMG _) (by unfold maxLen;omega) (by omega) (by simp) ?_;intro v' w1 hown' hgrow _)
  go_ret
  refine⟨_,rfl,by simpa using hown',((Below.refl _ w).alloc (yAC _) _).grown hgrow (by simp) (fun k hk=>by cases hk;exact yAC _)⟩
end
section
open Go.RowKit
end
section
open Go.RowKit
end
end
end
end Go.Proofs.YtlffndehhhpgjaaGreat

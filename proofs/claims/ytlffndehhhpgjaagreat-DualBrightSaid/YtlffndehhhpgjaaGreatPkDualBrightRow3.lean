/- Walks and plain laws for DualBrightRow, part 3. -/
import Derived.Laws.EntriesVeiled
import Derived.Laws.AppendOwnNone
import Derived.IntWalk
import Derived.Deep.RegionHeld3
import Derived.StillTailTactics
import Derived.Test.YtlffndehhhpgjaaGreatPkDualBrightRow2
namespace Go.Proofs.YtlffndehhhpgjaaGreat
set_option linter.unusedVariables false
set_option linter.unusedSimpArgs false
set_option maxRecDepth 100000
set_option maxHeartbeats 4000000
open _root_.List renaming getElem?_eq_getElem → yAA, getElem_mem → yAH, take_succ_eq_append_getElem → yAI, take_of_length_le → yAL, mem_iff_getElem → yAM, length_append → yAN, getElem?_append_left → yAO, getElem?_append_right → yAQ, length_map → yAS, all_eq_true → yAT, length_take → yAU, getElem?_map → yAZ, length_cons → yBB, drop_eq_getElem_cons → yBD, map_append → yBF, getElem_cons_zero → yBG, getElem_append_right → yBL, getElem_append_left → yBO, getElem?_eq_some_iff → yBX, set_cons_zero → yCA, length_nil → yCD, mem_range → yCH, foldl_append → yCO, set_append_right → yCZ, getElem_set_ne → yDP, getElem_of_mem → yDQ, eq_nil_of_length_eq_zero → yEN, mem_of_mem_take → yEP, length_pos_iff → yEU, length_set → yFE, getElem?_set → yFT, getElem_zipWith → yGB
open _root_.Nat renaming le_refl → yAC, lt_of_lt_of_le → yAJ, zero_le → yAK, lt_or_ge → yAP, zero_add → yAW, eq_zero_or_pos → yBR, sub_self → yCF, add_zero → yDS, lt_irrefl → yGO
open _root_.Int renaming lt_or_le → yBK, dvd_refl → yFI, le_of_dvd → yFV, natAbs_tdiv → yGX
open _root_.Array renaming getElem?_eq_some_iff → yAB, getElem?_eq_none → yCW, getElem?_eq_getElem → yDN, toList_setIfInBounds → yEA, toList_inj → yEO, getElem_modify_self → yGE
section
open Go.RowKit
def inB(n lo hi:Int):Bool:=decide (lo<=n)&&decide (n<=hi)
theorem zJM(n lo hi:Int)(w:World):Calls Tryz.prog 142 #[.int .i64 n,.int .i64 lo,.int .i64 hi] w fun e w'=>e=.returned (.bool (inB n lo hi))∧w=w':=by
 by_cases h1:lo<=n<;>by_cases h2:n<=hi
 all_goals
  go_enter Tryz.func142,Tryz.ntmps142
  go_wp2
  go_ret
  exact⟨zAP (by simp[inB,h1,h2]),rfl⟩
theorem indexI(w:World)(a:Option Addr)(n cap:Nat)(l:List Int)(hn:l.length=n)(hm:n<=maxLen)(H:zAH w a l)(g:Nat)(lb:Array Value)(p:Int->Bool)
 (eg:∀args w,(callFunc g args).run Tryz.prog w=.ok (.enter g args) w)(hp:zPB Tryz.prog g lb w p):
 Calls Tryz.prog 166 #[.slice a n cap,.func (.func g) #[] lb] w fun e w'=>e=.returned (.int .i64 (idxP p l 0))∧Below w.heap.size w w':=by
 have HN:=hid hn
 have HH:=hid H
 have HP:=hid hp
 clear hn H hp
 unfold maxLen at hm
 go_enter Tryz.func166,Tryz.ntmps166
 go_wp2
 go_loopw [8] (fun i wr=>∃k:Nat,k<=n∧i=.int .i64 k∧Below w.heap.size w wr∧∀i y,i<k->l[i]? =some y->p y=false) (fun i _=>n-(intOf i).toNat)
 case atStart=>exact⟨0,yAK _,rfl,Below.refl _ _,fun i y h=>by omega⟩
 case round=>
  obtain⟨k,hk,rfl,hb,hno⟩:=hrel
  have HNO:=hid hno
  clear hno
  by_cases hlt:k<n
  ·obtain⟨b,off,rfl,hbs,hc⟩:=(HH.out.below hb) k (by rw[HN.out];exact hlt)
   have hkk:=getD_lt (l:=l) (k:=k) (by rw[HN.out];exact hlt)
   have HK:=hid hkk
   clear hkk
   cases hpx:p (l[k]?.getD 0)
   ·go_wp2_with (refine(HP.out _ _ hb).mono ?_;rintro e w1 ⟨rfl,hb1⟩)
    refine⟨⟨k+1,by omega,by go_num,zAA hb hb1,?_⟩,by simp[intOf];omega⟩
    intro i y hi hy
    by_cases e:i=k
    ·subst e;rw[HK.out]at hy;cases hy;exact hpx
    ·exact HNO.out i y (by omega) hy
   ·go_wp2_with (refine(HP.out _ _ hb).mono ?_;rintro e w1 ⟨rfl,hb1⟩)
    go_ret
    refine⟨zDC ?_,zAA hb hb1⟩
    rw[zIW p l 0 k _ HK.out hpx HNO.out];simp
  ·go_wp2
   go_ret
   refine⟨zDC ?_,hb⟩
   rw[zGR]
   intro x hx
   obtain⟨i,hi,e⟩:=yDQ hx
   exact HNO.out i x (by have:=HN.out;omega) (by rw[yAA hi,e])
theorem zJU(w:World)(a:Option Addr)(n cap:Nat)(l:List Int)(hn:l.length=n)(hm:n<=maxLen)(H:zAH w a l)(g:Nat)(lb:Array Value)(p:Int->Bool)
 (eg:∀args w,(callFunc g args).run Tryz.prog w=.ok (.enter g args) w)(hp:zPB Tryz.prog g lb w p):
 Calls Tryz.prog 105 #[.slice a n cap,.func (.func g) #[] lb] w fun e w'=>e=.returned (.bool (l.any p))∧Below w.heap.size w w':=by
 have HC:=hid (indexI w a n cap l hn hm H g lb p eg hp)
 have HG:=zKV p l 0
 have HG':=hid HG
 clear hn H hp HG
 go_enter Tryz.func105,Tryz.ntmps105
 go_wp2_with (refine HC.out.mono ?_;rintro e w1 ⟨rfl,hb1⟩)
 go_ret
 refine⟨zAP ?_,hb1⟩
 rw[Bool.eq_iff_iff,decide_eq_true_iff,HG'.out]
def SlV(w:World)(v:Value)(l:List Int):Prop:=∃ra n cap,v=.slice ra n cap∧l.length=n∧n<=maxLen∧zAH w ra l
def PredR(P:Program)(g:Nat)(lb:Array Value)(w:World)(p:List Int->Bool):Prop:=
 ∀(l:List Int) (v:Value) (W:World),Below w.heap.size w W->SlV W v l->Calls P g (#[v]++lb) W fun e W'=>e=.returned (.bool (p l))∧Below W.heap.size W W'
theorem indexR(w:World)(a:Option Addr)(n cap:Nat)(l:List (List Int))(hn:l.length=n)(hm:n<=maxLen)(H:zAM w a l)(g:Nat)(lb:Array Value)(p:List Int->Bool)
 (eg:∀args w,(callFunc g args).run Tryz.prog w=.ok (.enter g args) w)(hp:PredR Tryz.prog g lb w p):
 Calls Tryz.prog 228 #[.slice a n cap,.func (.func g) #[] lb] w fun e w'=>e=.returned (.int .i64 (idxP p l 0))∧Below w.heap.size w w':=by
 have HN:=hid hn
 have HH:=hid H
 have HP:=hid hp
 clear hn H hp
 unfold maxLen at hm
 go_enter Tryz.func228,Tryz.ntmps228
 go_wp2
 go_loopw [8] (fun i wr=>∃k:Nat,k<=n∧i=.int .i64 k∧Below w.heap.size w wr∧∀i y,i<k->l[i]? =some y->p y=false) (fun i _=>n-(intOf i).toNat)
 case atStart=>exact⟨0,yAK _,rfl,Below.refl _ _,fun i y h=>by omega⟩
 case round=>
  obtain⟨k,hk,rfl,hb,hno⟩:=hrel
  have HNO:=hid hno
  clear hno
  by_cases hlt:k<n
  ·have hkl:k<l.length:=by rw[HN.out];exact hlt
   obtain⟨b,off,ra,rn,rc,rfl,hbs,h0,hrn,hrm,hri⟩:=(HH.out.below hb) k hkl
   have HV:=hid (show SlV wr (.slice ra rn rc) l[k]from⟨ra,rn,rc,rfl,hrn,hrm,hri⟩)
   clear hrn hri
   have HK:=hid (yAA hkl)
   cases hpx:p l[k]
   ·go_wp2_with (refine(HP.out _ _ _ hb HV.out).mono ?_;rintro e w1 ⟨rfl,hb1⟩)
    refine⟨⟨k+1,by omega,by go_num,zAA hb hb1,?_⟩,by simp[intOf];omega⟩
    intro i y hi hy
    by_cases e:i=k
    ·subst e;rw[HK.out]at hy;cases hy;exact hpx
    ·exact HNO.out i y (by omega) hy
   ·go_wp2_with (refine(HP.out _ _ _ hb HV.out).mono ?_;rintro e w1 ⟨rfl,hb1⟩)
    go_ret
    refine⟨zDC ?_,zAA hb hb1⟩
    rw[zIW p l 0 k _ HK.out hpx HNO.out];simp
  ·go_wp2
   go_ret
   refine⟨zDC ?_,hb⟩
   rw[zGR]
   intro x hx
   obtain⟨i,hi,e⟩:=yDQ hx
   exact HNO.out i x (by have:=HN.out;omega) (by rw[yAA hi,e])
theorem containsR(w:World)(a:Option Addr)(n cap:Nat)(l:List (List Int))(hn:l.length=n)(hm:n<=maxLen)(H:zAM w a l)(g:Nat)(lb:Array Value)(p:List Int->Bool)
 (eg:∀args w,(callFunc g args).run Tryz.prog w=.ok (.enter g args) w)(hp:PredR Tryz.prog g lb w p):
 Calls Tryz.prog 202 #[.slice a n cap,.func (.func g) #[] lb] w fun e w'=>e=.returned (.bool (l.any p))∧Below w.heap.size w w':=by
 have HC:=hid (indexR w a n cap l hn hm H g lb p eg hp)
 have HG:=zKV p l 0
 have HG':=hid HG
 clear hn H hp HG
 go_enter Tryz.func202,Tryz.ntmps202
 go_wp2_with (refine HC.out.mono ?_;rintro e w1 ⟨rfl,hb1⟩)
 go_ret
 refine⟨zAP ?_,hb1⟩
 rw[Bool.eq_iff_iff,decide_eq_true_iff,HG'.out]
theorem allI1(w:World)(b g:Nat)(lb:Array Value)(p:Int->Bool)(eg:∀args w,(callFunc g args).run Tryz.prog w=.ok (.enter g args) w)(hb:b<w.heap.size)(hc:w.cell? ⟨b,0,none⟩=some (.func (.func g) #[] lb))(hp:zPB Tryz.prog g lb w p):
 zPB Tryz.prog 247 #[.pointer (some ⟨b,0,none⟩)] w (fun n=>!p n):=by
 intro x W hbw
 have hc':W.cell? ⟨b,0,none⟩=some (.func (.func g) #[] lb):=(hbw.cell (p:=⟨b,0,none⟩) hb).trans hc
 have HP:=hid (hp x W hbw)
 clear hp
 go_enter Tryz.func247,Tryz.ntmps247
 go_wp2_with (refine HP.out.mono ?_;rintro e w1 ⟨rfl,hb1⟩)
 go_ret
 exact⟨rfl,hb1⟩
theorem allI_c(w:World)(a:Option Addr)(n cap:Nat)(l:List Int)(hn:l.length=n)(hm:n<=maxLen)(H:zAH w a l)(g:Nat)(lb:Array Value)(p:Int->Bool)
 (eg:∀args w,(callFunc g args).run Tryz.prog w=.ok (.enter g args) w)(hp:zPB Tryz.prog g lb w p):
 Calls Tryz.prog 204 #[.slice a n cap,.func (.func g) #[] lb] w fun e w'=>e=.returned (.bool (l.all p))∧Below w.heap.size w w':=by
 have hb0:Below w.heap.size w (w.alloc (.cells #[.func (.func g) #[] lb] 125)):=(Below.refl _ _).alloc (yAC _) _
 have HC:=hid (zJU (w.alloc (.cells #[.func (.func g) #[] lb] 125)) a n cap l hn hm (H.below hb0) 247 #[.pointer (some ⟨w.heap.size,0,none⟩)] _ (enters_of Tryz.func247 (by kernel_rfl) rfl)
  (allI1 _ w.heap.size g lb p eg (by simp) (by rw[World.cell?_alloc_at _ _ _ _ rfl];rfl) (fun x W h=>hp x W (zAA hb0 h))))
 clear hn H hp
 have hmf:∀(fn:Fn) (first cap:Array Value) (w:World),(Instr.makeFunc fn first cap).run Tryz.prog w=.ok (.func fn first cap) w:=fun _ _ _ _=>rfl
 go_enter Tryz.func204,Tryz.ntmps204
 go_wp2_with (refine HC.out.mono ?_;rintro e w1 ⟨rfl,hb1⟩)
 go_ret
 exact⟨zAP (by simp[List.all_eq_not_any_not]),zAA hb0 hb1⟩
theorem allR1(w:World)(b g:Nat)(lb:Array Value)(p:List Int->Bool)(eg:∀args w,(callFunc g args).run Tryz.prog w=.ok (.enter g args) w)(hb:b<w.heap.size)(hc:w.cell? ⟨b,0,none⟩=some (.func (.func g) #[] lb))(hp:PredR Tryz.prog g lb w p):
 PredR Tryz.prog 203 #[.pointer (some ⟨b,0,none⟩)] w (fun n=>!p n):=by
 intro x v W hbw hv
 have hc':W.cell? ⟨b,0,none⟩=some (.func (.func g) #[] lb):=(hbw.cell (p:=⟨b,0,none⟩) hb).trans hc
 have HP:=hid (hp x v W hbw hv)
 obtain⟨ra,rn,rc,rfl,_,_,_⟩:=hv
 clear hp
 go_enter Tryz.func203,Tryz.ntmps203
 go_wp2_with (refine HP.out.mono ?_;rintro e w1 ⟨rfl,hb1⟩)
 go_ret
 exact⟨rfl,hb1⟩
theorem allR_c(w:World)(a:Option Addr)(n cap:Nat)(l:List (List Int))(hn:l.length=n)(hm:n<=maxLen)(H:zAM w a l)(g:Nat)(lb:Array Value)(p:List Int->Bool)
 (eg:∀args w,(callFunc g args).run Tryz.prog w=.ok (.enter g args) w)(hp:PredR Tryz.prog g lb w p):
 Calls Tryz.prog 143 #[.slice a n cap,.func (.func g) #[] lb] w fun e w'=>e=.returned (.bool (l.all p))∧Below w.heap.size w w':=by
 have hb0:Below w.heap.size w (w.alloc (.cells #[.func (.func g) #[] lb] 131)):=(Below.refl _ _).alloc (yAC _) _
 have HC:=hid (containsR (w.alloc (.cells #[.func (.func g) #[] lb] 131)) a n cap l hn hm (H.below hb0) 203 #[.pointer (some ⟨w.heap.size,0,none⟩)] _ (enters_of Tryz.func203 (by kernel_rfl) rfl)
  (allR1 _ w.heap.size g lb p eg (by simp) (by rw[World.cell?_alloc_at _ _ _ _ rfl];rfl) (fun x v W h=>hp x v W (zAA hb0 h))))
 clear hn H hp
 have hmf:∀(fn:Fn) (first cap:Array Value) (w:World),(Instr.makeFunc fn first cap).run Tryz.prog w=.ok (.func fn first cap) w:=fun _ _ _ _=>rfl
 go_enter Tryz.func143,Tryz.ntmps143
 go_wp2_with (refine HC.out.mono ?_;rintro e w1 ⟨rfl,hb1⟩)
 go_ret
 exact⟨zAP (by simp[List.all_eq_not_any_not]),zAA hb0 hb1⟩
abbrev Mask:=List (List Int)
def zHK(l:List Int):Bool:=inB l.length 1 10&&l.all (fun n=>inB n (-1) 1)
def zAD(M:Mask):Nat:=(M[0]?.getD []).length
def okM(M:Mask):Bool:=inB M.length 1 6&&M.all (fun l=>decide (l.length=zAD M)&&zHK l)
theorem row1(w:World):zPB Tryz.prog 205 #[] w (fun n=>inB n (-1) 1):=by
 intro x W hb
 go_enter Tryz.func205,Tryz.ntmps205
 go_wp2_with (go_at_call 142;refine(zJM _ _ _ _).mono ?_;rintro e w1 ⟨rfl,rfl⟩)
 go_ret
 exact⟨rfl,Below.refl _ _⟩
theorem mrow_c(w:World)(a:Option Addr)(n cap:Nat)(l:List Int)(hn:l.length=n)(hm:n<=maxLen)(H:zAH w a l):
 Calls Tryz.prog 145 #[.slice a n cap] w fun e w'=>e=.returned (.bool (zHK l))∧Below w.heap.size w w':=by
 have HC:=hid (allI_c w a n cap l hn hm H 205 #[] _ (enters_of Tryz.func205 (by kernel_rfl) rfl) (row1 w))
 have HN:=hid hn
 clear hn H
 cases h:inB n 1 10
 all_goals
  have HQ:=hid h
  go_enter Tryz.func145,Tryz.ntmps145
  go_wp2_with (first| (go_at_call 142;refine(zJM _ _ _ _).mono ?_;rintro e w1 ⟨rfl,rfl⟩)| (refine HC.out.mono ?_;rintro e w1 ⟨rfl,hb1⟩))
  go_ret
  first
   |exact⟨zAP (by unfold zHK;rw[HN.out,HQ.out];simp),hb1⟩
   |exact⟨zAP (by unfold zHK;rw[HN.out,HQ.out];simp),Below.refl _ _⟩
theorem valid1(w:World)(b:Nat)(a:Option Addr)(n cap:Nat)(M:Mask)(hn:M.length=n)(hm:n<=maxLen)(h0:0<n)(H:zAM w a M)(hb:b<w.heap.size)(hc:w.cell? ⟨b,0,none⟩=some (.slice a n cap)):
 PredR Tryz.prog 144 #[.pointer (some ⟨b,0,none⟩)] w (fun l=>decide (l.length=zAD M)&&zHK l):=by
 intro x v W hbw hv
 have hc':W.cell? ⟨b,0,none⟩=some (.slice a n cap):=(hbw.cell (p:=⟨b,0,none⟩) hb).trans hc
 obtain⟨ra,rn,rc,rfl,hrn,hrm,hri⟩:=hv
 have HR:=hid (mrow_c W ra rn rc x hrn hrm hri)
 obtain⟨b',off,qa,qn,qc,rfl,hbs,hq0,hqn,hqm,hqi⟩:=(H.below hbw) 0 (by omega)
 have HCols:zAD M=qn:=by unfold zAD;rw[yAA (by omega),<- hqn];rfl
 have HCO:=hid HCols
 have HRN:=hid hrn
 unfold maxLen at hm
 simp only[yDS]at hq0
 clear HCols hrn hri hqn hqi H hc
 by_cases h:rn=qn
 all_goals
  have hd:((rn:Int)==(qn:Int))=decide (rn=qn):=by rw[Bool.eq_iff_iff];simp;omega
  have HQ:=hid h
  first
   |rw[decide_eq_true h]at hd
   |rw[decide_eq_false h]at hd
  clear h
  go_enter Tryz.func144,Tryz.ntmps144
  go_wp2_with (go_at_call 145;refine HR.out.mono ?_;rintro e w1 ⟨rfl,hb1⟩)
  go_ret
  first
   |exact⟨zAP (by rw[HRN.out,HCO.out,decide_eq_true HQ.out];simp),hb1⟩
   |exact⟨zAP (by rw[HRN.out,HCO.out,decide_eq_false HQ.out];simp),Below.refl _ _⟩
theorem zIU(w:World)(a:Option Addr)(n cap:Nat)(M:Mask)(hn:M.length=n)(hm:n<=maxLen)(H:zAM w a M):
 Calls Tryz.prog 79 #[.slice a n cap] w fun e w'=>e=.returned (.bool (okM M))∧Below w.heap.size w w':=by
 have hb0:Below w.heap.size w (w.alloc (.cells #[.slice a n cap] 23)):=(Below.refl _ _).alloc (yAC _) _
 have hmf:∀(fn:Fn) (first cap:Array Value) (w:World),(Instr.makeFunc fn first cap).run Tryz.prog w=.ok (.func fn first cap) w:=fun _ _ _ _=>rfl
 cases h:inB n 1 6
 ·have HQ:=hid h
  have HN:=hid hn
  clear hn H
  go_enter Tryz.func79,Tryz.ntmps79
  go_wp2_with (go_at_call 142;refine(zJM _ _ _ _).mono ?_;rintro e w1 ⟨rfl,rfl⟩)
  go_ret
  exact⟨zAP (by unfold okM;rw[HN.out,HQ.out];simp),hb0⟩
 ·have h0:0<n:=by unfold inB at h;simp at h;omega
  have HC:=hid (allR_c (w.alloc (.cells #[.slice a n cap] 23)) a n cap M hn hm (H.below hb0) 144 #[.pointer (some ⟨w.heap.size,0,none⟩)] _ (enters_of Tryz.func144 (by kernel_rfl) rfl)
   (valid1 _ w.heap.size a n cap M hn hm h0 (H.below hb0) (by simp) (by rw[World.cell?_alloc_at _ _ _ _ rfl];rfl)))
  have HQ:=hid h
  have HN:=hid hn
  clear hn H
  go_enter Tryz.func79,Tryz.ntmps79
  go_wp2_with (first| (go_at_call 142;refine(zJM _ _ _ _).mono ?_;rintro e w1 ⟨rfl,rfl⟩)| (refine HC.out.mono ?_;rintro e w1 ⟨rfl,hb1⟩))
  go_ret
  exact⟨zAP (by unfold okM;rw[HN.out,HQ.out];simp),zAA hb0 hb1⟩
end
section
open Go.RowKit
theorem zKP{P:Program}{w:World}(base:Nat)(t ty e:TypeId)(i:TypeInfo)(size c:Nat)(ht:P.underlying t=some (.slice e))(hi:P.info? e=some i)
 (v:Value)(n:Nat)(xs:List Value)(hown:w.ownsRow base e size v n xs):(Builtin.append_ #[t,t] ty #[v,.slice none 0 c]).run P w=.ok v w:=by
 rcases hown.2 with⟨rfl,rfl⟩|⟨g,cap,cur,rfl,_,_,hnc,_⟩
 ·simp[Builtin.append_,run_underlying ht,sizeOf,typeInfo,hi,Builtin.lenOf,Builtin.firstCells]
 ·simp[Builtin.append_,run_underlying ht,sizeOf,typeInfo,hi,Builtin.lenOf,Builtin.firstCells,hnc,storeCells]
theorem zAN{P:Program}(w:World){ops:Array Oper}{rest:List Oper}{o:Oper}{a:Act}{Q:Exit->Act->World->Prop}(hgd:o.guard=none)(s x:Operand)(t:TypeId)
 (ho:o.op=.call {callee:=.builtin .append,args:=#[s,x],argTypes:=#[t,t]})
 (base:Nat)(e:TypeId)(z:Value)(size bytes:Nat)(ht:P.underlying t=some (.slice e))(hinfo:(P.info? e).map (fun i=>(i.zero,i.size,i.bytes))=some (some z,size,bytes))
 (hzs:z.cells.size=size)(hsz:0<size)
 (v:Value)(n:Nat)(xs:List Value)(hs:a.eval s=v)(hown:w.ownsRow base e size v n xs)
 (ao:Option Addr)(m c:Nat)(news:List Value)(hx:a.eval x=.slice ao m c)(hl:news.length=m*size)(hnone:ao=none->m=0)
 (hnews:∀ad,ao=some ad->∀j u,news[j]? =some u->w.cell? (ad.add j)=some u)(h1:∀u∈news,u.oneCell'=true)
 (h63:n+m<=maxLen)(hbytes:(n+m)*bytes<=140737488355328)(hbase:base<=w.heap.size)
 (h:∀a' c' w',w'.ownsRow base e size (.slice a' (n+m) c') (n+m) (xs++news)->w.grownBy w' v.ownBlock->wpList P ops Q rest (a.put o.dst (.slice a' (n+m) c')) w'):wpList P ops Q (o::rest) a w:=by
 obtain⟨i,hi,hz,h2,h3⟩:=info_parts hinfo
 cases ao with
 |some ad=>
  refine wpList_append_own w hgd s x t ho base e i z size bytes ht hi hz h2 h3 hzs hsz v n xs hs hown ad m c news hx hl (hnews ad rfl) h1 h63 hbytes hbase ?_
  intro v' w' ho' hg _
  obtain⟨a',c',rfl⟩:=zAC ho'
  exact h a' c' w' ho' hg
 |none=>
  obtain rfl:=hnone rfl
  have hnil:news=[]:=yEN (by simpa using hl)
  subst hnil
  refine wpList_plain hgd fun K hK=>?_
  have hrun:=zKP (P:=P) (w:=w) base t o.type e i size c ht hi v n xs hown
  obtain⟨a',c',rfl⟩:=zAC hown
  unfold Oper.wp
  simp[execOp,ho,resolve,invoke,builtin,hs,hx,hrun,Result.andThen]
  exact hK _ _ (h a' c' w (by simpa using hown) (World.grownBy.refl _ _))
theorem zNV{w:World}{a:Option Addr}{l:List Int}(H:zAH w a l):∀ad,a=some ad->∀j u,(l.map (Value.int .i64))[j]? =some u->w.cell? (ad.add j)=some u:=by
 intro ad ha j u hu
 rw[yAZ]at hu
 obtain⟨x,hx,rfl⟩:=Option.map_eq_some_iff.1 hu
 obtain⟨hj,e⟩:=yBX.1 hx
 obtain⟨b,off,ea,hb,hc⟩:=H j hj
 rw[ha]at ea
 cases ea
 rw[Addr.add_lit,hc,hx];rfl
theorem zNU{w:World}{a:Option Addr}{l:List Int}(H:zAH w a l):a=none->l.length=0:=by
 intro ha
 rcases yBR l.length with h|h
 ·exact h
 ·obtain⟨_,_,e,_⟩:=H 0 h;rw[ha]at e;cases e
theorem zBC(w:World)(x:Value)(t:TypeId):∀ad,(some ⟨w.heap.size,0,none⟩:Option Addr)=some ad->∀j u,[x][j]? =some u->(w.alloc (.cells #[x] t)).cell? (ad.add j)=some u:=by
 intro ad e j u hu
 cases e
 match j,hu with
 |0,hu=>
  simp at hu;subst hu
  rw[Addr.add_lit,World.cell?_alloc_at _ _ _ _ rfl];rfl
theorem zCL(w:World)(o:Obj):w.heap.size<=(w.alloc o).heap.size:=by simp
theorem zBL(a:Option Addr)(n c:Nat):∀u∈[Value.slice a n c],u.oneCell'=true:=by intro u hu;simp at hu;subst hu;rfl
theorem zBS{α:Type}{a:α}{p:Prop}:some a=none->p:=fun h=>by cases h
theorem zDX.own'{E:TypeId}{W:World}{b0 base:Nat}{S:Nat->Prop}{v:Value}{l:List Int}{n:Nat}{xs:List Value}(h:W.ownsRow b0 E 1 v n xs)(hx:xs=l.map (Value.int .i64))(hn:l.length=n)(hm:n<=maxLen)(hS:∀b,b0<=b->S b):zDX E W base S v l:=by
 subst hx;subst hn;exact zDX.own h hm hS
theorem zAT{w:World}{b:Nat}{c:Array Value}{E:TypeId}{f:Nat×Nat}(h:w.heap[b]? =some (.cells c E f))(j:Nat)(v:Value):
 (w.setCell ⟨b,j,none⟩ v).heap[b]? =some (.cells (c.setIfInBounds j v) E f):=by
 obtain⟨hlt,hk⟩:=yAB.1 h
 show(w.heap.modify b _)[b]? =_
 rw[yDN (by rw[Array.size_modify];exact hlt),yGE,hk]
 rfl
theorem zAE{B:Nat}{a w:World}(h:Below B a w){b:Nat}(hb:B<=b)(o:Nat)(v:Value):Below B a (w.setCell ⟨b,o,none⟩ v):=h.setCell (p:=⟨b,o,none⟩) hb v
end
section
open Go.RowKit
theorem zOF(w:World)(a b:Nat):(w.drewN a).drewN b=w.drewN (a+b):=by simp[World.drewN,Nat.add_assoc]
theorem gcd_mod(x y:Nat)(hy:0<y):Nat.gcd y (x%y)=Nat.gcd x y:=by rw[Nat.gcd_comm x y,Nat.gcd_rec y x,Nat.gcd_comm]
theorem zGH(w:World)(a b:Int)(ha: -4611686018427387904<=a∧a<=4611686018427387904)(hb: -4611686018427387904<=b∧b<=4611686018427387904):
 Calls Tryz.prog 206 #[.int .i64 a,.int .i64 b] w fun e w'=>e=.returned (.int .i64 (Int.gcd a b:Nat))∧∃k,w'=w.drewN k:=by
 obtain⟨x,hx⟩:∃x:Nat,x=a.natAbs:=⟨_,rfl⟩
 obtain⟨y,hy⟩:∃y:Nat,y=b.natAbs:=⟨_,rfl⟩
 have HG:=hid (show Nat.gcd x y=Int.gcd a b by rw[hx,hy];rfl)
 have hx2:x<=4611686018427387904:=by omega
 have hy2:y<=4611686018427387904:=by omega
 obtain⟨ha1,ha2⟩:=ha
 obtain⟨hb1,hb2⟩:=hb
 rcases yBK a 0 with sa|sa<;>rcases yBK b 0 with sb|sb
 all_goals
  have HX:=hid hx
  have HY:=hid hy
  clear hx hy
  go_enter Tryz.func206,Tryz.ntmps206
  go_wp2
  go_loopw [0,1] (fun u v wr=>∃p q:Nat,u=.int .i64 p∧v=.int .i64 q∧p<=4611686018427387904∧q<=4611686018427387904∧Nat.gcd p q=Nat.gcd x y∧∃k,wr=w.drewN k) (fun _ v _=>(intOf v).toNat)
  case atStart=>
   have h1:=HX.out
   have h2:=HY.out
   exact⟨x,y,by congr 1;omega,by congr 1;omega,hx2,hy2,rfl,0,rfl⟩
  case round=>
   obtain⟨p,q,rfl,rfl,hp,hq,hg,k,rfl⟩:=hrel
   have HGG:=hid hg
   clear hg
   by_cases h0:q=0
   ·subst h0
    go_wp2
    go_ret
    refine⟨zDC ?_,_,rfl⟩
    have h1:=HGG.out
    rw[Nat.gcd_zero_right]at h1
    rw[h1,HG.out]
   ·have hq1:1<=q:=by omega
    have hne:((q:Int) !=0)=true:=by simp;omega
    clear h0
    have hm1:p%q<q:=Nat.mod_lt _ hq1
    have hgm:=gcd_mod p q hq1
    have HGM:=hid (hgm.trans HGG.out)
    have HM:=hid hm1
    have HE:=hid (show((p:Int)% (q:Int))=((p%q:Nat):Int)by simp)
    clear hgm hm1
    go_wp2
    go_quiet (fail)
    go_wp2
    have hm1:=HM.out
    exact⟨⟨q,p%q,rfl,by rw[HE.out],hq,by omega,HGM.out,_,zOF _ _ _⟩,by rw[HE.out];simp[intOf];omega⟩
end
section
open Go.RowKit
theorem zKR(n lo hi:Int)(w:World):Calls Tryz.prog 131 #[.int .i64 n,.int .i64 lo,.int .i64 hi] w fun e w'=>e=.returned (.bool (inB n lo hi))∧w=w':=by
 by_cases h1:lo<=n<;>by_cases h2:n<=hi
 all_goals
  go_enter Tryz.func131,Tryz.ntmps131
  go_wp2
  go_ret
  exact⟨zAP (by simp[inB,h1,h2]),rfl⟩
theorem zHY(n lo hi:Int)(w:World):Calls Tryz.prog 174 #[.int .i64 n,.int .i64 lo,.int .i64 hi] w fun e w'=>e=.returned (.bool (inB n lo hi))∧w=w':=by
 by_cases h1:lo<=n<;>by_cases h2:n<=hi
 all_goals
  go_enter Tryz.func174,Tryz.ntmps174
  go_wp2
  go_ret
  exact⟨zAP (by simp[inB,h1,h2]),rfl⟩
theorem zIH{α:Type}{p:α->Bool}{l:List α}{k:Nat}(hk:k<l.length)(h:p l[k]=false):l.all p=false:=by
 rw[List.all_eq_false];exact⟨l[k],yAH hk,by simp[h]⟩
theorem zKB{α:Type}{p:α->Bool}{l:List α}(h:∀j (hj:j<l.length),p l[j]=true):l.all p=true:=by
 rw[yAT]
 intro x hx
 obtain⟨i,hi,e⟩:=yDQ hx
 rw[<- e];exact h i hi
theorem r2row_c(w:World)(a:Option Addr)(n cap:Nat)(l:List Int)(hn:l.length=n)(hm:n<=maxLen)(H:zAH w a l):
 Calls Tryz.prog 130 #[.slice a n cap] w fun e w'=>e=.returned (.bool (zHK l))∧w=w':=by
 have HN:=hid hn
 have HH:=hid H
 clear hn H
 unfold maxLen at hm
 go_enter Tryz.func130,Tryz.ntmps130
 go_wp2
 go_loop [7] (fun i=>∃k:Nat,k<=n∧i=.int .i64 k∧∀j (hj:j<l.length),j<k->inB l[j] (-1) 1=true) (fun i=>n-(intOf i).toNat)
 case atStart=>exact⟨0,yAK _,rfl,fun i _ h=>by omega⟩
 case round=>
  obtain⟨k,hk,rfl,hno⟩:=hrel
  have HNO:=hid hno
  clear hno
  by_cases hlt:k<n
  ·have hkl:k<l.length:=by rw[HN.out];exact hlt
   obtain⟨b,off,rfl,hbs,hc⟩:=HH.out k hkl
   have hg:l[k]?.getD 0=l[k]:=by rw[yAA hkl];rfl
   rw[hg]at hc
   obtain⟨B,hB⟩:=exq (inB l[k] (-1) 1)
   have HW:=hid (fun W=>zKR l[k] (-1) 1 W)
   rw[<- hB]at HW
   have HBB:=hid hB
   have HKL:=hid hkl
   clear hg hB
   cases B
   ·go_wp2_with (go_at_call 131;refine(HW.out _).mono ?_;rintro e w1 ⟨rfl,rfl⟩)
    go_ret
    refine⟨zAP ?_,rfl⟩
    unfold zHK
    rw[zIH HKL.out HBB.out.symm];simp
   ·go_wp2_with (go_at_call 131;refine(HW.out _).mono ?_;rintro e w1 ⟨rfl,rfl⟩)
    go_round
    case rel=>
     refine⟨k+1,by omega,by go_num,fun j hj hjk=>?_⟩
     by_cases e:j=k
     ·subst e;exact HBB.out.symm
     ·exact HNO.out j hj (by omega)
    case measure=>simp[intOf];omega
  ·go_wp2_with (go_at_call 131;refine(zKR _ _ _ _).mono ?_;rintro e w1 ⟨rfl,rfl⟩)
   go_ret
   refine⟨zAP ?_,rfl⟩
   unfold zHK
   rw[HN.out,zKB (fun j hj=>HNO.out j hj (by have:=HN.out;omega))];simp
theorem zND(w:World)(a:Option Addr)(n cap:Nat)(M:Mask)(hn:M.length=n)(hm:n<=maxLen)(H:zAM w a M):
 Calls Tryz.prog 68 #[.slice a n cap] w fun e w'=>e=.returned (.bool (okM M))∧w=w':=by
 have HN:=hid hn
 have HH:=hid H
 clear hn H
 unfold maxLen at hm
 go_enter Tryz.func68,Tryz.ntmps68
 go_wp2
 go_loop [7] (fun i=>∃k:Nat,k<=n∧i=.int .i64 k∧∀j (hj:j<M.length),j<k->(decide (M[j].length=zAD M)&&zHK M[j])=true) (fun i=>n-(intOf i).toNat)
 case atStart=>exact⟨0,yAK _,rfl,fun i _ h=>by omega⟩
 case round=>
  obtain⟨k,hk,rfl,hno⟩:=hrel
  have HNO:=hid hno
  clear hno
  by_cases hlt:k<n
  ·have hkl:k<M.length:=by rw[HN.out];exact hlt
   obtain⟨b,off,ra,rn,rc,rfl,hbs,hc,hrn,hrm,hri⟩:=HH.out k hkl
   obtain⟨b',off',qa,qn,qc,e0,hbs',hc0,hqn,_,_⟩:=HH.out 0 (by omega)
   cases e0
   rw[yDS]at hc0
   have hcol:zAD M=qn:=by unfold zAD;rw[yAA (by omega),<- hqn];rfl
   have HW:=hid (r2row_c w ra rn rc M[k] hrn hrm hri)
   obtain⟨B,hB⟩:=exq (zHK M[k])
   rw[<- hB]at HW
   have HBB:=hid hB
   have HKL:=hid hkl
   have HCol:=hid hcol
   have HRN:=hid hrn
   unfold maxLen at hrm
   have h0:0<n:=by omega
   clear hB hcol hrn hqn hri
   cases B
   ·go_wp2_with (go_at_call 130;refine HW.out.mono ?_;rintro e w1 ⟨rfl,rfl⟩)
    go_ret
    refine⟨zAP ?_,rfl⟩
    unfold okM
    rw[zIH HKL.out (by rw[<- HBB.out];simp)];simp
   ·by_cases hq:rn=qn
    ·have hd:((rn:Int) !=(qn:Int))=false:=by simp[hq]
     have HQ:=hid hq
     clear hq
     go_wp2_with (go_at_call 130;refine HW.out.mono ?_;rintro e w1 ⟨rfl,rfl⟩)
     go_round
     case rel=>
      refine⟨k+1,by omega,by go_num,fun j hj hjk=>?_⟩
      by_cases e:j=k
      ·subst e;rw[<- HBB.out,HCol.out,HRN.out,HQ.out];simp
      ·exact HNO.out j hj (by omega)
     case measure=>simp[intOf];omega
    ·have hd:((rn:Int) !=(qn:Int))=true:=by simp;omega
     have HQ:=hid hq
     clear hq
     go_wp2_with (go_at_call 130;refine HW.out.mono ?_;rintro e w1 ⟨rfl,rfl⟩)
     go_ret
     refine⟨zAP ?_,rfl⟩
     unfold okM
     rw[zIH HKL.out (by rw[HCol.out,HRN.out];simp[HQ.out])];simp
  ·go_wp2_with (go_at_call 131;refine(zKR _ _ _ _).mono ?_;rintro e w1 ⟨rfl,rfl⟩)
   go_ret
   refine⟨zAP ?_,rfl⟩
   unfold okM
   rw[HN.out,zKB (fun j hj=>HNO.out j hj (by have:=HN.out;omega))];simp
end
section
open Go.RowKit
section
variable {P:Program} {ops:Array Oper} {Q:Exit->Act->World->Prop} {md:Region.Mode} {S:World->Prop}
theorem wpOp_inRound(l n:Nat){i:Nat}{K:Act->World->Prop}{a:Act}{w:World}(hd:∀o,ops[i]? =some o->(∀c,o.op≠.defer c))(hq:¬LetsOut Q)
 (h:wpOp P ops Q i K a w):wpOpIn (Fence.wide.inRound l) n P ops Q i K a w:=by
 unfold wpOp at h
 unfold wpOpIn
 cases ho:ops[i]? with
 |none=>simpa[ho]using h
 |some o=>
  simp only[ho]at h⊢
  split
  ·rename_i hw
   simp only[hw,if_true]at h
   have h:=h.resolve_right (fun x=>hq x.2)
   refine⟨fun f _=>trivial,?_⟩
   rw[Fence.inRound_round,Oper.semAt_some l a.eval o (hd o ho)]
   unfold Oper.wp at h
   generalize (execOp a.eval o).run P w=r at*
   cases r with
   |ok x w'=>
    cases x<;>simp only[Oper.upon,Oper.uponIn]at h⊢ <;>first
     |exact h
     |exact⟨fun h=>by simp[Fence.wide]at h,CallsIn.inRound l (callsIn_wide.2 h)⟩
     | (refine⟨fun h=>by simp[Fence.wide]at h,fun c cs _=>?_⟩
        obtain⟨v,w'',hr,hs⟩:=h c cs
        exact⟨v,w'',hr,(StepsIn.of_steps hs).mono fun m _=>fenced_wide P m⟩)
   |halt x w'=>cases x<;>simp only[Oper.upon,Oper.uponIn]at h⊢ <;>exact h
  ·rename_i hw
   simp only[hw]at h
   exact⟨fun f _=>trivial,h⟩
def AnyT(P:Program)(md:Region.Mode)(ops:Array Oper)(Q:Exit->Act->World->Prop)(T:Nat->World->Prop):Nat->Array Bool->Act->World->Prop
 |0,listed,a,w=>Region.ready md ops listed=[]∧Q .normal a w
 |fuel+1,listed,a,w=>
  (Region.ready md ops listed=[]->Q .normal a w)∧
  ∀j∈Region.ready md ops listed,wpOp P ops Q j (fun a' w'=>T j w'∧AnyT P md ops Q T fuel (listed.setIfInBounds j true) a' w') a w
variable {T:Nat->World->Prop}
theorem AnyT.any:∀(fuel:Nat) (listed:Array Bool) (a:Act) (w:World),AnyT P md ops Q T fuel listed a w->wpAny P md ops Q fuel listed a w
 |0,_,_,_,h=>h
 |fuel+1,_,_,_,h=>⟨h.1,fun i hi=>wpOp_mono (fun a' w' h'=>AnyT.any fuel _ a' w' h'.2) (h.2 i hi)⟩
theorem AnyT.inRound(l n:Nat)(hd:∀(i:Nat) o,ops[i]? =some o->(∀c,o.op≠.defer c))(hq:¬LetsOut Q):∀(fuel:Nat) (listed:Array Bool) (a:Act) (w:World),
 AnyT P md ops Q T fuel listed a w->wpAnyIn (Fence.wide.inRound l) n P md ops Q fuel listed a w
 |0,_,_,_,h=>h
 |fuel+1,_,_,_,h=>⟨h.1,fun i hi=>wpOpIn_mono (fun a' w' h'=>AnyT.inRound l n hd hq fuel _ a' w' h'.2) (wpOp_inRound l n (hd i) hq (h.2 i hi))⟩
theorem AnyT.first{i:Nat}{oi:Oper}{v:Value}(hi:ops[i]? =some oi)(hsel:∀(j:Nat) (o:Oper) cs b,ops[j]? =some o->o.op≠.select cs b)
 (hQ:∀c a w,Q (.panic c) (a.put oi.dst v) w->Q (.panic c) a w)
 (hT:∀(j:Nat) oj,ops[j]? =some oj->(∀e∈oj.after,Region.binds md e=true->e.on≠i)->∀w,T j w->S w)(hTi:∀w,S w->T i w):
 ∀(fuel:Nat) (listed:Array Bool) (a:Act) (w:World),
  (∀j oj,ops[j]? =some oj->j≠i->listed.getD j true=false->(∀e∈oj.after,Region.binds md e=true->e.on≠i)->oi.apart ops oj=true)->
  i∈Region.ready md ops listed->YieldsIf P ops S oi v a->S w->
  AnyT P md ops Q T fuel (listed.setIfInBounds i true) (a.put oi.dst v) w->AnyT P md ops Q T (fuel+1) listed a w:=by
 intro fuel
 induction fuel with
 |zero=>
  intro listed a w _ hr hy hS H
  refine⟨fun h=>(by rw[h]at hr;cases hr),fun j hj=>?_⟩
  by_cases e:j=i
  ·subst e;exact hy.wpOp hi hS ⟨hTi w hS,H⟩
  ·have h0:=ready_mono hj e
   rw[H.1]at h0;cases h0
 |succ fuel ih=>
  intro listed a w hfree hr hy hS H
  refine⟨fun h=>(by rw[h]at hr;cases hr),fun j hj=>?_⟩
  by_cases e:j=i
  ·subst e;exact hy.wpOp hi hS ⟨hTi w hS,H⟩
  ·obtain⟨hun,oj,hoj,hall⟩:=mem_ready.1 hj
   have hnot:∀x∈oj.after,Region.binds md x=true->x.on≠i:=by
    intro x hx hb heq
    have h1:=hall x hx hb
    have h0:=(mem_ready.1 hr).1
    rw[heq]at h1
    rcases yAP i listed.size with hlt|hge
    ·simp[hlt]at h0 h1;rw[h0]at h1;cases h1
    ·simp[yCW hge]at h1
   refine wpOp_mono (fun a' w' h3=>?_) (wpOp_putIf hoj (hfree j oj hoj e hun hnot) (fun cs b=>hsel i oi cs b hi) (fun cs b=>hsel j oj cs b hoj) hQ hy (H.2 j (ready_mono hj e)))
   have hS':=hT j oj hoj hnot w' h3.2.1
   refine⟨h3.2.1,ih (listed.setIfInBounds j true) a' w' ?_ (ready_mono hr (fun h=>e h.symm)) h3.1 hS' ?_⟩
   ·intro k ok hk hki hkun hno
    refine hfree k ok hk hki ?_ hno
    by_cases hjk:j=k
    ·subst hjk;exact hun
    ·rwa [getD_set_ne true hjk]at hkun
   ·rw[Array.setIfInBounds_comm _ _ e];exact h3.2.2
def waits(md:Region.Mode)(ops:Array Oper)(i j:Nat):Bool:=match ops[j]? with|some o=>o.after.any (fun e=>Region.binds md e&&e.on==i)|none=>true
theorem AnyT.take{i:Nat}{oi:Oper}{v:Value}{fuel:Nat}{listed:Array Bool}{a:Act}{w:World}(hi:ops[i]? =some oi)
 (hs:Region.noSelect ops=true)(hf:Region.free md ops listed i=true)(hr:(Region.ready md ops listed).contains i=true)
 (hQ:∀c a w,Q (.panic c) (a.put oi.dst v) w->Q (.panic c) a w)
 (hT:∀j,waits md ops i j=false->∀w,T j w->S w)(hTi:∀w,S w->T i w)(hy:YieldsIf P ops S oi v a)(hS:S w)
 (h:AnyT P md ops Q T fuel (listed.setIfInBounds i true) (a.put oi.dst v) w):AnyT P md ops Q T (fuel+1) listed a w:=
 AnyT.first hi (Region.noSelect_spec hs) hQ (fun j oj hj hno w hw=>hT j (by
  unfold waits;rw[hj]
  simp only[Array.any_eq_false]
  intro k hk
  have:=hno oj.after[k] (Array.getElem_mem hk)
  cases hb:Region.binds md oj.after[k]<;>simp[hb]at this⊢
  exact this) w hw) hTi fuel listed a w (Region.free_spec hi hf) (by simpa using hr) hy hS h
theorem AnyT.takeW{i:Nat}{oi:Oper}{v:Value}{fuel:Nat}{listed:Array Bool}{a:Act}{w:World}{Wf:Nat->Bool}(hi:ops[i]? =some oi)
 (hs:Region.noSelect ops=true)(hf:Region.free md ops listed i=true)(hr:(Region.ready md ops listed).contains i=true)
 (hQ:∀c a w,Q (.panic c) (a.put oi.dst v) w->Q (.panic c) a w)
 (hW:(List.range ops.size).all (fun j=>waits md ops i j||Wf j)=true)(hw:Region.wanted oi (yielded ops a.tmps)=true)(hy:∀w,S w->(execOp a.eval oi).run P w=.ok (.value v) w)(hS:S w)
 (h:AnyT P md ops Q (fun j w=>Wf j=true->S w) fuel (listed.setIfInBounds i true) (a.put oi.dst v) w):AnyT P md ops Q (fun j w=>Wf j=true->S w) (fuel+1) listed a w:=
 AnyT.take hi hs hf hr hQ (fun j hj w hT=>hT (by
  by_cases e:j<ops.size
  ·have:=yAT.1 hW j (yCH.2 e)
   rw[hj]at this;simpa using this
  ·unfold waits at hj;rw[yCW (by omega)]at hj;cases hj)) (fun w hS _=>hS) (.inl ⟨hw,hy⟩) hS h
theorem AnyT.next{i:Nat}{o:Oper}{fuel:Nat}{listed:Array Bool}{a:Act}{w:World}(hr:Region.ready md ops listed=[i])(ho:ops[i]? =some o)
 (h:wpOp P ops Q i (fun a' w'=>T i w'∧AnyT P md ops Q T fuel (listed.setIfInBounds i true) a' w') a w):AnyT P md ops Q T (fuel+1) listed a w:=
 ⟨fun h0=>(by rw[hr]at h0;cases h0),fun j hj=>by rw[hr]at hj;obtain rfl:j=i:=(by simpa using hj);exact h⟩
theorem AnyT.done{listed:Array Bool}{a:Act}{w:World}(hr:Region.ready md ops listed=[])(h:Q .normal a w):∀fuel,AnyT P md ops Q T fuel listed a w
 |0=>⟨hr,h⟩
 |_+1=>⟨fun _=>h,by rw[hr];simp⟩
def noDefer(ops:Array Oper):Bool:=ops.all fun o=>match o.op with| .defer _=>false|_=>true
theorem noDefer_spec{ops:Array Oper}(h:noDefer ops=true)(i:Nat)(o:Oper)(ho:ops[i]? =some o)(c:Call):o.op≠.defer c:=by
 intro e
 unfold noDefer at h
 rw[Array.all_eq_true]at h
 obtain⟨hlt,he⟩:=yAB.1 ho
 have:=h i hlt
 rw[he,e]at this
 simp at this
theorem round_region(T:Nat->World->Prop)(l n:Nat){id:Nat}{a:Act}{w:World}(hm:P.follows .mixedOrders=true)(hd:noDefer ops=true)(hq:¬LetsOut Q)
 (h:AnyT P .any ops Q T ops.size (Array.replicate ops.size false) a w.drew):(Code.region id ops true).wpIn (Fence.wide.inRound l) n P Q a w:=
 wpIn_region_any hm (AnyT.inRound l n (noDefer_spec hd) hq _ _ _ _ h)
theorem zAG(T:Nat->World->Prop){id:Nat}{a:Act}{w:World}(hm:P.follows .mixedOrders=true)
 (h:AnyT P .any ops Q T ops.size (Array.replicate ops.size false) a w.drew):(Code.region id ops true).wp P Q a w:=
 wp_region_any hm (AnyT.any _ _ _ _ h)
def oneQ(K:Act->World->Prop)(Q:Exit->Act->World->Prop):Exit->Act->World->Prop
 | .normal,a,w=>K a w
 |e,a,w=>Q e a w
theorem wpOp_of_list{i:Nat}{o:Oper}{K:Act->World->Prop}{a:Act}{w:World}(ho:ops[i]? =some o)
 (h:wpList P ops (oneQ K Q) [o] a w):wpOp P ops Q i K a w:=by
 unfold wpOp
 simp only[ho]
 unfold wpList at h
 split
 ·rename_i hw
  simp only[hw,if_true]at h
  rcases h with h|⟨h,hl⟩
  ·refine .inl ?_
   unfold Oper.wp at h⊢
   generalize (execOp a.eval o).run P w=r at*
   cases r with
   |ok x w'=>
    cases x<;>simp only[Oper.upon]at h⊢ <;>first
     |exact h
     |exact Calls.mono h (fun e w'' he=>by cases e<;>exact he)
   |halt x w'=>cases x<;>simp only[Oper.upon]at h⊢ <;>exact h
  ·exact .inr ⟨h,hl⟩
 ·rename_i hw
  simp only[hw]at h
  exact h
end
theorem AnyT.nx{P:Program}{md:Region.Mode}{ops:Array Oper}{Q:Exit->Act->World->Prop}{T:Nat->World->Prop}{i:Nat}{o:Oper}{fuel:Nat}{listed:Array Bool}{a:Act}{w:World}(ho:ops[i]? =some o)
 (h:wpList P ops (oneQ (fun a' w'=>T i w'∧AnyT P md ops Q T fuel (listed.setIfInBounds i true) a' w') Q) [o] a w)(hr:Region.ready md ops listed=[i]:=by kernel_rfl):AnyT P md ops Q T (fuel+1) listed a w:=
 AnyT.next hr ho (wpOp_of_list ho h)
end
section
open Go.RowKit
def zBD(w:World)(g:Nat)(l:List Int):Prop:=∃sp:List Value,w.heap[g]? =some (.cells (l.map (Value.int .i64)++sp).toArray 3 (0,0))
theorem zBD.lt{w:World}{g:Nat}{l:List Int}(h:zBD w g l):g<w.heap.size:=by obtain⟨sp,h⟩:=h;exact(yAB.1 h).1
theorem zBD.cell{w:World}{g:Nat}{l:List Int}(h:zBD w g l){j:Nat}(hj:j<l.length):w.cell? ⟨g,j,none⟩=some (.int .i64 (l[j]?.getD 0)):=by
 obtain⟨sp,h⟩:=h
 simp[World.cell?,h,yAO,hj]
theorem zBD.frozen{w:World}{g:Nat}{l:List Int}(h:zBD w g l)(j:Nat):w.frozen? ⟨g,j,none⟩=false:=by
 obtain⟨sp,h⟩:=h
 simp[World.frozen?,h]
theorem zBD.keep{w w':World}{g:Nat}{l:List Int}(h:zBD w g l)(hk:w'.heap[g]? =w.heap[g]?):zBD w' g l:=by
 obtain⟨sp,h⟩:=h;exact⟨sp,hk.trans h⟩
theorem zBD.set{w:World}{g:Nat}{l:List Int}(h:zBD w g l)(j:Nat)(hj:j<l.length)(n:Int):zBD (w.setCell ⟨g,j,none⟩ (.int .i64 n)) g (l.set j n):=by
 obtain⟨sp,h⟩:=h
 refine⟨sp,?_⟩
 rw[zAT h]
 congr 2
 apply yEO.1
 simp[List.set_append,hj,List.map_set]
theorem zBD.ints{w:World}{g:Nat}{l:List Int}(h:zBD w g l):zAH w (some ⟨g,0,none⟩) l:=
 fun j hj=>⟨g,0,rfl,h.lt,by rw[yAW];exact h.cell hj⟩
def OwnM(w:World)(base:Nat)(v:Value)(M:Mask):Prop:=
 ∃(g:Nat->Nat) (vs:List Value),w.ownsRow base 24 1 v M.length vs∧(∀i j,i<M.length->j<M.length->g i=g j->i=j)∧
  ∀j (hj:j<M.length),(∃x,vs[j]? =some (.slice (some ⟨g j,0,none⟩) M[j].length (M[j].length+x)))∧base<=g j∧zBD w (g j) M[j]
theorem OwnM.nil(w:World)(base:Nat):OwnM w base (.slice none 0 0) []:=
 ⟨fun _=>0,[],World.ownsRow_nil _ _ _ _,fun i j hi=>by simp at hi,fun j hj=>by simp at hj⟩
theorem OwnM.at{w:World}{base:Nat}{v:Value}{M:Mask}(h:OwnM w base v M)(i:Nat)(hi:i<M.length):
 ∃g0 cap gi c,v=.slice (some ⟨g0,0,none⟩) M.length cap∧g0<w.heap.size∧w.cell? ⟨g0,i,none⟩=some (.slice (some ⟨gi,0,none⟩) M[i].length c)∧base<=gi∧zBD w gi M[i]∧
  ∀w' r',r'.length=M[i].length->zBD w' gi r'->(∀k,k<w.heap.size->k≠gi->w'.heap[k]? =w.heap[k]?)->OwnM w' base v (M.set i r'):=by
 obtain⟨g,vs,ho,hin,he⟩:=h
 rcases ho.2 with⟨rfl,h0⟩|⟨g0,cap,cur,rfl,hbg,hgg,hnc,hcm,hsz,htk⟩
 ·omega
 obtain⟨⟨c,h1⟩,h2,h3⟩:=he i hi
 have hc:=World.ownsRow.cellAt (w:=w) (base:=base) (e:=24) (size:=1) (g:=g0) (n:=M.length) (cap:=cap) (xs:=vs) ⟨ho.1,.inr ⟨g0,cap,cur,rfl,hbg,hgg,hnc,hcm,hsz,htk⟩⟩ i (by omega)
 refine⟨g0,cap,g i,_,rfl,(yAB.1 hgg).1,by rw[hc,h1],h2,h3,?_⟩
 intro w' r' hl hr hk
 have hne:g0≠g i:=by
  intro e
  obtain⟨sp,h3⟩:=h3
  rw[<- e,hgg]at h3
  cases h3
 refine⟨g,vs,⟨by simpa using ho.1,.inr ⟨g0,cap,cur,by simp,hbg,(hk g0 (yAB.1 hgg).1 hne).trans hgg,by simpa using hnc,hcm,hsz,by simpa using htk⟩⟩,fun a b ha hb=>hin a b (by simpa using ha) (by simpa using hb),fun j hj=>?_⟩
 have hj':j<M.length:=by simpa using hj
 obtain⟨⟨c',h1'⟩,h2',h3'⟩:=he j hj'
 by_cases e:i=j
 ·subst e
  refine⟨⟨c',?_⟩,h2',?_⟩
  ·rw[h1'];simp[hl]
  ·simpa using hr
 ·refine⟨⟨c',?_⟩,h2',?_⟩
  ·rw[h1'];simp[yDP e]
  ·rw[yDP e]
   exact h3'.keep (hk _ h3'.lt (fun e'=>e ((hin j i hj' hi e').symm)))
theorem OwnM.rows{w:World}{base:Nat}{v:Value}{M:Mask}(h:OwnM w base v M)(hl:∀r∈M,r.length<=maxLen):∃a cap,v=.slice a M.length cap∧zAM w a M:=by
 by_cases h0:M=[]
 ·subst h0
  obtain⟨g,vs,ho,_⟩:=h
  obtain⟨a,cap,rfl⟩:=zAC ho
  exact⟨a,cap,rfl,fun j hj=>by simp at hj⟩
 ·have hp:0<M.length:=yEU.2 h0
  obtain⟨g0,cap,_,_,rfl,_⟩:=h.at 0 hp
  refine⟨some ⟨g0,0,none⟩,cap,rfl,fun j hj=>?_⟩
  obtain⟨g0',cap',gi,c,e,hlt,hc,_,hr,_⟩:=h.at j hj
  cases e
  exact⟨g0,0,some ⟨gi,0,none⟩,_,c,rfl,hlt,by rw[yAW];exact hc,rfl,hl _ (yAH hj),hr.ints⟩
theorem OwnM.snoc{w w1 w3:World}{base gn cap:Nat}{v v':Value}{M:Mask}{r:List Int}{g:Nat->Nat}{vs:List Value}
 (ho:w.ownsRow base 24 1 v M.length vs)(hin:∀i j,i<M.length->j<M.length->g i=g j->i=j)
 (he:∀j (hj:j<M.length),(∃x,vs[j]? =some (.slice (some ⟨g j,0,none⟩) M[j].length (M[j].length+x)))∧base<=g j∧zBD w (g j) M[j])
 (hb1:Below w.heap.size w w1)(hr:zBD w1 gn r)(hgn:w.heap.size<=gn)(hcap:r.length<=cap)(hbase:base<=w.heap.size)(hg:w1.grownBy w3 v.ownBlock)
 (ho':w3.ownsRow base 24 1 v' (M.length+1) (vs++[.slice (some ⟨gn,0,none⟩) r.length cap])):OwnM w3 base v' (M++[r]):=by
 have hlen:vs.length=M.length:=by have:=ho.1;omega
 have hown:∀b,v.ownBlock=some b->b<w.heap.size∧∃c f,w.heap[b]? =some (.cells c 24 f):=by
  intro b hb
  rcases ho.2 with⟨rfl,_⟩|⟨g,cap,cur,rfl,hbg,hgg,_⟩
  ·simp[Value.ownBlock]at hb
  ·obtain rfl:g=b:=by simpa[Value.ownBlock]using hb
   exact⟨(yAB.1 hgg).1,cur,_,hgg⟩
 have hold:∀b l,zBD w b l->w3.heap[b]? =w.heap[b]? :=by
  intro b l hs
  refine(hg.block b (yAJ hs.lt hb1.size) ?_).trans (hb1.block b hs.lt)
  intro e
  obtain⟨_,c,f,hc⟩:=hown b e.symm
  obtain⟨sp,hs⟩:=hs
  rw[hs]at hc
  simp at hc
 have hnew:w3.heap[gn]? =w1.heap[gn]? :=by
  refine hg.block gn hr.lt ?_
  intro e
  have:=(hown gn e.symm).1
  omega
 refine⟨fun j=>if j<M.length then g j else gn,vs++[.slice (some ⟨gn,0,none⟩) r.length cap],by simpa using ho',?_,?_⟩
 ·intro i j hi hj e
  simp only[yAN,yBB,yCD,yAW]at hi hj
  by_cases h1:i<M.length<;>by_cases h2:j<M.length<;>simp only[h1,h2,if_true,if_false]at e
  ·exact hin i j h1 h2 e
  ·have:=(he i h1).2.2.lt;omega
  ·have:=(he j h2).2.2.lt;omega
  ·omega
 ·intro j hj
  simp only[yAN,yBB,yCD,yAW]at hj
  by_cases h1:j<M.length
  ·obtain⟨⟨c,hc⟩,h2,h3⟩:=he j h1
   simp only[h1,if_true]
   rw[yBO h1]
   exact⟨⟨c,by rw[yAO (by omega)];exact hc⟩,h2,h3.keep (hold _ _ h3)⟩
  ·obtain rfl:j=M.length:=by omega
   simp only[yGO,if_false]
   rw[yBL (yAC _)]
   simp only[yCF,yBG]
   exact⟨⟨cap-r.length,by rw[yAQ (by omega),hlen,show r.length+(cap-r.length)=cap by omega];simp⟩,by omega,hr.keep hnew⟩
theorem zJC{w:World}{b0:Nat}{v:Value}{l:List Int}{n:Nat}(h:w.ownsRow b0 3 1 v n (l.map (Value.int .i64)))(hn:l.length=n)(h0:0<n):∃g cap,v=.slice (some ⟨g,0,none⟩) n cap∧b0<=g∧zBD w g l:=by
 rcases h.2 with⟨rfl,h1⟩|⟨g,cap,cur,rfl,hbg,hgg,hnc,hcm,hsz,htk⟩
 ·omega
 ·refine⟨g,cap,rfl,hbg,cur.toList.drop n,?_⟩
  rw[hgg]
  congr 2
  apply yEO.1
  simp only[Nat.mul_one]at htk
  rw[<- htk]
  simp
theorem own_cap{w:World}{base size n cap:Nat}{T:TypeId}{a:Option Addr}{xs:List Value}(h:w.ownsRow base T size (.slice a n cap) n xs):n<=cap:=by
 rcases h.2 with⟨e,rfl⟩|⟨g,c,cur,e,hbg,hgg,hnc,_⟩
 ·exact yAK _
 ·cases e;exact hnc
def OwnT(w:World)(base top:Nat)(v:Value)(M:List (List Int)):Prop:=
 ∃(g:Nat->Nat) (vs:List Value),w.ownsRow base 24 1 v M.length vs∧(∀k,v.ownBlock=some k->k<top)∧(∀i j,i<M.length->j<M.length->g i=g j->i=j)∧
  ∀j (hj:j<M.length),(∃x,vs[j]? =some (.slice (some ⟨g j,0,none⟩) M[j].length (M[j].length+x)))∧base<=g j∧g j<top∧zBD w (g j) M[j]
theorem OwnT.of{w:World}{base:Nat}{v:Value}{M:List (List Int)}(h:OwnM w base v M):OwnT w base w.heap.size v M:=by
 obtain⟨g,vs,ho,hi,he⟩:=h
 exact⟨g,vs,ho,fun k hk=>(ho.lt k hk).2,hi,fun j hj=>by obtain⟨h1,h2,h3⟩:=he j hj;exact⟨h1,h2,h3.lt,h3⟩⟩
theorem OwnT.keep{w w':World}{base top:Nat}{v:Value}{M:List (List Int)}(h:OwnT w base top v M)(hk:∀k,base<=k->k<top->k<w.heap.size->w'.heap[k]? =w.heap[k]?):OwnT w' base top v M:=by
 obtain⟨g,vs,ho,ht,hi,he⟩:=h
 refine⟨g,vs,⟨ho.1,?_⟩,ht,hi,fun j hj=>?_⟩
 ·rcases ho.2 with hn|⟨g,cap,cur,rfl,hb,hgg,rest⟩
  ·exact .inl hn
  ·exact .inr ⟨g,cap,cur,rfl,hb,(hk g hb (ht g rfl) (yAB.1 hgg).1).trans hgg,rest⟩
 ·obtain⟨h1,h2,h3,h4⟩:=he j hj
  exact⟨h1,h2,h3,h4.keep (hk _ h2 h3 h4.lt)⟩
theorem OwnT.at{w:World}{base top:Nat}{v:Value}{M:List (List Int)}(h:OwnT w base top v M)(i:Nat)(hi:i<M.length):
 ∃g0 cap gi c,v=.slice (some ⟨g0,0,none⟩) M.length cap∧g0<w.heap.size∧base<=g0∧g0<top∧w.cell? ⟨g0,i,none⟩=some (.slice (some ⟨gi,0,none⟩) M[i].length c)∧(∀j,w.frozen? ⟨g0,j,none⟩=false)∧base<=gi∧gi<top∧g0≠gi∧zBD w gi M[i]∧M.length<=maxLen∧M.length<=cap∧
  ∀w' r',r'.length=M[i].length->zBD w' gi r'->(∀k,base<=k->k<top->k<w.heap.size->k≠gi->w'.heap[k]? =w.heap[k]?)->OwnT w' base top v (M.set i r'):=by
 obtain⟨g,vs,ho,ht,hin,he⟩:=h
 rcases ho.2 with⟨rfl,h0⟩|⟨g0,cap,cur,rfl,hbg,hgg,hnc,hcm,hsz,htk⟩
 ·omega
 obtain⟨⟨c,h1⟩,h2,h3,h4⟩:=he i hi
 have hc:=World.ownsRow.cellAt (w:=w) (base:=base) (e:=24) (size:=1) (g:=g0) (n:=M.length) (cap:=cap) (xs:=vs) ⟨ho.1,.inr ⟨g0,cap,cur,rfl,hbg,hgg,hnc,hcm,hsz,htk⟩⟩ i (by omega)
 have hne:g0≠g i:=by
  intro e
  obtain⟨sp,h4⟩:=h4
  rw[<- e,hgg]at h4
  cases h4
 refine⟨g0,cap,g i,_,rfl,(yAB.1 hgg).1,hbg,ht g0 rfl,by rw[hc,h1],fun j=>by simp[World.frozen?,hgg],h2,h3,hne,h4,by omega,hnc,?_⟩
 intro w' r' hl hr hk
 refine⟨g,vs,⟨by simpa using ho.1,.inr ⟨g0,cap,cur,by simp,hbg,(hk g0 hbg (ht g0 rfl) (yAB.1 hgg).1 hne).trans hgg,by simpa using hnc,hcm,hsz,by simpa using htk⟩⟩,ht,fun a b ha hb=>hin a b (by simpa using ha) (by simpa using hb),fun j hj=>?_⟩
 have hj':j<M.length:=by simpa using hj
 obtain⟨⟨c',h1'⟩,h2',h3',h4'⟩:=he j hj'
 by_cases e:i=j
 ·subst e
  refine⟨⟨c',?_⟩,h2',h3',?_⟩
  ·rw[h1'];simp[hl]
  ·simpa using hr
 ·refine⟨⟨c',?_⟩,h2',h3',?_⟩
  ·rw[h1'];simp[yDP e]
  ·rw[yDP e]
   exact h4'.keep (hk _ h2' h3' h4'.lt (fun e'=>e ((hin j i hj' hi e').symm)))
theorem swap_get{α:Type}{l:List α}{i j k:Nat}(hi:i<l.length)(hj:j<l.length):((l.set i l[j]).set j l[i])[k]? =if k=j then some l[i]else if k=i then some l[j]else l[k]? :=by
 rw[yFT,yFT]
 by_cases e1:k=j
 ·subst e1;simp[hj]
 ·rw[if_neg (Ne.symm e1),if_neg e1]
  by_cases e2:k=i
  ·subst e2;simp[hi]
  ·rw[if_neg (Ne.symm e2),if_neg e2]
theorem OwnT.swap{w:World}{base top:Nat}{v:Value}{M:List (List Int)}(h:OwnT w base top v M){i j:Nat}(hi:i<M.length)(hj:j<M.length){g0 cap:Nat}{hi' hj':Value}(hv:v=.slice (some ⟨g0,0,none⟩) M.length cap)
 (ci:w.cell? ⟨g0,i,none⟩=some hi')(cj:w.cell? ⟨g0,j,none⟩=some hj'):
 OwnT ((w.setCell ⟨g0,i,none⟩ hj').setCell ⟨g0,j,none⟩ hi') base top v ((M.set i M[j]).set j M[i])∧∀k,k≠g0->((w.setCell ⟨g0,i,none⟩ hj').setCell ⟨g0,j,none⟩ hi').heap[k]? =w.heap[k]? :=by
 have hkeep:∀k,k≠g0->((w.setCell ⟨g0,i,none⟩ hj').setCell ⟨g0,j,none⟩ hi').heap[k]? =w.heap[k]? :=fun k hk=>
  (Below.heap_setCell _ _ _ _ hk).trans (Below.heap_setCell _ _ _ _ hk)
 refine⟨?_,hkeep⟩
 obtain⟨g,vs,ho,ht,hin,he⟩:=h
 subst hv
 rcases ho.2 with⟨hc,h0⟩|⟨g1,cap',cur,hv,hbg,hgg,hnc,hcm,hsz,htk⟩
 ·cases hc
 cases hv
 have hcell:=World.ownsRow.cellAt (w:=w) (base:=base) (e:=24) (size:=1) (g:=g0) (n:=M.length) (cap:=cap) (xs:=vs) ⟨ho.1,.inr ⟨g0,cap,cur,rfl,hbg,hgg,hnc,hcm,hsz,htk⟩⟩
 have hvl:vs.length=M.length:=by have:=ho.1;omega
 have ei:vs[i]'(by omega)=hi':=by have:=hcell i (by omega);rw[ci,yAA (by omega)]at this;exact(Option.some.inj this).symm
 have ej:vs[j]'(by omega)=hj':=by have:=hcell j (by omega);rw[cj,yAA (by omega)]at this;exact(Option.some.inj this).symm
 have hb2:((w.setCell ⟨g0,i,none⟩ hj').setCell ⟨g0,j,none⟩ hi').heap[g0]? =some (.cells ((cur.setIfInBounds i hj').setIfInBounds j hi') 24 (0,0)):=zAT (zAT hgg i hj') j hi'
 have hcl:cur.toList.length=cap:=by simpa using hsz
 have hML:M.length<=cap:=hnc
 refine⟨fun k=>if k=j then g i else if k=i then g j else g k,(vs.set i (vs[j]'(by omega))).set j (vs[i]'(by omega)),⟨by simpa using ho.1,.inr ⟨g0,cap,(cur.setIfInBounds i hj').setIfInBounds j hi',by simp,hbg,hb2,by simpa using hnc,hcm,by simpa using hsz,?_⟩⟩,ht,?_,?_⟩
 ·rw[ei,ej,<- htk]
  simp only[yEA,yFE,Nat.mul_one]
  rw[List.take_set,List.take_set]
 ·intro a b ha hb
  have ha':a<M.length:=by simpa using ha
  have hb':b<M.length:=by simpa using hb
  have hs:∀k,(if k=j then g i else if k=i then g j else g k)=g (if k=j then i else if k=i then j else k):=fun k=>by
   by_cases e1:k=j
   ·rw[if_pos e1,if_pos e1]
   ·rw[if_neg e1,if_neg e1]
    by_cases e2:k=i
    ·rw[if_pos e2,if_pos e2]
    ·rw[if_neg e2,if_neg e2]
  have hlt:∀k,k<M.length->(if k=j then i else if k=i then j else k)<M.length:=fun k hk=>by
   split
   ·exact hi
   ·split
    ·exact hj
    ·exact hk
  intro hg
  simp only[hs]at hg
  have h2:=hin _ _ (hlt a ha') (hlt b hb') hg
  clear hg hs hlt hin he
  (repeat' split at h2)<;>omega
 ·intro k hk
  have hk':k<M.length:=by simpa using hk
  have hm:=swap_get (k:=k) hi hj
  rw[yAA (by simpa using hk')]at hm
  have hs:=swap_get (l:=vs) (i:=i) (j:=j) (k:=k) (by omega) (by omega)
  have hsp:∀x,x<M.length->((w.setCell ⟨g0,i,none⟩ hj').setCell ⟨g0,j,none⟩ hi').heap[g x]? =w.heap[g x]? :=fun x hx=>hkeep _ (by
   intro e
   obtain⟨_,_,_,sp,h4⟩:=he x hx
   rw[e,hgg]at h4
   cases h4)
  by_cases e1:k=j
  ·subst e1
   obtain⟨⟨c',h1'⟩,h2',h3',h4'⟩:=he i hi
   simp only[if_true]at hm hs⊢
   have hm':=Option.some.inj hm
   rw[hm']
   refine⟨⟨c',?_⟩,h2',h3',h4'.keep (hsp i hi)⟩
   rw[hs,<- h1',yAA]
  ·by_cases e2:k=i
   ·subst e2
    obtain⟨⟨c',h1'⟩,h2',h3',h4'⟩:=he j hj
    simp only[if_neg e1,if_true]at hm hs⊢
    have hm':=Option.some.inj hm
    rw[hm']
    refine⟨⟨c',?_⟩,h2',h3',h4'.keep (hsp j hj)⟩
    rw[hs,<- h1',yAA]
   ·obtain⟨⟨c',h1'⟩,h2',h3',h4'⟩:=he k hk'
    simp only[if_neg e1,if_neg e2]at hm hs⊢
    rw[yAA hk']at hm
    have hm':=Option.some.inj hm
    rw[hm']
    refine⟨⟨c',?_⟩,h2',h3',h4'.keep (hsp k hk')⟩
    rw[hs,h1']
theorem own_keep{S:Nat->Prop}{W W':World}{base size n:Nat}{T:TypeId}{v:Value}{xs:List Value}(h:W.ownsRow base T size v n xs)(hk:Keep S W W')(h1:∀k,base<=k->S k):W'.ownsRow base T size v n xs:=by
 refine⟨h.1,?_⟩
 rcases h.2 with hn|⟨g,cap,cur,rfl,hbg,hgg,rest⟩
 ·exact .inl hn
 ·exact .inr ⟨g,cap,cur,rfl,hbg,(hk.block g (yAB.1 hgg).1 (h1 g hbg)).trans hgg,rest⟩
theorem zBJ{W W':World}{base size n:Nat}{T:TypeId}{v:Value}{xs:List Value}(h:W.ownsRow base T size v n xs)(hb:Below W.heap.size W W'):W'.ownsRow base T size v n xs:=
 own_keep (S:=fun _=>True) h (Keep.of_below hb) (fun _ _=>trivial)
theorem OwnT.info{w:World}{base top g0 n cap:Nat}{M:List (List Int)}(h:OwnT w base top (.slice (some ⟨g0,0,none⟩) n cap) M)(hn:M.length=n):base<=g0∧g0<top∧g0<w.heap.size∧n<=cap∧cap<=maxLen∧(∀j,w.frozen? ⟨g0,j,none⟩=false)∧∃c f,w.heap[g0]? =some (.cells c 24 f):=by
 subst hn
 obtain⟨g,vs,ho,ht,hin,he⟩:=h
 rcases ho.2 with⟨hc,h0⟩|⟨g1,cap1,cur,e,hbg,hgg,hnc,hcm,hsz,htk⟩
 ·cases hc
 ·cases e
  exact⟨hbg,ht g0 rfl,(yAB.1 hgg).1,hnc,hcm,fun j=>by simp[World.frozen?,hgg],cur,_,hgg⟩
theorem OwnT.rowsAt{w:World}{base top g0 n cap:Nat}{M:List (List Int)}(h:OwnT w base top (.slice (some ⟨g0,0,none⟩) n cap) M)(hn:M.length=n)(hl:∀r∈M,r.length<=maxLen):zAM w (some ⟨g0,0,none⟩) M:=by
 subst hn
 intro j hj
 obtain⟨g0',cap',gi,c,e,hlt,_,_,hc,_,_,_,_,hr,_⟩:=h.at j hj
 cases e
 exact⟨g0,0,some ⟨gi,0,none⟩,_,c,rfl,hlt,by rw[yAW];exact hc,rfl,hl _ (yAH hj),hr.ints⟩
theorem OwnT.row{w:World}{base top g0 n cap:Nat}{M:List (List Int)}(h:OwnT w base top (.slice (some ⟨g0,0,none⟩) n cap) M)(hn:M.length=n)(i:Nat)(hi:i<M.length):
 ∃gi c,w.cell? ⟨g0,i,none⟩=some (.slice (some ⟨gi,0,none⟩) M[i].length c)∧base<=gi∧gi<top∧g0≠gi∧zBD w gi M[i]∧
  ∀w' r',r'.length=M[i].length->zBD w' gi r'->(∀k,base<=k->k<top->k<w.heap.size->k≠gi->w'.heap[k]? =w.heap[k]?)->OwnT w' base top (.slice (some ⟨g0,0,none⟩) n cap) (M.set i r'):=by
 subst hn
 obtain⟨g0',cap',gi,c,e,_,_,_,hc,_,h1,h2,h3,h4,_,_,h5⟩:=h.at i hi
 cases e
 exact⟨gi,c,hc,h1,h2,h3,h4,h5⟩
theorem OwnT.ne{w:World}{base top g0 n cap:Nat}{M:List (List Int)}(h:OwnT w base top (.slice (some ⟨g0,0,none⟩) n cap) M)(hn:M.length=n){i j:Nat}(hi:i<M.length)(hj:j<M.length)(hne:i≠j){gi gj ni nj ci cj:Nat}
 (h1:w.cell? ⟨g0,i,none⟩=some (.slice (some ⟨gi,0,none⟩) ni ci))(h2:w.cell? ⟨g0,j,none⟩=some (.slice (some ⟨gj,0,none⟩) nj cj)):gi≠gj:=by
 subst hn
 obtain⟨g,vs,ho,ht,hin,he⟩:=h
 have hcell:∀k,k<M.length->w.cell? ⟨g0,k,none⟩=vs[k]? :=fun k hk=>by
  have:=World.ownsRow.cellAt (w:=w) (base:=base) (e:=24) (size:=1) (g:=g0) (n:=M.length) (cap:=cap) (xs:=vs) ho k (by omega)
  exact this
 obtain⟨⟨c,k1⟩,_⟩:=he i hi
 obtain⟨⟨c',k2⟩,_⟩:=he j hj
 rw[hcell i hi,k1]at h1
 rw[hcell j hj,k2]at h2
 cases h1;cases h2
 exact fun e=>hne (hin i j hi hj e)
end
section
open Go.RowKit
def BndL(B:Nat)(l:List Int):Prop:=∀x∈l,-(B:Int)<=x∧x<=B
theorem BndL.get{B:Nat}{l:List Int}(h:BndL B l){k:Nat}(hk:k<l.length): -(B:Int)<=l[k]?.getD 0∧l[k]?.getD 0<=B:=by
 rw[yAA hk];exact h _ (yAH hk)
theorem gcdL_le{B:Nat}{l:List Int}(h:BndL B l):gcdL l<=B:=by
 by_cases h0:gcdL l=0
 ·omega
 ·obtain⟨x,hx,hx0⟩:∃x∈l,x≠0:=Classical.byContradiction fun hn=>h0 (by
   have hz:∀x∈l,(0:Int)∣x:=fun x hx=>by
    have:x=0:=Classical.byContradiction fun c=>hn ⟨x,hx,c⟩
    rw[this];exact yFI _
   exact Int.zero_dvd.1 (zRK hz))
  have h1:=zJR hx
  have h2:=h x hx
  have h3:gcdL l∣((x.natAbs:Nat):Int):=Int.dvd_natAbs.2 h1
  have:=yFV (by omega) h3
  omega
theorem gcdL_take{l:List Int}{k:Nat}(hk:k<l.length):gcdL (l.take (k+1))=(Int.gcd (gcdL (l.take k)) (l[k]?.getD 0):Nat):=by
 rw[yAI hk,yAA hk]
 unfold gcdL
 rw[yCO];rfl
theorem BndL.take{B:Nat}{l:List Int}(h:BndL B l)(k:Nat):BndL B (l.take k):=fun x hx=>h x (yEP hx)
def zJQ(f:Int->Int)(l:List Int)(k:Nat):List Int:=(l.take k).map f++l.drop k
theorem zKW(f:Int->Int)(l:List Int):zJQ f l 0=l:=by simp[zJQ]
theorem zOA(f:Int->Int)(l:List Int):zJQ f l l.length=l.map f:=by simp[zJQ]
theorem zGG(f:Int->Int)(l:List Int)(k:Nat):(zJQ f l k).length=l.length:=by
 unfold zJQ;simp;omega
theorem zRH(f:Int->Int){l:List Int}{k:Nat}(hk:k<l.length):(zJQ f l k)[k]?.getD 0=l[k]?.getD 0:=by
 unfold zJQ
 rw[yAQ (by simp;omega)]
 simp only[yAS,yAU,List.getElem?_drop]
 congr 2;omega
theorem zNZ(f:Int->Int){l:List Int}{k:Nat}(hk:k<l.length):(zJQ f l k).set k (f (l[k]?.getD 0))=zJQ f l (k+1):=by
 unfold zJQ
 have hl:((l.take k).map f).length=k:=by simp;omega
 rw[yCZ _ _ (by omega),hl,yCF,yBD hk,yAI hk,yAA hk,yCA,yBF]
 simp
theorem zFQ{x g B:Int}(hg:1<=g)(h: -B<=x∧x<=B): -B<=x.tdiv g∧x.tdiv g<=B:=by
 have h1:(x.tdiv g).natAbs<=x.natAbs:=by rw[yGX];exact Nat.div_le_self _ _
 omega
theorem zIS(w:World)(b n cap:Nat)(l:List Int)(hn:l.length=n)(hm:n<=maxLen)(H:zBD w b l)(hB:BndL 4611686018427387904 l):
 Calls Tryz.prog 223 #[.slice (some ⟨b,0,none⟩) n cap] w fun e w'=>e=.returned (.tuple #[])∧zBD w' b (zBI l)∧Keep (fun k=>k≠b) w w':=by
 have HN:=hid hn
 have HH:=hid H
 have HBL:=hid hB
 have HGT:=hid (fun(k:Nat) (hk:k<l.length)=>gcdL_take hk)
 have HG0:=hid (fun k=>zGS (l.take k))
 have HGL:=hid (fun k=>gcdL_le (hB.take k))
 clear hn H hB
 unfold maxLen at hm
 go_enter Tryz.func223,Tryz.ntmps223
 go_wp2
 go_loopw [2,8] (fun g i wr=>∃k:Nat,k<=n∧i=.int .i64 k∧g=.int .i64 (gcdL (l.take k))∧∃q,wr=w.drewN q) (fun _ i _=>n-(intOf i).toNat)
 case atStart=>exact⟨0,yAK _,rfl,rfl,0,rfl⟩
 case round=>
  obtain⟨k,hk,rfl,rfl,q,rfl⟩:=hrel
  by_cases hlt:k<n
  ·have hkl:k<l.length:=by rw[HN.out];exact hlt
   have hc:=HH.out.cell hkl
   have hbd:=HBL.out.get hkl
   have hg1:=HG0.out k
   have hg2:=HGL.out k
   have HE:=hid (HGT.out k hkl)
   obtain⟨x,hx⟩:=exq (l[k]?.getD 0)
   obtain⟨g,hg⟩:=exq (gcdL (l.take k))
   rw[<- hx]at hc hbd HE
   rw[<- hg]at hg1 hg2 HE⊢
   have HD:=hid (zGH (w.drewN q) g x (by omega) (by omega))
   clear hx hg hbd hg1 hg2 hkl
   go_wp2_with (go_at_call 206;refine HD.out.mono ?_;rintro e w1 ⟨rfl,q1,rfl⟩)
   exact⟨⟨k+1,by omega,by go_num,by rw[HE.out],q+q1,rfl⟩,by simp[intOf];omega⟩
  ·obtain rfl:k=n:=by omega
   have e:l.take k=l:=yAL (by rw[HN.out];exact yAC _)
   rw[e]
   have hg1:=zGS l
   have hg2:=gcdL_le HBL.out
   obtain⟨g,hg⟩:=exq (gcdL l)
   rw[<- hg]at hg1 hg2⊢
   have HR:=hid (show zBD (w.drewN q) b l from HH.out)
   have HK0:=hid (show Keep (fun k=>k≠b) w (w.drewN q)from(Keep.refl _ _).drewN q)
   have HGE:=hid hg
   clear e hg HG0 HGL HGT
   generalize w.drewN q=w1 at HR HK0⊢
   by_cases h1:1<g
   ·go_wp2
    go_loopw [18] (fun i wr=>∃t:Nat,t<=k∧i=.int .i64 t∧zBD wr b (zJQ (fun x=>x.tdiv g) l t)∧Keep (fun k=>k≠b) w1 wr) (fun i _=>k-(intOf i).toNat)
    case atStart=>exact⟨0,yAK _,rfl,by rw[zKW];exact HR.out,Keep.refl _ _⟩
    case round=>
     obtain⟨t,ht,rfl,hr,hkp⟩:=hrel
     by_cases hlt2:t<k
     ·have htl:t<l.length:=by rw[HN.out];exact hlt2
      have hc:=hr.cell (j:=t) (by rw[zGG];exact htl)
      rw[zRH _ htl]at hc
      have hz:=hr.frozen t
      have hbd:=HBL.out.get htl
      have hst:=zNZ (fun x=>x.tdiv g) htl
      have HSET:=hid (fun v=>hr.set t (by rw[zGG];exact htl) v)
      have hlt3:=hr.lt
      obtain⟨x,hx⟩:=exq (l[t]?.getD 0)
      rw[<- hx]at hc hbd hst
      have htd:=zFQ (show 1<=g by omega) hbd
      have HST:=hid hst
      have HW:=hid (show IntKind.i64.wrap (x.tdiv g)=x.tdiv g from IntWalk.i64_in _ (by omega))
      have HKP:=hid hkp
      clear hx hst hr hkp htl
      go_wp2
      exact⟨⟨t+1,by omega,by go_num,by rw[<- HST.out];exact HSET.out _,HKP.out.trans (Keep.set wr b t _)⟩,by simp[intOf];omega⟩
     ·obtain rfl:t=k:=by omega
      go_wp2
      go_end0
      refine⟨rfl,?_,HK0.out.trans hkp⟩
      rw[<- HN.out,zOA]at hr
      unfold zBI
      rw[<- HGE.out,if_pos h1];exact hr
   ·go_wp2
    go_loopw [18] (fun i wr=>∃t:Nat,t<=k∧i=.int .i64 t∧zBD wr b l∧Keep (fun k=>k≠b) w1 wr) (fun i _=>k-(intOf i).toNat)
    case atStart=>exact⟨0,yAK _,rfl,HR.out,Keep.refl _ _⟩
    case round=>
     obtain⟨t,ht,rfl,hr,hkp⟩:=hrel
     by_cases hlt2:t<k
     ·go_wp2
      exact⟨⟨t+1,by omega,by go_num,hr,hkp⟩,by simp[intOf];omega⟩
     ·obtain rfl:t=k:=by omega
      go_wp2
      go_end0
      refine⟨rfl,?_,HK0.out.trans hkp⟩
      unfold zBI
      rw[<- HGE.out,if_neg (by omega)];exact hr
def mixF(f:Int->Int->Int)(l m:List Int)(k:Nat):List Int:=(List.zipWith f l m).take k++l.drop k
theorem mixF_zero(f:Int->Int->Int)(l m:List Int):mixF f l m 0=l:=by simp[mixF]
theorem mixF_len(f:Int->Int->Int){l m:List Int}(h:l.length=m.length)(k:Nat):(mixF f l m k).length=l.length:=by
 unfold mixF;simp;omega
theorem mixF_all(f:Int->Int->Int){l m:List Int}(h:l.length=m.length):mixF f l m l.length=List.zipWith f l m:=by
 unfold mixF
 rw[yAL (by simp;omega)];simp
theorem mixF_at(f:Int->Int->Int){l m:List Int}(h:l.length=m.length){k:Nat}(hk:k<l.length):(mixF f l m k)[k]?.getD 0=l[k]?.getD 0:=by
 unfold mixF
 rw[yAQ (by simp;omega)]
 simp only[yAU,List.length_zipWith,List.getElem?_drop]
 congr 2;omega
theorem mixF_set(f:Int->Int->Int){l m:List Int}(h:l.length=m.length){k:Nat}(hk:k<l.length):(mixF f l m k).set k (f (l[k]?.getD 0) (m[k]?.getD 0))=mixF f l m (k+1):=by
 unfold mixF
 have hl:((List.zipWith f l m).take k).length=k:=by simp;omega
 rw[yCZ _ _ (by omega),hl,yCF,yBD hk,yAI (by simp;omega),yAA hk,yAA (by omega),yCA,yGB]
 simp
theorem zGP{a b A B:Int}(h1: -A<=a∧a<=A)(h2: -B<=b∧b<=B): -(A*B)<=a*b∧a*b<=A*B:=zLE h1 h2
theorem cleared_c(w:World)(b n cap b2 cap2:Nat)(l m:List Int)(hn:l.length=n)(hn2:m.length=n)(hm:n<=maxLen)(H:zBD w b l)(H2:zBD w b2 m)(hne:b≠b2)(hB:BndL 1073741824 l)(hB2:BndL 1073741824 m)(j:Nat)(hj:j<n)(h0:vec m j≠0):
 Calls Tryz.prog 230 #[.slice (some ⟨b,0,none⟩) n cap,.slice (some ⟨b2,0,none⟩) n cap2,.int .i64 j] w fun e w'=>e=.returned (.tuple #[])∧zBD w' b (zGW l m j)∧Keep (fun k=>k≠b) w w':=by
 have hlm:l.length=m.length:=by omega
 have c1:=H.cell (j:=j) (by omega)
 have c2:=H2.cell (j:=j) (by omega)
 have hb1:=hB.get (k:=j) (by omega)
 have hb2:=hB2.get (k:=j) (by omega)
 obtain⟨x,hx⟩:=exq (l[j]?.getD 0)
 obtain⟨y,hy⟩:=exq (m[j]?.getD 0)
 have hy0:y≠0:=by rw[hy];exact h0
 rw[<- hx]at c1 hb1
 rw[<- hy]at c2 hb2
 have HX:=hid (show vec l j=x from hx.symm)
 have HY:=hid (show vec m j=y from hy.symm)
 have HD:=hid (fun(W:World)=>zGH W x y (by omega) (by omega))
 obtain⟨g,hg⟩:∃g:Int,g=(Int.gcd x y:Nat):=⟨_,rfl⟩
 have hg0:0<g:=by
  rw[hg]
  have:0<Int.gcd x y:=Int.gcd_pos_of_ne_zero_right _ hy0
  omega
 rw[<- hg]at HD
 have HG:=hid hg
 have HLM:=hid hlm
 have HN:=hid hn
 have HH:=hid H
 have HH2:=hid H2
 have HBL:=hid hB
 have HBL2:=hid hB2
 have HNE:=hid hne
 have hj1:(0:Int)<=(j:Int):=by omega
 have hj2:(j:Int)<(n:Int):=by omega
 clear hx hy hg hn hn2 H H2 hB hB2 h0 hy0 hlm hne
 unfold maxLen at hm
 go_enter Tryz.func230,Tryz.ntmps230
 go_wp2
 go_quiet (fail)
 go_wp2_with (go_at_call 206;refine(HD.out _).mono ?_;rintro e w1 ⟨rfl,q1,rfl⟩)
 have HR:=hid (show zBD (w.drewN (nq+q1)) b l from HH.out)
 have HR2:=hid (show zBD (w.drewN (nq+q1)) b2 m from HH2.out)
 have HK0:=hid (show Keep (fun k=>k≠b) w (w.drewN (nq+q1))from(Keep.refl _ _).drewN _)
 generalize w.drewN (nq+q1)=w1 at HR HR2 HK0⊢
 clear HH HH2 HD c1 c2 hj1 hj2
 have ht1:=zFQ (show 1<=g by omega) hb1
 have ht2:=zFQ (show 1<=g by omega) hb2
 obtain⟨F,hF⟩:∃F:Int->Int->Int,F=fun u v=>u*y.tdiv g-v*x.tdiv g:=⟨_,rfl⟩
 have HF:=hid hF
 have wx:IntKind.i64.wrap (x.tdiv g)=x.tdiv g:=IntWalk.i64_in _ (by omega)
 have wy:IntKind.i64.wrap (y.tdiv g)=y.tdiv g:=IntWalk.i64_in _ (by omega)
 have HB1:=hid ht1
 have HB2:=hid ht2
 clear hF ht1 ht2 hb1 hb2
 go_wp2
 go_loopw [23] (fun i wr=>∃t:Nat,t<=n∧i=.int .i64 t∧zBD wr b (mixF F l m t)∧Keep (fun k=>k≠b) w1 wr) (fun i _=>n-(intOf i).toNat)
 case atStart=>exact⟨0,yAK _,rfl,by rw[mixF_zero];exact HR.out,Keep.refl _ _⟩
 case round=>
  obtain⟨t,ht,rfl,hr,hkp⟩:=hrel
  by_cases hlt:t<n
  ·have htl:t<l.length:=by rw[HN.out];exact hlt
   have htm:t<m.length:=by rw[<- HLM.out];exact htl
   have c1:=hr.cell (j:=t) (by rw[mixF_len _ HLM.out];exact htl)
   rw[mixF_at _ HLM.out htl]at c1
   have hr2:zBD wr b2 m:=HR2.out.keep (hkp.block b2 HR2.out.lt (Ne.symm HNE.out))
   have c2:=hr2.cell htm
   have hz:=hr.frozen t
   have hb1:=HBL.out.get htl
   have hb2:=HBL2.out.get htm
   have hst:=mixF_set F HLM.out htl
   have HSET:=hid (fun(W:World) (hW:W.heap[b]? =wr.heap[b]?) v=>(hr.keep hW).set t (by rw[mixF_len _ HLM.out];exact htl) v)
   have hlt3:=hr.lt
   obtain⟨u,hu⟩:=exq (l[t]?.getD 0)
   obtain⟨v,hv⟩:=exq (m[t]?.getD 0)
   rw[<- hu]at c1 hb1 hst
   rw[<- hv]at c2 hb2 hst
   have p1:=zGP hb1 HB2.out
   have p2:=zGP hb2 HB1.out
   have w1':IntKind.i64.wrap (u*y.tdiv g)=u*y.tdiv g:=IntWalk.i64_in _ (by omega)
   have w2':IntKind.i64.wrap (v*x.tdiv g)=v*x.tdiv g:=IntWalk.i64_in _ (by omega)
   have w3':IntKind.i64.wrap (u*y.tdiv g-v*x.tdiv g)=u*y.tdiv g-v*x.tdiv g:=IntWalk.i64_in _ (by omega)
   have HST:=hid (show(mixF F l m t).set t (u*y.tdiv g-v*x.tdiv g)=mixF F l m (t+1)by rw[<- hst,HF.out])
   have HKP:=hid hkp
   have ht1:(0:Int)<=(t:Int):=by omega
   have ht2:(t:Int)<(n:Int):=by omega
   clear hu hv hst hr hr2 hkp htl htm hb1 hb2 p1 p2
   go_wp2
   have hgz:¬(g=0):=by omega
   go_still_tail 20,(by kernel_rfl)
   change wpList _ _ _ _ _ wr.drew
   go_wp2
   refine⟨⟨t+1,by omega,by go_num,?_,(HKP.out.drewN 1).trans (Keep.set wr.drew b t _)⟩,by simp[intOf];omega⟩
   rw[<- HST.out]
   exact HSET.out wr.drew rfl _
  ·obtain rfl:t=n:=by omega
   rw[<- HN.out,mixF_all _ HLM.out]at hr
   have hzl:(List.zipWith F l m).length=t:=by simp;have:=HLM.out;have:=HN.out;omega
   have hbz:BndL 4611686018427387904 (List.zipWith F l m):=by
    intro z hz
    obtain⟨i,hi,rfl⟩:=yAM.1 hz
    have hil:i<l.length:=by have:=HN.out;omega
    have him:i<m.length:=by have:=HLM.out;omega
    have hb1:=HBL.out _ (yAH hil)
    have hb2:=HBL2.out _ (yAH him)
    have hFe:F l[i] m[i]=l[i]*y.tdiv g-m[i]*x.tdiv g:=by have:=HF.out;rw[this]
    have p1:=zGP hb1 HB2.out
    have p2:=zGP hb2 HB1.out
    rw[yGB,hFe]
    omega
   have HS:=hid (zIS wr b t cap (List.zipWith F l m) hzl (by unfold maxLen;omega) hr hbz)
   have HKP:=hid hkp
   clear hr hzl hbz hkp
   go_wp2_with (go_at_call 223;refine HS.out.mono ?_;rintro e w3 ⟨rfl,hs3,hk3⟩)
   go_end0
   refine⟨rfl,?_,(HK0.out.trans HKP.out).trans hk3⟩
   have e:zGW l m j=zBI (List.zipWith F l m):=by
    unfold zGW
    simp only[]
    rw[HX.out,HY.out,<- HG.out,<- HF.out]
   rw[e];exact hs3
end
section
open Go.RowKit
def wAll(_:Nat):Bool:=true
theorem AnyT.takeD{P:Program}{md:Region.Mode}{ops:Array Oper}{Q:Exit->Act->World->Prop}{S:World->Prop}{i d:Nat}{oi:Oper}{v:Value}{fuel:Nat}{listed:Array Bool}{a:Act}{w:World}{Wf:Nat->Bool}(hi:ops[i]? =some oi)(hd:oi.dst=some d)
 (hs:Region.noSelect ops=true)(hf:Region.free md ops listed i=true)(hr:(Region.ready md ops listed).contains i=true)
 (hQ:∀c a w,Q (.panic c) (a.put (some d) v) w->Q (.panic c) a w)
 (hW:(List.range ops.size).all (fun j=>waits md ops i j||Wf j)=true)(hw:Region.wanted oi (yielded ops a.tmps)=true)(hy:∀w,S w->(execOp a.eval oi).run P w=.ok (.value v) w)(hS:S w)
 (h:AnyT P md ops Q (fun j w=>Wf j=true->S w) fuel (listed.setIfInBounds i true) (a.put (some d) v) w):AnyT P md ops Q (fun j w=>Wf j=true->S w) (fuel+1) listed a w:=
 AnyT.takeW hi hs hf hr (by rw[hd];exact hQ) hW hw hy hS (by rw[hd];exact h)
theorem AnyT.tD{P:Program}{md:Region.Mode}{ops:Array Oper}{Q:Exit->Act->World->Prop}{S:World->Prop}{i d:Nat}{oi:Oper}{v:Value}{fuel:Nat}{listed:Array Bool}{a:Act}{w:World}{Wf:Nat->Bool}(hi:ops[i]? =some oi)(hd:oi.dst=some d)(hy:∀w,S w->(execOp a.eval oi).run P w=.ok (.value v) w)(hS:S w)
 (h:AnyT P md ops Q (fun j w=>Wf j=true->S w) fuel (listed.setIfInBounds i true) (a.put (some d) v) w)
 (hs:Region.noSelect ops=true:=by kernel_rfl)(hf:Region.free md ops listed i=true:=by kernel_rfl)(hr:(Region.ready md ops listed).contains i=true:=by kernel_rfl)(hQ:∀c a w,Q (.panic c) (a.put (some d) v) w->Q (.panic c) a w:=by first|exact(fun _ _ _ h=>h)|exact(fun _ _ _ h=>absurd h.1 (by simp)))(hW:(List.range ops.size).all (fun j=>waits md ops i j||Wf j)=true:=by kernel_rfl)(hw:Region.wanted oi (yielded ops a.tmps)=true:=by rfl):AnyT P md ops Q (fun j w=>Wf j=true->S w) (fuel+1) listed a w:=
 AnyT.takeD hi hd hs hf hr hQ hW hw hy hS h
end
section
open Go.RowKit
section
variable {P:Program} {md:Region.Mode} {ops:Array Oper} {Q:Exit->Act->World->Prop} {S:World->Prop} {T:Nat->World->Prop}
theorem AnyT.firstU{i:Nat}{oi:Oper}{v:Value}(U:Nat->Prop)(hi:ops[i]? =some oi)(hsel:∀(j:Nat) (o:Oper) cs b,ops[j]? =some o->o.op≠.select cs b)
 (hQ:∀c a w,Q (.panic c) (a.put oi.dst v) w->Q (.panic c) a w)
 (hT:∀(j:Nat) oj,U j->ops[j]? =some oj->(∀e∈oj.after,Region.binds md e=true->e.on≠i)->∀w,T j w->S w)(hTi:∀w,S w->T i w):
 ∀(fuel:Nat) (listed:Array Bool) (a:Act) (w:World),(∀j,listed.getD j true=false->U j)->
  (∀j oj,ops[j]? =some oj->j≠i->listed.getD j true=false->(∀e∈oj.after,Region.binds md e=true->e.on≠i)->oi.apart ops oj=true)->
  i∈Region.ready md ops listed->YieldsIf P ops S oi v a->S w->
  AnyT P md ops Q T fuel (listed.setIfInBounds i true) (a.put oi.dst v) w->AnyT P md ops Q T (fuel+1) listed a w:=by
 intro fuel
 induction fuel with
 |zero=>
  intro listed a w _ _ hr hy hS H
  refine⟨fun h=>(by rw[h]at hr;cases hr),fun j hj=>?_⟩
  by_cases e:j=i
  ·subst e;exact hy.wpOp hi hS ⟨hTi w hS,H⟩
  ·have h0:=ready_mono hj e
   rw[H.1]at h0;cases h0
 |succ fuel ih=>
  intro listed a w hU hfree hr hy hS H
  refine⟨fun h=>(by rw[h]at hr;cases hr),fun j hj=>?_⟩
  by_cases e:j=i
  ·subst e;exact hy.wpOp hi hS ⟨hTi w hS,H⟩
  ·obtain⟨hun,oj,hoj,hall⟩:=mem_ready.1 hj
   have hnot:∀x∈oj.after,Region.binds md x=true->x.on≠i:=by
    intro x hx hb heq
    have h1:=hall x hx hb
    have h0:=(mem_ready.1 hr).1
    rw[heq]at h1
    rcases yAP i listed.size with hlt|hge
    ·simp[hlt]at h0 h1;rw[h0]at h1;cases h1
    ·simp[yCW hge]at h1
   refine wpOp_mono (fun a' w' h3=>?_) (wpOp_putIf hoj (hfree j oj hoj e hun hnot) (fun cs b=>hsel i oi cs b hi) (fun cs b=>hsel j oj cs b hoj) hQ hy (H.2 j (ready_mono hj e)))
   have hS':=hT j oj (hU j hun) hoj hnot w' h3.2.1
   refine⟨h3.2.1,ih (listed.setIfInBounds j true) a' w' ?_ ?_ (ready_mono hr (fun h=>e h.symm)) h3.1 hS' ?_⟩
   ·intro k hk
    refine hU k ?_
    by_cases hjk:j=k
    ·subst hjk;exact hun
    ·rwa [getD_set_ne true hjk]at hk
   ·intro k ok hk hki hkun hno
    refine hfree k ok hk hki ?_ hno
    by_cases hjk:j=k
    ·subst hjk;exact hun
    ·rwa [getD_set_ne true hjk]at hkun
   ·rw[Array.setIfInBounds_comm _ _ e];exact h3.2.2
theorem AnyT.takeS{i d:Nat}{oi:Oper}{v:Value}{fuel:Nat}{listed:Array Bool}{a:Act}{w:World}{Wf:Nat->Bool}(hi:ops[i]? =some oi)(hd:oi.dst=some d)
 (hs:Region.noSelect ops=true)(hf:Region.free md ops listed i=true)(hr:(Region.ready md ops listed).contains i=true)
 (hQ:∀c a w,Q (.panic c) (a.put (some d) v) w->Q (.panic c) a w)
 (hW:(List.range ops.size).all (fun j=>listed.getD j true||waits md ops i j||Wf j)=true)(hw:Region.wanted oi (yielded ops a.tmps)=true)(hy:∀w,S w->(execOp a.eval oi).run P w=.ok (.value v) w)(hS:S w)
 (h:AnyT P md ops Q (fun j w=>Wf j=true->S w) fuel (listed.setIfInBounds i true) (a.put (some d) v) w):AnyT P md ops Q (fun j w=>Wf j=true->S w) (fuel+1) listed a w:=
 AnyT.firstU (fun j=>listed.getD j true=false) hi (Region.noSelect_spec hs) (by rw[hd];exact hQ) (fun j oj hun hj hno w hT=>hT (by
  have hlt:j<ops.size:=(yAB.1 hj).1
  have h1:=yAT.1 hW j (yCH.2 hlt)
  rw[hun]at h1
  have h2:waits md ops i j=false:=by
   unfold waits;rw[hj]
   simp only[Array.any_eq_false]
   intro k hk
   have:=hno oj.after[k] (Array.getElem_mem hk)
   cases hb:Region.binds md oj.after[k]<;>simp[hb]at this⊢
   exact this
  rw[h2]at h1;simpa using h1)) (fun w hS _=>hS) fuel listed a w (fun _ h=>h) (Region.free_spec hi hf) (by simpa using hr) (.inl ⟨hw,hy⟩) hS (by rw[hd];exact h)
theorem AnyT.takeP{i d:Nat}{oi:Oper}{v:Value}{fuel:Nat}{listed:Array Bool}{a:Act}{w:World}{Wf:Nat->Bool}{S':World->Prop}(hi:ops[i]? =some oi)(hd:oi.dst=some d)(hWi:Wf i=false)
 (hs:Region.noSelect ops=true)(hf:Region.free md ops listed i=true)(hr:(Region.ready md ops listed).contains i=true)
 (hQ:∀c a w,Q (.panic c) (a.put (some d) v) w->Q (.panic c) a w)
 (hw:Region.wanted oi (yielded ops a.tmps)=true)(hy:∀w,(execOp a.eval oi).run P w=.ok (.value v) w)
 (h:AnyT P md ops Q (fun j w=>Wf j=true->S' w) fuel (listed.setIfInBounds i true) (a.put (some d) v) w):AnyT P md ops Q (fun j w=>Wf j=true->S' w) (fuel+1) listed a w:=
 AnyT.firstU (S:=fun _=>True) (fun _=>True) hi (Region.noSelect_spec hs) (by rw[hd];exact hQ) (fun _ _ _ _ _ _ _=>trivial) (fun w _ h=>by rw[hWi]at h;cases h) fuel listed a w (fun _ _=>trivial)
  (Region.free_spec hi hf) (by simpa using hr) (.inl ⟨hw,fun w _=>hy w⟩) trivial (by rw[hd];exact h)
end
def w2(x y j:Nat):Bool:=decide (j=x)||decide (j=y)
end
end Go.Proofs.YtlffndehhhpgjaaGreat

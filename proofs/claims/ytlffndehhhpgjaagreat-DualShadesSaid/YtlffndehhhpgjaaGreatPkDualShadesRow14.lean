/- Walks and plain laws for DualShadesRow, part 14. -/
import Derived.Test.YtlffndehhhpgjaaGreatPkDualShadesRow13
namespace Go.Proofs.YtlffndehhhpgjaaGreat
set_option linter.unusedVariables false
set_option linter.unusedSimpArgs false
set_option maxRecDepth 100000
set_option maxHeartbeats 4000000
section
open Go.RowKit
theorem sh_no1{M:Mask}{y z:List Int}(h:rdE M y≠0):zBZ M y z=false:=by unfold zBZ;rw[decide_eq_false h];rfl
theorem sh_no2{M:Mask}{y z:List Int}(h:z.length≠M.length):zBZ M y z=false:=by unfold zBZ;rw[decide_eq_false h];simp
theorem sh_no3{M:Mask}{y z:List Int}(h:milB z=false):zBZ M y z=false:=by unfold zBZ;rw[h];simp
theorem sh_no4{M:Mask}{y z:List Int}(h:posB (zEQ M (zAB M) z)=false):zBZ M y z=false:=by unfold zBZ;rw[h];simp
theorem sh_rest{M:Mask}{y z:List Int}(h1:rdE M y=0)(h2:z.length=M.length)(h3:milB z=true)(h4:posB (zEQ M (zAB M) z)=true):zBZ M y z=decide (dotV z y<0):=by unfold zBZ;rw[decide_eq_true h1,decide_eq_true h2,h3,h4];rfl
theorem any_neg(h:List Int):h.any (fun n=>decide (n<0))=!posB h:=by
 unfold posB;rw[List.not_all_eq_any_not]
 congr 1
 funext n
 rw[Bool.eq_iff_iff];simp
theorem shd1(w:World):zKW Tryz.prog 170 #[] w (fun n=>decide (n<0)):=by
 intro x W hb
 by_cases h:x<0
 ·go_enter Tryz.func170,Tryz.ntmps170
  go_wp2
  go_ret
  exact⟨zAN (by simp[h]),Below.refl _ _⟩
 ·go_enter Tryz.func170,Tryz.ntmps170
  go_wp2
  go_ret
  exact⟨zAN (by simp[h]),Below.refl _ _⟩
theorem qshades_c(w:World)(a a2 a3:Option Addr)(n cap n2 cap2 cap3:Nat)(M:Mask)(y z:List Int)(hn:M.length=n)(hn2:y.length=n2)(hn3:z.length=n)(H:zAJ w a M)(H2:zAE w a2 y)(H3:zAE w a3 z)(h0:rdE M y=0)(hz:milB z=true):
 Calls Tryz.prog 112 #[.agg #[.slice a n cap,.slice a2 n2 cap2],.slice a3 n cap3] w fun e w'=>e=.returned (.bool (zBZ M y z))∧Below w.heap.size w w':=by
 obtain⟨hok,hyl,hmil⟩:=rd_ok h0
 obtain⟨_,_,h6,_,h10⟩:=zCY hok
 obtain⟨wz,hwz⟩:=exq (w.alloc (.cells #[.slice a n cap,.slice a2 n2 cap2] 86))
 obtain⟨q,hq⟩:=exq (w.heap.size)
 have hbz:Below w.heap.size w wz:=by rw[hwz];exact(Below.refl _ _).alloc (Nat.le_refl _) _
 have hqz:wz.heap[q]? =some (.cells #[.slice a n cap,.slice a2 n2 cap2] 86 (0,0)):=by rw[hwz,hq];exact World.alloc_heap_new _ _
 have hql:q<wz.heap.size:=(Array.getElem?_eq_some_iff.1 hqz).1
 have HS:=hid (fun(Z:World) (hZ:Below wz.heap.size wz Z)=>show Z.cell? ⟨q,0,none⟩=some (.slice a n cap)∧Z.cell? ⟨q,1,none⟩=some (.slice a2 n2 cap2)from by
  have h1:=(hZ.block q hql).trans hqz
  exact⟨by simp[World.cell?,h1],by simp[World.cell?,h1]⟩)
 have HBK:=hid (mback_c wz a a3 n cap cap3 M z hn hn3 (H.below hbz) (H3.below hbz) hok hz)
 have HDT:=hid (fun(X:World) (hX:Below w.heap.size w X)=>pdot_c X a3 a2 n cap3 n2 cap2 z y hn3 hn2 (by omega) (by omega) (H3.below hX) (H2.below hX) (zHZ hz) (zHZ hmil))
 have HBL:=hid (zEP M (zAB M) z)
 have HN4:=hid (sh_no4 (M:=M) (y:=y) (z:=z))
 have HRS:=hid (sh_rest (M:=M) (y:=y) (z:=z) h0 (by omega) hz)
 obtain⟨B,hB⟩:=exq (zBZ M y z)
 rw[<- hB]at HN4 HRS⊢
 obtain⟨Bk,hBk⟩:=exq (zEQ M (zAB M) z)
 rw[<- hBk]at HN4 HRS HBL HBK
 obtain⟨W,hW⟩:=exq (zAB M)
 rw[<- hW]at HBK HBL
 obtain⟨c0,c1⟩:=HS.out wz (Below.refl _ _)
 have HBZ:=hid hbz
 have HWM:=hid (show W<=maxLen by unfold maxLen;omega)
 clear hn hn2 hn3 H H2 H3 hB hBk hW h0 hz hok hyl hmil h6 h10 hbz hqz hql c1
 go_enter Tryz.func112,Tryz.ntmps112
 go_upto_region 1 with fail
 rw[<- hq,<- hwz]
 clear hq hwz
 go_wp2_with (go_at_call 169;refine HBK.out.mono ?_;rintro e w1 ⟨v1,base1,rfl,ho1,hb1⟩;refine Stop.of ?_)
 refine Stop.go ?_
 obtain⟨ba,bc,rfl,hbi,hbm⟩:=zDE ho1 HBL.out
 have HB1:=hid hb1
 have HBI:=hid hbi
 clear c0 hb1 ho1 hbi hbm
 have HCF:=hid (zFO w1 ba W bc Bk HBL.out HWM.out HBI.out 170 #[] (fun n=>decide (n<0)) (enters_of Tryz.func170 (by kernel_rfl) rfl) (shd1 w1))
 rw[any_neg]at HCF
 obtain⟨nb,hnb⟩:=exq (!posB Bk)
 rw[<- hnb]at HCF
 have HNB:=hid hnb
 clear hnb
 go_wp2_with (go_at_call 105;refine HCF.out.mono ?_;rintro e w3 ⟨rfl,hb3⟩;refine Stop.of ?_)
 refine Stop.go ?_
 have HB3:=hid (zAA HB1.out hb3)
 clear hb3
 cases nb
 ·have hnt:posB Bk=true:=by have:=HNB.out;simpa using this.symm
  have HD3:=hid (HDT.out w3 (zAA HBZ.out HB3.out))
  have HRS3:=hid (HRS.out hnt)
  obtain⟨d,hd⟩:=exq (dotV z y)
  rw[<- hd]at HD3 HRS3
  obtain⟨c0,c1⟩:=HS.out w3 HB3.out
  clear hnt hd HDT HRS HNB c0
  go_wp2_with (go_at_call 171;refine HD3.out.mono ?_;rintro e w4 ⟨rfl,k4,rfl⟩;refine Stop.of ?_)
  refine Stop.go ?_
  have hfin:=zAA HBZ.out (zCG HB3.out k4)
  by_cases hd0:d<0
  ·go_wp2
   go_ret
   exact⟨by rw[HRS3.out];simp[hd0],hfin⟩
  ·go_wp2
   go_ret
   exact⟨by rw[HRS3.out];simp[hd0],hfin⟩
 ·have hnt:posB Bk=false:=by have:=HNB.out;simpa using this.symm
  have HNO:=hid (HN4.out hnt)
  clear hnt
  go_wp2
  go_ret
  exact⟨by rw[HNO.out];rfl,zAA HBZ.out HB3.out⟩
theorem dshades_c(w:World)(a a2 a3:Option Addr)(n cap n2 cap2 n3 cap3:Nat)(M:Mask)(y z:List Int)(hn:M.length=n)(hn2:y.length=n2)(hn3:z.length=n3)(hm:n<=maxLen)(hm2:n2<=maxLen)(hm3:n3<=maxLen)(H:zAJ w a M)(H2:zAE w a2 y)(H3:zAE w a3 z):
 Calls Tryz.prog 55 #[.slice a n cap,.slice a2 n2 cap2,.slice a3 n3 cap3] w fun e w'=>e=.returned (.bool (zBZ M y z))∧Below w.heap.size w w':=by
 have HCK:=hid (zGN w a a2 none n cap n2 cap2 0 0 M y [] hn hn2 rfl hm hm2 (by decide) H H2 (fun j hj=>by simp at hj))
 rw[<- zGU]at HCK
 obtain⟨B,hB⟩:=exq (zBZ M y z)
 rw[<- hB]
 by_cases h0:rdE M y=0
 rotate_left
 ·obtain rfl:B=false:=by rw[hB];exact sh_no1 h0
  have hne:(rdE M y==0)=false:=by simpa using h0
  obtain⟨R,hR⟩:=exq (rdE M y)
  rw[<- hR]at HCK hne
  clear hn hn2 hn3 H H2 H3 hB h0 hR
  go_enter Tryz.func55,Tryz.ntmps55
  go_wp2_with (go_at_call 101;refine HCK.out.mono ?_;rintro e w1 ⟨rfl,hb1⟩;refine Stop.of ?_)
  refine Stop.go ?_
  go_wp2
  go_ret
  exact⟨rfl,hb1⟩
 rw[h0]at HCK
 by_cases hl:n3=n
 rotate_left
 ·obtain rfl:B=false:=by rw[hB];exact sh_no2 (by omega)
  have hlb:((n3:Int)==(n:Int))=false:=by simp;omega
  clear hn hn2 hn3 H H2 H3 hB h0 hl
  go_enter Tryz.func55,Tryz.ntmps55
  go_wp2_with (go_at_call 101;refine HCK.out.mono ?_;rintro e w1 ⟨rfl,hb1⟩;refine Stop.of ?_)
  refine Stop.go ?_
  go_wp2
  go_ret
  exact⟨rfl,hb1⟩
 subst hl
 have HII:=hid (fun(X:World) (hX:Below w.heap.size w X)=>H3.below hX)
 have HQS:=hid (fun(hz:milB z=true) (X:World) (hX:Below w.heap.size w X)=>qshades_c X a a2 a3 n3 cap n2 cap2 cap3 M y z hn hn2 hn3 (H.below hX) (H2.below hX) (H3.below hX) h0 hz)
 rw[<- hB]at HQS
 have HN3:=hid (show milB z=false->B=false from fun h=>by rw[hB];exact sh_no3 h)
 have HNZ:=hid hn3
 obtain⟨mz,hmz⟩:=exq (milB z)
 rw[<- hmz]at HQS HN3
 have HMZ:=hid hmz
 clear hn hn2 hn3 H H2 H3 hB h0 hmz
 go_enter Tryz.func55,Tryz.ntmps55
 go_wp2_with (go_at_call 101;refine HCK.out.mono ?_;rintro e w1 ⟨rfl,hb1⟩;refine Stop.of ?_)
 refine Stop.go ?_
 have HB1:=hid hb1
 clear hb1
 go_wp2_with (go_at_call 106;refine(beyond_c _ 1000000).mono ?_;rintro e w2 ⟨q,rfl,hq,hqs,hb2⟩;refine Stop.of ?_)
 refine Stop.go ?_
 have HB2:=hid (zAA HB1.out hb2)
 have HCF:=hid (zFO w2 a3 n3 cap3 z HNZ.out hm3 (HII.out w2 HB2.out) 167 #[.pointer (some ⟨q,0,none⟩)] (fun n=>!(inB n (-1000000) 1000000)) (enters_of Tryz.func167 (by kernel_rfl) rfl) (beyond1 w2 q 1000000 (by decide) hq hqs))
 rw[any_mil,<- HMZ.out]at HCF
 clear hq hqs hb2
 cases mz
 ·obtain rfl:B=false:=HN3.out rfl
  go_wp2_with (go_at_call 105;refine HCF.out.mono ?_;rintro e w3 ⟨rfl,hb3⟩;refine Stop.of ?_)
  refine Stop.go ?_
  have HB3:=hid (zAA HB2.out hb3)
  clear hb3
  go_wp2
  go_ret
  exact⟨rfl,HB3.out⟩
 ·have HQ2:=hid (HQS.out rfl)
  go_wp2_with (go_at_call 105;refine HCF.out.mono ?_;rintro e w3 ⟨rfl,hb3⟩;refine Stop.of ?_)
  refine Stop.go ?_
  have HB3:=hid (zAA HB2.out hb3)
  clear hb3
  go_wp2_with (go_at_call 112;refine(HQ2.out w3 HB3.out).mono ?_;rintro e w4 ⟨rfl,hb4⟩;refine Stop.of ?_)
  refine Stop.go ?_
  have HB4:=hid (zAA HB3.out hb4)
  clear hb4
  go_wp2
  go_ret
  exact⟨rfl,HB4.out⟩
theorem r5shades_c(w:World)(a a2 a3:Option Addr)(n cap n2 cap2 n3 cap3:Nat)(M:Mask)(y z:List Int)(hn:M.length=n)(hn2:y.length=n2)(hn3:z.length=n3)(hm:n<=maxLen)(hm2:n2<=maxLen)(hm3:n3<=maxLen)(H:zAJ w a M)(H2:zAE w a2 y)(H3:zAE w a3 z):
 Calls Tryz.prog 56 #[.slice a n cap,.slice a2 n2 cap2,.slice a3 n3 cap3] w fun e w'=>e=.returned (.bool (zBZ M y z))∧Below w.heap.size w w':=by
 have HRD:=hid (r3Reading_c w a a2 n cap n2 cap2 M y hn hn2 hm hm2 H H2)
 obtain⟨B,hB⟩:=exq (zBZ M y z)
 rw[<- hB]
 by_cases h0:rdE M y=0
 rotate_left
 ·rw[decide_eq_false h0]at HRD
  obtain rfl:B=false:=by rw[hB];exact sh_no1 h0
  clear hn hn2 hn3 H H2 H3 hB h0
  go_enter Tryz.func56,Tryz.ntmps56
  go_wp2_with (go_at_call 17;refine HRD.out.mono ?_;rintro e w1 ⟨rfl,rfl⟩)
  go_ret
  exact⟨rfl,Below.refl _ _⟩
 rw[decide_eq_true h0]at HRD
 obtain⟨hok,hyl,hmil⟩:=rd_ok h0
 by_cases hl:n3=n
 rotate_left
 ·obtain rfl:B=false:=by rw[hB];exact sh_no2 (by omega)
  have hlb:((n3:Int) !=(n:Int))=true:=by simp;omega
  clear hn hn2 hn3 H H2 H3 hB h0 hok hyl hmil hl
  go_enter Tryz.func56,Tryz.ntmps56
  go_wp2_with (go_at_call 17;refine HRD.out.mono ?_;rintro e w1 ⟨rfl,rfl⟩)
  go_ret
  exact⟨rfl,Below.refl _ _⟩
 subst hl
 have hlb:((n3:Int) !=(n3:Int))=false:=by simp
 obtain⟨_,_,h6,_,h10⟩:=zCY hok
 have HBK:=hid (fun(hz:milB z=true)=>r2Back_c w a a3 n3 cap cap3 M z hn hn3 H H3 hok hz)
 have HDT:=hid (fun(hz:milB z=true) (X:World) (hX:Below w.heap.size w X)=>r2dot_c X a3 a2 n3 cap3 n2 cap2 z y hn3 hn2 (by omega) (by omega) (H3.below hX) (H2.below hX) (zHZ hz) (zHZ hmil))
 have HN3:=hid (show milB z=false->B=false from fun h=>by rw[hB];exact sh_no3 h)
 have HN4:=hid (show posB (zEQ M (zAB M) z)=false->B=false from fun h=>by rw[hB];exact sh_no4 h)
 have HRS:=hid (show milB z=true->posB (zEQ M (zAB M) z)=true->B=decide (dotV z y<0)from fun h1 h2=>by rw[hB];exact sh_rest h0 (by omega) h1 h2)
 have HBL:=hid (zEP M (zAB M) z)
 have HZ:=hid H3
 have HNZ:=hid hn3
 have HWI:=hid (fun(x:Int) (X:World)=>r5within_c x (-1000000) 1000000 X)
 obtain⟨Bk,hBk⟩:=exq (zEQ M (zAB M) z)
 rw[<- hBk]at HN4 HRS HBL HBK
 obtain⟨W,hW⟩:=exq (zAB M)
 rw[<- hW]at HBK HBL
 obtain⟨d,hd⟩:=exq (dotV z y)
 rw[<- hd]at HDT HRS
 have HW10:=hid (show W<=10 by omega)
 have HN6:=hid (show n3<=6 by omega)
 have hn6:n3<=6:=by omega
 clear hn hn2 hn3 H H2 H3 hB h0 hok hyl hmil h6 h10 hBk hW hd
 go_enter Tryz.func56,Tryz.ntmps56
 go_wp2_with (go_at_call 17;refine HRD.out.mono ?_;rintro e w1 ⟨rfl,rfl⟩;refine Stop.of ?_)
 refine Stop.go ?_
 go_wp2
 clear hlb
 go_loop [26] (fun i=>∃k:Nat,k<=n3∧i=.int .i64 k∧Hid (∀q,q<k->inB (z[q]?.getD 0) (-1000000) 1000000=true)) (fun i=>n3-(intOf i).toNat)
 case atStart=>exact⟨0,Nat.zero_le _,rfl,hid (fun q h=>by omega)⟩
 case round=>
  obtain⟨k,hk,rfl,HQ⟩:=hrel
  by_cases hlt:k<n3
  ·obtain⟨b,off,rfl,hbs,hc⟩:=HZ.out k (by rw[HNZ.out];exact hlt)
   obtain⟨x,hx⟩:=exq (z[k]?.getD 0)
   rw[<- hx]at hc
   have HX:=hid hx
   have HW:=hid (HWI.out x)
   obtain⟨ib,hib⟩:=exq (inB x (-1000000) 1000000)
   rw[<- hib]at HW
   have HIB:=hid hib
   clear hx hib
   cases ib
   ·have HNO:=hid (HN3.out (by
     have h1:k<z.length:=by rw[HNZ.out];exact hlt
     unfold milB
     rw[Bool.eq_false_iff]
     intro h
     have:=List.all_eq_true.1 h _ (List.getElem_mem h1)
     have e:z[k]=x:=by rw[HX.out,List.getElem?_eq_getElem h1];rfl
     rw[e,<- HIB.out]at this
     cases this))
    go_wp2_with (go_at_call 93;refine(HW.out _).mono ?_;rintro e w3 ⟨rfl,rfl⟩)
    go_ret
    exact⟨by rw[HNO.out];rfl,Below.refl _ _⟩
   ·have HQ2:=hid (show ∀q,q<k+1->inB (z[q]?.getD 0) (-1000000) 1000000=true from fun q hq=>by
     rcases Nat.lt_or_ge q k with h|h
     ·exact HQ.out q h
     ·obtain rfl:q=k:=by omega
      rw[<- HX.out,<- HIB.out])
    go_wp2_with (go_at_call 93;refine(HW.out _).mono ?_;rintro e w3 ⟨rfl,rfl⟩)
    go_round
    case rel=>exact⟨k+1,by omega,by go_num,HQ2⟩
    case measure=>simp[intOf];omega
  ·obtain rfl:k=n3:=by omega
   have hz:milB z=true:=by
    unfold milB
    refine List.all_eq_true.2 fun x hx=>?_
    obtain⟨q,hq,rfl⟩:=List.mem_iff_getElem.1 hx
    have:=HQ.out q (by rw[<- HNZ.out];exact hq)
    rw[List.getElem?_eq_getElem hq]at this
    exact this
   have HB:=hid (HBK.out hz)
   have HD:=hid (HDT.out hz)
   have HR:=hid (HRS.out hz)
   clear hz HN3 HQ
   go_wp2_with (go_at_call 113;refine HB.out.mono ?_;rintro e w2 ⟨v2,rfl,ho2,hb2⟩;refine Stop.of ?_)
   refine Stop.go ?_
   obtain⟨ba,bc,rfl,hbi,_⟩:=zDE ho2 HBL.out
   have HB2:=hid hb2
   have HBI:=hid hbi
   clear ho2 hbi hb2 HB
   have hw10:=HW10.out
   go_wp2
   go_loop [42] (fun i=>∃t:Nat,t<=W∧i=.int .i64 t∧Hid (∀q,q<t->0<=Bk[q]?.getD 0)) (fun i=>W-(intOf i).toNat)
   case atStart=>exact⟨0,Nat.zero_le _,rfl,hid (fun q h=>by omega)⟩
   case round=>
    obtain⟨t,ht,rfl,HT⟩:=hrel
    by_cases hlt2:t<W
    ·obtain⟨b,off,rfl,hbs,hc⟩:=HBI.out t (by rw[HBL.out];exact hlt2)
     obtain⟨x,hx⟩:=exq (Bk[t]?.getD 0)
     rw[<- hx]at hc
     have HX:=hid hx
     clear hx
     by_cases hx0:x<0
     ·have HNO:=hid (HN4.out (by
       have h1:t<Bk.length:=by rw[HBL.out];exact hlt2
       unfold posB
       rw[Bool.eq_false_iff]
       intro h
       have:=of_decide_eq_true (List.all_eq_true.1 h _ (List.getElem_mem h1))
       have e:Bk[t]=x:=by rw[HX.out,List.getElem?_eq_getElem h1];rfl
       omega))
      go_wp2
      go_ret
      exact⟨by rw[HNO.out];rfl,HB2.out⟩
     ·have HT2:=hid (show ∀q,q<t+1->0<=Bk[q]?.getD 0 from fun q hq=>by
       rcases Nat.lt_or_ge q t with h|h
       ·exact HT.out q h
       ·obtain rfl:q=t:=by omega
        rw[<- HX.out];omega)
      go_wp2
      go_round
      case rel=>exact⟨t+1,by omega,by go_num,HT2⟩
      case measure=>simp[intOf];omega
    ·obtain rfl:t=W:=by omega
     have hp:posB Bk=true:=by
      unfold posB
      refine List.all_eq_true.2 fun x hx=>decide_eq_true ?_
      obtain⟨q,hq,rfl⟩:=List.mem_iff_getElem.1 hx
      have:=HT.out q (by rw[<- HBL.out];exact hq)
      rw[List.getElem?_eq_getElem hq]at this
      exact this
     have HR2:=hid (HR.out hp)
     have HD2:=hid (HD.out w2 HB2.out)
     clear hp HT HN4 HR
     go_wp2_with (go_at_call 54;refine HD2.out.mono ?_;rintro e w4 ⟨rfl,k4,rfl⟩;refine Stop.of ?_)
     refine Stop.go ?_
     have hfin:=zCG HB2.out k4
     by_cases hd0:d<0
     ·go_wp2
      go_ret
      exact⟨by rw[HR2.out];simp[hd0],hfin⟩
     ·go_wp2
      go_ret
      exact⟨by rw[HR2.out];simp[hd0],hfin⟩
end
section
open Go.RowKit
theorem ddim_c(w:World)(N D:Int):Calls Tryz.prog 127 #[.agg #[.int .i64 N,.int .i64 D]] w fun e w'=>e=.returned (.bool (decide (N<0)))∧Below w.heap.size w w':=by
 obtain⟨wz,hwz⟩:=exq (w.alloc (.cells #[.int .i64 N,.int .i64 D] 29))
 have HB:=hid (show Below w.heap.size w wz by rw[hwz];exact(Below.refl _ _).alloc (Nat.le_refl _) _)
 have l0:wz.cell? ⟨w.heap.size,0,none⟩=some (.int .i64 N):=by rw[hwz,World.cell?_alloc_at _ _ _ _ rfl];rfl
 by_cases h:N<0
 ·go_enter Tryz.func127,Tryz.ntmps127
  go_upto_region 1 with fail
  rw[<- hwz]
  clear hwz
  go_wp2
  go_ret
  exact⟨zAN (by simp[h]),HB.out⟩
 ·go_enter Tryz.func127,Tryz.ntmps127
  go_upto_region 1 with fail
  rw[<- hwz]
  clear hwz
  go_wp2
  go_ret
  exact⟨zAN (by simp[h]),HB.out⟩
theorem any_dim(x:List Rt):x.any (fun r=>decide (r.1<0))=!x.all (fun r=>decide (0<=r.1)):=by
 rw[List.not_all_eq_any_not]
 congr 1
 funext r
 rw[Bool.eq_iff_iff];simp
theorem dims_c(w:World)(a:Option Addr)(n cap:Nat)(x:List Rt)(hn:x.length=n)(hm:n<=maxLen)(H:zBU w a x):
 Calls Tryz.prog 80 #[.slice a n cap,.func (.func 127) #[] #[]] w fun e w'=>e=.returned (.bool (!x.all (fun r=>decide (0<=r.1))))∧Below w.heap.size w w':=by
 have h:=zKO w a n cap x hn hm H 127 #[] (fun r=>decide (r.1<0)) (fun r W hW=>ddim_c W r.1 r.2) (enters_of Tryz.func127 (by kernel_rfl) rfl)
 rw[any_dim]at h;exact h
theorem zCB.atS{w1 X:World}{base:Nat}{S:Nat->Prop}{v:Value}{T:List FitT}(h:zCB w1 base S v T)(hs:w1.heap.size<=X.heap.size)(hk:∀b,S b->b<w1.heap.size->X.heap[b]? =w1.heap[b]?):∃a cap,v=.slice a T.length cap∧zFR X a T:=by
 have k:Keep (fun b=>S b) w1 {w1 with heap:=X.heap}:=⟨rfl,rfl,rfl,hs,fun k hk' hS=>hk k hS hk'⟩
 obtain⟨a,cap,e,_,hf⟩:=(h.keep (S':=S) k (fun b hb _=>⟨hb,hb⟩)).fitsO.reads
 exact⟨a,cap,e,hf⟩
def LitV(Wd lo:Nat)(S:Nat->Prop)(f:FitT)(v:Value)(W:World):Prop:=∃g,v=.slice (some ⟨g,0,none⟩) Wd Wd∧lo<=g∧¬S g∧zBO W g (sprF Wd f)
structure LitI (w0 W w1:World) (fp:Nat->Prop) (J:(Nat->Prop)->List FitT->World->Prop) (F:List FitT) (t:Nat) (X:World):Prop where
 j:J (fun q=>W.heap.size<=q∧q<w1.heap.size) ((F.take t).filter zGF) X
 s:w1.heap.size<=X.heap.size
 k:∀q,W.heap.size<=q->q<w1.heap.size->X.heap[q]? =w1.heap[q]?
 f:∀q,fp q->X.heap[q]? =w0.heap[q]?
theorem lights_iter(w0:World)(fp:Nat->Prop)(qb:Nat)(a a2:Option Addr)(n cap n2 cap2:Nat)(M:Mask)(y:List Int)(hn:M.length=n)(hn2:y.length=n2)(hm:n<=maxLen)(hm2:n2<=maxLen)(h0:rdE M y=0)
 (hfp:∀q,fp q->q<w0.heap.size)(hqb:fp qb)(hcq:w0.heap[qb]? =some (.cells #[.slice a n cap,.slice a2 n2 cap2] 86 (0,0)))
 (hR:∀X:World,w0.heap.size<=X.heap.size->(∀q,fp q->X.heap[q]? =w0.heap[q]?)->zAJ X a M∧zAE X a2 y):
 IterS Tryz.prog 172 #[.pointer (some ⟨qb,0,none⟩)] (LitV (zAB M)) (zDK M y) fp w0:=by
 intro l J Jx W hb hJx hJ hY hj0
 obtain⟨hok,hy,hmil⟩:=rd_ok h0
 obtain⟨_,h1n,h6,hc1,hc10⟩:=zCY hok
 have hFW:∀q,fp q->W.heap[q]? =w0.heap[q]? :=fun q hq=>hb.block q (hfp q hq)
 obtain⟨rR,rI⟩:=hR W hb.size hFW
 have HDF:=hid (dfits_c W a a2 n cap n2 cap2 M y hn hn2 hm hm2 rR rI (by rw[<- zGU];exact h0))
 have HJ:=hid hJ
 have HY:=hid hY
 have HJ0:=hid hj0
 have HFW:=hid hFW
 have HFP:=hid hfp
 have HB:=hid hb
 have HRA:=hid (fun(X:World) (h1:w0.heap.size<=X.heap.size) (h2:∀q,fp q->X.heap[q]? =w0.heap[q]?)=>(hR X h1 h2).1)
 have HQ:=hid (show ∀X:World,(∀q,fp q->X.heap[q]? =w0.heap[q]?)->X.cell? ⟨qb,0,none⟩=some (.slice a n cap)∧X.cell? ⟨qb,1,none⟩=some (.slice a2 n2 cap2)from fun X hX=>by
  have h1:=(hX qb hqb).trans hcq
  exact⟨by simp[World.cell?,h1],by simp[World.cell?,h1]⟩)
 have HFC:=hid (fun(f:FitT) (hf:f∈zBT M y 10)=>show zCE (zAB M) f.1∧f.2.length=f.1.length∧f.1.length<=10 from by
  obtain⟨k1,k2,_⟩:=spr_facts hok hy hmil hf
  exact⟨k1,k2,by have:=set_le k1;omega⟩)
 have HPC:=hid (fun(X:World) (us ur:Value) (f:FitT) (hX:zAJ X a M) (hd:HdF X us ur f) (hf:zCE (zAB M) f.1∧f.2.length=f.1.length∧f.1.length<=10)=>qpicture_c X a n cap M (zAB M) (.slice a2 n2 cap2) us ur f hn (by omega) rfl hc1 hc10 hX hd hf.1 hf.2.1 hf.2.2 a2 n2 cap2 rfl)
 have HLN:=hid (show(zBT M y 10).length<=11264 by
  have h3:=zED M y (zAB M) (min (min 10 (zAB M)) M.length+1)
  have h4:2 ^ (zAB M)<=1024:=Nat.pow_le_pow_right (by omega) (show zAB M<=10 by omega)
  have h5:(min (min 10 (zAB M)) M.length+1)*2 ^ (zAB M)<=11*1024:=Nat.mul_le_mul (by omega) h4
  have h6:(zBT M y 10).length=(zBI M y (zAB M) (min (min 10 (zAB M)) M.length+1)).length:=rfl
  omega)
 have HLF:=hid (show zDK M y=(zBT M y 10).filter zGF from rfl)
 obtain⟨F,hF⟩:=exq (zBT M y 10)
 rw[<- hF]at HDF HFC HLN HLF
 obtain⟨Wd,hWd⟩:=exq (zAB M)
 rw[<- hWd]at HPC HFC hY
 obtain⟨c0,c1⟩:=HQ.out W hFW
 have HYY:=hid hY
 clear hJ hJx hY hj0 hR hfp hb hn hn2 hm hm2 h0 hok hy hmil h1n h6 hc1 hc10 hFW rR rI hF hWd hqb hcq
 refine callsIn_of_wp Tryz.func172 rfl trivial ?_ rfl
 simp only[Tryz.ntmps172,List.size_toArray,List.length_cons,List.length_nil,Nat.reduceAdd,Nat.reduceSub,Array.replicate_succ,Array.replicate_zero,List.push_toArray,List.append_toArray,List.nil_append,List.cons_append]
 gi_wp2_with (refine⟨trivial,rfl,?_⟩;gi_at_call 135;refine(callsIn_wide.2 HDF.out).mono ?_;rintro e w1 ⟨hb1,v,base,rfl,hbase,hfn⟩;refine Stop.of ?_)
 refine Stop.go ?_
 obtain⟨fa,fc,rfl⟩:=hfn.slice
 have HFN:=hid (fun(X:World) (hs:w1.heap.size<=X.heap.size) (hk:∀q,W.heap.size<=q->q<w1.heap.size->X.heap[q]? =w1.heap[q]?)=>show zFR X fa F from by
  obtain⟨a',c',e,hf⟩:=hfn.atS hs (fun b hb hl=>hk b hb hl)
  cases e
  exact hf)
 obtain⟨NF,hNF⟩:=exq (F.length)
 rw[<- hNF]at HLN⊢
 have HNF:=hid hNF
 have hln:=HLN.out
 have HIT:=hid (show LitI w0 W w1 fp J F 0 w1 from⟨HJ.out _ _ _ _ _ HJ0.out (fun _ h=>h.elim) (fun q hq=>.inr hq.1) (Keep.of_below hb1),Nat.le_refl _,fun _ _ _=>rfl,fun q hq=>(hb1.block q (Nat.lt_of_lt_of_le (HFP.out q hq) HB.out.size)).trans (HFW.out q hq)⟩)
 have HB1:=hid hb1
 clear c0 c1 hNF hfn hbase hb1
 gi_wp2
 gi_loopw [8] (fun i wr=>∃t:Nat,t<=NF∧i=.int .i64 t∧LitI w0 W w1 fp J F t wr) (fun i _=>NF-(intOf i).toNat)
 case atStart=>exact⟨0,Nat.zero_le _,rfl,HIT.out⟩
 case round=>
  obtain⟨t,ht,rfl,hI⟩:=hrel
  have HI:=hid hI
  have hw0r:w0.heap.size<=wr.heap.size:=Nat.le_trans HB.out.size (Nat.le_trans HB1.out.size hI.s)
  by_cases hlt:t<NF
  ·have hkl:t<F.length:=by rw[<- HNF.out];exact hlt
   obtain⟨fb,off,us,ur,rfl,hfb,hq0,hq1,hd⟩:=(HFN.out wr hI.s hI.k).hd hkl
   have hff:=HFC.out _ (List.getElem_mem hkl)
   obtain⟨f,hf⟩:=exq (F[t]'hkl)
   rw[<- hf]at hd hff
   have htk:F.take (t+1)=F.take t++[f]:=by rw[List.take_succ_eq_append_getElem hkl,hf]
   obtain⟨pa,pn,pc,va,vn,vc,rfl,rfl,k1,k2,k3,k4,k5,k6⟩:=id hd
   obtain⟨wa,hwa⟩:=exq (wr.alloc (.cells #[.slice pa pn pc,.slice va vn vc] 73))
   have hba:Below wr.heap.size wr wa:=by rw[hwa];exact(Below.refl _ _).alloc (Nat.le_refl _) _
   obtain⟨g,hg⟩:=exq (wr.heap.size)
   have hga:wa.heap[g]? =some (.cells #[.slice pa pn pc,.slice va vn vc] 73 (0,0)):=by rw[hwa,hg];exact World.alloc_heap_new _ _
   have hgl:g<wa.heap.size:=(Array.getElem?_eq_some_iff.1 hga).1
   have HGC:=hid (fun(X:World) (hX:Below wa.heap.size wa X)=>show X.cell? ⟨g,0,none⟩=some (.slice pa pn pc)∧X.cell? ⟨g,1,none⟩=some (.slice va vn vc)from by
    have h1:=(hX.block g hgl).trans hga
    exact⟨by simp[World.cell?,h1],by simp[World.cell?,h1]⟩)
   have HCF:=hid (dims_c wa va vn vc f.2 k4 k5 (k6.below hba))
   have HFX:=hid (fun(X:World) (hX:Below wr.heap.size wr X)=>show ∀q,fp q->X.heap[q]? =w0.heap[q]? from fun q hq=>(hX.block q (Nat.lt_of_lt_of_le (HFP.out q hq) hw0r)).trans (HI.out.f q hq))
   have HKX:=hid (fun(X:World) (hX:Below wr.heap.size wr X)=>show ∀q,W.heap.size<=q->q<w1.heap.size->X.heap[q]? =w1.heap[q]? from fun q h1 h2=>(hX.block q (Nat.lt_of_lt_of_le h2 HI.out.s)).trans (HI.out.k q h1 h2))
   have HHD:=hid (fun(X:World) (hX:Below wr.heap.size wr X)=>HPC.out X _ _ f (HRA.out X (Nat.le_trans hw0r hX.size) (HFX.out X hX)) (hd.below hX) hff)
   have HSZ:=hid (fun(X:World) (hX:Below wr.heap.size wr X)=>show w1.heap.size<=X.heap.size from Nat.le_trans HI.out.s hX.size)
   have HBA:=hid hba
   have HTK:=hid htk
   have HW0:=hid hw0r
   obtain⟨lb,hlb⟩:=exq (f.2.all (fun r=>decide (0<=r.1)))
   rw[<- hlb]at HCF
   have HLB:=hid (show zGF f=lb from hlb.symm)
   have i1:(t:Int)<(NF:Int):=by omega
   obtain⟨c0,c1⟩:=HQ.out _ (HFX.out wr (Below.refl _ _))
   clear hI hw0r hkl hf hd hff htk k1 k2 k3 k4 k5 k6 hba hga hgl hlb
   have hgw:wr.alloc (.cells #[.slice pa pn pc,.slice va vn vc] 73)=wa:=hwa.symm
   have HGW:=hid hgw
   have HGG:=hid hg
   clear hwa hgw hg
   gi_wp2_with (refine⟨trivial,rfl,?_⟩;rw[<- HGG.out,HGW.out];gi_at_call 80;refine(callsIn_wide.2 HCF.out).mono ?_;rintro e w2 ⟨rfl,hb2⟩;refine Stop.of ?_)
   refine Stop.go ?_
   have HB2:=hid (zAA HBA.out hb2)
   obtain⟨g0,g1⟩:=HGC.out w2 hb2
   obtain⟨c0,c1⟩:=HQ.out _ (HFX.out w2 HB2.out)
   clear hb2 HCF
   cases lb
   ·have HI2:=hid (show LitI w0 W w1 fp J F (t+1) w2 from⟨by rw[HTK.out,List.filter_append,List.filter_cons_of_neg (by rw[HLB.out];simp),List.filter_nil,List.append_nil];exact HJ.out _ _ _ _ _ HI.out.j (fun _ h=>h) (fun _ h=>.inl h) (Keep.of_below HB2.out),HSZ.out _ HB2.out,HKX.out _ HB2.out,HFX.out _ HB2.out⟩)
    gi_wp2
    refine⟨trivial,?_⟩
    gi_wp2
    refine⟨fun _ h=>(by cases h),?_⟩
    gi_wp2
    refine⟨⟨t+1,by omega,by go_num,HI2.out⟩,by simp[intOf];omega⟩
   ·have HP:=hid (HHD.out w2 HB2.out)
    gi_wp2_with (refine⟨trivial,rfl,?_⟩;gi_at_call 99;refine(callsIn_wide.2 HP.out).mono ?_;rintro e w3 ⟨gp,rfl,hgp,hrp,hb3⟩;refine Stop.of ?_)
    refine Stop.go ?_
    have hB3:=zAA HB2.out hb3
    have hflt:(F.take (t+1)).filter zGF=(F.take t).filter zGF++[f]:=by
     rw[HTK.out,List.filter_append,List.filter_cons_of_pos (by rw[HLB.out]),List.filter_nil]
    have hpre:(F.take t).filter zGF++[f] <+: zDK M y:=by
     rw[<- hflt,HLF.out]
     exact(List.take_prefix _ _).filter _
    have hs2:=HSZ.out _ HB2.out
    have hs3:=HSZ.out _ hB3
    have hW1:=HB1.out.size
    have hyk:=HYY.out (fun q=>W.heap.size<=q∧q<w1.heap.size) ((F.take t).filter zGF) f (.slice (some ⟨gp,0,none⟩) Wd Wd) w3 hpre (fun q hq=>⟨hq.1,Nat.lt_of_lt_of_le hq.2 hs3⟩) (Nat.le_trans hW1 hs3)
     (HJ.out _ _ _ _ _ HI.out.j (fun _ h=>h) (fun _ h=>.inl h) (Keep.of_below hB3)) ⟨gp,rfl,by omega,fun h=>by have:=h.2;omega,hrp⟩
    have HB3:=hid hB3
    have HPRE:=hid hpre
    have HFLT:=hid hflt
    have HS3:=hid hs3
    clear hB3 hflt hpre hs2 hs3 hgp hrp hb3 hW1 g0 g1 c0 c1
    obtain⟨fn,tmps,assign,body,hy,hR⟩:=hyk
    gi_wp2
    refine⟨rfl,hR.mono ?_⟩
    clear hR hy
    rintro e W3 ⟨⟨hs3,hk3⟩,⟨rfl,hJ3⟩|⟨rfl,hJx⟩⟩
    ·have HI2:=hid (show LitI w0 W w1 fp J F (t+1) W3 from⟨by rw[HFLT.out];exact hJ3,Nat.le_trans HS3.out hs3,fun q h1 h2=>(hk3 q (.inr ⟨h1,h2⟩)).trans (HKX.out _ HB3.out q h1 h2),fun q hq=>(hk3 q (.inl hq)).trans (HFX.out _ HB3.out q hq)⟩)
     clear hJ3 hk3 hs3
     gi_wp2
     refine⟨⟨t+1,by omega,by go_num,HI2.out⟩,by simp[intOf];omega⟩
    ·gi_wp2
     refine bodyPost_ret (results_none rfl _ _ _) rfl ?_
     exact⟨⟨_,rfl⟩,.inr ⟨_,_,HPRE.out,hJx⟩⟩
  ·obtain rfl:t=NF:=by omega
   have hlt':decide ((t:Int)<(t:Int))=false:=by simp
   have HJF:=hid (show J (fun q=>W.heap.size<=q∧q<w1.heap.size) (zDK M y) wr from by
    have:=HI.out.j
    rw[List.take_of_length_le (by rw[<- HNF.out];exact Nat.le_refl _),<- HLF.out]at this
    exact this)
   clear hI hw0r
   gi_wp2
   refine bodyPost_end (results_none rfl _ _ _) rfl ?_
   exact⟨⟨_,rfl⟩,.inl ⟨_,fun q hq=>⟨hq.1,Nat.lt_of_lt_of_le hq.2 HI.out.s⟩,HJF.out⟩⟩
end
section
open Go.RowKit
attribute [local go_sem] Oper.semAt_some
theorem dlights_c(w:World)(a a2:Option Addr)(n cap n2 cap2:Nat):
 Calls Tryz.prog 114 #[.agg #[.slice a n cap,.slice a2 n2 cap2]] w fun e w'=>
  e=.returned (.func (.func 172) #[] #[.pointer (some ⟨w.heap.size,0,none⟩)])∧w'=w.alloc (.cells #[.slice a n cap,.slice a2 n2 cap2] 86):=by
 have hmf:∀(fn:Fn) (first cap:Array Value) (w:World),(Instr.makeFunc fn first cap).run Tryz.prog w=.ok (.func fn first cap) w:=fun _ _ _ _=>rfl
 go_enter Tryz.func114,Tryz.ntmps114
 go_wp2
 go_ret
 exact⟨rfl,rfl⟩
def zGE(M:Mask)(y:List Int):List Rt×Int:=
 if rdE M y≠0 then([],rdE M y)else match zDK M y with
  | []=>([],8)
  |f::_=>(sprF (zAB M) f,0)
def PicP(E:List Rt×Int)(e:Ending)(W:World):Prop:=∃b c,e=.returned (.tuple #[.slice b E.1.length c,.int .i64 E.2])∧zBU W b E.1
theorem lightE_err{M:Mask}{y:List Int}(h:rdE M y≠0):zGE M y=([],rdE M y):=by unfold zGE;rw[if_pos h]
theorem zKC{M:Mask}{y:List Int}(h:rdE M y=0)(h2:zDK M y=[]):zGE M y=([],8):=by unfold zGE;rw[if_neg (by simp[h]),h2]
theorem lightE_some{M:Mask}{y:List Int}{f:FitT}{l:List FitT}(h:rdE M y=0)(h2:zDK M y=f::l):zGE M y=(sprF (zAB M) f,0):=by unfold zGE;rw[if_neg (by simp[h]),h2]
theorem dlight_c(w:World)(a a2:Option Addr)(n cap n2 cap2:Nat)(M:Mask)(y:List Int)(hn:M.length=n)(hn2:y.length=n2)(hm:n<=maxLen)(hm2:n2<=maxLen)(H:zAJ w a M)(H2:zAE w a2 y):
 Calls Tryz.prog 57 #[.slice a n cap,.slice a2 n2 cap2] w fun e w'=>PicP (zGE M y) e w'∧Below w.heap.size w w':=by
 obtain⟨wz,hwz⟩:=exq ((w.alloc (.cells #[.slice none 0 0] 42)).alloc (.cells #[.int .i64 0] 30))
 have hbz:Below w.heap.size w wz:=by rw[hwz];exact((Below.refl _ w).alloc (Nat.le_refl _) _).alloc (by simp) _
 have b1:Boxed wz w.heap.size 42 (.slice none 0 0):=by rw[hwz];exact(Boxed.new w _ _).alloc _
 have b2:Boxed wz (w.heap.size+1) 30 (.int .i64 0):=by rw[hwz];have:=Boxed.new (w.alloc (.cells #[.slice none 0 0] 42)) 30 (.int .i64 0);simpa using this
 have hsz:wz.heap.size=w.heap.size+2:=by rw[hwz];simp
 have HWZ:=hid hwz
 have HCK:=hid (zGN wz a a2 none n cap n2 cap2 0 0 M y [] hn hn2 rfl hm hm2 (by decide) (H.below hbz) (H2.below hbz) (fun j hj=>by simp at hj))
 rw[<- zGU]at HCK
 by_cases h0:rdE M y=0
 rotate_left
 ·have hne:(rdE M y !=0)=true:=by simpa using h0
  have HE:=hid (lightE_err h0)
  obtain⟨R,hR⟩:=exq (rdE M y)
  rw[<- hR]at HCK hne HE
  have HBZ:=hid hbz
  have B1:=hid b1
  have B2:=hid b2
  have HSZ:=hid hsz
  clear hn hn2 H H2 h0 hR hwz hbz b1 b2 hsz
  go_enter Tryz.func57,Tryz.ntmps57
  go_upto_region 1 with fail
  rw[<- HWZ.out]
  go_wp2_with (go_at_call 101;refine HCK.out.mono ?_;rintro e w1 ⟨rfl,hb1⟩;have HB1:=hid hb1;clear hb1;refine Stop.of ?_)
  refine Stop.go ?_
  have r1:=(HB1.out.block _ B1.out.lt).trans B1.out
  have r2:=(HB1.out.block _ B2.out.lt).trans B2.out
  have r1':Boxed w1 w.heap.size 42 (.slice none 0 0):=r1
  have r2':Boxed w1 (w.heap.size+1) 30 (.int .i64 0):=r2
  have c1:=r1'.cell
  have c2:=r2'.cell
  have f1:=r1'.frozen
  have f2:=r2'.frozen
  have l1:=r1'.lt
  have l2:=r2'.lt
  have HF:=hid (show Below w.heap.size w ((w1.setCell ⟨w.heap.size,0,none⟩ (.slice none 0 0)).setCell ⟨w.heap.size+1,0,none⟩ (.int .i64 R))from zAI (zAI (zAA HBZ.out HB1.out) (Nat.le_refl _) 0 _) (by omega) 0 _)
  clear r1 r2 r1' r2'
  go_wp2
  refine bodyPost_ret (v:=.tuple #[.slice none 0 0,.int .i64 R]) ?_ rfl ⟨⟨none,0,by rw[HE.out];rfl,by rw[HE.out];exact fun j hj=>by simp at hj⟩,HF.out⟩
  simp[results,Tryz.results57,go_sem,c1,c2,f1,f2,l1,l2]
 rw[h0]at HCK
 obtain⟨hok,hy,hmil⟩:=rd_ok h0
 obtain⟨_,h1n,h6,hc1,hc10⟩:=zCY hok
 have HIT0:=hid (fun(w0:World) (fp:Nat->Prop) (qb:Nat)=>lights_iter w0 fp qb a a2 n cap n2 cap2 M y hn hn2 hm hm2 h0)
 have HRR:=hid (show ∀X:World,(∀q,q<w.heap.size->X.heap[q]? =w.heap[q]?)->zAJ X a M∧zAE X a2 y from fun X hX=>⟨zAJ.blk H hX,zAE.blk H2 hX⟩)
 have HE1:=hid (zKC h0)
 have HE2:=hid (fun(f:FitT) (l:List FitT)=>lightE_some (f:=f) (l:=l) h0)
 have HFL:=hid (fun(f:FitT)=>sprF_len (zAB M) f)
 have HW10:=hid hc10
 obtain⟨E,hE⟩:=exq (zGE M y)
 rw[<- hE]at HE1 HE2⊢
 obtain⟨xs,hxs⟩:=exq (zDK M y)
 rw[<- hxs]at HIT0 HE1 HE2
 obtain⟨Wd,hWd⟩:=exq (zAB M)
 rw[<- hWd]at HIT0 HE2 HFL HW10
 have HBZ:=hid hbz
 have B1:=hid b1
 have B2:=hid b2
 have HSZ:=hid hsz
 clear hn hn2 H H2 h0 hok hy hmil h1n h6 hc1 hc10 hwz hbz b1 b2 hsz hE hxs hWd
 refine callsIn_wide (n:=0) |>.1 ?_
 refine callsIn_of_wp_marks Tryz.func57 rfl trivial ?_ rfl
 simp only[Tryz.ntmps57,List.size_toArray,List.length_cons,List.length_nil,Nat.reduceAdd,Nat.reduceSub,Array.replicate_succ,Array.replicate_zero,List.push_toArray,List.append_toArray,List.nil_append,List.cons_append]
 gi_wp2_with fail
 rw[<- HWZ.out]
 gi_wp2_with (refine⟨trivial,rfl,?_⟩;gi_at_call 101;refine(callsIn_wide.2 HCK.out).mono ?_;rintro e w1 ⟨rfl,hb1⟩;have HB1:=hid hb1;clear hb1;refine Stop.of ?_)
 refine Stop.go ?_
 gi_wp2_with (refine⟨trivial,rfl,?_⟩;gi_at_call 114;refine(callsIn_wide.2 (dlights_c _ _ _ _ _ _ _)).mono ?_;rintro e w' ⟨rfl,rfl⟩;refine Stop.of ?_)
 refine Stop.go ?_
 obtain⟨qb,hqb⟩:=exq (w1.heap.size)
 obtain⟨w3,hw3⟩:=exq (w1.alloc (.cells #[.slice a n cap,.slice a2 n2 cap2] 86))
 rw[<- hqb,<- hw3]
 have hs3:w3.heap.size=qb+1:=by rw[hw3,hqb];simp
 have hb3:Below w1.heap.size w1 w3:=by rw[hw3];exact(Below.refl _ _).alloc (Nat.le_refl _) _
 have hq3:w3.heap[qb]? =some (.cells #[.slice a n cap,.slice a2 n2 cap2] 86 (0,0)):=by rw[hw3,hqb];exact World.alloc_heap_new _ _
 have hzs:=HSZ.out
 have h1s:=HB1.out.size
 have r1:Boxed w3 w.heap.size 42 (.slice none 0 0):=(hb3.block _ (by omega)).trans ((HB1.out.block _ (by omega)).trans B1.out)
 have r2:Boxed w3 (w.heap.size+1) 30 (.int .i64 0):=(hb3.block _ (by omega)).trans ((HB1.out.block _ (by omega)).trans B2.out)
 have hB3:Below w.heap.size w w3:=zAA (zAA HBZ.out HB1.out) hb3
 have hqs:w.heap.size+1<qb:=by rw[hqb];omega
 obtain⟨fp,hfp⟩:∃fp:Nat->Prop,fp=fun q=>q<w3.heap.size∧q≠w.heap.size∧q≠w.heap.size+1:=⟨_,rfl⟩
 have HIT:=hid (HIT0.out w3 fp qb (by rw[hfp];exact fun q h=>h.1) (by rw[hfp];exact⟨by omega,by omega,by omega⟩) hq3 (fun X hX hq=>HRR.out X fun q hlt=>by
  rw[hfp]at hq
  have:=hB3.size
  exact(hq q ⟨by omega,by omega,by omega⟩).trans (hB3.block q hlt)))
 have HFP:=hid hfp
 have R1:=hid r1
 have R2:=hid r2
 have HB3:=hid hB3
 have HS3:=hid hs3
 have HQS:=hid hqs
 clear hfp r1 r2 hB3 hs3 hb3 hq3 hqb hw3 hzs h1s hqs HIT0 HRR
 gi_wp2
 refine range_s (gf:=172) (lb:=#[.pointer (some ⟨qb,0,none⟩)]) (xs:=xs) (fp:=fp) (V:=LitV Wd) rfl (enters_of Tryz.func172 (by kernel_rfl) rfl)
  HIT.out (Below.refl _ _) (by rw[HFP.out];exact fun q h=>h.1)
  (fun Sr pre Z=>Keep (fun q=>q<w3.heap.size) w3 Z∧pre=[])
  (fun Sr c pre Z=>c=.ret∧Keep (fun q=>q<w3.heap.size∧q≠w.heap.size∧q≠w.heap.size+1) w3 Z∧∃f g,pre=[f]∧w3.heap.size+2<=g∧¬Sr g∧zBO Z g (sprF Wd f)∧Boxed Z w.heap.size 42 (.slice (some ⟨g,0,none⟩) Wd Wd)∧Boxed Z (w.heap.size+1) 30 (.int .i64 0)) ?hI ?hIx ?hV ?h0
  (fun v a' Z=>a'={tmps:=#[.slice a n cap,.slice a2 n2 cap2,undef,undef,.pointer (some ⟨w.heap.size,0,none⟩),.pointer (some ⟨w.heap.size+1,0,none⟩),.int .i64 0,v,.slice a n cap,.slice a2 n2 cap2,.int .i64 0,.int .i64 0,.bool false,undef,.slice a n cap,.slice a2 n2 cap2,.agg #[.slice a n cap,.slice a2 n2 cap2],.func (.func 172) #[] #[.pointer (some ⟨qb,0,none⟩)],v,undef],defers:=[]}) ?hAx ?hassign ?hbody ?hdone ?hstop
 case hI=>
  rintro Sr Sr' s A B ⟨h1,h2⟩ _ _ h3 h4 hk
  exact⟨h1.trans (hk.mono fun q hq=>⟨by omega,by omega,fun hs=>by have:=h3 q hs;omega⟩),h2⟩
 case hIx=>
  rintro Sr Sr' c s A B ⟨h1,h2,f,g,h5,h6,h7,h8,h9,hA⟩ _ hSn h3 h4 hk
  have hs:=HS3.out
  have hq:=HQS.out
  refine⟨h1,h2.trans (hk.mono fun q hq=>⟨by omega,by omega,fun hs=>by have:=h3 q hs;omega⟩),f,g,h5,h6,fun hg=>?_,h8.keep (hk.block _ h8.lt ⟨by omega,by omega,fun hg=>?_⟩),(hk.block _ h9.lt ⟨by omega,by omega,fun hs=>by have:=h3 _ hs;omega⟩).trans h9,(hk.block _ hA.lt ⟨by omega,by omega,fun hs=>by have:=h3 _ hs;omega⟩).trans hA⟩
  ·rcases hSn g hg with h|h
   ·exact h7 h
   ·have:=h8.lt;omega
  ·rcases hSn g hg with h|h
   ·exact h7 h
   ·have:=h8.lt;omega
 case hV=>
  rintro Sr x v A B ⟨g,e1,e2,e3,e4⟩ hk
  exact⟨g,e1,e2,e3,e4.keep (hk.block _ e4.lt ⟨by omega,by omega⟩)⟩
 case h0=>
  intro Z hk hZ
  exact⟨hk,rfl⟩
 case hAx=>
  intro v a' A B h _
  exact h
 case hassign=>
  rintro l Sr x v Z K hZ hv hK
  gi_wp2
  exact hK _ _ (Below.refl _ _) rfl
 case hbody=>
  rintro l' Sr pre f v _ Z hpre hSr ⟨hk,rfl⟩ ⟨g,rfl,hg,hgS,hgb⟩ rfl hZ hDo hLo
  have hs3:=HS3.out
  have hqs:=HQS.out
  have z1:Boxed Z w.heap.size 42 (.slice none 0 0):=(hk.block _ R1.out.lt (by show w.heap.size<w3.heap.size;omega)).trans R1.out
  have z2:Boxed Z (w.heap.size+1) 30 (.int .i64 0):=(hk.block _ R2.out.lt (by show w.heap.size+1<w3.heap.size;omega)).trans R2.out
  have c1:=z1.cell
  have c2:=z2.cell
  have f1:=z1.frozen
  have f2:=z2.frozen
  have l1:=z1.lt
  have l2:=z2.lt
  have k1:=Keep.set Z w.heap.size 0 (.slice (some ⟨g,0,none⟩) Wd Wd)
  have k2:=Keep.set (Z.setCell ⟨w.heap.size,0,none⟩ (.slice (some ⟨g,0,none⟩) Wd Wd)) (w.heap.size+1) 0 (.int .i64 0)
  have y1:=Boxed.set (.slice (some ⟨g,0,none⟩) Wd Wd) z1
  have y2:Boxed (Z.setCell ⟨w.heap.size,0,none⟩ (.slice (some ⟨g,0,none⟩) Wd Wd)) (w.heap.size+1) 30 (.int .i64 0):=(k1.block _ z2.lt (by show w.heap.size+1≠w.heap.size;omega)).trans z2
  have y3:=Boxed.set (.int .i64 0) y2
  have y4:Boxed _ w.heap.size 42 (.slice (some ⟨g,0,none⟩) Wd Wd):=(k2.block _ y1.lt (by show w.heap.size≠w.heap.size+1;omega)).trans y1
  have kk:=(k1.mono (T:=fun q=>q≠w.heap.size∧q≠w.heap.size+1) fun q h=>h.1).trans (k2.mono fun q h=>h.2)
  have hgz:=hgb.keep (kk.block _ hgb.lt ⟨by omega,by omega⟩)
  have KK:=hid kk
  have Y3:=hid y3
  have Y4:=hid y4
  have HGZ:=hid hgz
  have HG:=hid (And.intro hg hgS)
  have HK:=hid hk
  have HSR:=hid hSr
  have HZ:=hid hZ
  clear hk hSr hg hgS hgb z1 z2 k1 k2 y1 y2 y3 y4 kk hgz hDo hLo hs3 hqs
  gi_wp2
  refine⟨KK.out.size,fun q hq=>KK.out.block q ?_ ?_,rfl,(HK.out.mono fun q h=>h.1).trans (KK.out.mono fun q h=>h.2),f,g,rfl,HG.out.1,HG.out.2,HGZ.out,Y4.out,Y3.out⟩
  ·rcases hq with h|h|h|h
   ·rw[HFP.out]at h;have:=h.1;have:=HZ.out;omega
   ·have:=HZ.out;omega
   ·have:=HZ.out;omega
   ·exact(HSR.out q h).2
  ·rcases hq with h|h|h|h
   ·rw[HFP.out]at h;exact h.2
   ·have:=HS3.out;have:=HQS.out;exact⟨by omega,by omega⟩
   ·have:=HS3.out;have:=HQS.out;exact⟨by omega,by omega⟩
   ·have:=(HSR.out q h).1;have:=HS3.out;have:=HQS.out;exact⟨by omega,by omega⟩
 case hdone=>
  rintro Sr Z hZ hSr ⟨hk,hnil⟩ hmk
  have hs3:=HS3.out
  have hqs:=HQS.out
  have z1:Boxed Z w.heap.size 42 (.slice none 0 0):=(hk.block _ R1.out.lt (by show w.heap.size<w3.heap.size;omega)).trans R1.out
  have z2:Boxed Z (w.heap.size+1) 30 (.int .i64 0):=(hk.block _ R2.out.lt (by show w.heap.size+1<w3.heap.size;omega)).trans R2.out
  have c1:=z1.cell
  have c2:=z2.cell
  have f1:=z1.frozen
  have f2:=z2.frozen
  have l1:=z1.lt
  have l2:=z2.lt
  have k1:=Keep.set Z w.heap.size 0 (.slice none 0 0)
  have k2:=Keep.set (Z.setCell ⟨w.heap.size,0,none⟩ (.slice none 0 0)) (w.heap.size+1) 0 (.int .i64 8)
  have y1:=Boxed.set (.slice none 0 0) z1
  have y2:Boxed (Z.setCell ⟨w.heap.size,0,none⟩ (.slice none 0 0)) (w.heap.size+1) 30 (.int .i64 0):=(k1.block _ z2.lt (by show w.heap.size+1≠w.heap.size;omega)).trans z2
  have y3:=Boxed.set (.int .i64 8) y2
  have y4:Boxed _ w.heap.size 42 (.slice none 0 0):=(k2.block _ y1.lt (by show w.heap.size≠w.heap.size+1;omega)).trans y1
  have hbZ:Below w.heap.size w Z:=hk.below HB3.out HB3.out.size (fun q hq=>by show q<w3.heap.size;have:=HB3.out.size;omega)
  have hset:Below w.heap.size w ((Z.setCell ⟨w.heap.size,0,none⟩ (.slice none 0 0)).setCell ⟨w.heap.size+1,0,none⟩ (.int .i64 8)):=zAI (zAI hbZ (Nat.le_refl _) 0 _) (by omega) 0 _
  have hmk2:((Z.setCell ⟨w.heap.size,0,none⟩ (.slice none 0 0)).setCell ⟨w.heap.size+1,0,none⟩ (.int .i64 8)).heap[w3.heap.size]? =some (.deferred (some [])):=(k2.block _ (by rw[show(Z.setCell ⟨w.heap.size,0,none⟩ (.slice none 0 0)).heap.size=Z.heap.size by simp];omega) (by show w3.heap.size≠w.heap.size+1;omega)).trans ((k1.block _ (by omega) (by show w3.heap.size≠w.heap.size;omega)).trans hmk)
  have HN:=hid (HE1.out hnil)
  have HSET:=hid hset
  have HMK:=hid hmk2
  have Y3:=hid y3
  have Y4:=hid y4
  clear hk hnil hmk hSr z1 z2 k1 k2 y1 y2 y3 y4 hbZ hset hmk2 hs3 hqs
  gi_wp2
  refine zDD [w3.heap.size] _ (by simp) (fun h hh=>by rw[List.mem_singleton.1 hh];exact HMK.out) fun w' hk'=>?_
  have n1:w.heap.size∉[w3.heap.size]:=fun hh=>by rw[List.mem_singleton]at hh;have:=HS3.out;have:=HQS.out;omega
  have n2:w.heap.size+1∉[w3.heap.size]:=fun hh=>by rw[List.mem_singleton]at hh;have:=HS3.out;have:=HQS.out;omega
  have v1:Boxed w' w.heap.size 42 (.slice none 0 0):=(hk'.block _ Y4.out.lt n1).trans Y4.out
  have v2:Boxed w' (w.heap.size+1) 30 (.int .i64 8):=(hk'.block _ Y3.out.lt n2).trans Y3.out
  have d1:=v1.cell
  have d2:=v2.cell
  have hfin:Below w.heap.size w w':=hk'.below HSET.out HSET.out.size (fun q hq hh=>by rw[List.mem_singleton.1 hh]at hq;have:=HS3.out;have:=HQS.out;omega)
  refine⟨.tuple #[.slice none 0 0,.int .i64 8],?_,⟨none,0,by rw[HN.out];rfl,by rw[HN.out];exact fun j hj=>by simp at hj⟩,hfin⟩
  simp[results,Tryz.results57,go_sem,d1,d2]
 case hstop=>
  rintro Sr c pre Z hpre hSr ⟨rfl,hk,f,g,rfl,hg,hgS,hgb,z1,z2⟩ hmk
  have hs3:=HS3.out
  have hqs:=HQS.out
  have hbZ:Below w.heap.size w Z:=hk.below HB3.out HB3.out.size (fun q hq=>by show q<w3.heap.size∧q≠w.heap.size∧q≠w.heap.size+1;have:=HB3.out.size;omega)
  obtain⟨l,hl⟩:=hpre
  have HE3:=hid (HE2.out f l hl.symm)
  have HMK:=hid hmk
  have HBZ2:=hid hbZ
  have Z1:=hid z1
  have Z2:=hid z2
  have HGB:=hid hgb
  have HGL:=hid hg
  clear hk hgb z1 z2 hmk hSr hl hbZ hg hgS hs3 hqs
  gi_wp2
  refine zDD [w3.heap.size] _ (by simp) (fun h hh=>by rw[List.mem_singleton.1 hh];exact HMK.out) fun w' hk'=>?_
  have n1:w.heap.size∉[w3.heap.size]:=fun hh=>by rw[List.mem_singleton]at hh;have:=HS3.out;have:=HQS.out;omega
  have n2:w.heap.size+1∉[w3.heap.size]:=fun hh=>by rw[List.mem_singleton]at hh;have:=HS3.out;have:=HQS.out;omega
  have n3:g∉[w3.heap.size]:=fun hh=>by rw[List.mem_singleton]at hh;have:=HGL.out;omega
  have v1:Boxed w' w.heap.size 42 (.slice (some ⟨g,0,none⟩) Wd Wd):=(hk'.block _ Z1.out.lt n1).trans Z1.out
  have v2:Boxed w' (w.heap.size+1) 30 (.int .i64 0):=(hk'.block _ Z2.out.lt n2).trans Z2.out
  have d1:=v1.cell
  have d2:=v2.cell
  have hgb':zBO w' g (sprF Wd f):=HGB.out.keep (hk'.block _ HGB.out.lt n3)
  have hfin:Below w.heap.size w w':=hk'.below HBZ2.out HBZ2.out.size (fun q hq hh=>by rw[List.mem_singleton.1 hh]at hq;have:=HS3.out;have:=HQS.out;omega)
  have hlen:=HFL.out f
  have hro:=(zBO.own (base:=0) hgb' hlen (by have:=HW10.out;unfold maxLen;omega) (Nat.zero_le _)).reads
  obtain⟨b',c',e',_,hra⟩:=hro
  rw[hlen]at e'
  cases e'
  refine⟨.tuple #[.slice (some ⟨g,0,none⟩) Wd Wd,.int .i64 0],?_,⟨some ⟨g,0,none⟩,Wd,by rw[HE3.out];show _=Ending.returned (.tuple #[.slice (some ⟨g,0,none⟩) (sprF Wd f).length Wd,.int .i64 0]);rw[hlen],by rw[HE3.out];exact hra⟩,hfin⟩
  simp[results,Tryz.results57,go_sem,d1,d2]
end
section
open Go.RowKit
theorem two5_c(w:World):Calls Tryz.prog 72 #[] w fun e w'=>Below w.heap.size w w'∧∃a cap,e=.returned (.slice a 2 cap)∧zAJ w' a twoM:=by
 go_enter Tryz.func72,Tryz.ntmps72
 go_wp2
 go_ret
 exact⟨(((Below.refl _ _).alloc (Nat.le_refl _) _).alloc (by simp) _).alloc (by simp;omega) _,_,_,rfl,two_rows w⟩
theorem zFS(w:World)(n:Int):Calls Tryz.prog 51 #[.int .i64 n] w fun e w'=>e=.returned (.agg #[.int .i64 n,.int .i64 1])∧Below w.heap.size w w':=by
 obtain⟨rb,hrb⟩:=exq (w.heap.size)
 obtain⟨wz,hwz⟩:=exq (w.alloc (.cells #[.int .i64 0,.int .i64 0] 29))
 have hbz:Below w.heap.size w wz:=by rw[hwz];exact(Below.refl _ _).alloc (Nat.le_refl _) _
 have hrz:RatI wz rb (0,0):=by rw[hwz,hrb];exact RatI.made w (0,0)
 obtain⟨r0,r1,r2,r3,r4⟩:=hrz.cells
 have X1:=hid (RatI.set (p:=(n,1)) hrz)
 have X2:=hid ((zBH wz rb (.int .i64 n) (.int .i64 1)).below hbz hbz.size (fun k hk=>by show k≠rb;omega))
 have HWZ:=hid hwz
 clear hwz hrz hbz
 go_enter Tryz.func51,Tryz.ntmps51
 go_upto_region 1 with fail
 rw[<- hrb,<- HWZ.out]
 clear hrb
 go_wp2
 clear r0 r1 r2 r3 r4
 generalize (wz.setCell ⟨rb,0,none⟩ (.int .i64 n)).setCell ⟨rb,1,none⟩ (.int .i64 1)=WF at X1 X2⊢
 obtain⟨t0,t1,t2,t3,t4⟩:=X1.out.cells
 refine bodyPost_ret (v:=.agg #[.int .i64 n,.int .i64 1]) ?_ rfl ⟨rfl,X2.out⟩
 simp[results,Tryz.results51,go_sem,t0,t1,t2,t3,t4]
theorem aw5_val:valE twoM [1,-1]=((2,1),0):=by decide+kernel
theorem aw5_prov:zDC twoM [1,1] [(0,1),(1,1),(0,1)] [(1,1),(0,1)]=true:=by decide+kernel
theorem ints2(w:World)(x y:Int)(T:TypeId):zAE (w.alloc (.cells #[.int .i64 x,.int .i64 y] T)) (some ⟨w.heap.size,0,none⟩) [x,y]:=fun j hj=>⟨w.heap.size,0,rfl,by simp,by
 rw[World.cell?_alloc_at _ _ _ _ rfl]
 match j,hj with
 |0,_=>rfl
 |1,_=>rfl⟩
theorem rats3(w:World)(a b c d e f:Int)(T:TypeId):zBU (w.alloc (.cells #[.int .i64 a,.int .i64 b,.int .i64 c,.int .i64 d,.int .i64 e,.int .i64 f] T)) (some ⟨w.heap.size,0,none⟩) [(a,b),(c,d),(e,f)]:=fun j hj=>⟨w.heap.size,0,rfl,by simp,by
 rw[World.cell?_alloc_at _ _ _ _ rfl]
 match j,hj with
 |0,_=>rfl
 |1,_=>rfl
 |2,_=>rfl,by
 rw[World.cell?_alloc_at _ _ _ _ rfl]
 match j,hj with
 |0,_=>rfl
 |1,_=>rfl
 |2,_=>rfl⟩
theorem rats2(w:World)(a b c d:Int)(T:TypeId):zBU (w.alloc (.cells #[.int .i64 a,.int .i64 b,.int .i64 c,.int .i64 d] T)) (some ⟨w.heap.size,0,none⟩) [(a,b),(c,d)]:=fun j hj=>⟨w.heap.size,0,rfl,by simp,by
 rw[World.cell?_alloc_at _ _ _ _ rfl]
 match j,hj with
 |0,_=>rfl
 |1,_=>rfl,by
 rw[World.cell?_alloc_at _ _ _ _ rfl]
 match j,hj with
 |0,_=>rfl
 |1,_=>rfl⟩
theorem awake5_c(w:World):Calls Tryz.prog 18 #[] w fun e w'=>e=.returned (.bool true)∧Below w.heap.size w w':=by
 go_enter Tryz.func18,Tryz.ntmps18
 go_upto_region 2 with (go_at_call 72;refine(two5_c _).mono ?_;rintro e w1 ⟨hb1,a,cap,rfl,hR⟩;refine Stop.of ?_)
 refine Stop.go ?_
 have hbA:Below w1.heap.size w1 (w1.alloc (.cells #[.int .i64 1,.int .i64 (-1)] 3)):=(Below.refl _ _).alloc (Nat.le_refl _) _
 have HV:=hid (dvalue_c (w1.alloc (.cells #[.int .i64 1,.int .i64 (-1)] 3)) a (some ⟨w1.heap.size,0,none⟩) 2 cap 2 2 twoM [1,-1] rfl rfl (by decide) (by decide) (hR.below hbA) (ints2 w1 1 (-1) _))
 rw[aw5_val]at HV
 have HB1:=hid (zAA hb1 hbA)
 clear hb1 hbA hR
 go_upto_region 2 with (go_at_call 19;refine HV.out.mono ?_;rintro e w2 ⟨rfl,hb2⟩;refine Stop.of ?_)
 refine Stop.go ?_
 have HB2:=hid (zAA HB1.out hb2)
 clear hb2 HB1 HV
 have hr:ratV (2,1)=.agg #[.int .i64 2,.int .i64 1]:=rfl
 rw[hr]
 clear hr
 go_upto_region 2 with fail
 go_upto_region 3 with (go_at_call 51;refine(zFS _ _).mono ?_;rintro e w3 ⟨rfl,hb3⟩;have HB3:=hid hb3;clear hb3;refine Stop.of ?_)
 refine Stop.go ?_
 go_upto_region 3 with (go_at_call 51;refine(zFS _ _).mono ?_;rintro e w4 ⟨rfl,hb4⟩;have HB4:=hid hb4;clear hb4;refine Stop.of ?_)
 refine Stop.go ?_
 go_upto_region 3 with (go_at_call 51;refine(zFS _ _).mono ?_;rintro e w5 ⟨rfl,hb5⟩;have HB5:=hid hb5;clear hb5;refine Stop.of ?_)
 refine Stop.go ?_
 go_upto_region 3 with (go_at_call 51;refine(zFS _ _).mono ?_;rintro e w6 ⟨rfl,hb6⟩;have HB6:=hid hb6;clear hb6;refine Stop.of ?_)
 refine Stop.go ?_
 go_upto_region 3 with (go_at_call 51;refine(zFS _ _).mono ?_;rintro e w7 ⟨rfl,hb7⟩;have HB7:=hid hb7;clear hb7;refine Stop.of ?_)
 refine Stop.go ?_
 go_upto_region 3 with fail
 have B25:Below (w2.alloc (.cells #[.int .i64 2,.int .i64 1] 29)).heap.size (w2.alloc (.cells #[.int .i64 2,.int .i64 1] 29)) w5:=zAA HB3.out (zAA HB4.out HB5.out)
 have B57:Below (w5.alloc (.cells #[.int .i64 0,.int .i64 1,.int .i64 1,.int .i64 1,.int .i64 0,.int .i64 1] 29)).heap.size (w5.alloc (.cells #[.int .i64 0,.int .i64 1,.int .i64 1,.int .i64 1,.int .i64 0,.int .i64 1] 29)) w7:=zAA HB6.out HB7.out
 have R2:=RatI.made w2 (2,1)
 have R5:RatI w5 w2.heap.size (2,1):=R2.keep (B25.block _ R2.lt)
 have bC:Below w5.heap.size w5 (w5.alloc (.cells #[.int .i64 0,.int .i64 1,.int .i64 1,.int .i64 1,.int .i64 0,.int .i64 1] 29)):=(Below.refl _ _).alloc (Nat.le_refl _) _
 have b57:Below w5.heap.size w5 w7:=zAA bC B57
 have R7:RatI w7 w2.heap.size (2,1):=R5.keep (b57.block _ R5.lt)
 have X7:zBU w7 (some ⟨w5.heap.size,0,none⟩) [(0,1),(1,1),(0,1)]:=(rats3 w5 0 1 1 1 0 1 29).below B57
 have bA:Below w2.heap.size w2 (w2.alloc (.cells #[.int .i64 2,.int .i64 1] 29)):=(Below.refl _ _).alloc (Nat.le_refl _) _
 have bw7:Below w.heap.size w w7:=zAA HB2.out (zAA bA (zAA B25 b57))
 obtain⟨b1,hb1⟩:=exq (w2.heap.size)
 obtain⟨ap,hap⟩:=exq (w5.heap.size)
 obtain⟨ax,hax⟩:=exq (w7.heap.size)
 obtain⟨b3,hb3⟩:=exq (w7.heap.size+1)
 obtain⟨wB,hwB⟩:=exq ((w7.alloc (.cells #[.int .i64 1,.int .i64 1,.int .i64 0,.int .i64 1] 29)).alloc (.cells #[.slice (some ⟨w5.heap.size,0,none⟩) 3 3,.slice (some ⟨w7.heap.size,0,none⟩) 2 2] 78))
 have bD:Below w7.heap.size w7 (w7.alloc (.cells #[.int .i64 1,.int .i64 1,.int .i64 0,.int .i64 1] 29)):=(Below.refl _ _).alloc (Nat.le_refl _) _
 have bB:Below w7.heap.size w7 wB:=by rw[hwB];exact bD.alloc bD.size _
 have bDB:Below (w7.alloc (.cells #[.int .i64 1,.int .i64 1,.int .i64 0,.int .i64 1] 29)).heap.size (w7.alloc (.cells #[.int .i64 1,.int .i64 1,.int .i64 0,.int .i64 1] 29)) wB:=by rw[hwB];exact(Below.refl _ _).alloc (Nat.le_refl _) _
 have HRB:=hid (R7.keep (bB.block _ R7.lt))
 have HPB:=hid (X7.below bB)
 have HXB:=hid ((rats2 w7 1 1 0 1 29).below bDB)
 have HLB:=hid (show wB.heap[w7.heap.size+1]? =some (.cells #[.slice (some ⟨w5.heap.size,0,none⟩) 3 3,.slice (some ⟨w7.heap.size,0,none⟩) 2 2] 78 (0,0))by
  have h:=World.alloc_heap_new (w7.alloc (.cells #[.int .i64 1,.int .i64 1,.int .i64 0,.int .i64 1] 29)) (.cells #[.slice (some ⟨w5.heap.size,0,none⟩) 3 3,.slice (some ⟨w7.heap.size,0,none⟩) 2 2] 78)
  rw[World.size_alloc]at h
  rw[hwB];exact h)
 have HBW:=hid (zAA bw7 bB)
 rw[<- hwB]
 rw[<- hb1]at HRB⊢
 rw[<- hb3]at HLB⊢
 rw[<- hap]at HPB HLB⊢
 rw[<- hax]at HXB HLB⊢
 clear B25 B57 R2 R5 bC b57 R7 X7 bA bw7 hb1 hap hax hb3 hwB bD bB bDB HB2 HB3 HB4 HB5 HB6 HB7
 have HS:=hid (fun(X:World) (hX:Below wB.heap.size wB X)=>show X.cell? ⟨b1,0,none⟩=some (.int .i64 2)∧X.cell? ⟨b1,1,none⟩=some (.int .i64 1)∧X.cell? ⟨b3,0,none⟩=some (.slice (some ⟨ap,0,none⟩) 3 3)∧X.cell? ⟨b3,1,none⟩=some (.slice (some ⟨ax,0,none⟩) 2 2)from by
  obtain⟨c0,c1,_⟩:=(HRB.out.keep (hX.block _ HRB.out.lt)).cells
  have h:=(hX.block _ (Array.getElem?_eq_some_iff.1 HLB.out).1).trans HLB.out
  exact⟨c0,c1,by simp[World.cell?,h],by simp[World.cell?,h]⟩)
 have HPV:=hid (fun(X:World) (a a3:Option Addr) (cap cap3:Nat) (hX:Below wB.heap.size wB X) (hR:zAJ X a twoM) (hY:zAE X a3 [1,1])=>dproves_c X a a3 (some ⟨ap,0,none⟩) (some ⟨ax,0,none⟩) 2 cap 2 cap3 3 3 2 2 twoM [1,1] [(0,1),(1,1),(0,1)] [(1,1),(0,1)] rfl rfl rfl rfl (by decide) (by decide) (by decide) (by decide) hR hY (HPB.out.below hX) (HXB.out.below hX))
 rw[aw5_prov]at HPV
 refine zAK (fun j X=>wAll j=true->X.cell? ⟨b1,0,none⟩=some (.int .i64 2)∧X.cell? ⟨b1,1,none⟩=some (.int .i64 1)∧X.cell? ⟨b3,0,none⟩=some (.slice (some ⟨ap,0,none⟩) 3 3)∧X.cell? ⟨b3,1,none⟩=some (.slice (some ⟨ax,0,none⟩) 2 2)) (by kernel_rfl) ?_
 have hbd:Below wB.heap.size wB wB.drew:=(Below.refl _ _).drew
 generalize wB.drew=wd at hbd⊢
 have HBD:=hid hbd
 clear hbd
 refine AnyT.nx (i:=0) rfl ?_
 go_wp2
 refine⟨fun _=>HS.out _ HBD.out,?_⟩
 refine AnyT.nx (i:=1) rfl ?_
 go_wp2
 refine⟨fun _=>HS.out _ HBD.out,?_⟩
 refine AnyT.nx (i:=2) rfl ?_
 go_wp2
 refine⟨fun _=>HS.out _ HBD.out,?_⟩
 refine AnyT.tD (i:=3) (v:=.agg #[.int .i64 2,.int .i64 1]) rfl rfl (by rintro w' ⟨q0,q1,q2,q3⟩;go_simp) (HS.out _ HBD.out) ?_;go_frame
 refine AnyT.nx (i:=4) rfl ?_
 go_wp2_with (go_at_call 51;refine(zFS _ _).mono ?_;rintro e w3 ⟨rfl,hb3⟩;have HB3:=hid (zAA HBD.out hb3);clear hb3;refine Stop.of ?_)
 refine Stop.go ?_
 go_wp2
 refine⟨fun _=>HS.out _ HB3.out,?_⟩
 refine AnyT.nx (i:=5) rfl ?_
 go_wp2
 refine⟨fun _=>HS.out _ HB3.out,?_⟩
 refine AnyT.nx (i:=6) rfl ?_
 go_wp2
 refine⟨fun _=>HS.out _ HB3.out,?_⟩
 refine AnyT.nx (i:=7) rfl ?_
 go_wp2
 refine⟨fun _=>HS.out _ HB3.out,?_⟩
 refine AnyT.tD (i:=10) (v:=.agg #[.slice (some ⟨ap,0,none⟩) 3 3,.slice (some ⟨ax,0,none⟩) 2 2]) rfl rfl (by rintro w' ⟨q0,q1,q2,q3⟩;go_simp) (HS.out _ HB3.out) ?_;go_frame
 refine AnyT.next2 (i:=8) (j:=9) (by kernel_rfl) (wpOp_of_list rfl ?_) (wpOp_of_list rfl ?_)
 ·go_wp2_with (go_at_call 72;refine(two5_c _).mono ?_;rintro e w4 ⟨hb4,a4,cap4,rfl,hR4⟩;have HB4:=hid (zAA HB3.out hb4);have HR4:=hid hR4;clear hb4 hR4;refine Stop.of ?_)
  refine Stop.go ?_
  go_wp2
  refine⟨fun _=>HS.out _ HB4.out,?_⟩
  refine AnyT.nx (i:=9) rfl ?_
  go_wp2
  have hb5:Below w4.heap.size w4 (w4.alloc (.cells #[.int .i64 1,.int .i64 1] 3)):=(Below.refl _ _).alloc (Nat.le_refl _) _
  have HB5:=hid (zAA HB4.out hb5)
  have HPV2:=hid (HPV.out _ a4 (some ⟨w4.heap.size,0,none⟩) cap4 2 HB5.out (HR4.out.below hb5) (ints2 w4 1 1 3))
  clear hb5
  refine⟨fun _=>HS.out _ HB5.out,?_⟩
  refine AnyT.nx (i:=11) rfl ?_
  go_wp2_with (go_at_call 61;refine HPV2.out.mono ?_;rintro e w8 ⟨rfl,hb8⟩;have HB8:=hid (zAA HB5.out hb8);clear hb8;refine Stop.of ?_)
  refine Stop.go ?_
  go_wp2
  refine⟨fun _=>HS.out _ HB8.out,?_⟩
  refine AnyT.nx (i:=12) rfl ?_
  go_wp2
  refine⟨fun _=>HS.out _ HB8.out,?_⟩
  refine AnyT.nx (i:=13) rfl ?_
  go_wp2
  refine⟨fun _=>HS.out _ HB8.out,?_⟩
  refine AnyT.done (by kernel_rfl) ?_ _
  go_wp2
  go_ret
  exact⟨rfl,zAA HBW.out HB8.out⟩
 ·go_wp2
  obtain⟨w4,hw4⟩:=exq (w3.alloc (.cells #[.int .i64 1,.int .i64 1] 3))
  have hb4:Below w3.heap.size w3 w4:=by rw[hw4];exact(Below.refl _ _).alloc (Nat.le_refl _) _
  have HY4:=hid (show zAE w4 (some ⟨w3.heap.size,0,none⟩) [1,1]by rw[hw4];exact ints2 w3 1 1 3)
  have HB4:=hid (zAA HB3.out hb4)
  rw[<- hw4]
  clear hb4 hw4
  refine⟨fun _=>HS.out _ HB4.out,?_⟩
  refine AnyT.nx (i:=8) rfl ?_
  go_wp2_with (go_at_call 72;refine(two5_c _).mono ?_;rintro e w5 ⟨hb5,a4,cap4,rfl,hR4⟩;have HB5:=hid (zAA HB4.out hb5);have HPV2:=hid (HPV.out _ a4 (some ⟨w3.heap.size,0,none⟩) cap4 2 HB5.out hR4 (HY4.out.below hb5));clear hb5 hR4;refine Stop.of ?_)
  refine Stop.go ?_
  go_wp2
  refine⟨fun _=>HS.out _ HB5.out,?_⟩
  refine AnyT.nx (i:=11) rfl ?_
  go_wp2_with (go_at_call 61;refine HPV2.out.mono ?_;rintro e w8 ⟨rfl,hb8⟩;have HB8:=hid (zAA HB5.out hb8);clear hb8;refine Stop.of ?_)
  refine Stop.go ?_
  go_wp2
  refine⟨fun _=>HS.out _ HB8.out,?_⟩
  refine AnyT.nx (i:=12) rfl ?_
  go_wp2
  refine⟨fun _=>HS.out _ HB8.out,?_⟩
  refine AnyT.nx (i:=13) rfl ?_
  go_wp2
  refine⟨fun _=>HS.out _ HB8.out,?_⟩
  refine AnyT.done (by kernel_rfl) ?_ _
  go_wp2
  go_ret
  exact⟨rfl,zAA HBW.out HB8.out⟩
end
section
open Go.RowKit
def AnyB(e:Ending):Prop:=∃b,e=.returned (.bool b)
theorem AnyB.of{e:Ending}(b:Bool)(h:e=.returned (.bool b)):AnyB e:=⟨b,h⟩
theorem long5_c(w:World)(a:Option Addr)(n cap:Nat)(L:List (List Int))(hn:L.length=n)(hm:n<=maxLen)(H:zAJ w a L):
 Calls Tryz.prog 25 #[.slice a n cap] w fun e w'=>AnyB e∧w=w':=by
 have HN:=hid hn
 have HH:=hid H
 clear hn H
 unfold maxLen at hm
 go_enter Tryz.func25,Tryz.ntmps25
 go_wp2
 go_loop [7] (fun i=>∃k:Nat,k<=n∧i=.int .i64 k) (fun i=>n-(intOf i).toNat)
 case atStart=>exact⟨0,Nat.zero_le _,rfl⟩
 case round=>
  obtain⟨k,hk,rfl⟩:=hrel
  by_cases hlt:k<n
  ·have hkl:k<L.length:=by rw[HN.out];exact hlt
   obtain⟨b,off,ra,rn,rc,rfl,hbs,hq0,hrn,hrm,hri⟩:=HH.out k hkl
   clear hrn hri hkl hrm
   by_cases h1:100<rn
   ·have hi:(100:Int)<(rn:Int):=by omega
    go_wp2
    go_ret
    exact⟨AnyB.of _ rfl,rfl⟩
   ·have hi:¬(100:Int)<(rn:Int):=by omega
    go_wp2
    go_round
    case rel=>exact⟨k+1,by omega,by go_num⟩
    case measure=>simp[intOf];omega
  ·go_wp2
   go_ret
   exact⟨AnyB.of _ rfl,rfl⟩
end
section
open Go.RowKit
theorem dualShades_c(w:World)(a:Option Addr)(n cap:Nat)(M:Mask)(hn:M.length=n)(hm:n<=maxLen)(H:zAJ w a M)(_:∀y∈M,∀z∈y,zHO z)
 (a2:Option Addr)(n2 cap2:Nat)(Y:List Int)(hn2:Y.length=n2)(hm2:n2<=maxLen)(H2:zAE w a2 Y)(_:∀z∈Y,zHO z)
 (a3:Option Addr)(n3 cap3:Nat)(Z:List Int)(hn3:Z.length=n3)(hm3:n3<=maxLen)(H3:zAE w a3 Z)(_:∀z∈Z,zHO z):
 Calls Tryz.prog 10 #[.slice a n cap,.slice a2 n2 cap2,.slice a3 n3 cap3] w fun e w'=>e=.returned (.bool true)∧Below w.heap.size w w':=by
 have HAW:=hid (fun X=>awake5_c X)
 have HLI:=hid (light_c w a n cap M hn hm H)
 have HLO:=hid (fun(X:World) (hX:Below w.heap.size w X)=>long5_c (X.alloc (.cells #[.slice a2 n2 cap2,.slice a3 n3 cap3] 24)) (some ⟨X.heap.size,0,none⟩) 2 2 [Y,Z] rfl (by decide) (rows_two 24 hn2 hn3 hm2 hm3 (H2.below hX) (H3.below hX)))
 have HD:=hid (fun(X:World) (hX:Below w.heap.size w X)=>dshades_c X a a2 a3 n cap n2 cap2 n3 cap3 M Y Z hn hn2 hn3 hm hm2 hm3 (H.below hX) (H2.below hX) (H3.below hX))
 have HR:=hid (fun(X:World) (hX:Below w.heap.size w X)=>r5shades_c X a a2 a3 n cap n2 cap2 n3 cap3 M Y Z hn hn2 hn3 hm hm2 hm3 (H.below hX) (H2.below hX) (H3.below hX))
 have HLT:=hid (fun(X:World) (hX:Below w.heap.size w X)=>dlight_c X a a2 n cap n2 cap2 M Y hn hn2 hm hm2 (H.below hX) (H2.below hX))
 have HLW:=hid (show zBZ M Y Z=true->zGE M Y=([],8)from fun h=>zKC (shade_eq h).1 (shade_dark h))
 obtain⟨E,hE⟩:=exq (zGE M Y)
 obtain⟨B,hB⟩:=exq (zBZ M Y Z)
 rw[<- hE]at HLT HLW
 rw[<- hB]at HD HR HLW
 clear hn hn2 hn3 H H2 H3 hE hB
 go_enter Tryz.func10,Tryz.ntmps10
 go_wp2_with (go_at_call 16;refine HLI.out.mono ?_;rintro e w1 ⟨⟨sb,rfl⟩,rfl⟩;refine Stop.of ?_)
 refine Stop.go ?_
 cases sb
 ·go_wp2_with (go_at_call 18;refine(HAW.out _).mono ?_;rintro e w2 ⟨rfl,hb2⟩)
  go_ret
  exact⟨rfl,hb2⟩
 go_wp2_with (go_at_call 25;refine(HLO.out _ (Below.refl _ _)).mono ?_;rintro e w1 ⟨⟨lb,rfl⟩,rfl⟩;refine Stop.of ?_)
 refine Stop.go ?_
 obtain⟨wa,hwa⟩:=exq (w.alloc (.cells #[.slice a2 n2 cap2,.slice a3 n3 cap3] 24))
 have HBA:=hid (show Below w.heap.size w wa by rw[hwa];exact(Below.refl _ _).alloc (Nat.le_refl _) _)
 rw[<- hwa]
 clear hwa
 cases lb
 rotate_left
 ·go_wp2_with (go_at_call 18;refine(HAW.out _).mono ?_;rintro e w2 ⟨rfl,hb2⟩)
  go_ret
  exact⟨rfl,zAA HBA.out hb2⟩
 go_wp2_with (go_at_call 55;refine(HD.out _ HBA.out).mono ?_;rintro e w2 ⟨rfl,hb2⟩;have HB2:=hid (zAA HBA.out hb2);clear hb2;refine Stop.of ?_)
 refine Stop.go ?_
 go_wp2_with (go_at_call 56;refine(HR.out _ HB2.out).mono ?_;rintro e w3 ⟨rfl,hb3⟩;have HB3:=hid (zAA HB2.out hb3);clear hb3;refine Stop.of ?_)
 refine Stop.go ?_
 cases B
 ·go_wp2_with (go_at_call 18;refine(HAW.out _).mono ?_;rintro e w4 ⟨rfl,hb4⟩)
  go_ret
  exact⟨rfl,zAA HB3.out hb4⟩
 have hEE:=HLW.out rfl
 subst hEE
 go_wp2_with (go_at_call 57;refine(HLT.out _ HB3.out).mono ?_;rintro e w4 ⟨⟨b,c,rfl,_⟩,hb4⟩;have HB4:=hid (zAA HB3.out hb4);clear hb4;refine Stop.of ?_)
 refine Stop.go ?_
 go_wp2_with (go_at_call 18;refine(HAW.out _).mono ?_;rintro e w5 ⟨rfl,hb5⟩)
 go_ret
 exact⟨rfl,zAA HB4.out hb5⟩
end
end Go.Proofs.YtlffndehhhpgjaaGreat

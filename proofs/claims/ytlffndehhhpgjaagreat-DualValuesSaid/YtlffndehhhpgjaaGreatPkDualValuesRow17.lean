/- Walks and plain laws for DualValuesRow, part 17. -/
import Derived.Test.YtlffndehhhpgjaaGreatPkDualValuesRow16
namespace Go.Proofs.YtlffndehhhpgjaaGreat
set_option linter.unusedVariables false
set_option linter.unusedSimpArgs false
set_option maxRecDepth 100000
set_option maxHeartbeats 4000000
section
open Go.RowKit
theorem sameRats_c(w:World)(a a2:Option Addr)(n cap n2 cap2:Nat)(x y:List Rt)(hn:x.length=n)(hn2:y.length=n2)(hm:n<=maxLen)(hm2:n2<=maxLen)(H:zCD w a x)(H2:zCD w a2 y):
 Calls Tryz.prog 35 #[.slice a n cap,.slice a2 n2 cap2] w fun e w'=>e=.returned (.bool (decide (x=y)))∧Below w.heap.size w w':=by
 unfold maxLen at hm hm2
 obtain⟨E,hE⟩:=exq (decide (x=y))
 rw[<- hE]
 by_cases hl:n=n2
 rotate_left
 ·have hd:((n:Int) !=(n2:Int))=true:=by simp;omega
  have HE:=hid (show E=false from by rw[hE];exact decide_eq_false (fun h=>hl (by rw[<- hn,<- hn2,h])))
  clear hn hn2 H H2 hE hl
  go_enter Tryz.func35,Tryz.ntmps35
  go_wp2
  go_ret
  exact⟨by rw[HE.out]<;>rfl,Below.refl _ _⟩
 subst hl
 have hd:((n:Int) !=(n:Int))=false:=by simp
 have HYES:=hid (fun(h:∀j,j<n->x[j]? =y[j]?)=>show E=true from by
  rw[hE]
  refine decide_eq_true (List.ext_getElem? fun j=>?_)
  rcases Nat.lt_or_ge j n with k|k
  ·exact h j k
  ·rw[List.getElem?_eq_none (by omega),List.getElem?_eq_none (by omega)])
 have HNO:=hid (fun(j:Nat) (h:x[j]? ≠y[j]?)=>show E=false from by
  rw[hE];exact decide_eq_false (fun k=>h (by rw[k])))
 have HXI:=hid (fun(j:Nat) (hj:j<n)=>show ∃b off r,a=some ⟨b,off,none⟩∧x[j]? =some r∧∀Z:World,Below w.heap.size w Z->Z.cell? ⟨b,off+j*2,none⟩=some (.int .i64 r.1)∧Z.cell? ⟨b,off+j*2+1,none⟩=some (.int .i64 r.2)from by
  obtain⟨b,off,e,hb,c0,c1⟩:=H j (by omega)
  exact⟨b,off,x[j]'(by omega),e,List.getElem?_eq_getElem (by omega),fun Z hZ=>⟨(hZ.cell (p:=⟨b,_,none⟩) hb).trans c0,(hZ.cell (p:=⟨b,_,none⟩) hb).trans c1⟩⟩)
 have HYI:=hid (fun(j:Nat) (hj:j<n)=>show ∃b off r,a2=some ⟨b,off,none⟩∧y[j]? =some r∧∀Z:World,Below w.heap.size w Z->Z.cell? ⟨b,off+j*2,none⟩=some (.int .i64 r.1)∧Z.cell? ⟨b,off+j*2+1,none⟩=some (.int .i64 r.2)from by
  obtain⟨b,off,e,hb,c0,c1⟩:=H2 j (by omega)
  exact⟨b,off,y[j]'(by omega),e,List.getElem?_eq_getElem (by omega),fun Z hZ=>⟨(hZ.cell (p:=⟨b,_,none⟩) hb).trans c0,(hZ.cell (p:=⟨b,_,none⟩) hb).trans c1⟩⟩)
 clear hn hn2 H H2 hE
 go_enter Tryz.func35,Tryz.ntmps35
 go_wp2
 go_loopw [13] (fun i wr=>∃k:Nat,k<=n∧i=.int .i64 k∧Below w.heap.size w wr∧Hid (∀j,j<k->x[j]? =y[j]?)) (fun i _=>n-(intOf i).toNat)
 case atStart=>exact⟨0,Nat.zero_le _,rfl,Below.refl _ _,hid fun j hj=>by omega⟩
 case round=>
  obtain⟨k,hk,rfl,hbk,HK⟩:=hrel
  have HBK:=hid hbk
  by_cases hlt:k<n
  ·obtain⟨b,off,⟨x1,x2⟩,rfl,ex,hx⟩:=HXI.out k hlt
   obtain⟨b2,off2,⟨y1,y2⟩,rfl,ey,hy⟩:=HYI.out k hlt
   have HX:=hid hx
   have HY:=hid hy
   have HNE:=hid (fun(h:¬((x1,x2):Rt)=(y1,y2))=>HNO.out k (by rw[ex,ey];intro e;exact h (Option.some.inj e)))
   have HEQ:=hid (fun(h:((x1,x2):Rt)=(y1,y2))=>show ∀j,j<k+1->x[j]? =y[j]? from fun j hj=>by
    rcases Nat.lt_or_ge j k with c|c
    ·exact HK.out j c
    ·obtain rfl:j=k:=by omega
     rw[ex,ey,h])
   have i0:(0:Int)<=(k:Int):=by omega
   have i1:(k:Int)<(n:Int):=by omega
   have HS:=hid (fun(Z:World) (hZ:Below wr.heap.size wr Z)=>And.intro (HX.out Z (zAA HBK.out hZ)) (HY.out Z (zAA HBK.out hZ)))
   clear ex ey hx hy hbk
   go_upto_region 6 with fail
   refine zAF (fun j' Z=>wAll j'=true->(Z.cell? ⟨b,off+k*2,none⟩=some (.int .i64 x1)∧Z.cell? ⟨b,off+k*2+1,none⟩=some (.int .i64 x2))∧Z.cell? ⟨b2,off2+k*2,none⟩=some (.int .i64 y1)∧Z.cell? ⟨b2,off2+k*2+1,none⟩=some (.int .i64 y2)) (by kernel_rfl) ?_
   have hbd:Below wr.heap.size wr wr.drew:=(Below.refl _ _).drew
   generalize wr.drew=wd at hbd⊢
   have HBD:=hid hbd
   clear hbd
   refine AnyT.tD (i:=0) (v:=.slice (some ⟨b,off,none⟩) n cap) rfl rfl (by rintro w' ⟨⟨q0,q1⟩,q2,q3⟩;go_simp) (HS.out _ HBD.out) ?_;go_frame
   refine AnyT.tD (i:=1) (v:=.int .i64 k) rfl rfl (by rintro w' ⟨⟨q0,q1⟩,q2,q3⟩;go_simp) (HS.out _ HBD.out) ?_;go_frame
   refine AnyT.tD (i:=2) (v:=.pointer (some ⟨b,off+k*2,none⟩)) rfl rfl (by rintro w' ⟨⟨q0,q1⟩,q2,q3⟩;go_simp) (HS.out _ HBD.out) ?_;go_frame
   refine AnyT.tD (i:=3) (v:=.agg #[.int .i64 x1,.int .i64 x2]) rfl rfl (by rintro w' ⟨⟨q0,q1⟩,q2,q3⟩;go_simp) (HS.out _ HBD.out) ?_;go_frame
   refine AnyT.tD (i:=4) (v:=.slice (some ⟨b2,off2,none⟩) n cap2) rfl rfl (by rintro w' ⟨⟨q0,q1⟩,q2,q3⟩;go_simp) (HS.out _ HBD.out) ?_;go_frame
   refine AnyT.tD (i:=5) (v:=.int .i64 k) rfl rfl (by rintro w' ⟨⟨q0,q1⟩,q2,q3⟩;go_simp) (HS.out _ HBD.out) ?_;go_frame
   refine AnyT.tD (i:=6) (v:=.pointer (some ⟨b2,off2+k*2,none⟩)) rfl rfl (by rintro w' ⟨⟨q0,q1⟩,q2,q3⟩;go_simp) (HS.out _ HBD.out) ?_;go_frame
   refine AnyT.tD (i:=7) (v:=.agg #[.int .i64 y1,.int .i64 y2]) rfl rfl (by rintro w' ⟨⟨q0,q1⟩,q2,q3⟩;go_simp) (HS.out _ HBD.out) ?_;go_frame
   by_cases c1:x1=y1
   ·by_cases c2:x2=y2
    ·subst c1
     subst c2
     have HE:=hid (HEQ.out rfl)
     refine AnyT.nx (i:=8) rfl ?_
     go_wp2
     refine⟨fun _=>HS.out _ HBD.out,?_⟩
     refine AnyT.done (by kernel_rfl) ?_ _
     go_wp2
     exact⟨⟨k+1,by omega,by go_num,zAA HBK.out HBD.out,HE⟩,by simp[intOf];omega⟩
    ·have HE:=hid (HNE.out (fun h=>c2 (by cases h;rfl)))
     have c2':(x2==y2)=false:=by simpa using c2
     subst c1
     refine AnyT.nx (i:=8) rfl ?_
     go_wp2
     refine⟨fun _=>HS.out _ HBD.out,?_⟩
     refine AnyT.done (by kernel_rfl) ?_ _
     go_wp2
     go_ret
     exact⟨by rw[HE.out]<;>rfl,zAA HBK.out HBD.out⟩
   ·have HE:=hid (HNE.out (fun h=>c1 (by cases h;rfl)))
    have c1':(x1==y1)=false:=by simpa using c1
    refine AnyT.nx (i:=8) rfl ?_
    go_wp2
    refine⟨fun _=>HS.out _ HBD.out,?_⟩
    refine AnyT.done (by kernel_rfl) ?_ _
    go_wp2
    go_ret
    exact⟨by rw[HE.out]<;>rfl,zAA HBK.out HBD.out⟩
  ·obtain rfl:k=n:=by omega
   have HE:=hid (HYES.out HK.out)
   have i1:¬((k:Int)<(k:Int)):=by omega
   clear hbk
   go_wp2
   go_ret
   exact⟨by rw[HE.out]<;>rfl,HBK.out⟩
end
section
open Go.RowKit
theorem samePics_t(w:World)(a a2:Option Addr)(n cap cap2:Nat)(L:List (List Rt))(hn:L.length=n)(hm:n<=11264)(H:zGY w a L)(H2:zGY w a2 L):
 Calls Tryz.prog 41 #[.slice a n cap,.slice a2 n cap2] w fun e w'=>e=.returned (.bool true)∧Below w.heap.size w w':=by
 have hd:((n:Int) !=(n:Int))=false:=by simp
 have HXI:=hid (fun(j:Nat) (hj:j<n)=>show ∃b off ra m c b2 off2 ra2 m2 c2,a=some ⟨b,off,none⟩∧a2=some ⟨b2,off2,none⟩∧(∀Z:World,Below w.heap.size w Z->Z.cell? ⟨b,off+j,none⟩=some (.slice ra m c)∧Z.cell? ⟨b2,off2+j,none⟩=some (.slice ra2 m2 c2))∧
  ∀Z:World,Below w.heap.size w Z->Calls Tryz.prog 35 #[.slice ra m c,.slice ra2 m2 c2] Z fun e w'=>e=.returned (.bool true)∧Below Z.heap.size Z w' from by
  obtain⟨b,off,ra,m,c,e,hb,g0,g1,g2,g3⟩:=H j (by omega)
  obtain⟨b2,off2,ra2,m2,c2,f,hb2,f0,f1,f2,f3⟩:=H2 j (by omega)
  refine⟨b,off,ra,m,c,b2,off2,ra2,m2,c2,e,f,fun Z hZ=>⟨(hZ.cell (p:=⟨b,_,none⟩) hb).trans g0,(hZ.cell (p:=⟨b2,_,none⟩) hb2).trans f0⟩,fun Z hZ=>?_⟩
  have h:=sameRats_c Z ra ra2 m c m2 c2 (L[j]'(by omega)) (L[j]'(by omega)) g1 f1 g2 f2 (g3.below hZ) (f3.below hZ)
  simpa using h)
 clear hn H H2
 go_enter Tryz.func41,Tryz.ntmps41
 go_wp2
 go_loopw [13] (fun i wr=>∃k:Nat,k<=n∧i=.int .i64 k∧Below w.heap.size w wr) (fun i _=>n-(intOf i).toNat)
 case atStart=>exact⟨0,Nat.zero_le _,rfl,Below.refl _ _⟩
 case round=>
  obtain⟨k,hk,rfl,hbk⟩:=hrel
  have HBK:=hid hbk
  by_cases hlt:k<n
  ·obtain⟨b,off,ra,m,c,b2,off2,ra2,m2,c2,rfl,rfl,hx,hs⟩:=HXI.out k hlt
   have HX:=hid hx
   have HSR:=hid hs
   have i0:(0:Int)<=(k:Int):=by omega
   have i1:(k:Int)<(n:Int):=by omega
   have HS:=hid (fun(Z:World) (hZ:Below wr.heap.size wr Z)=>HX.out Z (zAA HBK.out hZ))
   clear hx hs hbk
   go_upto_region 6 with fail
   refine zAF (fun j' Z=>wAll j'=true->Z.cell? ⟨b,off+k,none⟩=some (.slice ra m c)∧Z.cell? ⟨b2,off2+k,none⟩=some (.slice ra2 m2 c2)) (by kernel_rfl) ?_
   have hbd:Below wr.heap.size wr wr.drew:=(Below.refl _ _).drew
   generalize wr.drew=wd at hbd⊢
   have HBD:=hid hbd
   clear hbd
   refine AnyT.tD (i:=0) (v:=.slice (some ⟨b,off,none⟩) n cap) rfl rfl (by rintro w' ⟨q0,q1⟩;go_simp) (HS.out _ HBD.out) ?_;go_frame
   refine AnyT.tD (i:=1) (v:=.int .i64 k) rfl rfl (by rintro w' ⟨q0,q1⟩;go_simp) (HS.out _ HBD.out) ?_;go_frame
   refine AnyT.tD (i:=2) (v:=.pointer (some ⟨b,off+k,none⟩)) rfl rfl (by rintro w' ⟨q0,q1⟩;go_simp) (HS.out _ HBD.out) ?_;go_frame
   refine AnyT.tD (i:=3) (v:=.slice ra m c) rfl rfl (by rintro w' ⟨q0,q1⟩;go_simp) (HS.out _ HBD.out) ?_;go_frame
   refine AnyT.tD (i:=4) (v:=.slice (some ⟨b2,off2,none⟩) n cap2) rfl rfl (by rintro w' ⟨q0,q1⟩;go_simp) (HS.out _ HBD.out) ?_;go_frame
   refine AnyT.tD (i:=5) (v:=.int .i64 k) rfl rfl (by rintro w' ⟨q0,q1⟩;go_simp) (HS.out _ HBD.out) ?_;go_frame
   refine AnyT.tD (i:=6) (v:=.pointer (some ⟨b2,off2+k,none⟩)) rfl rfl (by rintro w' ⟨q0,q1⟩;go_simp) (HS.out _ HBD.out) ?_;go_frame
   refine AnyT.tD (i:=7) (v:=.slice ra2 m2 c2) rfl rfl (by rintro w' ⟨q0,q1⟩;go_simp) (HS.out _ HBD.out) ?_;go_frame
   refine AnyT.nx (i:=8) rfl ?_
   go_wp2_with (go_at_call 35;refine(HSR.out _ (zAA HBK.out HBD.out)).mono ?_;rintro e w5 ⟨rfl,hb5⟩;refine Stop.of ?_)
   refine Stop.go ?_
   have HB5:=hid (zAA HBD.out hb5)
   clear hb5
   go_wp2
   refine⟨fun _=>HS.out _ HB5.out,?_⟩
   refine AnyT.nx (i:=9) rfl ?_
   go_wp2
   refine⟨fun _=>HS.out _ HB5.out,?_⟩
   refine AnyT.done (by kernel_rfl) ?_ _
   go_wp2
   exact⟨⟨k+1,by omega,by go_num,zAA HBK.out HB5.out⟩,by simp[intOf];omega⟩
  ·obtain rfl:k=n:=by omega
   have i1:¬((k:Int)<(k:Int)):=by omega
   clear hbk
   go_wp2
   go_ret
   exact⟨rfl,HBK.out⟩
end
section
open Go.RowKit
theorem two5_c(w:World):Calls Tryz.prog 72 #[] w fun e w'=>Below w.heap.size w w'∧∃a cap,e=.returned (.slice a 2 cap)∧zAM w' a twoM:=by
 go_enter Tryz.func72,Tryz.ntmps72
 go_wp2
 go_ret
 exact⟨(((Below.refl _ _).alloc (Nat.le_refl _) _).alloc (by simp) _).alloc (by simp;omega) _,_,_,rfl,two_rows w⟩
theorem zGZ(w:World)(n:Int):Calls Tryz.prog 51 #[.int .i64 n] w fun e w'=>e=.returned (.agg #[.int .i64 n,.int .i64 1])∧Below w.heap.size w w':=by
 obtain⟨rb,hrb⟩:=exq (w.heap.size)
 obtain⟨wz,hwz⟩:=exq (w.alloc (.cells #[.int .i64 0,.int .i64 0] 29))
 have hbz:Below w.heap.size w wz:=by rw[hwz];exact(Below.refl _ _).alloc (Nat.le_refl _) _
 have hrz:RatI wz rb (0,0):=by rw[hwz,hrb];exact RatI.made w (0,0)
 obtain⟨r0,r1,r2,r3,r4⟩:=hrz.cells
 have X1:=hid (RatI.set (p:=(n,1)) hrz)
 have X2:=hid ((zBV wz rb (.int .i64 n) (.int .i64 1)).below hbz hbz.size (fun k hk=>by show k≠rb;omega))
 have HWZ:=hid hwz
 clear hwz hrz hbz
 go_enter Tryz.func51,Tryz.ntmps51
 go_upto_region 1 with fail
 rw[<- hrb,<- HWZ.out]
 clear hrb
 go_wp2
 clear r0 r1 r2 r3 r4
 generalize (wz.setCell ⟨rb,0,none⟩ (.int .i64 n)).setCell ⟨rb,1,none⟩ (.int .i64 1)=WF at X1 X2⊢
 obtain⟨t0,t1,t2,t3,t4⟩:=X1.out.cells
 refine bodyPost_ret (v:=.agg #[.int .i64 n,.int .i64 1]) ?_ rfl ⟨rfl,X2.out⟩
 simp[results,Tryz.results51,go_sem,t0,t1,t2,t3,t4]
theorem aw5_val:valE twoM [1,-1]=((2,1),0):=by decide+kernel
theorem aw5_prov:zDO twoM [1,1] [(0,1),(1,1),(0,1)] [(1,1),(0,1)]=true:=by decide+kernel
theorem ints2(w:World)(x y:Int)(T:TypeId):zAI (w.alloc (.cells #[.int .i64 x,.int .i64 y] T)) (some ⟨w.heap.size,0,none⟩) [x,y]:=fun j hj=>⟨w.heap.size,0,rfl,by simp,by
 rw[World.cell?_alloc_at _ _ _ _ rfl]
 match j,hj with
 |0,_=>rfl
 |1,_=>rfl⟩
theorem rats3(w:World)(a b c d e f:Int)(T:TypeId):zCD (w.alloc (.cells #[.int .i64 a,.int .i64 b,.int .i64 c,.int .i64 d,.int .i64 e,.int .i64 f] T)) (some ⟨w.heap.size,0,none⟩) [(a,b),(c,d),(e,f)]:=fun j hj=>⟨w.heap.size,0,rfl,by simp,by
 rw[World.cell?_alloc_at _ _ _ _ rfl]
 match j,hj with
 |0,_=>rfl
 |1,_=>rfl
 |2,_=>rfl,by
 rw[World.cell?_alloc_at _ _ _ _ rfl]
 match j,hj with
 |0,_=>rfl
 |1,_=>rfl
 |2,_=>rfl⟩
theorem rats2(w:World)(a b c d:Int)(T:TypeId):zCD (w.alloc (.cells #[.int .i64 a,.int .i64 b,.int .i64 c,.int .i64 d] T)) (some ⟨w.heap.size,0,none⟩) [(a,b),(c,d)]:=fun j hj=>⟨w.heap.size,0,rfl,by simp,by
 rw[World.cell?_alloc_at _ _ _ _ rfl]
 match j,hj with
 |0,_=>rfl
 |1,_=>rfl,by
 rw[World.cell?_alloc_at _ _ _ _ rfl]
 match j,hj with
 |0,_=>rfl
 |1,_=>rfl⟩
theorem awake5_c(w:World):Calls Tryz.prog 18 #[] w fun e w'=>e=.returned (.bool true)∧Below w.heap.size w w':=by
 go_enter Tryz.func18,Tryz.ntmps18
 go_upto_region 2 with (go_at_call 72;refine(two5_c _).mono ?_;rintro e w1 ⟨hb1,a,cap,rfl,hR⟩;refine Stop.of ?_)
 refine Stop.go ?_
 have hbA:Below w1.heap.size w1 (w1.alloc (.cells #[.int .i64 1,.int .i64 (-1)] 3)):=(Below.refl _ _).alloc (Nat.le_refl _) _
 have HV:=hid (dvalue_c (w1.alloc (.cells #[.int .i64 1,.int .i64 (-1)] 3)) a (some ⟨w1.heap.size,0,none⟩) 2 cap 2 2 twoM [1,-1] rfl rfl (by decide) (by decide) (hR.below hbA) (ints2 w1 1 (-1) _))
 rw[aw5_val]at HV
 have HB1:=hid (zAA hb1 hbA)
 clear hb1 hbA hR
 go_upto_region 2 with (go_at_call 19;refine HV.out.mono ?_;rintro e w2 ⟨rfl,hb2⟩;refine Stop.of ?_)
 refine Stop.go ?_
 have HB2:=hid (zAA HB1.out hb2)
 clear hb2 HB1 HV
 have hr:ratV (2,1)=.agg #[.int .i64 2,.int .i64 1]:=rfl
 rw[hr]
 clear hr
 go_upto_region 2 with fail
 go_upto_region 3 with (go_at_call 51;refine(zGZ _ _).mono ?_;rintro e w3 ⟨rfl,hb3⟩;have HB3:=hid hb3;clear hb3;refine Stop.of ?_)
 refine Stop.go ?_
 go_upto_region 3 with (go_at_call 51;refine(zGZ _ _).mono ?_;rintro e w4 ⟨rfl,hb4⟩;have HB4:=hid hb4;clear hb4;refine Stop.of ?_)
 refine Stop.go ?_
 go_upto_region 3 with (go_at_call 51;refine(zGZ _ _).mono ?_;rintro e w5 ⟨rfl,hb5⟩;have HB5:=hid hb5;clear hb5;refine Stop.of ?_)
 refine Stop.go ?_
 go_upto_region 3 with (go_at_call 51;refine(zGZ _ _).mono ?_;rintro e w6 ⟨rfl,hb6⟩;have HB6:=hid hb6;clear hb6;refine Stop.of ?_)
 refine Stop.go ?_
 go_upto_region 3 with (go_at_call 51;refine(zGZ _ _).mono ?_;rintro e w7 ⟨rfl,hb7⟩;have HB7:=hid hb7;clear hb7;refine Stop.of ?_)
 refine Stop.go ?_
 go_upto_region 3 with fail
 have B25:Below (w2.alloc (.cells #[.int .i64 2,.int .i64 1] 29)).heap.size (w2.alloc (.cells #[.int .i64 2,.int .i64 1] 29)) w5:=zAA HB3.out (zAA HB4.out HB5.out)
 have B57:Below (w5.alloc (.cells #[.int .i64 0,.int .i64 1,.int .i64 1,.int .i64 1,.int .i64 0,.int .i64 1] 29)).heap.size (w5.alloc (.cells #[.int .i64 0,.int .i64 1,.int .i64 1,.int .i64 1,.int .i64 0,.int .i64 1] 29)) w7:=zAA HB6.out HB7.out
 have R2:=RatI.made w2 (2,1)
 have R5:RatI w5 w2.heap.size (2,1):=R2.keep (B25.block _ R2.lt)
 have bC:Below w5.heap.size w5 (w5.alloc (.cells #[.int .i64 0,.int .i64 1,.int .i64 1,.int .i64 1,.int .i64 0,.int .i64 1] 29)):=(Below.refl _ _).alloc (Nat.le_refl _) _
 have b57:Below w5.heap.size w5 w7:=zAA bC B57
 have R7:RatI w7 w2.heap.size (2,1):=R5.keep (b57.block _ R5.lt)
 have X7:zCD w7 (some ⟨w5.heap.size,0,none⟩) [(0,1),(1,1),(0,1)]:=(rats3 w5 0 1 1 1 0 1 29).below B57
 have bA:Below w2.heap.size w2 (w2.alloc (.cells #[.int .i64 2,.int .i64 1] 29)):=(Below.refl _ _).alloc (Nat.le_refl _) _
 have bw7:Below w.heap.size w w7:=zAA HB2.out (zAA bA (zAA B25 b57))
 obtain⟨b1,hb1⟩:=exq (w2.heap.size)
 obtain⟨ap,hap⟩:=exq (w5.heap.size)
 obtain⟨ax,hax⟩:=exq (w7.heap.size)
 obtain⟨b3,hb3⟩:=exq (w7.heap.size+1)
 obtain⟨wB,hwB⟩:=exq ((w7.alloc (.cells #[.int .i64 1,.int .i64 1,.int .i64 0,.int .i64 1] 29)).alloc (.cells #[.slice (some ⟨w5.heap.size,0,none⟩) 3 3,.slice (some ⟨w7.heap.size,0,none⟩) 2 2] 78))
 have bD:Below w7.heap.size w7 (w7.alloc (.cells #[.int .i64 1,.int .i64 1,.int .i64 0,.int .i64 1] 29)):=(Below.refl _ _).alloc (Nat.le_refl _) _
 have bB:Below w7.heap.size w7 wB:=by rw[hwB];exact bD.alloc bD.size _
 have bDB:Below (w7.alloc (.cells #[.int .i64 1,.int .i64 1,.int .i64 0,.int .i64 1] 29)).heap.size (w7.alloc (.cells #[.int .i64 1,.int .i64 1,.int .i64 0,.int .i64 1] 29)) wB:=by rw[hwB];exact(Below.refl _ _).alloc (Nat.le_refl _) _
 have HRB:=hid (R7.keep (bB.block _ R7.lt))
 have HPB:=hid (X7.below bB)
 have HXB:=hid ((rats2 w7 1 1 0 1 29).below bDB)
 have HLB:=hid (show wB.heap[w7.heap.size+1]? =some (.cells #[.slice (some ⟨w5.heap.size,0,none⟩) 3 3,.slice (some ⟨w7.heap.size,0,none⟩) 2 2] 78 (0,0))by
  have h:=World.alloc_heap_new (w7.alloc (.cells #[.int .i64 1,.int .i64 1,.int .i64 0,.int .i64 1] 29)) (.cells #[.slice (some ⟨w5.heap.size,0,none⟩) 3 3,.slice (some ⟨w7.heap.size,0,none⟩) 2 2] 78)
  rw[World.size_alloc]at h
  rw[hwB];exact h)
 have HBW:=hid (zAA bw7 bB)
 rw[<- hwB]
 rw[<- hb1]at HRB⊢
 rw[<- hb3]at HLB⊢
 rw[<- hap]at HPB HLB⊢
 rw[<- hax]at HXB HLB⊢
 clear B25 B57 R2 R5 bC b57 R7 X7 bA bw7 hb1 hap hax hb3 hwB bD bB bDB HB2 HB3 HB4 HB5 HB6 HB7
 have HS:=hid (fun(X:World) (hX:Below wB.heap.size wB X)=>show X.cell? ⟨b1,0,none⟩=some (.int .i64 2)∧X.cell? ⟨b1,1,none⟩=some (.int .i64 1)∧X.cell? ⟨b3,0,none⟩=some (.slice (some ⟨ap,0,none⟩) 3 3)∧X.cell? ⟨b3,1,none⟩=some (.slice (some ⟨ax,0,none⟩) 2 2)from by
  obtain⟨c0,c1,_⟩:=(HRB.out.keep (hX.block _ HRB.out.lt)).cells
  have h:=(hX.block _ (Array.getElem?_eq_some_iff.1 HLB.out).1).trans HLB.out
  exact⟨c0,c1,by simp[World.cell?,h],by simp[World.cell?,h]⟩)
 have HPV:=hid (fun(X:World) (a a3:Option Addr) (cap cap3:Nat) (hX:Below wB.heap.size wB X) (hR:zAM X a twoM) (hY:zAI X a3 [1,1])=>dproves_c X a a3 (some ⟨ap,0,none⟩) (some ⟨ax,0,none⟩) 2 cap 2 cap3 3 3 2 2 twoM [1,1] [(0,1),(1,1),(0,1)] [(1,1),(0,1)] rfl rfl rfl rfl (by decide) (by decide) (by decide) (by decide) hR hY (HPB.out.below hX) (HXB.out.below hX))
 rw[aw5_prov]at HPV
 refine zAF (fun j X=>wAll j=true->X.cell? ⟨b1,0,none⟩=some (.int .i64 2)∧X.cell? ⟨b1,1,none⟩=some (.int .i64 1)∧X.cell? ⟨b3,0,none⟩=some (.slice (some ⟨ap,0,none⟩) 3 3)∧X.cell? ⟨b3,1,none⟩=some (.slice (some ⟨ax,0,none⟩) 2 2)) (by kernel_rfl) ?_
 have hbd:Below wB.heap.size wB wB.drew:=(Below.refl _ _).drew
 generalize wB.drew=wd at hbd⊢
 have HBD:=hid hbd
 clear hbd
 refine AnyT.nx (i:=0) rfl ?_
 go_wp2
 refine⟨fun _=>HS.out _ HBD.out,?_⟩
 refine AnyT.nx (i:=1) rfl ?_
 go_wp2
 refine⟨fun _=>HS.out _ HBD.out,?_⟩
 refine AnyT.nx (i:=2) rfl ?_
 go_wp2
 refine⟨fun _=>HS.out _ HBD.out,?_⟩
 refine AnyT.tD (i:=3) (v:=.agg #[.int .i64 2,.int .i64 1]) rfl rfl (by rintro w' ⟨q0,q1,q2,q3⟩;go_simp) (HS.out _ HBD.out) ?_;go_frame
 refine AnyT.nx (i:=4) rfl ?_
 go_wp2_with (go_at_call 51;refine(zGZ _ _).mono ?_;rintro e w3 ⟨rfl,hb3⟩;have HB3:=hid (zAA HBD.out hb3);clear hb3;refine Stop.of ?_)
 refine Stop.go ?_
 go_wp2
 refine⟨fun _=>HS.out _ HB3.out,?_⟩
 refine AnyT.nx (i:=5) rfl ?_
 go_wp2
 refine⟨fun _=>HS.out _ HB3.out,?_⟩
 refine AnyT.nx (i:=6) rfl ?_
 go_wp2
 refine⟨fun _=>HS.out _ HB3.out,?_⟩
 refine AnyT.nx (i:=7) rfl ?_
 go_wp2
 refine⟨fun _=>HS.out _ HB3.out,?_⟩
 refine AnyT.tD (i:=10) (v:=.agg #[.slice (some ⟨ap,0,none⟩) 3 3,.slice (some ⟨ax,0,none⟩) 2 2]) rfl rfl (by rintro w' ⟨q0,q1,q2,q3⟩;go_simp) (HS.out _ HB3.out) ?_;go_frame
 refine AnyT.next2 (i:=8) (j:=9) (by kernel_rfl) (wpOp_of_list rfl ?_) (wpOp_of_list rfl ?_)
 ·go_wp2_with (go_at_call 72;refine(two5_c _).mono ?_;rintro e w4 ⟨hb4,a4,cap4,rfl,hR4⟩;have HB4:=hid (zAA HB3.out hb4);have HR4:=hid hR4;clear hb4 hR4;refine Stop.of ?_)
  refine Stop.go ?_
  go_wp2
  refine⟨fun _=>HS.out _ HB4.out,?_⟩
  refine AnyT.nx (i:=9) rfl ?_
  go_wp2
  have hb5:Below w4.heap.size w4 (w4.alloc (.cells #[.int .i64 1,.int .i64 1] 3)):=(Below.refl _ _).alloc (Nat.le_refl _) _
  have HB5:=hid (zAA HB4.out hb5)
  have HPV2:=hid (HPV.out _ a4 (some ⟨w4.heap.size,0,none⟩) cap4 2 HB5.out (HR4.out.below hb5) (ints2 w4 1 1 3))
  clear hb5
  refine⟨fun _=>HS.out _ HB5.out,?_⟩
  refine AnyT.nx (i:=11) rfl ?_
  go_wp2_with (go_at_call 61;refine HPV2.out.mono ?_;rintro e w8 ⟨rfl,hb8⟩;have HB8:=hid (zAA HB5.out hb8);clear hb8;refine Stop.of ?_)
  refine Stop.go ?_
  go_wp2
  refine⟨fun _=>HS.out _ HB8.out,?_⟩
  refine AnyT.nx (i:=12) rfl ?_
  go_wp2
  refine⟨fun _=>HS.out _ HB8.out,?_⟩
  refine AnyT.nx (i:=13) rfl ?_
  go_wp2
  refine⟨fun _=>HS.out _ HB8.out,?_⟩
  refine AnyT.done (by kernel_rfl) ?_ _
  go_wp2
  go_ret
  exact⟨rfl,zAA HBW.out HB8.out⟩
 ·go_wp2
  obtain⟨w4,hw4⟩:=exq (w3.alloc (.cells #[.int .i64 1,.int .i64 1] 3))
  have hb4:Below w3.heap.size w3 w4:=by rw[hw4];exact(Below.refl _ _).alloc (Nat.le_refl _) _
  have HY4:=hid (show zAI w4 (some ⟨w3.heap.size,0,none⟩) [1,1]by rw[hw4];exact ints2 w3 1 1 3)
  have HB4:=hid (zAA HB3.out hb4)
  rw[<- hw4]
  clear hb4 hw4
  refine⟨fun _=>HS.out _ HB4.out,?_⟩
  refine AnyT.nx (i:=8) rfl ?_
  go_wp2_with (go_at_call 72;refine(two5_c _).mono ?_;rintro e w5 ⟨hb5,a4,cap4,rfl,hR4⟩;have HB5:=hid (zAA HB4.out hb5);have HPV2:=hid (HPV.out _ a4 (some ⟨w3.heap.size,0,none⟩) cap4 2 HB5.out hR4 (HY4.out.below hb5));clear hb5 hR4;refine Stop.of ?_)
  refine Stop.go ?_
  go_wp2
  refine⟨fun _=>HS.out _ HB5.out,?_⟩
  refine AnyT.nx (i:=11) rfl ?_
  go_wp2_with (go_at_call 61;refine HPV2.out.mono ?_;rintro e w8 ⟨rfl,hb8⟩;have HB8:=hid (zAA HB5.out hb8);clear hb8;refine Stop.of ?_)
  refine Stop.go ?_
  go_wp2
  refine⟨fun _=>HS.out _ HB8.out,?_⟩
  refine AnyT.nx (i:=12) rfl ?_
  go_wp2
  refine⟨fun _=>HS.out _ HB8.out,?_⟩
  refine AnyT.nx (i:=13) rfl ?_
  go_wp2
  refine⟨fun _=>HS.out _ HB8.out,?_⟩
  refine AnyT.done (by kernel_rfl) ?_ _
  go_wp2
  go_ret
  exact⟨rfl,zAA HBW.out HB8.out⟩
end
section
open Go.RowKit
def AnyB(e:Ending):Prop:=∃b,e=.returned (.bool b)
theorem AnyB.of{e:Ending}(b:Bool)(h:e=.returned (.bool b)):AnyB e:=⟨b,h⟩
theorem long5_c(w:World)(a:Option Addr)(n cap:Nat)(L:List (List Int))(hn:L.length=n)(hm:n<=maxLen)(H:zAM w a L):
 Calls Tryz.prog 25 #[.slice a n cap] w fun e w'=>AnyB e∧w=w':=by
 have HN:=hid hn
 have HH:=hid H
 clear hn H
 unfold maxLen at hm
 go_enter Tryz.func25,Tryz.ntmps25
 go_wp2
 go_loop [7] (fun i=>∃k:Nat,k<=n∧i=.int .i64 k) (fun i=>n-(intOf i).toNat)
 case atStart=>exact⟨0,Nat.zero_le _,rfl⟩
 case round=>
  obtain⟨k,hk,rfl⟩:=hrel
  by_cases hlt:k<n
  ·have hkl:k<L.length:=by rw[HN.out];exact hlt
   obtain⟨b,off,ra,rn,rc,rfl,hbs,hq0,hrn,hrm,hri⟩:=HH.out k hkl
   clear hrn hri hkl hrm
   by_cases h1:100<rn
   ·have hi:(100:Int)<(rn:Int):=by omega
    go_wp2
    go_ret
    exact⟨AnyB.of _ rfl,rfl⟩
   ·have hi:¬(100:Int)<(rn:Int):=by omega
    go_wp2
    go_round
    case rel=>exact⟨k+1,by omega,by go_num⟩
    case measure=>simp[intOf];omega
  ·go_wp2
   go_ret
   exact⟨AnyB.of _ rfl,rfl⟩
end
section
open Go.RowKit
theorem dualValues_c(w:World)(a:Option Addr)(n cap:Nat)(M:Mask)(hn:M.length=n)(hm:n<=maxLen)(H:zAM w a M)(_:∀y∈M,∀z∈y,zKN z)
 (a2:Option Addr)(n2 cap2:Nat)(Y:List Int)(hn2:Y.length=n2)(hm2:n2<=maxLen)(H2:zAI w a2 Y)(_:∀z∈Y,zKN z):
 Calls Tryz.prog 6 #[.slice a n cap,.slice a2 n2 cap2] w fun e w'=>e=.returned (.bool true)∧Below w.heap.size w w':=by
 have HAW:=hid (fun X=>awake5_c X)
 have HLI:=hid (light_c w a n cap M hn hm H)
 have HLO:=hid (fun(X:World) (hX:Below w.heap.size w X)=>long5_c (X.alloc (.cells #[.slice a2 n2 cap2] 24)) (some ⟨X.heap.size,0,none⟩) 1 1 [Y] rfl (by decide) (rows_one hn2 hm2 (H2.below hX)))
 have HD:=hid (fun(X:World) (hX:Below w.heap.size w X)=>dvalue_c X a a2 n cap n2 cap2 M Y hn hn2 hm hm2 (H.below hX) (H2.below hX))
 have HR:=hid (fun(X:World) (hX:Below w.heap.size w X)=>r5Value_c X a a2 n cap n2 cap2 M Y hn hn2 hm hm2 (H.below hX) (H2.below hX))
 have HUD:=hid (fun(X:World) (hX:Below w.heap.size w X)=>dunique_c X a a2 n cap n2 cap2 M Y hn hn2 hm hm2 (H.below hX) (H2.below hX))
 have HUR:=hid (fun(X:World) (hX:Below w.heap.size w X)=>r5unique_c X a a2 n cap n2 cap2 M Y hn hn2 hm hm2 (H.below hX) (H2.below hX))
 have HCD0:=hid (fun(X:World) (hX:Below w.heap.size w X)=>dcorners_c X a a2 n cap n2 cap2 M Y hn hn2 hm hm2 (H.below hX) (H2.below hX))
 have HCR0:=hid (fun(X:World) (hX:Below w.heap.size w X)=>r5Corners_c X a a2 n cap n2 cap2 M Y hn hn2 hm hm2 (H.below hX) (H2.below hX))
 obtain⟨R,hR⟩:=exq (valE M Y)
 obtain⟨L,hL⟩:=exq (zCZ M Y)
 obtain⟨U,hU⟩:=exq (decide (zPA M Y=1))
 rw[<- hR]at HD HR HUD HUR
 rw[<- hU]at HUD HUR
 obtain⟨⟨r1,r2⟩,V⟩:=R
 simp only[ratV]at HD HR HUD HUR
 have hV:(valE M Y).2=V:=by rw[<- hR]
 have HCD:=hid (fun(X:World) (hX:Below w.heap.size w X)=>show Calls Tryz.prog 37 #[.slice a n cap,.slice a2 n2 cap2] X fun e w'=>(∃b c,e=.returned (.tuple #[.slice b L.length c,.int .i64 V])∧L.length<=11264∧zGY w' b L)∧Below X.heap.size X w' from by
  refine(HCD0.out X hX).mono ?_
  rintro e w' ⟨⟨b,c,he,h1,h2⟩,hb⟩
  rw[hL]
  exact⟨⟨b,c,by rw[he,hV],h1,h2⟩,hb⟩)
 have HCR:=hid (fun(X:World) (hX:Below w.heap.size w X)=>show Calls Tryz.prog 38 #[.slice a n cap,.slice a2 n2 cap2] X fun e w'=>(∃b c,e=.returned (.tuple #[.slice b L.length c,.int .i64 V])∧L.length<=11264∧zGY w' b L)∧Below X.heap.size X w' from by
  refine(HCR0.out X hX).mono ?_
  rintro e w' ⟨⟨b,c,he,h1,h2⟩,hb⟩
  rw[hL]
  exact⟨⟨b,c,by rw[he,hV],h1,h2⟩,hb⟩)
 clear hn hn2 H H2 hR hL hU hV HCD0 HCR0
 go_enter Tryz.func6,Tryz.ntmps6
 go_wp2_with (go_at_call 16;refine HLI.out.mono ?_;rintro e w1 ⟨⟨sb,rfl⟩,rfl⟩;refine Stop.of ?_)
 refine Stop.go ?_
 cases sb
 ·go_wp2_with (go_at_call 18;refine(HAW.out _).mono ?_;rintro e w2 ⟨rfl,hb2⟩)
  go_ret
  exact⟨rfl,hb2⟩
 go_wp2_with (go_at_call 25;refine(HLO.out _ (Below.refl _ _)).mono ?_;rintro e w1 ⟨⟨lb,rfl⟩,rfl⟩;refine Stop.of ?_)
 refine Stop.go ?_
 obtain⟨wa,hwa⟩:=exq (w.alloc (.cells #[.slice a2 n2 cap2] 24))
 have HBA:=hid (show Below w.heap.size w wa by rw[hwa];exact(Below.refl _ _).alloc (Nat.le_refl _) _)
 rw[<- hwa]
 clear hwa
 cases lb
 rotate_left
 ·go_wp2_with (go_at_call 18;refine(HAW.out _).mono ?_;rintro e w2 ⟨rfl,hb2⟩)
  go_ret
  exact⟨rfl,zAA HBA.out hb2⟩
 go_upto_region 4 with (go_at_call 19;refine(HD.out _ HBA.out).mono ?_;rintro e w2 ⟨rfl,hb2⟩;have HB2:=hid (zAA HBA.out hb2);clear hb2;refine Stop.of ?_)
 refine Stop.go ?_
 go_upto_region 4 with fail
 obtain⟨b,hb⟩:=exq (w2.heap.size)
 obtain⟨w3,hw3⟩:=exq (w2.alloc (.cells #[.int .i64 r1,.int .i64 r2] 29))
 rw[<- hb,<- hw3]
 have A1:=hid (show RatI w3 b (r1,r2)from by rw[hw3,hb];exact RatI.made w2 (r1,r2))
 have HB3:=hid (show Below w.heap.size w w3 by rw[hw3];exact HB2.out.alloc HB2.out.size _)
 clear hb hw3
 go_upto_region 5 with (go_at_call 36;refine(HR.out _ HB3.out).mono ?_;rintro e w4 ⟨rfl,hb4⟩;have HB4:=hid hb4;clear hb4;refine Stop.of ?_)
 refine Stop.go ?_
 go_upto_region 5 with fail
 obtain⟨c,hc⟩:=exq (w4.heap.size)
 obtain⟨w5,hw5⟩:=exq (w4.alloc (.cells #[.int .i64 r1,.int .i64 r2] 29))
 rw[<- hc,<- hw5]
 have C1:=hid (show RatI w5 c (r1,r2)from by rw[hw5,hc];exact RatI.made w4 (r1,r2))
 have h35:Below w3.heap.size w3 w5:=by rw[hw5];exact HB4.out.alloc HB4.out.size _
 have B1:=hid (A1.out.keep (h35.block _ A1.out.lt))
 have HB5:=hid (zAA HB3.out h35)
 clear hc hw5 h35
 go_upto_region 6 with (go_at_call 37;refine(HCD.out _ HB5.out).mono ?_;rintro e w6 ⟨⟨fa,fc,rfl,hfm,hfi⟩,hb6⟩;have HB6:=hid hb6;have FI:=hid hfi;have FM:=hid hfm;clear hb6 hfi hfm;refine Stop.of ?_)
 refine Stop.go ?_
 go_upto_region 7 with (go_at_call 38;refine(HCR.out _ (zAA HB5.out HB6.out)).mono ?_;rintro e w7 ⟨⟨ga,gc,rfl,hgm,hgi⟩,hb7⟩;have HB7:=hid hb7;have GI:=hid hgi;clear hb7 hgi hgm;refine Stop.of ?_)
 refine Stop.go ?_
 go_upto_region 8 with (go_at_call 39;refine(HUD.out _ (zAA HB5.out (zAA HB6.out HB7.out))).mono ?_;rintro e w8 ⟨rfl,hb8⟩;have HB8:=hid (zAA HB7.out hb8);have HB78:=hid hb8;clear hb8;refine Stop.of ?_)
 refine Stop.go ?_
 go_upto_region 9 with (go_at_call 40;refine(HUR.out _ (zAA HB5.out (zAA HB6.out HB8.out))).mono ?_;rintro e w9 ⟨rfl,hb9⟩;have HB9:=hid (zAA HB8.out hb9);have HB79:=hid (zAA HB78.out hb9);clear hb9;refine Stop.of ?_)
 refine Stop.go ?_
 go_upto_region 9 with fail
 have hb59:=zAA HB6.out HB9.out
 have HSI:=hid (samePics_t w9 fa ga L.length fc gc L rfl FM.out (FI.out.below HB9.out) (GI.out.below HB79.out))
 obtain⟨x0,x1,_⟩:=(B1.out.keep (hb59.block _ B1.out.lt)).cells
 obtain⟨x4,x5,_⟩:=(C1.out.keep (hb59.block _ C1.out.lt)).cells
 simp only[]at x0 x1 x4 x5
 have HBW:=hid (zAA HB5.out hb59)
 clear hb59
 go_wp2_with (first
  | (go_at_call 41;refine HSI.out.mono ?_;rintro e wA ⟨rfl,hbA⟩)
  | (go_at_call 18;refine(HAW.out _).mono ?_;rintro e wB ⟨rfl,hbB⟩))
 go_ret
 exact⟨rfl,zAA HBW.out (zAA hbA hbB)⟩
end
end Go.Proofs.YtlffndehhhpgjaaGreat

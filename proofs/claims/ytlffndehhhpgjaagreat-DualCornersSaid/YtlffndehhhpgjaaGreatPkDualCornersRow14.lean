/- Walks and plain laws for DualCornersRow, part 14. -/
import Derived.Test.YtlffndehhhpgjaaGreatPkDualCornersRow13
namespace Go.Proofs.YtlffndehhhpgjaaGreat
set_option linter.unusedVariables false
set_option linter.unusedSimpArgs false
set_option maxRecDepth 100000
set_option maxHeartbeats 4000000
section
open Go.RowKit
theorem SumB.setN{w:World}{g:Nat}{n d m a b:Int}(h:SumB w g n d)(pm:WP m a b):SumB ((w.setCell ⟨g,0,none⟩ (.int .i64 a)).setCell ⟨g,1,none⟩ (.int .u64 b)) g m d:=by
 unfold SumB
 rw[zAP (zAP h 0 _) 1 _,pm.1,pm.2]
 simp
theorem zIY(w:World)(b:Nat)(x y z t:Value):Keep (fun g=>g≠b) w ((((w.setCell ⟨b,0,none⟩ x).setCell ⟨b,1,none⟩ y).setCell ⟨b,2,none⟩ z).setCell ⟨b,3,none⟩ t):=
 (((Keep.set w b 0 x).trans (Keep.set _ b 1 y)).trans (Keep.set _ b 2 z)).trans (Keep.set _ b 3 t)
def denOf(W:World)(s:Nat):Nat:=match W.heap[s]? with
 |some (.cells c _ _)=>(match c[2]?,c[3]? with|some (Value.int _ a),some (Value.int _ b)=>(a*18446744073709551616+b).toNat|_,_=>0)
 |_=>0
theorem denOf_eq{W:World}{s:Nat}{n d:Int}(h:SumB W s n d):denOf W s=d.toNat:=by
 unfold denOf
 unfold SumB at h
 rw[h]
 simp only[List.getElem?_toArray,List.getElem?_cons_zero,List.getElem?_cons_succ]
 congr 1
 omega
theorem zEM(n:Int):cmpI n 0<0↔n<0:=by unfold cmpI;split<;>(try split)<;>omega
theorem cmpI_sgn{n m d e:Int}(hd:0<d)(he:0<e)(h:n*e=m*d):cmpI n 0=cmpI m 0:=by
 rcases Int.lt_trichotomy n 0 with a|a|a<;>rcases Int.lt_trichotomy m 0 with b|b|b
 ·unfold cmpI;rw[if_pos a,if_pos b]
 ·subst b;have:=Int.mul_neg_of_neg_of_pos a he;omega
 ·have:=Int.mul_neg_of_neg_of_pos a he;have:=Int.mul_pos b hd;omega
 ·subst a;have:=Int.mul_neg_of_neg_of_pos b hd;omega
 ·rw[a,b]
 ·subst a;have:=Int.mul_pos b hd;omega
 ·have:=Int.mul_neg_of_neg_of_pos b hd;have:=Int.mul_pos a he;omega
 ·subst b;have:=Int.mul_pos a he;omega
 ·unfold cmpI;rw[if_neg (by omega),if_neg (by omega),if_neg (by omega),if_neg (by omega)]
theorem sequal_c(w:World)(n d m e:Int)(hn: -170141183460469231731687303715884105728<n∧n<170141183460469231731687303715884105728)(hm: -170141183460469231731687303715884105728<m∧m<170141183460469231731687303715884105728)
 (hd:0<d∧d<85070591730234615865843651857942052864)(he:0<e∧e<85070591730234615865843651857942052864):
 Calls Tryz.prog 124 #[sumV n d,sumV m e] w fun e' w'=>e'=.returned (.bool (decide (n*e=m*d)))∧Below w.heap.size w w':=by
 obtain⟨n1,n2,pn⟩:=WP.ex n
 obtain⟨d1,d2,pd⟩:=WP.ex d
 obtain⟨m1,m2,pm⟩:=WP.ex m
 obtain⟨e1,e2,pe⟩:=WP.ex e
 obtain⟨a1,a2,pa⟩:=WP.ex (-n)
 obtain⟨b1,b2,pb⟩:=WP.ex (-m)
 have HSN:=hid (show ∀X:World,Calls Tryz.prog 148 #[.agg #[.int .i64 n1,.int .u64 n2]] X fun e w'=>e=.returned (.int .i64 (cmpI n 0))∧Below X.heap.size X w' from fun X=>by
  have:=zJO X n hn
  rw[pn.val]at this;exact this)
 have HSM:=hid (show ∀X:World,Calls Tryz.prog 148 #[.agg #[.int .i64 m1,.int .u64 m2]] X fun e w'=>e=.returned (.int .i64 (cmpI m 0))∧Below X.heap.size X w' from fun X=>by
  have:=zJO X m hm
  rw[pm.val]at this;exact this)
 have HON:=hid (show ∀X:World,Calls Tryz.prog 149 #[.agg #[.int .i64 n1,.int .u64 n2]] X fun e w'=>e=.returned (.agg #[.int .i64 a1,.int .u64 a2])∧Below X.heap.size X w' from fun X=>by
  have:=zLV X n hn
  rw[pn.val,pa.val]at this;exact this)
 have HOM:=hid (show ∀X:World,Calls Tryz.prog 149 #[.agg #[.int .i64 m1,.int .u64 m2]] X fun e w'=>e=.returned (.agg #[.int .i64 b1,.int .u64 b2])∧Below X.heap.size X w' from fun X=>by
  have:=zLV X m hm
  rw[pm.val,pb.val]at this;exact this)
 rw[pn.sum pd,pm.sum pe]
 obtain⟨s,hs⟩:=exq (w.heap.size)
 obtain⟨wz,hwz⟩:=exq ((w.alloc (.cells #[.int .i64 n1,.int .u64 n2,.int .i64 d1,.int .u64 d2] 102)).alloc (.cells #[.int .i64 m1,.int .u64 m2,.int .i64 e1,.int .u64 e2] 102))
 have hsz:wz.heap.size=s+2:=by rw[hwz,hs];simp
 have SZ:SumB wz s n d:=by
  rw[hwz,hs]
  exact(SumB.made w pn pd).keep (Below.heap_alloc _ _ _ (by simp))
 have TZ:SumB wz (s+1) m e:=by
  have h:=SumB.made (w.alloc (.cells #[.int .i64 n1,.int .u64 n2,.int .i64 d1,.int .u64 d2] 102)) pm pe
  rw[World.size_alloc]at h
  rw[hwz,hs];exact h
 have HBZ:=hid (show Below w.heap.size w wz by rw[hwz];exact((Below.refl _ _).alloc (Nat.le_refl _) _).alloc (by simp) _)
 have HSA:=hid (fun(X:World) (hX:Below wz.heap.size wz X)=>SZ.keep (hX.block _ SZ.lt))
 have HSB:=hid (fun(X:World) (hX:Below wz.heap.size wz X)=>TZ.keep (hX.block _ TZ.lt))
 have HSZ:=hid hsz
 have PN:=hid pn
 have PD:=hid pd
 have PM:=hid pm
 have PE:=hid pe
 have PA:=hid pa
 have PB:=hid pb
 have HSV:=hid hs
 have HBN:=hid (And.intro hn (And.intro hm (And.intro hd he)))
 have HWZ:=hid hwz
 clear hsz SZ TZ pn pd pm pe pa pb hn hm hd he hwz
 go_enter Tryz.func124,Tryz.ntmps124
 go_upto_region 1 with fail
 rw[<- hs,<- HWZ.out]
 clear hs
 refine zAF (fun _ _=>True) (by kernel_rfl) ?_
 obtain⟨wd,hwd⟩:=exq (wz.drew)
 have hbd:Below wz.heap.size wz wd:=by rw[hwd];exact(Below.refl _ _).drew
 rw[<- hwd]
 have HBD:=hid hbd
 clear hbd hwd
 refine zDU fun a0 ha0=>?_
 have hsz:a0.tmps.size=70:=by rw[ha0];rfl
 have v2:a0.eval (.tmp 2)=.pointer (some ⟨s,0,none⟩):=by rw[ha0];rfl
 have v3:a0.eval (.tmp 3)=.pointer (some ⟨s+1,0,none⟩):=by rw[ha0];rfl
 have HA0:=hid ha0
 clear ha0
 refine AnyT.regF [9,10,11,12,13,14,15] (fun l f W=>(l 0=true->f 9=.pointer (some ⟨s,0,none⟩))∧(l 1=true->f 10=.agg #[.int .i64 n1,.int .u64 n2])∧(l 2=true->f 11=.int .i64 (cmpI n 0))∧(l 3=true->f 12=.pointer (some ⟨s+1,0,none⟩))∧(l 4=true->f 13=.agg #[.int .i64 m1,.int .u64 m2])∧(l 5=true->f 14=.int .i64 (cmpI m 0))∧(l 6=true->f 15=.bool (cmpI n 0 !=cmpI m 0))∧(Below wd.heap.size wd W)) (by kernel_rfl) (by kernel_rfl) ?_ ?_ ?_
 ·have egS:∀args w,(callFunc 148 args).run Tryz.prog w=.ok (.enter 148 args) w:=enters_of Tryz.func148 (by kernel_rfl) rfl
  rintro l f W i o ho hi hd ⟨h0,h1,h2,h3,h4,h5,h6,hS⟩
  have e9:zAE a0 [9,10,11,12,13,14,15] f (.tmp 9)=f 9:=by simp[zAE,hsz]
  have e10:zAE a0 [9,10,11,12,13,14,15] f (.tmp 10)=f 10:=by simp[zAE,hsz]
  have e11:zAE a0 [9,10,11,12,13,14,15] f (.tmp 11)=f 11:=by simp[zAE,hsz]
  have e12:zAE a0 [9,10,11,12,13,14,15] f (.tmp 12)=f 12:=by simp[zAE,hsz]
  have e13:zAE a0 [9,10,11,12,13,14,15] f (.tmp 13)=f 13:=by simp[zAE,hsz]
  have e14:zAE a0 [9,10,11,12,13,14,15] f (.tmp 14)=f 14:=by simp[zAE,hsz]
  have e15:zAE a0 [9,10,11,12,13,14,15] f (.tmp 15)=f 15:=by simp[zAE,hsz]
  have w2:zAE a0 [9,10,11,12,13,14,15] f (.tmp 2)=.pointer (some ⟨s,0,none⟩):=by simp[zAE,v2]
  have w3:zAE a0 [9,10,11,12,13,14,15] f (.tmp 3)=.pointer (some ⟨s+1,0,none⟩):=by simp[zAE,v3]
  have eFS:zAE a0 [9,10,11,12,13,14,15] f (.func 148)=.func (.func 148) #[] #[]:=rfl
  obtain⟨a0',a1',a2',a3',af⟩:=(HSA.out _ (zAA HBD.out hS)).cells PN.out PD.out
  obtain⟨b0,b1,b2,b3,bf⟩:=(HSB.out _ (zAA HBD.out hS)).cells PM.out PE.out
  clear af bf
  rcases i with _|_|_|_|_|_|_|i
  ·replace ho:=Option.some.inj ho
   subst ho
   refine zAO.val (w':=W) (v:=.pointer (some ⟨s,0,none⟩)) rfl (by go_simp) ⟨fun _=>rfl,h1,h2,h3,h4,h5,h6,hS⟩
  ·replace ho:=Option.some.inj ho
   subst ho
   have k0:=h0 (hd {on:=0,ground:=.data} (by simp) (by kernel_rfl))
   rw[k0]at e9
   refine zAO.val (w':=W) (v:=.agg #[.int .i64 n1,.int .u64 n2]) rfl (by go_simp) ⟨h0,fun _=>rfl,h2,h3,h4,h5,h6,hS⟩
  ·replace ho:=Option.some.inj ho
   subst ho
   have k1:=h1 (hd {on:=1,ground:=.data} (by simp) (by kernel_rfl))
   rw[k1]at e10
   refine zAO.call (g:=148) (args:=#[.agg #[.int .i64 n1,.int .u64 n2]]) (w':=W) rfl (by simp[execOp,resolve,invoke,go_sem,e10,eFS,egS]) ((HSN.out W).mono ?_)
   rintro e' w4 ⟨rfl,hb4⟩
   exact⟨_,rfl,h0,h1,fun _=>rfl,h3,h4,h5,h6,zAA hS hb4⟩
  ·replace ho:=Option.some.inj ho
   subst ho
   refine zAO.val (w':=W) (v:=.pointer (some ⟨s+1,0,none⟩)) rfl (by go_simp) ⟨h0,h1,h2,fun _=>rfl,h4,h5,h6,hS⟩
  ·replace ho:=Option.some.inj ho
   subst ho
   have k3:=h3 (hd {on:=3,ground:=.data} (by simp) (by kernel_rfl))
   rw[k3]at e12
   refine zAO.val (w':=W) (v:=.agg #[.int .i64 m1,.int .u64 m2]) rfl (by go_simp) ⟨h0,h1,h2,h3,fun _=>rfl,h5,h6,hS⟩
  ·replace ho:=Option.some.inj ho
   subst ho
   have k4:=h4 (hd {on:=4,ground:=.data} (by simp) (by kernel_rfl))
   rw[k4]at e13
   refine zAO.call (g:=148) (args:=#[.agg #[.int .i64 m1,.int .u64 m2]]) (w':=W) rfl (by simp[execOp,resolve,invoke,go_sem,e13,eFS,egS]) ((HSM.out W).mono ?_)
   rintro e' w4 ⟨rfl,hb4⟩
   exact⟨_,rfl,h0,h1,h2,h3,h4,fun _=>rfl,h6,zAA hS hb4⟩
  ·replace ho:=Option.some.inj ho
   subst ho
   have k2:=h2 (hd {on:=2,ground:=.data} (by simp) (by kernel_rfl))
   rw[k2]at e11
   have k5:=h5 (hd {on:=5,ground:=.data} (by simp) (by kernel_rfl))
   rw[k5]at e14
   refine zAO.val (w':=W) (v:=.bool (cmpI n 0 !=cmpI m 0)) rfl (by go_simp) ⟨h0,h1,h2,h3,h4,h5,fun _=>rfl,hS⟩
  ·exact absurd ho (by simp)
 ·rintro l f W hall ⟨h0,h1,h2,h3,h4,h5,h6,hS⟩
  have HB:=hid (zAA HBD.out hS)
  have f15:=h6 (hall 6 (by decide))
  clear h0 h1 h2 h3 h4 h5 h6 hS hall
  rw[HA0.out]
  simp only[zDG,List.foldl_cons,List.foldl_nil,Act.put,List.setIfInBounds_toArray,List.set_cons_succ,List.set_cons_zero]
  rw[f15]
  generalize f 9=z9,f 10=z10,f 11=z11,f 12=z12,f 13=z13,f 14=z14
  clear f15 hsz v2 v3 HA0
  by_cases hsg:cmpI n 0=cmpI m 0
  rotate_left
  ·have hne:(cmpI n 0 !=cmpI m 0)=true:=by simpa using hsg
   have hno:decide (n*e=m*d)=false:=by
    rw[decide_eq_false_iff_not]
    exact fun h=>hsg (cmpI_sgn HBN.out.2.2.1.1 HBN.out.2.2.2.1 h)
   have HNO:=hid hno
   have HBF:=hid (zAA HBZ.out HB.out)
   rw[hne]
   clear hno hsg hne
   go_wp2
   go_ret
   exact⟨by rw[HNO.out];rfl,HBF.out⟩
  have hne:(cmpI n 0 !=cmpI m 0)=false:=by simp[hsg]
  rw[hne]
  have HSG:=hid hsg
  clear hne hsg
  have HAW:=hid (HSA.out _ HB.out)
  have HBW2:=hid (HSB.out _ HB.out)
  obtain⟨x0,x1,x2,x3,xf⟩:=HAW.out.cells PN.out PD.out
  clear xf
  go_upto_if 19 with (go_at_call 148;refine(HSN.out _).mono ?_;rintro e' w3 ⟨rfl,hb3⟩;have HB3:=hid hb3;clear hb3;refine Stop.of ?_)
  refine Stop.go ?_
  go_upto_if 19 with fail
  have HA3:=hid (HAW.out.keep (HB3.out.block _ HAW.out.lt))
  have HT3:=hid (HBW2.out.keep (HB3.out.block _ HBW2.out.lt))
  have HBF:=hid (zAA HBZ.out (zAA HB.out HB3.out))
  clear x0 x1 x2 x3
  obtain⟨NN,hNN⟩:∃NN:Int,NN=(n.natAbs:Int):=⟨_,rfl⟩
  obtain⟨MM,hMM⟩:∃MM:Int,MM=(m.natAbs:Int):=⟨_,rfl⟩
  have HNN:=hid hNN
  have HMM:=hid hMM
  clear hNN hMM
  go_cut [4]from 20 to 27 (fun v wx=>v=.bool false∧SumB wx s NN d∧SumB wx (s+1) MM e∧Below w.heap.size w wx)
  case first=>
   by_cases hneg:n<0
   ·have hsn:cmpI n 0<0:=(zEM n).2 hneg
    have hsm:m<0:=(zEM m).1 (by rw[<- HSG.out];exact hsn)
    have HNM:=hid (And.intro hneg hsm)
    clear hneg hsm
    go_upto_region 4 with fail
    clear hsn
    refine zAF (fun _ _=>True) (by kernel_rfl) ?_
    obtain⟨wd,hwd⟩:=exq (w3.drew)
    have hbd:Below w3.heap.size w3 wd:=by rw[hwd];exact(Below.refl _ _).drew
    rw[<- hwd]
    have HBD:=hid hbd
    have HAD:=hid (HA3.out.keep (hbd.block _ HA3.out.lt))
    have HBD2:=hid (HT3.out.keep (hbd.block _ HT3.out.lt))
    clear hbd hwd
    refine zDU fun a0 ha0=>?_
    have hsz:a0.tmps.size=70:=by rw[ha0];rfl
    have v2:a0.eval (.tmp 2)=.pointer (some ⟨s,0,none⟩):=by rw[ha0];rfl
    have v3:a0.eval (.tmp 3)=.pointer (some ⟨s+1,0,none⟩):=by rw[ha0];rfl
    have HA0:=hid ha0
    clear ha0
    refine AnyT.regF [20,21,22,23,24,25,26,27] (fun l f W=>(l 0=true->f 20=.pointer (some ⟨s,0,none⟩))∧(l 1=true->f 21=.agg #[.int .i64 n1,.int .u64 n2])∧(l 2=true->f 22=.agg #[.int .i64 a1,.int .u64 a2])∧(l 3=true->f 23=.pointer (some ⟨s+1,0,none⟩))∧(l 4=true->f 24=.agg #[.int .i64 m1,.int .u64 m2])∧(l 5=true->f 25=.agg #[.int .i64 b1,.int .u64 b2])∧(l 6=true->f 26=.pointer (some ⟨s,0,none⟩))∧(l 8=true->f 27=.pointer (some ⟨s+1,0,none⟩))∧(Keep (fun k=>k≠s∧k≠s+1) wd W)∧(SumB W s (if l 7=true then-n else n) d)∧(SumB W (s+1) (if l 9=true then-m else m) e)∧(l 2=true->l 1=true)∧(l 7=true->l 2=true)∧(l 5=true->l 4=true)∧(l 9=true->l 5=true)) (by kernel_rfl) (by kernel_rfl) ?_ ?_ ?_
    ·have egO:∀args w,(callFunc 149 args).run Tryz.prog w=.ok (.enter 149 args) w:=enters_of Tryz.func149 (by kernel_rfl) rfl
     rintro l f W i o ho hi hd ⟨h0,h1,h2,h3,h4,h5,h6,h8,hK,hA,hB,i21,i72,i54,i95⟩
     have e20:zAE a0 [20,21,22,23,24,25,26,27] f (.tmp 20)=f 20:=by simp[zAE,hsz]
     have e21:zAE a0 [20,21,22,23,24,25,26,27] f (.tmp 21)=f 21:=by simp[zAE,hsz]
     have e22:zAE a0 [20,21,22,23,24,25,26,27] f (.tmp 22)=f 22:=by simp[zAE,hsz]
     have e23:zAE a0 [20,21,22,23,24,25,26,27] f (.tmp 23)=f 23:=by simp[zAE,hsz]
     have e24:zAE a0 [20,21,22,23,24,25,26,27] f (.tmp 24)=f 24:=by simp[zAE,hsz]
     have e25:zAE a0 [20,21,22,23,24,25,26,27] f (.tmp 25)=f 25:=by simp[zAE,hsz]
     have e26:zAE a0 [20,21,22,23,24,25,26,27] f (.tmp 26)=f 26:=by simp[zAE,hsz]
     have e27:zAE a0 [20,21,22,23,24,25,26,27] f (.tmp 27)=f 27:=by simp[zAE,hsz]
     have w2:zAE a0 [20,21,22,23,24,25,26,27] f (.tmp 2)=.pointer (some ⟨s,0,none⟩):=by simp[zAE,v2]
     have w3:zAE a0 [20,21,22,23,24,25,26,27] f (.tmp 3)=.pointer (some ⟨s+1,0,none⟩):=by simp[zAE,v3]
     have eFO:zAE a0 [20,21,22,23,24,25,26,27] f (.func 149)=.func (.func 149) #[] #[]:=rfl
     rcases i with _|_|_|_|_|_|_|_|_|_|i
     ·replace ho:=Option.some.inj ho
      subst ho
      refine zAO.val (w':=W) (v:=.pointer (some ⟨s,0,none⟩)) rfl (by go_simp) ⟨fun _=>rfl,h1,h2,h3,h4,h5,h6,h8,hK,hA,hB,i21,i72,i54,i95⟩
     ·replace ho:=Option.some.inj ho
      subst ho
      have k0:=h0 (hd {on:=0,ground:=.data} (by simp) (by kernel_rfl))
      rw[k0]at e20
      have l7:l 7=false:=by
       cases h:l 7 with
       |false=>rfl
       |true=>rw[i21 (i72 h)]at hi;cases hi
      rw[l7]at hA
      obtain⟨x0,x1,x2,x3,xf⟩:=SumB.cells (n:=n) (d:=d) hA PN.out PD.out
      rw[<- l7]at hA
      clear xf
      refine zAO.val (w':=W) (v:=.agg #[.int .i64 n1,.int .u64 n2]) rfl (by go_simp) ⟨h0,fun _=>rfl,h2,h3,h4,h5,h6,h8,hK,hA,hB,fun _=>rfl,i72,i54,i95⟩
     ·replace ho:=Option.some.inj ho
      subst ho
      have k1:=h1 (hd {on:=1,ground:=.data} (by simp) (by kernel_rfl))
      rw[k1]at e21
      refine zAO.call (g:=149) (args:=#[.agg #[.int .i64 n1,.int .u64 n2]]) (w':=W) rfl (by simp[execOp,resolve,invoke,go_sem,e21,eFO,egO]) ((HON.out W).mono ?_)
      rintro e' w4 ⟨rfl,hb4⟩
      exact⟨_,rfl,h0,h1,fun _=>rfl,h3,h4,h5,h6,h8,hK.trans (Keep.of_below hb4),hA.keep (hb4.block _ hA.lt),hB.keep (hb4.block _ hB.lt),fun _=>hd {on:=1,ground:=.data} (by simp) (by kernel_rfl),fun _=>rfl,i54,i95⟩
     ·replace ho:=Option.some.inj ho
      subst ho
      refine zAO.val (w':=W) (v:=.pointer (some ⟨s+1,0,none⟩)) rfl (by go_simp) ⟨h0,h1,h2,fun _=>rfl,h4,h5,h6,h8,hK,hA,hB,i21,i72,i54,i95⟩
     ·replace ho:=Option.some.inj ho
      subst ho
      have k3:=h3 (hd {on:=3,ground:=.data} (by simp) (by kernel_rfl))
      rw[k3]at e23
      have l9:l 9=false:=by
       cases h:l 9 with
       |false=>rfl
       |true=>rw[i54 (i95 h)]at hi;cases hi
      rw[l9]at hB
      obtain⟨x0,x1,x2,x3,xf⟩:=SumB.cells (n:=m) (d:=e) hB PM.out PE.out
      rw[<- l9]at hB
      clear xf
      refine zAO.val (w':=W) (v:=.agg #[.int .i64 m1,.int .u64 m2]) rfl (by go_simp) ⟨h0,h1,h2,h3,fun _=>rfl,h5,h6,h8,hK,hA,hB,i21,i72,fun _=>rfl,i95⟩
     ·replace ho:=Option.some.inj ho
      subst ho
      have k4:=h4 (hd {on:=4,ground:=.data} (by simp) (by kernel_rfl))
      rw[k4]at e24
      refine zAO.call (g:=149) (args:=#[.agg #[.int .i64 m1,.int .u64 m2]]) (w':=W) rfl (by simp[execOp,resolve,invoke,go_sem,e24,eFO,egO]) ((HOM.out W).mono ?_)
      rintro e' w4 ⟨rfl,hb4⟩
      exact⟨_,rfl,h0,h1,h2,h3,h4,fun _=>rfl,h6,h8,hK.trans (Keep.of_below hb4),hA.keep (hb4.block _ hA.lt),hB.keep (hb4.block _ hB.lt),i21,i72,fun _=>hd {on:=4,ground:=.data} (by simp) (by kernel_rfl),fun _=>rfl⟩
     ·replace ho:=Option.some.inj ho
      subst ho
      refine zAO.val (w':=W) (v:=.pointer (some ⟨s,0,none⟩)) rfl (by go_simp) ⟨h0,h1,h2,h3,h4,h5,fun _=>rfl,h8,hK,hA,hB,i21,i72,i54,i95⟩
     ·replace ho:=Option.some.inj ho
      subst ho
      have k2:=h2 (hd {on:=2,ground:=.data} (by simp) (by kernel_rfl))
      rw[k2]at e22
      have k6:=h6 (hd {on:=6,ground:=.data} (by simp) (by kernel_rfl))
      rw[k6]at e26
      rw[hi]at hA
      have hA':SumB W s n d:=hA
      obtain⟨x0,x1,x2,x3,xf⟩:=hA'.cells PN.out PD.out
      have y0:=xf 0
      have y1:=xf 1
      have hlt:=hA'.lt
      have K:=zBJ W s (.int .i64 a1) (.int .u64 a2)
      clear xf
      refine zAO.skip (w':=(W.setCell ⟨s,0,none⟩ (.int .i64 a1)).setCell ⟨s,1,none⟩ (.int .u64 a2)) rfl (by go_simp) ⟨h0,h1,h2,h3,h4,h5,h6,h8,hK.trans (K.mono fun k h=>h.1),SumB.setN hA' PA.out,hB.keep (K.block _ hB.lt (by show s+1≠s;omega)),i21,fun _=>hd {on:=2,ground:=.data} (by simp) (by kernel_rfl),i54,i95⟩
     ·replace ho:=Option.some.inj ho
      subst ho
      refine zAO.val (w':=W) (v:=.pointer (some ⟨s+1,0,none⟩)) rfl (by go_simp) ⟨h0,h1,h2,h3,h4,h5,h6,fun _=>rfl,hK,hA,hB,i21,i72,i54,i95⟩
     ·replace ho:=Option.some.inj ho
      subst ho
      have k5:=h5 (hd {on:=5,ground:=.data} (by simp) (by kernel_rfl))
      rw[k5]at e25
      have k8:=h8 (hd {on:=8,ground:=.data} (by simp) (by kernel_rfl))
      rw[k8]at e27
      rw[hi]at hB
      have hB':SumB W (s+1) m e:=hB
      obtain⟨x0,x1,x2,x3,xf⟩:=hB'.cells PM.out PE.out
      have y0:=xf 0
      have y1:=xf 1
      have hlt:=hB'.lt
      have K:=zBJ W (s+1) (.int .i64 b1) (.int .u64 b2)
      clear xf
      refine zAO.skip (w':=(W.setCell ⟨s+1,0,none⟩ (.int .i64 b1)).setCell ⟨s+1,1,none⟩ (.int .u64 b2)) rfl (by go_simp) ⟨h0,h1,h2,h3,h4,h5,h6,h8,hK.trans (K.mono fun k h=>h.2),hA.keep (K.block _ hA.lt (by show s≠s+1;omega)),SumB.setN hB' PB.out,i21,i72,i54,fun _=>hd {on:=5,ground:=.data} (by simp) (by kernel_rfl)⟩
     ·exact absurd ho (by simp)
    ·rintro l f W hall ⟨h0,h1,h2,h3,h4,h5,h6,h8,hK,hA,hB,i21,i72,i54,i95⟩
     rw[hall 7 (by decide)]at hA
     rw[hall 9 (by decide)]at hB
     have HA4:=hid (show SumB W s (-n) d from hA)
     have HB4:=hid (show SumB W (s+1) (-m) e from hB)
     have HK4:=hid hK
     clear h0 h1 h2 h3 h4 h5 h6 h8 hK hA hB i21 i72 i54 i95 hall
     rw[HA0.out]
     simp only[zDG,List.foldl_cons,List.foldl_nil,Act.put,List.setIfInBounds_toArray,List.set_cons_succ,List.set_cons_zero]
     generalize f 20=z20,f 21=z21,f 22=z22,f 23=z23,f 24=z24,f 25=z25,f 26=z26,f 27=z27
     clear hsz v2 v3 HA0
     go_wp2
     go_meet
     case rel=>
      have h1:=HNN.out
      have h2:=HMM.out
      have h3:=HNM.out
      exact⟨rfl,by rw[show NN= -n by omega];exact HA4.out,by rw[show MM= -m by omega];exact HB4.out,HK4.out.below (zAA HBF.out HBD.out) (by have:=HBF.out.size;have:=HBD.out.size;omega) fun k hk=>by have:=HSV.out;omega⟩
    ·intro l f hl
     refine⟨?_,?_,?_,?_,?_,?_,?_,?_,Keep.refl _ _,(by rw[hl 7 (by decide)];exact HAD.out),(by rw[hl 9 (by decide)];exact HBD2.out),(fun h=>by rw[hl _ (by decide)]at h;cases h),(fun h=>by rw[hl _ (by decide)]at h;cases h),(fun h=>by rw[hl _ (by decide)]at h;cases h),(fun h=>by rw[hl _ (by decide)]at h;cases h)⟩
     ·intro h;rw[hl _ (by decide)]at h;cases h
     ·intro h;rw[hl _ (by decide)]at h;cases h
     ·intro h;rw[hl _ (by decide)]at h;cases h
     ·intro h;rw[hl _ (by decide)]at h;cases h
     ·intro h;rw[hl _ (by decide)]at h;cases h
     ·intro h;rw[hl _ (by decide)]at h;cases h
     ·intro h;rw[hl _ (by decide)]at h;cases h
     ·intro h;rw[hl _ (by decide)]at h;cases h
   ·have hsn:¬cmpI n 0<0:=fun h=>hneg ((zEM n).1 h)
    have hsm:¬m<0:=fun h=>hneg ((zEM n).1 (by rw[HSG.out];exact(zEM m).2 h))
    have e1:NN=n:=by have:=HNN.out;omega
    have e2:MM=m:=by have:=HMM.out;omega
    have HX:=hid (show SumB w3 s NN d∧SumB w3 (s+1) MM e∧Below w.heap.size w w3 by rw[e1,e2];exact⟨HA3.out,HT3.out,HBF.out⟩)
    clear e1 e2 hsm hneg
    go_wp2
    go_meet
    case rel=>exact⟨rfl,HX.out.1,HX.out.2.1,HX.out.2.2⟩
  case rest=>
   obtain⟨rfl,hS,hT,hBc⟩:=hcut
   obtain⟨A0,hA0⟩:∃A0:Prop,A0=(n*e=m*d):=⟨_,rfl⟩
   have hd0:=HBN.out.2.2.1
   have he0:=HBN.out.2.2.2
   have hst:EqS A0 NN d MM e:=by
    have h1:=HNN.out
    have h2:=HMM.out
    refine⟨by omega,by omega,by omega,by omega,fun h=>by omega,fun h=>by omega,?_⟩
    rw[hA0]
    by_cases hneg:n<0
    ·have hsm:m<0:=(zEM m).1 (by rw[<- HSG.out];exact(zEM n).2 hneg)
     have e1:NN= -n:=by omega
     have e2:MM= -m:=by omega
     rw[e1,e2,Int.neg_mul,Int.neg_mul];omega
    ·have hsm:¬m<0:=fun h=>hneg ((zEM n).1 (by rw[HSG.out];exact(zEM m).2 h))
     have e1:NN=n:=by omega
     have e2:MM=m:=by omega
     rw[e1,e2]
   have HAB:=hid (show A0↔n*e=m*d by rw[hA0])
   have HST:=hid (show SumB wc s NN d∧SumB wc (s+1) MM e∧EqS A0 NN d MM e∧(NN<170141183460469231731687303715884105728∧MM<170141183460469231731687303715884105728∧d<85070591730234615865843651857942052864∧e<85070591730234615865843651857942052864)∧Below w.heap.size w wc from⟨hS,hT,hst,by have h1:=HBN.out.1;have h2:=HBN.out.2.1;have h3:=HNN.out;have h4:=HMM.out;omega,hBc⟩)
   clear hS hT hBc hst hA0 hd0 he0 HSN HSM HON HOM HSA HSB HB HAW HBW2 HB3 HA3 HT3 HBF HNN HMM HSG PN PD PM PE PA PB
   go_wp2
   go_loopw [] (fun wr=>∃N D M E:Int,SumB wr s N D∧SumB wr (s+1) M E∧EqS A0 N D M E∧(N<170141183460469231731687303715884105728∧M<170141183460469231731687303715884105728∧D<85070591730234615865843651857942052864∧E<85070591730234615865843651857942052864)∧Below w.heap.size w wr) (fun wr=>denOf wr s)
   case atStart=>exact⟨_,_,_,_,HST.out.1,HST.out.2.1,HST.out.2.2.1,HST.out.2.2.2.1,HST.out.2.2.2.2⟩
   case round=>
    obtain⟨N,D,M,E,hA,hT,hE,hbb,hBw⟩:=hrel
    obtain⟨n1,n2,pn⟩:=WP.ex N
    obtain⟨d1,d2,pd⟩:=WP.ex D
    obtain⟨m1,m2,pm⟩:=WP.ex M
    obtain⟨e1,e2,pe⟩:=WP.ex E
    have hn0:=hE.n0
    have hd0:=hE.d0
    have hm0:=hE.m0
    have he0:=hE.e0
    have HSD:=hid (show ∀X:World,Calls Tryz.prog 148 #[.agg #[.int .i64 d1,.int .u64 d2]] X fun e w'=>e=.returned (.int .i64 (cmpI D 0))∧Below X.heap.size X w' from fun X=>by
     have:=zJO X D (by omega)
     rw[pd.val]at this;exact this)
    have HSE:=hid (show ∀X:World,Calls Tryz.prog 148 #[.agg #[.int .i64 e1,.int .u64 e2]] X fun e w'=>e=.returned (.int .i64 (cmpI E 0))∧Below X.heap.size X w' from fun X=>by
     have:=zJO X E (by omega)
     rw[pe.val]at this;exact this)
    have HEQ:=hid hE
    have HBB:=hid hbb
    have HBW:=hid hBw
    have HAR:=hid hA
    have HTR:=hid hT
    have PN:=hid pn
    have PD:=hid pd
    have PM:=hid pm
    have PE:=hid pe
    obtain⟨x0,x1,x2,x3,xf⟩:=hA.cells pn pd
    have hsl:s+1<wr.heap.size:=hT.lt
    have HSL:=hid hsl
    clear xf hE hbb hBw hA hT pn pd pm pe hsl hn0 hm0
    by_cases hz:D=0∨E=0
    ·have hdn:=HEQ.out.done hz
     have hres:decide (d1=e1∧d2=e2)=decide (n*e=m*d):=by
      rw[decide_eq_decide,<- HAB.out,hdn]
      have h1:d1=D/18446744073709551616:=PD.out.1
      have h2:d2=D%18446744073709551616:=PD.out.2
      have h3:e1=E/18446744073709551616:=PE.out.1
      have h4:e2=E%18446744073709551616:=PE.out.2
      omega
     have HRES:=hid hres
     have HXE:=hid (fun(X:World) (hX:Below wr.heap.size wr X)=>(HTR.out.keep (hX.block _ HTR.out.lt)).cells PM.out PE.out)
     have HXA:=hid (fun(X:World) (hX:Below wr.heap.size wr X)=>(HAR.out.keep (hX.block _ HAR.out.lt)).cells PN.out PD.out)
     clear hdn hres
     by_cases hD:D=0
     ·have hc:cmpI D 0=0:=by rw[hD];rfl
      rw[hc]at HSD
      clear hc hz hD hd0 he0
      go_wp2_with (go_at_call 148;refine(HSD.out _).mono ?_;rintro e' w3 ⟨rfl,hb3⟩;have HB3:=hid hb3;clear hb3;refine Stop.of ?_)
      refine Stop.go ?_
      clear x0 x1 x2 x3
      obtain⟨x0,x1,x2,x3,xf⟩:=HXA.out _ HB3.out
      obtain⟨y0,y1,y2,y3,yf⟩:=HXE.out _ HB3.out
      clear xf yf
      go_wp2
      all_goals
       go_ret
       refine⟨?_,zAA HBW.out HB3.out⟩
       rw[<- HRES.out]
       first
        | (show Ending.returned (Value.bool true)=_;rw[decide_eq_true (p:=d1=e1∧d2=e2) (by omega)])
        | (show Ending.returned (Value.bool false)=_;rw[decide_eq_false (p:=d1=e1∧d2=e2) (by omega)])
     ·have hE0:E=0:=by omega
      have hc:cmpI D 0=1:=by unfold cmpI;rw[if_neg (by omega),if_neg hD]
      have hc2:cmpI E 0=0:=by rw[hE0];rfl
      rw[hc]at HSD
      rw[hc2]at HSE
      clear hc hc2 hz hD hE0 hd0 he0
      obtain⟨y0,y1,y2,y3,yf⟩:=HXE.out _ (Below.refl _ _)
      clear yf
      go_wp2_with (go_at_call 148;refine(HSD.out _).mono ?_;rintro e' w3 ⟨rfl,hb3⟩;have HB3:=hid hb3;clear hb3;refine Stop.of ?_)
      refine Stop.go ?_
      clear x0 x1 x2 x3 y0 y1 y2 y3
      obtain⟨y0,y1,y2,y3,yf⟩:=HXE.out _ HB3.out
      clear yf
      go_wp2_with (go_at_call 148;refine(HSE.out _).mono ?_;rintro e' w4 ⟨rfl,hb4⟩;have HB4:=hid hb4;clear hb4;refine Stop.of ?_)
      refine Stop.go ?_
      clear y0 y1 y2 y3
      obtain⟨x0,x1,x2,x3,xf⟩:=HXA.out _ (zAA HB3.out HB4.out)
      obtain⟨y0,y1,y2,y3,yf⟩:=HXE.out _ (zAA HB3.out HB4.out)
      clear xf yf
      go_wp2
      all_goals
       go_ret
       refine⟨?_,zAA HBW.out (zAA HB3.out HB4.out)⟩
       rw[<- HRES.out]
       first
        | (show Ending.returned (Value.bool true)=_;rw[decide_eq_true (p:=d1=e1∧d2=e2) (by omega)])
        | (show Ending.returned (Value.bool false)=_;rw[decide_eq_false (p:=d1=e1∧d2=e2) (by omega)])
    ·have hD:0<D:=by omega
     have hE:0<E:=by omega
     have hc:cmpI D 0=1:=by unfold cmpI;rw[if_neg (by omega),if_neg (by omega)]
     have hc2:cmpI E 0=1:=by unfold cmpI;rw[if_neg (by omega),if_neg (by omega)]
     rw[hc]at HSD
     rw[hc2]at HSE
     have HDE:=hid (And.intro hD hE)
     obtain⟨f1,f2,pf⟩:=WP.ex (N/D)
     obtain⟨q1,q2,pq⟩:=WP.ex (N%D)
     obtain⟨g1,g2,pg⟩:=WP.ex (M/E)
     obtain⟨r1,r2,pr⟩:=WP.ex (M%E)
     have HOV1:=hid (show ∀X:World,Calls Tryz.prog 150 #[.agg #[.int .i64 n1,.int .u64 n2],.agg #[.int .i64 d1,.int .u64 d2]] X fun e w'=>e=.returned (.tuple #[.agg #[.int .i64 f1,.int .u64 f2],.agg #[.int .i64 q1,.int .u64 q2]])∧Below X.heap.size X w' from fun X=>by
      have h1:=HEQ.out.n0
      have h2:=HBB.out
      have:=zOR X N D (by omega) (by omega)
      rw[PN.out.val,PD.out.val,pf.val,pq.val]at this;exact this)
     have HOV2:=hid (show ∀X:World,Calls Tryz.prog 150 #[.agg #[.int .i64 m1,.int .u64 m2],.agg #[.int .i64 e1,.int .u64 e2]] X fun e w'=>e=.returned (.tuple #[.agg #[.int .i64 g1,.int .u64 g2],.agg #[.int .i64 r1,.int .u64 r2]])∧Below X.heap.size X w' from fun X=>by
      have h1:=HEQ.out.m0
      have h2:=HBB.out
      have:=zOR X M E (by omega) (by omega)
      rw[PM.out.val,PE.out.val,pg.val,pr.val]at this;exact this)
     have PF:=hid pf
     have PQ:=hid pq
     have PG:=hid pg
     have PR:=hid pr
     have HXE:=hid (fun(X:World) (hX:Below wr.heap.size wr X)=>(HTR.out.keep (hX.block _ HTR.out.lt)).cells PM.out PE.out)
     have HXA:=hid (fun(X:World) (hX:Below wr.heap.size wr X)=>(HAR.out.keep (hX.block _ HAR.out.lt)).cells PN.out PD.out)
     clear hc hc2 hz hD hE hd0 he0 pf pq pg pr
     go_wp2_with (go_at_call 148;refine(HSD.out _).mono ?_;rintro e' w3 ⟨rfl,hb3⟩;have HB3:=hid hb3;clear hb3;refine Stop.of ?_)
     refine Stop.go ?_
     clear x0 x1 x2 x3
     obtain⟨y0,y1,y2,y3,yf⟩:=HXE.out _ HB3.out
     clear yf
     go_wp2_with (go_at_call 148;refine(HSE.out _).mono ?_;rintro e' w4 ⟨rfl,hb4⟩;have HB4:=hid (zAA HB3.out hb4);clear hb4;refine Stop.of ?_)
     refine Stop.go ?_
     clear y0 y1 y2 y3
     obtain⟨x0,x1,x2,x3,xf⟩:=HXA.out _ HB4.out
     clear xf
     go_upto_region 7 with (go_at_call 150;refine(HOV1.out _).mono ?_;rintro e' w5 ⟨rfl,hb5⟩;have HB5:=hid (zAA HB4.out hb5);clear hb5;refine Stop.of ?_)
     refine Stop.go ?_
     clear x0 x1 x2 x3
     go_upto_region 7 with fail
     obtain⟨ga,hga⟩:=exq (w5.heap.size)
     obtain⟨w6,hw6⟩:=exq ((w5.alloc (.cells #[.int .i64 f1,.int .u64 f2] 100)).alloc (.cells #[.int .i64 q1,.int .u64 q2] 100))
     rw[<- hga,<- hw6]
     have F6:zBV w6 ga (N/D):=by rw[hw6,hga];exact(zBV.made w5 PF.out).keep (Below.heap_alloc _ _ _ (by simp))
     have Q6:zBV w6 (ga+1) (N%D):=by
      have h:=zBV.made (w5.alloc (.cells #[.int .i64 f1,.int .u64 f2] 100)) PQ.out
      rw[World.size_alloc]at h
      rw[hw6,hga];exact h
     have HB6:=hid (show Below wr.heap.size wr w6 by rw[hw6];exact(HB5.out.alloc HB5.out.size _).alloc (by have:=HB5.out.size;simp;omega) _)
     have HF6:=hid F6
     have HQ6:=hid Q6
     have HGA:=hid (show wr.heap.size<=ga by rw[hga];exact HB5.out.size)
     clear hga hw6 F6 Q6
     obtain⟨y0,y1,y2,y3,yf⟩:=HXE.out _ HB6.out
     clear yf
     go_upto_region 8 with (go_at_call 150;refine(HOV2.out _).mono ?_;rintro e' w7 ⟨rfl,hb7⟩;have HB7:=hid hb7;clear hb7;refine Stop.of ?_)
     refine Stop.go ?_
     clear y0 y1 y2 y3
     go_upto_region 8 with fail
     obtain⟨gb,hgb⟩:=exq (w7.heap.size)
     obtain⟨w8,hw8⟩:=exq ((w7.alloc (.cells #[.int .i64 g1,.int .u64 g2] 100)).alloc (.cells #[.int .i64 r1,.int .u64 r2] 100))
     rw[<- hgb,<- hw8]
     have G8:zBV w8 gb (M/E):=by rw[hw8,hgb];exact(zBV.made w7 PG.out).keep (Below.heap_alloc _ _ _ (by simp))
     have R8:zBV w8 (gb+1) (M%E):=by
      have h:=zBV.made (w7.alloc (.cells #[.int .i64 g1,.int .u64 g2] 100)) PR.out
      rw[World.size_alloc]at h
      rw[hw8,hgb];exact h
     have h68:Below w6.heap.size w6 w8:=by rw[hw8];exact(HB7.out.alloc HB7.out.size _).alloc (by have:=HB7.out.size;simp;omega) _
     have HB8:=hid (zAA HB6.out h68)
     have HF8:=hid (HF6.out.keep (h68.block _ HF6.out.lt))
     have HQ8:=hid (HQ6.out.keep (h68.block _ HQ6.out.lt))
     have HG8:=hid G8
     have HR8:=hid R8
     have HGB:=hid (show wr.heap.size<=gb by rw[hgb];exact Nat.le_trans HB6.out.size HB7.out.size)
     clear hgb hw8 G8 R8 h68
     obtain⟨x0,x1,_⟩:=HF8.out.cells PF.out
     obtain⟨y0,y1,_⟩:=HG8.out.cells PG.out
     by_cases hQ:N/D=M/E
     ·have HQQ:=hid hQ
      have ef1:f1=g1:=by rw[PF.out.1,PG.out.1,hQ]
      have ef2:f2=g2:=by rw[PF.out.2,PG.out.2,hQ]
      subst ef1
      subst ef2
      clear hQ
      go_upto_region 10 with fail
      clear x0 x1 y0 y1
      obtain⟨gq,hgq⟩:=exq (ga+1)
      obtain⟨gr,hgr⟩:=exq (gb+1)
      rw[<- hgq]at HQ8⊢
      rw[<- hgr]at HR8⊢
      have HNQ:=hid (show gq≠s∧gq≠s+1 by have:=HSL.out;have:=HGA.out;omega)
      have HNR:=hid (show gr≠s∧gr≠s+1 by have:=HSL.out;have:=HGB.out;omega)
      have HB8':=HB8
      clear hgq hgr
      refine zAF (fun _ _=>True) (by kernel_rfl) ?_
      obtain⟨wd,hwd⟩:=exq (w8.drew)
      have hbd:Below w8.heap.size w8 wd:=by rw[hwd];exact(Below.refl _ _).drew
      rw[<- hwd]
      have HBD:=hid hbd
      have HBS0:=hid (zAA HB8.out hbd)
      have HQR:=hid (HQ8.out.keep (hbd.block _ HQ8.out.lt))
      have HRR:=hid (HR8.out.keep (hbd.block _ HR8.out.lt))
      have HAD:=hid (HAR.out.keep (HBS0.out.block _ HAR.out.lt))
      have HBD2:=hid (HTR.out.keep (HBS0.out.block _ HTR.out.lt))
      clear hbd hwd
      refine zDU fun a0 ha0=>?_
      have hsz:a0.tmps.size=70:=by rw[ha0];rfl
      have v2:a0.eval (.tmp 2)=.pointer (some ⟨s,0,none⟩):=by rw[ha0];rfl
      have v3:a0.eval (.tmp 3)=.pointer (some ⟨s+1,0,none⟩):=by rw[ha0];rfl
      have v6:a0.eval (.tmp 6)=.pointer (some ⟨gq,0,none⟩):=by rw[ha0];rfl
      have v8:a0.eval (.tmp 8)=.pointer (some ⟨gr,0,none⟩):=by rw[ha0];rfl
      have HA0:=hid ha0
      clear ha0
      refine AnyT.regF [57,58,59,60,61,62,63,64] (fun l f W=>(l 0=true->f 57=.pointer (some ⟨s,2,none⟩))∧(l 1=true->f 58=.agg #[.int .i64 d1,.int .u64 d2])∧(l 2=true->f 59=.agg #[.int .i64 q1,.int .u64 q2])∧(l 3=true->f 60=.agg #[.int .i64 d1,.int .u64 d2,.int .i64 q1,.int .u64 q2])∧(l 4=true->f 61=.pointer (some ⟨s+1,2,none⟩))∧(l 5=true->f 62=.agg #[.int .i64 e1,.int .u64 e2])∧(l 6=true->f 63=.agg #[.int .i64 r1,.int .u64 r2])∧(l 7=true->f 64=.agg #[.int .i64 e1,.int .u64 e2,.int .i64 r1,.int .u64 r2])∧(Keep (fun k=>k≠s∧k≠s+1) wd W)∧(SumB W s (if l 8=true then D else N) (if l 8=true then N%D else D))∧(SumB W (s+1) (if l 9=true then E else M) (if l 9=true then M%E else E))∧(l 3=true->l 1=true)∧(l 8=true->l 3=true)∧(l 7=true->l 5=true)∧(l 9=true->l 7=true)) (by kernel_rfl) (by kernel_rfl) ?_ ?_ ?_
      ·rintro l f W i o ho hi hd ⟨h0,h1,h2,h3,h4,h5,h6,h7,hK,hA,hB,i31,i83,i75,i97⟩
       have e57:zAE a0 [57,58,59,60,61,62,63,64] f (.tmp 57)=f 57:=by simp[zAE,hsz]
       have e58:zAE a0 [57,58,59,60,61,62,63,64] f (.tmp 58)=f 58:=by simp[zAE,hsz]
       have e59:zAE a0 [57,58,59,60,61,62,63,64] f (.tmp 59)=f 59:=by simp[zAE,hsz]
       have e60:zAE a0 [57,58,59,60,61,62,63,64] f (.tmp 60)=f 60:=by simp[zAE,hsz]
       have e61:zAE a0 [57,58,59,60,61,62,63,64] f (.tmp 61)=f 61:=by simp[zAE,hsz]
       have e62:zAE a0 [57,58,59,60,61,62,63,64] f (.tmp 62)=f 62:=by simp[zAE,hsz]
       have e63:zAE a0 [57,58,59,60,61,62,63,64] f (.tmp 63)=f 63:=by simp[zAE,hsz]
       have e64:zAE a0 [57,58,59,60,61,62,63,64] f (.tmp 64)=f 64:=by simp[zAE,hsz]
       have w2:zAE a0 [57,58,59,60,61,62,63,64] f (.tmp 2)=.pointer (some ⟨s,0,none⟩):=by simp[zAE,v2]
       have w3:zAE a0 [57,58,59,60,61,62,63,64] f (.tmp 3)=.pointer (some ⟨s+1,0,none⟩):=by simp[zAE,v3]
       have w6:zAE a0 [57,58,59,60,61,62,63,64] f (.tmp 6)=.pointer (some ⟨gq,0,none⟩):=by simp[zAE,v6]
       have w8:zAE a0 [57,58,59,60,61,62,63,64] f (.tmp 8)=.pointer (some ⟨gr,0,none⟩):=by simp[zAE,v8]
       rcases i with _|_|_|_|_|_|_|_|_|_|i
       ·replace ho:=Option.some.inj ho
        subst ho
        refine zAO.val (w':=W) (v:=.pointer (some ⟨s,2,none⟩)) rfl (by go_simp) ⟨fun _=>rfl,h1,h2,h3,h4,h5,h6,h7,hK,hA,hB,i31,i83,i75,i97⟩
       ·replace ho:=Option.some.inj ho
        subst ho
        have k0:=h0 (hd {on:=0,ground:=.data} (by simp) (by kernel_rfl))
        rw[k0]at e57
        have l8:l 8=false:=by
         cases h:l 8 with
         |false=>rfl
         |true=>rw[i31 (i83 h)]at hi;cases hi
        rw[l8]at hA
        obtain⟨x0,x1,x2,x3,xf⟩:=SumB.cells (n:=N) (d:=D) hA PN.out PD.out
        rw[<- l8]at hA
        clear xf
        refine zAO.val (w':=W) (v:=.agg #[.int .i64 d1,.int .u64 d2]) rfl (by go_simp) ⟨h0,fun _=>rfl,h2,h3,h4,h5,h6,h7,hK,hA,hB,fun _=>rfl,i83,i75,i97⟩
       ·replace ho:=Option.some.inj ho
        subst ho
        obtain⟨x0,x1,_⟩:=(HQR.out.keep (hK.block _ HQR.out.lt (by have:=HNQ.out;omega))).cells PQ.out
        refine zAO.val (w':=W) (v:=.agg #[.int .i64 q1,.int .u64 q2]) rfl (by go_simp) ⟨h0,h1,fun _=>rfl,h3,h4,h5,h6,h7,hK,hA,hB,i31,i83,i75,i97⟩
       ·replace ho:=Option.some.inj ho
        subst ho
        have k1:=h1 (hd {on:=1,ground:=.data} (by simp) (by kernel_rfl))
        rw[k1]at e58
        have k2:=h2 (hd {on:=2,ground:=.data} (by simp) (by kernel_rfl))
        rw[k2]at e59
        refine zAO.val (w':=W) (v:=.agg #[.int .i64 d1,.int .u64 d2,.int .i64 q1,.int .u64 q2]) rfl (by go_simp) ⟨h0,h1,h2,fun _=>rfl,h4,h5,h6,h7,hK,hA,hB,fun _=>hd {on:=1,ground:=.data} (by simp) (by kernel_rfl),fun _=>rfl,i75,i97⟩
       ·replace ho:=Option.some.inj ho
        subst ho
        refine zAO.val (w':=W) (v:=.pointer (some ⟨s+1,2,none⟩)) rfl (by go_simp) ⟨h0,h1,h2,h3,fun _=>rfl,h5,h6,h7,hK,hA,hB,i31,i83,i75,i97⟩
       ·replace ho:=Option.some.inj ho
        subst ho
        have k4:=h4 (hd {on:=4,ground:=.data} (by simp) (by kernel_rfl))
        rw[k4]at e61
        have l9:l 9=false:=by
         cases h:l 9 with
         |false=>rfl
         |true=>rw[i75 (i97 h)]at hi;cases hi
        rw[l9]at hB
        obtain⟨x0,x1,x2,x3,xf⟩:=SumB.cells (n:=M) (d:=E) hB PM.out PE.out
        rw[<- l9]at hB
        clear xf
        refine zAO.val (w':=W) (v:=.agg #[.int .i64 e1,.int .u64 e2]) rfl (by go_simp) ⟨h0,h1,h2,h3,h4,fun _=>rfl,h6,h7,hK,hA,hB,i31,i83,fun _=>rfl,i97⟩
       ·replace ho:=Option.some.inj ho
        subst ho
        obtain⟨x0,x1,_⟩:=(HRR.out.keep (hK.block _ HRR.out.lt (by have:=HNR.out;omega))).cells PR.out
        refine zAO.val (w':=W) (v:=.agg #[.int .i64 r1,.int .u64 r2]) rfl (by go_simp) ⟨h0,h1,h2,h3,h4,h5,fun _=>rfl,h7,hK,hA,hB,i31,i83,i75,i97⟩
       ·replace ho:=Option.some.inj ho
        subst ho
        have k5:=h5 (hd {on:=5,ground:=.data} (by simp) (by kernel_rfl))
        rw[k5]at e62
        have k6:=h6 (hd {on:=6,ground:=.data} (by simp) (by kernel_rfl))
        rw[k6]at e63
        refine zAO.val (w':=W) (v:=.agg #[.int .i64 e1,.int .u64 e2,.int .i64 r1,.int .u64 r2]) rfl (by go_simp) ⟨h0,h1,h2,h3,h4,h5,h6,fun _=>rfl,hK,hA,hB,i31,i83,fun _=>hd {on:=5,ground:=.data} (by simp) (by kernel_rfl),fun _=>rfl⟩
       ·replace ho:=Option.some.inj ho
        subst ho
        have k3:=h3 (hd {on:=3,ground:=.data} (by simp) (by kernel_rfl))
        rw[k3]at e60
        rw[hi]at hA
        have hA':SumB W s N D:=hA
        obtain⟨x0,x1,x2,x3,xf⟩:=hA'.cells PN.out PD.out
        have y0:=xf 0
        have y1:=xf 1
        have y2:=xf 2
        have y3:=xf 3
        have hlt:=hA'.lt
        have K:=zIY W s (.int .i64 d1) (.int .u64 d2) (.int .i64 q1) (.int .u64 q2)
        clear xf
        refine zAO.skip (w':=(((W.setCell ⟨s,0,none⟩ (.int .i64 d1)).setCell ⟨s,1,none⟩ (.int .u64 d2)).setCell ⟨s,2,none⟩ (.int .i64 q1)).setCell ⟨s,3,none⟩ (.int .u64 q2)) rfl (by go_simp) ⟨h0,h1,h2,h3,h4,h5,h6,h7,hK.trans (K.mono fun k h=>h.1),hA'.set PD.out PQ.out,hB.keep (K.block _ hB.lt (by show s+1≠s;omega)),i31,fun _=>hd {on:=3,ground:=.data} (by simp) (by kernel_rfl),i75,i97⟩
       ·replace ho:=Option.some.inj ho
        subst ho
        have k7:=h7 (hd {on:=7,ground:=.data} (by simp) (by kernel_rfl))
        rw[k7]at e64
        rw[hi]at hB
        have hB':SumB W (s+1) M E:=hB
        obtain⟨x0,x1,x2,x3,xf⟩:=hB'.cells PM.out PE.out
        have y0:=xf 0
        have y1:=xf 1
        have y2:=xf 2
        have y3:=xf 3
        have hlt:=hB'.lt
        have K:=zIY W (s+1) (.int .i64 e1) (.int .u64 e2) (.int .i64 r1) (.int .u64 r2)
        clear xf
        refine zAO.skip (w':=(((W.setCell ⟨s+1,0,none⟩ (.int .i64 e1)).setCell ⟨s+1,1,none⟩ (.int .u64 e2)).setCell ⟨s+1,2,none⟩ (.int .i64 r1)).setCell ⟨s+1,3,none⟩ (.int .u64 r2)) rfl (by go_simp) ⟨h0,h1,h2,h3,h4,h5,h6,h7,hK.trans (K.mono fun k h=>h.2),hA.keep (K.block _ hA.lt (by show s≠s+1;omega)),hB'.set PE.out PR.out,i31,i83,i75,fun _=>hd {on:=7,ground:=.data} (by simp) (by kernel_rfl)⟩
       ·exact absurd ho (by simp)
      ·rintro l f W hall ⟨h0,h1,h2,h3,h4,h5,h6,h7,hK,hA,hB,i31,i83,i75,i97⟩
       rw[hall 8 (by decide)]at hA
       rw[hall 9 (by decide)]at hB
       have HA9:=hid (show SumB W s D (N%D)from hA)
       have HB9:=hid (show SumB W (s+1) E (M%E)from hB)
       have HK9:=hid hK
       clear h0 h1 h2 h3 h4 h5 h6 h7 hK hA hB i31 i83 i75 i97 hall
       rw[HA0.out]
       simp only[zDG,List.foldl_cons,List.foldl_nil,Act.put,List.setIfInBounds_toArray,List.set_cons_succ,List.set_cons_zero]
       generalize f 57=z57,f 58=z58,f 59=z59,f 60=z60,f 61=z61,f 62=z62,f 63=z63,f 64=z64
       clear hsz v2 v3 v6 v8 HA0
       go_wp2
       have he:=HEQ.out.step HDE.out.1 HDE.out.2 HQQ.out
       have hbs:(D<170141183460469231731687303715884105728∧E<170141183460469231731687303715884105728∧N%D<85070591730234615865843651857942052864∧M%E<85070591730234615865843651857942052864):=by
        have h1:=HBB.out
        have h2:=Int.emod_lt_of_pos N HDE.out.1
        have h3:=Int.emod_lt_of_pos M HDE.out.2
        omega
       have hfin:Below w.heap.size w wd:=zAA HBW.out HBS0.out
       refine⟨⟨D,N%D,E,M%E,HA9.out,HB9.out,he,hbs,HK9.out.below hfin hfin.size fun k hk=>by have:=HSV.out;omega⟩,?_⟩
       rw[denOf_eq HA9.out,denOf_eq HAR.out]
       have:=Int.emod_lt_of_pos N HDE.out.1
       have:=Int.emod_nonneg N (show D≠0 by have:=HDE.out.1;omega)
       omega
      ·intro l f hl
       refine⟨?_,?_,?_,?_,?_,?_,?_,?_,Keep.refl _ _,(by rw[hl 8 (by decide)];exact HAD.out),(by rw[hl 9 (by decide)];exact HBD2.out),(fun h=>by rw[hl _ (by decide)]at h;cases h),(fun h=>by rw[hl _ (by decide)]at h;cases h),(fun h=>by rw[hl _ (by decide)]at h;cases h),(fun h=>by rw[hl _ (by decide)]at h;cases h)⟩
       ·intro h;rw[hl _ (by decide)]at h;cases h
       ·intro h;rw[hl _ (by decide)]at h;cases h
       ·intro h;rw[hl _ (by decide)]at h;cases h
       ·intro h;rw[hl _ (by decide)]at h;cases h
       ·intro h;rw[hl _ (by decide)]at h;cases h
       ·intro h;rw[hl _ (by decide)]at h;cases h
       ·intro h;rw[hl _ (by decide)]at h;cases h
       ·intro h;rw[hl _ (by decide)]at h;cases h
     ·have HNO:=hid (show decide (n*e=m*d)=false by
       rw[decide_eq_false_iff_not,<- HAB.out]
       exact HEQ.out.part HDE.out.1 HDE.out.2 hQ)
      have hne:¬(f1=g1∧f2=g2):=fun⟨h1,h2⟩=>hQ (by
       have a1:f1=N/D/18446744073709551616:=PF.out.1
       have a2:f2=N/D%18446744073709551616:=PF.out.2
       have a3:g1=M/E/18446744073709551616:=PG.out.1
       have a4:g2=M/E%18446744073709551616:=PG.out.2
       omega)
      have HFF:=hid (zAA HBW.out HB8.out)
      clear hQ
      go_wp2
      all_goals
       go_ret
       exact⟨by rw[HNO.out];rfl,HFF.out⟩
 ·intro l f hl
  refine⟨?_,?_,?_,?_,?_,?_,?_,Below.refl _ _⟩
  ·intro h;rw[hl _ (by decide)]at h;cases h
  ·intro h;rw[hl _ (by decide)]at h;cases h
  ·intro h;rw[hl _ (by decide)]at h;cases h
  ·intro h;rw[hl _ (by decide)]at h;cases h
  ·intro h;rw[hl _ (by decide)]at h;cases h
  ·intro h;rw[hl _ (by decide)]at h;cases h
  ·intro h;rw[hl _ (by decide)]at h;cases h
end
section
open Go.RowKit
theorem dsees_c(w:World)(a a2:Option Addr)(n cap n2 cap2:Nat)(M:Mask)(x:List Rt)(hn:M.length=n)(hn2:x.length=n2)(hnn:n2=n)(h1n:1<=n)(hn6:n<=6)(hwd:∀r∈M,r.length=zAC M)(hon:∀r∈M,∀k,-1<=vec r k∧vec r k<=1)(hc10:zAC M<=10)(hx:ValB x)(H:zAN w a M)(H2:zBE w a2 x):
 Calls Tryz.prog 123 #[.slice a n cap,.slice a2 n2 cap2] w fun e w'=>e=.returned (.bool (zNM M x))∧Below w.heap.size w w':=by
 subst hnn
 obtain⟨b,off,ra,rc,rfl,hb,hc⟩:=zEA H (by omega)
 have hvb:∀q k,(colP M q k).natAbs<=1000000:=fun q k=>by
  unfold colP
  cases e:M[k]? with
  |none=>simp[vec]
  |some r=>
   have:=hon r (List.mem_of_getElem? e) q
   show(vec r q).natAbs<=_
   omega
 have HVB:=hid hvb
 have HBD:=hid (fun q k (hk:k<=6)=>sumP_bnd6 (hvb q) hx hk)
 have HXV:=hid hx
 have HMW:=hid hwd
 have HR:=hid H
 have HX:=hid H2
 have HN:=hid hn
 have HNX:=hid hn2
 have HBF:=hid (show ∀q,q<zAC M->zKX M x q=false->zNM M x=false from fun q hq h=>by
  cases hB:zNM M x with
  |false=>rfl
  |true=>rw[seesB_iff.1 hB q hq]at h;cases h)
 have HBT2:=hid (show(∀q,q<zAC M->zKX M x q=true)->zNM M x=true from seesB_iff.2)
 obtain⟨B,hB⟩:=exq (zNM M x)
 rw[<- hB]at HBF HBT2⊢
 obtain⟨CW,hCW⟩:=exq (zAC M)
 rw[<- hCW]at HBF HBT2 HMW hc hc10
 have i0:(0:Int)<(n2:Int):=by omega
 clear hvb hwd hon hx H H2 hn hn2 hB hCW
 go_enter Tryz.func123,Tryz.ntmps123
 go_wp2
 clear hc i0
 go_loopw [13] (fun i wr=>∃j:Nat,j<=CW∧i=.int .i64 j∧Below w.heap.size w wr∧Hid (∀q,q<j->zKX M x q=true)) (fun i _=>CW-(intOf i).toNat)
 case atStart=>exact⟨0,Nat.zero_le _,rfl,Below.refl _ _,hid (fun q h=>by omega)⟩
 case round=>
  obtain⟨j,hj,rfl,hbj,HQ⟩:=hrel
  by_cases hjl:j<CW
  ·have HJL:=hid hjl
   have HBJ:=hid hbj
   have i1:(j:Int)<(CW:Int):=by omega
   clear hbj
   go_wp2_with (go_at_call 95;refine(zLU _).mono ?_;rintro e w3 ⟨rfl,hb3⟩;refine Stop.of ?_)
   refine Stop.go ?_
   have hz:sumV 0 1=.agg #[.int .i64 0,.int .u64 0,.int .i64 0,.int .u64 1]:=by simp[sumV]
   rw[hz]
   clear hz
   go_wp2_with fail
   obtain⟨wb,hwb⟩:=exq (w3.alloc (.cells #[.int .i64 0,.int .u64 0,.int .i64 0,.int .u64 1] 102))
   obtain⟨g,hg⟩:=exq (w3.heap.size)
   have HSB:=hid (show SumB wb g 0 1 by rw[hwb,hg];exact SumB.made w3 ⟨by decide,by decide⟩ ⟨by decide,by decide⟩)
   have HBB:=hid (show Below w.heap.size w wb by rw[hwb];exact(zAA HBJ.out hb3).alloc (zAA HBJ.out hb3).size _)
   have HGW:=hid (show w.heap.size<=g by rw[hg];exact(zAA HBJ.out hb3).size)
   rw[<- hwb,<- hg]
   clear hwb hg hb3
   go_loopw [19] (fun i wr=>∃t:Nat,t<=n2∧i=.int .i64 t∧SumB wr g (sumP (colP M j) x t).1 (sumP (colP M j) x t).2∧Below w.heap.size w wr) (fun i _=>n2-(intOf i).toNat)
   case atStart=>exact⟨0,Nat.zero_le _,rfl,HSB.out,HBB.out⟩
   case round=>
    obtain⟨t,ht,rfl,hsb,hbt⟩:=hrel
    by_cases htl:t<n2
    ·obtain⟨b5,o5,ra5,rn5,rc5,e5,hb5,hc5,hrn5,hrm5,hri5⟩:=HR.out t (by rw[HN.out];exact htl)
     cases e5
     obtain⟨bx,ox,rfl,hbx,hx0,hx1⟩:=HX.out t (by rw[HNX.out];exact htl)
     have hwid:=HMW.out _ (List.getElem_mem (show t<M.length by rw[HN.out];exact htl))
     obtain⟨b6,o6,rfl,hb6,hc6⟩:=hri5 j (by rw[hwid];exact hjl)
     have hv6:(M[t]'(by rw[HN.out];exact htl))[j]?.getD 0=colP M j t:=by unfold colP vec;rw[List.getElem?_eq_getElem (show t<M.length by rw[HN.out];exact htl)];rfl
     rw[hv6]at hc6
     have hxt:zAB x t=x[t]'(by rw[HNX.out];exact htl):=by unfold zAB;rw[List.getElem?_eq_getElem (by rw[HNX.out];exact htl)];rfl
     rw[<- hxt]at hx0 hx1
     have hsr:sumP (colP M j) x (t+1)=((sumP (colP M j) x t).1*(zAB x t).2+(sumP (colP M j) x t).2*((zAB x t).1*colP M j t),(sumP (colP M j) x t).2*(zAB x t).2):=rfl
     obtain⟨k1,k2,k3⟩:=HBD.out j t (by omega)
     obtain⟨m1,m2,m3⟩:=HBD.out j (t+1) (by omega)
     obtain⟨x1,x2,x3,x4⟩:=HXV.out t
     have hvb:=HVB.out j t
     rw[hsr]at m1 m2 m3
     have HSR:=hid hsr
     obtain⟨v,hv⟩:=exq (colP M j t)
     rw[<- hv]at hc6 m1 HSR hvb
     obtain⟨⟨RN,RD⟩,hND⟩:∃q,q=zAB x t:=⟨_,rfl⟩
     rw[<- hND]at hx0 hx1 m1 m2 m3 x1 x2 x3 x4 HSR
     obtain⟨⟨sn,sd⟩,hS⟩:∃q,q=sumP (colP M j) x t:=⟨_,rfl⟩
     rw[<- hS]at hsb k1 k2 k3 m1 m2 m3 HSR
     simp only[]at hx0 hx1 m1 m2 m3 x1 x2 x3 x4 HSR hsb k1 k2 k3
     have e1:(sn*RD).natAbs<=245760000000000000000000000000000*400:=by
      rw[Int.natAbs_mul];exact Nat.mul_le_mul k1 (by omega)
     have e2:(sd*(RN*v)).natAbs<=4096000000000000*10000000000000000:=by
      rw[Int.natAbs_mul,Int.natAbs_mul]
      exact Nat.mul_le_mul k3 (Nat.mul_le_mul (show RN.natAbs<=10000000000 by omega) hvb)
     have e3: -10000000000000000<=RN*v∧RN*v<=10000000000000000:=by
      have:(RN*v).natAbs<=10000000000*1000000:=by rw[Int.natAbs_mul];exact Nat.mul_le_mul (by omega) hvb
      omega
     have HPL:=hid (fun(X:World)=>zJT X sn sd RN RD v (by unfold B127;omega) (by unfold B127;omega) (by omega) (by omega) (by unfold B127;omega) (by unfold B127;omega) (by unfold B127;omega) (by unfold B127;omega))
     obtain⟨s1,s2,pS⟩:=WP.ex sn
     obtain⟨d1,d2,pD⟩:=WP.ex sd
     obtain⟨t1,t2,pT⟩:=WP.ex (sn*RD+sd*(RN*v))
     obtain⟨c1,c2,pC⟩:=WP.ex (sd*RD)
     rw[pS.sum pD,pT.sum pC]at HPL
     simp only[ratV]at HPL
     have PS:=hid pS
     have PD:=hid pD
     have PT:=hid pT
     have PC:=hid pC
     have HSX:=hid hsb
     have HBT:=hid hbt
     have HCE:=hid (fun(X:World) (hX:Below w.heap.size w X)=>show X.cell? ⟨bx,ox+t*2,none⟩=some (.int .i64 RN)∧X.cell? ⟨bx,ox+t*2+1,none⟩=some (.int .i64 RD)∧X.cell? ⟨b6,o6+j,none⟩=some (.int .i64 v)from⟨(hX.cell (p:=⟨bx,_,none⟩) hbx).trans hx0,(hX.cell (p:=⟨bx,_,none⟩) hbx).trans hx1,(hX.cell (p:=⟨b6,_,none⟩) hb6).trans hc6⟩)
     have hcr:wr.cell? ⟨b,off+t,none⟩=some (.slice (some ⟨b6,o6,none⟩) rn5 rc5):=(HBT.out.cell (p:=⟨b,_,none⟩) hb5).trans hc5
     have i1:(t:Int)<(n2:Int):=by omega
     have HIT:=hid (show(0:Int)<=(t:Int)∧(t:Int)<(n2:Int)∧(j:Int)<(rn5:Int)from⟨by omega,by omega,by rw[<- hrn5,hwid];exact Int.ofNat_lt.2 hjl⟩)
     clear hv6 hxt hsr k1 k2 k3 m1 m2 m3 x1 x2 x3 x4 hvb hv hND hS e1 e2 e3 pS pD pT pC hsb hbt hx0 hx1 hc6 hc5 hri5 hwid hrn5 hb6 hbx hb5
     go_upto_region 8 with fail
     clear hcr i1
     refine zAF (fun _ _=>True) (by kernel_rfl) ?_
     obtain⟨wd,hwd⟩:=exq (wr.drew)
     have hbd:Below wr.heap.size wr wd:=by rw[hwd];exact(Below.refl _ _).drew
     rw[<- hwd]
     have HWD:=hid (zAA HBT.out hbd)
     have HAD:=hid (HSX.out.keep (hbd.block _ HSX.out.lt))
     clear hbd hwd
     refine zDU fun a0 ha0=>?_
     have hsz:a0.tmps.size=44:=by rw[ha0];rfl
     have v1:a0.eval (.tmp 1)=.slice (some ⟨bx,ox,none⟩) n2 cap2:=by rw[ha0];rfl
     have v5:a0.eval (.tmp 5)=.int .i64 (j:Nat):=by rw[ha0];rfl
     have v6:a0.eval (.tmp 6)=.pointer (some ⟨g,0,none⟩):=by rw[ha0];rfl
     have v7:a0.eval (.tmp 7)=.int .i64 (t:Nat):=by rw[ha0];rfl
     have v8:a0.eval (.tmp 8)=.slice (some ⟨b6,o6,none⟩) rn5 rc5:=by rw[ha0];rfl
     have HA0:=hid ha0
     clear ha0
     refine AnyT.regF [24,25,26,27,28,29,30,31,32,33] (fun l f W=>(l 0=true->f 24=.agg #[.int .i64 s1,.int .u64 s2,.int .i64 d1,.int .u64 d2])∧(l 1=true->f 25=.slice (some ⟨bx,ox,none⟩) n2 cap2)∧(l 2=true->f 26=.int .i64 (t:Nat))∧(l 3=true->f 27=.pointer (some ⟨bx,ox+t*2,none⟩))∧(l 4=true->f 28=.agg #[.int .i64 RN,.int .i64 RD])∧(l 5=true->f 29=.slice (some ⟨b6,o6,none⟩) rn5 rc5)∧(l 6=true->f 30=.int .i64 (j:Nat))∧(l 7=true->f 31=.pointer (some ⟨b6,o6+j,none⟩))∧(l 8=true->f 32=.int .i64 v)∧(l 9=true->f 33=.agg #[.int .i64 t1,.int .u64 t2,.int .i64 c1,.int .u64 c2])∧(Keep (fun k=>k≠g) wd W)∧(SumB W g (if l 10=true then sn*RD+sd*(RN*v)else sn) (if l 10=true then sd*RD else sd))∧(l 9=true->l 0=true)∧(l 10=true->l 9=true)) (by kernel_rfl) (by kernel_rfl) ?_ ?_ ?_
     ·have egP:∀args w,(callFunc 96 args).run Tryz.prog w=.ok (.enter 96 args) w:=enters_of Tryz.func96 (by kernel_rfl) rfl
      rintro l f W i o ho hi hd ⟨h0,h1,h2,h3,h4,h5,h6,h7,h8,h9,hK,hA,i90,iA9⟩
      have e24:zAE a0 [24,25,26,27,28,29,30,31,32,33] f (.tmp 24)=f 24:=by simp[zAE,hsz]
      have e25:zAE a0 [24,25,26,27,28,29,30,31,32,33] f (.tmp 25)=f 25:=by simp[zAE,hsz]
      have e26:zAE a0 [24,25,26,27,28,29,30,31,32,33] f (.tmp 26)=f 26:=by simp[zAE,hsz]
      have e27:zAE a0 [24,25,26,27,28,29,30,31,32,33] f (.tmp 27)=f 27:=by simp[zAE,hsz]
      have e28:zAE a0 [24,25,26,27,28,29,30,31,32,33] f (.tmp 28)=f 28:=by simp[zAE,hsz]
      have e29:zAE a0 [24,25,26,27,28,29,30,31,32,33] f (.tmp 29)=f 29:=by simp[zAE,hsz]
      have e30:zAE a0 [24,25,26,27,28,29,30,31,32,33] f (.tmp 30)=f 30:=by simp[zAE,hsz]
      have e31:zAE a0 [24,25,26,27,28,29,30,31,32,33] f (.tmp 31)=f 31:=by simp[zAE,hsz]
      have e32:zAE a0 [24,25,26,27,28,29,30,31,32,33] f (.tmp 32)=f 32:=by simp[zAE,hsz]
      have e33:zAE a0 [24,25,26,27,28,29,30,31,32,33] f (.tmp 33)=f 33:=by simp[zAE,hsz]
      have w1:zAE a0 [24,25,26,27,28,29,30,31,32,33] f (.tmp 1)=.slice (some ⟨bx,ox,none⟩) n2 cap2:=by simp[zAE,v1]
      have w5:zAE a0 [24,25,26,27,28,29,30,31,32,33] f (.tmp 5)=.int .i64 (j:Nat):=by simp[zAE,v5]
      have w6:zAE a0 [24,25,26,27,28,29,30,31,32,33] f (.tmp 6)=.pointer (some ⟨g,0,none⟩):=by simp[zAE,v6]
      have w7:zAE a0 [24,25,26,27,28,29,30,31,32,33] f (.tmp 7)=.int .i64 (t:Nat):=by simp[zAE,v7]
      have w8:zAE a0 [24,25,26,27,28,29,30,31,32,33] f (.tmp 8)=.slice (some ⟨b6,o6,none⟩) rn5 rc5:=by simp[zAE,v8]
      have eFP:zAE a0 [24,25,26,27,28,29,30,31,32,33] f (.func 96)=.func (.func 96) #[] #[]:=rfl
      obtain⟨m0,m1,m2⟩:=HCE.out W (hK.below HWD.out HWD.out.size fun k hk=>by have:=HGW.out;omega)
      rcases i with _|_|_|_|_|_|_|_|_|_|_|i
      ·replace ho:=Option.some.inj ho
       subst ho
       have l10:l 10=false:=by
        cases h:l 10 with
        |false=>rfl
        |true=>rw[i90 (iA9 h)]at hi;cases hi
       rw[l10]at hA
       obtain⟨x0,x1,x2,x3,xf⟩:=SumB.cells (n:=sn) (d:=sd) hA PS.out PD.out
       rw[<- l10]at hA
       clear xf
       refine zAO.val (w':=W) (v:=.agg #[.int .i64 s1,.int .u64 s2,.int .i64 d1,.int .u64 d2]) rfl (by go_simp) ⟨fun _=>rfl,h1,h2,h3,h4,h5,h6,h7,h8,h9,hK,hA,fun _=>rfl,iA9⟩
      ·replace ho:=Option.some.inj ho
       subst ho
       refine zAO.val (w':=W) (v:=.slice (some ⟨bx,ox,none⟩) n2 cap2) rfl (by go_simp) ⟨h0,fun _=>rfl,h2,h3,h4,h5,h6,h7,h8,h9,hK,hA,i90,iA9⟩
      ·replace ho:=Option.some.inj ho
       subst ho
       refine zAO.val (w':=W) (v:=.int .i64 (t:Nat)) rfl (by go_simp) ⟨h0,h1,fun _=>rfl,h3,h4,h5,h6,h7,h8,h9,hK,hA,i90,iA9⟩
      ·replace ho:=Option.some.inj ho
       subst ho
       have k1:=h1 (hd {on:=1,ground:=.data} (by simp) (by kernel_rfl))
       rw[k1]at e25
       have k2:=h2 (hd {on:=2,ground:=.data} (by simp) (by kernel_rfl))
       rw[k2]at e26
       have hi1:=HIT.out.1
       have hi2:=HIT.out.2.1
       refine zAO.val (w':=W) (v:=.pointer (some ⟨bx,ox+t*2,none⟩)) rfl (by go_simp) ⟨h0,h1,h2,fun _=>rfl,h4,h5,h6,h7,h8,h9,hK,hA,i90,iA9⟩
      ·replace ho:=Option.some.inj ho
       subst ho
       have k3:=h3 (hd {on:=3,ground:=.data} (by simp) (by kernel_rfl))
       rw[k3]at e27
       refine zAO.val (w':=W) (v:=.agg #[.int .i64 RN,.int .i64 RD]) rfl (by go_simp) ⟨h0,h1,h2,h3,fun _=>rfl,h5,h6,h7,h8,h9,hK,hA,i90,iA9⟩
      ·replace ho:=Option.some.inj ho
       subst ho
       refine zAO.val (w':=W) (v:=.slice (some ⟨b6,o6,none⟩) rn5 rc5) rfl (by go_simp) ⟨h0,h1,h2,h3,h4,fun _=>rfl,h6,h7,h8,h9,hK,hA,i90,iA9⟩
      ·replace ho:=Option.some.inj ho
       subst ho
       refine zAO.val (w':=W) (v:=.int .i64 (j:Nat)) rfl (by go_simp) ⟨h0,h1,h2,h3,h4,h5,fun _=>rfl,h7,h8,h9,hK,hA,i90,iA9⟩
      ·replace ho:=Option.some.inj ho
       subst ho
       have k5:=h5 (hd {on:=5,ground:=.data} (by simp) (by kernel_rfl))
       rw[k5]at e29
       have k6:=h6 (hd {on:=6,ground:=.data} (by simp) (by kernel_rfl))
       rw[k6]at e30
       have hi1:=HIT.out.2.2
       have hi2:(0:Int)<=(j:Int):=by omega
       refine zAO.val (w':=W) (v:=.pointer (some ⟨b6,o6+j,none⟩)) rfl (by go_simp) ⟨h0,h1,h2,h3,h4,h5,h6,fun _=>rfl,h8,h9,hK,hA,i90,iA9⟩
      ·replace ho:=Option.some.inj ho
       subst ho
       have k7:=h7 (hd {on:=7,ground:=.data} (by simp) (by kernel_rfl))
       rw[k7]at e31
       refine zAO.val (w':=W) (v:=.int .i64 v) rfl (by go_simp) ⟨h0,h1,h2,h3,h4,h5,h6,h7,fun _=>rfl,h9,hK,hA,i90,iA9⟩
      ·replace ho:=Option.some.inj ho
       subst ho
       have k0:=h0 (hd {on:=0,ground:=.data} (by simp) (by kernel_rfl))
       rw[k0]at e24
       have k4:=h4 (hd {on:=4,ground:=.data} (by simp) (by kernel_rfl))
       rw[k4]at e28
       have k8:=h8 (hd {on:=8,ground:=.data} (by simp) (by kernel_rfl))
       rw[k8]at e32
       refine zAO.call (g:=96) (args:=#[.agg #[.int .i64 s1,.int .u64 s2,.int .i64 d1,.int .u64 d2],.agg #[.int .i64 RN,.int .i64 RD],.int .i64 v]) (w':=W) rfl (by simp[execOp,resolve,invoke,go_sem,e24,e28,e32,eFP,egP]) ((HPL.out W).mono ?_)
       rintro e' w4 ⟨rfl,hb4⟩
       exact⟨_,rfl,h0,h1,h2,h3,h4,h5,h6,h7,h8,fun _=>rfl,hK.trans (Keep.of_below hb4),hA.keep (hb4.block _ hA.lt),fun _=>hd {on:=0,ground:=.data} (by simp) (by kernel_rfl),fun _=>rfl⟩
      ·replace ho:=Option.some.inj ho
       subst ho
       have k9:=h9 (hd {on:=9,ground:=.data} (by simp) (by kernel_rfl))
       rw[k9]at e33
       rw[hi]at hA
       have hA':SumB W g sn sd:=hA
       obtain⟨x0,x1,x2,x3,xf⟩:=hA'.cells PS.out PD.out
       have y0:=xf 0
       have y1:=xf 1
       have y2:=xf 2
       have y3:=xf 3
       have hlt:=hA'.lt
       have K:=zIY W g (.int .i64 t1) (.int .u64 t2) (.int .i64 c1) (.int .u64 c2)
       clear xf
       refine zAO.skip (w':=(((W.setCell ⟨g,0,none⟩ (.int .i64 t1)).setCell ⟨g,1,none⟩ (.int .u64 t2)).setCell ⟨g,2,none⟩ (.int .i64 c1)).setCell ⟨g,3,none⟩ (.int .u64 c2)) rfl (by go_simp) ⟨h0,h1,h2,h3,h4,h5,h6,h7,h8,h9,hK.trans K,hA'.set PT.out PC.out,i90,fun _=>hd {on:=9,ground:=.data} (by simp) (by kernel_rfl)⟩
      ·exact absurd ho (by simp)
     ·rintro l f W hall ⟨h0,h1,h2,h3,h4,h5,h6,h7,h8,h9,hK,hA,i90,iA9⟩
      rw[hall 10 (by decide)]at hA
      have HA9:=hid (show SumB W g (sn*RD+sd*(RN*v)) (sd*RD)from hA)
      have HK9:=hid hK
      clear h0 h1 h2 h3 h4 h5 h6 h7 h8 h9 hK hA i90 iA9 hall
      rw[HA0.out]
      simp only[zDG,List.foldl_cons,List.foldl_nil,Act.put,List.setIfInBounds_toArray,List.set_cons_succ,List.set_cons_zero]
      generalize f 24=z24,f 25=z25,f 26=z26,f 27=z27,f 28=z28,f 29=z29,f 30=z30,f 31=z31,f 32=z32,f 33=z33
      clear hsz v1 v5 v6 v7 v8 HA0
      go_wp2
      refine⟨⟨t+1,by omega,by go_num,?_,?_⟩,by simp[intOf];omega⟩
      ·rw[HSR.out];exact HA9.out
      ·exact HK9.out.below HWD.out HWD.out.size fun k hk=>by have:=HGW.out;omega
     ·intro l f hl
      refine⟨?_,?_,?_,?_,?_,?_,?_,?_,?_,?_,Keep.refl _ _,(by rw[hl 10 (by decide)];exact HAD.out),(fun h=>by rw[hl _ (by decide)]at h;cases h),(fun h=>by rw[hl _ (by decide)]at h;cases h)⟩
      ·intro h;rw[hl _ (by decide)]at h;cases h
      ·intro h;rw[hl _ (by decide)]at h;cases h
      ·intro h;rw[hl _ (by decide)]at h;cases h
      ·intro h;rw[hl _ (by decide)]at h;cases h
      ·intro h;rw[hl _ (by decide)]at h;cases h
      ·intro h;rw[hl _ (by decide)]at h;cases h
      ·intro h;rw[hl _ (by decide)]at h;cases h
      ·intro h;rw[hl _ (by decide)]at h;cases h
      ·intro h;rw[hl _ (by decide)]at h;cases h
      ·intro h;rw[hl _ (by decide)]at h;cases h
    ·obtain rfl:t=n2:=by omega
     have HSX:=hid hsb
     have HBT:=hid hbt
     obtain⟨k1,k2,k3⟩:=HBD.out j t (by omega)
     obtain⟨⟨sn,sd⟩,hS⟩:∃q,q=sumP (colP M j) x t:=⟨_,rfl⟩
     have HAT:=hid (show zKX M x j=decide (sn<=sd∧ -sd<=sn)by unfold zKX;rw[HN.out,<- hS])
     rw[<- hS]at hsb k1 k2 k3 HSX
     simp only[]at hsb k1 k2 k3 HSX
     obtain⟨s1,s2,pS⟩:=WP.ex sn
     obtain⟨d1,d2,pD⟩:=WP.ex sd
     have HC1:=hid (fun(X:World)=>zJX X sn sd 1 (by unfold B127;omega) (by omega) (by unfold B127;omega))
     have HC2:=hid (fun(X:World)=>zJX X sn sd (-1) (by unfold B127;omega) (by omega) (by unfold B127;omega))
     rw[pS.sum pD,Int.mul_one]at HC1
     rw[pS.sum pD,show sd* -1= -sd by omega]at HC2
     obtain⟨x0,x1,x2,x3,xf⟩:=hsb.cells pS pD
     have hgl:=hsb.lt
     have PS:=hid pS
     have PD:=hid pD
     have HKK:=hid (And.intro k2 k2)
     have hni:¬((t:Int)<(t:Int)):=by omega
     clear xf hsb hbt pS pD k1 k2 k3 hS
     by_cases hA:sd<sn
     ·have hc:cmpI sn sd=1:=by unfold cmpI;rw[if_neg (by omega),if_neg (by omega)]
      have HNO:=hid (show B=false from HBF.out j HJL.out (by rw[HAT.out,decide_eq_false_iff_not];omega))
      rw[hc]at HC1
      clear hc hA
      go_wp2_with (go_at_call 155;refine(HC1.out _).mono ?_;rintro e w4 ⟨rfl,hb4⟩;have HB4:=hid hb4;clear hb4;refine Stop.of ?_)
      refine Stop.go ?_
      go_wp2
      go_ret
      exact⟨by rw[HNO.out];rfl,zAA HBT.out HB4.out⟩
     ·have hc:¬0<cmpI sn sd:=by unfold cmpI;split<;>(try split)<;>omega
      obtain⟨C,hC⟩:=exq (cmpI sn sd)
      rw[<- hC]at hc HC1
      have HCC:=hid hc
      by_cases hB:sn< -sd
      ·have hc2:cmpI sn (-sd)= -1:=by unfold cmpI;rw[if_pos (by omega)]
       have HNO:=hid (show B=false from HBF.out j HJL.out (by rw[HAT.out,decide_eq_false_iff_not];omega))
       rw[hc2]at HC2
       clear hc2 hA hB hC
       go_wp2_with (first
        | (go_at_call 155;refine(HC1.out _).mono ?_;rintro e w4 ⟨rfl,hb4⟩;have HB4:=hid hb4;clear hb4;refine Stop.of ?_))
       refine Stop.go ?_
       have hsb4:=HSX.out.keep (HB4.out.block _ HSX.out.lt)
       clear x0 x1 x2 x3
       obtain⟨x0,x1,x2,x3,xf⟩:=hsb4.cells PS.out PD.out
       clear xf hsb4
       go_wp2_with (first
        | (go_at_call 155;refine(HC2.out _).mono ?_;rintro e w5 ⟨rfl,hb5⟩;have HB5:=hid hb5;clear hb5;refine Stop.of ?_))
       refine Stop.go ?_
       go_wp2
       go_ret
       exact⟨by rw[HNO.out];rfl,zAA HBT.out (zAA HB4.out HB5.out)⟩
      ·have hc2:¬cmpI sn (-sd)<0:=by unfold cmpI;split<;>(try split)<;>omega
       obtain⟨C2,hC2⟩:=exq (cmpI sn (-sd))
       rw[<- hC2]at hc2 HC2
       have HOK:=hid (show zKX M x j=true by rw[HAT.out,decide_eq_true_iff];omega)
       clear hA hB hC hC2
       go_wp2_with (first
        | (go_at_call 155;refine(HC1.out _).mono ?_;rintro e w4 ⟨rfl,hb4⟩;have HB4:=hid hb4;clear hb4;refine Stop.of ?_))
       refine Stop.go ?_
       have hsb4:=HSX.out.keep (HB4.out.block _ HSX.out.lt)
       clear x0 x1 x2 x3
       obtain⟨x0,x1,x2,x3,xf⟩:=hsb4.cells PS.out PD.out
       clear xf hsb4
       go_wp2_with (first
        | (go_at_call 155;refine(HC2.out _).mono ?_;rintro e w5 ⟨rfl,hb5⟩;have HB5:=hid hb5;clear hb5;refine Stop.of ?_))
       refine Stop.go ?_
       go_wp2
       refine⟨⟨j+1,by omega,by go_num,zAA HBT.out (zAA HB4.out HB5.out),hid fun q hq=>?_⟩,by simp[intOf];omega⟩
       rcases Nat.lt_or_ge q j with h|h
       ·exact HQ.out q h
       ·obtain rfl:q=j:=by omega
        exact HOK.out
  ·obtain rfl:j=CW:=by omega
   have HYES:=hid (HBT2.out HQ.out)
   have HFF:=hid hbj
   have i1:¬(j:Int)<(j:Int):=by omega
   go_wp2
   go_ret
   exact⟨by rw[HYES.out];rfl,HFF.out⟩
end
section
open Go.RowKit
theorem dinvalid_c(w:World)(N D:Int):Calls Tryz.prog 81 #[.agg #[.int .i64 N,.int .i64 D]] w fun e w'=>e=.returned (.bool (!zAH (N,D)))∧Below w.heap.size w w':=by
 obtain⟨wz,hwz⟩:=exq (w.alloc (.cells #[.int .i64 N,.int .i64 D] 29))
 have HB:=hid (show Below w.heap.size w wz by rw[hwz];exact(Below.refl _ _).alloc (Nat.le_refl _) _)
 have l0:wz.cell? ⟨w.heap.size,0,none⟩=some (.int .i64 N):=by rw[hwz,World.cell?_alloc_at _ _ _ _ rfl];rfl
 have l1:wz.cell? ⟨w.heap.size,1,none⟩=some (.int .i64 D):=by rw[hwz,World.cell?_alloc_at _ _ _ _ rfl];rfl
 have HV:=hid (zLQ wz N D)
 obtain⟨b,hb⟩:=exq (zAH (N,D))
 rw[<- hb]at HV⊢
 clear hb
 go_enter Tryz.func81,Tryz.ntmps81
 go_wp2_with fail
 rw[<- hwz]
 clear hwz
 go_wp2_with (go_at_call 147;refine HV.out.mono ?_;rintro e w2 ⟨rfl,hb2⟩;refine Stop.of ?_)
 refine Stop.go ?_
 go_wp2
 go_ret
 exact⟨rfl,zAA HB.out hb2⟩
theorem any_inv(x:List Rt):x.any (fun r=>!zAH r)=!x.all zAH:=by
 induction x with
 |nil=>rfl
 |cons r x ih=>rw[List.any_cons,List.all_cons,ih,Bool.not_and]
theorem zGF(w:World)(a:Option Addr)(n cap:Nat)(x:List Rt)(hn:x.length=n)(hm:n<=maxLen)(H:zBE w a x):
 Calls Tryz.prog 80 #[.slice a n cap,.func (.func 81) #[] #[]] w fun e w'=>e=.returned (.bool (!x.all zAH))∧Below w.heap.size w w':=by
 have h:=containsQ w a n cap x hn hm H 81 #[] (fun r=>!zAH r) (fun r W hW=>dinvalid_c W r.1 r.2) (enters_of Tryz.func81 (by kernel_rfl) rfl)
 rw[any_inv]at h;exact h
def zDS(M:Mask)(Y:List Int)(p x:List Rt):Bool:=
 zCF M p Y&&(decide (x.length=M.length)&&(x.all zAH&&(zNM M x&&decide ((sumP (vec Y) x M.length).1*(nrmQ p).2=(nrmQ p).1*(sumP (vec Y) x M.length).2))))
theorem dproves_c(w:World)(a a3 pa xa:Option Addr)(n cap n3 cap3 pn pc xn xc:Nat)(M:Mask)(Y:List Int)(p x:List Rt)(hn:M.length=n)(hn3:Y.length=n3)(hpn:p.length=pn)(hxn:x.length=xn)(hm:n<=maxLen)(hm3:n3<=maxLen)(hmp:pn<=maxLen)(hmx:xn<=maxLen)
 (H:zAN w a M)(H3:zAI w a3 Y)(HP:zBE w pa p)(HXx:zBE w xa x):
 Calls Tryz.prog 61 #[.slice a n cap,.slice a3 n3 cap3,.agg #[.slice pa pn pc,.slice xa xn xc]] w fun e w'=>e=.returned (.bool (zDS M Y p x))∧Below w.heap.size w w':=by
 obtain⟨pb,hpb⟩:=exq (w.heap.size)
 obtain⟨wz,hwz⟩:=exq (w.alloc (.cells #[.slice pa pn pc,.slice xa xn xc] 78))
 have hbz:Below w.heap.size w wz:=by rw[hwz];exact(Below.refl _ _).alloc (Nat.le_refl _) _
 have hl0:wz.cell? ⟨pb,0,none⟩=some (.slice pa pn pc):=by rw[hwz,hpb,World.cell?_alloc_at _ _ _ _ rfl];rfl
 have hl1:wz.cell? ⟨pb,1,none⟩=some (.slice xa xn xc):=by rw[hwz,hpb,World.cell?_alloc_at _ _ _ _ rfl];rfl
 have hpl:pb<wz.heap.size:=by rw[hwz,hpb];simp
 have HPZ:=hid (fun(X:World) (hX:Below wz.heap.size wz X)=>show X.cell? ⟨pb,0,none⟩=some (.slice pa pn pc)∧X.cell? ⟨pb,1,none⟩=some (.slice xa xn xc)from⟨(hX.cell (p:=⟨pb,0,none⟩) hpl).trans hl0,(hX.cell (p:=⟨pb,1,none⟩) hpl).trans hl1⟩)
 have HMK:=hid (lmakes_c wz a pa a3 n cap pn pc n3 cap3 M p Y hn hpn hn3 hm hmp hm3 (H.below hbz) (HP.below hbz) (H3.below hbz))
 have HCN:=hid (fun(X:World) (hX:Below w.heap.size w X)=>zGF X xa xn xc x hxn hmx (HXx.below hX))
 have HBZ:=hid hbz
 have HWZ:=hid hwz
 by_cases c1:zCF M p Y=true
 rotate_left
 ·have c1':zCF M p Y=false:=by simpa using c1
  have HNO:=hid (show zDS M Y p x=false by unfold zDS;rw[c1'];rfl)
  rw[c1']at HMK
  clear hn hn3 hpn hxn H H3 HP HXx hbz hwz c1 c1'
  have HHH:=hid hpb
  go_enter Tryz.func61,Tryz.ntmps61
  go_upto_region 1 with fail
  rw[<- hpb,<- HWZ.out]
  clear hpb
  go_wp2_with (go_at_call 84;refine HMK.out.mono ?_;rintro e w1 ⟨rfl,hb1⟩;have HB1:=hid hb1;clear hb1;refine Stop.of ?_)
  refine Stop.go ?_
  go_wp2
  go_ret
  exact⟨by rw[HNO.out];rfl,zAA HBZ.out HB1.out⟩
 have hr0:rdE M Y=0:=by
  rcases Decidable.em (rdE M Y=0)with h|h
  ·exact h
  ·rw[mk_no1 h]at c1;cases c1
 have hpc:p.length=zAC M:=by
  rcases Decidable.em (p.length=zAC M)with h|h
  ·exact h
  ·rw[mk_no2 h]at c1;cases c1
 have hpv:p.all zAH=true:=by
  cases h:p.all zAH with
  |true=>rfl
  |false=>rw[mk_no3 h]at c1;cases c1
 obtain⟨hok,hyl,hmil⟩:=zHV hr0
 obtain⟨hM,h1,h6,hc1,hc10⟩:=zDJ hok
 obtain rfl:n3=n:=by omega
 rw[c1]at HMK
 by_cases c2:xn=n3
 rotate_left
 ·have HNO:=hid (show zDS M Y p x=false by unfold zDS;rw[decide_eq_false (show ¬x.length=M.length by omega)];simp)
  have hnb:((xn:Int) !=(n3:Int))=true:=by simp;omega
  clear hn hn3 hpn hxn H H3 HP HXx hbz hwz c1 c2 hr0 hpc hpv hok hyl hmil hM h1 h6 hc1 hc10
  go_enter Tryz.func61,Tryz.ntmps61
  go_upto_region 1 with fail
  rw[<- hpb,<- HWZ.out]
  clear hpb
  go_wp2_with (go_at_call 84;refine HMK.out.mono ?_;rintro e w1 ⟨rfl,hb1⟩;have HB1:=hid hb1;clear hb1;refine Stop.of ?_)
  refine Stop.go ?_
  clear hl0 hl1
  obtain⟨z0,z1⟩:=HPZ.out _ HB1.out
  go_wp2
  go_ret
  exact⟨by rw[HNO.out];rfl,zAA HBZ.out HB1.out⟩
 subst c2
 have hnb:((xn:Int) !=(xn:Int))=false:=by simp
 by_cases c3:x.all zAH=true
 rotate_left
 ·have c3':x.all zAH=false:=by simpa using c3
  have HNO:=hid (show zDS M Y p x=false by unfold zDS;rw[c3'];simp)
  rw[c3']at HCN
  clear hn hn3 hpn hxn H H3 HP HXx hbz hwz c1 c3 c3' hr0 hpc hpv hok hyl hmil hM h1 h6 hc1 hc10
  go_enter Tryz.func61,Tryz.ntmps61
  go_upto_region 1 with fail
  rw[<- hpb,<- HWZ.out]
  clear hpb
  go_wp2_with (go_at_call 84;refine HMK.out.mono ?_;rintro e w1 ⟨rfl,hb1⟩;have HB1:=hid hb1;clear hb1;refine Stop.of ?_)
  refine Stop.go ?_
  clear hl0 hl1
  obtain⟨z0,z1⟩:=HPZ.out _ HB1.out
  go_wp2_with (go_at_call 80;refine(HCN.out _ (zAA HBZ.out HB1.out)).mono ?_;rintro e w2 ⟨rfl,hb2⟩;have HB2:=hid hb2;clear hb2;refine Stop.of ?_)
  refine Stop.go ?_
  go_wp2
  go_ret
  exact⟨by rw[HNO.out];rfl,zAA HBZ.out (zAA HB1.out HB2.out)⟩
 have hxv:=zFY c3
 rw[c3]at HCN
 have hone:∀r∈M,∀k,-1<=vec r k∧vec r k<=1:=hM.one
 have HSE:=hid (fun(X:World) (hX:Below w.heap.size w X)=>dsees_c X a xa xn cap xn xc M x hn hxn rfl (by omega) (by omega) hM.wid hone hc10 hxv (H.below hX) (HXx.below hX))
 by_cases c4:zNM M x=true
 rotate_left
 ·have c4':zNM M x=false:=by simpa using c4
  have HNO:=hid (show zDS M Y p x=false by unfold zDS;rw[c4'];simp)
  rw[c4']at HSE
  clear hn hn3 hpn hxn H H3 HP HXx hbz hwz c1 c3 c4 c4' hr0 hpc hpv hok hyl hmil hM h1 h6 hc1 hc10 hxv hone
  go_enter Tryz.func61,Tryz.ntmps61
  go_upto_region 1 with fail
  rw[<- hpb,<- HWZ.out]
  clear hpb
  go_wp2_with (go_at_call 84;refine HMK.out.mono ?_;rintro e w1 ⟨rfl,hb1⟩;have HB1:=hid hb1;clear hb1;refine Stop.of ?_)
  refine Stop.go ?_
  clear hl0 hl1
  obtain⟨z0,z1⟩:=HPZ.out _ HB1.out
  go_wp2_with (go_at_call 80;refine(HCN.out _ (zAA HBZ.out HB1.out)).mono ?_;rintro e w2 ⟨rfl,hb2⟩;have HB2:=hid (zAA HB1.out hb2);clear hb2;refine Stop.of ?_)
  refine Stop.go ?_
  clear z0 z1
  obtain⟨z0,z1⟩:=HPZ.out _ HB2.out
  go_wp2_with (go_at_call 123;refine(HSE.out _ (zAA HBZ.out HB2.out)).mono ?_;rintro e w3 ⟨rfl,hb3⟩;have HB3:=hid hb3;clear hb3;refine Stop.of ?_)
  refine Stop.go ?_
  go_wp2
  go_ret
  exact⟨by rw[HNO.out];rfl,zAA HBZ.out (zAA HB2.out HB3.out)⟩
 rw[c4]at HSE
 have HLAST:=hid (show zDS M Y p x=decide ((sumP (vec Y) x xn).1*(nrmQ p).2=(nrmQ p).1*(sumP (vec Y) x xn).2)by
  unfold zDS;rw[c1,c3,c4,decide_eq_true (show x.length=M.length by omega),hn];simp)
 obtain⟨B,hB⟩:=exq (zDS M Y p x)
 rw[<- hB]at HLAST⊢
 have hvb:∀k,(vec Y k).natAbs<=1000000:=fun k=>by
  unfold vec
  cases e:Y[k]? with
  |none=>decide
  |some y=>
   have:=mil_le hmil y (List.mem_of_getElem? e)
   show y.natAbs<=_
   omega
 have HVB:=hid hvb
 have HBD:=hid (fun k (hk:k<=6)=>sumP_bnd6 hvb hxv hk)
 have HXV:=hid hxv
 have hpvb:=zFY hpv
 have HNB:=hid (show(nrmQ p).1.natAbs<=10485760000000000000000000000000000000∧1<=(nrmQ p).2∧(nrmQ p).2.natAbs<=104857600000000000000000000 from zPG hpvb (Nat.le_refl _) (by omega))
 have HNORM:=hid (fun(X:World) (hX:Below w.heap.size w X)=>dnorm_c X pa pn pc p hpn (by omega) (HP.below hX) hpvb)
 have HX:=hid HXx
 have HY:=hid H3
 have HNX:=hid hxn
 have HNY:=hid hn3
 have hn6:xn<=6:=by omega
 clear hn hn3 hpn hxn H H3 HP HXx hbz hwz c1 c3 c4 hr0 hpc hpv hok hyl hmil hM h1 h6 hc1 hc10 hxv hone hB hvb hpvb
 go_enter Tryz.func61,Tryz.ntmps61
 go_upto_region 1 with fail
 rw[<- hpb,<- HWZ.out]
 clear hpb
 go_wp2_with (go_at_call 84;refine HMK.out.mono ?_;rintro e w1 ⟨rfl,hb1⟩;have HB1:=hid hb1;clear hb1;refine Stop.of ?_)
 refine Stop.go ?_
 clear hl0 hl1
 obtain⟨z0,z1⟩:=HPZ.out _ HB1.out
 go_wp2_with (go_at_call 80;refine(HCN.out _ (zAA HBZ.out HB1.out)).mono ?_;rintro e w2 ⟨rfl,hb2⟩;have HB2:=hid (zAA HB1.out hb2);clear hb2;refine Stop.of ?_)
 refine Stop.go ?_
 clear z0 z1
 obtain⟨z0,z1⟩:=HPZ.out _ HB2.out
 go_wp2_with (go_at_call 123;refine(HSE.out _ (zAA HBZ.out HB2.out)).mono ?_;rintro e w3 ⟨rfl,hb3⟩;have HB3:=hid (zAA HB2.out hb3);clear hb3;refine Stop.of ?_)
 refine Stop.go ?_
 clear z0 z1
 go_wp2_with (go_at_call 95;refine(zLU _).mono ?_;rintro e w4 ⟨rfl,hb4⟩;have HB4:=hid (zAA HB3.out hb4);clear hb4;refine Stop.of ?_)
 refine Stop.go ?_
 have hz:sumV 0 1=.agg #[.int .i64 0,.int .u64 0,.int .i64 0,.int .u64 1]:=by simp[sumV]
 rw[hz]
 clear hz
 go_upto_region 4 with fail
 obtain⟨wb,hwb⟩:=exq (w4.alloc (.cells #[.int .i64 0,.int .u64 0,.int .i64 0,.int .u64 1] 102))
 obtain⟨g,hg⟩:=exq (w4.heap.size)
 have HSB:=hid (show SumB wb g 0 1 by rw[hwb,hg];exact SumB.made w4 ⟨by decide,by decide⟩ ⟨by decide,by decide⟩)
 have hbb:Below wz.heap.size wz wb:=by rw[hwb];exact HB4.out.alloc HB4.out.size _
 have HBB:=hid (zAA HBZ.out hbb)
 have HGW:=hid (show wz.heap.size<=g by rw[hg];exact HB4.out.size)
 have HGZ:=hid HBZ.out.size
 rw[<- hwb,<- hg]
 obtain⟨z0,z1⟩:=HPZ.out _ hbb
 clear hwb hg
 have HBBZ:=hid hbb
 clear hbb HMK HCN HSE HB1 HB2 HB3 HB4
 go_wp2
 clear z0 z1
 go_loopw [40] (fun i wr=>∃t:Nat,t<=xn∧i=.int .i64 t∧SumB wr g (sumP (vec Y) x t).1 (sumP (vec Y) x t).2∧Below wz.heap.size wz wr) (fun i _=>xn-(intOf i).toNat)
 case atStart=>exact⟨0,Nat.zero_le _,rfl,HSB.out,HBBZ.out⟩
 case round=>
  obtain⟨t,ht,rfl,hsb,hbt⟩:=hrel
  by_cases htl:t<xn
  ·obtain⟨bx,ox,rfl,hbx,hx0,hx1⟩:=HX.out t (by rw[HNX.out];exact htl)
   obtain⟨b6,o6,rfl,hb6,hc6⟩:=HY.out t (by rw[HNY.out];exact htl)
   have hv6:Y[t]?.getD 0=vec Y t:=rfl
   rw[hv6]at hc6
   have hxt:zAB x t=x[t]'(by rw[HNX.out];exact htl):=by unfold zAB;rw[List.getElem?_eq_getElem (by rw[HNX.out];exact htl)];rfl
   rw[<- hxt]at hx0 hx1
   have hsr:sumP (vec Y) x (t+1)=((sumP (vec Y) x t).1*(zAB x t).2+(sumP (vec Y) x t).2*((zAB x t).1*vec Y t),(sumP (vec Y) x t).2*(zAB x t).2):=rfl
   obtain⟨k1,k2,k3⟩:=HBD.out t (by omega)
   obtain⟨m1,m2,m3⟩:=HBD.out (t+1) (by omega)
   obtain⟨x1,x2,x3,x4⟩:=HXV.out t
   have hvb:=HVB.out t
   rw[hsr]at m1 m2 m3
   have HSR:=hid hsr
   obtain⟨v,hv⟩:=exq (vec Y t)
   rw[<- hv]at hc6 m1 HSR hvb
   obtain⟨⟨RN,RD⟩,hND⟩:∃q,q=zAB x t:=⟨_,rfl⟩
   rw[<- hND]at hx0 hx1 m1 m2 m3 x1 x2 x3 x4 HSR
   obtain⟨⟨sn,sd⟩,hS⟩:∃q,q=sumP (vec Y) x t:=⟨_,rfl⟩
   rw[<- hS]at hsb k1 k2 k3 m1 m2 m3 HSR
   simp only[]at hx0 hx1 m1 m2 m3 x1 x2 x3 x4 HSR hsb k1 k2 k3
   have e1:(sn*RD).natAbs<=245760000000000000000000000000000*400:=by
    rw[Int.natAbs_mul];exact Nat.mul_le_mul k1 (by omega)
   have e2:(sd*(RN*v)).natAbs<=4096000000000000*10000000000000000:=by
    rw[Int.natAbs_mul,Int.natAbs_mul]
    exact Nat.mul_le_mul k3 (Nat.mul_le_mul (show RN.natAbs<=10000000000 by omega) hvb)
   have e3: -10000000000000000<=RN*v∧RN*v<=10000000000000000:=by
    have:(RN*v).natAbs<=10000000000*1000000:=by rw[Int.natAbs_mul];exact Nat.mul_le_mul (by omega) hvb
    omega
   have HPL:=hid (fun(X:World)=>zJT X sn sd RN RD v (by unfold B127;omega) (by unfold B127;omega) (by omega) (by omega) (by unfold B127;omega) (by unfold B127;omega) (by unfold B127;omega) (by unfold B127;omega))
   obtain⟨s1,s2,pS⟩:=WP.ex sn
   obtain⟨d1,d2,pD⟩:=WP.ex sd
   obtain⟨t1,t2,pT⟩:=WP.ex (sn*RD+sd*(RN*v))
   obtain⟨c1,c2,pC⟩:=WP.ex (sd*RD)
   rw[pS.sum pD,pT.sum pC]at HPL
   simp only[ratV]at HPL
   have PS:=hid pS
   have PD:=hid pD
   have PT:=hid pT
   have PC:=hid pC
   have HSX:=hid hsb
   have HBT:=hid hbt
   have HCE:=hid (fun(X:World) (hX:Below w.heap.size w X)=>show X.cell? ⟨b6,o6+t,none⟩=some (.int .i64 v)from(hX.cell (p:=⟨b6,_,none⟩) hb6).trans hc6)
   have q0:wr.cell? ⟨bx,ox+t*2,none⟩=some (.int .i64 RN):=((zAA HBZ.out HBT.out).cell (p:=⟨bx,_,none⟩) hbx).trans hx0
   have q1:wr.cell? ⟨bx,ox+t*2+1,none⟩=some (.int .i64 RD):=((zAA HBZ.out HBT.out).cell (p:=⟨bx,_,none⟩) hbx).trans hx1
   have i1:(t:Int)<(xn:Int):=by omega
   have HIT:=hid (show(0:Int)<=(t:Int)∧(t:Int)<(xn:Int)from⟨by omega,by omega⟩)
   clear hv6 hxt hsr k1 k2 k3 m1 m2 m3 x1 x2 x3 x4 hvb hv hND hS e1 e2 e3 pS pD pT pC hsb hbt hx0 hx1 hc6 hb6 hbx
   go_upto_region 7 with fail
   obtain⟨h,hh⟩:=exq (wr.heap.size)
   obtain⟨wh,hwh⟩:=exq (wr.alloc (.cells #[.int .i64 RN,.int .i64 RD] 29))
   rw[<- hh,<- hwh]
   have hbh:Below wr.heap.size wr wh:=by rw[hwh];exact(Below.refl _ _).alloc (Nat.le_refl _) _
   have HRH:=hid (show RatI wh h (RN,RD)by rw[hwh,hh];exact RatI.made wr (RN,RD))
   have HBH:=hid (zAA HBT.out hbh)
   have HSH:=hid (HSX.out.keep (hbh.block _ HSX.out.lt))
   have HRG:=hid (show h≠g by have:=HSX.out.lt;omega)
   clear q0 q1 i1 hh hwh hbh
   refine zAF (fun _ _=>True) (by kernel_rfl) ?_
   obtain⟨wd,hwd⟩:=exq (wh.drew)
   have hbd:Below wh.heap.size wh wd:=by rw[hwd];exact(Below.refl _ _).drew
   rw[<- hwd]
   have HWD:=hid (zAA HBH.out hbd)
   have HAD:=hid (HSH.out.keep (hbd.block _ HSH.out.lt))
   have HRD:=hid (HRH.out.keep (hbd.block _ HRH.out.lt))
   clear hbd hwd
   refine zDU fun a0 ha0=>?_
   have hsz:a0.tmps.size=58:=by rw[ha0];rfl
   have v1:a0.eval (.tmp 1)=.slice (some ⟨b6,o6,none⟩) xn cap3:=by rw[ha0];rfl
   have v7:a0.eval (.tmp 7)=.pointer (some ⟨g,0,none⟩):=by rw[ha0];rfl
   have v8:a0.eval (.tmp 8)=.int .i64 (t:Nat):=by rw[ha0];rfl
   have v9:a0.eval (.tmp 9)=.pointer (some ⟨h,0,none⟩):=by rw[ha0];rfl
   have HA0:=hid ha0
   clear ha0
   refine AnyT.regF [45,46,47,48,49,50,51] (fun l f W=>(l 0=true->f 45=.agg #[.int .i64 s1,.int .u64 s2,.int .i64 d1,.int .u64 d2])∧(l 1=true->f 46=.agg #[.int .i64 RN,.int .i64 RD])∧(l 2=true->f 47=.slice (some ⟨b6,o6,none⟩) xn cap3)∧(l 3=true->f 48=.int .i64 (t:Nat))∧(l 4=true->f 49=.pointer (some ⟨b6,o6+t,none⟩))∧(l 5=true->f 50=.int .i64 v)∧(l 6=true->f 51=.agg #[.int .i64 t1,.int .u64 t2,.int .i64 c1,.int .u64 c2])∧(Keep (fun k=>k≠g) wd W)∧(SumB W g (if l 7=true then sn*RD+sd*(RN*v)else sn) (if l 7=true then sd*RD else sd))∧(l 6=true->l 0=true)∧(l 7=true->l 6=true)) (by kernel_rfl) (by kernel_rfl) ?_ ?_ ?_
   ·have egP:∀args w,(callFunc 96 args).run Tryz.prog w=.ok (.enter 96 args) w:=enters_of Tryz.func96 (by kernel_rfl) rfl
    rintro l f W i o ho hi hd ⟨h0,h1,h2,h3,h4,h5,h6,hK,hA,i60,i76⟩
    have e45:zAE a0 [45,46,47,48,49,50,51] f (.tmp 45)=f 45:=by simp[zAE,hsz]
    have e46:zAE a0 [45,46,47,48,49,50,51] f (.tmp 46)=f 46:=by simp[zAE,hsz]
    have e47:zAE a0 [45,46,47,48,49,50,51] f (.tmp 47)=f 47:=by simp[zAE,hsz]
    have e48:zAE a0 [45,46,47,48,49,50,51] f (.tmp 48)=f 48:=by simp[zAE,hsz]
    have e49:zAE a0 [45,46,47,48,49,50,51] f (.tmp 49)=f 49:=by simp[zAE,hsz]
    have e50:zAE a0 [45,46,47,48,49,50,51] f (.tmp 50)=f 50:=by simp[zAE,hsz]
    have e51:zAE a0 [45,46,47,48,49,50,51] f (.tmp 51)=f 51:=by simp[zAE,hsz]
    have w1:zAE a0 [45,46,47,48,49,50,51] f (.tmp 1)=.slice (some ⟨b6,o6,none⟩) xn cap3:=by simp[zAE,v1]
    have w7:zAE a0 [45,46,47,48,49,50,51] f (.tmp 7)=.pointer (some ⟨g,0,none⟩):=by simp[zAE,v7]
    have w8:zAE a0 [45,46,47,48,49,50,51] f (.tmp 8)=.int .i64 (t:Nat):=by simp[zAE,v8]
    have w9:zAE a0 [45,46,47,48,49,50,51] f (.tmp 9)=.pointer (some ⟨h,0,none⟩):=by simp[zAE,v9]
    have eFP:zAE a0 [45,46,47,48,49,50,51] f (.func 96)=.func (.func 96) #[] #[]:=rfl
    have m2:=HCE.out W (zAA HBZ.out (hK.below HWD.out HWD.out.size fun k hk=>by have:=HGW.out;omega))
    rcases i with _|_|_|_|_|_|_|_|i
    ·replace ho:=Option.some.inj ho
     subst ho
     have l7:l 7=false:=by
      cases h:l 7 with
      |false=>rfl
      |true=>rw[i60 (i76 h)]at hi;cases hi
     rw[l7]at hA
     obtain⟨x0,x1,x2,x3,xf⟩:=SumB.cells (n:=sn) (d:=sd) hA PS.out PD.out
     rw[<- l7]at hA
     clear xf
     refine zAO.val (w':=W) (v:=.agg #[.int .i64 s1,.int .u64 s2,.int .i64 d1,.int .u64 d2]) rfl (by go_simp) ⟨fun _=>rfl,h1,h2,h3,h4,h5,h6,hK,hA,fun _=>rfl,i76⟩
    ·replace ho:=Option.some.inj ho
     subst ho
     obtain⟨y0,y1,_⟩:=(HRD.out.keep (hK.block _ HRD.out.lt HRG.out)).cells
     refine zAO.val (w':=W) (v:=.agg #[.int .i64 RN,.int .i64 RD]) rfl (by go_simp) ⟨h0,fun _=>rfl,h2,h3,h4,h5,h6,hK,hA,i60,i76⟩
    ·replace ho:=Option.some.inj ho
     subst ho
     refine zAO.val (w':=W) (v:=.slice (some ⟨b6,o6,none⟩) xn cap3) rfl (by go_simp) ⟨h0,h1,fun _=>rfl,h3,h4,h5,h6,hK,hA,i60,i76⟩
    ·replace ho:=Option.some.inj ho
     subst ho
     refine zAO.val (w':=W) (v:=.int .i64 (t:Nat)) rfl (by go_simp) ⟨h0,h1,h2,fun _=>rfl,h4,h5,h6,hK,hA,i60,i76⟩
    ·replace ho:=Option.some.inj ho
     subst ho
     have k2:=h2 (hd {on:=2,ground:=.data} (by simp) (by kernel_rfl))
     rw[k2]at e47
     have k3:=h3 (hd {on:=3,ground:=.data} (by simp) (by kernel_rfl))
     rw[k3]at e48
     have hi1:=HIT.out.1
     have hi2:=HIT.out.2
     refine zAO.val (w':=W) (v:=.pointer (some ⟨b6,o6+t,none⟩)) rfl (by go_simp) ⟨h0,h1,h2,h3,fun _=>rfl,h5,h6,hK,hA,i60,i76⟩
    ·replace ho:=Option.some.inj ho
     subst ho
     have k4:=h4 (hd {on:=4,ground:=.data} (by simp) (by kernel_rfl))
     rw[k4]at e49
     refine zAO.val (w':=W) (v:=.int .i64 v) rfl (by go_simp) ⟨h0,h1,h2,h3,h4,fun _=>rfl,h6,hK,hA,i60,i76⟩
    ·replace ho:=Option.some.inj ho
     subst ho
     have k0:=h0 (hd {on:=0,ground:=.data} (by simp) (by kernel_rfl))
     rw[k0]at e45
     have k1:=h1 (hd {on:=1,ground:=.data} (by simp) (by kernel_rfl))
     rw[k1]at e46
     have k5:=h5 (hd {on:=5,ground:=.data} (by simp) (by kernel_rfl))
     rw[k5]at e50
     refine zAO.call (g:=96) (args:=#[.agg #[.int .i64 s1,.int .u64 s2,.int .i64 d1,.int .u64 d2],.agg #[.int .i64 RN,.int .i64 RD],.int .i64 v]) (w':=W) rfl (by simp[execOp,resolve,invoke,go_sem,e45,e46,e50,eFP,egP]) ((HPL.out W).mono ?_)
     rintro e' w4 ⟨rfl,hb4⟩
     exact⟨_,rfl,h0,h1,h2,h3,h4,h5,fun _=>rfl,hK.trans (Keep.of_below hb4),hA.keep (hb4.block _ hA.lt),fun _=>hd {on:=0,ground:=.data} (by simp) (by kernel_rfl),fun _=>rfl⟩
    ·replace ho:=Option.some.inj ho
     subst ho
     have k6:=h6 (hd {on:=6,ground:=.data} (by simp) (by kernel_rfl))
     rw[k6]at e51
     rw[hi]at hA
     have hA':SumB W g sn sd:=hA
     obtain⟨x0,x1,x2,x3,xf⟩:=hA'.cells PS.out PD.out
     have y0:=xf 0
     have y1:=xf 1
     have y2:=xf 2
     have y3:=xf 3
     have hlt:=hA'.lt
     have K:=zIY W g (.int .i64 t1) (.int .u64 t2) (.int .i64 c1) (.int .u64 c2)
     clear xf
     refine zAO.skip (w':=(((W.setCell ⟨g,0,none⟩ (.int .i64 t1)).setCell ⟨g,1,none⟩ (.int .u64 t2)).setCell ⟨g,2,none⟩ (.int .i64 c1)).setCell ⟨g,3,none⟩ (.int .u64 c2)) rfl (by go_simp) ⟨h0,h1,h2,h3,h4,h5,h6,hK.trans K,hA'.set PT.out PC.out,i60,fun _=>hd {on:=6,ground:=.data} (by simp) (by kernel_rfl)⟩
    ·exact absurd ho (by simp)
   ·rintro l f W hall ⟨h0,h1,h2,h3,h4,h5,h6,hK,hA,i60,i76⟩
    rw[hall 7 (by decide)]at hA
    have HA9:=hid (show SumB W g (sn*RD+sd*(RN*v)) (sd*RD)from hA)
    have HK9:=hid hK
    clear h0 h1 h2 h3 h4 h5 h6 hK hA i60 i76 hall
    rw[HA0.out]
    simp only[zDG,List.foldl_cons,List.foldl_nil,Act.put,List.setIfInBounds_toArray,List.set_cons_succ,List.set_cons_zero]
    generalize f 45=z45,f 46=z46,f 47=z47,f 48=z48,f 49=z49,f 50=z50,f 51=z51
    clear hsz v1 v7 v8 v9 HA0
    go_wp2
    refine⟨⟨t+1,by omega,by go_num,?_,?_⟩,by simp[intOf];omega⟩
    ·rw[HSR.out];exact HA9.out
    ·exact HK9.out.below HWD.out HWD.out.size fun k hk=>by have:=HGW.out;omega
   ·intro l f hl
    refine⟨?_,?_,?_,?_,?_,?_,?_,Keep.refl _ _,(by rw[hl 7 (by decide)];exact HAD.out),(fun h=>by rw[hl _ (by decide)]at h;cases h),(fun h=>by rw[hl _ (by decide)]at h;cases h)⟩
    ·intro h;rw[hl _ (by decide)]at h;cases h
    ·intro h;rw[hl _ (by decide)]at h;cases h
    ·intro h;rw[hl _ (by decide)]at h;cases h
    ·intro h;rw[hl _ (by decide)]at h;cases h
    ·intro h;rw[hl _ (by decide)]at h;cases h
    ·intro h;rw[hl _ (by decide)]at h;cases h
    ·intro h;rw[hl _ (by decide)]at h;cases h
  ·obtain rfl:t=xn:=by omega
   have HSX:=hid hsb
   have HBT:=hid hbt
   obtain⟨k1,k2,k3⟩:=HBD.out t (by omega)
   obtain⟨⟨sn,sd⟩,hS⟩:∃q,q=sumP (vec Y) x t:=⟨_,rfl⟩
   rw[<- hS]at k1 k2 k3 HSX
   simp only[]at k1 k2 k3 HSX
   have hnb:=HNB.out
   obtain⟨EB,hEB⟩:=exq (decide (sn*(nrmQ p).2=(nrmQ p).1*sd))
   have HEQ:=hid (fun(X:World)=>sequal_c X sn sd (nrmQ p).1 (nrmQ p).2 (by omega) (by omega) (by omega) (by omega))
   rw[<- hEB]at HEQ
   have HFI:=hid (show B=EB by rw[hEB];have h:=HLAST.out;rw[<- hS]at h;exact h)
   obtain⟨s1,s2,pS⟩:=WP.ex sn
   obtain⟨d1,d2,pD⟩:=WP.ex sd
   obtain⟨NV,hNV⟩:=exq (sumV (nrmQ p).1 (nrmQ p).2)
   rw[pS.sum pD,<- hNV]at HEQ
   have HNM:=hid (show ∀X,Below w.heap.size w X->Calls Tryz.prog 82 #[.slice pa pn pc] X fun e w'=>e=.returned NV∧Below X.heap.size X w' from fun X hX=>by rw[hNV];exact HNORM.out X hX)
   have PS:=hid pS
   have PD:=hid pD
   have hni:¬((t:Int)<(t:Int)):=by omega
   clear hsb hbt k1 k2 k3 hnb hS hEB pS pD hNV
   go_upto_region 9 with fail
   refine zAF (fun _ _=>True) (by kernel_rfl) ?_
   obtain⟨wd,hwd⟩:=exq (wr.drew)
   have hbd:Below wr.heap.size wr wd:=by rw[hwd];exact(Below.refl _ _).drew
   rw[<- hwd]
   have HWD:=hid (zAA HBT.out hbd)
   have HSD:=hid (HSX.out.keep (hbd.block _ HSX.out.lt))
   clear hbd hwd
   refine zDU fun a0 ha0=>?_
   have hsz:a0.tmps.size=58:=by rw[ha0];rfl
   have v5:a0.eval (.tmp 5)=.pointer (some ⟨pb,0,none⟩):=by rw[ha0];rfl
   have v7:a0.eval (.tmp 7)=.pointer (some ⟨g,0,none⟩):=by rw[ha0];rfl
   have HA0:=hid ha0
   clear ha0
   refine AnyT.regF [53,54,55,56,57,6] (fun l f W=>(l 0=true->f 53=.agg #[.int .i64 s1,.int .u64 s2,.int .i64 d1,.int .u64 d2])∧(l 1=true->f 54=.pointer (some ⟨pb,0,none⟩))∧(l 2=true->f 55=.slice pa pn pc)∧(l 3=true->f 56=NV)∧(l 4=true->f 57=.bool EB)∧(l 5=true->f 6=.bool EB)∧(Below wd.heap.size wd W)) (by kernel_rfl) (by kernel_rfl) ?_ ?_ ?_
   ·have egN:∀args w,(callFunc 82 args).run Tryz.prog w=.ok (.enter 82 args) w:=enters_of Tryz.func82 (by kernel_rfl) rfl
    have egQ:∀args w,(callFunc 124 args).run Tryz.prog w=.ok (.enter 124 args) w:=enters_of Tryz.func124 (by kernel_rfl) rfl
    rintro l f W i o ho hi hd ⟨h0,h1,h2,h3,h4,h5,hS⟩
    have e53:zAE a0 [53,54,55,56,57,6] f (.tmp 53)=f 53:=by simp[zAE,hsz]
    have e54:zAE a0 [53,54,55,56,57,6] f (.tmp 54)=f 54:=by simp[zAE,hsz]
    have e55:zAE a0 [53,54,55,56,57,6] f (.tmp 55)=f 55:=by simp[zAE,hsz]
    have e56:zAE a0 [53,54,55,56,57,6] f (.tmp 56)=f 56:=by simp[zAE,hsz]
    have e57:zAE a0 [53,54,55,56,57,6] f (.tmp 57)=f 57:=by simp[zAE,hsz]
    have e6:zAE a0 [53,54,55,56,57,6] f (.tmp 6)=f 6:=by simp[zAE,hsz]
    have w5:zAE a0 [53,54,55,56,57,6] f (.tmp 5)=.pointer (some ⟨pb,0,none⟩):=by simp[zAE,v5]
    have w7:zAE a0 [53,54,55,56,57,6] f (.tmp 7)=.pointer (some ⟨g,0,none⟩):=by simp[zAE,v7]
    have eFN:zAE a0 [53,54,55,56,57,6] f (.func 82)=.func (.func 82) #[] #[]:=rfl
    have eFQ:zAE a0 [53,54,55,56,57,6] f (.func 124)=.func (.func 124) #[] #[]:=rfl
    rcases i with _|_|_|_|_|_|i
    ·replace ho:=Option.some.inj ho
     subst ho
     obtain⟨x0,x1,x2,x3,xf⟩:=(HSD.out.keep (hS.block _ HSD.out.lt)).cells PS.out PD.out
     clear xf
     refine zAO.val (w':=W) (v:=.agg #[.int .i64 s1,.int .u64 s2,.int .i64 d1,.int .u64 d2]) rfl (by go_simp) ⟨fun _=>rfl,h1,h2,h3,h4,h5,hS⟩
    ·replace ho:=Option.some.inj ho
     subst ho
     refine zAO.val (w':=W) (v:=.pointer (some ⟨pb,0,none⟩)) rfl (by go_simp) ⟨h0,fun _=>rfl,h2,h3,h4,h5,hS⟩
    ·replace ho:=Option.some.inj ho
     subst ho
     have k1:=h1 (hd {on:=1,ground:=.data} (by simp) (by kernel_rfl))
     rw[k1]at e54
     obtain⟨x0,x1⟩:=HPZ.out W (zAA HWD.out hS)
     refine zAO.val (w':=W) (v:=.slice pa pn pc) rfl (by go_simp) ⟨h0,h1,fun _=>rfl,h3,h4,h5,hS⟩
    ·replace ho:=Option.some.inj ho
     subst ho
     have k2:=h2 (hd {on:=2,ground:=.data} (by simp) (by kernel_rfl))
     rw[k2]at e55
     refine zAO.call (g:=82) (args:=#[.slice pa pn pc]) (w':=W) rfl (by simp[execOp,resolve,invoke,go_sem,e55,eFN,egN]) ((HNM.out W (zAA HBZ.out (zAA HWD.out hS))).mono ?_)
     rintro e' w4 ⟨rfl,hb4⟩
     exact⟨_,rfl,h0,h1,h2,fun _=>rfl,h4,h5,zAA hS hb4⟩
    ·replace ho:=Option.some.inj ho
     subst ho
     have k0:=h0 (hd {on:=0,ground:=.data} (by simp) (by kernel_rfl))
     rw[k0]at e53
     have k3:=h3 (hd {on:=3,ground:=.data} (by simp) (by kernel_rfl))
     rw[k3]at e56
     refine zAO.call (g:=124) (args:=#[.agg #[.int .i64 s1,.int .u64 s2,.int .i64 d1,.int .u64 d2],NV]) (w':=W) rfl (by simp[execOp,resolve,invoke,go_sem,e53,e56,eFQ,egQ]) ((HEQ.out W).mono ?_)
     rintro e' w4 ⟨rfl,hb4⟩
     exact⟨_,rfl,h0,h1,h2,h3,fun _=>rfl,h5,zAA hS hb4⟩
    ·replace ho:=Option.some.inj ho
     subst ho
     have k4:=h4 (hd {on:=4,ground:=.data} (by simp) (by kernel_rfl))
     rw[k4]at e57
     refine zAO.val (w':=W) (v:=.bool EB) rfl (by go_simp) ⟨h0,h1,h2,h3,h4,fun _=>rfl,hS⟩
    ·exact absurd ho (by simp)
   ·rintro l f W hall ⟨h0,h1,h2,h3,h4,h5,hS⟩
    have f6:=h5 (hall 5 (by decide))
    have HFF:=hid (zAA HBZ.out (zAA HWD.out hS))
    clear h0 h1 h2 h3 h4 h5 hS hall
    rw[HA0.out]
    simp only[zDG,List.foldl_cons,List.foldl_nil,Act.put,List.setIfInBounds_toArray,List.set_cons_succ,List.set_cons_zero]
    rw[f6]
    generalize f 53=z53,f 54=z54,f 55=z55,f 56=z56,f 57=z57
    clear f6 hsz v5 v7 HA0
    go_wp2
    go_ret
    exact⟨by rw[HFI.out];rfl,HFF.out⟩
   ·intro l f hl
    refine⟨?_,?_,?_,?_,?_,?_,Below.refl _ _⟩
    ·intro h;rw[hl _ (by decide)]at h;cases h
    ·intro h;rw[hl _ (by decide)]at h;cases h
    ·intro h;rw[hl _ (by decide)]at h;cases h
    ·intro h;rw[hl _ (by decide)]at h;cases h
    ·intro h;rw[hl _ (by decide)]at h;cases h
    ·intro h;rw[hl _ (by decide)]at h;cases h
end
end Go.Proofs.YtlffndehhhpgjaaGreat

/- Walks and plain laws for DualSureRow, part 12. -/
import Derived.ChangeOld
import Derived.Deep.Slices
import Derived.Lib.SmallJoins
import Derived.Test.YtlffndehhhpgjaaGreatChecked
import Derived.Test.YtlffndehhhpgjaaGreatRows
import Derived.JoinedOf
import Derived.ProofKit
import Derived.Test.YtlffndehhhpgjaaGreatPkDualSureRow11
namespace Go.Proofs.YtlffndehhhpgjaaGreat
set_option linter.unusedVariables false
set_option linter.unusedSimpArgs false
set_option maxRecDepth 100000
set_option maxHeartbeats 4000000
section
open Go.RowKit
theorem dinvalid_c(w:World)(N D:Int):Calls Tryz.prog 81 #[.agg #[.int .i64 N,.int .i64 D]] w fun e w'=>e=.returned (.bool (!zAJ (N,D)))∧Below w.heap.size w w':=by
 obtain⟨wz,hwz⟩:=exq (w.alloc (.cells #[.int .i64 N,.int .i64 D] 29))
 have HB:=hid (show Below w.heap.size w wz by rw[hwz];exact(Below.refl _ _).alloc (Nat.le_refl _) _)
 have l0:wz.cell? ⟨w.heap.size,0,none⟩=some (.int .i64 N):=by rw[hwz,World.cell?_alloc_at _ _ _ _ rfl];rfl
 have l1:wz.cell? ⟨w.heap.size,1,none⟩=some (.int .i64 D):=by rw[hwz,World.cell?_alloc_at _ _ _ _ rfl];rfl
 have HV:=hid (zJY wz N D)
 obtain⟨b,hb⟩:=exq (zAJ (N,D))
 rw[<- hb]at HV⊢
 clear hb
 go_enter Tryz.func81,Tryz.ntmps81
 go_wp2_with fail
 rw[<- hwz]
 clear hwz
 go_wp2_with (go_at_call 147;refine HV.out.mono ?_;rintro e w2 ⟨rfl,hb2⟩;refine Stop.of ?_)
 refine Stop.go ?_
 go_wp2
 go_ret
 exact⟨rfl,zAB HB.out hb2⟩
theorem any_inv(x:List Rt):x.any (fun r=>!zAJ r)=!x.all zAJ:=by
 induction x with
 |nil=>rfl
 |cons r x ih=>rw[List.any_cons,List.all_cons,ih,Bool.not_and]
theorem dcontains_c(w:World)(a:Option Addr)(n cap:Nat)(x:List Rt)(hn:x.length=n)(hm:n<=maxLen)(H:zBX w a x):
 Calls Tryz.prog 80 #[.slice a n cap,.func (.func 81) #[] #[]] w fun e w'=>e=.returned (.bool (!x.all zAJ))∧Below w.heap.size w w':=by
 have h:=containsQ w a n cap x hn hm H 81 #[] (fun r=>!zAJ r) (fun r W hW=>dinvalid_c W r.1 r.2) (enters_of Tryz.func81 (by kernel_rfl) rfl)
 rw[any_inv]at h;exact h
def zDL(M:Mask)(Y:List Int)(p x:List Rt):Bool:=
 zDI M p Y&&(decide (x.length=M.length)&&(x.all zAJ&&(zLN M x&&decide ((sumP (vec Y) x M.length).1*(nrmQ p).2=(nrmQ p).1*(sumP (vec Y) x M.length).2))))
theorem dproves_c(w:World)(a a3 pa xa:Option Addr)(n cap n3 cap3 pn pc xn xc:Nat)(M:Mask)(Y:List Int)(p x:List Rt)(hn:M.length=n)(hn3:Y.length=n3)(hpn:p.length=pn)(hxn:x.length=xn)(hm:n<=maxLen)(hm3:n3<=maxLen)(hmp:pn<=maxLen)(hmx:xn<=maxLen)
 (H:zAL w a M)(H3:zAE w a3 Y)(HP:zBX w pa p)(HXx:zBX w xa x):
 Calls Tryz.prog 61 #[.slice a n cap,.slice a3 n3 cap3,.agg #[.slice pa pn pc,.slice xa xn xc]] w fun e w'=>e=.returned (.bool (zDL M Y p x))∧Below w.heap.size w w':=by
 obtain⟨pb,hpb⟩:=exq (w.heap.size)
 obtain⟨wz,hwz⟩:=exq (w.alloc (.cells #[.slice pa pn pc,.slice xa xn xc] 78))
 have hbz:Below w.heap.size w wz:=by rw[hwz];exact(Below.refl _ _).alloc (Nat.le_refl _) _
 have hl0:wz.cell? ⟨pb,0,none⟩=some (.slice pa pn pc):=by rw[hwz,hpb,World.cell?_alloc_at _ _ _ _ rfl];rfl
 have hl1:wz.cell? ⟨pb,1,none⟩=some (.slice xa xn xc):=by rw[hwz,hpb,World.cell?_alloc_at _ _ _ _ rfl];rfl
 have hpl:pb<wz.heap.size:=by rw[hwz,hpb];simp
 have HPZ:=hid (fun(X:World) (hX:Below wz.heap.size wz X)=>show X.cell? ⟨pb,0,none⟩=some (.slice pa pn pc)∧X.cell? ⟨pb,1,none⟩=some (.slice xa xn xc)from⟨(hX.cell (p:=⟨pb,0,none⟩) hpl).trans hl0,(hX.cell (p:=⟨pb,1,none⟩) hpl).trans hl1⟩)
 have HMK:=hid (lmakes_c wz a pa a3 n cap pn pc n3 cap3 M p Y hn hpn hn3 hm hmp hm3 (H.below hbz) (HP.below hbz) (H3.below hbz))
 have HCN:=hid (fun(X:World) (hX:Below w.heap.size w X)=>dcontains_c X xa xn xc x hxn hmx (HXx.below hX))
 have HBZ:=hid hbz
 have HWZ:=hid hwz
 by_cases c1:zDI M p Y=true
 rotate_left
 ·have c1':zDI M p Y=false:=by simpa using c1
  have HNO:=hid (show zDL M Y p x=false by unfold zDL;rw[c1'];rfl)
  rw[c1']at HMK
  clear hn hn3 hpn hxn H H3 HP HXx hbz hwz c1 c1'
  have HHH:=hid hpb
  go_enter Tryz.func61,Tryz.ntmps61
  go_upto_region 1 with fail
  rw[<- hpb,<- HWZ.out]
  clear hpb
  go_wp2_with (go_at_call 84;refine HMK.out.mono ?_;rintro e w1 ⟨rfl,hb1⟩;have HB1:=hid hb1;clear hb1;refine Stop.of ?_)
  refine Stop.go ?_
  go_wp2
  go_ret
  exact⟨by rw[HNO.out];rfl,zAB HBZ.out HB1.out⟩
 have hr0:rdE M Y=0:=by
  rcases Decidable.em (rdE M Y=0)with h|h
  ·exact h
  ·rw[mk_no1 h]at c1;cases c1
 have hpc:p.length=zAA M:=by
  rcases Decidable.em (p.length=zAA M)with h|h
  ·exact h
  ·rw[mk_no2 h]at c1;cases c1
 have hpv:p.all zAJ=true:=by
  cases h:p.all zAJ with
  |true=>rfl
  |false=>rw[mk_no3 h]at c1;cases c1
 obtain⟨hok,hyl,hmil⟩:=zIR hr0
 obtain⟨hM,h1,h6,hc1,hc10⟩:=zCN hok
 obtain rfl:n3=n:=by omega
 rw[c1]at HMK
 by_cases c2:xn=n3
 rotate_left
 ·have HNO:=hid (show zDL M Y p x=false by unfold zDL;rw[decide_eq_false (show ¬x.length=M.length by omega)];simp)
  have hnb:((xn:Int) !=(n3:Int))=true:=by simp;omega
  clear hn hn3 hpn hxn H H3 HP HXx hbz hwz c1 c2 hr0 hpc hpv hok hyl hmil hM h1 h6 hc1 hc10
  go_enter Tryz.func61,Tryz.ntmps61
  go_upto_region 1 with fail
  rw[<- hpb,<- HWZ.out]
  clear hpb
  go_wp2_with (go_at_call 84;refine HMK.out.mono ?_;rintro e w1 ⟨rfl,hb1⟩;have HB1:=hid hb1;clear hb1;refine Stop.of ?_)
  refine Stop.go ?_
  clear hl0 hl1
  obtain⟨z0,z1⟩:=HPZ.out _ HB1.out
  go_wp2
  go_ret
  exact⟨by rw[HNO.out];rfl,zAB HBZ.out HB1.out⟩
 subst c2
 have hnb:((xn:Int) !=(xn:Int))=false:=by simp
 by_cases c3:x.all zAJ=true
 rotate_left
 ·have c3':x.all zAJ=false:=by simpa using c3
  have HNO:=hid (show zDL M Y p x=false by unfold zDL;rw[c3'];simp)
  rw[c3']at HCN
  clear hn hn3 hpn hxn H H3 HP HXx hbz hwz c1 c3 c3' hr0 hpc hpv hok hyl hmil hM h1 h6 hc1 hc10
  go_enter Tryz.func61,Tryz.ntmps61
  go_upto_region 1 with fail
  rw[<- hpb,<- HWZ.out]
  clear hpb
  go_wp2_with (go_at_call 84;refine HMK.out.mono ?_;rintro e w1 ⟨rfl,hb1⟩;have HB1:=hid hb1;clear hb1;refine Stop.of ?_)
  refine Stop.go ?_
  clear hl0 hl1
  obtain⟨z0,z1⟩:=HPZ.out _ HB1.out
  go_wp2_with (go_at_call 80;refine(HCN.out _ (zAB HBZ.out HB1.out)).mono ?_;rintro e w2 ⟨rfl,hb2⟩;have HB2:=hid hb2;clear hb2;refine Stop.of ?_)
  refine Stop.go ?_
  go_wp2
  go_ret
  exact⟨by rw[HNO.out];rfl,zAB HBZ.out (zAB HB1.out HB2.out)⟩
 have hxv:=valB_of c3
 rw[c3]at HCN
 have hone:∀r∈M,∀k,-1<=vec r k∧vec r k<=1:=hM.one
 have HSE:=hid (fun(X:World) (hX:Below w.heap.size w X)=>dsees_c X a xa xn cap xn xc M x hn hxn rfl (by omega) (by omega) hM.wid hone hc10 hxv (H.below hX) (HXx.below hX))
 by_cases c4:zLN M x=true
 rotate_left
 ·have c4':zLN M x=false:=by simpa using c4
  have HNO:=hid (show zDL M Y p x=false by unfold zDL;rw[c4'];simp)
  rw[c4']at HSE
  clear hn hn3 hpn hxn H H3 HP HXx hbz hwz c1 c3 c4 c4' hr0 hpc hpv hok hyl hmil hM h1 h6 hc1 hc10 hxv hone
  go_enter Tryz.func61,Tryz.ntmps61
  go_upto_region 1 with fail
  rw[<- hpb,<- HWZ.out]
  clear hpb
  go_wp2_with (go_at_call 84;refine HMK.out.mono ?_;rintro e w1 ⟨rfl,hb1⟩;have HB1:=hid hb1;clear hb1;refine Stop.of ?_)
  refine Stop.go ?_
  clear hl0 hl1
  obtain⟨z0,z1⟩:=HPZ.out _ HB1.out
  go_wp2_with (go_at_call 80;refine(HCN.out _ (zAB HBZ.out HB1.out)).mono ?_;rintro e w2 ⟨rfl,hb2⟩;have HB2:=hid (zAB HB1.out hb2);clear hb2;refine Stop.of ?_)
  refine Stop.go ?_
  clear z0 z1
  obtain⟨z0,z1⟩:=HPZ.out _ HB2.out
  go_wp2_with (go_at_call 123;refine(HSE.out _ (zAB HBZ.out HB2.out)).mono ?_;rintro e w3 ⟨rfl,hb3⟩;have HB3:=hid hb3;clear hb3;refine Stop.of ?_)
  refine Stop.go ?_
  go_wp2
  go_ret
  exact⟨by rw[HNO.out];rfl,zAB HBZ.out (zAB HB2.out HB3.out)⟩
 rw[c4]at HSE
 have HLAST:=hid (show zDL M Y p x=decide ((sumP (vec Y) x xn).1*(nrmQ p).2=(nrmQ p).1*(sumP (vec Y) x xn).2)by
  unfold zDL;rw[c1,c3,c4,decide_eq_true (show x.length=M.length by omega),hn];simp)
 obtain⟨B,hB⟩:=exq (zDL M Y p x)
 rw[<- hB]at HLAST⊢
 have hvb:∀k,(vec Y k).natAbs<=1000000:=fun k=>by
  unfold vec
  cases e:Y[k]? with
  |none=>decide
  |some y=>
   have:=mil_le hmil y (List.mem_of_getElem? e)
   show y.natAbs<=_
   omega
 have HVB:=hid hvb
 have HBD:=hid (fun k (hk:k<=6)=>sumP_bnd6 hvb hxv hk)
 have HXV:=hid hxv
 have hpvb:=valB_of hpv
 have HNB:=hid (show(nrmQ p).1.natAbs<=10485760000000000000000000000000000000∧1<=(nrmQ p).2∧(nrmQ p).2.natAbs<=104857600000000000000000000 from nrm_bnd hpvb (Nat.le_refl _) (by omega))
 have HNORM:=hid (fun(X:World) (hX:Below w.heap.size w X)=>dnorm_c X pa pn pc p hpn (by omega) (HP.below hX) hpvb)
 have HX:=hid HXx
 have HY:=hid H3
 have HNX:=hid hxn
 have HNY:=hid hn3
 have hn6:xn<=6:=by omega
 clear hn hn3 hpn hxn H H3 HP HXx hbz hwz c1 c3 c4 hr0 hpc hpv hok hyl hmil hM h1 h6 hc1 hc10 hxv hone hB hvb hpvb
 go_enter Tryz.func61,Tryz.ntmps61
 go_upto_region 1 with fail
 rw[<- hpb,<- HWZ.out]
 clear hpb
 go_wp2_with (go_at_call 84;refine HMK.out.mono ?_;rintro e w1 ⟨rfl,hb1⟩;have HB1:=hid hb1;clear hb1;refine Stop.of ?_)
 refine Stop.go ?_
 clear hl0 hl1
 obtain⟨z0,z1⟩:=HPZ.out _ HB1.out
 go_wp2_with (go_at_call 80;refine(HCN.out _ (zAB HBZ.out HB1.out)).mono ?_;rintro e w2 ⟨rfl,hb2⟩;have HB2:=hid (zAB HB1.out hb2);clear hb2;refine Stop.of ?_)
 refine Stop.go ?_
 clear z0 z1
 obtain⟨z0,z1⟩:=HPZ.out _ HB2.out
 go_wp2_with (go_at_call 123;refine(HSE.out _ (zAB HBZ.out HB2.out)).mono ?_;rintro e w3 ⟨rfl,hb3⟩;have HB3:=hid (zAB HB2.out hb3);clear hb3;refine Stop.of ?_)
 refine Stop.go ?_
 clear z0 z1
 go_wp2_with (go_at_call 95;refine(zMP _).mono ?_;rintro e w4 ⟨rfl,hb4⟩;have HB4:=hid (zAB HB3.out hb4);clear hb4;refine Stop.of ?_)
 refine Stop.go ?_
 have hz:sumV 0 1=.agg #[.int .i64 0,.int .u64 0,.int .i64 0,.int .u64 1]:=by simp[sumV]
 rw[hz]
 clear hz
 go_upto_region 4 with fail
 obtain⟨wb,hwb⟩:=exq (w4.alloc (.cells #[.int .i64 0,.int .u64 0,.int .i64 0,.int .u64 1] 102))
 obtain⟨g,hg⟩:=exq (w4.heap.size)
 have HSB:=hid (show SumB wb g 0 1 by rw[hwb,hg];exact SumB.made w4 ⟨by decide,by decide⟩ ⟨by decide,by decide⟩)
 have hbb:Below wz.heap.size wz wb:=by rw[hwb];exact HB4.out.alloc HB4.out.size _
 have HBB:=hid (zAB HBZ.out hbb)
 have HGW:=hid (show wz.heap.size<=g by rw[hg];exact HB4.out.size)
 have HGZ:=hid HBZ.out.size
 rw[<- hwb,<- hg]
 obtain⟨z0,z1⟩:=HPZ.out _ hbb
 clear hwb hg
 have HBBZ:=hid hbb
 clear hbb HMK HCN HSE HB1 HB2 HB3 HB4
 go_wp2
 clear z0 z1
 go_loopw [40] (fun i wr=>∃t:Nat,t<=xn∧i=.int .i64 t∧SumB wr g (sumP (vec Y) x t).1 (sumP (vec Y) x t).2∧Below wz.heap.size wz wr) (fun i _=>xn-(intOf i).toNat)
 case atStart=>exact⟨0,Nat.zero_le _,rfl,HSB.out,HBBZ.out⟩
 case round=>
  obtain⟨t,ht,rfl,hsb,hbt⟩:=hrel
  by_cases htl:t<xn
  ·obtain⟨bx,ox,rfl,hbx,hx0,hx1⟩:=HX.out t (by rw[HNX.out];exact htl)
   obtain⟨b6,o6,rfl,hb6,hc6⟩:=HY.out t (by rw[HNY.out];exact htl)
   have hv6:Y[t]?.getD 0=vec Y t:=rfl
   rw[hv6]at hc6
   have hxt:zAC x t=x[t]'(by rw[HNX.out];exact htl):=by unfold zAC;rw[List.getElem?_eq_getElem (by rw[HNX.out];exact htl)];rfl
   rw[<- hxt]at hx0 hx1
   have hsr:sumP (vec Y) x (t+1)=((sumP (vec Y) x t).1*(zAC x t).2+(sumP (vec Y) x t).2*((zAC x t).1*vec Y t),(sumP (vec Y) x t).2*(zAC x t).2):=rfl
   obtain⟨k1,k2,k3⟩:=HBD.out t (by omega)
   obtain⟨m1,m2,m3⟩:=HBD.out (t+1) (by omega)
   obtain⟨x1,x2,x3,x4⟩:=HXV.out t
   have hvb:=HVB.out t
   rw[hsr]at m1 m2 m3
   have HSR:=hid hsr
   obtain⟨v,hv⟩:=exq (vec Y t)
   rw[<- hv]at hc6 m1 HSR hvb
   obtain⟨⟨RN,RD⟩,hND⟩:∃q,q=zAC x t:=⟨_,rfl⟩
   rw[<- hND]at hx0 hx1 m1 m2 m3 x1 x2 x3 x4 HSR
   obtain⟨⟨sn,sd⟩,hS⟩:∃q,q=sumP (vec Y) x t:=⟨_,rfl⟩
   rw[<- hS]at hsb k1 k2 k3 m1 m2 m3 HSR
   simp only[]at hx0 hx1 m1 m2 m3 x1 x2 x3 x4 HSR hsb k1 k2 k3
   have e1:(sn*RD).natAbs<=245760000000000000000000000000000*400:=by
    rw[Int.natAbs_mul];exact Nat.mul_le_mul k1 (by omega)
   have e2:(sd*(RN*v)).natAbs<=4096000000000000*10000000000000000:=by
    rw[Int.natAbs_mul,Int.natAbs_mul]
    exact Nat.mul_le_mul k3 (Nat.mul_le_mul (show RN.natAbs<=10000000000 by omega) hvb)
   have e3: -10000000000000000<=RN*v∧RN*v<=10000000000000000:=by
    have:(RN*v).natAbs<=10000000000*1000000:=by rw[Int.natAbs_mul];exact Nat.mul_le_mul (by omega) hvb
    omega
   have HPL:=hid (fun(X:World)=>zMU X sn sd RN RD v (by unfold B127;omega) (by unfold B127;omega) (by omega) (by omega) (by unfold B127;omega) (by unfold B127;omega) (by unfold B127;omega) (by unfold B127;omega))
   obtain⟨s1,s2,pS⟩:=WP.ex sn
   obtain⟨d1,d2,pD⟩:=WP.ex sd
   obtain⟨t1,t2,pT⟩:=WP.ex (sn*RD+sd*(RN*v))
   obtain⟨c1,c2,pC⟩:=WP.ex (sd*RD)
   rw[pS.sum pD,pT.sum pC]at HPL
   simp only[ratV]at HPL
   have PS:=hid pS
   have PD:=hid pD
   have PT:=hid pT
   have PC:=hid pC
   have HSX:=hid hsb
   have HBT:=hid hbt
   have HCE:=hid (fun(X:World) (hX:Below w.heap.size w X)=>show X.cell? ⟨b6,o6+t,none⟩=some (.int .i64 v)from(hX.cell (p:=⟨b6,_,none⟩) hb6).trans hc6)
   have q0:wr.cell? ⟨bx,ox+t*2,none⟩=some (.int .i64 RN):=((zAB HBZ.out HBT.out).cell (p:=⟨bx,_,none⟩) hbx).trans hx0
   have q1:wr.cell? ⟨bx,ox+t*2+1,none⟩=some (.int .i64 RD):=((zAB HBZ.out HBT.out).cell (p:=⟨bx,_,none⟩) hbx).trans hx1
   have i1:(t:Int)<(xn:Int):=by omega
   have HIT:=hid (show(0:Int)<=(t:Int)∧(t:Int)<(xn:Int)from⟨by omega,by omega⟩)
   clear hv6 hxt hsr k1 k2 k3 m1 m2 m3 x1 x2 x3 x4 hvb hv hND hS e1 e2 e3 pS pD pT pC hsb hbt hx0 hx1 hc6 hb6 hbx
   go_upto_region 7 with fail
   obtain⟨h,hh⟩:=exq (wr.heap.size)
   obtain⟨wh,hwh⟩:=exq (wr.alloc (.cells #[.int .i64 RN,.int .i64 RD] 29))
   rw[<- hh,<- hwh]
   have hbh:Below wr.heap.size wr wh:=by rw[hwh];exact(Below.refl _ _).alloc (Nat.le_refl _) _
   have HRH:=hid (show RatI wh h (RN,RD)by rw[hwh,hh];exact RatI.made wr (RN,RD))
   have HBH:=hid (zAB HBT.out hbh)
   have HSH:=hid (HSX.out.keep (hbh.block _ HSX.out.lt))
   have HRG:=hid (show h≠g by have:=HSX.out.lt;omega)
   clear q0 q1 i1 hh hwh hbh
   refine zAI (fun _ _=>True) (by kernel_rfl) ?_
   obtain⟨wd,hwd⟩:=exq (wh.drew)
   have hbd:Below wh.heap.size wh wd:=by rw[hwd];exact(Below.refl _ _).drew
   rw[<- hwd]
   have HWD:=hid (zAB HBH.out hbd)
   have HAD:=hid (HSH.out.keep (hbd.block _ HSH.out.lt))
   have HRD:=hid (HRH.out.keep (hbd.block _ HRH.out.lt))
   clear hbd hwd
   refine zDY fun a0 ha0=>?_
   have hsz:a0.tmps.size=58:=by rw[ha0];rfl
   have v1:a0.eval (.tmp 1)=.slice (some ⟨b6,o6,none⟩) xn cap3:=by rw[ha0];rfl
   have v7:a0.eval (.tmp 7)=.pointer (some ⟨g,0,none⟩):=by rw[ha0];rfl
   have v8:a0.eval (.tmp 8)=.int .i64 (t:Nat):=by rw[ha0];rfl
   have v9:a0.eval (.tmp 9)=.pointer (some ⟨h,0,none⟩):=by rw[ha0];rfl
   have HA0:=hid ha0
   clear ha0
   refine AnyT.regF [45,46,47,48,49,50,51] (fun l f W=>(l 0=true->f 45=.agg #[.int .i64 s1,.int .u64 s2,.int .i64 d1,.int .u64 d2])∧(l 1=true->f 46=.agg #[.int .i64 RN,.int .i64 RD])∧(l 2=true->f 47=.slice (some ⟨b6,o6,none⟩) xn cap3)∧(l 3=true->f 48=.int .i64 (t:Nat))∧(l 4=true->f 49=.pointer (some ⟨b6,o6+t,none⟩))∧(l 5=true->f 50=.int .i64 v)∧(l 6=true->f 51=.agg #[.int .i64 t1,.int .u64 t2,.int .i64 c1,.int .u64 c2])∧(Keep (fun k=>k≠g) wd W)∧(SumB W g (if l 7=true then sn*RD+sd*(RN*v)else sn) (if l 7=true then sd*RD else sd))∧(l 6=true->l 0=true)∧(l 7=true->l 6=true)) (by kernel_rfl) (by kernel_rfl) ?_ ?_ ?_
   ·have egP:∀args w,(callFunc 96 args).run Tryz.prog w=.ok (.enter 96 args) w:=enters_of Tryz.func96 (by kernel_rfl) rfl
    rintro l f W i o ho hi hd ⟨h0,h1,h2,h3,h4,h5,h6,hK,hA,i60,i76⟩
    have e45:zAD a0 [45,46,47,48,49,50,51] f (.tmp 45)=f 45:=by simp[zAD,hsz]
    have e46:zAD a0 [45,46,47,48,49,50,51] f (.tmp 46)=f 46:=by simp[zAD,hsz]
    have e47:zAD a0 [45,46,47,48,49,50,51] f (.tmp 47)=f 47:=by simp[zAD,hsz]
    have e48:zAD a0 [45,46,47,48,49,50,51] f (.tmp 48)=f 48:=by simp[zAD,hsz]
    have e49:zAD a0 [45,46,47,48,49,50,51] f (.tmp 49)=f 49:=by simp[zAD,hsz]
    have e50:zAD a0 [45,46,47,48,49,50,51] f (.tmp 50)=f 50:=by simp[zAD,hsz]
    have e51:zAD a0 [45,46,47,48,49,50,51] f (.tmp 51)=f 51:=by simp[zAD,hsz]
    have w1:zAD a0 [45,46,47,48,49,50,51] f (.tmp 1)=.slice (some ⟨b6,o6,none⟩) xn cap3:=by simp[zAD,v1]
    have w7:zAD a0 [45,46,47,48,49,50,51] f (.tmp 7)=.pointer (some ⟨g,0,none⟩):=by simp[zAD,v7]
    have w8:zAD a0 [45,46,47,48,49,50,51] f (.tmp 8)=.int .i64 (t:Nat):=by simp[zAD,v8]
    have w9:zAD a0 [45,46,47,48,49,50,51] f (.tmp 9)=.pointer (some ⟨h,0,none⟩):=by simp[zAD,v9]
    have eFP:zAD a0 [45,46,47,48,49,50,51] f (.func 96)=.func (.func 96) #[] #[]:=rfl
    have m2:=HCE.out W (zAB HBZ.out (hK.below HWD.out HWD.out.size fun k hk=>by have:=HGW.out;omega))
    rcases i with _|_|_|_|_|_|_|_|i
    ·replace ho:=Option.some.inj ho
     subst ho
     have l7:l 7=false:=by
      cases h:l 7 with
      |false=>rfl
      |true=>rw[i60 (i76 h)]at hi;cases hi
     rw[l7]at hA
     obtain⟨x0,x1,x2,x3,xf⟩:=SumB.cells (n:=sn) (d:=sd) hA PS.out PD.out
     rw[<- l7]at hA
     clear xf
     refine zAO.val (w':=W) (v:=.agg #[.int .i64 s1,.int .u64 s2,.int .i64 d1,.int .u64 d2]) rfl (by go_simp) ⟨fun _=>rfl,h1,h2,h3,h4,h5,h6,hK,hA,fun _=>rfl,i76⟩
    ·replace ho:=Option.some.inj ho
     subst ho
     obtain⟨y0,y1,_⟩:=(HRD.out.keep (hK.block _ HRD.out.lt HRG.out)).cells
     refine zAO.val (w':=W) (v:=.agg #[.int .i64 RN,.int .i64 RD]) rfl (by go_simp) ⟨h0,fun _=>rfl,h2,h3,h4,h5,h6,hK,hA,i60,i76⟩
    ·replace ho:=Option.some.inj ho
     subst ho
     refine zAO.val (w':=W) (v:=.slice (some ⟨b6,o6,none⟩) xn cap3) rfl (by go_simp) ⟨h0,h1,fun _=>rfl,h3,h4,h5,h6,hK,hA,i60,i76⟩
    ·replace ho:=Option.some.inj ho
     subst ho
     refine zAO.val (w':=W) (v:=.int .i64 (t:Nat)) rfl (by go_simp) ⟨h0,h1,h2,fun _=>rfl,h4,h5,h6,hK,hA,i60,i76⟩
    ·replace ho:=Option.some.inj ho
     subst ho
     have k2:=h2 (hd {on:=2,ground:=.data} (by simp) (by kernel_rfl))
     rw[k2]at e47
     have k3:=h3 (hd {on:=3,ground:=.data} (by simp) (by kernel_rfl))
     rw[k3]at e48
     have hi1:=HIT.out.1
     have hi2:=HIT.out.2
     refine zAO.val (w':=W) (v:=.pointer (some ⟨b6,o6+t,none⟩)) rfl (by go_simp) ⟨h0,h1,h2,h3,fun _=>rfl,h5,h6,hK,hA,i60,i76⟩
    ·replace ho:=Option.some.inj ho
     subst ho
     have k4:=h4 (hd {on:=4,ground:=.data} (by simp) (by kernel_rfl))
     rw[k4]at e49
     refine zAO.val (w':=W) (v:=.int .i64 v) rfl (by go_simp) ⟨h0,h1,h2,h3,h4,fun _=>rfl,h6,hK,hA,i60,i76⟩
    ·replace ho:=Option.some.inj ho
     subst ho
     have k0:=h0 (hd {on:=0,ground:=.data} (by simp) (by kernel_rfl))
     rw[k0]at e45
     have k1:=h1 (hd {on:=1,ground:=.data} (by simp) (by kernel_rfl))
     rw[k1]at e46
     have k5:=h5 (hd {on:=5,ground:=.data} (by simp) (by kernel_rfl))
     rw[k5]at e50
     refine zAO.call (g:=96) (args:=#[.agg #[.int .i64 s1,.int .u64 s2,.int .i64 d1,.int .u64 d2],.agg #[.int .i64 RN,.int .i64 RD],.int .i64 v]) (w':=W) rfl (by simp[execOp,resolve,invoke,go_sem,e45,e46,e50,eFP,egP]) ((HPL.out W).mono ?_)
     rintro e' w4 ⟨rfl,hb4⟩
     exact⟨_,rfl,h0,h1,h2,h3,h4,h5,fun _=>rfl,hK.trans (Keep.of_below hb4),hA.keep (hb4.block _ hA.lt),fun _=>hd {on:=0,ground:=.data} (by simp) (by kernel_rfl),fun _=>rfl⟩
    ·replace ho:=Option.some.inj ho
     subst ho
     have k6:=h6 (hd {on:=6,ground:=.data} (by simp) (by kernel_rfl))
     rw[k6]at e51
     rw[hi]at hA
     have hA':SumB W g sn sd:=hA
     obtain⟨x0,x1,x2,x3,xf⟩:=hA'.cells PS.out PD.out
     have y0:=xf 0
     have y1:=xf 1
     have y2:=xf 2
     have y3:=xf 3
     have hlt:=hA'.lt
     have K:=zHV W g (.int .i64 t1) (.int .u64 t2) (.int .i64 c1) (.int .u64 c2)
     clear xf
     refine zAO.skip (w':=(((W.setCell ⟨g,0,none⟩ (.int .i64 t1)).setCell ⟨g,1,none⟩ (.int .u64 t2)).setCell ⟨g,2,none⟩ (.int .i64 c1)).setCell ⟨g,3,none⟩ (.int .u64 c2)) rfl (by go_simp) ⟨h0,h1,h2,h3,h4,h5,h6,hK.trans K,hA'.set PT.out PC.out,i60,fun _=>hd {on:=6,ground:=.data} (by simp) (by kernel_rfl)⟩
    ·exact absurd ho (by simp)
   ·rintro l f W hall ⟨h0,h1,h2,h3,h4,h5,h6,hK,hA,i60,i76⟩
    rw[hall 7 (by decide)]at hA
    have HA9:=hid (show SumB W g (sn*RD+sd*(RN*v)) (sd*RD)from hA)
    have HK9:=hid hK
    clear h0 h1 h2 h3 h4 h5 h6 hK hA i60 i76 hall
    rw[HA0.out]
    simp only[zDC,List.foldl_cons,List.foldl_nil,Act.put,List.setIfInBounds_toArray,List.set_cons_succ,List.set_cons_zero]
    generalize f 45=z45,f 46=z46,f 47=z47,f 48=z48,f 49=z49,f 50=z50,f 51=z51
    clear hsz v1 v7 v8 v9 HA0
    go_wp2
    refine⟨⟨t+1,by omega,by go_num,?_,?_⟩,by simp[intOf];omega⟩
    ·rw[HSR.out];exact HA9.out
    ·exact HK9.out.below HWD.out HWD.out.size fun k hk=>by have:=HGW.out;omega
   ·intro l f hl
    refine⟨?_,?_,?_,?_,?_,?_,?_,Keep.refl _ _,(by rw[hl 7 (by decide)];exact HAD.out),(fun h=>by rw[hl _ (by decide)]at h;cases h),(fun h=>by rw[hl _ (by decide)]at h;cases h)⟩
    ·intro h;rw[hl _ (by decide)]at h;cases h
    ·intro h;rw[hl _ (by decide)]at h;cases h
    ·intro h;rw[hl _ (by decide)]at h;cases h
    ·intro h;rw[hl _ (by decide)]at h;cases h
    ·intro h;rw[hl _ (by decide)]at h;cases h
    ·intro h;rw[hl _ (by decide)]at h;cases h
    ·intro h;rw[hl _ (by decide)]at h;cases h
  ·obtain rfl:t=xn:=by omega
   have HSX:=hid hsb
   have HBT:=hid hbt
   obtain⟨k1,k2,k3⟩:=HBD.out t (by omega)
   obtain⟨⟨sn,sd⟩,hS⟩:∃q,q=sumP (vec Y) x t:=⟨_,rfl⟩
   rw[<- hS]at k1 k2 k3 HSX
   simp only[]at k1 k2 k3 HSX
   have hnb:=HNB.out
   obtain⟨EB,hEB⟩:=exq (decide (sn*(nrmQ p).2=(nrmQ p).1*sd))
   have HEQ:=hid (fun(X:World)=>sequal_c X sn sd (nrmQ p).1 (nrmQ p).2 (by omega) (by omega) (by omega) (by omega))
   rw[<- hEB]at HEQ
   have HFI:=hid (show B=EB by rw[hEB];have h:=HLAST.out;rw[<- hS]at h;exact h)
   obtain⟨s1,s2,pS⟩:=WP.ex sn
   obtain⟨d1,d2,pD⟩:=WP.ex sd
   obtain⟨NV,hNV⟩:=exq (sumV (nrmQ p).1 (nrmQ p).2)
   rw[pS.sum pD,<- hNV]at HEQ
   have HNM:=hid (show ∀X,Below w.heap.size w X->Calls Tryz.prog 82 #[.slice pa pn pc] X fun e w'=>e=.returned NV∧Below X.heap.size X w' from fun X hX=>by rw[hNV];exact HNORM.out X hX)
   have PS:=hid pS
   have PD:=hid pD
   have hni:¬((t:Int)<(t:Int)):=by omega
   clear hsb hbt k1 k2 k3 hnb hS hEB pS pD hNV
   go_upto_region 9 with fail
   refine zAI (fun _ _=>True) (by kernel_rfl) ?_
   obtain⟨wd,hwd⟩:=exq (wr.drew)
   have hbd:Below wr.heap.size wr wd:=by rw[hwd];exact(Below.refl _ _).drew
   rw[<- hwd]
   have HWD:=hid (zAB HBT.out hbd)
   have HSD:=hid (HSX.out.keep (hbd.block _ HSX.out.lt))
   clear hbd hwd
   refine zDY fun a0 ha0=>?_
   have hsz:a0.tmps.size=58:=by rw[ha0];rfl
   have v5:a0.eval (.tmp 5)=.pointer (some ⟨pb,0,none⟩):=by rw[ha0];rfl
   have v7:a0.eval (.tmp 7)=.pointer (some ⟨g,0,none⟩):=by rw[ha0];rfl
   have HA0:=hid ha0
   clear ha0
   refine AnyT.regF [53,54,55,56,57,6] (fun l f W=>(l 0=true->f 53=.agg #[.int .i64 s1,.int .u64 s2,.int .i64 d1,.int .u64 d2])∧(l 1=true->f 54=.pointer (some ⟨pb,0,none⟩))∧(l 2=true->f 55=.slice pa pn pc)∧(l 3=true->f 56=NV)∧(l 4=true->f 57=.bool EB)∧(l 5=true->f 6=.bool EB)∧(Below wd.heap.size wd W)) (by kernel_rfl) (by kernel_rfl) ?_ ?_ ?_
   ·have egN:∀args w,(callFunc 82 args).run Tryz.prog w=.ok (.enter 82 args) w:=enters_of Tryz.func82 (by kernel_rfl) rfl
    have egQ:∀args w,(callFunc 124 args).run Tryz.prog w=.ok (.enter 124 args) w:=enters_of Tryz.func124 (by kernel_rfl) rfl
    rintro l f W i o ho hi hd ⟨h0,h1,h2,h3,h4,h5,hS⟩
    have e53:zAD a0 [53,54,55,56,57,6] f (.tmp 53)=f 53:=by simp[zAD,hsz]
    have e54:zAD a0 [53,54,55,56,57,6] f (.tmp 54)=f 54:=by simp[zAD,hsz]
    have e55:zAD a0 [53,54,55,56,57,6] f (.tmp 55)=f 55:=by simp[zAD,hsz]
    have e56:zAD a0 [53,54,55,56,57,6] f (.tmp 56)=f 56:=by simp[zAD,hsz]
    have e57:zAD a0 [53,54,55,56,57,6] f (.tmp 57)=f 57:=by simp[zAD,hsz]
    have e6:zAD a0 [53,54,55,56,57,6] f (.tmp 6)=f 6:=by simp[zAD,hsz]
    have w5:zAD a0 [53,54,55,56,57,6] f (.tmp 5)=.pointer (some ⟨pb,0,none⟩):=by simp[zAD,v5]
    have w7:zAD a0 [53,54,55,56,57,6] f (.tmp 7)=.pointer (some ⟨g,0,none⟩):=by simp[zAD,v7]
    have eFN:zAD a0 [53,54,55,56,57,6] f (.func 82)=.func (.func 82) #[] #[]:=rfl
    have eFQ:zAD a0 [53,54,55,56,57,6] f (.func 124)=.func (.func 124) #[] #[]:=rfl
    rcases i with _|_|_|_|_|_|i
    ·replace ho:=Option.some.inj ho
     subst ho
     obtain⟨x0,x1,x2,x3,xf⟩:=(HSD.out.keep (hS.block _ HSD.out.lt)).cells PS.out PD.out
     clear xf
     refine zAO.val (w':=W) (v:=.agg #[.int .i64 s1,.int .u64 s2,.int .i64 d1,.int .u64 d2]) rfl (by go_simp) ⟨fun _=>rfl,h1,h2,h3,h4,h5,hS⟩
    ·replace ho:=Option.some.inj ho
     subst ho
     refine zAO.val (w':=W) (v:=.pointer (some ⟨pb,0,none⟩)) rfl (by go_simp) ⟨h0,fun _=>rfl,h2,h3,h4,h5,hS⟩
    ·replace ho:=Option.some.inj ho
     subst ho
     have k1:=h1 (hd {on:=1,ground:=.data} (by simp) (by kernel_rfl))
     rw[k1]at e54
     obtain⟨x0,x1⟩:=HPZ.out W (zAB HWD.out hS)
     refine zAO.val (w':=W) (v:=.slice pa pn pc) rfl (by go_simp) ⟨h0,h1,fun _=>rfl,h3,h4,h5,hS⟩
    ·replace ho:=Option.some.inj ho
     subst ho
     have k2:=h2 (hd {on:=2,ground:=.data} (by simp) (by kernel_rfl))
     rw[k2]at e55
     refine zAO.call (g:=82) (args:=#[.slice pa pn pc]) (w':=W) rfl (by simp[execOp,resolve,invoke,go_sem,e55,eFN,egN]) ((HNM.out W (zAB HBZ.out (zAB HWD.out hS))).mono ?_)
     rintro e' w4 ⟨rfl,hb4⟩
     exact⟨_,rfl,h0,h1,h2,fun _=>rfl,h4,h5,zAB hS hb4⟩
    ·replace ho:=Option.some.inj ho
     subst ho
     have k0:=h0 (hd {on:=0,ground:=.data} (by simp) (by kernel_rfl))
     rw[k0]at e53
     have k3:=h3 (hd {on:=3,ground:=.data} (by simp) (by kernel_rfl))
     rw[k3]at e56
     refine zAO.call (g:=124) (args:=#[.agg #[.int .i64 s1,.int .u64 s2,.int .i64 d1,.int .u64 d2],NV]) (w':=W) rfl (by simp[execOp,resolve,invoke,go_sem,e53,e56,eFQ,egQ]) ((HEQ.out W).mono ?_)
     rintro e' w4 ⟨rfl,hb4⟩
     exact⟨_,rfl,h0,h1,h2,h3,fun _=>rfl,h5,zAB hS hb4⟩
    ·replace ho:=Option.some.inj ho
     subst ho
     have k4:=h4 (hd {on:=4,ground:=.data} (by simp) (by kernel_rfl))
     rw[k4]at e57
     refine zAO.val (w':=W) (v:=.bool EB) rfl (by go_simp) ⟨h0,h1,h2,h3,h4,fun _=>rfl,hS⟩
    ·exact absurd ho (by simp)
   ·rintro l f W hall ⟨h0,h1,h2,h3,h4,h5,hS⟩
    have f6:=h5 (hall 5 (by decide))
    have HFF:=hid (zAB HBZ.out (zAB HWD.out hS))
    clear h0 h1 h2 h3 h4 h5 hS hall
    rw[HA0.out]
    simp only[zDC,List.foldl_cons,List.foldl_nil,Act.put,List.setIfInBounds_toArray,List.set_cons_succ,List.set_cons_zero]
    rw[f6]
    generalize f 53=z53,f 54=z54,f 55=z55,f 56=z56,f 57=z57
    clear f6 hsz v5 v7 HA0
    go_wp2
    go_ret
    exact⟨by rw[HFI.out];rfl,HFF.out⟩
   ·intro l f hl
    refine⟨?_,?_,?_,?_,?_,?_,Below.refl _ _⟩
    ·intro h;rw[hl _ (by decide)]at h;cases h
    ·intro h;rw[hl _ (by decide)]at h;cases h
    ·intro h;rw[hl _ (by decide)]at h;cases h
    ·intro h;rw[hl _ (by decide)]at h;cases h
    ·intro h;rw[hl _ (by decide)]at h;cases h
    ·intro h;rw[hl _ (by decide)]at h;cases h
end
section
open Go.ChangeShapes Go.WideShapes Go.ChangeAt Go.RowKit Go.Deep
def zJR(n:Int):Prop:= -9223372036854775808<=n∧n<=9223372036854775807
theorem fits64{n:Int}(h:(Lit.int .i64 n).wf=true):zJR n:=by
 simpa[zJR,Lit.wf,IntKind.min,IntKind.max,IntKind.signed,IntKind.bits]using h
theorem zMM{w:World}{a:Addr}{v:Value}(h:w.cell? a=some v):a=⟨a.block,a.off,none⟩∧a.block<w.heap.size:=by
 unfold World.cell? at h
 split at h
 ·rename_i c _ _ hb
  obtain⟨b,o,s⟩:=a
  cases s with
  |none=>exact⟨rfl,(Array.getElem?_eq_some_iff.1 hb).1⟩
  |some s=>simp at h
 ·simp at h
theorem add_plain(b o:Nat)(i:Nat):(Addr.mk b o none).add i=⟨b,o+i,none⟩:=by
 unfold Addr.add
 split
 ·rename_i h;rw[h];rfl
 ·rfl
section
variable {H:Type} {enc:TypeId×Value->H} {P:Program} {w:World} {base:Nat} {held:Bool}
theorem zLB{e q:TypeId}{fuel:Nat}{a:Option Addr}{n cap:Nat}{x:DataW H×List MemPlace}(he:P.underlying e=some (.slice q))(hq:P.underlying q=some (.int .i64))(cq:P.cellsOf q=1)
 (h:DataW.trod enc P w base (fun _=>true) held fuel e [.slice a n cap]=some x):∃l:List Int,l.length=n∧n<=maxLen∧zAE w a l∧∀y∈l,zJR y:=by
 rcases open_ints he hq cq h with⟨hcs,_⟩|⟨x,l,c,zs,hcs,_,hl,hm,hz,_,hcell,hwz⟩
 ·simp at hcs
  obtain⟨rfl,rfl,rfl⟩:=hcs
  exact⟨[],rfl,by decide,fun j hj=>by simp at hj,fun y hy=>by simp at hy⟩
 ·simp at hcs
  obtain⟨rfl,rfl,rfl⟩:=hcs
  simp only[if_true]at hz
  refine⟨zs.take n,by rw[List.length_take];omega,by omega,fun j hj=>?_,fun y hy=>fits64 (hwz y (List.mem_of_mem_take hy))⟩
  rw[List.length_take]at hj
  have h0:=zMM (hcell 0 (by omega))
  simp only[Addr.add,if_true]at h0
  obtain⟨b,o,s⟩:=x
  have hs:s=none:=by have:=h0.1;simp at this;exact this
  subst hs
  refine⟨b,o,rfl,h0.2,?_⟩
  have:=hcell j (by omega)
  rw[add_plain]at this
  rw[this]
  simp[List.getElem?_take,show j<n by omega,List.getD]
theorem arg_ints{r:Reach}{b0:Nat}{e q:TypeId}{v:Value}{d:DataW H}{p:List MemPlace}(he:P.underlying e=some (.slice q))(hq:P.underlying q=some (.int .i64))(cq:P.cellsOf q=1)
 (hv:Value.okWide P w r b0 e v)(h:DataW.Trod enc P w base (fun _=>true) held e v d p):∃a n cap,∃l:List Int,v=.slice a n cap∧l.length=n∧n<=maxLen∧zAE w a l∧∀y∈l,zJR y:=by
 obtain⟨a,n,cap,rfl⟩:=okWide_slice he hv
 obtain⟨fuel,hf⟩:=h
 obtain⟨l,h1,h2,h3,h4⟩:=zLB he hq cq (by simpa[Value.cells]using hf)
 exact⟨a,n,cap,l,rfl,h1,h2,h3,h4⟩
theorem arg_rows{r:Reach}{b0:Nat}{t e q:TypeId}{v:Value}{d:DataW H}{p:List MemPlace}(ht:P.underlying t=some (.slice e))(ce:P.cellsOf e=1)(he:P.underlying e=some (.slice q))(hq:P.underlying q=some (.int .i64))(cq:P.cellsOf q=1)
 (hv:Value.okWide P w r b0 t v)(h:DataW.Trod enc P w base (fun _=>true) held t v d p):∃a n cap,∃l:List (List Int),v=.slice a n cap∧l.length=n∧n<=maxLen∧zAL w a l∧∀y∈l,∀z∈y,zJR z:=by
 obtain⟨a,n,cap,rfl⟩:=okWide_slice ht hv
 obtain⟨fuel,hf⟩:=h
 rcases open_slice1 ht ce (by simpa[Value.cells]using hf)with⟨hcs,_⟩|⟨x,len,c',m,nn,V,D,Pl,hcs,_,hl,hm,hmm,_,hx⟩
 ·simp at hcs
  obtain⟨rfl,rfl,rfl⟩:=hcs
  exact⟨none,0,0,[],rfl,rfl,by decide,fun j hj=>by simp at hj,fun y hy=>by simp at hy⟩
 simp at hcs
 obtain⟨rfl,rfl,rfl⟩:=hcs
 simp only[if_true]at hmm
 have each:∀i,i<n->∃y:List Int×Option Addr×Nat×Nat,w.cell? (x.add i)=some (.slice y.2.1 y.2.2.1 y.2.2.2)∧y.1.length=y.2.2.1∧y.2.2.1<=maxLen∧zAE w y.2.1 y.1∧(∀z∈y.1,zJR z):=by
  intro i hi
  obtain⟨hc,t0⟩:=hx i (by omega)
  have hsl:∃ra rn rc,V i=.slice ra rn rc:=by
   rcases open_ints he hq cq t0 with⟨hcs,_⟩|⟨x,l,c,zs,hcs,_⟩
   ·simp at hcs;exact⟨_,_,_,hcs⟩
   ·simp at hcs;exact⟨_,_,_,hcs⟩
  obtain⟨ra,rn,rc,hV⟩:=hsl
  rw[hV]at hc t0
  obtain⟨l,q1,q2,q3,q4⟩:=zLB he hq cq t0
  exact⟨(l,ra,rn,rc),hc,q1,q2,q3,q4⟩
 haveI:Inhabited (List Int×Option Addr×Nat×Nat):=⟨([],none,0,0)⟩
 obtain⟨y,hy⟩:=choose_lt each
 refine⟨some x,n,cap,(List.range n).map fun i=>(y i).1,rfl,by simp,by omega,fun j hj=>?_,fun z hz=>?_⟩
 ·have hjn:j<n:=by simpa using hj
  have hp:=zMM (hy 0 (by omega)).1
  simp only[Addr.add,if_true]at hp
  obtain⟨b,o,s⟩:=x
  have hs':s=none:=by have:=hp.1;simp at this;exact this
  subst hs'
  obtain⟨r0,r3,r4,r5,r6⟩:=hy j hjn
  rw[add_plain]at r0
  refine⟨b,o,(y j).2.1,(y j).2.2.1,(y j).2.2.2,rfl,hp.2,r0,?_,r4,?_⟩<;>simp only[List.getElem_map,List.getElem_range]<;>assumption
 ·obtain⟨i,hi,rfl⟩:=List.mem_map.1 hz
  exact(hy i (List.mem_range.1 hi)).2.2.2.2
end
end
section
namespace dualSure
open Go.RowKit
theorem closedF:joinedFacts Tryz.prog 9 Tryz.f9 Rows.dualSureSpec Rows.dualSureRow=true:=by
 unfold joinedFacts
 simp only[Bool.and_eq_true]
 repeat' apply And.intro
 all_goals (as_aux_lemma=>kernel_rfl)
end dualSure
end
end Go.Proofs.YtlffndehhhpgjaaGreat

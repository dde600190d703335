/- Walks and plain laws for DualCornersRow, part 18. -/
import Derived.Test.YtlffndehhhpgjaaGreatPkDualCornersRow17
namespace Go.Proofs.YtlffndehhhpgjaaGreat
set_option linter.unusedVariables false
set_option linter.unusedSimpArgs false
set_option maxRecDepth 100000
set_option maxHeartbeats 4000000
section
open Go.RowKit
def AnyB(e:Ending):Prop:=∃b,e=.returned (.bool b)
theorem AnyB.of{e:Ending}(b:Bool)(h:e=.returned (.bool b)):AnyB e:=⟨b,h⟩
theorem long5_c(w:World)(a:Option Addr)(n cap:Nat)(L:List (List Int))(hn:L.length=n)(hm:n<=maxLen)(H:zAN w a L):
 Calls Tryz.prog 25 #[.slice a n cap] w fun e w'=>AnyB e∧w=w':=by
 have HN:=hid hn
 have HH:=hid H
 clear hn H
 unfold maxLen at hm
 go_enter Tryz.func25,Tryz.ntmps25
 go_wp2
 go_loop [7] (fun i=>∃k:Nat,k<=n∧i=.int .i64 k) (fun i=>n-(intOf i).toNat)
 case atStart=>exact⟨0,Nat.zero_le _,rfl⟩
 case round=>
  obtain⟨k,hk,rfl⟩:=hrel
  by_cases hlt:k<n
  ·have hkl:k<L.length:=by rw[HN.out];exact hlt
   obtain⟨b,off,ra,rn,rc,rfl,hbs,hq0,hrn,hrm,hri⟩:=HH.out k hkl
   clear hrn hri hkl hrm
   by_cases h1:100<rn
   ·have hi:(100:Int)<(rn:Int):=by omega
    go_wp2
    go_ret
    exact⟨AnyB.of _ rfl,rfl⟩
   ·have hi:¬(100:Int)<(rn:Int):=by omega
    go_wp2
    go_round
    case rel=>exact⟨k+1,by omega,by go_num⟩
    case measure=>simp[intOf];omega
  ·go_wp2
   go_ret
   exact⟨AnyB.of _ rfl,rfl⟩
end
section
open Go.RowKit
def limE(n d:Int):Rt×Int:=if zAH (zAR n d)=true then(zAR n d,0)else((0,0),4)
theorem dlimited_c(w:World)(n d:Int)(hn: -170141183460469231731687303715884105728<n∧n<170141183460469231731687303715884105728)(hd:0<d∧d<166153499473114484112975882535043072):
 Calls Tryz.prog 89 #[sumV n d] w fun e w'=>e=.returned (.tuple #[ratV (limE n d).1,.int .i64 (limE n d).2])∧Below w.heap.size w w':=by
 obtain⟨n1,n2,pn⟩:=WP.ex n
 obtain⟨d1,d2,pd⟩:=WP.ex d
 obtain⟨wy,hwy⟩:=exq (w.alloc (.cells #[.int .i64 n1,.int .u64 n2,.int .i64 d1,.int .u64 d2] 102))
 have hby:Below w.heap.size w wy:=by rw[hwy];exact(Below.refl _ _).alloc (Nat.le_refl _) _
 have hsy:SumB wy w.heap.size n d:=by rw[hwy];exact SumB.made w pn pd
 have hys:wy.heap.size=w.heap.size+1:=by rw[hwy];simp
 obtain⟨wz,hwz⟩:=exq (wy.alloc (.cells #[.int .i64 0,.int .i64 0] 29))
 obtain⟨rb,hrb⟩:=exq (w.heap.size+1)
 have hbz1:Below wy.heap.size wy wz:=by rw[hwz];exact(Below.refl _ _).alloc (Nat.le_refl _) _
 have hsz:SumB wz w.heap.size n d:=hsy.keep (hbz1.block _ hsy.lt)
 have hrz:RatI wz rb (0,0):=by rw[hwz,hrb,<- hys];exact RatI.made wy (0,0)
 have hbz:Below w.heap.size w wz:=zAA hby hbz1
 obtain⟨sb,hsb⟩:=exq (w.heap.size)
 have HLT:=hid (show w.heap.size<=rb by omega)
 have HRZ:=hid hrz
 have HBZ:=hid hbz
 have HC:=hid (zOU wz n d hn hd)
 rw[pn.sum pd]at HC⊢
 have HWZ:=hid (show(w.alloc (.cells #[.int .i64 n1,.int .u64 n2,.int .i64 d1,.int .u64 d2] 102)).alloc (.cells #[.int .i64 0,.int .i64 0] 29)=wz by rw[<- hwy,hwz])
 rw[<- hsb]at hsz
 obtain⟨x0,x1,x2,x3,_⟩:=hsz.cells pn pd
 obtain⟨E,hE⟩:=exq (limE n d)
 rw[<- hE]
 have HE:=hid hE
 clear hn hd hwy hby hsy hys hwz hbz1 hsz hrz hbz hE pn pd
 have HRB:=hid hrb
 have HSB:=hid hsb
 by_cases hv:zAH (zAR n d)=true
 ·have HE2:=hid (show E=(zAR n d,0)by rw[HE.out];unfold limE;rw[if_pos hv])
  obtain⟨r,hr⟩:=exq (zAR n d)
  rw[<- hr]at HE2
  have HC2:=hid (show Calls Tryz.prog 83 #[.agg #[.int .i64 n1,.int .u64 n2,.int .i64 d1,.int .u64 d2]] wz fun e w'=>e=.returned (.tuple #[.agg #[.int .i64 r.1,.int .i64 r.2],.bool true])∧Below wz.heap.size wz w' from by
   refine HC.out.mono ?_
   rintro e w' ⟨⟨r',he,hr'⟩,hb⟩
   rw[hv]at he
   have h1:=hr' hv
   rw[<- hr]at h1
   subst h1
   exact⟨he,hb⟩)
  clear hv hr HE HC
  go_enter Tryz.func89,Tryz.ntmps89
  go_upto_region 1 with fail
  rw[<- hrb,<- hsb,HWZ.out]
  clear hrb hsb
  go_upto_region 2 with (go_at_call 83;refine HC2.out.mono ?_;rintro e w1 ⟨rfl,hb1⟩;have HB1:=hid hb1;clear hb1;refine Stop.of ?_)
  refine Stop.go ?_
  clear x0 x1 x2 x3
  go_upto_region 2 with fail
  obtain⟨ab,hab⟩:=exq (w1.heap.size)
  obtain⟨wa,hwa⟩:=exq (w1.alloc (.cells #[.int .i64 r.1,.int .i64 r.2] 29))
  rw[<- hab,<- hwa]
  have A0:RatI wa ab r:=by rw[hwa,hab];exact RatI.made w1 r
  have hba:Below wz.heap.size wz wa:=by rw[hwa];exact HB1.out.alloc HB1.out.size _
  have hR:=HRZ.out.keep (hba.block _ HRZ.out.lt)
  obtain⟨c0,c1,_⟩:=A0.cells
  obtain⟨r0,r1,r2,r3,r4⟩:=hR.cells
  have X1:=hid (RatI.set (p:=r) hR)
  have X2:=hid ((zBJ wa rb (.int .i64 r.1) (.int .i64 r.2)).below (zAA HBZ.out hba) (Nat.le_trans HBZ.out.size hba.size) (fun k hk=>by have:=HLT.out;show k≠rb;omega))
  clear A0 hba hR hab hwa
  go_wp2
  clear c0 c1 r0 r1 r2 r3 r4
  generalize (wa.setCell ⟨rb,0,none⟩ (.int .i64 r.1)).setCell ⟨rb,1,none⟩ (.int .i64 r.2)=WF at X1 X2⊢
  obtain⟨t0,t1,t2,t3,t4⟩:=X1.out.cells
  refine bodyPost_ret (v:=.tuple #[.agg #[.int .i64 r.1,.int .i64 r.2],.int .i64 0]) ?_ rfl ⟨by rw[HE2.out];rfl,X2.out⟩
  simp[results,Tryz.results89,go_sem,t0,t1,t2,t3,t4]
 ·have hv':zAH (zAR n d)=false:=by simpa using hv
  have HE2:=hid (show E=((0,0),4)by rw[HE.out];unfold limE;rw[if_neg hv])
  have HC2:=hid (show Calls Tryz.prog 83 #[.agg #[.int .i64 n1,.int .u64 n2,.int .i64 d1,.int .u64 d2]] wz fun e w'=>(∃r:Rt,e=.returned (.tuple #[.agg #[.int .i64 r.1,.int .i64 r.2],.bool false]))∧Below wz.heap.size wz w' from by
   refine HC.out.mono ?_
   rintro e w' ⟨⟨r',he,hr'⟩,hb⟩
   rw[hv']at he
   exact⟨⟨r',he⟩,hb⟩)
  clear hv hv' HE HC
  go_enter Tryz.func89,Tryz.ntmps89
  go_upto_region 1 with fail
  rw[<- hrb,<- hsb,HWZ.out]
  clear hrb hsb
  go_upto_region 2 with (go_at_call 83;refine HC2.out.mono ?_;rintro e w1 ⟨⟨r,rfl⟩,hb1⟩;have HB1:=hid hb1;clear hb1;refine Stop.of ?_)
  refine Stop.go ?_
  clear x0 x1 x2 x3
  go_upto_region 2 with fail
  obtain⟨ab,hab⟩:=exq (w1.heap.size)
  obtain⟨wa,hwa⟩:=exq (w1.alloc (.cells #[.int .i64 r.1,.int .i64 r.2] 29))
  rw[<- hab,<- hwa]
  have hba:Below wz.heap.size wz wa:=by rw[hwa];exact HB1.out.alloc HB1.out.size _
  have hR:=HRZ.out.keep (hba.block _ HRZ.out.lt)
  obtain⟨r0,r1,r2,r3,r4⟩:=hR.cells
  have X1:=hid (RatI.set (p:=(0,0)) hR)
  have X2:=hid ((zBJ wa rb (.int .i64 0) (.int .i64 0)).below (zAA HBZ.out hba) (Nat.le_trans HBZ.out.size hba.size) (fun k hk=>by have:=HLT.out;show k≠rb;omega))
  clear hba hR hab hwa
  go_wp2
  clear r0 r1 r2 r3 r4
  generalize (wa.setCell ⟨rb,0,none⟩ (.int .i64 0)).setCell ⟨rb,1,none⟩ (.int .i64 0)=WF at X1 X2⊢
  obtain⟨t0,t1,t2,t3,t4⟩:=X1.out.cells
  refine bodyPost_ret (v:=.tuple #[.agg #[.int .i64 0,.int .i64 0],.int .i64 4]) ?_ rfl ⟨by rw[HE2.out];rfl,X2.out⟩
  simp[results,Tryz.results89,go_sem,t0,t1,t2,t3,t4]
end
section
open Go.RowKit
theorem dleast_c(w:World)(a a2 a3:Option Addr)(n cap n2 cap2 n3 cap3:Nat)(M:Mask)(Y:List Int)(x:List Rt)(hn:M.length=n)(hn2:Y.length=n2)(hn3:x.length=n3)(hm:n<=maxLen)(hm2:n2<=maxLen)(hm3:n3<=maxLen)
 (H:zAN w a M)(H2:zAI w a2 Y)(H3:zBE w a3 x):
 Calls Tryz.prog 27 #[.slice a n cap,.slice a2 n2 cap2,.slice a3 n3 cap3] w fun e w'=>e=.returned (.tuple #[.bool (zDK M Y x).1,.int .i64 (zDK M Y x).2])∧Below w.heap.size w w':=by
 have HMV:=hid (zHY w a n cap M hn hm H)
 have HCN:=hid (fun(X:World) (hX:Below w.heap.size w X)=>zGF X a3 n3 cap3 x hn3 hm3 (H3.below hX))
 have HAS:=hid (fun(X:World) (hX:Below w.heap.size w X)=>asked_v X a a2 n cap n2 cap2 M Y hn hn2 hm hm2 (H.below hX) (H2.below hX))
 have HMK:=hid (fun(X:World) (hX:Below w.heap.size w X)=>lmakes_c X a a3 a2 n cap n3 cap3 n2 cap2 M x Y hn hn3 hn2 hm hm3 hm2 (H.below hX) (H3.below hX) (H2.below hX))
 obtain⟨E,hE⟩:=exq (zDK M Y x)
 rw[<- hE]
 have HE:=hid hE
 have HN3:=hid hn3
 have HH:=hid H
 have HH3:=hid H3
 by_cases c1:okM M=true
 rotate_left
 ·have c1':okM M=false:=by simpa using c1
  have HE2:=hid (show E=(false,1)by rw[hE];unfold zDK;rw[if_neg (fun h=>c1 h.1)])
  rw[c1']at HMV
  clear hn hn2 hn3 H H2 H3 c1 c1' hE
  go_enter Tryz.func27,Tryz.ntmps27
  go_wp2_with (go_at_call 79;refine HMV.out.mono ?_;rintro e w1 ⟨rfl,hb1⟩)
  go_ret2
  exact⟨by rw[HE2.out]<;>rfl,hb1⟩
 rw[c1]at HMV
 by_cases c2:x.all zAH=true
 rotate_left
 ·have c2':x.all zAH=false:=by simpa using c2
  have HE2:=hid (show E=(false,1)by rw[hE];unfold zDK;rw[if_neg (fun h=>c2 h.2)])
  rw[c2']at HCN
  clear hn hn2 hn3 H H2 H3 c1 c2 c2' hE
  go_enter Tryz.func27,Tryz.ntmps27
  go_wp2_with (go_at_call 79;refine HMV.out.mono ?_;rintro e w1 ⟨rfl,hb1⟩;have HB1:=hid hb1;clear hb1;refine Stop.of ?_)
  refine Stop.go ?_
  go_wp2_with (go_at_call 80;refine(HCN.out _ HB1.out).mono ?_;rintro e w2 ⟨rfl,hb2⟩)
  go_ret2
  exact⟨by rw[HE2.out]<;>rfl,zAA HB1.out hb2⟩
 rw[c2]at HCN
 obtain⟨hM,h1,h6,hc1,hc10⟩:=zDJ c1
 obtain⟨b0,off0,ra0,rc0,rfl,hb0,hc0⟩:=zEA H (by omega)
 have HS0:=hid (fun(X:World) (hX:Below w.heap.size w X)=>show X.cell? ⟨b0,off0,none⟩=some (.slice ra0 (zAC M) rc0)from(hX.cell (p:=⟨b0,off0,none⟩) hb0).trans hc0)
 have hn0:(0:Int)<(n:Int):=by omega
 by_cases c3:n3=zAC M
 rotate_left
 ·have HE2:=hid (show E=(false,9)by rw[hE];unfold zDK;rw[if_pos ⟨c1,c2⟩,if_neg (by rw[hn3];exact c3)])
  obtain⟨k0,hk0⟩:=exq (zAC M)
  rw[<- hk0]at c3 HS0
  have hne:((n3:Int) !=(k0:Int))=true:=by simp;omega
  clear hn hn2 hn3 H H2 H3 c1 c2 c3 hE hM h1 h6 hc1 hc10 hc0 hb0 hk0
  go_enter Tryz.func27,Tryz.ntmps27
  go_wp2_with (go_at_call 79;refine HMV.out.mono ?_;rintro e w1 ⟨rfl,hb1⟩;have HB1:=hid hb1;clear hb1;refine Stop.of ?_)
  refine Stop.go ?_
  go_wp2_with (go_at_call 80;refine(HCN.out _ HB1.out).mono ?_;rintro e w2 ⟨rfl,hb2⟩;have HB2:=hid (zAA HB1.out hb2);clear hb2;refine Stop.of ?_)
  refine Stop.go ?_
  have s0:=HS0.out _ HB2.out
  go_wp2
  go_ret2
  exact⟨by rw[HE2.out]<;>rfl,HB2.out⟩
 have hne:((n3:Int) !=(n3:Int))=false:=by simp
 rw[<- c3]at HS0
 obtain⟨r,hr⟩:=exq ((valE M Y).1)
 obtain⟨F,hF⟩:=exq ((valE M Y).2)
 rw[<- hr,<- hF]at HAS
 have hEv:E=if F=0 then(zCF M x Y&&decide ((nrmQ x).1*r.2=r.1*(nrmQ x).2),0)else(false,F):=by
  rw[hE];unfold zDK;rw[if_pos ⟨c1,c2⟩,if_pos (by rw[hn3];exact c3),<- hF,<- hr]
 by_cases c4:F=0
 rotate_left
 ·have HE2:=hid (show E=(false,F)by rw[hEv,if_neg c4])
  have hnf:(F !=0)=true:=by simpa using c4
  clear hn hn2 hn3 H H2 H3 c1 c2 c3 c4 hE hM h1 h6 hc1 hc10 hc0 hb0 hr hF hEv
  go_enter Tryz.func27,Tryz.ntmps27
  go_wp2_with (go_at_call 79;refine HMV.out.mono ?_;rintro e w1 ⟨rfl,hb1⟩;have HB1:=hid hb1;clear hb1;refine Stop.of ?_)
  refine Stop.go ?_
  go_wp2_with (go_at_call 80;refine(HCN.out _ HB1.out).mono ?_;rintro e w2 ⟨rfl,hb2⟩;have HB2:=hid (zAA HB1.out hb2);clear hb2;refine Stop.of ?_)
  refine Stop.go ?_
  have s0:=HS0.out _ HB2.out
  go_wp2_with (go_at_call 73;refine(HAS.out _ HB2.out).mono ?_;rintro e w3 ⟨hb3,p1,p2,p3,q1,q2,q3,s1,s2,s3,rfl⟩;have HB3:=hid (zAA HB2.out hb3);clear hb3;refine Stop.of ?_)
  refine Stop.go ?_
  go_wp2
  go_ret2
  exact⟨by rw[HE2.out]<;>rfl,HB3.out.alloc HB3.out.size _⟩
 subst c4
 rw[if_pos rfl]at hEv
 obtain⟨hr0,ho⟩:=zJR hF.symm
 rw[<- hr]at ho
 have hxv:=zFY c2
 have hq:=zPG hxv (Nat.le_refl _) (by omega)
 have hq2:0<(nrmQ x).2:=by have:=hq.2;unfold nrmQ;omega
 have hri:=zOZ (n:=(nrmQ x).1) hq2 ho.valid
 have HNM:=hid (fun(X:World) (hX:Below w.heap.size w X)=>dnorm_c X a3 n3 cap3 x hn3 (by omega) (HH3.out.below hX) hxv)
 have HRT:=hid (fun(X:World)=>zOU X (nrmQ x).1 (nrmQ x).2 (by have:=hq.1;unfold nrmQ;omega) (by have:=hq.2;unfold nrmQ;omega))
 obtain⟨SV,hSV⟩:=exq (sumV (nrmQ x).1 (nrmQ x).2)
 rw[<- hSV]at HNM HRT
 obtain⟨B,hB⟩:=exq (zCF M x Y)
 rw[<- hB]at HMK hEv
 -- the answer's box and the norm's
 have HEQ:=hid hEv
 have HRI:=hid hri
 have HVR:=hid ho.valid
 have HDO:=hid hq2
 clear hn hn2 hn3 H H2 H3 c1 c2 c3 hE hM h1 h6 hc1 hc10 hc0 hb0 hr hF hEv hr0 ho hxv hq hq2 hri hSV hB HN3
 go_enter Tryz.func27,Tryz.ntmps27
 go_wp2_with (go_at_call 79;refine HMV.out.mono ?_;rintro e w1 ⟨rfl,hb1⟩;have HB1:=hid hb1;clear hb1;refine Stop.of ?_)
 refine Stop.go ?_
 go_wp2_with (go_at_call 80;refine(HCN.out _ HB1.out).mono ?_;rintro e w2 ⟨rfl,hb2⟩;have HB2:=hid (zAA HB1.out hb2);clear hb2;refine Stop.of ?_)
 refine Stop.go ?_
 have s0:=HS0.out _ HB2.out
 go_upto_region 6 with (go_at_call 73;refine(HAS.out _ HB2.out).mono ?_;rintro e w3 ⟨hb3,p1,p2,p3,q1,q2,q3,s1,s2,s3,rfl⟩;have HB3:=hid (zAA HB2.out hb3);clear hb3;refine Stop.of ?_)
 refine Stop.go ?_
 go_upto_region 6 with fail
 obtain⟨ab,hab⟩:=exq (w3.heap.size)
 obtain⟨wa,hwa⟩:=exq (w3.alloc (.cells #[.slice p1 p2 p3,.slice q1 q2 q3,.int .i64 r.1,.int .i64 r.2,.slice s1 s2 s3] 89))
 rw[<- hab,<- hwa]
 have A0:AnsB wa ab (.slice p1 p2 p3) (.slice q1 q2 q3) r (.slice s1 s2 s3):=by rw[hwa,hab];exact World.alloc_heap_new _ _
 have HAB:=hid A0
 have HBA:=hid (show Below w.heap.size w wa by rw[hwa];exact HB3.out.alloc HB3.out.size _)
 clear A0 hwa hab s0
 go_upto_region 9 with (first
  | (go_at_call 82;refine(HNM.out _ HBA.out).mono ?_;rintro e w4 ⟨rfl,hb4⟩;have HB4:=hid hb4;clear hb4;refine Stop.of ?_))
 refine Stop.go ?_
 go_upto_region 9 with (go_at_call 83;refine(HRT.out _).mono ?_;rintro e w5 ⟨⟨z,rfl,hz⟩,hb5⟩;have HB5:=hid (zAA HB4.out hb5);have HZ:=hid hz;clear hb5 hz;refine Stop.of ?_)
 refine Stop.go ?_
 simp only[ratV]
 obtain⟨bv,hbv⟩:=exq (zAH (zAR (nrmQ x).1 (nrmQ x).2))
 have HZ2:=hid HZ.out
 rw[<- hbv]at HZ2⊢
 have HBV:=hid hbv
 clear hbv HZ
 go_upto_region 9 with fail
 obtain⟨zb,hzb⟩:=exq (w5.heap.size)
 obtain⟨w6,hw6⟩:=exq (w5.alloc (.cells #[.int .i64 z.1,.int .i64 z.2] 29))
 rw[<- hzb,<- hw6]
 have HZB:=hid (show RatI w6 zb z by rw[hw6,hzb];exact RatI.made w5 z)
 have hb6:Below wa.heap.size wa w6:=by rw[hw6];exact HB5.out.alloc HB5.out.size _
 have HA6:=hid (HAB.out.keep (hb6.block _ HAB.out.lt))
 have HB6:=hid (zAA HBA.out hb6)
 clear hw6 hzb hb6 HAB
 obtain⟨c0,c1,c2,c3,c4,cf⟩:=HA6.out.cells
 obtain⟨z0,z1,_⟩:=HZB.out.cells
 clear cf
 cases bv
 ·have HE3:=hid (show E=(false,0)by
   rw[HEQ.out]
   have:¬(nrmQ x).1*r.2=r.1*(nrmQ x).2:=fun h=>by
    have h2:=HRI.out.2 h
    have h3:=HBV.out
    rw[h2,HVR.out]at h3
    cases h3
   rw[decide_eq_false this];simp)
  go_wp2
  go_ret2
  exact⟨by rw[HE3.out]<;>rfl,HB6.out⟩
 ·have hzr:z=zAR (nrmQ x).1 (nrmQ x).2:=HZ2.out rfl
  by_cases hzv:z=r
  ·have HE3:=hid (show E=(B,0)by
    rw[HEQ.out,decide_eq_true (HRI.out.1 (hzr.symm.trans hzv))];simp)
   subst hzv
   clear hzr
   go_wp2_with (go_at_call 84;refine(HMK.out _ HB6.out).mono ?_;rintro e w7 ⟨rfl,hb7⟩;have HB7:=hid hb7;clear hb7;refine Stop.of ?_)
   refine Stop.go ?_
   go_wp2
   go_ret2
   exact⟨by rw[HE3.out]<;>rfl,zAA HB6.out HB7.out⟩
  ·have HE3:=hid (show E=(false,0)by
    rw[HEQ.out,decide_eq_false (fun h=>hzv (hzr.trans (HRI.out.2 h)))];simp)
   clear hzr
   have hor:(z.1==r.1&&z.2==r.2)=false:=by
    obtain⟨z1',z2'⟩:=z
    obtain⟨r1',r2'⟩:=r
    simp only[Bool.and_eq_false_iff,beq_eq_false_iff_ne]
    apply Classical.byContradiction
    intro h
    simp only[not_or,Classical.not_not]at h
    exact hzv (by rw[h.1,h.2])
   by_cases e1:z.1=r.1
   ·have e2:¬z.2=r.2:=fun e2=>by rw[e1,e2]at hor;simp at hor
    clear hzv hor
    have e3:(z.2==r.2)=false:=by simpa using e2
    go_wp2
    go_ret2
    exact⟨by rw[HE3.out]<;>rfl,HB6.out⟩
   ·clear hzv hor
    have e3:(z.1==r.1)=false:=by simpa using e1
    go_wp2
    go_ret2
    exact⟨by rw[HE3.out]<;>rfl,HB6.out⟩
end
section
open Go.RowKit
theorem shalved_c(w:World)(n d:Int)(hd:B127 d)(h1:B127 (d*2)):
 Calls Tryz.prog 97 #[sumV n d] w fun e w'=>e=.returned (sumV n (d*2))∧Below w.heap.size w w':=by
 have HT:=hid (fun X=>zHB X d 2 hd (by decide) (by rw[<- Int.natAbs_mul];unfold B127 at h1;omega))
 obtain⟨n1,n2,pn⟩:=WP.ex n
 obtain⟨d1,d2,pd⟩:=WP.ex d
 obtain⟨c1,c2,pC⟩:=WP.ex (d*2)
 rw[pd.val,pC.val]at HT
 rw[pn.sum pd,pn.sum pC]
 clear hd h1 pn pd pC
 obtain⟨s,hs⟩:=exq (w.heap.size)
 obtain⟨wa,hwa⟩:=exq ((w.alloc (.cells #[.int .i64 n1,.int .u64 n2,.int .i64 d1,.int .u64 d2] 102)).alloc (.cells #[.int .i64 0,.int .u64 0,.int .i64 0,.int .u64 0] 102))
 have hba:Below w.heap.size w wa:=by rw[hwa];exact((Below.refl _ _).alloc (Nat.le_refl _) _).alloc (by simp) _
 have q0:wa.heap[s+1]? =some (.cells #[.int .i64 0,.int .u64 0,.int .i64 0,.int .u64 0] 102 (0,0)):=by
  have:=World.alloc_heap_new (w.alloc (.cells #[.int .i64 n1,.int .u64 n2,.int .i64 d1,.int .u64 d2] 102)) (.cells #[.int .i64 0,.int .u64 0,.int .i64 0,.int .u64 0] 102)
  rw[hwa,hs]
  simpa using this
 have hs1:s+1<wa.heap.size:=(Array.getElem?_eq_some_iff.1 q0).1
 have hc:∀o v,(#[Value.int .i64 n1,.int .u64 n2,.int .i64 d1,.int .u64 d2]:Array Value)[o]? =some v->wa.cell? ⟨s,o,none⟩=some v:=fun o v h=>by
  rw[hwa,hs,World.cell?_alloc_past _ _ _ (by simp),World.cell?_alloc_at _ _ _ _ rfl];exact h
 have HS:=hid (fun(Y:World) (hY:Below wa.heap.size wa Y)=>show Y.cell? ⟨s,0,none⟩=some (.int .i64 n1)∧Y.cell? ⟨s,1,none⟩=some (.int .u64 n2)∧Y.cell? ⟨s,2,none⟩=some (.int .i64 d1)∧Y.cell? ⟨s,3,none⟩=some (.int .u64 d2)from by
  have k0:∀o,Y.cell? ⟨s,o,none⟩=wa.cell? ⟨s,o,none⟩:=fun o=>hY.cell (p:=⟨s,o,none⟩) (by show s<_;omega)
  exact⟨(k0 0).trans (hc 0 _ rfl),(k0 1).trans (hc 1 _ rfl),(k0 2).trans (hc 2 _ rfl),(k0 3).trans (hc 3 _ rfl)⟩)
 have HR:=hid (fun(Y:World) (hY:Below wa.heap.size wa Y)=>show Y.cell? ⟨s+1,0,none⟩=some (.int .i64 0)∧Y.cell? ⟨s+1,1,none⟩=some (.int .u64 0)∧Y.cell? ⟨s+1,2,none⟩=some (.int .i64 0)∧Y.cell? ⟨s+1,3,none⟩=some (.int .u64 0)∧(∀o,Y.frozen? ⟨s+1,o,none⟩=false)∧s+1<Y.heap.size from by
  have h1:=(hY.block (s+1) hs1).trans q0
  exact⟨by simp[World.cell?,h1],by simp[World.cell?,h1],by simp[World.cell?,h1],by simp[World.cell?,h1],fun o=>by simp[World.frozen?,h1],(Array.getElem?_eq_some_iff.1 h1).1⟩)
 have HFIN:=hid (fun(Y:World) (hY:Below wa.heap.size wa Y) (u v x z:Value)=>show Below w.heap.size w ((((Y.setCell ⟨s+1,0,none⟩ u).setCell ⟨s+1,1,none⟩ v).setCell ⟨s+1,2,none⟩ x).setCell ⟨s+1,3,none⟩ z)from
  zAG (zAG (zAG (zAG (zAA hba hY) (by omega) 0 u) (by omega) 1 v) (by omega) 2 x) (by omega) 3 z)
 clear hba q0 hs1 hc
 go_enter Tryz.func97,Tryz.ntmps97
 go_wp2_with fail
 rw[<- hs,<- hwa]
 clear hs hwa
 refine zAF (fun j' X=>decide (j'<=5)=true->X.cell? ⟨s,0,none⟩=some (.int .i64 n1)∧X.cell? ⟨s,1,none⟩=some (.int .u64 n2)∧X.cell? ⟨s,2,none⟩=some (.int .i64 d1)∧X.cell? ⟨s,3,none⟩=some (.int .u64 d2)) (by kernel_rfl) ?_
 have hbd:Below wa.heap.size wa wa.drew:=(Below.refl _ _).drew
 generalize wa.drew=wd at hbd⊢
 refine AnyT.tD (i:=0) (v:=.pointer (some ⟨s,0,none⟩)) rfl rfl (by rintro w' ⟨y1,y2,y3,y4⟩;go_simp) (HS.out _ hbd) ?_;go_frame
 refine AnyT.tD (i:=1) (v:=.agg #[.int .i64 n1,.int .u64 n2]) rfl rfl (by rintro w' ⟨y1,y2,y3,y4⟩;go_simp) (HS.out _ hbd) ?_;go_frame
 refine AnyT.tD (i:=2) (v:=.pointer (some ⟨s,2,none⟩)) rfl rfl (by rintro w' ⟨y1,y2,y3,y4⟩;go_simp) (HS.out _ hbd) ?_;go_frame
 refine AnyT.tD (i:=3) (v:=.agg #[.int .i64 d1,.int .u64 d2]) rfl rfl (by rintro w' ⟨y1,y2,y3,y4⟩;go_simp) (HS.out _ hbd) ?_;go_frame
 refine AnyT.nx (i:=4) rfl ?_
 go_wp2_with (go_at_call 151;refine(HT.out _).mono ?_;rintro e w1 ⟨rfl,hbw1⟩;refine Stop.of ?_)
 refine Stop.go ?_
 have HB1:=hid (zAA hbd hbw1)
 clear hbw1
 go_wp2
 refine⟨fun _=>HS.out _ HB1.out,?_⟩
 refine AnyT.nx (i:=5) rfl ?_
 go_wp2
 refine⟨fun _=>HS.out _ HB1.out,?_⟩
 refine AnyT.nx (i:=6) rfl ?_
 obtain⟨c00,c01,c02,c03,hfz,hlt⟩:=HR.out _ HB1.out
 have f0:=hfz 0
 have f1:=hfz 1
 have f2:=hfz 2
 have f3:=hfz 3
 have HFI:=hid (HFIN.out _ HB1.out)
 clear HFIN hfz
 go_wp2
 refine⟨fun h=>absurd h (by decide),?_⟩
 refine AnyT.done (by kernel_rfl) ?_ _
 go_wp2
 refine bodyPost_ret (v:=.agg #[.int .i64 n1,.int .u64 n2,.int .i64 c1,.int .u64 c2]) ?_ rfl ⟨rfl,HFI.out _ _ _ _⟩
 simp[results,Tryz.results97,go_sem,c00,c01,c02,c03,f0,f1,f2,f3,hlt]
def MixP(E:List Rt×Int)(e:Ending)(W:World):Prop:=∃b c,e=.returned (.tuple #[.slice b E.1.length c,.int .i64 E.2])∧zBE W b E.1
theorem mix_lim(a b:Rt):limE (a.1*b.2+b.1*a.2) (a.2*b.2*2)=(if zAH (zBZ a b)=true then(zBZ a b,0)else((0,0),4)):=by
 unfold limE zBZ
 rw[Int.mul_comm (a.2*b.2) 2]
theorem mix_yes{x y:List Rt}(h1:x.all zAH=true)(h2:y.all zAH=true)(hl:x.length=y.length)(h:∀q,q<x.length->zAH (zBZ (zAB x q) (zAB y q))=true):mixE x y=(List.zipWith zBZ x y,0):=by
 unfold mixE
 rw[if_pos ⟨h1,h2⟩,if_pos hl,if_pos]
 refine List.all_eq_true.2 fun r hr=>?_
 obtain⟨q,hq,rfl⟩:=List.mem_iff_getElem.1 hr
 have hq':q<x.length:=by rw[List.length_zipWith]at hq;omega
 have:=zip_at hl hq'
 have e1:zAB (List.zipWith zBZ x y) q=(List.zipWith zBZ x y)[q]:=by unfold zAB;rw[List.getElem?_eq_getElem hq];rfl
 rw[<- e1,this]
 exact h q hq'
theorem mix_no{x y:List Rt}(h1:x.all zAH=true)(h2:y.all zAH=true)(hl:x.length=y.length){q:Nat}(hq:q<x.length)(h:zAH (zBZ (zAB x q) (zAB y q))=false):mixE x y=([],4):=by
 unfold mixE
 rw[if_pos ⟨h1,h2⟩,if_pos hl,if_neg]
 intro hc
 have hz:q<(List.zipWith zBZ x y).length:=by rw[List.length_zipWith];omega
 have h3:=List.all_eq_true.1 hc _ (List.getElem_mem hz)
 have e1:zAB (List.zipWith zBZ x y) q=(List.zipWith zBZ x y)[q]:=by unfold zAB;rw[List.getElem?_eq_getElem hz];rfl
 rw[<- e1,zip_at hl hq,h]at h3
 cases h3
theorem dmixed_c(w:World)(a a2:Option Addr)(n cap n2 cap2:Nat)(x y:List Rt)(hn:x.length=n)(hn2:y.length=n2)(hm:n<=1000000)(hm2:n2<=1000000)(H:zBE w a x)(H2:zBE w a2 y):
 Calls Tryz.prog 33 #[.slice a n cap,.slice a2 n2 cap2] w fun e w'=>MixP (mixE x y) e w'∧Below w.heap.size w w':=by
 have HC1:=hid (fun(X:World) (hX:Below w.heap.size w X)=>zGF X a n cap x hn (by unfold maxLen;omega) (H.below hX))
 have HC2:=hid (fun(X:World) (hX:Below w.heap.size w X)=>zGF X a2 n2 cap2 y hn2 (by unfold maxLen;omega) (H2.below hX))
 obtain⟨E,hE⟩:=exq (mixE x y)
 rw[<- hE]
 by_cases c1:x.all zAH=true
 rotate_left
 ·have c1':x.all zAH=false:=by simpa using c1
  have HR:=hid (show E=([],1)by rw[hE];unfold mixE;rw[if_neg (fun h=>c1 h.1)])
  rw[c1']at HC1
  clear c1 c1' hE hn hn2 H H2
  go_enter Tryz.func33,Tryz.ntmps33
  go_wp2_with (go_at_call 80;refine(HC1.out _ (Below.refl _ _)).mono ?_;rintro e w1 ⟨rfl,hb1⟩;have HB1:=hid hb1;clear hb1;refine Stop.of ?_)
  refine Stop.go ?_
  go_wp2
  go_ret2
  exact⟨⟨none,0,by rw[HR.out];rfl,by rw[HR.out];exact fun j hj=>by simp at hj⟩,HB1.out⟩
 rw[c1]at HC1
 by_cases c2:y.all zAH=true
 rotate_left
 ·have c2':y.all zAH=false:=by simpa using c2
  have HR:=hid (show E=([],1)by rw[hE];unfold mixE;rw[if_neg (fun h=>c2 h.2)])
  rw[c2']at HC2
  clear c1 c2 c2' hE hn hn2 H H2
  go_enter Tryz.func33,Tryz.ntmps33
  go_wp2_with (go_at_call 80;refine(HC1.out _ (Below.refl _ _)).mono ?_;rintro e w1 ⟨rfl,hb1⟩;have HB1:=hid hb1;clear hb1;refine Stop.of ?_)
  refine Stop.go ?_
  go_wp2_with (go_at_call 80;refine(HC2.out _ HB1.out).mono ?_;rintro e w2 ⟨rfl,hb2⟩;have HB2:=hid (zAA HB1.out hb2);clear hb2;refine Stop.of ?_)
  refine Stop.go ?_
  go_wp2
  go_ret2
  exact⟨⟨none,0,by rw[HR.out];rfl,by rw[HR.out];exact fun j hj=>by simp at hj⟩,HB2.out⟩
 rw[c2]at HC2
 by_cases c3:n=n2
 rotate_left
 ·have HR:=hid (show E=([],9)by rw[hE];unfold mixE;rw[if_pos ⟨c1,c2⟩,if_neg (by rw[hn,hn2];exact c3)])
  have hne:((n:Int) !=(n2:Int))=true:=by simp;omega
  clear c1 c2 c3 hE hn hn2 H H2
  go_enter Tryz.func33,Tryz.ntmps33
  go_wp2_with (go_at_call 80;refine(HC1.out _ (Below.refl _ _)).mono ?_;rintro e w1 ⟨rfl,hb1⟩;have HB1:=hid hb1;clear hb1;refine Stop.of ?_)
  refine Stop.go ?_
  go_wp2_with (go_at_call 80;refine(HC2.out _ HB1.out).mono ?_;rintro e w2 ⟨rfl,hb2⟩;have HB2:=hid (zAA HB1.out hb2);clear hb2;refine Stop.of ?_)
  refine Stop.go ?_
  go_wp2
  go_ret2
  exact⟨⟨none,0,by rw[HR.out];rfl,by rw[HR.out];exact fun j hj=>by simp at hj⟩,HB2.out⟩
 have HX:=hid H
 have HY:=hid H2
 have HNX:=hid hn
 have HNY:=hid (hn2.trans c3.symm)
 have HN12:=hid c3
 have HXV:=hid (zFY c1)
 have HYV:=hid (zFY c2)
 have HYES:=hid (show(∀q,q<n->zAH (zBZ (zAB x q) (zAB y q))=true)->E=(List.zipWith zBZ x y,0)from fun h=>by rw[hE];exact mix_yes c1 c2 (by omega) (fun q hq=>h q (by omega)))
 have HNO:=hid (show ∀q,q+1<=n->zAH (zBZ (zAB x q) (zAB y q))=false->E=([],4)from fun q hq h=>by rw[hE];exact mix_no c1 c2 (by omega) (by omega) h)
 have hne:((n:Int) !=(n2:Int))=false:=by simp;omega
 have HSM0:=hid hm
 clear c1 c2 c3 hE hn hn2 H H2 hm hm2
 go_enter Tryz.func33,Tryz.ntmps33
 go_wp2_with (go_at_call 80;refine(HC1.out _ (Below.refl _ _)).mono ?_;rintro e w1 ⟨rfl,hb1⟩;have HB1:=hid hb1;clear hb1;refine Stop.of ?_)
 refine Stop.go ?_
 go_wp2_with (go_at_call 80;refine(HC2.out _ HB1.out).mono ?_;rintro e w2 ⟨rfl,hb2⟩;have HB2:=hid (zAA HB1.out hb2);clear hb2;refine Stop.of ?_)
 refine Stop.go ?_
 clear HC1 HC2
 go_wp2
 clear hne
 go_loopw [6,26] (fun v i wr=>∃t:Nat,t<=n∧i=.int .i64 t∧Hid (∀q,q<t->zAH (zBZ (zAB x q) (zAB y q))=true)∧zCR wr w.heap.size v ((List.zipWith zBZ x y).take t)∧Below w.heap.size w wr) (fun _ i _=>n-(intOf i).toNat)
 case atStart=>exact⟨0,Nat.zero_le _,rfl,hid (fun q h=>by omega),zCR.nil _ _,HB2.out⟩
 case round=>
  obtain⟨t,ht,rfl,HOK,hown,hbt⟩:=hrel
  by_cases htl:t<n
  ·obtain⟨xb,xo,rfl,hxb,hx0,hx1⟩:=HX.out t (by rw[HNX.out];exact htl)
   obtain⟨yb,yo,rfl,hyb,hy0,hy1⟩:=HY.out t (by rw[HNY.out];exact htl)
   have hxt:zAB x t=x[t]'(by rw[HNX.out];exact htl):=by unfold zAB;rw[List.getElem?_eq_getElem (by rw[HNX.out];exact htl)];rfl
   have hyt:zAB y t=y[t]'(by rw[HNY.out];exact htl):=by unfold zAB;rw[List.getElem?_eq_getElem (by rw[HNY.out];exact htl)];rfl
   rw[<- hxt]at hx0 hx1
   rw[<- hyt]at hy0 hy1
   have hxv:=HXV.out t
   have hyv:=HYV.out t
   have hzt:(List.zipWith zBZ x y).take (t+1)=(List.zipWith zBZ x y).take t++[zBZ (zAB x t) (zAB y t)]:=by
    have hzl:t<(List.zipWith zBZ x y).length:=by rw[List.length_zipWith,HNX.out,HNY.out];omega
    rw[List.take_succ_eq_append_getElem hzl]
    congr 2
    have:=zip_at (a:=x) (b:=y) (by rw[HNX.out,HNY.out]) (k:=t) (by rw[HNX.out];exact htl)
    rw[<- this]
    unfold zAB;rw[List.getElem?_eq_getElem hzl];rfl
   have hlnt:∀q,q<=n->((List.zipWith zBZ x y).take q).length=q:=fun q hq=>by
    rw[List.length_take,List.length_zipWith,HNX.out,HNY.out];omega
   unfold zCR at hown
   rw[hlnt t ht]at hown
   have HTK:=hid hzt
   obtain⟨⟨An,Ad⟩,hA⟩:∃q,q=zAB x t:=⟨_,rfl⟩
   obtain⟨⟨Bn,Bd⟩,hB⟩:∃q,q=zAB y t:=⟨_,rfl⟩
   have hlim:=mix_lim (An,Ad) (Bn,Bd)
   have hHV:zBZ (An,Ad) (Bn,Bd)=zBZ (zAB x t) (zAB y t):=by rw[hA,hB]
   rw[<- hA]at hx0 hx1 hxv
   rw[<- hB]at hy0 hy1 hyv
   simp only[]at hx0 hx1 hxv hy0 hy1 hyv hlim
   obtain⟨a1,a2,a3,a4⟩:=hxv
   obtain⟨b1,b2,b3,b4⟩:=hyv
   have e1:(An*Bd).natAbs<=10000000000*400:=by rw[Int.natAbs_mul];exact Nat.mul_le_mul (by omega) (by omega)
   have e2:(Bn*Ad).natAbs<=10000000000*400:=by rw[Int.natAbs_mul];exact Nat.mul_le_mul (by omega) (by omega)
   have e3:(Ad*Bd).natAbs<=400*400:=by rw[Int.natAbs_mul];exact Nat.mul_le_mul (by omega) (by omega)
   have e4:0<Ad*Bd:=Int.mul_pos (by omega) (by omega)
   have HP1:=hid (fun(X:World)=>show Calls Tryz.prog 96 #[sumV 0 1,ratV (An,Ad),.int .i64 1] X fun e w'=>e=.returned (sumV An Ad)∧Below X.heap.size X w' from by
    have:=zJT X 0 1 An Ad 1 (by unfold B127;omega) (by unfold B127;omega) (by omega) (by omega) (by unfold B127;omega) (by unfold B127;omega) (by unfold B127;omega) (by unfold B127;omega)
    rw[show(0:Int)*Ad+1*(An*1)=An by omega,show(1:Int)*Ad=Ad by omega]at this
    exact this)
   have HP2:=hid (fun(X:World)=>show Calls Tryz.prog 96 #[sumV An Ad,ratV (Bn,Bd),.int .i64 1] X fun e w'=>e=.returned (sumV (An*Bd+Bn*Ad) (Ad*Bd))∧Below X.heap.size X w' from by
    have e5:Ad*(Bn*1)=Bn*Ad:=by rw[Int.mul_one,Int.mul_comm]
    have:=zJT X An Ad Bn Bd 1 (by unfold B127;omega) (by unfold B127;omega) (by omega) (by omega) (by unfold B127;omega) (by rw[e5];unfold B127;omega) (by rw[e5];unfold B127;omega) (by unfold B127;omega)
    rw[e5]at this
    exact this)
   have HHV:=hid (fun(X:World)=>shalved_c X (An*Bd+Bn*Ad) (Ad*Bd) (by unfold B127;omega) (by unfold B127;omega))
   have HLM:=hid (fun(X:World)=>dlimited_c X (An*Bd+Bn*Ad) (Ad*Bd*2) (by omega) (by omega))
   rw[hlim,hHV]at HLM
   simp only[ratV]at HP1 HP2 HLM
   have hE1:∀r:Rt,∃E:Rt×Int,E=(if zAH r=true then(r,0)else((0,0),4)):=fun r=>⟨_,rfl⟩
   obtain⟨⟨⟨en,ed⟩,ee⟩,hE⟩:=hE1 (zBZ (zAB x t) (zAB y t))
   rw[<- hE]at HLM
   simp only[]at HLM
   have hEc:(zAH (zBZ (zAB x t) (zAB y t))=true∧(en,ed)=zBZ (zAB x t) (zAB y t)∧ee=0)∨(zAH (zBZ (zAB x t) (zAB y t))=false∧(en,ed)=(0,0)∧ee=4):=by
    by_cases h:zAH (zBZ (zAB x t) (zAB y t))=true
    ·rw[if_pos h]at hE
     exact .inl ⟨h,(Prod.mk.inj hE).1,(Prod.mk.inj hE).2⟩
    ·rw[if_neg h]at hE
     exact .inr ⟨by simpa using h,(Prod.mk.inj hE).1,(Prod.mk.inj hE).2⟩
   have h00:zAH (0,0)=false:=by decide
   have HE0:=hid (show zAH (en,ed)=true->ee=0 from fun h=>by
    rcases hEc with⟨_,_,h3⟩|⟨_,h2,_⟩
    ·exact h3
    ·rw[h2,h00]at h;cases h)
   have HE1:=hid (show zAH (en,ed)=true->(en,ed)=zBZ (zAB x t) (zAB y t)from fun h=>by
    rcases hEc with⟨_,h2,_⟩|⟨_,h2,_⟩
    ·exact h2
    ·rw[h2,h00]at h;cases h)
   have HE4:=hid (show zAH (en,ed)=false->ee=4 from fun h=>by
    rcases hEc with⟨h1,h2,_⟩|⟨_,_,h3⟩
    ·rw[h2,h1]at h;cases h
    ·exact h3)
   have HE6:=hid (show ¬zAH (en,ed)=true->zAH (zBZ (zAB x t) (zAB y t))=false from fun h=>by
    rcases hEc with⟨h1,h2,_⟩|⟨h1,_,_⟩
    ·rw[h2]at h;exact absurd h1 h
    ·exact h1)
   obtain⟨Z0,hZ0⟩:=exq (sumV 0 1)
   obtain⟨V1,hV1⟩:=exq (sumV An Ad)
   obtain⟨V2,hV2⟩:=exq (sumV (An*Bd+Bn*Ad) (Ad*Bd))
   obtain⟨V3,hV3⟩:=exq (sumV (An*Bd+Bn*Ad) (Ad*Bd*2))
   have HZ:=hid (fun(X:World)=>show Calls Tryz.prog 95 #[] X fun e w'=>e=.returned Z0∧Below X.heap.size X w' from by rw[hZ0];exact zLU X)
   rw[<- hZ0,<- hV1]at HP1
   rw[<- hV1,<- hV2]at HP2
   rw[<- hV2,<- hV3]at HHV
   rw[<- hV3]at HLM
   have HOWN:=hid hown
   obtain⟨va,vc,rfl⟩:=zAD hown
   have HLN:=hid (fun(q:Nat) (hq:q<=n)=>hlnt q hq)
   have HTL:=hid (show t+1<=n by omega)
   have HTS:=hid (show t<=1000000 by have:=HSM0.out;omega)
   have HCE:=hid (fun(X:World) (hX:Below w.heap.size w X)=>show X.cell? ⟨yb,yo+t*2,none⟩=some (.int .i64 Bn)∧X.cell? ⟨yb,yo+t*2+1,none⟩=some (.int .i64 Bd)from⟨(hX.cell (p:=⟨yb,_,none⟩) hyb).trans hy0,(hX.cell (p:=⟨yb,_,none⟩) hyb).trans hy1⟩)
   have q0:wr.cell? ⟨xb,xo+t*2,none⟩=some (.int .i64 An):=(hbt.cell (p:=⟨xb,_,none⟩) hxb).trans hx0
   have q1:wr.cell? ⟨xb,xo+t*2+1,none⟩=some (.int .i64 Ad):=(hbt.cell (p:=⟨xb,_,none⟩) hxb).trans hx1
   have i1:(t:Int)<(n:Int):=by omega
   have HIT:=hid (show(0:Int)<=(t:Int)∧(t:Int)<(n2:Int)from⟨by omega,by have:=HN12.out;omega⟩)
   have HBT:=hid hbt
   clear hx0 hx1 hy0 hy1 hxt hyt hzt hlnt hown hbt hA hB hlim hHV a1 a2 a3 a4 b1 b2 b3 b4 e1 e2 e3 e4 hE1 hE hEc h00 hZ0 hV1 hV2 hV3 hxb hyb
   go_upto_region 9 with fail
   obtain⟨h,hh⟩:=exq (wr.heap.size)
   obtain⟨wh,hwh⟩:=exq (wr.alloc (.cells #[.int .i64 An,.int .i64 Ad] 29))
   rw[<- hh,<- hwh]
   have hbh:Below wr.heap.size wr wh:=by rw[hwh];exact(Below.refl _ _).alloc (Nat.le_refl _) _
   have HRH:=hid (show RatI wh h (An,Ad)by rw[hwh,hh];exact RatI.made wr (An,Ad))
   have HBH:=hid (zAA HBT.out hbh)
   have HWR:=hid hbh
   clear q0 q1 i1 hh hwh hbh
   refine zAF (fun _ _=>True) (by kernel_rfl) ?_
   obtain⟨wd,hwd⟩:=exq (wh.drew)
   have hbd:Below wh.heap.size wh wd:=by rw[hwd];exact(Below.refl _ _).drew
   rw[<- hwd]
   have HWH:=hid hbd
   have HWD:=hid (zAA HBH.out hbd)
   have HWB:=hid (zAA HWR.out hbd)
   clear hbd hwd
   refine zDU fun a0 ha0=>?_
   have hsz:a0.tmps.size=53:=by rw[ha0];rfl
   have v1:a0.eval (.tmp 1)=.slice (some ⟨yb,yo,none⟩) n2 cap2:=by rw[ha0];rfl
   have v7:a0.eval (.tmp 7)=.int .i64 (t:Nat):=by rw[ha0];rfl
   have v8:a0.eval (.tmp 8)=.pointer (some ⟨h,0,none⟩):=by rw[ha0];rfl
   have HA0:=hid ha0
   clear ha0
   refine AnyT.regF [32,33,34,35,36,37,38,39,40,41,31,42,43,9,10] (fun l f W=>(l 0=true->f 32=Z0)∧(l 1=true->f 33=.agg #[.int .i64 An,.int .i64 Ad])∧(l 2=true->f 34=V1)∧(l 3=true->f 35=.slice (some ⟨yb,yo,none⟩) n2 cap2)∧(l 4=true->f 36=.int .i64 (t:Nat))∧(l 5=true->f 37=.pointer (some ⟨yb,yo+t*2,none⟩))∧(l 6=true->f 38=.agg #[.int .i64 Bn,.int .i64 Bd])∧(l 7=true->f 39=V2)∧(l 8=true->f 40=V3)∧(l 9=true->f 41=.tuple #[.agg #[.int .i64 en,.int .i64 ed],.int .i64 ee])∧(l 10=true->f 31=.tuple #[.agg #[.int .i64 en,.int .i64 ed],.int .i64 ee])∧(l 11=true->f 42=.agg #[.int .i64 en,.int .i64 ed])∧(l 12=true->f 43=.int .i64 ee)∧(l 15=true->f 10=.int .i64 ee)∧(Below wd.heap.size wd W)∧(l 13=true->∃g,f 9=.pointer (some ⟨g,0,none⟩)∧wd.heap.size<=g∧RatI W g (if l 14=true then(en,ed)else(0,0)))∧(l 14=true->l 13=true)) (by kernel_rfl) (by kernel_rfl) ?_ ?_ ?_
   ·have egZ:∀args w,(callFunc 95 args).run Tryz.prog w=.ok (.enter 95 args) w:=enters_of Tryz.func95 (by kernel_rfl) rfl
    have egP:∀args w,(callFunc 96 args).run Tryz.prog w=.ok (.enter 96 args) w:=enters_of Tryz.func96 (by kernel_rfl) rfl
    have egH:∀args w,(callFunc 97 args).run Tryz.prog w=.ok (.enter 97 args) w:=enters_of Tryz.func97 (by kernel_rfl) rfl
    have egL:∀args w,(callFunc 89 args).run Tryz.prog w=.ok (.enter 89 args) w:=enters_of Tryz.func89 (by kernel_rfl) rfl
    rintro l f W i o ho hi hd ⟨h0,h1,h2,h3,h4,h5,h6,h7,h8,h9,h10,h11,h12,h15,hS,hG,i14⟩
    have e32:zAE a0 [32,33,34,35,36,37,38,39,40,41,31,42,43,9,10] f (.tmp 32)=f 32:=by simp[zAE,hsz]
    have e33:zAE a0 [32,33,34,35,36,37,38,39,40,41,31,42,43,9,10] f (.tmp 33)=f 33:=by simp[zAE,hsz]
    have e34:zAE a0 [32,33,34,35,36,37,38,39,40,41,31,42,43,9,10] f (.tmp 34)=f 34:=by simp[zAE,hsz]
    have e35:zAE a0 [32,33,34,35,36,37,38,39,40,41,31,42,43,9,10] f (.tmp 35)=f 35:=by simp[zAE,hsz]
    have e36:zAE a0 [32,33,34,35,36,37,38,39,40,41,31,42,43,9,10] f (.tmp 36)=f 36:=by simp[zAE,hsz]
    have e37:zAE a0 [32,33,34,35,36,37,38,39,40,41,31,42,43,9,10] f (.tmp 37)=f 37:=by simp[zAE,hsz]
    have e38:zAE a0 [32,33,34,35,36,37,38,39,40,41,31,42,43,9,10] f (.tmp 38)=f 38:=by simp[zAE,hsz]
    have e39:zAE a0 [32,33,34,35,36,37,38,39,40,41,31,42,43,9,10] f (.tmp 39)=f 39:=by simp[zAE,hsz]
    have e40:zAE a0 [32,33,34,35,36,37,38,39,40,41,31,42,43,9,10] f (.tmp 40)=f 40:=by simp[zAE,hsz]
    have e41:zAE a0 [32,33,34,35,36,37,38,39,40,41,31,42,43,9,10] f (.tmp 41)=f 41:=by simp[zAE,hsz]
    have e31:zAE a0 [32,33,34,35,36,37,38,39,40,41,31,42,43,9,10] f (.tmp 31)=f 31:=by simp[zAE,hsz]
    have e42:zAE a0 [32,33,34,35,36,37,38,39,40,41,31,42,43,9,10] f (.tmp 42)=f 42:=by simp[zAE,hsz]
    have e43:zAE a0 [32,33,34,35,36,37,38,39,40,41,31,42,43,9,10] f (.tmp 43)=f 43:=by simp[zAE,hsz]
    have e9:zAE a0 [32,33,34,35,36,37,38,39,40,41,31,42,43,9,10] f (.tmp 9)=f 9:=by simp[zAE,hsz]
    have e10:zAE a0 [32,33,34,35,36,37,38,39,40,41,31,42,43,9,10] f (.tmp 10)=f 10:=by simp[zAE,hsz]
    have w1:zAE a0 [32,33,34,35,36,37,38,39,40,41,31,42,43,9,10] f (.tmp 1)=.slice (some ⟨yb,yo,none⟩) n2 cap2:=by simp[zAE,v1]
    have w7:zAE a0 [32,33,34,35,36,37,38,39,40,41,31,42,43,9,10] f (.tmp 7)=.int .i64 (t:Nat):=by simp[zAE,v7]
    have w8:zAE a0 [32,33,34,35,36,37,38,39,40,41,31,42,43,9,10] f (.tmp 8)=.pointer (some ⟨h,0,none⟩):=by simp[zAE,v8]
    have eFZ:zAE a0 [32,33,34,35,36,37,38,39,40,41,31,42,43,9,10] f (.func 95)=.func (.func 95) #[] #[]:=rfl
    have eFP:zAE a0 [32,33,34,35,36,37,38,39,40,41,31,42,43,9,10] f (.func 96)=.func (.func 96) #[] #[]:=rfl
    have eFH:zAE a0 [32,33,34,35,36,37,38,39,40,41,31,42,43,9,10] f (.func 97)=.func (.func 97) #[] #[]:=rfl
    have eFL:zAE a0 [32,33,34,35,36,37,38,39,40,41,31,42,43,9,10] f (.func 89)=.func (.func 89) #[] #[]:=rfl
    have ec1:zAE a0 [32,33,34,35,36,37,38,39,40,41,31,42,43,9,10] f (.const (.int .i64 1))=.int .i64 1:=rfl
    rcases i with _|_|_|_|_|_|_|_|_|_|_|_|_|_|_|_|i
    ·replace ho:=Option.some.inj ho
     subst ho
     refine zAO.call (g:=95) (args:=#[]) (w':=W) rfl (by simp[execOp,resolve,invoke,go_sem,eFZ,egZ]) ((HZ.out W).mono ?_)
     rintro e' w4 ⟨rfl,hb4⟩
     exact⟨_,rfl,fun _=>rfl,h1,h2,h3,h4,h5,h6,h7,h8,h9,h10,h11,h12,h15,zAA hS hb4,fun q=>by obtain⟨g,q1,q2,q3⟩:=hG q;exact⟨g,q1,q2,q3.keep (hb4.block _ q3.lt)⟩,i14⟩
    ·replace ho:=Option.some.inj ho
     subst ho
     obtain⟨y0,y1,_⟩:=(HRH.out.keep ((zAA HWH.out hS).block _ HRH.out.lt)).cells
     simp only[]at y0 y1
     refine zAO.val (w':=W) (v:=.agg #[.int .i64 An,.int .i64 Ad]) rfl (by go_simp) ⟨h0,fun _=>rfl,h2,h3,h4,h5,h6,h7,h8,h9,h10,h11,h12,h15,hS,hG,i14⟩
    ·replace ho:=Option.some.inj ho
     subst ho
     have k0:=h0 (hd {on:=0,ground:=.data} (by simp) (by kernel_rfl))
     rw[k0]at e32
     have k1:=h1 (hd {on:=1,ground:=.data} (by simp) (by kernel_rfl))
     rw[k1]at e33
     refine zAO.call (g:=96) (args:=#[Z0,.agg #[.int .i64 An,.int .i64 Ad],.int .i64 1]) (w':=W) rfl (by simp[execOp,resolve,invoke,go_sem,e32,e33,ec1,eFP,egP]) ((HP1.out W).mono ?_)
     rintro e' w4 ⟨rfl,hb4⟩
     exact⟨_,rfl,h0,h1,fun _=>rfl,h3,h4,h5,h6,h7,h8,h9,h10,h11,h12,h15,zAA hS hb4,fun q=>by obtain⟨g,q1,q2,q3⟩:=hG q;exact⟨g,q1,q2,q3.keep (hb4.block _ q3.lt)⟩,i14⟩
    ·replace ho:=Option.some.inj ho
     subst ho
     refine zAO.val (w':=W) (v:=.slice (some ⟨yb,yo,none⟩) n2 cap2) rfl (by go_simp) ⟨h0,h1,h2,fun _=>rfl,h4,h5,h6,h7,h8,h9,h10,h11,h12,h15,hS,hG,i14⟩
    ·replace ho:=Option.some.inj ho
     subst ho
     refine zAO.val (w':=W) (v:=.int .i64 (t:Nat)) rfl (by go_simp) ⟨h0,h1,h2,h3,fun _=>rfl,h5,h6,h7,h8,h9,h10,h11,h12,h15,hS,hG,i14⟩
    ·replace ho:=Option.some.inj ho
     subst ho
     have k3:=h3 (hd {on:=3,ground:=.data} (by simp) (by kernel_rfl))
     rw[k3]at e35
     have k4:=h4 (hd {on:=4,ground:=.data} (by simp) (by kernel_rfl))
     rw[k4]at e36
     have hi1:=HIT.out.1
     have hi2:=HIT.out.2
     refine zAO.val (w':=W) (v:=.pointer (some ⟨yb,yo+t*2,none⟩)) rfl (by go_simp) ⟨h0,h1,h2,h3,h4,fun _=>rfl,h6,h7,h8,h9,h10,h11,h12,h15,hS,hG,i14⟩
    ·replace ho:=Option.some.inj ho
     subst ho
     have k5:=h5 (hd {on:=5,ground:=.data} (by simp) (by kernel_rfl))
     rw[k5]at e37
     obtain⟨y0,y1⟩:=HCE.out W (zAA HWD.out hS)
     refine zAO.val (w':=W) (v:=.agg #[.int .i64 Bn,.int .i64 Bd]) rfl (by go_simp) ⟨h0,h1,h2,h3,h4,h5,fun _=>rfl,h7,h8,h9,h10,h11,h12,h15,hS,hG,i14⟩
    ·replace ho:=Option.some.inj ho
     subst ho
     have k2:=h2 (hd {on:=2,ground:=.data} (by simp) (by kernel_rfl))
     rw[k2]at e34
     have k6:=h6 (hd {on:=6,ground:=.data} (by simp) (by kernel_rfl))
     rw[k6]at e38
     refine zAO.call (g:=96) (args:=#[V1,.agg #[.int .i64 Bn,.int .i64 Bd],.int .i64 1]) (w':=W) rfl (by simp[execOp,resolve,invoke,go_sem,e34,e38,ec1,eFP,egP]) ((HP2.out W).mono ?_)
     rintro e' w4 ⟨rfl,hb4⟩
     exact⟨_,rfl,h0,h1,h2,h3,h4,h5,h6,fun _=>rfl,h8,h9,h10,h11,h12,h15,zAA hS hb4,fun q=>by obtain⟨g,q1,q2,q3⟩:=hG q;exact⟨g,q1,q2,q3.keep (hb4.block _ q3.lt)⟩,i14⟩
    ·replace ho:=Option.some.inj ho
     subst ho
     have k7:=h7 (hd {on:=7,ground:=.data} (by simp) (by kernel_rfl))
     rw[k7]at e39
     refine zAO.call (g:=97) (args:=#[V2]) (w':=W) rfl (by simp[execOp,resolve,invoke,go_sem,e39,eFH,egH]) ((HHV.out W).mono ?_)
     rintro e' w4 ⟨rfl,hb4⟩
     exact⟨_,rfl,h0,h1,h2,h3,h4,h5,h6,h7,fun _=>rfl,h9,h10,h11,h12,h15,zAA hS hb4,fun q=>by obtain⟨g,q1,q2,q3⟩:=hG q;exact⟨g,q1,q2,q3.keep (hb4.block _ q3.lt)⟩,i14⟩
    ·replace ho:=Option.some.inj ho
     subst ho
     have k8:=h8 (hd {on:=8,ground:=.data} (by simp) (by kernel_rfl))
     rw[k8]at e40
     refine zAO.call (g:=89) (args:=#[V3]) (w':=W) rfl (by simp[execOp,resolve,invoke,go_sem,e40,eFL,egL]) ((HLM.out W).mono ?_)
     rintro e' w4 ⟨rfl,hb4⟩
     exact⟨_,rfl,h0,h1,h2,h3,h4,h5,h6,h7,h8,fun _=>rfl,h10,h11,h12,h15,zAA hS hb4,fun q=>by obtain⟨g,q1,q2,q3⟩:=hG q;exact⟨g,q1,q2,q3.keep (hb4.block _ q3.lt)⟩,i14⟩
    ·replace ho:=Option.some.inj ho
     subst ho
     have k9:=h9 (hd {on:=9,ground:=.data} (by simp) (by kernel_rfl))
     rw[k9]at e41
     refine zAO.val (w':=W) (v:=.tuple #[.agg #[.int .i64 en,.int .i64 ed],.int .i64 ee]) rfl (by go_simp) ⟨h0,h1,h2,h3,h4,h5,h6,h7,h8,h9,fun _=>rfl,h11,h12,h15,hS,hG,i14⟩
    ·replace ho:=Option.some.inj ho
     subst ho
     have k10:=h10 (hd {on:=10,ground:=.data} (by simp) (by kernel_rfl))
     rw[k10]at e31
     refine zAO.val (w':=W) (v:=.agg #[.int .i64 en,.int .i64 ed]) rfl (by go_simp) ⟨h0,h1,h2,h3,h4,h5,h6,h7,h8,h9,h10,fun _=>rfl,h12,h15,hS,hG,i14⟩
    ·replace ho:=Option.some.inj ho
     subst ho
     have k10:=h10 (hd {on:=10,ground:=.data} (by simp) (by kernel_rfl))
     rw[k10]at e31
     refine zAO.val (w':=W) (v:=.int .i64 ee) rfl (by go_simp) ⟨h0,h1,h2,h3,h4,h5,h6,h7,h8,h9,h10,h11,fun _=>rfl,h15,hS,hG,i14⟩
    ·replace ho:=Option.some.inj ho
     subst ho
     have l14:l 14=false:=by
      cases h:l 14 with
      |false=>rfl
      |true=>rw[i14 h]at hi;cases hi
     refine zAO.val (w':=W.alloc (.cells #[.int .i64 0,.int .i64 0] 29)) (v:=.pointer (some ⟨W.heap.size,0,none⟩)) rfl (by go_simp) ⟨h0,h1,h2,h3,h4,h5,h6,h7,h8,h9,h10,h11,h12,h15,hS.alloc hS.size _,fun _=>⟨W.heap.size,rfl,hS.size,by show RatI _ _ (if l 14=true then(en,ed)else(0,0));rw[l14];exact RatI.made W (0,0)⟩,fun _=>rfl⟩
    ·replace ho:=Option.some.inj ho
     subst ho
     have k11:=h11 (hd {on:=11,ground:=.data} (by simp) (by kernel_rfl))
     rw[k11]at e42
     obtain⟨g,hg,hgl,hgr⟩:=hG (hd {on:=13,ground:=.data} (by simp) (by kernel_rfl))
     rw[hi]at hgr
     have hgr':RatI W g (0,0):=hgr
     obtain⟨r0,r1,r2,r3,r4⟩:=hgr'.cells
     have hst:=RatI.set (p:=(en,ed)) hgr'
     have hb2:=(zBJ W g (.int .i64 en) (.int .i64 ed)).below hS hS.size (fun k hk=>by show k≠g;omega)
     rw[hg]at e9
     refine zAO.skip (w':=(W.setCell ⟨g,0,none⟩ (.int .i64 en)).setCell ⟨g,1,none⟩ (.int .i64 ed)) rfl (by go_simp) ⟨h0,h1,h2,h3,h4,h5,h6,h7,h8,h9,h10,h11,h12,h15,hb2,fun _=>⟨g,hg,hgl,hst⟩,fun _=>hd {on:=13,ground:=.data} (by simp) (by kernel_rfl)⟩
    ·replace ho:=Option.some.inj ho
     subst ho
     have k12:=h12 (hd {on:=12,ground:=.data} (by simp) (by kernel_rfl))
     rw[k12]at e43
     refine zAO.val (w':=W) (v:=.int .i64 ee) rfl (by go_simp) ⟨h0,h1,h2,h3,h4,h5,h6,h7,h8,h9,h10,h11,h12,fun _=>rfl,hS,hG,i14⟩
    ·exact absurd ho (by simp)
   ·rintro l f W hall ⟨h0,h1,h2,h3,h4,h5,h6,h7,h8,h9,h10,h11,h12,h15,hS,hG,i14⟩
    have f10:=h15 (hall 15 (by decide))
    obtain⟨g,f9,hgl,hgr⟩:=hG (hall 13 (by decide))
    rw[hall 14 (by decide)]at hgr
    have HGR:=hid (show RatI W g (en,ed)from hgr)
    have HSW:=hid (zAA HWD.out hS)
    have HSB:=hid (zAA HWB.out hS)
    clear h0 h1 h2 h3 h4 h5 h6 h7 h8 h9 h10 h11 h12 h15 hS hG i14 hall hgr hgl
    rw[HA0.out]
    simp only[zDG,List.foldl_cons,List.foldl_nil,Act.put,List.setIfInBounds_toArray,List.set_cons_succ,List.set_cons_zero]
    rw[f9,f10]
    generalize f 32=z32,f 33=z33,f 34=z34,f 35=z35,f 36=z36,f 37=z37,f 38=z38,f 39=z39,f 40=z40,f 41=z41,f 31=z31,f 42=z42,f 43=z43
    clear f9 f10 hsz v1 v7 v8 HA0
    have HSM:=hid (HSW.out.size)
    by_cases hv:zAH (en,ed)=true
    ·obtain rfl:ee=0:=HE0.out hv
     have HOK2:=hid (show ∀q,q<t+1->zAH (zBZ (zAB x q) (zAB y q))=true from fun q hq=>by
      rcases Nat.lt_or_ge q t with h|h
      ·exact HOK.out q h
      ·obtain rfl:q=t:=by omega
       rw[<- HE1.out hv];exact hv)
     have HSN:=hid (show zAM ((List.zipWith zBZ x y).take (t+1))=zAM ((List.zipWith zBZ x y).take t)++zBC (en,ed)by rw[HTK.out,HE1.out hv,zGQ])
     have HO:=hid (zBI HOWN.out HSB.out)
     have M1:=hid (show t+1<=maxLen by have:=HTS.out;unfold maxLen;omega)
     have M2:=hid (show(t+1)*16<=140737488355328 by have:=HTS.out;omega)
     have M3:=hid (Nat.le_trans HSM.out (zCH W (.cells #[.int .i64 en,.int .i64 ed] 29)))
     obtain⟨g0,g1,_⟩:=HGR.out.cells
     simp only[]at g0 g1
     clear hv
     go_wp2_with (at_builtin;refine zAQ _ rfl (.tmp 47) (.tmp 49) 42 rfl w.heap.size 29 (.agg #[.int .i64 0,.int .i64 0]) 2 16 Tryz.underlying42 zHH rfl (by decide) (.slice va t vc) t _ rfl (HO.out.alloc _) (some ⟨W.heap.size,0,none⟩) 1 1 (zBC (en,ed)) rfl rfl zCD (zPA W (en,ed) _) (zMF _) M1.out M2.out M3.out ?_;refine Stop.of ?_)
     refine Stop.go ?_
     intro a3 c3 w3 own3 g3
     have hB3:Below w.heap.size w w3:=(HSW.out.alloc HSM.out _).grown g3 M3.out (fun k hk=>(HO.out.lt k hk).1)
     have hts:=HTS.out
     go_wp2
     refine⟨⟨t+1,HTL.out,by go_num,HOK2,?_,hB3⟩,by have:=HTL.out;simp[intOf];omega⟩
     unfold zCR
     rw[HLN.out _ HTL.out,HSN.out]
     exact own3
    ·obtain rfl:ee=4:=HE4.out (by simpa using hv)
     have HMX:=hid (HNO.out t HTL.out (HE6.out hv))
     clear hv
     go_wp2
     go_ret2
     exact⟨⟨none,0,by rw[HMX.out];rfl,by rw[HMX.out];exact fun j hj=>by simp at hj⟩,HSW.out⟩
   ·intro l f hl
    refine⟨?_,?_,?_,?_,?_,?_,?_,?_,?_,?_,?_,?_,?_,?_,Below.refl _ _,(fun h=>by rw[hl _ (by decide)]at h;cases h),(fun h=>by rw[hl _ (by decide)]at h;cases h)⟩
    ·intro h;rw[hl _ (by decide)]at h;cases h
    ·intro h;rw[hl _ (by decide)]at h;cases h
    ·intro h;rw[hl _ (by decide)]at h;cases h
    ·intro h;rw[hl _ (by decide)]at h;cases h
    ·intro h;rw[hl _ (by decide)]at h;cases h
    ·intro h;rw[hl _ (by decide)]at h;cases h
    ·intro h;rw[hl _ (by decide)]at h;cases h
    ·intro h;rw[hl _ (by decide)]at h;cases h
    ·intro h;rw[hl _ (by decide)]at h;cases h
    ·intro h;rw[hl _ (by decide)]at h;cases h
    ·intro h;rw[hl _ (by decide)]at h;cases h
    ·intro h;rw[hl _ (by decide)]at h;cases h
    ·intro h;rw[hl _ (by decide)]at h;cases h
    ·intro h;rw[hl _ (by decide)]at h;cases h
  ·obtain rfl:t=n:=by omega
   have HALL:=hid (HYES.out HOK.out)
   have hzl:(List.zipWith zBZ x y).length=t:=by rw[List.length_zipWith,HNX.out,HNY.out];omega
   rw[List.take_of_length_le (by omega)]at hown
   obtain⟨va,vc,rfl,_,hra⟩:=zCR.reads hown
   have HRA:=hid hra
   have HZL:=hid hzl
   have HBT:=hid hbt
   rw[hzl]
   clear hown hra hzl hbt
   go_wp2
   go_ret2
   exact⟨⟨va,vc,by rw[HALL.out];show _=Ending.returned (.tuple #[.slice va (List.zipWith zBZ x y).length vc,.int .i64 0]);rw[HZL.out];rfl,by rw[HALL.out];exact HRA.out⟩,HBT.out⟩
end
section
open Go.RowKit
def cornN(M:Mask)(y:List Int):Nat:=if (valE M y).2=0 then(zKH M y).length else 0
theorem zOL(M:Mask)(y:List Int):(valE M y).2≠0->cornN M y=0:=fun h=>by unfold cornN;rw[if_neg h]
theorem val_of_err{M:Mask}{Y:List Int}(h:zAU M Y []≠0):valE M Y=((0,0),zAU M Y []):=by unfold valE;rw[if_pos h]
theorem val_of_none{M:Mask}{Y:List Int}(h:zAU M Y []=0)(h1:zBM M Y 10=[]):valE M Y=((0,0),10):=by unfold valE;rw[if_neg (fun k=>k h),if_pos h1]
theorem val_of_ok{M:Mask}{Y:List Int}(h:zAU M Y []=0)(h1:¬zBM M Y 10=[]):valE M Y=(valF M Y,0):=by unfold valE;rw[if_neg (fun k=>k h),if_neg h1]
theorem dunique_c(w:World)(a a2:Option Addr)(n cap n2 cap2:Nat)(M:Mask)(Y:List Int)(hn:M.length=n)(hn2:Y.length=n2)(hm:n<=maxLen)(hm2:n2<=maxLen)(H:zAN w a M)(H2:zAI w a2 Y):
 Calls Tryz.prog 39 #[.slice a n cap,.slice a2 n2 cap2] w fun e w'=>e=.returned (.tuple #[.bool (decide (cornN M Y=1)),.int .i64 (valE M Y).2])∧Below w.heap.size w w':=by
 obtain⟨K,hK⟩:=exq (cornN M Y)
 obtain⟨F,hF⟩:=exq ((valE M Y).2)
 have HAS:=hid (show Calls Tryz.prog 73 #[.slice a n cap,.slice a2 n2 cap2] w fun e w'=>(∃p1 p2 p3 q1 q2 q3 s1 s3,∃r1 r2:Int,e=.returned (.tuple #[.agg #[.slice p1 p2 p3,.slice q1 q2 q3,.int .i64 r1,.int .i64 r2,.slice s1 K s3],.int .i64 F]))∧Below w.heap.size w w' from by
  refine(zPS w a a2 n cap n2 cap2 M Y hn hn2 hm hm2 H H2).mono ?_
  rintro e w' ⟨hb,⟨h0,he⟩|⟨h0,h1,he⟩|⟨h0,h1,ca,c,he,_⟩⟩
  ·have hv:=val_of_err h0
   have k0:K=0:=by rw[hK];exact zOL _ _ (by rw[hv];exact h0)
   have f0:F=zAU M Y []:=by rw[hF,hv]
   exact⟨⟨_,_,_,_,_,_,_,_,_,_,by rw[he,k0,f0]⟩,hb⟩
  ·have hv:=val_of_none h0 h1
   have k0:K=0:=by rw[hK];exact zOL _ _ (by rw[hv];decide)
   have f0:F=10:=by rw[hF,hv]
   exact⟨⟨_,_,_,_,_,_,_,_,_,_,by rw[he,k0,f0]⟩,hb⟩
  ·have hv:=val_of_ok h0 h1
   have k0:K=(zKH M Y).length:=by rw[hK];unfold cornN;rw[if_pos (by rw[hv])]
   have f0:F=0:=by rw[hF,hv]
   exact⟨⟨_,_,_,_,_,_,_,_,_,_,by rw[he,k0,f0]⟩,hb⟩)
 rw[<- hK,<- hF]
 clear hn hn2 H H2 hK hF
 go_enter Tryz.func39,Tryz.ntmps39
 go_upto_region 2 with (go_at_call 73;refine HAS.out.mono ?_;rintro e w1 ⟨⟨p1,p2,p3,q1,q2,q3,s1,s3,r1,r2,rfl⟩,hb1⟩;have HB1:=hid hb1;clear hb1;refine Stop.of ?_)
 refine Stop.go ?_
 go_upto_region 2 with fail
 obtain⟨ab,hab⟩:=exq (w1.heap.size)
 obtain⟨wa,hwa⟩:=exq (w1.alloc (.cells #[.slice p1 p2 p3,.slice q1 q2 q3,.int .i64 r1,.int .i64 r2,.slice s1 K s3] 89))
 rw[<- hab,<- hwa]
 have A0:AnsB wa ab (.slice p1 p2 p3) (.slice q1 q2 q3) (r1,r2) (.slice s1 K s3):=by rw[hwa,hab];exact World.alloc_heap_new _ _
 have HBA:=hid (show Below w.heap.size w wa by rw[hwa];exact HB1.out.alloc HB1.out.size _)
 obtain⟨_,_,_,_,c4,_⟩:=A0.cells
 clear A0 hwa hab
 by_cases h1:K=1
 ·have i1:((K:Int)==1)=true:=by simp;omega
  have i2:(K:Int)=1:=by omega
  go_wp2
  go_ret2
  exact⟨by simp[h1,i1,i2],HBA.out⟩
 ·have i1:((K:Int)==1)=false:=by simp;omega
  have i2:¬(K:Int)=1:=by omega
  go_wp2
  go_ret2
  exact⟨by simp[h1,i1,i2],HBA.out⟩
end
end Go.Proofs.YtlffndehhhpgjaaGreat

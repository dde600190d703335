/- Walks and plain laws for DualNormsRow, part 13. -/
import Derived.Test.YtlffndehhhpgjaaGreatPkDualNormsRow12
namespace Go.Proofs.YtlffndehhhpgjaaGreat
set_option linter.unusedVariables false
set_option linter.unusedSimpArgs false
set_option maxRecDepth 100000
set_option maxHeartbeats 4000000
section
open Go.RowKit
theorem low_norm{x:List Rt}(h:x.all zAC=true):lowE (zFO x).1 (zFO x).2=(if zAC (zAK (nrmQ x).1 (nrmQ x).2)=true then(zAK (nrmQ x).1 (nrmQ x).2,true)else((0,0),false))∧0<(zFO x).2:=by
 have hp:=all_pos h
 obtain⟨e,h1⟩:=nrmSQ_Q hp
 have h2:=(zIM hp x.length).1
 have e2:zAK (zFO x).1 (zFO x).2=zAK (nrmQ x).1 (nrmQ x).2:=zEH h1 h2 e
 exact⟨by unfold lowE;rw[e2],h1⟩
theorem r5Norm_c(w:World)(a:Option Addr)(n cap:Nat)(x:List Rt)(hn:x.length=n)(hm:n<=maxLen)(H:zAX w a x):
 Calls Tryz.prog 32 #[.slice a n cap] w fun e w'=>e=.returned (.tuple #[ratV (zFP x).1,.int .i64 (zFP x).2])∧Below w.heap.size w w':=by
 obtain⟨s,hs⟩:=exq (w.heap.size)
 obtain⟨wz,hwz⟩:=exq (w.alloc (.cells #[.int .i64 0,.int .i64 0] 29))
 have hbz:Below w.heap.size w wz:=by rw[hwz];exact(Below.refl _ _).alloc (Nat.le_refl _) _
 have qa:RatI wz s (0,0):=by rw[hwz,hs];exact RatI.made w (0,0)
 have HQ:=hid (fun(Z:World) (hZ:Below wz.heap.size wz Z)=>qa.keep (hZ.block _ qa.lt))
 have HBZ:=hid hbz
 have HSW:=hid (show w.heap.size<=s by omega)
 have HCN:=hid (zFE wz a n cap x hn hm (H.below hbz))
 obtain⟨E,hE⟩:=exq (zFP x)
 rw[<- hE]
 have HWI:=hid (fun(X:World)=>r5within_c (n:Int) 1 10 X)
 by_cases c1:x.all zAC=true
 rotate_left
 ·have c1':x.all zAC=false:=by simpa using c1
  have HR:=hid (show E=((0,0),1)by rw[hE];unfold zFP;rw[if_neg c1])
  rw[c1']at HCN
  clear hn H hE c1 c1' hbz qa
  go_enter Tryz.func32,Tryz.ntmps32
  go_upto_region 1 with fail
  rw[<- hs,<- hwz]
  clear hs hwz
  go_upto_region 2 with (go_at_call 85;refine HCN.out.mono ?_;rintro e w2 ⟨rfl,hb2⟩;have HB2:=hid hb2;clear hb2;refine Stop.of ?_)
  refine Stop.go ?_
  have hR2:=HQ.out _ HB2.out
  obtain⟨r0,r1,r2,r3,r4⟩:=hR2.cells
  have X1:=hid (RatI.set (p:=(0,0)) hR2)
  have X2:=hid (zDW (zAA HBZ.out HB2.out) HSW.out (.int .i64 0) (.int .i64 0))
  clear hR2
  go_wp2
  clear r0 r1 r2 r3 r4
  generalize (w2.setCell ⟨s,0,none⟩ (.int .i64 0)).setCell ⟨s,1,none⟩ (.int .i64 0)=WF at X1 X2⊢
  obtain⟨t0,t1,t2,t3,t4⟩:=X1.out.cells
  refine bodyPost_ret (v:=.tuple #[.agg #[.int .i64 0,.int .i64 0],.int .i64 1]) ?_ rfl ⟨by rw[HR.out];rfl,X2.out⟩
  simp[results,Tryz.results32,go_sem,t0,t1,t2,t3,t4]
 rw[c1]at HCN
 by_cases c2:1<=n∧n<=10
 rotate_left
 ·have c2':inB (n:Int) 1 10=false:=by
   unfold inB
   rw[Bool.eq_false_iff]
   intro h
   simp only[Bool.and_eq_true,decide_eq_true_eq]at h
   omega
  have HR:=hid (show E=((0,0),9)by rw[hE];unfold zFP;rw[if_pos c1,if_neg (by rw[hn];exact c2)])
  rw[c2']at HWI
  clear hn H hE c1 c2 c2' hbz qa
  go_enter Tryz.func32,Tryz.ntmps32
  go_upto_region 1 with fail
  rw[<- hs,<- hwz]
  clear hs hwz
  go_upto_region 3 with (go_at_call 85;refine HCN.out.mono ?_;rintro e w2 ⟨rfl,hb2⟩;have HB2:=hid hb2;clear hb2;refine Stop.of ?_)
  refine Stop.go ?_
  go_upto_region 4 with (go_at_call 93;refine(HWI.out _).mono ?_;rintro e w3 ⟨rfl,rfl⟩;refine Stop.of ?_)
  refine Stop.go ?_
  have hR2:=HQ.out _ HB2.out
  obtain⟨r0,r1,r2,r3,r4⟩:=hR2.cells
  have X1:=hid (RatI.set (p:=(0,0)) hR2)
  have X2:=hid (zDW (zAA HBZ.out HB2.out) HSW.out (.int .i64 0) (.int .i64 0))
  clear hR2
  go_wp2
  clear r0 r1 r2 r3 r4
  generalize (w2.setCell ⟨s,0,none⟩ (.int .i64 0)).setCell ⟨s,1,none⟩ (.int .i64 0)=WF at X1 X2⊢
  obtain⟨t0,t1,t2,t3,t4⟩:=X1.out.cells
  refine bodyPost_ret (v:=.tuple #[.agg #[.int .i64 0,.int .i64 0],.int .i64 9]) ?_ rfl ⟨by rw[HR.out];rfl,X2.out⟩
  simp[results,Tryz.results32,go_sem,t0,t1,t2,t3,t4]
 have c2':inB (n:Int) 1 10=true:=by
  unfold inB
  simp only[Bool.and_eq_true,decide_eq_true_eq]
  omega
 rw[c2']at HWI
 have hxv:=zDR c1
 have HNX:=hid (fun(Z:World) (hZ:Below w.heap.size w Z)=>r5norm_c Z a n cap x hn c2.2 (H.below hZ) (fun j=>by obtain⟨x1,x2,x3,x4⟩:=hxv j;omega))
 obtain⟨hlow,hpos⟩:=low_norm c1
 have HLO:=hid (fun(Z:World) (v:Value) (hv:RatV Z v 90 (zFO x).1 (zFO x).2)=>lowest_v Z v 90 _ _ hv (by omega) hpos)
 rw[hlow]at HLO
 have hEv:E=if zAC (zAK (nrmQ x).1 (nrmQ x).2)=true then(zAK (nrmQ x).1 (nrmQ x).2,0)else((0,0),4):=by
  rw[hE];unfold zFP;rw[if_pos c1,if_pos (by rw[hn];exact c2)]
 obtain⟨r,hr⟩:=exq (zAK (nrmQ x).1 (nrmQ x).2)
 rw[<- hr]at hEv HLO
 by_cases hv:zAC r=true
 ·have HR:=hid (show E=(r,0)by rw[hEv,if_pos hv])
  rw[if_pos hv]at HLO
  obtain⟨r1,r2⟩:=r
  simp only[ratV]at HLO
  clear hn H hE c1 c2 c2' hbz qa hxv hlow hpos hEv hr hv
  go_enter Tryz.func32,Tryz.ntmps32
  go_upto_region 1 with fail
  rw[<- hs,<- hwz]
  clear hs hwz
  go_upto_region 3 with (go_at_call 85;refine HCN.out.mono ?_;rintro e w2 ⟨rfl,hb2⟩;have HB2:=hid hb2;clear hb2;refine Stop.of ?_)
  refine Stop.go ?_
  go_upto_region 5 with (go_at_call 93;refine(HWI.out _).mono ?_;rintro e w3 ⟨rfl,rfl⟩;refine Stop.of ?_)
  refine Stop.go ?_
  go_upto_region 6 with (go_at_call 87;refine(HNX.out _ (zAA HBZ.out HB2.out)).mono ?_;rintro e w4 ⟨v4,rfl,hv4,hb4⟩;refine Stop.of ?_)
  refine Stop.go ?_
  obtain⟨ps,pa',pk,pc',pb,pm,pe,rfl,_⟩:=hv4.agg
  have HB4:=hid (zAA HB2.out hb4)
  have HL:=hid (HLO.out _ _ hv4)
  clear hv4 hb4
  go_upto_region 6 with (go_at_call 94;refine HL.out.mono ?_;rintro e w5 ⟨rfl,hb5⟩;have HB5:=hid (zAA HB4.out hb5);clear hb5;refine Stop.of ?_)
  refine Stop.go ?_
  go_upto_region 6 with fail
  obtain⟨g,hg⟩:=exq (w5.heap.size)
  obtain⟨w6,hw6⟩:=exq (w5.alloc (.cells #[.int .i64 r1,.int .i64 r2] 29))
  rw[<- hg,<- hw6]
  have hg6:RatI w6 g (r1,r2):=by rw[hw6,hg];exact RatI.made w5 (r1,r2)
  have hb6:Below wz.heap.size wz w6:=by rw[hw6];exact HB5.out.alloc HB5.out.size _
  have HB6:=hid hb6
  obtain⟨g0,g1,_⟩:=hg6.cells
  simp only[]at g0 g1
  have hR2:=HQ.out _ HB6.out
  obtain⟨s0,s1,s2,s3,s4⟩:=hR2.cells
  have X1:=hid (RatI.set (p:=(r1,r2)) hR2)
  have X2:=hid (zDW (zAA HBZ.out HB6.out) HSW.out (.int .i64 r1) (.int .i64 r2))
  clear hR2 hg hw6 hg6 hb6
  go_wp2
  clear s0 s1 s2 s3 s4 g0 g1
  generalize (w6.setCell ⟨s,0,none⟩ (.int .i64 r1)).setCell ⟨s,1,none⟩ (.int .i64 r2)=WF at X1 X2⊢
  obtain⟨t0,t1,t2,t3,t4⟩:=X1.out.cells
  refine bodyPost_ret (v:=.tuple #[.agg #[.int .i64 r1,.int .i64 r2],.int .i64 0]) ?_ rfl ⟨by rw[HR.out];rfl,X2.out⟩
  simp[results,Tryz.results32,go_sem,t0,t1,t2,t3,t4]
 ·have HR:=hid (show E=((0,0),4)by rw[hEv,if_neg hv])
  rw[if_neg hv]at HLO
  simp only[ratV]at HLO
  clear hn H hE c1 c2 c2' hbz qa hxv hlow hpos hEv hr hv
  go_enter Tryz.func32,Tryz.ntmps32
  go_upto_region 1 with fail
  rw[<- hs,<- hwz]
  clear hs hwz
  go_upto_region 3 with (go_at_call 85;refine HCN.out.mono ?_;rintro e w2 ⟨rfl,hb2⟩;have HB2:=hid hb2;clear hb2;refine Stop.of ?_)
  refine Stop.go ?_
  go_upto_region 5 with (go_at_call 93;refine(HWI.out _).mono ?_;rintro e w3 ⟨rfl,rfl⟩;refine Stop.of ?_)
  refine Stop.go ?_
  go_upto_region 6 with (go_at_call 87;refine(HNX.out _ (zAA HBZ.out HB2.out)).mono ?_;rintro e w4 ⟨v4,rfl,hv4,hb4⟩;refine Stop.of ?_)
  refine Stop.go ?_
  obtain⟨ps,pa',pk,pc',pb,pm,pe,rfl,_⟩:=hv4.agg
  have HB4:=hid (zAA HB2.out hb4)
  have HL:=hid (HLO.out _ _ hv4)
  clear hv4 hb4
  go_upto_region 6 with (go_at_call 94;refine HL.out.mono ?_;rintro e w5 ⟨rfl,hb5⟩;have HB5:=hid (zAA HB4.out hb5);clear hb5;refine Stop.of ?_)
  refine Stop.go ?_
  go_upto_region 6 with fail
  obtain⟨w6,hw6⟩:=exq (w5.alloc (.cells #[.int .i64 0,.int .i64 0] 29))
  rw[<- hw6]
  have HB6:=hid (show Below wz.heap.size wz w6 by rw[hw6];exact HB5.out.alloc HB5.out.size _)
  have hR2:=HQ.out _ HB6.out
  obtain⟨s0,s1,s2,s3,s4⟩:=hR2.cells
  have X1:=hid (RatI.set (p:=(0,0)) hR2)
  have X2:=hid (zDW (zAA HBZ.out HB6.out) HSW.out (.int .i64 0) (.int .i64 0))
  clear hR2 hw6
  go_wp2
  clear s0 s1 s2 s3 s4
  generalize (w6.setCell ⟨s,0,none⟩ (.int .i64 0)).setCell ⟨s,1,none⟩ (.int .i64 0)=WF at X1 X2⊢
  obtain⟨t0,t1,t2,t3,t4⟩:=X1.out.cells
  refine bodyPost_ret (v:=.tuple #[.agg #[.int .i64 0,.int .i64 0],.int .i64 4]) ?_ rfl ⟨by rw[HR.out];rfl,X2.out⟩
  simp[results,Tryz.results32,go_sem,t0,t1,t2,t3,t4]
end
section
open Go.RowKit
theorem shalved_c(w:World)(n d:Int)(hd:B127 d)(h1:B127 (d*2)):
 Calls Tryz.prog 97 #[sumV n d] w fun e w'=>e=.returned (sumV n (d*2))∧Below w.heap.size w w':=by
 have HT:=hid (fun X=>zES X d 2 hd (by decide) (by rw[<- Int.natAbs_mul];unfold B127 at h1;omega))
 obtain⟨n1,n2,pn⟩:=WP.ex n
 obtain⟨d1,d2,pd⟩:=WP.ex d
 obtain⟨c1,c2,pC⟩:=WP.ex (d*2)
 rw[pd.val,pC.val]at HT
 rw[pn.sum pd,pn.sum pC]
 clear hd h1 pn pd pC
 obtain⟨s,hs⟩:=exq (w.heap.size)
 obtain⟨wa,hwa⟩:=exq ((w.alloc (.cells #[.int .i64 n1,.int .u64 n2,.int .i64 d1,.int .u64 d2] 102)).alloc (.cells #[.int .i64 0,.int .u64 0,.int .i64 0,.int .u64 0] 102))
 have hba:Below w.heap.size w wa:=by rw[hwa];exact((Below.refl _ _).alloc (Nat.le_refl _) _).alloc (by simp) _
 have q0:wa.heap[s+1]? =some (.cells #[.int .i64 0,.int .u64 0,.int .i64 0,.int .u64 0] 102 (0,0)):=by
  have:=World.alloc_heap_new (w.alloc (.cells #[.int .i64 n1,.int .u64 n2,.int .i64 d1,.int .u64 d2] 102)) (.cells #[.int .i64 0,.int .u64 0,.int .i64 0,.int .u64 0] 102)
  rw[hwa,hs]
  simpa using this
 have hs1:s+1<wa.heap.size:=(Array.getElem?_eq_some_iff.1 q0).1
 have hc:∀o v,(#[Value.int .i64 n1,.int .u64 n2,.int .i64 d1,.int .u64 d2]:Array Value)[o]? =some v->wa.cell? ⟨s,o,none⟩=some v:=fun o v h=>by
  rw[hwa,hs,World.cell?_alloc_past _ _ _ (by simp),World.cell?_alloc_at _ _ _ _ rfl];exact h
 have HS:=hid (fun(Y:World) (hY:Below wa.heap.size wa Y)=>show Y.cell? ⟨s,0,none⟩=some (.int .i64 n1)∧Y.cell? ⟨s,1,none⟩=some (.int .u64 n2)∧Y.cell? ⟨s,2,none⟩=some (.int .i64 d1)∧Y.cell? ⟨s,3,none⟩=some (.int .u64 d2)from by
  have k0:∀o,Y.cell? ⟨s,o,none⟩=wa.cell? ⟨s,o,none⟩:=fun o=>hY.cell (p:=⟨s,o,none⟩) (by show s<_;omega)
  exact⟨(k0 0).trans (hc 0 _ rfl),(k0 1).trans (hc 1 _ rfl),(k0 2).trans (hc 2 _ rfl),(k0 3).trans (hc 3 _ rfl)⟩)
 have HR:=hid (fun(Y:World) (hY:Below wa.heap.size wa Y)=>show Y.cell? ⟨s+1,0,none⟩=some (.int .i64 0)∧Y.cell? ⟨s+1,1,none⟩=some (.int .u64 0)∧Y.cell? ⟨s+1,2,none⟩=some (.int .i64 0)∧Y.cell? ⟨s+1,3,none⟩=some (.int .u64 0)∧(∀o,Y.frozen? ⟨s+1,o,none⟩=false)∧s+1<Y.heap.size from by
  have h1:=(hY.block (s+1) hs1).trans q0
  exact⟨by simp[World.cell?,h1],by simp[World.cell?,h1],by simp[World.cell?,h1],by simp[World.cell?,h1],fun o=>by simp[World.frozen?,h1],(Array.getElem?_eq_some_iff.1 h1).1⟩)
 have HFIN:=hid (fun(Y:World) (hY:Below wa.heap.size wa Y) (u v x z:Value)=>show Below w.heap.size w ((((Y.setCell ⟨s+1,0,none⟩ u).setCell ⟨s+1,1,none⟩ v).setCell ⟨s+1,2,none⟩ x).setCell ⟨s+1,3,none⟩ z)from
  zAE (zAE (zAE (zAE (zAA hba hY) (by omega) 0 u) (by omega) 1 v) (by omega) 2 x) (by omega) 3 z)
 clear hba q0 hs1 hc
 go_enter Tryz.func97,Tryz.ntmps97
 go_wp2_with fail
 rw[<- hs,<- hwa]
 clear hs hwa
 refine zAG (fun j' X=>decide (j'<=5)=true->X.cell? ⟨s,0,none⟩=some (.int .i64 n1)∧X.cell? ⟨s,1,none⟩=some (.int .u64 n2)∧X.cell? ⟨s,2,none⟩=some (.int .i64 d1)∧X.cell? ⟨s,3,none⟩=some (.int .u64 d2)) (by kernel_rfl) ?_
 have hbd:Below wa.heap.size wa wa.drew:=(Below.refl _ _).drew
 generalize wa.drew=wd at hbd⊢
 refine AnyT.tD (i:=0) (v:=.pointer (some ⟨s,0,none⟩)) rfl rfl (by rintro w' ⟨y1,y2,y3,y4⟩;go_simp) (HS.out _ hbd) ?_;go_frame
 refine AnyT.tD (i:=1) (v:=.agg #[.int .i64 n1,.int .u64 n2]) rfl rfl (by rintro w' ⟨y1,y2,y3,y4⟩;go_simp) (HS.out _ hbd) ?_;go_frame
 refine AnyT.tD (i:=2) (v:=.pointer (some ⟨s,2,none⟩)) rfl rfl (by rintro w' ⟨y1,y2,y3,y4⟩;go_simp) (HS.out _ hbd) ?_;go_frame
 refine AnyT.tD (i:=3) (v:=.agg #[.int .i64 d1,.int .u64 d2]) rfl rfl (by rintro w' ⟨y1,y2,y3,y4⟩;go_simp) (HS.out _ hbd) ?_;go_frame
 refine AnyT.nx (i:=4) rfl ?_
 go_wp2_with (go_at_call 151;refine(HT.out _).mono ?_;rintro e w1 ⟨rfl,hbw1⟩;refine Stop.of ?_)
 refine Stop.go ?_
 have HB1:=hid (zAA hbd hbw1)
 clear hbw1
 go_wp2
 refine⟨fun _=>HS.out _ HB1.out,?_⟩
 refine AnyT.nx (i:=5) rfl ?_
 go_wp2
 refine⟨fun _=>HS.out _ HB1.out,?_⟩
 refine AnyT.nx (i:=6) rfl ?_
 obtain⟨c00,c01,c02,c03,hfz,hlt⟩:=HR.out _ HB1.out
 have f0:=hfz 0
 have f1:=hfz 1
 have f2:=hfz 2
 have f3:=hfz 3
 have HFI:=hid (HFIN.out _ HB1.out)
 clear HFIN hfz
 go_wp2
 refine⟨fun h=>absurd h (by decide),?_⟩
 refine AnyT.done (by kernel_rfl) ?_ _
 go_wp2
 refine bodyPost_ret (v:=.agg #[.int .i64 n1,.int .u64 n2,.int .i64 c1,.int .u64 c2]) ?_ rfl ⟨rfl,HFI.out _ _ _ _⟩
 simp[results,Tryz.results97,go_sem,c00,c01,c02,c03,f0,f1,f2,f3,hlt]
def MixP(E:List Rt×Int)(e:Ending)(W:World):Prop:=∃b c,e=.returned (.tuple #[.slice b E.1.length c,.int .i64 E.2])∧zAX W b E.1
theorem mix_lim(a b:Rt):limE (a.1*b.2+b.1*a.2) (a.2*b.2*2)=(if zAC (zAU a b)=true then(zAU a b,0)else((0,0),4)):=by
 unfold limE zAU
 rw[Int.mul_comm (a.2*b.2) 2]
theorem mix_yes{x y:List Rt}(h1:x.all zAC=true)(h2:y.all zAC=true)(hl:x.length=y.length)(h:∀q,q<x.length->zAC (zAU (zAD x q) (zAD y q))=true):mixE x y=(List.zipWith zAU x y,0):=by
 unfold mixE
 rw[if_pos ⟨h1,h2⟩,if_pos hl,if_pos]
 refine List.all_eq_true.2 fun r hr=>?_
 obtain⟨q,hq,rfl⟩:=List.mem_iff_getElem.1 hr
 have hq':q<x.length:=by rw[List.length_zipWith]at hq;omega
 have:=zip_at hl hq'
 have e1:zAD (List.zipWith zAU x y) q=(List.zipWith zAU x y)[q]:=by unfold zAD;rw[List.getElem?_eq_getElem hq];rfl
 rw[<- e1,this]
 exact h q hq'
theorem mix_no{x y:List Rt}(h1:x.all zAC=true)(h2:y.all zAC=true)(hl:x.length=y.length){q:Nat}(hq:q<x.length)(h:zAC (zAU (zAD x q) (zAD y q))=false):mixE x y=([],4):=by
 unfold mixE
 rw[if_pos ⟨h1,h2⟩,if_pos hl,if_neg]
 intro hc
 have hz:q<(List.zipWith zAU x y).length:=by rw[List.length_zipWith];omega
 have h3:=List.all_eq_true.1 hc _ (List.getElem_mem hz)
 have e1:zAD (List.zipWith zAU x y) q=(List.zipWith zAU x y)[q]:=by unfold zAD;rw[List.getElem?_eq_getElem hz];rfl
 rw[<- e1,zip_at hl hq,h]at h3
 cases h3
theorem dmixed_c(w:World)(a a2:Option Addr)(n cap n2 cap2:Nat)(x y:List Rt)(hn:x.length=n)(hn2:y.length=n2)(hm:n<=1000000)(hm2:n2<=1000000)(H:zAX w a x)(H2:zAX w a2 y):
 Calls Tryz.prog 33 #[.slice a n cap,.slice a2 n2 cap2] w fun e w'=>MixP (mixE x y) e w'∧Below w.heap.size w w':=by
 have HC1:=hid (fun(X:World) (hX:Below w.heap.size w X)=>zDV X a n cap x hn (by unfold maxLen;omega) (H.below hX))
 have HC2:=hid (fun(X:World) (hX:Below w.heap.size w X)=>zDV X a2 n2 cap2 y hn2 (by unfold maxLen;omega) (H2.below hX))
 obtain⟨E,hE⟩:=exq (mixE x y)
 rw[<- hE]
 by_cases c1:x.all zAC=true
 rotate_left
 ·have c1':x.all zAC=false:=by simpa using c1
  have HR:=hid (show E=([],1)by rw[hE];unfold mixE;rw[if_neg (fun h=>c1 h.1)])
  rw[c1']at HC1
  clear c1 c1' hE hn hn2 H H2
  go_enter Tryz.func33,Tryz.ntmps33
  go_wp2_with (go_at_call 80;refine(HC1.out _ (Below.refl _ _)).mono ?_;rintro e w1 ⟨rfl,hb1⟩;have HB1:=hid hb1;clear hb1;refine Stop.of ?_)
  refine Stop.go ?_
  go_wp2
  go_ret2
  exact⟨⟨none,0,by rw[HR.out];rfl,by rw[HR.out];exact fun j hj=>by simp at hj⟩,HB1.out⟩
 rw[c1]at HC1
 by_cases c2:y.all zAC=true
 rotate_left
 ·have c2':y.all zAC=false:=by simpa using c2
  have HR:=hid (show E=([],1)by rw[hE];unfold mixE;rw[if_neg (fun h=>c2 h.2)])
  rw[c2']at HC2
  clear c1 c2 c2' hE hn hn2 H H2
  go_enter Tryz.func33,Tryz.ntmps33
  go_wp2_with (go_at_call 80;refine(HC1.out _ (Below.refl _ _)).mono ?_;rintro e w1 ⟨rfl,hb1⟩;have HB1:=hid hb1;clear hb1;refine Stop.of ?_)
  refine Stop.go ?_
  go_wp2_with (go_at_call 80;refine(HC2.out _ HB1.out).mono ?_;rintro e w2 ⟨rfl,hb2⟩;have HB2:=hid (zAA HB1.out hb2);clear hb2;refine Stop.of ?_)
  refine Stop.go ?_
  go_wp2
  go_ret2
  exact⟨⟨none,0,by rw[HR.out];rfl,by rw[HR.out];exact fun j hj=>by simp at hj⟩,HB2.out⟩
 rw[c2]at HC2
 by_cases c3:n=n2
 rotate_left
 ·have HR:=hid (show E=([],9)by rw[hE];unfold mixE;rw[if_pos ⟨c1,c2⟩,if_neg (by rw[hn,hn2];exact c3)])
  have hne:((n:Int) !=(n2:Int))=true:=by simp;omega
  clear c1 c2 c3 hE hn hn2 H H2
  go_enter Tryz.func33,Tryz.ntmps33
  go_wp2_with (go_at_call 80;refine(HC1.out _ (Below.refl _ _)).mono ?_;rintro e w1 ⟨rfl,hb1⟩;have HB1:=hid hb1;clear hb1;refine Stop.of ?_)
  refine Stop.go ?_
  go_wp2_with (go_at_call 80;refine(HC2.out _ HB1.out).mono ?_;rintro e w2 ⟨rfl,hb2⟩;have HB2:=hid (zAA HB1.out hb2);clear hb2;refine Stop.of ?_)
  refine Stop.go ?_
  go_wp2
  go_ret2
  exact⟨⟨none,0,by rw[HR.out];rfl,by rw[HR.out];exact fun j hj=>by simp at hj⟩,HB2.out⟩
 have HX:=hid H
 have HY:=hid H2
 have HNX:=hid hn
 have HNY:=hid (hn2.trans c3.symm)
 have HN12:=hid c3
 have HXV:=hid (zDR c1)
 have HYV:=hid (zDR c2)
 have HYES:=hid (show(∀q,q<n->zAC (zAU (zAD x q) (zAD y q))=true)->E=(List.zipWith zAU x y,0)from fun h=>by rw[hE];exact mix_yes c1 c2 (by omega) (fun q hq=>h q (by omega)))
 have HNO:=hid (show ∀q,q+1<=n->zAC (zAU (zAD x q) (zAD y q))=false->E=([],4)from fun q hq h=>by rw[hE];exact mix_no c1 c2 (by omega) (by omega) h)
 have hne:((n:Int) !=(n2:Int))=false:=by simp;omega
 have HSM0:=hid hm
 clear c1 c2 c3 hE hn hn2 H H2 hm hm2
 go_enter Tryz.func33,Tryz.ntmps33
 go_wp2_with (go_at_call 80;refine(HC1.out _ (Below.refl _ _)).mono ?_;rintro e w1 ⟨rfl,hb1⟩;have HB1:=hid hb1;clear hb1;refine Stop.of ?_)
 refine Stop.go ?_
 go_wp2_with (go_at_call 80;refine(HC2.out _ HB1.out).mono ?_;rintro e w2 ⟨rfl,hb2⟩;have HB2:=hid (zAA HB1.out hb2);clear hb2;refine Stop.of ?_)
 refine Stop.go ?_
 clear HC1 HC2
 go_wp2
 clear hne
 go_loopw [6,26] (fun v i wr=>∃t:Nat,t<=n∧i=.int .i64 t∧Hid (∀q,q<t->zAC (zAU (zAD x q) (zAD y q))=true)∧zCU wr w.heap.size v ((List.zipWith zAU x y).take t)∧Below w.heap.size w wr) (fun _ i _=>n-(intOf i).toNat)
 case atStart=>exact⟨0,Nat.zero_le _,rfl,hid (fun q h=>by omega),zCU.nil _ _,HB2.out⟩
 case round=>
  obtain⟨t,ht,rfl,HOK,hown,hbt⟩:=hrel
  by_cases htl:t<n
  ·obtain⟨xb,xo,rfl,hxb,hx0,hx1⟩:=HX.out t (by rw[HNX.out];exact htl)
   obtain⟨yb,yo,rfl,hyb,hy0,hy1⟩:=HY.out t (by rw[HNY.out];exact htl)
   have hxt:zAD x t=x[t]'(by rw[HNX.out];exact htl):=by unfold zAD;rw[List.getElem?_eq_getElem (by rw[HNX.out];exact htl)];rfl
   have hyt:zAD y t=y[t]'(by rw[HNY.out];exact htl):=by unfold zAD;rw[List.getElem?_eq_getElem (by rw[HNY.out];exact htl)];rfl
   rw[<- hxt]at hx0 hx1
   rw[<- hyt]at hy0 hy1
   have hxv:=HXV.out t
   have hyv:=HYV.out t
   have hzt:(List.zipWith zAU x y).take (t+1)=(List.zipWith zAU x y).take t++[zAU (zAD x t) (zAD y t)]:=by
    have hzl:t<(List.zipWith zAU x y).length:=by rw[List.length_zipWith,HNX.out,HNY.out];omega
    rw[List.take_succ_eq_append_getElem hzl]
    congr 2
    have:=zip_at (a:=x) (b:=y) (by rw[HNX.out,HNY.out]) (k:=t) (by rw[HNX.out];exact htl)
    rw[<- this]
    unfold zAD;rw[List.getElem?_eq_getElem hzl];rfl
   have hlnt:∀q,q<=n->((List.zipWith zAU x y).take q).length=q:=fun q hq=>by
    rw[List.length_take,List.length_zipWith,HNX.out,HNY.out];omega
   unfold zCU at hown
   rw[hlnt t ht]at hown
   have HTK:=hid hzt
   obtain⟨⟨An,Ad⟩,hA⟩:∃q,q=zAD x t:=⟨_,rfl⟩
   obtain⟨⟨Bn,Bd⟩,hB⟩:∃q,q=zAD y t:=⟨_,rfl⟩
   have hlim:=mix_lim (An,Ad) (Bn,Bd)
   have hHV:zAU (An,Ad) (Bn,Bd)=zAU (zAD x t) (zAD y t):=by rw[hA,hB]
   rw[<- hA]at hx0 hx1 hxv
   rw[<- hB]at hy0 hy1 hyv
   simp only[]at hx0 hx1 hxv hy0 hy1 hyv hlim
   obtain⟨a1,a2,a3,a4⟩:=hxv
   obtain⟨b1,b2,b3,b4⟩:=hyv
   have e1:(An*Bd).natAbs<=10000000000*400:=by rw[Int.natAbs_mul];exact Nat.mul_le_mul (by omega) (by omega)
   have e2:(Bn*Ad).natAbs<=10000000000*400:=by rw[Int.natAbs_mul];exact Nat.mul_le_mul (by omega) (by omega)
   have e3:(Ad*Bd).natAbs<=400*400:=by rw[Int.natAbs_mul];exact Nat.mul_le_mul (by omega) (by omega)
   have e4:0<Ad*Bd:=Int.mul_pos (by omega) (by omega)
   have HP1:=hid (fun(X:World)=>show Calls Tryz.prog 96 #[sumV 0 1,ratV (An,Ad),.int .i64 1] X fun e w'=>e=.returned (sumV An Ad)∧Below X.heap.size X w' from by
    have:=zGH X 0 1 An Ad 1 (by unfold B127;omega) (by unfold B127;omega) (by omega) (by omega) (by unfold B127;omega) (by unfold B127;omega) (by unfold B127;omega) (by unfold B127;omega)
    rw[show(0:Int)*Ad+1*(An*1)=An by omega,show(1:Int)*Ad=Ad by omega]at this
    exact this)
   have HP2:=hid (fun(X:World)=>show Calls Tryz.prog 96 #[sumV An Ad,ratV (Bn,Bd),.int .i64 1] X fun e w'=>e=.returned (sumV (An*Bd+Bn*Ad) (Ad*Bd))∧Below X.heap.size X w' from by
    have e5:Ad*(Bn*1)=Bn*Ad:=by rw[Int.mul_one,Int.mul_comm]
    have:=zGH X An Ad Bn Bd 1 (by unfold B127;omega) (by unfold B127;omega) (by omega) (by omega) (by unfold B127;omega) (by rw[e5];unfold B127;omega) (by rw[e5];unfold B127;omega) (by unfold B127;omega)
    rw[e5]at this
    exact this)
   have HHV:=hid (fun(X:World)=>shalved_c X (An*Bd+Bn*Ad) (Ad*Bd) (by unfold B127;omega) (by unfold B127;omega))
   have HLM:=hid (fun(X:World)=>zJU X (An*Bd+Bn*Ad) (Ad*Bd*2) (by omega) (by omega))
   rw[hlim,hHV]at HLM
   simp only[ratV]at HP1 HP2 HLM
   have hE1:∀r:Rt,∃E:Rt×Int,E=(if zAC r=true then(r,0)else((0,0),4)):=fun r=>⟨_,rfl⟩
   obtain⟨⟨⟨en,ed⟩,ee⟩,hE⟩:=hE1 (zAU (zAD x t) (zAD y t))
   rw[<- hE]at HLM
   simp only[]at HLM
   have hEc:(zAC (zAU (zAD x t) (zAD y t))=true∧(en,ed)=zAU (zAD x t) (zAD y t)∧ee=0)∨(zAC (zAU (zAD x t) (zAD y t))=false∧(en,ed)=(0,0)∧ee=4):=by
    by_cases h:zAC (zAU (zAD x t) (zAD y t))=true
    ·rw[if_pos h]at hE
     exact .inl ⟨h,(Prod.mk.inj hE).1,(Prod.mk.inj hE).2⟩
    ·rw[if_neg h]at hE
     exact .inr ⟨by simpa using h,(Prod.mk.inj hE).1,(Prod.mk.inj hE).2⟩
   have h00:zAC (0,0)=false:=by decide
   have HE0:=hid (show zAC (en,ed)=true->ee=0 from fun h=>by
    rcases hEc with⟨_,_,h3⟩|⟨_,h2,_⟩
    ·exact h3
    ·rw[h2,h00]at h;cases h)
   have HE1:=hid (show zAC (en,ed)=true->(en,ed)=zAU (zAD x t) (zAD y t)from fun h=>by
    rcases hEc with⟨_,h2,_⟩|⟨_,h2,_⟩
    ·exact h2
    ·rw[h2,h00]at h;cases h)
   have HE4:=hid (show zAC (en,ed)=false->ee=4 from fun h=>by
    rcases hEc with⟨h1,h2,_⟩|⟨_,_,h3⟩
    ·rw[h2,h1]at h;cases h
    ·exact h3)
   have HE6:=hid (show ¬zAC (en,ed)=true->zAC (zAU (zAD x t) (zAD y t))=false from fun h=>by
    rcases hEc with⟨h1,h2,_⟩|⟨h1,_,_⟩
    ·rw[h2]at h;exact absurd h1 h
    ·exact h1)
   obtain⟨Z0,hZ0⟩:=exq (sumV 0 1)
   obtain⟨V1,hV1⟩:=exq (sumV An Ad)
   obtain⟨V2,hV2⟩:=exq (sumV (An*Bd+Bn*Ad) (Ad*Bd))
   obtain⟨V3,hV3⟩:=exq (sumV (An*Bd+Bn*Ad) (Ad*Bd*2))
   have HZ:=hid (fun(X:World)=>show Calls Tryz.prog 95 #[] X fun e w'=>e=.returned Z0∧Below X.heap.size X w' from by rw[hZ0];exact zHW X)
   rw[<- hZ0,<- hV1]at HP1
   rw[<- hV1,<- hV2]at HP2
   rw[<- hV2,<- hV3]at HHV
   rw[<- hV3]at HLM
   have HOWN:=hid hown
   obtain⟨va,vc,rfl⟩:=zAH hown
   have HLN:=hid (fun(q:Nat) (hq:q<=n)=>hlnt q hq)
   have HTL:=hid (show t+1<=n by omega)
   have HTS:=hid (show t<=1000000 by have:=HSM0.out;omega)
   have HCE:=hid (fun(X:World) (hX:Below w.heap.size w X)=>show X.cell? ⟨yb,yo+t*2,none⟩=some (.int .i64 Bn)∧X.cell? ⟨yb,yo+t*2+1,none⟩=some (.int .i64 Bd)from⟨(hX.cell (p:=⟨yb,_,none⟩) hyb).trans hy0,(hX.cell (p:=⟨yb,_,none⟩) hyb).trans hy1⟩)
   have q0:wr.cell? ⟨xb,xo+t*2,none⟩=some (.int .i64 An):=(hbt.cell (p:=⟨xb,_,none⟩) hxb).trans hx0
   have q1:wr.cell? ⟨xb,xo+t*2+1,none⟩=some (.int .i64 Ad):=(hbt.cell (p:=⟨xb,_,none⟩) hxb).trans hx1
   have i1:(t:Int)<(n:Int):=by omega
   have HIT:=hid (show(0:Int)<=(t:Int)∧(t:Int)<(n2:Int)from⟨by omega,by have:=HN12.out;omega⟩)
   have HBT:=hid hbt
   clear hx0 hx1 hy0 hy1 hxt hyt hzt hlnt hown hbt hA hB hlim hHV a1 a2 a3 a4 b1 b2 b3 b4 e1 e2 e3 e4 hE1 hE hEc h00 hZ0 hV1 hV2 hV3 hxb hyb
   go_upto_region 9 with fail
   obtain⟨h,hh⟩:=exq (wr.heap.size)
   obtain⟨wh,hwh⟩:=exq (wr.alloc (.cells #[.int .i64 An,.int .i64 Ad] 29))
   rw[<- hh,<- hwh]
   have hbh:Below wr.heap.size wr wh:=by rw[hwh];exact(Below.refl _ _).alloc (Nat.le_refl _) _
   have HRH:=hid (show RatI wh h (An,Ad)by rw[hwh,hh];exact RatI.made wr (An,Ad))
   have HBH:=hid (zAA HBT.out hbh)
   have HWR:=hid hbh
   clear q0 q1 i1 hh hwh hbh
   refine zAG (fun _ _=>True) (by kernel_rfl) ?_
   obtain⟨wd,hwd⟩:=exq (wh.drew)
   have hbd:Below wh.heap.size wh wd:=by rw[hwd];exact(Below.refl _ _).drew
   rw[<- hwd]
   have HWH:=hid hbd
   have HWD:=hid (zAA HBH.out hbd)
   have HWB:=hid (zAA HWR.out hbd)
   clear hbd hwd
   refine zCL fun a0 ha0=>?_
   have hsz:a0.tmps.size=53:=by rw[ha0];rfl
   have v1:a0.eval (.tmp 1)=.slice (some ⟨yb,yo,none⟩) n2 cap2:=by rw[ha0];rfl
   have v7:a0.eval (.tmp 7)=.int .i64 (t:Nat):=by rw[ha0];rfl
   have v8:a0.eval (.tmp 8)=.pointer (some ⟨h,0,none⟩):=by rw[ha0];rfl
   have HA0:=hid ha0
   clear ha0
   refine AnyT.regF [32,33,34,35,36,37,38,39,40,41,31,42,43,9,10] (fun l f W=>(l 0=true->f 32=Z0)∧(l 1=true->f 33=.agg #[.int .i64 An,.int .i64 Ad])∧(l 2=true->f 34=V1)∧(l 3=true->f 35=.slice (some ⟨yb,yo,none⟩) n2 cap2)∧(l 4=true->f 36=.int .i64 (t:Nat))∧(l 5=true->f 37=.pointer (some ⟨yb,yo+t*2,none⟩))∧(l 6=true->f 38=.agg #[.int .i64 Bn,.int .i64 Bd])∧(l 7=true->f 39=V2)∧(l 8=true->f 40=V3)∧(l 9=true->f 41=.tuple #[.agg #[.int .i64 en,.int .i64 ed],.int .i64 ee])∧(l 10=true->f 31=.tuple #[.agg #[.int .i64 en,.int .i64 ed],.int .i64 ee])∧(l 11=true->f 42=.agg #[.int .i64 en,.int .i64 ed])∧(l 12=true->f 43=.int .i64 ee)∧(l 15=true->f 10=.int .i64 ee)∧(Below wd.heap.size wd W)∧(l 13=true->∃g,f 9=.pointer (some ⟨g,0,none⟩)∧wd.heap.size<=g∧RatI W g (if l 14=true then(en,ed)else(0,0)))∧(l 14=true->l 13=true)) (by kernel_rfl) (by kernel_rfl) ?_ ?_ ?_
   ·have egZ:∀args w,(callFunc 95 args).run Tryz.prog w=.ok (.enter 95 args) w:=enters_of Tryz.func95 (by kernel_rfl) rfl
    have egP:∀args w,(callFunc 96 args).run Tryz.prog w=.ok (.enter 96 args) w:=enters_of Tryz.func96 (by kernel_rfl) rfl
    have egH:∀args w,(callFunc 97 args).run Tryz.prog w=.ok (.enter 97 args) w:=enters_of Tryz.func97 (by kernel_rfl) rfl
    have egL:∀args w,(callFunc 89 args).run Tryz.prog w=.ok (.enter 89 args) w:=enters_of Tryz.func89 (by kernel_rfl) rfl
    rintro l f W i o ho hi hd ⟨h0,h1,h2,h3,h4,h5,h6,h7,h8,h9,h10,h11,h12,h15,hS,hG,i14⟩
    have e32:zAB a0 [32,33,34,35,36,37,38,39,40,41,31,42,43,9,10] f (.tmp 32)=f 32:=by simp[zAB,hsz]
    have e33:zAB a0 [32,33,34,35,36,37,38,39,40,41,31,42,43,9,10] f (.tmp 33)=f 33:=by simp[zAB,hsz]
    have e34:zAB a0 [32,33,34,35,36,37,38,39,40,41,31,42,43,9,10] f (.tmp 34)=f 34:=by simp[zAB,hsz]
    have e35:zAB a0 [32,33,34,35,36,37,38,39,40,41,31,42,43,9,10] f (.tmp 35)=f 35:=by simp[zAB,hsz]
    have e36:zAB a0 [32,33,34,35,36,37,38,39,40,41,31,42,43,9,10] f (.tmp 36)=f 36:=by simp[zAB,hsz]
    have e37:zAB a0 [32,33,34,35,36,37,38,39,40,41,31,42,43,9,10] f (.tmp 37)=f 37:=by simp[zAB,hsz]
    have e38:zAB a0 [32,33,34,35,36,37,38,39,40,41,31,42,43,9,10] f (.tmp 38)=f 38:=by simp[zAB,hsz]
    have e39:zAB a0 [32,33,34,35,36,37,38,39,40,41,31,42,43,9,10] f (.tmp 39)=f 39:=by simp[zAB,hsz]
    have e40:zAB a0 [32,33,34,35,36,37,38,39,40,41,31,42,43,9,10] f (.tmp 40)=f 40:=by simp[zAB,hsz]
    have e41:zAB a0 [32,33,34,35,36,37,38,39,40,41,31,42,43,9,10] f (.tmp 41)=f 41:=by simp[zAB,hsz]
    have e31:zAB a0 [32,33,34,35,36,37,38,39,40,41,31,42,43,9,10] f (.tmp 31)=f 31:=by simp[zAB,hsz]
    have e42:zAB a0 [32,33,34,35,36,37,38,39,40,41,31,42,43,9,10] f (.tmp 42)=f 42:=by simp[zAB,hsz]
    have e43:zAB a0 [32,33,34,35,36,37,38,39,40,41,31,42,43,9,10] f (.tmp 43)=f 43:=by simp[zAB,hsz]
    have e9:zAB a0 [32,33,34,35,36,37,38,39,40,41,31,42,43,9,10] f (.tmp 9)=f 9:=by simp[zAB,hsz]
    have e10:zAB a0 [32,33,34,35,36,37,38,39,40,41,31,42,43,9,10] f (.tmp 10)=f 10:=by simp[zAB,hsz]
    have w1:zAB a0 [32,33,34,35,36,37,38,39,40,41,31,42,43,9,10] f (.tmp 1)=.slice (some ⟨yb,yo,none⟩) n2 cap2:=by simp[zAB,v1]
    have w7:zAB a0 [32,33,34,35,36,37,38,39,40,41,31,42,43,9,10] f (.tmp 7)=.int .i64 (t:Nat):=by simp[zAB,v7]
    have w8:zAB a0 [32,33,34,35,36,37,38,39,40,41,31,42,43,9,10] f (.tmp 8)=.pointer (some ⟨h,0,none⟩):=by simp[zAB,v8]
    have eFZ:zAB a0 [32,33,34,35,36,37,38,39,40,41,31,42,43,9,10] f (.func 95)=.func (.func 95) #[] #[]:=rfl
    have eFP:zAB a0 [32,33,34,35,36,37,38,39,40,41,31,42,43,9,10] f (.func 96)=.func (.func 96) #[] #[]:=rfl
    have eFH:zAB a0 [32,33,34,35,36,37,38,39,40,41,31,42,43,9,10] f (.func 97)=.func (.func 97) #[] #[]:=rfl
    have eFL:zAB a0 [32,33,34,35,36,37,38,39,40,41,31,42,43,9,10] f (.func 89)=.func (.func 89) #[] #[]:=rfl
    have ec1:zAB a0 [32,33,34,35,36,37,38,39,40,41,31,42,43,9,10] f (.const (.int .i64 1))=.int .i64 1:=rfl
    rcases i with _|_|_|_|_|_|_|_|_|_|_|_|_|_|_|_|i
    ·replace ho:=Option.some.inj ho
     subst ho
     refine zAI.call (g:=95) (args:=#[]) (w':=W) rfl (by simp[execOp,resolve,invoke,go_sem,eFZ,egZ]) ((HZ.out W).mono ?_)
     rintro e' w4 ⟨rfl,hb4⟩
     exact⟨_,rfl,fun _=>rfl,h1,h2,h3,h4,h5,h6,h7,h8,h9,h10,h11,h12,h15,zAA hS hb4,fun q=>by obtain⟨g,q1,q2,q3⟩:=hG q;exact⟨g,q1,q2,q3.keep (hb4.block _ q3.lt)⟩,i14⟩
    ·replace ho:=Option.some.inj ho
     subst ho
     obtain⟨y0,y1,_⟩:=(HRH.out.keep ((zAA HWH.out hS).block _ HRH.out.lt)).cells
     simp only[]at y0 y1
     refine zAI.val (w':=W) (v:=.agg #[.int .i64 An,.int .i64 Ad]) rfl (by go_simp) ⟨h0,fun _=>rfl,h2,h3,h4,h5,h6,h7,h8,h9,h10,h11,h12,h15,hS,hG,i14⟩
    ·replace ho:=Option.some.inj ho
     subst ho
     have k0:=h0 (hd {on:=0,ground:=.data} (by simp) (by kernel_rfl))
     rw[k0]at e32
     have k1:=h1 (hd {on:=1,ground:=.data} (by simp) (by kernel_rfl))
     rw[k1]at e33
     refine zAI.call (g:=96) (args:=#[Z0,.agg #[.int .i64 An,.int .i64 Ad],.int .i64 1]) (w':=W) rfl (by simp[execOp,resolve,invoke,go_sem,e32,e33,ec1,eFP,egP]) ((HP1.out W).mono ?_)
     rintro e' w4 ⟨rfl,hb4⟩
     exact⟨_,rfl,h0,h1,fun _=>rfl,h3,h4,h5,h6,h7,h8,h9,h10,h11,h12,h15,zAA hS hb4,fun q=>by obtain⟨g,q1,q2,q3⟩:=hG q;exact⟨g,q1,q2,q3.keep (hb4.block _ q3.lt)⟩,i14⟩
    ·replace ho:=Option.some.inj ho
     subst ho
     refine zAI.val (w':=W) (v:=.slice (some ⟨yb,yo,none⟩) n2 cap2) rfl (by go_simp) ⟨h0,h1,h2,fun _=>rfl,h4,h5,h6,h7,h8,h9,h10,h11,h12,h15,hS,hG,i14⟩
    ·replace ho:=Option.some.inj ho
     subst ho
     refine zAI.val (w':=W) (v:=.int .i64 (t:Nat)) rfl (by go_simp) ⟨h0,h1,h2,h3,fun _=>rfl,h5,h6,h7,h8,h9,h10,h11,h12,h15,hS,hG,i14⟩
    ·replace ho:=Option.some.inj ho
     subst ho
     have k3:=h3 (hd {on:=3,ground:=.data} (by simp) (by kernel_rfl))
     rw[k3]at e35
     have k4:=h4 (hd {on:=4,ground:=.data} (by simp) (by kernel_rfl))
     rw[k4]at e36
     have hi1:=HIT.out.1
     have hi2:=HIT.out.2
     refine zAI.val (w':=W) (v:=.pointer (some ⟨yb,yo+t*2,none⟩)) rfl (by go_simp) ⟨h0,h1,h2,h3,h4,fun _=>rfl,h6,h7,h8,h9,h10,h11,h12,h15,hS,hG,i14⟩
    ·replace ho:=Option.some.inj ho
     subst ho
     have k5:=h5 (hd {on:=5,ground:=.data} (by simp) (by kernel_rfl))
     rw[k5]at e37
     obtain⟨y0,y1⟩:=HCE.out W (zAA HWD.out hS)
     refine zAI.val (w':=W) (v:=.agg #[.int .i64 Bn,.int .i64 Bd]) rfl (by go_simp) ⟨h0,h1,h2,h3,h4,h5,fun _=>rfl,h7,h8,h9,h10,h11,h12,h15,hS,hG,i14⟩
    ·replace ho:=Option.some.inj ho
     subst ho
     have k2:=h2 (hd {on:=2,ground:=.data} (by simp) (by kernel_rfl))
     rw[k2]at e34
     have k6:=h6 (hd {on:=6,ground:=.data} (by simp) (by kernel_rfl))
     rw[k6]at e38
     refine zAI.call (g:=96) (args:=#[V1,.agg #[.int .i64 Bn,.int .i64 Bd],.int .i64 1]) (w':=W) rfl (by simp[execOp,resolve,invoke,go_sem,e34,e38,ec1,eFP,egP]) ((HP2.out W).mono ?_)
     rintro e' w4 ⟨rfl,hb4⟩
     exact⟨_,rfl,h0,h1,h2,h3,h4,h5,h6,fun _=>rfl,h8,h9,h10,h11,h12,h15,zAA hS hb4,fun q=>by obtain⟨g,q1,q2,q3⟩:=hG q;exact⟨g,q1,q2,q3.keep (hb4.block _ q3.lt)⟩,i14⟩
    ·replace ho:=Option.some.inj ho
     subst ho
     have k7:=h7 (hd {on:=7,ground:=.data} (by simp) (by kernel_rfl))
     rw[k7]at e39
     refine zAI.call (g:=97) (args:=#[V2]) (w':=W) rfl (by simp[execOp,resolve,invoke,go_sem,e39,eFH,egH]) ((HHV.out W).mono ?_)
     rintro e' w4 ⟨rfl,hb4⟩
     exact⟨_,rfl,h0,h1,h2,h3,h4,h5,h6,h7,fun _=>rfl,h9,h10,h11,h12,h15,zAA hS hb4,fun q=>by obtain⟨g,q1,q2,q3⟩:=hG q;exact⟨g,q1,q2,q3.keep (hb4.block _ q3.lt)⟩,i14⟩
    ·replace ho:=Option.some.inj ho
     subst ho
     have k8:=h8 (hd {on:=8,ground:=.data} (by simp) (by kernel_rfl))
     rw[k8]at e40
     refine zAI.call (g:=89) (args:=#[V3]) (w':=W) rfl (by simp[execOp,resolve,invoke,go_sem,e40,eFL,egL]) ((HLM.out W).mono ?_)
     rintro e' w4 ⟨rfl,hb4⟩
     exact⟨_,rfl,h0,h1,h2,h3,h4,h5,h6,h7,h8,fun _=>rfl,h10,h11,h12,h15,zAA hS hb4,fun q=>by obtain⟨g,q1,q2,q3⟩:=hG q;exact⟨g,q1,q2,q3.keep (hb4.block _ q3.lt)⟩,i14⟩
    ·replace ho:=Option.some.inj ho
     subst ho
     have k9:=h9 (hd {on:=9,ground:=.data} (by simp) (by kernel_rfl))
     rw[k9]at e41
     refine zAI.val (w':=W) (v:=.tuple #[.agg #[.int .i64 en,.int .i64 ed],.int .i64 ee]) rfl (by go_simp) ⟨h0,h1,h2,h3,h4,h5,h6,h7,h8,h9,fun _=>rfl,h11,h12,h15,hS,hG,i14⟩
    ·replace ho:=Option.some.inj ho
     subst ho
     have k10:=h10 (hd {on:=10,ground:=.data} (by simp) (by kernel_rfl))
     rw[k10]at e31
     refine zAI.val (w':=W) (v:=.agg #[.int .i64 en,.int .i64 ed]) rfl (by go_simp) ⟨h0,h1,h2,h3,h4,h5,h6,h7,h8,h9,h10,fun _=>rfl,h12,h15,hS,hG,i14⟩
    ·replace ho:=Option.some.inj ho
     subst ho
     have k10:=h10 (hd {on:=10,ground:=.data} (by simp) (by kernel_rfl))
     rw[k10]at e31
     refine zAI.val (w':=W) (v:=.int .i64 ee) rfl (by go_simp) ⟨h0,h1,h2,h3,h4,h5,h6,h7,h8,h9,h10,h11,fun _=>rfl,h15,hS,hG,i14⟩
    ·replace ho:=Option.some.inj ho
     subst ho
     have l14:l 14=false:=by
      cases h:l 14 with
      |false=>rfl
      |true=>rw[i14 h]at hi;cases hi
     refine zAI.val (w':=W.alloc (.cells #[.int .i64 0,.int .i64 0] 29)) (v:=.pointer (some ⟨W.heap.size,0,none⟩)) rfl (by go_simp) ⟨h0,h1,h2,h3,h4,h5,h6,h7,h8,h9,h10,h11,h12,h15,hS.alloc hS.size _,fun _=>⟨W.heap.size,rfl,hS.size,by show RatI _ _ (if l 14=true then(en,ed)else(0,0));rw[l14];exact RatI.made W (0,0)⟩,fun _=>rfl⟩
    ·replace ho:=Option.some.inj ho
     subst ho
     have k11:=h11 (hd {on:=11,ground:=.data} (by simp) (by kernel_rfl))
     rw[k11]at e42
     obtain⟨g,hg,hgl,hgr⟩:=hG (hd {on:=13,ground:=.data} (by simp) (by kernel_rfl))
     rw[hi]at hgr
     have hgr':RatI W g (0,0):=hgr
     obtain⟨r0,r1,r2,r3,r4⟩:=hgr'.cells
     have hst:=RatI.set (p:=(en,ed)) hgr'
     have hb2:=(zAS W g (.int .i64 en) (.int .i64 ed)).below hS hS.size (fun k hk=>by show k≠g;omega)
     rw[hg]at e9
     refine zAI.skip (w':=(W.setCell ⟨g,0,none⟩ (.int .i64 en)).setCell ⟨g,1,none⟩ (.int .i64 ed)) rfl (by go_simp) ⟨h0,h1,h2,h3,h4,h5,h6,h7,h8,h9,h10,h11,h12,h15,hb2,fun _=>⟨g,hg,hgl,hst⟩,fun _=>hd {on:=13,ground:=.data} (by simp) (by kernel_rfl)⟩
    ·replace ho:=Option.some.inj ho
     subst ho
     have k12:=h12 (hd {on:=12,ground:=.data} (by simp) (by kernel_rfl))
     rw[k12]at e43
     refine zAI.val (w':=W) (v:=.int .i64 ee) rfl (by go_simp) ⟨h0,h1,h2,h3,h4,h5,h6,h7,h8,h9,h10,h11,h12,fun _=>rfl,hS,hG,i14⟩
    ·exact absurd ho (by simp)
   ·rintro l f W hall ⟨h0,h1,h2,h3,h4,h5,h6,h7,h8,h9,h10,h11,h12,h15,hS,hG,i14⟩
    have f10:=h15 (hall 15 (by decide))
    obtain⟨g,f9,hgl,hgr⟩:=hG (hall 13 (by decide))
    rw[hall 14 (by decide)]at hgr
    have HGR:=hid (show RatI W g (en,ed)from hgr)
    have HSW:=hid (zAA HWD.out hS)
    have HSB:=hid (zAA HWB.out hS)
    clear h0 h1 h2 h3 h4 h5 h6 h7 h8 h9 h10 h11 h12 h15 hS hG i14 hall hgr hgl
    rw[HA0.out]
    simp only[zCE,List.foldl_cons,List.foldl_nil,Act.put,List.setIfInBounds_toArray,List.set_cons_succ,List.set_cons_zero]
    rw[f9,f10]
    generalize f 32=z32,f 33=z33,f 34=z34,f 35=z35,f 36=z36,f 37=z37,f 38=z38,f 39=z39,f 40=z40,f 41=z41,f 31=z31,f 42=z42,f 43=z43
    clear f9 f10 hsz v1 v7 v8 HA0
    have HSM:=hid (HSW.out.size)
    by_cases hv:zAC (en,ed)=true
    ·obtain rfl:ee=0:=HE0.out hv
     have HOK2:=hid (show ∀q,q<t+1->zAC (zAU (zAD x q) (zAD y q))=true from fun q hq=>by
      rcases Nat.lt_or_ge q t with h|h
      ·exact HOK.out q h
      ·obtain rfl:q=t:=by omega
       rw[<- HE1.out hv];exact hv)
     have HSN:=hid (show zBS ((List.zipWith zAU x y).take (t+1))=zBS ((List.zipWith zAU x y).take t)++zBI (en,ed)by rw[HTK.out,HE1.out hv,zEI])
     have HO:=hid (zBF HOWN.out HSB.out)
     have M1:=hid (show t+1<=maxLen by have:=HTS.out;unfold maxLen;omega)
     have M2:=hid (show(t+1)*16<=140737488355328 by have:=HTS.out;omega)
     have M3:=hid (Nat.le_trans HSM.out (zCG W (.cells #[.int .i64 en,.int .i64 ed] 29)))
     obtain⟨g0,g1,_⟩:=HGR.out.cells
     simp only[]at g0 g1
     clear hv
     go_wp2_with (at_builtin;refine zBD _ rfl (.tmp 47) (.tmp 49) 42 rfl w.heap.size 29 (.agg #[.int .i64 0,.int .i64 0]) 2 16 Tryz.underlying42 zGP rfl (by decide) (.slice va t vc) t _ rfl (HO.out.alloc _) (some ⟨W.heap.size,0,none⟩) 1 1 (zBI (en,ed)) rfl rfl zCO (zKE W (en,ed) _) (rat_one _) M1.out M2.out M3.out ?_;refine Stop.of ?_)
     refine Stop.go ?_
     intro a3 c3 w3 own3 g3
     have hB3:Below w.heap.size w w3:=(HSW.out.alloc HSM.out _).grown g3 M3.out (fun k hk=>(HO.out.lt k hk).1)
     have hts:=HTS.out
     go_wp2
     refine⟨⟨t+1,HTL.out,by go_num,HOK2,?_,hB3⟩,by have:=HTL.out;simp[intOf];omega⟩
     unfold zCU
     rw[HLN.out _ HTL.out,HSN.out]
     exact own3
    ·obtain rfl:ee=4:=HE4.out (by simpa using hv)
     have HMX:=hid (HNO.out t HTL.out (HE6.out hv))
     clear hv
     go_wp2
     go_ret2
     exact⟨⟨none,0,by rw[HMX.out];rfl,by rw[HMX.out];exact fun j hj=>by simp at hj⟩,HSW.out⟩
   ·intro l f hl
    refine⟨?_,?_,?_,?_,?_,?_,?_,?_,?_,?_,?_,?_,?_,?_,Below.refl _ _,(fun h=>by rw[hl _ (by decide)]at h;cases h),(fun h=>by rw[hl _ (by decide)]at h;cases h)⟩
    ·intro h;rw[hl _ (by decide)]at h;cases h
    ·intro h;rw[hl _ (by decide)]at h;cases h
    ·intro h;rw[hl _ (by decide)]at h;cases h
    ·intro h;rw[hl _ (by decide)]at h;cases h
    ·intro h;rw[hl _ (by decide)]at h;cases h
    ·intro h;rw[hl _ (by decide)]at h;cases h
    ·intro h;rw[hl _ (by decide)]at h;cases h
    ·intro h;rw[hl _ (by decide)]at h;cases h
    ·intro h;rw[hl _ (by decide)]at h;cases h
    ·intro h;rw[hl _ (by decide)]at h;cases h
    ·intro h;rw[hl _ (by decide)]at h;cases h
    ·intro h;rw[hl _ (by decide)]at h;cases h
    ·intro h;rw[hl _ (by decide)]at h;cases h
    ·intro h;rw[hl _ (by decide)]at h;cases h
  ·obtain rfl:t=n:=by omega
   have HALL:=hid (HYES.out HOK.out)
   have hzl:(List.zipWith zAU x y).length=t:=by rw[List.length_zipWith,HNX.out,HNY.out];omega
   rw[List.take_of_length_le (by omega)]at hown
   obtain⟨va,vc,rfl,_,hra⟩:=zCU.reads hown
   have HRA:=hid hra
   have HZL:=hid hzl
   have HBT:=hid hbt
   rw[hzl]
   clear hown hra hzl hbt
   go_wp2
   go_ret2
   exact⟨⟨va,vc,by rw[HALL.out];show _=Ending.returned (.tuple #[.slice va (List.zipWith zAU x y).length vc,.int .i64 0]);rw[HZL.out];rfl,by rw[HALL.out];exact HRA.out⟩,HBT.out⟩
end
section
open Go.RowKit
theorem mix_low(a b:Rt):lowE (a.1*b.2+b.1*a.2) (2*(a.2*b.2))=(if zAC (zAU a b)=true then(zAU a b,true)else((0,0),false)):=by
 unfold lowE zAU;rfl
theorem r5mixed_c(w:World)(a a2:Option Addr)(n cap n2 cap2:Nat)(x y:List Rt)(hn:x.length=n)(hn2:y.length=n2)(hm:n<=1000000)(hm2:n2<=1000000)(H:zAX w a x)(H2:zAX w a2 y):
 Calls Tryz.prog 34 #[.slice a n cap,.slice a2 n2 cap2] w fun e w'=>MixP (mixE x y) e w'∧Below w.heap.size w w':=by
 have HC1:=hid (fun(X:World) (hX:Below w.heap.size w X)=>zFE X a n cap x hn (by unfold maxLen;omega) (H.below hX))
 have HC2:=hid (fun(X:World) (hX:Below w.heap.size w X)=>zFE X a2 n2 cap2 y hn2 (by unfold maxLen;omega) (H2.below hX))
 obtain⟨E,hE⟩:=exq (mixE x y)
 rw[<- hE]
 by_cases c1:x.all zAC=true
 rotate_left
 ·have c1':x.all zAC=false:=by simpa using c1
  have HR:=hid (show E=([],1)by rw[hE];unfold mixE;rw[if_neg (fun h=>c1 h.1)])
  rw[c1']at HC1
  clear c1 c1' hE hn hn2 H H2
  go_enter Tryz.func34,Tryz.ntmps34
  go_wp2_with (go_at_call 85;refine(HC1.out _ (Below.refl _ _)).mono ?_;rintro e w1 ⟨rfl,hb1⟩;have HB1:=hid hb1;clear hb1;refine Stop.of ?_)
  refine Stop.go ?_
  go_wp2
  go_ret2
  exact⟨⟨none,0,by rw[HR.out];rfl,by rw[HR.out];exact fun j hj=>by simp at hj⟩,HB1.out⟩
 rw[c1]at HC1
 by_cases c2:y.all zAC=true
 rotate_left
 ·have c2':y.all zAC=false:=by simpa using c2
  have HR:=hid (show E=([],1)by rw[hE];unfold mixE;rw[if_neg (fun h=>c2 h.2)])
  rw[c2']at HC2
  clear c1 c2 c2' hE hn hn2 H H2
  go_enter Tryz.func34,Tryz.ntmps34
  go_wp2_with (go_at_call 85;refine(HC1.out _ (Below.refl _ _)).mono ?_;rintro e w1 ⟨rfl,hb1⟩;have HB1:=hid hb1;clear hb1;refine Stop.of ?_)
  refine Stop.go ?_
  go_wp2_with (go_at_call 85;refine(HC2.out _ HB1.out).mono ?_;rintro e w2 ⟨rfl,hb2⟩;have HB2:=hid (zAA HB1.out hb2);clear hb2;refine Stop.of ?_)
  refine Stop.go ?_
  go_wp2
  go_ret2
  exact⟨⟨none,0,by rw[HR.out];rfl,by rw[HR.out];exact fun j hj=>by simp at hj⟩,HB2.out⟩
 rw[c2]at HC2
 by_cases c3:n=n2
 rotate_left
 ·have HR:=hid (show E=([],9)by rw[hE];unfold mixE;rw[if_pos ⟨c1,c2⟩,if_neg (by rw[hn,hn2];exact c3)])
  have hne:((n:Int) !=(n2:Int))=true:=by simp;omega
  clear c1 c2 c3 hE hn hn2 H H2
  go_enter Tryz.func34,Tryz.ntmps34
  go_wp2_with (go_at_call 85;refine(HC1.out _ (Below.refl _ _)).mono ?_;rintro e w1 ⟨rfl,hb1⟩;have HB1:=hid hb1;clear hb1;refine Stop.of ?_)
  refine Stop.go ?_
  go_wp2_with (go_at_call 85;refine(HC2.out _ HB1.out).mono ?_;rintro e w2 ⟨rfl,hb2⟩;have HB2:=hid (zAA HB1.out hb2);clear hb2;refine Stop.of ?_)
  refine Stop.go ?_
  go_wp2
  go_ret2
  exact⟨⟨none,0,by rw[HR.out];rfl,by rw[HR.out];exact fun j hj=>by simp at hj⟩,HB2.out⟩
 have HX:=hid H
 have HY:=hid H2
 have HNX:=hid hn
 have HNY:=hid (hn2.trans c3.symm)
 have HN12:=hid c3
 have HXV:=hid (zDR c1)
 have HYV:=hid (zDR c2)
 have HYES:=hid (show(∀q,q<n->zAC (zAU (zAD x q) (zAD y q))=true)->E=(List.zipWith zAU x y,0)from fun h=>by rw[hE];exact mix_yes c1 c2 (by omega) (fun q hq=>h q (by omega)))
 have HNO:=hid (show ∀q,q+1<=n->zAC (zAU (zAD x q) (zAD y q))=false->E=([],4)from fun q hq h=>by rw[hE];exact mix_no c1 c2 (by omega) (by omega) h)
 have hne:((n:Int) !=(n2:Int))=false:=by simp;omega
 have HSM0:=hid hm
 clear c1 c2 c3 hE hn hn2 H H2 hm hm2
 go_enter Tryz.func34,Tryz.ntmps34
 go_wp2_with (go_at_call 85;refine(HC1.out _ (Below.refl _ _)).mono ?_;rintro e w1 ⟨rfl,hb1⟩;have HB1:=hid hb1;clear hb1;refine Stop.of ?_)
 refine Stop.go ?_
 go_wp2_with (go_at_call 85;refine(HC2.out _ HB1.out).mono ?_;rintro e w2 ⟨rfl,hb2⟩;have HB2:=hid (zAA HB1.out hb2);clear hb2;refine Stop.of ?_)
 refine Stop.go ?_
 clear HC1 HC2
 go_wp2
 clear hne
 go_loopw [6,25] (fun v i wr=>∃t:Nat,t<=n∧i=.int .i64 t∧Hid (∀q,q<t->zAC (zAU (zAD x q) (zAD y q))=true)∧zCU wr w.heap.size v ((List.zipWith zAU x y).take t)∧Below w.heap.size w wr) (fun _ i _=>n-(intOf i).toNat)
 case atStart=>exact⟨0,Nat.zero_le _,rfl,hid (fun q h=>by omega),zCU.nil _ _,HB2.out⟩
 case round=>
  obtain⟨t,ht,rfl,HOK,hown,hbt⟩:=hrel
  by_cases htl:t<n
  ·obtain⟨xb,xo,rfl,hxb,hx0,hx1⟩:=HX.out t (by rw[HNX.out];exact htl)
   obtain⟨yb,yo,rfl,hyb,hy0,hy1⟩:=HY.out t (by rw[HNY.out];exact htl)
   have hxt:zAD x t=x[t]'(by rw[HNX.out];exact htl):=by unfold zAD;rw[List.getElem?_eq_getElem (by rw[HNX.out];exact htl)];rfl
   have hyt:zAD y t=y[t]'(by rw[HNY.out];exact htl):=by unfold zAD;rw[List.getElem?_eq_getElem (by rw[HNY.out];exact htl)];rfl
   rw[<- hxt]at hx0 hx1
   rw[<- hyt]at hy0 hy1
   have hxv:=HXV.out t
   have hyv:=HYV.out t
   have hzt:(List.zipWith zAU x y).take (t+1)=(List.zipWith zAU x y).take t++[zAU (zAD x t) (zAD y t)]:=by
    have hzl:t<(List.zipWith zAU x y).length:=by rw[List.length_zipWith,HNX.out,HNY.out];omega
    rw[List.take_succ_eq_append_getElem hzl]
    congr 2
    have:=zip_at (a:=x) (b:=y) (by rw[HNX.out,HNY.out]) (k:=t) (by rw[HNX.out];exact htl)
    rw[<- this]
    unfold zAD;rw[List.getElem?_eq_getElem hzl];rfl
   have hlnt:∀q,q<=n->((List.zipWith zAU x y).take q).length=q:=fun q hq=>by
    rw[List.length_take,List.length_zipWith,HNX.out,HNY.out];omega
   unfold zCU at hown
   rw[hlnt t ht]at hown
   have HTK:=hid hzt
   obtain⟨⟨An,Ad⟩,hA⟩:∃q,q=zAD x t:=⟨_,rfl⟩
   obtain⟨⟨Bn,Bd⟩,hB⟩:∃q,q=zAD y t:=⟨_,rfl⟩
   have hlim:=mix_low (An,Ad) (Bn,Bd)
   have hHV:zAU (An,Ad) (Bn,Bd)=zAU (zAD x t) (zAD y t):=by rw[hA,hB]
   rw[<- hA]at hx0 hx1 hxv
   rw[<- hB]at hy0 hy1 hyv
   simp only[]at hx0 hx1 hxv hy0 hy1 hyv hlim
   obtain⟨a1,a2,a3,a4⟩:=hxv
   obtain⟨b1,b2,b3,b4⟩:=hyv
   have HEA:=hid (fun(X:World)=>exact_v X An Ad (by omega) (by omega))
   have HEB:=hid (fun(X:World)=>exact_v X Bn Bd (by omega) (by omega))
   have HPL:=hid (fun(X:World) (v u:Value) (h:RatV X v 3 An Ad) (k:RatV X u 3 Bn Bd)=>rplus_v X v u 3 3 _ _ _ _ h k (by omega) (by omega))
   have HHV:=hid (fun(X:World) (v:Value) (h:RatV X v 7 (An*Bd+Bn*Ad) (Ad*Bd))=>rhalf_v X v 7 _ _ h (by omega))
   have e4:0<2*(Ad*Bd):=Int.mul_pos (by decide) (Int.mul_pos (by omega) (by omega))
   have HLM:=hid (fun(X:World) (v:Value) (h:RatV X v 10 (An*Bd+Bn*Ad) (2*(Ad*Bd)))=>lowest_v X v 10 _ _ h (by omega) e4)
   rw[hlim,hHV]at HLM
   have hE1:∀r:Rt,∃E:Rt×Bool,E=(if zAC r=true then(r,true)else((0,0),false)):=fun r=>⟨_,rfl⟩
   obtain⟨⟨⟨en,ed⟩,eb⟩,hE⟩:=hE1 (zAU (zAD x t) (zAD y t))
   rw[<- hE]at HLM
   simp only[ratV]at HLM
   have hEc:(zAC (zAU (zAD x t) (zAD y t))=true∧(en,ed)=zAU (zAD x t) (zAD y t)∧eb=true)∨(zAC (zAU (zAD x t) (zAD y t))=false∧(en,ed)=(0,0)∧eb=false):=by
    by_cases h:zAC (zAU (zAD x t) (zAD y t))=true
    ·rw[if_pos h]at hE
     exact .inl ⟨h,(Prod.mk.inj hE).1,(Prod.mk.inj hE).2⟩
    ·rw[if_neg h]at hE
     exact .inr ⟨by simpa using h,(Prod.mk.inj hE).1,(Prod.mk.inj hE).2⟩
   have h00:zAC (0,0)=false:=by decide
   have HE0:=hid (show zAC (en,ed)=true->eb=true from fun h=>by
    rcases hEc with⟨_,_,h3⟩|⟨_,h2,_⟩
    ·exact h3
    ·rw[h2,h00]at h;cases h)
   have HE1:=hid (show zAC (en,ed)=true->(en,ed)=zAU (zAD x t) (zAD y t)from fun h=>by
    rcases hEc with⟨_,h2,_⟩|⟨_,h2,_⟩
    ·exact h2
    ·rw[h2,h00]at h;cases h)
   have HE4:=hid (show zAC (en,ed)=false->eb=false from fun h=>by
    rcases hEc with⟨h1,h2,_⟩|⟨_,_,h3⟩
    ·rw[h2,h1]at h;cases h
    ·exact h3)
   have HE6:=hid (show ¬zAC (en,ed)=true->zAC (zAU (zAD x t) (zAD y t))=false from fun h=>by
    rcases hEc with⟨h1,h2,_⟩|⟨h1,_,_⟩
    ·rw[h2]at h;exact absurd h1 h
    ·exact h1)
   have HOWN:=hid hown
   obtain⟨va,vc,rfl⟩:=zAH hown
   have HLN:=hid (fun(q:Nat) (hq:q<=n)=>hlnt q hq)
   have HTL:=hid (show t+1<=n by omega)
   have HTS:=hid (show t<=1000000 by have:=HSM0.out;omega)
   have HCE:=hid (fun(X:World) (hX:Below w.heap.size w X)=>show X.cell? ⟨xb,xo+t*2,none⟩=some (.int .i64 An)∧X.cell? ⟨xb,xo+t*2+1,none⟩=some (.int .i64 Ad)∧X.cell? ⟨yb,yo+t*2,none⟩=some (.int .i64 Bn)∧X.cell? ⟨yb,yo+t*2+1,none⟩=some (.int .i64 Bd)from⟨(hX.cell (p:=⟨xb,_,none⟩) hxb).trans hx0,(hX.cell (p:=⟨xb,_,none⟩) hxb).trans hx1,(hX.cell (p:=⟨yb,_,none⟩) hyb).trans hy0,(hX.cell (p:=⟨yb,_,none⟩) hyb).trans hy1⟩)
   have i1:(t:Int)<(n:Int):=by omega
   have HIT:=hid (show(0:Int)<=(t:Int)∧(t:Int)<(n:Int)∧(t:Int)<(n2:Int)from⟨by omega,by omega,by have:=HN12.out;omega⟩)
   have HBT:=hid hbt
   clear hx0 hx1 hy0 hy1 hxt hyt hzt hlnt hown hbt hA hB hlim hHV a1 a2 a3 a4 b1 b2 b3 b4 e4 hE1 hE hEc h00 hxb hyb
   go_upto_region 9 with fail
   clear i1
   refine zAG (fun _ _=>True) (by kernel_rfl) ?_
   obtain⟨wd,hwd⟩:=exq (wr.drew)
   have hbd:Below wr.heap.size wr wd:=by rw[hwd];exact(Below.refl _ _).drew
   rw[<- hwd]
   have HWD:=hid (zAA HBT.out hbd)
   have HWB:=hid hbd
   clear hbd hwd
   refine zCL fun a0 ha0=>?_
   have hsz:a0.tmps.size=52:=by rw[ha0];rfl
   have v0:a0.eval (.tmp 0)=.slice (some ⟨xb,xo,none⟩) n cap:=by rw[ha0];rfl
   have v1:a0.eval (.tmp 1)=.slice (some ⟨yb,yo,none⟩) n2 cap2:=by rw[ha0];rfl
   have v7:a0.eval (.tmp 7)=.int .i64 (t:Nat):=by rw[ha0];rfl
   have HA0:=hid ha0
   clear ha0
   refine AnyT.regF [29,30,31,32,33,34,35,36,37,38,39,40,41,28,42,43,8,9] (fun l f W=>(l 0=true->f 29=.slice (some ⟨xb,xo,none⟩) n cap)∧(l 1=true->f 30=.int .i64 (t:Nat))∧(l 2=true->f 31=.pointer (some ⟨xb,xo+t*2,none⟩))∧(l 3=true->f 32=.agg #[.int .i64 An,.int .i64 Ad])∧(l 5=true->f 34=.slice (some ⟨yb,yo,none⟩) n2 cap2)∧(l 6=true->f 35=.int .i64 (t:Nat))∧(l 7=true->f 36=.pointer (some ⟨yb,yo+t*2,none⟩))∧(l 8=true->f 37=.agg #[.int .i64 Bn,.int .i64 Bd])∧(l 12=true->f 41=.tuple #[.agg #[.int .i64 en,.int .i64 ed],.bool eb])∧(l 13=true->f 28=.tuple #[.agg #[.int .i64 en,.int .i64 ed],.bool eb])∧(l 14=true->f 42=.agg #[.int .i64 en,.int .i64 ed])∧(l 15=true->f 43=.bool eb)∧(l 18=true->f 9=.bool eb)∧(Below wd.heap.size wd W)∧(l 16=true->∃g,f 8=.pointer (some ⟨g,0,none⟩)∧wd.heap.size<=g∧RatI W g (if l 17=true then(en,ed)else(0,0)))∧(l 17=true->l 16=true)∧(l 4=true->l 17=false->RatV W (f 33) 3 An Ad)∧(l 9=true->l 17=false->RatV W (f 38) 3 Bn Bd)∧(l 10=true->l 17=false->RatV W (f 39) 7 (An*Bd+Bn*Ad) (Ad*Bd))∧(l 11=true->l 17=false->RatV W (f 40) 10 (An*Bd+Bn*Ad) (2*(Ad*Bd)))∧(l 11=true->l 10=true)∧(l 12=true->l 11=true∧l 10=true)∧(l 13=true->l 12=true)∧(l 14=true->l 13=true)∧(l 17=true->l 10=true∧l 11=true∧l 12=true)) (by kernel_rfl) (by kernel_rfl) ?_ ?_ ?_
   ·have egX:∀args w,(callFunc 22 args).run Tryz.prog w=.ok (.enter 22 args) w:=enters_of Tryz.func22 (by kernel_rfl) rfl
    have egP:∀args w,(callFunc 24 args).run Tryz.prog w=.ok (.enter 24 args) w:=enters_of Tryz.func24 (by kernel_rfl) rfl
    have egH:∀args w,(callFunc 98 args).run Tryz.prog w=.ok (.enter 98 args) w:=enters_of Tryz.func98 (by kernel_rfl) rfl
    have egL:∀args w,(callFunc 94 args).run Tryz.prog w=.ok (.enter 94 args) w:=enters_of Tryz.func94 (by kernel_rfl) rfl
    rintro l f W i o ho hi hd ⟨h0,h1,h2,h3,h5,h6,h7,h8,h12,h13,h14,h15,h18,hS,hG,i17,j4,j9,j10,j11,c11,c12,c13,c14,c17⟩
    have e29:zAB a0 [29,30,31,32,33,34,35,36,37,38,39,40,41,28,42,43,8,9] f (.tmp 29)=f 29:=by simp[zAB,hsz]
    have e30:zAB a0 [29,30,31,32,33,34,35,36,37,38,39,40,41,28,42,43,8,9] f (.tmp 30)=f 30:=by simp[zAB,hsz]
    have e31:zAB a0 [29,30,31,32,33,34,35,36,37,38,39,40,41,28,42,43,8,9] f (.tmp 31)=f 31:=by simp[zAB,hsz]
    have e32:zAB a0 [29,30,31,32,33,34,35,36,37,38,39,40,41,28,42,43,8,9] f (.tmp 32)=f 32:=by simp[zAB,hsz]
    have e33:zAB a0 [29,30,31,32,33,34,35,36,37,38,39,40,41,28,42,43,8,9] f (.tmp 33)=f 33:=by simp[zAB,hsz]
    have e34:zAB a0 [29,30,31,32,33,34,35,36,37,38,39,40,41,28,42,43,8,9] f (.tmp 34)=f 34:=by simp[zAB,hsz]
    have e35:zAB a0 [29,30,31,32,33,34,35,36,37,38,39,40,41,28,42,43,8,9] f (.tmp 35)=f 35:=by simp[zAB,hsz]
    have e36:zAB a0 [29,30,31,32,33,34,35,36,37,38,39,40,41,28,42,43,8,9] f (.tmp 36)=f 36:=by simp[zAB,hsz]
    have e37:zAB a0 [29,30,31,32,33,34,35,36,37,38,39,40,41,28,42,43,8,9] f (.tmp 37)=f 37:=by simp[zAB,hsz]
    have e38:zAB a0 [29,30,31,32,33,34,35,36,37,38,39,40,41,28,42,43,8,9] f (.tmp 38)=f 38:=by simp[zAB,hsz]
    have e39:zAB a0 [29,30,31,32,33,34,35,36,37,38,39,40,41,28,42,43,8,9] f (.tmp 39)=f 39:=by simp[zAB,hsz]
    have e40:zAB a0 [29,30,31,32,33,34,35,36,37,38,39,40,41,28,42,43,8,9] f (.tmp 40)=f 40:=by simp[zAB,hsz]
    have e41:zAB a0 [29,30,31,32,33,34,35,36,37,38,39,40,41,28,42,43,8,9] f (.tmp 41)=f 41:=by simp[zAB,hsz]
    have e28:zAB a0 [29,30,31,32,33,34,35,36,37,38,39,40,41,28,42,43,8,9] f (.tmp 28)=f 28:=by simp[zAB,hsz]
    have e42:zAB a0 [29,30,31,32,33,34,35,36,37,38,39,40,41,28,42,43,8,9] f (.tmp 42)=f 42:=by simp[zAB,hsz]
    have e43:zAB a0 [29,30,31,32,33,34,35,36,37,38,39,40,41,28,42,43,8,9] f (.tmp 43)=f 43:=by simp[zAB,hsz]
    have e8:zAB a0 [29,30,31,32,33,34,35,36,37,38,39,40,41,28,42,43,8,9] f (.tmp 8)=f 8:=by simp[zAB,hsz]
    have e9:zAB a0 [29,30,31,32,33,34,35,36,37,38,39,40,41,28,42,43,8,9] f (.tmp 9)=f 9:=by simp[zAB,hsz]
    have w0:zAB a0 [29,30,31,32,33,34,35,36,37,38,39,40,41,28,42,43,8,9] f (.tmp 0)=.slice (some ⟨xb,xo,none⟩) n cap:=by simp[zAB,v0]
    have w1:zAB a0 [29,30,31,32,33,34,35,36,37,38,39,40,41,28,42,43,8,9] f (.tmp 1)=.slice (some ⟨yb,yo,none⟩) n2 cap2:=by simp[zAB,v1]
    have w7:zAB a0 [29,30,31,32,33,34,35,36,37,38,39,40,41,28,42,43,8,9] f (.tmp 7)=.int .i64 (t:Nat):=by simp[zAB,v7]
    have eFX:zAB a0 [29,30,31,32,33,34,35,36,37,38,39,40,41,28,42,43,8,9] f (.func 22)=.func (.func 22) #[] #[]:=rfl
    have eFP:zAB a0 [29,30,31,32,33,34,35,36,37,38,39,40,41,28,42,43,8,9] f (.func 24)=.func (.func 24) #[] #[]:=rfl
    have eFH:zAB a0 [29,30,31,32,33,34,35,36,37,38,39,40,41,28,42,43,8,9] f (.func 98)=.func (.func 98) #[] #[]:=rfl
    have eFL:zAB a0 [29,30,31,32,33,34,35,36,37,38,39,40,41,28,42,43,8,9] f (.func 94)=.func (.func 94) #[] #[]:=rfl
    rcases i with _|_|_|_|_|_|_|_|_|_|_|_|_|_|_|_|_|_|_|i
    ·replace ho:=Option.some.inj ho
     subst ho
     refine zAI.val (w':=W) (v:=.slice (some ⟨xb,xo,none⟩) n cap) rfl (by go_simp) ⟨fun _=>rfl,h1,h2,h3,h5,h6,h7,h8,h12,h13,h14,h15,h18,hS,hG,i17,j4,j9,j10,j11,c11,c12,c13,c14,c17⟩
    ·replace ho:=Option.some.inj ho
     subst ho
     refine zAI.val (w':=W) (v:=.int .i64 (t:Nat)) rfl (by go_simp) ⟨h0,fun _=>rfl,h2,h3,h5,h6,h7,h8,h12,h13,h14,h15,h18,hS,hG,i17,j4,j9,j10,j11,c11,c12,c13,c14,c17⟩
    ·replace ho:=Option.some.inj ho
     subst ho
     have k0:=h0 (hd {on:=0,ground:=.data} (by simp) (by kernel_rfl))
     rw[k0]at e29
     have k1:=h1 (hd {on:=1,ground:=.data} (by simp) (by kernel_rfl))
     rw[k1]at e30
     have hi1:=HIT.out.1
     have hi2:=HIT.out.2.1
     refine zAI.val (w':=W) (v:=.pointer (some ⟨xb,xo+t*2,none⟩)) rfl (by go_simp) ⟨h0,h1,fun _=>rfl,h3,h5,h6,h7,h8,h12,h13,h14,h15,h18,hS,hG,i17,j4,j9,j10,j11,c11,c12,c13,c14,c17⟩
    ·replace ho:=Option.some.inj ho
     subst ho
     have k2:=h2 (hd {on:=2,ground:=.data} (by simp) (by kernel_rfl))
     rw[k2]at e31
     obtain⟨y0,y1,_,_⟩:=HCE.out W (zAA HWD.out hS)
     refine zAI.val (w':=W) (v:=.agg #[.int .i64 An,.int .i64 Ad]) rfl (by go_simp) ⟨h0,h1,h2,fun _=>rfl,h5,h6,h7,h8,h12,h13,h14,h15,h18,hS,hG,i17,j4,j9,j10,j11,c11,c12,c13,c14,c17⟩
    ·replace ho:=Option.some.inj ho
     subst ho
     have k3:=h3 (hd {on:=3,ground:=.data} (by simp) (by kernel_rfl))
     rw[k3]at e32
     refine zAI.call (g:=22) (args:=#[.agg #[.int .i64 An,.int .i64 Ad]]) (w':=W) rfl (by simp[execOp,resolve,invoke,go_sem,e32,eFX,egX]) ((HEA.out W).mono ?_)
     rintro e' w4 ⟨x33,rfl,hx,hb4⟩
     exact⟨_,rfl,h0,h1,h2,h3,h5,h6,h7,h8,h12,h13,h14,h15,h18,zAA hS hb4,fun q=>by obtain⟨g,q1,q2,q3⟩:=hG q;exact⟨g,q1,q2,q3.keep (hb4.block _ q3.lt)⟩,i17,fun _ _=>hx,fun q r=>(j9 q r).below hb4,fun q r=>(j10 q r).below hb4,fun q r=>(j11 q r).below hb4,c11,c12,c13,c14,c17⟩
    ·replace ho:=Option.some.inj ho
     subst ho
     refine zAI.val (w':=W) (v:=.slice (some ⟨yb,yo,none⟩) n2 cap2) rfl (by go_simp) ⟨h0,h1,h2,h3,fun _=>rfl,h6,h7,h8,h12,h13,h14,h15,h18,hS,hG,i17,j4,j9,j10,j11,c11,c12,c13,c14,c17⟩
    ·replace ho:=Option.some.inj ho
     subst ho
     refine zAI.val (w':=W) (v:=.int .i64 (t:Nat)) rfl (by go_simp) ⟨h0,h1,h2,h3,h5,fun _=>rfl,h7,h8,h12,h13,h14,h15,h18,hS,hG,i17,j4,j9,j10,j11,c11,c12,c13,c14,c17⟩
    ·replace ho:=Option.some.inj ho
     subst ho
     have k5:=h5 (hd {on:=5,ground:=.data} (by simp) (by kernel_rfl))
     rw[k5]at e34
     have k6:=h6 (hd {on:=6,ground:=.data} (by simp) (by kernel_rfl))
     rw[k6]at e35
     have hi1:=HIT.out.1
     have hi2:=HIT.out.2.2
     refine zAI.val (w':=W) (v:=.pointer (some ⟨yb,yo+t*2,none⟩)) rfl (by go_simp) ⟨h0,h1,h2,h3,h5,h6,fun _=>rfl,h8,h12,h13,h14,h15,h18,hS,hG,i17,j4,j9,j10,j11,c11,c12,c13,c14,c17⟩
    ·replace ho:=Option.some.inj ho
     subst ho
     have k7:=h7 (hd {on:=7,ground:=.data} (by simp) (by kernel_rfl))
     rw[k7]at e36
     obtain⟨_,_,y0,y1⟩:=HCE.out W (zAA HWD.out hS)
     refine zAI.val (w':=W) (v:=.agg #[.int .i64 Bn,.int .i64 Bd]) rfl (by go_simp) ⟨h0,h1,h2,h3,h5,h6,h7,fun _=>rfl,h12,h13,h14,h15,h18,hS,hG,i17,j4,j9,j10,j11,c11,c12,c13,c14,c17⟩
    ·replace ho:=Option.some.inj ho
     subst ho
     have k8:=h8 (hd {on:=8,ground:=.data} (by simp) (by kernel_rfl))
     rw[k8]at e37
     refine zAI.call (g:=22) (args:=#[.agg #[.int .i64 Bn,.int .i64 Bd]]) (w':=W) rfl (by simp[execOp,resolve,invoke,go_sem,e37,eFX,egX]) ((HEB.out W).mono ?_)
     rintro e' w4 ⟨x38,rfl,hx,hb4⟩
     exact⟨_,rfl,h0,h1,h2,h3,h5,h6,h7,h8,h12,h13,h14,h15,h18,zAA hS hb4,fun q=>by obtain⟨g,q1,q2,q3⟩:=hG q;exact⟨g,q1,q2,q3.keep (hb4.block _ q3.lt)⟩,i17,fun q r=>(j4 q r).below hb4,fun _ _=>hx,fun q r=>(j10 q r).below hb4,fun q r=>(j11 q r).below hb4,c11,c12,c13,c14,c17⟩
    ·replace ho:=Option.some.inj ho
     subst ho
     have n17:l 17=false:=by
      cases h:l 17 with
      |false=>rfl
      |true=>rw[(c17 h).1]at hi;cases hi
     refine zAI.call (g:=24) (args:=#[f 33,f 38]) (w':=W) rfl (by simp[execOp,resolve,invoke,go_sem,e33,e38,eFP,egP]) ((HPL.out W _ _ (j4 (hd {on:=4,ground:=.data} (by simp) (by kernel_rfl)) n17) (j9 (hd {on:=9,ground:=.data} (by simp) (by kernel_rfl)) n17)).mono ?_)
     rintro e' w4 ⟨x39,rfl,hx,hb4⟩
     exact⟨_,rfl,h0,h1,h2,h3,h5,h6,h7,h8,h12,h13,h14,h15,h18,zAA hS hb4,fun q=>by obtain⟨g,q1,q2,q3⟩:=hG q;exact⟨g,q1,q2,q3.keep (hb4.block _ q3.lt)⟩,i17,fun q r=>(j4 q r).below hb4,fun q r=>(j9 q r).below hb4,fun _ _=>hx,fun q r=>(j11 q r).below hb4,fun _=>rfl,fun h=>⟨(c12 h).1,rfl⟩,c13,c14,fun h=>⟨rfl,(c17 h).2⟩⟩
    ·replace ho:=Option.some.inj ho
     subst ho
     have n17:l 17=false:=by
      cases h:l 17 with
      |false=>rfl
      |true=>rw[(c17 h).2.1]at hi;cases hi
     refine zAI.call (g:=98) (args:=#[f 39]) (w':=W) rfl (by simp[execOp,resolve,invoke,go_sem,e39,eFH,egH]) ((HHV.out W _ (j10 (hd {on:=10,ground:=.data} (by simp) (by kernel_rfl)) n17)).mono ?_)
     rintro e' w4 ⟨x40,rfl,hx,hb4⟩
     exact⟨_,rfl,h0,h1,h2,h3,h5,h6,h7,h8,h12,h13,h14,h15,h18,zAA hS hb4,fun q=>by obtain⟨g,q1,q2,q3⟩:=hG q;exact⟨g,q1,q2,q3.keep (hb4.block _ q3.lt)⟩,i17,fun q r=>(j4 q r).below hb4,fun q r=>(j9 q r).below hb4,fun q r=>(j10 q r).below hb4,fun _ _=>hx,fun _=>(hd {on:=10,ground:=.data} (by simp) (by kernel_rfl)),fun h=>⟨rfl,(c12 h).2⟩,c13,c14,fun h=>⟨(c17 h).1,rfl,(c17 h).2.2⟩⟩
    ·replace ho:=Option.some.inj ho
     subst ho
     have n17:l 17=false:=by
      cases h:l 17 with
      |false=>rfl
      |true=>rw[(c17 h).2.2]at hi;cases hi
     refine zAI.call (g:=94) (args:=#[f 40]) (w':=W) rfl (by simp[execOp,resolve,invoke,go_sem,e40,eFL,egL]) ((HLM.out W _ (j11 (hd {on:=11,ground:=.data} (by simp) (by kernel_rfl)) n17)).mono ?_)
     rintro e' w4 ⟨rfl,hb4⟩
     exact⟨_,rfl,h0,h1,h2,h3,h5,h6,h7,h8,fun _=>rfl,h13,h14,h15,h18,zAA hS hb4,fun q=>by obtain⟨g,q1,q2,q3⟩:=hG q;exact⟨g,q1,q2,q3.keep (hb4.block _ q3.lt)⟩,i17,fun q r=>(j4 q r).below hb4,fun q r=>(j9 q r).below hb4,fun q r=>(j10 q r).below hb4,fun q r=>(j11 q r).below hb4,c11,fun _=>⟨(hd {on:=11,ground:=.data} (by simp) (by kernel_rfl)),c11 (hd {on:=11,ground:=.data} (by simp) (by kernel_rfl))⟩,fun _=>rfl,c14,fun h=>⟨(c17 h).1,(c17 h).2.1,rfl⟩⟩
    ·replace ho:=Option.some.inj ho
     subst ho
     have k12:=h12 (hd {on:=12,ground:=.data} (by simp) (by kernel_rfl))
     rw[k12]at e41
     refine zAI.val (w':=W) (v:=.tuple #[.agg #[.int .i64 en,.int .i64 ed],.bool eb]) rfl (by go_simp) ⟨h0,h1,h2,h3,h5,h6,h7,h8,h12,fun _=>rfl,h14,h15,h18,hS,hG,i17,j4,j9,j10,j11,c11,c12,fun _=>(hd {on:=12,ground:=.data} (by simp) (by kernel_rfl)),fun _=>rfl,c17⟩
    ·replace ho:=Option.some.inj ho
     subst ho
     have k13:=h13 (hd {on:=13,ground:=.data} (by simp) (by kernel_rfl))
     rw[k13]at e28
     refine zAI.val (w':=W) (v:=.agg #[.int .i64 en,.int .i64 ed]) rfl (by go_simp) ⟨h0,h1,h2,h3,h5,h6,h7,h8,h12,h13,fun _=>rfl,h15,h18,hS,hG,i17,j4,j9,j10,j11,c11,c12,c13,fun _=>(hd {on:=13,ground:=.data} (by simp) (by kernel_rfl)),c17⟩
    ·replace ho:=Option.some.inj ho
     subst ho
     have k13:=h13 (hd {on:=13,ground:=.data} (by simp) (by kernel_rfl))
     rw[k13]at e28
     refine zAI.val (w':=W) (v:=.bool eb) rfl (by go_simp) ⟨h0,h1,h2,h3,h5,h6,h7,h8,h12,h13,h14,fun _=>rfl,h18,hS,hG,i17,j4,j9,j10,j11,c11,c12,c13,c14,c17⟩
    ·replace ho:=Option.some.inj ho
     subst ho
     have l17:l 17=false:=by
      cases h:l 17 with
      |false=>rfl
      |true=>rw[i17 h]at hi;cases hi
     have hb4:Below W.heap.size W (W.alloc (.cells #[.int .i64 0,.int .i64 0] 29)):=(Below.refl _ _).alloc (Nat.le_refl _) _
     refine zAI.val (w':=W.alloc (.cells #[.int .i64 0,.int .i64 0] 29)) (v:=.pointer (some ⟨W.heap.size,0,none⟩)) rfl (by go_simp) ⟨h0,h1,h2,h3,h5,h6,h7,h8,h12,h13,h14,h15,h18,hS.alloc hS.size _,fun _=>⟨W.heap.size,rfl,hS.size,by show RatI _ _ (if l 17=true then(en,ed)else(0,0));rw[l17];exact RatI.made W (0,0)⟩,fun _=>rfl,fun q r=>(j4 q r).below hb4,fun q r=>(j9 q r).below hb4,fun q r=>(j10 q r).below hb4,fun q r=>(j11 q r).below hb4,c11,c12,c13,c14,c17⟩
    ·replace ho:=Option.some.inj ho
     subst ho
     have k14:=h14 (hd {on:=14,ground:=.data} (by simp) (by kernel_rfl))
     rw[k14]at e42
     obtain⟨g,hg,hgl,hgr⟩:=hG (hd {on:=16,ground:=.data} (by simp) (by kernel_rfl))
     rw[hi]at hgr
     have hgr':RatI W g (0,0):=hgr
     obtain⟨r0,r1,r2,r3,r4⟩:=hgr'.cells
     have hst:=RatI.set (p:=(en,ed)) hgr'
     have hb2:=(zAS W g (.int .i64 en) (.int .i64 ed)).below hS hS.size (fun k hk=>by show k≠g;omega)
     rw[hg]at e8
     have q12:=c13 (c14 (hd {on:=14,ground:=.data} (by simp) (by kernel_rfl)))
     refine zAI.skip (w':=(W.setCell ⟨g,0,none⟩ (.int .i64 en)).setCell ⟨g,1,none⟩ (.int .i64 ed)) rfl (by go_simp) ⟨h0,h1,h2,h3,h5,h6,h7,h8,h12,h13,h14,h15,h18,hb2,fun _=>⟨g,hg,hgl,hst⟩,fun _=>(hd {on:=16,ground:=.data} (by simp) (by kernel_rfl)),fun _ h=>absurd (show true=false from h) (by decide),fun _ h=>absurd (show true=false from h) (by decide),fun _ h=>absurd (show true=false from h) (by decide),fun _ h=>absurd (show true=false from h) (by decide),c11,c12,c13,c14,fun _=>⟨(c12 q12).2,(c12 q12).1,q12⟩⟩
    ·replace ho:=Option.some.inj ho
     subst ho
     have k15:=h15 (hd {on:=15,ground:=.data} (by simp) (by kernel_rfl))
     rw[k15]at e43
     refine zAI.val (w':=W) (v:=.bool eb) rfl (by go_simp) ⟨h0,h1,h2,h3,h5,h6,h7,h8,h12,h13,h14,h15,fun _=>rfl,hS,hG,i17,j4,j9,j10,j11,c11,c12,c13,c14,c17⟩
    ·exact absurd ho (by simp)
   ·rintro l f W hall ⟨h0,h1,h2,h3,h5,h6,h7,h8,h12,h13,h14,h15,h18,hS,hG,i17,j4,j9,j10,j11,c11,c12,c13,c14,c17⟩
    have f9:=h18 (hall 18 (by decide))
    obtain⟨g,f8,hgl,hgr⟩:=hG (hall 16 (by decide))
    rw[hall 17 (by decide)]at hgr
    have HGR:=hid (show RatI W g (en,ed)from hgr)
    have HSW:=hid (zAA HWD.out hS)
    have HSB:=hid (zAA HWB.out hS)
    clear h0 h1 h2 h3 h5 h6 h7 h8 h12 h13 h14 h15 h18 hS hG i17 j4 j9 j10 j11 c11 c12 c13 c14 c17 hall hgr hgl
    rw[HA0.out]
    simp only[zCE,List.foldl_cons,List.foldl_nil,Act.put,List.setIfInBounds_toArray,List.set_cons_succ,List.set_cons_zero]
    rw[f8,f9]
    generalize f 29=z29,f 30=z30,f 31=z31,f 32=z32,f 33=z33,f 34=z34,f 35=z35,f 36=z36,f 37=z37,f 38=z38,f 39=z39,f 40=z40,f 41=z41,f 28=z28,f 42=z42,f 43=z43
    clear f8 f9 hsz v0 v1 v7 HA0
    have HSM:=hid (HSW.out.size)
    by_cases hv:zAC (en,ed)=true
    ·obtain rfl:eb=true:=HE0.out hv
     have HOK2:=hid (show ∀q,q<t+1->zAC (zAU (zAD x q) (zAD y q))=true from fun q hq=>by
      rcases Nat.lt_or_ge q t with h|h
      ·exact HOK.out q h
      ·obtain rfl:q=t:=by omega
       rw[<- HE1.out hv];exact hv)
     have HSN:=hid (show zBS ((List.zipWith zAU x y).take (t+1))=zBS ((List.zipWith zAU x y).take t)++zBI (en,ed)by rw[HTK.out,HE1.out hv,zEI])
     have HO:=hid (zBF HOWN.out HSB.out)
     have M1:=hid (show t+1<=maxLen by have:=HTS.out;unfold maxLen;omega)
     have M2:=hid (show(t+1)*16<=140737488355328 by have:=HTS.out;omega)
     have M3:=hid (Nat.le_trans HSM.out (zCG W (.cells #[.int .i64 en,.int .i64 ed] 29)))
     obtain⟨g0,g1,_⟩:=HGR.out.cells
     simp only[]at g0 g1
     clear hv
     go_wp2_with (at_builtin;refine zBD _ rfl (.tmp 46) (.tmp 48) 42 rfl w.heap.size 29 (.agg #[.int .i64 0,.int .i64 0]) 2 16 Tryz.underlying42 zGP rfl (by decide) (.slice va t vc) t _ rfl (HO.out.alloc _) (some ⟨W.heap.size,0,none⟩) 1 1 (zBI (en,ed)) rfl rfl zCO (zKE W (en,ed) _) (rat_one _) M1.out M2.out M3.out ?_;refine Stop.of ?_)
     refine Stop.go ?_
     intro a3 c3 w3 own3 g3
     have hB3:Below w.heap.size w w3:=(HSW.out.alloc HSM.out _).grown g3 M3.out (fun k hk=>(HO.out.lt k hk).1)
     have hts:=HTS.out
     go_wp2
     refine⟨⟨t+1,HTL.out,by go_num,HOK2,?_,hB3⟩,by have:=HTL.out;simp[intOf];omega⟩
     unfold zCU
     rw[HLN.out _ HTL.out,HSN.out]
     exact own3
    ·obtain rfl:eb=false:=HE4.out (by simpa using hv)
     have HMX:=hid (HNO.out t HTL.out (HE6.out hv))
     clear hv
     go_wp2
     go_ret2
     exact⟨⟨none,0,by rw[HMX.out];rfl,by rw[HMX.out];exact fun j hj=>by simp at hj⟩,HSW.out⟩
   ·intro l f hl
    refine⟨?_,?_,?_,?_,?_,?_,?_,?_,?_,?_,?_,?_,?_,Below.refl _ _,(fun h=>by rw[hl _ (by decide)]at h;cases h),(fun h=>by rw[hl _ (by decide)]at h;cases h),(fun h=>by rw[hl _ (by decide)]at h;cases h),(fun h=>by rw[hl _ (by decide)]at h;cases h),(fun h=>by rw[hl _ (by decide)]at h;cases h),(fun h=>by rw[hl _ (by decide)]at h;cases h),(fun h=>by rw[hl _ (by decide)]at h;cases h),(fun h=>by rw[hl _ (by decide)]at h;cases h),(fun h=>by rw[hl _ (by decide)]at h;cases h),(fun h=>by rw[hl _ (by decide)]at h;cases h),(fun h=>by rw[hl _ (by decide)]at h;cases h)⟩
    ·intro h;rw[hl _ (by decide)]at h;cases h
    ·intro h;rw[hl _ (by decide)]at h;cases h
    ·intro h;rw[hl _ (by decide)]at h;cases h
    ·intro h;rw[hl _ (by decide)]at h;cases h
    ·intro h;rw[hl _ (by decide)]at h;cases h
    ·intro h;rw[hl _ (by decide)]at h;cases h
    ·intro h;rw[hl _ (by decide)]at h;cases h
    ·intro h;rw[hl _ (by decide)]at h;cases h
    ·intro h;rw[hl _ (by decide)]at h;cases h
    ·intro h;rw[hl _ (by decide)]at h;cases h
    ·intro h;rw[hl _ (by decide)]at h;cases h
    ·intro h;rw[hl _ (by decide)]at h;cases h
    ·intro h;rw[hl _ (by decide)]at h;cases h
  ·obtain rfl:t=n:=by omega
   have HALL:=hid (HYES.out HOK.out)
   have hzl:(List.zipWith zAU x y).length=t:=by rw[List.length_zipWith,HNX.out,HNY.out];omega
   rw[List.take_of_length_le (by omega)]at hown
   obtain⟨va,vc,rfl,_,hra⟩:=zCU.reads hown
   have HRA:=hid hra
   have HZL:=hid hzl
   have HBT:=hid hbt
   rw[hzl]
   clear hown hra hzl hbt
   go_wp2
   go_ret2
   exact⟨⟨va,vc,by rw[HALL.out];show _=Ending.returned (.tuple #[.slice va (List.zipWith zAU x y).length vc,.int .i64 0]);rw[HZL.out];rfl,by rw[HALL.out];exact HRA.out⟩,HBT.out⟩
end
section
open Go.RowKit
theorem sameRats_c(w:World)(a a2:Option Addr)(n cap n2 cap2:Nat)(x y:List Rt)(hn:x.length=n)(hn2:y.length=n2)(hm:n<=maxLen)(hm2:n2<=maxLen)(H:zAX w a x)(H2:zAX w a2 y):
 Calls Tryz.prog 35 #[.slice a n cap,.slice a2 n2 cap2] w fun e w'=>e=.returned (.bool (decide (x=y)))∧Below w.heap.size w w':=by
 unfold maxLen at hm hm2
 obtain⟨E,hE⟩:=exq (decide (x=y))
 rw[<- hE]
 by_cases hl:n=n2
 rotate_left
 ·have hd:((n:Int) !=(n2:Int))=true:=by simp;omega
  have HE:=hid (show E=false from by rw[hE];exact decide_eq_false (fun h=>hl (by rw[<- hn,<- hn2,h])))
  clear hn hn2 H H2 hE hl
  go_enter Tryz.func35,Tryz.ntmps35
  go_wp2
  go_ret
  exact⟨by rw[HE.out]<;>rfl,Below.refl _ _⟩
 subst hl
 have hd:((n:Int) !=(n:Int))=false:=by simp
 have HYES:=hid (fun(h:∀j,j<n->x[j]? =y[j]?)=>show E=true from by
  rw[hE]
  refine decide_eq_true (List.ext_getElem? fun j=>?_)
  rcases Nat.lt_or_ge j n with k|k
  ·exact h j k
  ·rw[List.getElem?_eq_none (by omega),List.getElem?_eq_none (by omega)])
 have HNO:=hid (fun(j:Nat) (h:x[j]? ≠y[j]?)=>show E=false from by
  rw[hE];exact decide_eq_false (fun k=>h (by rw[k])))
 have HXI:=hid (fun(j:Nat) (hj:j<n)=>show ∃b off r,a=some ⟨b,off,none⟩∧x[j]? =some r∧∀Z:World,Below w.heap.size w Z->Z.cell? ⟨b,off+j*2,none⟩=some (.int .i64 r.1)∧Z.cell? ⟨b,off+j*2+1,none⟩=some (.int .i64 r.2)from by
  obtain⟨b,off,e,hb,c0,c1⟩:=H j (by omega)
  exact⟨b,off,x[j]'(by omega),e,List.getElem?_eq_getElem (by omega),fun Z hZ=>⟨(hZ.cell (p:=⟨b,_,none⟩) hb).trans c0,(hZ.cell (p:=⟨b,_,none⟩) hb).trans c1⟩⟩)
 have HYI:=hid (fun(j:Nat) (hj:j<n)=>show ∃b off r,a2=some ⟨b,off,none⟩∧y[j]? =some r∧∀Z:World,Below w.heap.size w Z->Z.cell? ⟨b,off+j*2,none⟩=some (.int .i64 r.1)∧Z.cell? ⟨b,off+j*2+1,none⟩=some (.int .i64 r.2)from by
  obtain⟨b,off,e,hb,c0,c1⟩:=H2 j (by omega)
  exact⟨b,off,y[j]'(by omega),e,List.getElem?_eq_getElem (by omega),fun Z hZ=>⟨(hZ.cell (p:=⟨b,_,none⟩) hb).trans c0,(hZ.cell (p:=⟨b,_,none⟩) hb).trans c1⟩⟩)
 clear hn hn2 H H2 hE
 go_enter Tryz.func35,Tryz.ntmps35
 go_wp2
 go_loopw [13] (fun i wr=>∃k:Nat,k<=n∧i=.int .i64 k∧Below w.heap.size w wr∧Hid (∀j,j<k->x[j]? =y[j]?)) (fun i _=>n-(intOf i).toNat)
 case atStart=>exact⟨0,Nat.zero_le _,rfl,Below.refl _ _,hid fun j hj=>by omega⟩
 case round=>
  obtain⟨k,hk,rfl,hbk,HK⟩:=hrel
  have HBK:=hid hbk
  by_cases hlt:k<n
  ·obtain⟨b,off,⟨x1,x2⟩,rfl,ex,hx⟩:=HXI.out k hlt
   obtain⟨b2,off2,⟨y1,y2⟩,rfl,ey,hy⟩:=HYI.out k hlt
   have HX:=hid hx
   have HY:=hid hy
   have HNE:=hid (fun(h:¬((x1,x2):Rt)=(y1,y2))=>HNO.out k (by rw[ex,ey];intro e;exact h (Option.some.inj e)))
   have HEQ:=hid (fun(h:((x1,x2):Rt)=(y1,y2))=>show ∀j,j<k+1->x[j]? =y[j]? from fun j hj=>by
    rcases Nat.lt_or_ge j k with c|c
    ·exact HK.out j c
    ·obtain rfl:j=k:=by omega
     rw[ex,ey,h])
   have i0:(0:Int)<=(k:Int):=by omega
   have i1:(k:Int)<(n:Int):=by omega
   have HS:=hid (fun(Z:World) (hZ:Below wr.heap.size wr Z)=>And.intro (HX.out Z (zAA HBK.out hZ)) (HY.out Z (zAA HBK.out hZ)))
   clear ex ey hx hy hbk
   go_upto_region 6 with fail
   refine zAG (fun j' Z=>wAll j'=true->(Z.cell? ⟨b,off+k*2,none⟩=some (.int .i64 x1)∧Z.cell? ⟨b,off+k*2+1,none⟩=some (.int .i64 x2))∧Z.cell? ⟨b2,off2+k*2,none⟩=some (.int .i64 y1)∧Z.cell? ⟨b2,off2+k*2+1,none⟩=some (.int .i64 y2)) (by kernel_rfl) ?_
   have hbd:Below wr.heap.size wr wr.drew:=(Below.refl _ _).drew
   generalize wr.drew=wd at hbd⊢
   have HBD:=hid hbd
   clear hbd
   refine AnyT.tD (i:=0) (v:=.slice (some ⟨b,off,none⟩) n cap) rfl rfl (by rintro w' ⟨⟨q0,q1⟩,q2,q3⟩;go_simp) (HS.out _ HBD.out) ?_;go_frame
   refine AnyT.tD (i:=1) (v:=.int .i64 k) rfl rfl (by rintro w' ⟨⟨q0,q1⟩,q2,q3⟩;go_simp) (HS.out _ HBD.out) ?_;go_frame
   refine AnyT.tD (i:=2) (v:=.pointer (some ⟨b,off+k*2,none⟩)) rfl rfl (by rintro w' ⟨⟨q0,q1⟩,q2,q3⟩;go_simp) (HS.out _ HBD.out) ?_;go_frame
   refine AnyT.tD (i:=3) (v:=.agg #[.int .i64 x1,.int .i64 x2]) rfl rfl (by rintro w' ⟨⟨q0,q1⟩,q2,q3⟩;go_simp) (HS.out _ HBD.out) ?_;go_frame
   refine AnyT.tD (i:=4) (v:=.slice (some ⟨b2,off2,none⟩) n cap2) rfl rfl (by rintro w' ⟨⟨q0,q1⟩,q2,q3⟩;go_simp) (HS.out _ HBD.out) ?_;go_frame
   refine AnyT.tD (i:=5) (v:=.int .i64 k) rfl rfl (by rintro w' ⟨⟨q0,q1⟩,q2,q3⟩;go_simp) (HS.out _ HBD.out) ?_;go_frame
   refine AnyT.tD (i:=6) (v:=.pointer (some ⟨b2,off2+k*2,none⟩)) rfl rfl (by rintro w' ⟨⟨q0,q1⟩,q2,q3⟩;go_simp) (HS.out _ HBD.out) ?_;go_frame
   refine AnyT.tD (i:=7) (v:=.agg #[.int .i64 y1,.int .i64 y2]) rfl rfl (by rintro w' ⟨⟨q0,q1⟩,q2,q3⟩;go_simp) (HS.out _ HBD.out) ?_;go_frame
   by_cases c1:x1=y1
   ·by_cases c2:x2=y2
    ·subst c1
     subst c2
     have HE:=hid (HEQ.out rfl)
     refine AnyT.nx (i:=8) rfl ?_
     go_wp2
     refine⟨fun _=>HS.out _ HBD.out,?_⟩
     refine AnyT.done (by kernel_rfl) ?_ _
     go_wp2
     exact⟨⟨k+1,by omega,by go_num,zAA HBK.out HBD.out,HE⟩,by simp[intOf];omega⟩
    ·have HE:=hid (HNE.out (fun h=>c2 (by cases h;rfl)))
     have c2':(x2==y2)=false:=by simpa using c2
     subst c1
     refine AnyT.nx (i:=8) rfl ?_
     go_wp2
     refine⟨fun _=>HS.out _ HBD.out,?_⟩
     refine AnyT.done (by kernel_rfl) ?_ _
     go_wp2
     go_ret
     exact⟨by rw[HE.out]<;>rfl,zAA HBK.out HBD.out⟩
   ·have HE:=hid (HNE.out (fun h=>c1 (by cases h;rfl)))
    have c1':(x1==y1)=false:=by simpa using c1
    refine AnyT.nx (i:=8) rfl ?_
    go_wp2
    refine⟨fun _=>HS.out _ HBD.out,?_⟩
    refine AnyT.done (by kernel_rfl) ?_ _
    go_wp2
    go_ret
    exact⟨by rw[HE.out]<;>rfl,zAA HBK.out HBD.out⟩
  ·obtain rfl:k=n:=by omega
   have HE:=hid (HYES.out HK.out)
   have i1:¬((k:Int)<(k:Int)):=by omega
   clear hbk
   go_wp2
   go_ret
   exact⟨by rw[HE.out]<;>rfl,HBK.out⟩
end
section
open Go.RowKit
theorem two5_c(w:World):Calls Tryz.prog 72 #[] w fun e w'=>Below w.heap.size w w'∧∃a cap,e=.returned (.slice a 2 cap)∧zAT w' a twoM:=by
 go_enter Tryz.func72,Tryz.ntmps72
 go_wp2
 go_ret
 exact⟨(((Below.refl _ _).alloc (Nat.le_refl _) _).alloc (by simp) _).alloc (by simp;omega) _,_,_,rfl,two_rows w⟩
theorem zET(w:World)(n:Int):Calls Tryz.prog 51 #[.int .i64 n] w fun e w'=>e=.returned (.agg #[.int .i64 n,.int .i64 1])∧Below w.heap.size w w':=by
 obtain⟨rb,hrb⟩:=exq (w.heap.size)
 obtain⟨wz,hwz⟩:=exq (w.alloc (.cells #[.int .i64 0,.int .i64 0] 29))
 have hbz:Below w.heap.size w wz:=by rw[hwz];exact(Below.refl _ _).alloc (Nat.le_refl _) _
 have hrz:RatI wz rb (0,0):=by rw[hwz,hrb];exact RatI.made w (0,0)
 obtain⟨r0,r1,r2,r3,r4⟩:=hrz.cells
 have X1:=hid (RatI.set (p:=(n,1)) hrz)
 have X2:=hid ((zAS wz rb (.int .i64 n) (.int .i64 1)).below hbz hbz.size (fun k hk=>by show k≠rb;omega))
 have HWZ:=hid hwz
 clear hwz hrz hbz
 go_enter Tryz.func51,Tryz.ntmps51
 go_upto_region 1 with fail
 rw[<- hrb,<- HWZ.out]
 clear hrb
 go_wp2
 clear r0 r1 r2 r3 r4
 generalize (wz.setCell ⟨rb,0,none⟩ (.int .i64 n)).setCell ⟨rb,1,none⟩ (.int .i64 1)=WF at X1 X2⊢
 obtain⟨t0,t1,t2,t3,t4⟩:=X1.out.cells
 refine bodyPost_ret (v:=.agg #[.int .i64 n,.int .i64 1]) ?_ rfl ⟨rfl,X2.out⟩
 simp[results,Tryz.results51,go_sem,t0,t1,t2,t3,t4]
theorem aw5_val:valE twoM [1,-1]=((2,1),0):=by decide+kernel
theorem aw5_prov:zCN twoM [1,1] [(0,1),(1,1),(0,1)] [(1,1),(0,1)]=true:=by decide+kernel
theorem ints2(w:World)(x y:Int)(T:TypeId):zAJ (w.alloc (.cells #[.int .i64 x,.int .i64 y] T)) (some ⟨w.heap.size,0,none⟩) [x,y]:=fun j hj=>⟨w.heap.size,0,rfl,by simp,by
 rw[World.cell?_alloc_at _ _ _ _ rfl]
 match j,hj with
 |0,_=>rfl
 |1,_=>rfl⟩
theorem rats3(w:World)(a b c d e f:Int)(T:TypeId):zAX (w.alloc (.cells #[.int .i64 a,.int .i64 b,.int .i64 c,.int .i64 d,.int .i64 e,.int .i64 f] T)) (some ⟨w.heap.size,0,none⟩) [(a,b),(c,d),(e,f)]:=fun j hj=>⟨w.heap.size,0,rfl,by simp,by
 rw[World.cell?_alloc_at _ _ _ _ rfl]
 match j,hj with
 |0,_=>rfl
 |1,_=>rfl
 |2,_=>rfl,by
 rw[World.cell?_alloc_at _ _ _ _ rfl]
 match j,hj with
 |0,_=>rfl
 |1,_=>rfl
 |2,_=>rfl⟩
theorem rats2(w:World)(a b c d:Int)(T:TypeId):zAX (w.alloc (.cells #[.int .i64 a,.int .i64 b,.int .i64 c,.int .i64 d] T)) (some ⟨w.heap.size,0,none⟩) [(a,b),(c,d)]:=fun j hj=>⟨w.heap.size,0,rfl,by simp,by
 rw[World.cell?_alloc_at _ _ _ _ rfl]
 match j,hj with
 |0,_=>rfl
 |1,_=>rfl,by
 rw[World.cell?_alloc_at _ _ _ _ rfl]
 match j,hj with
 |0,_=>rfl
 |1,_=>rfl⟩
theorem awake5_c(w:World):Calls Tryz.prog 18 #[] w fun e w'=>e=.returned (.bool true)∧Below w.heap.size w w':=by
 go_enter Tryz.func18,Tryz.ntmps18
 go_upto_region 2 with (go_at_call 72;refine(two5_c _).mono ?_;rintro e w1 ⟨hb1,a,cap,rfl,hR⟩;refine Stop.of ?_)
 refine Stop.go ?_
 have hbA:Below w1.heap.size w1 (w1.alloc (.cells #[.int .i64 1,.int .i64 (-1)] 3)):=(Below.refl _ _).alloc (Nat.le_refl _) _
 have HV:=hid (dvalue_c (w1.alloc (.cells #[.int .i64 1,.int .i64 (-1)] 3)) a (some ⟨w1.heap.size,0,none⟩) 2 cap 2 2 twoM [1,-1] rfl rfl (by decide) (by decide) (hR.below hbA) (ints2 w1 1 (-1) _))
 rw[aw5_val]at HV
 have HB1:=hid (zAA hb1 hbA)
 clear hb1 hbA hR
 go_upto_region 2 with (go_at_call 19;refine HV.out.mono ?_;rintro e w2 ⟨rfl,hb2⟩;refine Stop.of ?_)
 refine Stop.go ?_
 have HB2:=hid (zAA HB1.out hb2)
 clear hb2 HB1 HV
 have hr:ratV (2,1)=.agg #[.int .i64 2,.int .i64 1]:=rfl
 rw[hr]
 clear hr
 go_upto_region 2 with fail
 go_upto_region 3 with (go_at_call 51;refine(zET _ _).mono ?_;rintro e w3 ⟨rfl,hb3⟩;have HB3:=hid hb3;clear hb3;refine Stop.of ?_)
 refine Stop.go ?_
 go_upto_region 3 with (go_at_call 51;refine(zET _ _).mono ?_;rintro e w4 ⟨rfl,hb4⟩;have HB4:=hid hb4;clear hb4;refine Stop.of ?_)
 refine Stop.go ?_
 go_upto_region 3 with (go_at_call 51;refine(zET _ _).mono ?_;rintro e w5 ⟨rfl,hb5⟩;have HB5:=hid hb5;clear hb5;refine Stop.of ?_)
 refine Stop.go ?_
 go_upto_region 3 with (go_at_call 51;refine(zET _ _).mono ?_;rintro e w6 ⟨rfl,hb6⟩;have HB6:=hid hb6;clear hb6;refine Stop.of ?_)
 refine Stop.go ?_
 go_upto_region 3 with (go_at_call 51;refine(zET _ _).mono ?_;rintro e w7 ⟨rfl,hb7⟩;have HB7:=hid hb7;clear hb7;refine Stop.of ?_)
 refine Stop.go ?_
 go_upto_region 3 with fail
 have B25:Below (w2.alloc (.cells #[.int .i64 2,.int .i64 1] 29)).heap.size (w2.alloc (.cells #[.int .i64 2,.int .i64 1] 29)) w5:=zAA HB3.out (zAA HB4.out HB5.out)
 have B57:Below (w5.alloc (.cells #[.int .i64 0,.int .i64 1,.int .i64 1,.int .i64 1,.int .i64 0,.int .i64 1] 29)).heap.size (w5.alloc (.cells #[.int .i64 0,.int .i64 1,.int .i64 1,.int .i64 1,.int .i64 0,.int .i64 1] 29)) w7:=zAA HB6.out HB7.out
 have R2:=RatI.made w2 (2,1)
 have R5:RatI w5 w2.heap.size (2,1):=R2.keep (B25.block _ R2.lt)
 have bC:Below w5.heap.size w5 (w5.alloc (.cells #[.int .i64 0,.int .i64 1,.int .i64 1,.int .i64 1,.int .i64 0,.int .i64 1] 29)):=(Below.refl _ _).alloc (Nat.le_refl _) _
 have b57:Below w5.heap.size w5 w7:=zAA bC B57
 have R7:RatI w7 w2.heap.size (2,1):=R5.keep (b57.block _ R5.lt)
 have X7:zAX w7 (some ⟨w5.heap.size,0,none⟩) [(0,1),(1,1),(0,1)]:=(rats3 w5 0 1 1 1 0 1 29).below B57
 have bA:Below w2.heap.size w2 (w2.alloc (.cells #[.int .i64 2,.int .i64 1] 29)):=(Below.refl _ _).alloc (Nat.le_refl _) _
 have bw7:Below w.heap.size w w7:=zAA HB2.out (zAA bA (zAA B25 b57))
 obtain⟨b1,hb1⟩:=exq (w2.heap.size)
 obtain⟨ap,hap⟩:=exq (w5.heap.size)
 obtain⟨ax,hax⟩:=exq (w7.heap.size)
 obtain⟨b3,hb3⟩:=exq (w7.heap.size+1)
 obtain⟨wB,hwB⟩:=exq ((w7.alloc (.cells #[.int .i64 1,.int .i64 1,.int .i64 0,.int .i64 1] 29)).alloc (.cells #[.slice (some ⟨w5.heap.size,0,none⟩) 3 3,.slice (some ⟨w7.heap.size,0,none⟩) 2 2] 78))
 have bD:Below w7.heap.size w7 (w7.alloc (.cells #[.int .i64 1,.int .i64 1,.int .i64 0,.int .i64 1] 29)):=(Below.refl _ _).alloc (Nat.le_refl _) _
 have bB:Below w7.heap.size w7 wB:=by rw[hwB];exact bD.alloc bD.size _
 have bDB:Below (w7.alloc (.cells #[.int .i64 1,.int .i64 1,.int .i64 0,.int .i64 1] 29)).heap.size (w7.alloc (.cells #[.int .i64 1,.int .i64 1,.int .i64 0,.int .i64 1] 29)) wB:=by rw[hwB];exact(Below.refl _ _).alloc (Nat.le_refl _) _
 have HRB:=hid (R7.keep (bB.block _ R7.lt))
 have HPB:=hid (X7.below bB)
 have HXB:=hid ((rats2 w7 1 1 0 1 29).below bDB)
 have HLB:=hid (show wB.heap[w7.heap.size+1]? =some (.cells #[.slice (some ⟨w5.heap.size,0,none⟩) 3 3,.slice (some ⟨w7.heap.size,0,none⟩) 2 2] 78 (0,0))by
  have h:=World.alloc_heap_new (w7.alloc (.cells #[.int .i64 1,.int .i64 1,.int .i64 0,.int .i64 1] 29)) (.cells #[.slice (some ⟨w5.heap.size,0,none⟩) 3 3,.slice (some ⟨w7.heap.size,0,none⟩) 2 2] 78)
  rw[World.size_alloc]at h
  rw[hwB];exact h)
 have HBW:=hid (zAA bw7 bB)
 rw[<- hwB]
 rw[<- hb1]at HRB⊢
 rw[<- hb3]at HLB⊢
 rw[<- hap]at HPB HLB⊢
 rw[<- hax]at HXB HLB⊢
 clear B25 B57 R2 R5 bC b57 R7 X7 bA bw7 hb1 hap hax hb3 hwB bD bB bDB HB2 HB3 HB4 HB5 HB6 HB7
 have HS:=hid (fun(X:World) (hX:Below wB.heap.size wB X)=>show X.cell? ⟨b1,0,none⟩=some (.int .i64 2)∧X.cell? ⟨b1,1,none⟩=some (.int .i64 1)∧X.cell? ⟨b3,0,none⟩=some (.slice (some ⟨ap,0,none⟩) 3 3)∧X.cell? ⟨b3,1,none⟩=some (.slice (some ⟨ax,0,none⟩) 2 2)from by
  obtain⟨c0,c1,_⟩:=(HRB.out.keep (hX.block _ HRB.out.lt)).cells
  have h:=(hX.block _ (Array.getElem?_eq_some_iff.1 HLB.out).1).trans HLB.out
  exact⟨c0,c1,by simp[World.cell?,h],by simp[World.cell?,h]⟩)
 have HPV:=hid (fun(X:World) (a a3:Option Addr) (cap cap3:Nat) (hX:Below wB.heap.size wB X) (hR:zAT X a twoM) (hY:zAJ X a3 [1,1])=>dproves_c X a a3 (some ⟨ap,0,none⟩) (some ⟨ax,0,none⟩) 2 cap 2 cap3 3 3 2 2 twoM [1,1] [(0,1),(1,1),(0,1)] [(1,1),(0,1)] rfl rfl rfl rfl (by decide) (by decide) (by decide) (by decide) hR hY (HPB.out.below hX) (HXB.out.below hX))
 rw[aw5_prov]at HPV
 refine zAG (fun j X=>wAll j=true->X.cell? ⟨b1,0,none⟩=some (.int .i64 2)∧X.cell? ⟨b1,1,none⟩=some (.int .i64 1)∧X.cell? ⟨b3,0,none⟩=some (.slice (some ⟨ap,0,none⟩) 3 3)∧X.cell? ⟨b3,1,none⟩=some (.slice (some ⟨ax,0,none⟩) 2 2)) (by kernel_rfl) ?_
 have hbd:Below wB.heap.size wB wB.drew:=(Below.refl _ _).drew
 generalize wB.drew=wd at hbd⊢
 have HBD:=hid hbd
 clear hbd
 refine AnyT.nx (i:=0) rfl ?_
 go_wp2
 refine⟨fun _=>HS.out _ HBD.out,?_⟩
 refine AnyT.nx (i:=1) rfl ?_
 go_wp2
 refine⟨fun _=>HS.out _ HBD.out,?_⟩
 refine AnyT.nx (i:=2) rfl ?_
 go_wp2
 refine⟨fun _=>HS.out _ HBD.out,?_⟩
 refine AnyT.tD (i:=3) (v:=.agg #[.int .i64 2,.int .i64 1]) rfl rfl (by rintro w' ⟨q0,q1,q2,q3⟩;go_simp) (HS.out _ HBD.out) ?_;go_frame
 refine AnyT.nx (i:=4) rfl ?_
 go_wp2_with (go_at_call 51;refine(zET _ _).mono ?_;rintro e w3 ⟨rfl,hb3⟩;have HB3:=hid (zAA HBD.out hb3);clear hb3;refine Stop.of ?_)
 refine Stop.go ?_
 go_wp2
 refine⟨fun _=>HS.out _ HB3.out,?_⟩
 refine AnyT.nx (i:=5) rfl ?_
 go_wp2
 refine⟨fun _=>HS.out _ HB3.out,?_⟩
 refine AnyT.nx (i:=6) rfl ?_
 go_wp2
 refine⟨fun _=>HS.out _ HB3.out,?_⟩
 refine AnyT.nx (i:=7) rfl ?_
 go_wp2
 refine⟨fun _=>HS.out _ HB3.out,?_⟩
 refine AnyT.tD (i:=10) (v:=.agg #[.slice (some ⟨ap,0,none⟩) 3 3,.slice (some ⟨ax,0,none⟩) 2 2]) rfl rfl (by rintro w' ⟨q0,q1,q2,q3⟩;go_simp) (HS.out _ HB3.out) ?_;go_frame
 refine AnyT.next2 (i:=8) (j:=9) (by kernel_rfl) (wpOp_of_list rfl ?_) (wpOp_of_list rfl ?_)
 ·go_wp2_with (go_at_call 72;refine(two5_c _).mono ?_;rintro e w4 ⟨hb4,a4,cap4,rfl,hR4⟩;have HB4:=hid (zAA HB3.out hb4);have HR4:=hid hR4;clear hb4 hR4;refine Stop.of ?_)
  refine Stop.go ?_
  go_wp2
  refine⟨fun _=>HS.out _ HB4.out,?_⟩
  refine AnyT.nx (i:=9) rfl ?_
  go_wp2
  have hb5:Below w4.heap.size w4 (w4.alloc (.cells #[.int .i64 1,.int .i64 1] 3)):=(Below.refl _ _).alloc (Nat.le_refl _) _
  have HB5:=hid (zAA HB4.out hb5)
  have HPV2:=hid (HPV.out _ a4 (some ⟨w4.heap.size,0,none⟩) cap4 2 HB5.out (HR4.out.below hb5) (ints2 w4 1 1 3))
  clear hb5
  refine⟨fun _=>HS.out _ HB5.out,?_⟩
  refine AnyT.nx (i:=11) rfl ?_
  go_wp2_with (go_at_call 61;refine HPV2.out.mono ?_;rintro e w8 ⟨rfl,hb8⟩;have HB8:=hid (zAA HB5.out hb8);clear hb8;refine Stop.of ?_)
  refine Stop.go ?_
  go_wp2
  refine⟨fun _=>HS.out _ HB8.out,?_⟩
  refine AnyT.nx (i:=12) rfl ?_
  go_wp2
  refine⟨fun _=>HS.out _ HB8.out,?_⟩
  refine AnyT.nx (i:=13) rfl ?_
  go_wp2
  refine⟨fun _=>HS.out _ HB8.out,?_⟩
  refine AnyT.done (by kernel_rfl) ?_ _
  go_wp2
  go_ret
  exact⟨rfl,zAA HBW.out HB8.out⟩
 ·go_wp2
  obtain⟨w4,hw4⟩:=exq (w3.alloc (.cells #[.int .i64 1,.int .i64 1] 3))
  have hb4:Below w3.heap.size w3 w4:=by rw[hw4];exact(Below.refl _ _).alloc (Nat.le_refl _) _
  have HY4:=hid (show zAJ w4 (some ⟨w3.heap.size,0,none⟩) [1,1]by rw[hw4];exact ints2 w3 1 1 3)
  have HB4:=hid (zAA HB3.out hb4)
  rw[<- hw4]
  clear hb4 hw4
  refine⟨fun _=>HS.out _ HB4.out,?_⟩
  refine AnyT.nx (i:=8) rfl ?_
  go_wp2_with (go_at_call 72;refine(two5_c _).mono ?_;rintro e w5 ⟨hb5,a4,cap4,rfl,hR4⟩;have HB5:=hid (zAA HB4.out hb5);have HPV2:=hid (HPV.out _ a4 (some ⟨w3.heap.size,0,none⟩) cap4 2 HB5.out hR4 (HY4.out.below hb5));clear hb5 hR4;refine Stop.of ?_)
  refine Stop.go ?_
  go_wp2
  refine⟨fun _=>HS.out _ HB5.out,?_⟩
  refine AnyT.nx (i:=11) rfl ?_
  go_wp2_with (go_at_call 61;refine HPV2.out.mono ?_;rintro e w8 ⟨rfl,hb8⟩;have HB8:=hid (zAA HB5.out hb8);clear hb8;refine Stop.of ?_)
  refine Stop.go ?_
  go_wp2
  refine⟨fun _=>HS.out _ HB8.out,?_⟩
  refine AnyT.nx (i:=12) rfl ?_
  go_wp2
  refine⟨fun _=>HS.out _ HB8.out,?_⟩
  refine AnyT.nx (i:=13) rfl ?_
  go_wp2
  refine⟨fun _=>HS.out _ HB8.out,?_⟩
  refine AnyT.done (by kernel_rfl) ?_ _
  go_wp2
  go_ret
  exact⟨rfl,zAA HBW.out HB8.out⟩
end
section
open Go.RowKit
def AnyB(e:Ending):Prop:=∃b,e=.returned (.bool b)
theorem AnyB.of{e:Ending}(b:Bool)(h:e=.returned (.bool b)):AnyB e:=⟨b,h⟩
theorem pics_two{W:World}{a2 a3:Option Addr}{n2 cap2 n3 cap3:Nat}{h g:List Rt}(hn2:h.length=n2)(hm2:n2<=maxLen)(H2:zAX W a2 h)(hn3:g.length=n3)(hm3:n3<=maxLen)(H3:zAX W a3 g):
 PicsAt (W.alloc (.cells #[.slice a2 n2 cap2,.slice a3 n3 cap3] 42)) (some ⟨W.heap.size,0,none⟩) [h,g]:=by
 have hb:Below W.heap.size W (W.alloc (.cells #[.slice a2 n2 cap2,.slice a3 n3 cap3] 42)):=(Below.refl _ _).alloc (Nat.le_refl _) _
 intro j hj
 match j,hj with
 |0,_=>exact⟨_,0,a2,n2,cap2,rfl,by simp,by rw[World.cell?_alloc_at _ _ _ _ rfl];rfl,hn2,hm2,H2.below hb⟩
 |1,_=>exact⟨_,0,a3,n3,cap3,rfl,by simp,by rw[World.cell?_alloc_at _ _ _ _ rfl];rfl,hn3,hm3,H3.below hb⟩
end
end Go.Proofs.YtlffndehhhpgjaaGreat

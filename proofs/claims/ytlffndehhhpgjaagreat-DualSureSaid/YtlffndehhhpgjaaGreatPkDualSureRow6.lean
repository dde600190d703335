/- Walks and plain laws for DualSureRow, part 6. -/
import Derived.Laws.Externs
import Derived.BigQuiet
import Derived.Test.YtlffndehhhpgjaaGreatPkDualSureRow5
namespace Go.Proofs.YtlffndehhhpgjaaGreat
set_option linter.unusedVariables false
set_option linter.unusedSimpArgs false
set_option maxRecDepth 100000
set_option maxHeartbeats 4000000
section
section
open Go.RowKit Go.Lib
theorem AnyT.nextB{P:Program}{md:Region.Mode}{ops:Array Oper}{Q:Exit->Act->World->Prop}{T:Nat->World->Prop}{i j:Nat}{fuel:Nat}{listed:Array Bool}{a:Act}{w:World}(hr:Region.ready md ops listed=[i,j])
 (h1:wpOp P ops Q i (fun a' w'=>T i w'∧AnyT P md ops Q T fuel (listed.setIfInBounds i true) a' w') a w)
 (h2:wpOp P ops Q j (fun a' w'=>T j w'∧AnyT P md ops Q T fuel (listed.setIfInBounds j true) a' w') a w):AnyT P md ops Q T (fuel+1) listed a w:=
 ⟨fun h0=>(by rw[hr]at h0;cases h0),fun k hk=>by
   rw[hr]at hk
   have:k=i∨k=j:=by simpa using hk
   rcases this with rfl|rfl
   ·exact h1
   ·exact h2⟩
theorem add64(x y b:Int)(hx:0<=x)(hx':x<18446744073709551616)(hy:0<=y)(hy':y<18446744073709551616)(hb0:0<=b)(hb:b<=1)(w:World):(callFunc 212 #[.int .u64 x,.int .u64 y,.int .u64 b]).run Tryz.prog w=
 .ok (.value (.tuple #[.int .u64 ((x+y+b)%18446744073709551616),.int .u64 ((x+y+b)/18446744073709551616)])) w:=by
 rw[run_callFunc_extern Tryz.func212 (by kernel_rfl) (by kernel_rfl) (by kernel_rfl) (e:=add64Entry) (by kernel_rfl),run_add64 x y b (by omega) (by omega) (by omega) (by omega)]
 simp only[Result.andThen]
theorem zIK(w:World)(V U:Int)(h: -170141183460469231731687303715884105728<=V+U∧V+U<170141183460469231731687303715884105728)(hV: -170141183460469231731687303715884105728<=V∧V<170141183460469231731687303715884105728)(hU: -170141183460469231731687303715884105728<=U∧U<170141183460469231731687303715884105728):
 Calls Tryz.prog 161 #[zBZ V,zBZ U] w fun e w'=>e=.returned (zBZ (V+U))∧Below w.heap.size w w':=by
 unfold zBZ
 obtain⟨a,ha⟩:=exq (V/18446744073709551616)
 obtain⟨b,hb⟩:=exq (V%18446744073709551616)
 obtain⟨c,hc⟩:=exq (U/18446744073709551616)
 obtain⟨d,hd⟩:=exq (U%18446744073709551616)
 obtain⟨r1,hr1⟩:=exq ((V+U)/18446744073709551616)
 obtain⟨r2,hr2⟩:=exq ((V+U)%18446744073709551616)
 obtain⟨k,hk⟩:=exq ((b+d+0)/18446744073709551616)
 obtain⟨a',ha'⟩:∃k,k=IntKind.u64.wrap a:=⟨_,rfl⟩
 obtain⟨c',hc'⟩:∃k,k=IntKind.u64.wrap c:=⟨_,rfl⟩
 have ea:a'=a%18446744073709551616:=by rw[ha',IntKind.wrap_u64]
 have ec:c'=c%18446744073709551616:=by rw[hc',IntKind.wrap_u64]
 obtain⟨s,hs⟩:=exq ((a'+c'+k)%18446744073709551616)
 obtain⟨t,ht⟩:=exq ((a'+c'+k)/18446744073709551616)
 have k0:0<=k∧k<=1:=by omega
 have s1:∀w,(callFunc 212 #[.int .u64 b,.int .u64 d,.int .u64 0]).run Tryz.prog w=.ok (.value (.tuple #[.int .u64 r2,.int .u64 k])) w:=fun w=>by
  rw[add64 b d 0 (by omega) (by omega) (by omega) (by omega) (by decide) (by decide),<- hk,show(b+d+0)%18446744073709551616=r2 by omega]
 have s2:∀w,(callFunc 212 #[.int .u64 a',.int .u64 c',.int .u64 k]).run Tryz.prog w=.ok (.value (.tuple #[.int .u64 s,.int .u64 t])) w:=fun w=>by
  rw[add64 a' c' k (by omega) (by omega) (by omega) (by omega) k0.1 k0.2,<- hs,<- ht]
 have hw:IntKind.i64.wrap s=r1:=by rw[IntKind.wrap_i64];omega
 have ha2:IntKind.u64.wrap a=a':=ha'.symm
 have hc2:IntKind.u64.wrap c=c':=hc'.symm
 rw[<- ha,<- hb,<- hc,<- hd,<- hr1,<- hr2]
 clear ha hb hc hd hr1 hr2 hk ha' hc' ea ec hs ht k0 h hV hU
 go_enter Tryz.func161,Tryz.ntmps161
 go_wp2_with (first|simp only[s1]|simp only[s2])
 simp[bodyPost,results,Tryz.results161,go_sem]
 exact(((Below.refl _ _).alloc (Nat.le_refl _) _).alloc (by simp) _).alloc (by simp;omega) _
theorem zKD(w:World)(V:Int)(hV: -170141183460469231731687303715884105728<V∧V<170141183460469231731687303715884105728):
 Calls Tryz.prog 149 #[zBZ V] w fun e w'=>e=.returned (zBZ (-V))∧Below w.heap.size w w':=by
 unfold zBZ
 obtain⟨a,ha⟩:=exq (V/18446744073709551616)
 obtain⟨l,hl⟩:=exq (V%18446744073709551616)
 obtain⟨R1,hR1⟩:=exq ((-V)/18446744073709551616)
 obtain⟨R2,hR2⟩:=exq ((-V)%18446744073709551616)
 obtain⟨b,hb⟩:∃b:Int,b=if (0:Int)<l then 1 else 0:=⟨_,rfl⟩
 have b0:0<=b:=by rw[hb];split<;>decide
 have b1:b<=1:=by rw[hb];split<;>decide
 have hbl:(0<l->b=1)∧(¬0<l->b=0):=by rw[hb];exact⟨fun h=>if_pos h,fun h=>if_neg h⟩
 obtain⟨h,hh⟩:=exq (IntKind.u64.wrap a)
 have eh:h=a%18446744073709551616:=by rw[hh,IntKind.wrap_u64]
 obtain⟨R3,hR3⟩:=exq ((0-h-b)%18446744073709551616)
 obtain⟨bo,hbo⟩:∃bo:Int,bo=if 0<h+b then 1 else 0:=⟨_,rfl⟩
 have s1:∀w,(callFunc 208 #[.int .u64 0,.int .u64 l,.int .u64 0]).run Tryz.prog w=.ok (.value (.tuple #[.int .u64 R2,.int .u64 b])) w:=fun w=>by
  rw[sub64_0 0 l (by decide) (by omega) (by omega),<- hb,show(0-l)%18446744073709551616=R2 by omega]
 have s2:∀w,(callFunc 208 #[.int .u64 0,.int .u64 h,.int .u64 b]).run Tryz.prog w=.ok (.value (.tuple #[.int .u64 R3,.int .u64 bo])) w:=fun w=>by
  rw[sub64 0 h b (by decide) (by omega) (by omega) b0 b1,<- hR3,<- hbo]
 have hw:IntKind.i64.wrap R3=R1:=by
  rw[IntKind.wrap_i64]
  rcases Int.lt_or_le 0 l with h1|h1
  ·have:=hbl.1 h1;omega
  ·have:=hbl.2 (by omega);omega
 have hu:IntKind.u64.wrap a=h:=hh.symm
 rw[<- ha,<- hl,<- hR1,<- hR2]
 clear ha hl hR1 hR2 hb b0 b1 hbl hh eh hR3 hbo hV
 go_enter Tryz.func149,Tryz.ntmps149
 go_wp2_with (first|simp only[s1]|simp only[s2])
 simp[bodyPost,results,Tryz.results149,go_sem]
 exact((Below.refl _ _).alloc (Nat.le_refl _) _).alloc (by simp) _
def sumV(n d:Int):Value:=.agg #[.int .i64 (n/18446744073709551616),.int .u64 (n%18446744073709551616),.int .i64 (d/18446744073709551616),.int .u64 (d%18446744073709551616)]
theorem zMP(w:World):Calls Tryz.prog 95 #[] w fun e w'=>e=.returned (sumV 0 1)∧Below w.heap.size w w':=by
 have h0:sumV 0 1=.agg #[.int .i64 0,.int .u64 0,.int .i64 0,.int .u64 1]:=by simp[sumV]
 rw[h0]
 go_enter Tryz.func95,Tryz.ntmps95
 go_wp2
 simp[bodyPost,results,Tryz.results95,go_sem]
 exact(Below.refl _ _).alloc (Nat.le_refl _) _
theorem div_mod_join{P HX q o r K:Nat}(h:P=HX*K+q)(ho:o=q/K)(hr:r=q%K):P=(HX+o)*K+r:=by
 have:=Nat.div_add_mod q K
 rw[<- ho,<- hr,Nat.mul_comm]at this
 rw[h,Nat.add_mul];omega
theorem mul_split{v H l K x:Nat}(hv:v=H*K+l):v*x=H*x*K+l*x:=by rw[hv,Nat.add_mul,Nat.mul_right_comm]
theorem wtimes0_c(w:World)(V n:Int)(h0:0<=V)(hV:V<170141183460469231731687303715884105728)(hn: -9223372036854775808<n∧n<=9223372036854775807)(hP:V*(n.natAbs:Nat)<170141183460469231731687303715884105728):
 Calls Tryz.prog 151 #[zBZ V,.int .i64 n] w fun e w'=>e=.returned (zBZ (V*n))∧Below w.heap.size w w':=by
 have HSZ:=hid (fun X=>size_c X n ⟨by omega,hn.2⟩)
 obtain⟨x,hx⟩:=exq (n.natAbs)
 rw[<- hx]at HSZ hP
 obtain⟨v,rfl⟩:=Int.eq_ofNat_of_zero_le h0
 have hx1:x<=9223372036854775807:=by omega
 obtain⟨H,hH⟩:=exq (v/18446744073709551616)
 obtain⟨l,hl⟩:=exq (v%18446744073709551616)
 have hv:v=H*18446744073709551616+l:=by omega
 have hl1:l<18446744073709551616:=by omega
 have hPn:v*x<170141183460469231731687303715884105728:=by rw[<- Int.natCast_mul]at hP;omega
 have hmul:v*x=H*x*18446744073709551616+l*x:=mul_split hv
 obtain⟨HX,hHX⟩:=exq (H*x)
 obtain⟨o,ho⟩:=exq (l*x/18446744073709551616)
 obtain⟨r,hr⟩:=exq (l*x%18446744073709551616)
 have HM:=hid (fun X=>mul64_c l x hl1 (by omega) X)
 rw[<- ho,<- hr]at HM
 obtain⟨P,hPe⟩:=exq (v*x)
 rw[<- hPe]at hPn hmul
 rw[<- hHX]at hmul
 have hPd:P=(HX+o)*18446744073709551616+r:=div_mod_join hmul ho hr
 have hsum:HX+o<9223372036854775808:=by omega
 have hr1:r<18446744073709551616:=by omega
 have hw0:zBZ (v:Int)=.agg #[.int .i64 H,.int .u64 l]:=by
  unfold zBZ
  rw[show(v:Int)/18446744073709551616=H by omega,show(v:Int)%18446744073709551616=l by omega]
 obtain⟨R,hR⟩:∃R:Nat,R=HX+o:=⟨_,rfl⟩
 have hwP:zBZ (P:Int)=.agg #[.int .i64 R,.int .u64 r]:=by
  unfold zBZ
  rw[show(P:Int)/18446744073709551616=R by omega,show(P:Int)%18446744073709551616=r by omega]
 have HWP:=hid hwP
 have e1:IntKind.i64.wrap (x:Int)=x:=IntWalk.i64_in _ (by omega)
 have e2:IntKind.i64.wrap ((H:Int)*x)=HX:=by rw[show(H:Int)*x=(HX:Int)by rw[hHX];simp];exact IntWalk.i64_in _ (by omega)
 have e3:IntKind.i64.wrap (o:Int)=o:=IntWalk.i64_in _ (by omega)
 have e4:IntKind.i64.wrap ((HX:Int)+o)=R:=by rw[IntWalk.i64_in _ (by omega)];omega
 have hneg:¬((H:Int)<0):=by omega
 have hres:(v:Int)*n=if n<0 then-(P:Int)else(P:Int):=by
  have:(P:Int)=(v:Int)*x:=by rw[hPe];simp
  split
  ·rw[this,show n= -(x:Int)by omega,Int.mul_neg]
  ·rw[this,show n=(x:Int)by omega]
 have HO:=hid (fun X=>zKD X (P:Int) (by omega))
 rw[hwP]at HO
 rw[hw0,hres]
 clear hwP
 obtain⟨s,hs⟩:=exq (w.heap.size)
 obtain⟨wa,hwa⟩:=exq ((w.alloc (.cells #[.int .i64 H,.int .u64 l] 100)).alloc (.cells #[.int .i64 0,.int .u64 0] 100))
 have hba:Below w.heap.size w wa:=by rw[hwa];exact((Below.refl _ _).alloc (Nat.le_refl _) _).alloc (by simp) _
 have l0:=zAR (W:=wa) (b:=s) (o:=0) (by rw[hwa,hs];simp;omega) (show _=some (.int .i64 H)by rw[hwa,hs,World.cell?_alloc_past _ _ _ (by simp),World.cell?_alloc_at _ _ _ _ rfl];rfl)
 have l1:=zAR (W:=wa) (b:=s) (o:=1) (by rw[hwa,hs];simp;omega) (show _=some (.int .u64 l)by rw[hwa,hs,World.cell?_alloc_past _ _ _ (by simp),World.cell?_alloc_at _ _ _ _ rfl];rfl)
 have q0:wa.heap[s+1]? =some (.cells #[.int .i64 0,.int .u64 0] 100 (0,0)):=by
  have:=World.alloc_heap_new (w.alloc (.cells #[.int .i64 H,.int .u64 l] 100)) (.cells #[.int .i64 0,.int .u64 0] 100)
  rw[hwa,hs]
  simpa using this
 have hs1:s+1<wa.heap.size:=(Array.getElem?_eq_some_iff.1 q0).1
 have HS:=hid (fun(Y:World) (hY:Below wa.heap.size wa Y)=>show Y.cell? ⟨s,0,none⟩=some (.int .i64 H)from by
  refine(hY.cell (p:=⟨s,0,none⟩) (by show s<_;omega)).trans ?_
  rw[hwa,hs,World.cell?_alloc_past _ _ _ (by simp),World.cell?_alloc_at _ _ _ _ rfl];rfl)
 have HR:=hid (fun(Y:World) (hY:Below wa.heap.size wa Y)=>show Y.cell? ⟨s+1,0,none⟩=some (.int .i64 0)∧Y.cell? ⟨s+1,1,none⟩=some (.int .u64 0)∧Y.frozen? ⟨s+1,0,none⟩=false∧Y.frozen? ⟨s+1,1,none⟩=false∧s+1<Y.heap.size from by
  have h1:=(hY.block (s+1) hs1).trans q0
  exact⟨by simp[World.cell?,h1],by simp[World.cell?,h1],by simp[World.frozen?,h1],by simp[World.frozen?,h1],(Array.getElem?_eq_some_iff.1 h1).1⟩)
 have HFIN:=hid (fun(Y:World) (hY:Below wa.heap.size wa Y) (u v:Value)=>show Below w.heap.size w ((Y.setCell ⟨s+1,0,none⟩ u).setCell ⟨s+1,1,none⟩ v)from
  zAM (zAM (zAB hba hY) (by omega) 0 u) (by omega) 1 v)
 clear hx hv hH hl hPn hP hmul hHX ho hr hPe hPd hsum hr1 hw0 hR hres h0 hV hn q0 hs1 hba
 go_enter Tryz.func151,Tryz.ntmps151
 go_wp2_with fail
 rw[<- hs,<- hwa]
 clear hs hwa
 go_wp2
 refine zCY (by kernel_rfl) (by kernel_rfl) ?_
 repeat (go_big_quiet_step (first
  | (go_at_call 210;exact zBV ((HSZ.out _).mono fun e w' ⟨h1,h2⟩=>⟨h1,h2▸Below.refl _ _⟩))
  | (go_at_call 209;exact zBV ((HM.out _).mono fun e w' ⟨h1,h2⟩=>⟨h1,h2▸Below.refl _ _⟩))))
 refine wpQuiet_nil ?_
 rintro _ ⟨X,rfl⟩
 have HB1:=hid (zCP wa X)
 go_wp2
 refine zAI (fun j' X=>wAll j'=true->X.cell? ⟨s,0,none⟩=some (.int .i64 H)) (by kernel_rfl) ?_
 have hbd:Below wa.heap.size wa (lift wa X).drew:=HB1.out.drew
 generalize (lift wa X).drew=wd at hbd⊢
 refine AnyT.tD (i:=0) (v:=.pointer (some ⟨s,0,none⟩)) rfl rfl (by rintro w' y1;go_simp) (HS.out _ hbd) ?_;go_frame
 refine AnyT.tD (i:=1) (v:=.int .i64 H) rfl rfl (by rintro w' y1;go_simp) (HS.out _ hbd) ?_;go_frame
 refine AnyT.tD (i:=2) (v:=.int .i64 n) rfl rfl (by rintro w' y1;go_simp) (HS.out _ hbd) ?_;go_frame
 refine AnyT.tD (i:=6) (v:=.int .u64 o) rfl rfl (by rintro w' y1;go_simp) (HS.out _ hbd) ?_;go_frame
 refine AnyT.tD (i:=7) (v:=.int .i64 o) rfl rfl (by rintro w' y1;go_simp) (HS.out _ hbd) ?_;go_frame
 refine AnyT.tD (i:=9) (v:=.int .u64 r) rfl rfl (by rintro w' y1;go_simp) (HS.out _ hbd) ?_;go_frame
 refine AnyT.nextB (i:=3) (j:=11) (by kernel_rfl) (wpOp_of_list rfl ?_) (wpOp_of_list rfl ?_)
 ·go_wp2_with (go_at_call 210;refine(HSZ.out _).mono ?_;rintro e w1 ⟨rfl,rfl⟩;refine Stop.of ?_)
  refine Stop.go ?_
  go_wp2
  refine⟨fun _=>HS.out _ hbd,?_⟩
  refine AnyT.tD (i:=4) (v:=.int .i64 x) rfl rfl (by rintro w' y1;go_simp) (HS.out _ hbd) ?_;go_frame
  refine AnyT.tD (i:=5) (v:=.int .i64 HX) rfl rfl (by rintro w' y1;go_simp) (HS.out _ hbd) ?_;go_frame
  refine AnyT.tD (i:=8) (v:=.int .i64 R) rfl rfl (by rintro w' y1;go_simp) (HS.out _ hbd) ?_;go_frame
  refine AnyT.tD (i:=10) (v:=.agg #[.int .i64 R,.int .u64 r]) rfl rfl (by rintro w' y1;go_simp) (HS.out _ hbd) ?_;go_frame
  refine AnyT.nx (i:=11) rfl ?_
  have hbA:Below wa.heap.size wa (wd.alloc (.cells #[.int .i64 0,.int .u64 0] 100)):=hbd.alloc hbd.size _
  go_wp2
  refine⟨fun _=>HS.out _ hbA,?_⟩
  refine AnyT.nx (i:=12) rfl ?_
  have hbF:Below wa.heap.size wa (wd.alloc (.cells #[.int .i64 R,.int .u64 r] 100)):=hbd.alloc hbd.size _
  have HBF:=hid hbF
  have HR2:=hid (HR.out _ hbF)
  have HQ:=hid (show ∀Y,Below (wd.alloc (.cells #[.int .i64 R,.int .u64 r] 100)).heap.size (wd.alloc (.cells #[.int .i64 R,.int .u64 r] 100)) Y->Y.cell? ⟨wd.heap.size,0,none⟩=some (.int .i64 R)∧Y.cell? ⟨wd.heap.size,1,none⟩=some (.int .u64 r)from fun Y hY=>by
   have h1:=(hY.block wd.heap.size (by simp)).trans (World.alloc_heap_new wd _)
   exact⟨by simp[World.cell?,h1],by simp[World.cell?,h1]⟩)
  clear hbA
  go_wp2
  refine⟨fun _=>HS.out _ HBF.out,?_⟩
  refine AnyT.done (by kernel_rfl) ?_ _
  clear hbF hbd
  obtain⟨wz,hwz⟩:=exq (wd.alloc (.cells #[.int .i64 R,.int .u64 r] 100))
  rw[<- hwz]at HBF HR2 HQ⊢
  clear hwz
  obtain⟨c0,c1,f0,f1,hlt⟩:=HR2.out
  obtain⟨d0,d1⟩:=HQ.out wz (Below.refl _ _)
  by_cases hn0:n<0
  ·have hnb:decide (n<0)=true:=by simp[hn0]
   go_wp2_with (go_at_call 149;refine(HO.out wz).mono ?_;rintro e w2 ⟨rfl,hb2⟩;refine Stop.of ?_)
   refine Stop.go ?_
   have HB2:=hid (zAB HBF.out hb2)
   obtain⟨c0,c1,f0,f1,hlt⟩:=HR.out _ HB2.out
   have HFI:=hid (HFIN.out _ HB2.out)
   have hwz:=(show zBZ (-(P:Int))=.agg #[.int .i64 ((-(P:Int))/18446744073709551616),.int .u64 ((-(P:Int))%18446744073709551616)]from rfl)
   obtain⟨z1,hz1⟩:=exq ((-(P:Int))/18446744073709551616)
   obtain⟨z2,hz2⟩:=exq ((-(P:Int))%18446744073709551616)
   rw[<- hz1,<- hz2]at hwz
   have HWZ:=hid hwz
   rw[hwz]
   clear hwz hb2 HFIN hz1 hz2
   go_wp2
   refine bodyPost_ret (v:=.agg #[.int .i64 z1,.int .u64 z2]) ?_ rfl ⟨by first|rw[HWZ.out]|rw[if_pos (by omega),HWZ.out],HFI.out _ _⟩
   simp[results,Tryz.results151,go_sem,c0,c1,f0,f1,hlt]
  ·have hnb:decide (n<0)=false:=by simp[hn0]
   have HFI:=hid (HFIN.out _ HBF.out)
   clear HFIN
   go_wp2
   refine bodyPost_ret (v:=.agg #[.int .i64 R,.int .u64 r]) ?_ rfl ⟨by first|rw[HWP.out]|rw[if_neg (by omega),HWP.out],HFI.out _ _⟩
   simp[results,Tryz.results151,go_sem,c0,c1,f0,f1,hlt]
 ·go_wp2
  have hbA:Below wa.heap.size wa (wd.alloc (.cells #[.int .i64 0,.int .u64 0] 100)):=hbd.alloc hbd.size _
  refine⟨fun _=>HS.out _ hbA,?_⟩
  refine AnyT.nx (i:=3) rfl ?_
  go_wp2_with (go_at_call 210;refine(HSZ.out _).mono ?_;rintro e w1 ⟨rfl,rfl⟩;refine Stop.of ?_)
  refine Stop.go ?_
  go_wp2
  refine⟨fun _=>HS.out _ hbA,?_⟩
  refine AnyT.tD (i:=4) (v:=.int .i64 x) rfl rfl (by rintro w' y1;go_simp) (HS.out _ hbA) ?_;go_frame
  refine AnyT.tD (i:=5) (v:=.int .i64 HX) rfl rfl (by rintro w' y1;go_simp) (HS.out _ hbA) ?_;go_frame
  refine AnyT.tD (i:=8) (v:=.int .i64 R) rfl rfl (by rintro w' y1;go_simp) (HS.out _ hbA) ?_;go_frame
  refine AnyT.tD (i:=10) (v:=.agg #[.int .i64 R,.int .u64 r]) rfl rfl (by rintro w' y1;go_simp) (HS.out _ hbA) ?_;go_frame
  refine AnyT.nx (i:=12) rfl ?_
  have hbF:Below wa.heap.size wa (wd.alloc (.cells #[.int .i64 R,.int .u64 r] 100)):=hbd.alloc hbd.size _
  have HBF:=hid hbF
  have HR2:=hid (HR.out _ hbF)
  have HQ:=hid (show ∀Y,Below (wd.alloc (.cells #[.int .i64 R,.int .u64 r] 100)).heap.size (wd.alloc (.cells #[.int .i64 R,.int .u64 r] 100)) Y->Y.cell? ⟨wd.heap.size,0,none⟩=some (.int .i64 R)∧Y.cell? ⟨wd.heap.size,1,none⟩=some (.int .u64 r)from fun Y hY=>by
   have h1:=(hY.block wd.heap.size (by simp)).trans (World.alloc_heap_new wd _)
   exact⟨by simp[World.cell?,h1],by simp[World.cell?,h1]⟩)
  clear hbA
  go_wp2
  refine⟨fun _=>HS.out _ HBF.out,?_⟩
  refine AnyT.done (by kernel_rfl) ?_ _
  clear hbF hbd
  obtain⟨wz,hwz⟩:=exq (wd.alloc (.cells #[.int .i64 R,.int .u64 r] 100))
  rw[<- hwz]at HBF HR2 HQ⊢
  clear hwz
  obtain⟨c0,c1,f0,f1,hlt⟩:=HR2.out
  obtain⟨d0,d1⟩:=HQ.out wz (Below.refl _ _)
  by_cases hn0:n<0
  ·have hnb:decide (n<0)=true:=by simp[hn0]
   go_wp2_with (go_at_call 149;refine(HO.out wz).mono ?_;rintro e w2 ⟨rfl,hb2⟩;refine Stop.of ?_)
   refine Stop.go ?_
   have HB2:=hid (zAB HBF.out hb2)
   obtain⟨c0,c1,f0,f1,hlt⟩:=HR.out _ HB2.out
   have HFI:=hid (HFIN.out _ HB2.out)
   have hwz:=(show zBZ (-(P:Int))=.agg #[.int .i64 ((-(P:Int))/18446744073709551616),.int .u64 ((-(P:Int))%18446744073709551616)]from rfl)
   obtain⟨z1,hz1⟩:=exq ((-(P:Int))/18446744073709551616)
   obtain⟨z2,hz2⟩:=exq ((-(P:Int))%18446744073709551616)
   rw[<- hz1,<- hz2]at hwz
   have HWZ:=hid hwz
   rw[hwz]
   clear hwz hb2 HFIN hz1 hz2
   go_wp2
   refine bodyPost_ret (v:=.agg #[.int .i64 z1,.int .u64 z2]) ?_ rfl ⟨by first|rw[HWZ.out]|rw[if_pos (by omega),HWZ.out],HFI.out _ _⟩
   simp[results,Tryz.results151,go_sem,c0,c1,f0,f1,hlt]
  ·have hnb:decide (n<0)=false:=by simp[hn0]
   have HFI:=hid (HFIN.out _ HBF.out)
   clear HFIN
   go_wp2
   refine bodyPost_ret (v:=.agg #[.int .i64 R,.int .u64 r]) ?_ rfl ⟨by first|rw[HWP.out]|rw[if_neg (by omega),HWP.out],HFI.out _ _⟩
   simp[results,Tryz.results151,go_sem,c0,c1,f0,f1,hlt]
theorem zHA(w:World)(V n:Int)(hV: -170141183460469231731687303715884105728<V∧V<170141183460469231731687303715884105728)(hn: -9223372036854775808<n∧n<=9223372036854775807)(hP:(V.natAbs*n.natAbs:Nat)<170141183460469231731687303715884105728):
 Calls Tryz.prog 151 #[zBZ V,.int .i64 n] w fun e w'=>e=.returned (zBZ (V*n))∧Below w.heap.size w w':=by
 by_cases h0:0<=V
 ·refine wtimes0_c w V n h0 hV.2 hn ?_
  rw[show V=((V.natAbs:Nat):Int)by omega,<- Int.natCast_mul]
  omega
 ·have HT:=hid (fun X=>wtimes0_c X (-V) n (by omega) (by omega) hn (by
   rw[show-V=((V.natAbs:Nat):Int)by omega,<- Int.natCast_mul]
   omega))
  have HO1:=hid (fun X=>zKD X V hV)
  have hbn: -170141183460469231731687303715884105728< -V*n∧ -V*n<170141183460469231731687303715884105728:=by
   have e:(-V*n).natAbs=V.natAbs*n.natAbs:=by rw[Int.natAbs_mul,Int.natAbs_neg]
   rw[<- e]at hP
   omega
  have HO2:=hid (fun X=>zKD X (-V*n) hbn)
  have hve: -(-V*n)=V*n:=by rw[Int.neg_mul,Int.neg_neg]
  rw[hve]at HO2
  obtain⟨Z,hZ⟩:=exq (V*n)
  obtain⟨Y,hY⟩:=exq (-V*n)
  rw[<- hZ]at HO2⊢
  rw[<- hY]at HT HO2
  obtain⟨a,ha⟩:=exq (V/18446744073709551616)
  obtain⟨l,hl⟩:=exq (V%18446744073709551616)
  have hw0:zBZ V=.agg #[.int .i64 a,.int .u64 l]:=by unfold zBZ;rw[<- ha,<- hl]
  have hwz:zBZ Z=.agg #[.int .i64 (Z/18446744073709551616),.int .u64 (Z%18446744073709551616)]:=rfl
  obtain⟨z1,hz1⟩:=exq (Z/18446744073709551616)
  obtain⟨z2,hz2⟩:=exq (Z%18446744073709551616)
  rw[<- hz1,<- hz2]at hwz
  rw[hw0]at HO1⊢
  rw[hwz]at HO2⊢
  have haN:a<0:=by omega
  obtain⟨s,hs⟩:=exq (w.heap.size)
  obtain⟨wa,hwa⟩:=exq ((w.alloc (.cells #[.int .i64 a,.int .u64 l] 100)).alloc (.cells #[.int .i64 0,.int .u64 0] 100))
  have hba:Below w.heap.size w wa:=by rw[hwa];exact((Below.refl _ _).alloc (Nat.le_refl _) _).alloc (by simp) _
  have q0:wa.heap[s+1]? =some (.cells #[.int .i64 0,.int .u64 0] 100 (0,0)):=by
   have:=World.alloc_heap_new (w.alloc (.cells #[.int .i64 a,.int .u64 l] 100)) (.cells #[.int .i64 0,.int .u64 0] 100)
   rw[hwa,hs]
   simpa using this
  have hs1:s+1<wa.heap.size:=(Array.getElem?_eq_some_iff.1 q0).1
  have c00:wa.cell? ⟨s,0,none⟩=some (.int .i64 a):=by rw[hwa,hs,World.cell?_alloc_past _ _ _ (by simp),World.cell?_alloc_at _ _ _ _ rfl];rfl
  have c01:wa.cell? ⟨s,1,none⟩=some (.int .u64 l):=by rw[hwa,hs,World.cell?_alloc_past _ _ _ (by simp),World.cell?_alloc_at _ _ _ _ rfl];rfl
  have HR:=hid (fun(Y:World) (hY:Below wa.heap.size wa Y)=>show Y.cell? ⟨s+1,0,none⟩=some (.int .i64 0)∧Y.cell? ⟨s+1,1,none⟩=some (.int .u64 0)∧Y.frozen? ⟨s+1,0,none⟩=false∧Y.frozen? ⟨s+1,1,none⟩=false∧s+1<Y.heap.size from by
   have h1:=(hY.block (s+1) hs1).trans q0
   exact⟨by simp[World.cell?,h1],by simp[World.cell?,h1],by simp[World.frozen?,h1],by simp[World.frozen?,h1],(Array.getElem?_eq_some_iff.1 h1).1⟩)
  have HFIN:=hid (fun(Y:World) (hY:Below wa.heap.size wa Y) (u v:Value)=>show Below w.heap.size w ((Y.setCell ⟨s+1,0,none⟩ u).setCell ⟨s+1,1,none⟩ v)from
   zAM (zAM (zAB hba hY) (by omega) 0 u) (by omega) 1 v)
  clear hV hn hP h0 hbn hve hZ hY ha hl hw0 hwz hz1 hz2 q0 hs1 hba
  go_enter Tryz.func151,Tryz.ntmps151
  go_wp2_with fail
  rw[<- hs,<- hwa]
  clear hs hwa
  go_wp2_with (go_at_call 149;refine(HO1.out _).mono ?_;rintro e w1 ⟨rfl,hb1⟩;refine Stop.of ?_)
  refine Stop.go ?_
  have HB1:=hid hb1
  clear hb1
  go_wp2_with (go_at_call 151;refine(HT.out _).mono ?_;rintro e w2 ⟨rfl,hb2⟩;refine Stop.of ?_)
  refine Stop.go ?_
  have HB2:=hid (zAB HB1.out hb2)
  clear hb2
  go_wp2_with (go_at_call 149;refine(HO2.out _).mono ?_;rintro e w3 ⟨rfl,hb3⟩;refine Stop.of ?_)
  refine Stop.go ?_
  have hb:=zAB HB2.out hb3
  obtain⟨c0,c1,f0,f1,hlt⟩:=HR.out _ hb
  have HFI:=hid (HFIN.out _ hb)
  clear hb hb3 HFIN
  go_wp2
  refine bodyPost_ret (v:=.agg #[.int .i64 z1,.int .u64 z2]) ?_ rfl ⟨rfl,HFI.out _ _⟩
  simp[results,Tryz.results151,go_sem,c0,c1,f0,f1,hlt]
end
section
open Go.RowKit Go.Lib
def B127(V:Int):Prop:= -170141183460469231731687303715884105728<V∧V<170141183460469231731687303715884105728
def WP(V a b:Int):Prop:=a=V/18446744073709551616∧b=V%18446744073709551616
theorem WP.ex(V:Int):∃a b,WP V a b:=⟨_,_,rfl,rfl⟩
theorem WP.val{V a b:Int}(h:WP V a b):zBZ V=.agg #[.int .i64 a,.int .u64 b]:=by rw[h.1,h.2];rfl
theorem WP.sum{V U a b c d:Int}(h:WP V a b)(k:WP U c d):sumV V U=.agg #[.int .i64 a,.int .u64 b,.int .i64 c,.int .u64 d]:=by rw[h.1,h.2,k.1,k.2];rfl
theorem zMU(w:World)(n d N D t:Int)(hn:B127 n)(hd:B127 d)(hD: -9223372036854775808<D∧D<=9223372036854775807)(hNt: -9223372036854775808<N*t∧N*t<=9223372036854775807)
 (h1:B127 (n*D))(h2:B127 (d*(N*t)))(h3:B127 (n*D+d*(N*t)))(h4:B127 (d*D)):
 Calls Tryz.prog 96 #[sumV n d,ratV (N,D),.int .i64 t] w fun e w'=>e=.returned (sumV (n*D+d*(N*t)) (d*D))∧Below w.heap.size w w':=by
 have nb:∀a b:Int,B127 (a*b)->(a.natAbs*b.natAbs:Nat)<170141183460469231731687303715884105728:=fun a b h=>by
  rw[<- Int.natAbs_mul];unfold B127 at h;omega
 have HT1:=hid (fun X=>zHA X n D hn hD (nb _ _ h1))
 have HT2:=hid (fun X=>zHA X d (N*t) hd hNt (nb _ _ h2))
 have HT3:=hid (fun X=>zHA X d D hd hD (nb _ _ h4))
 have HPL:=hid (fun X=>zIK X (n*D) (d*(N*t)) (by unfold B127 at h3;omega) (by unfold B127 at h1;omega) (by unfold B127 at h2;omega))
 have hnt:IntKind.i64.wrap (N*t)=N*t:=IntWalk.i64_in _ (by omega)
 obtain⟨n1,n2,pn⟩:=WP.ex n
 obtain⟨d1,d2,pd⟩:=WP.ex d
 obtain⟨a1,a2,pA⟩:=WP.ex (n*D)
 obtain⟨b1,b2,pB⟩:=WP.ex (d*(N*t))
 obtain⟨s1,s2,pS⟩:=WP.ex (n*D+d*(N*t))
 obtain⟨c1,c2,pC⟩:=WP.ex (d*D)
 rw[pn.val,pA.val]at HT1
 rw[pd.val,pB.val]at HT2
 rw[pd.val,pC.val]at HT3
 rw[pA.val,pB.val,pS.val]at HPL
 rw[pn.sum pd,pS.sum pC]
 obtain⟨m,hm⟩:=exq (N*t)
 rw[<- hm]at HT2
 have hmul:IntKind.i64.wrap (N*t)=m:=by rw[hnt,hm]
 clear hnt hm nb hn hd hD hNt h1 h2 h3 h4 pn pd pA pB pS pC
 obtain⟨s,hs⟩:=exq (w.heap.size)
 obtain⟨wa,hwa⟩:=exq (((w.alloc (.cells #[.int .i64 n1,.int .u64 n2,.int .i64 d1,.int .u64 d2] 102)).alloc (.cells #[.int .i64 N,.int .i64 D] 29)).alloc (.cells #[.int .i64 0,.int .u64 0,.int .i64 0,.int .u64 0] 102))
 have hba:Below w.heap.size w wa:=by rw[hwa];exact(((Below.refl _ _).alloc (Nat.le_refl _) _).alloc (by simp) _).alloc (by simp;omega) _
 have q0:wa.heap[s+2]? =some (.cells #[.int .i64 0,.int .u64 0,.int .i64 0,.int .u64 0] 102 (0,0)):=by
  have:=World.alloc_heap_new ((w.alloc (.cells #[.int .i64 n1,.int .u64 n2,.int .i64 d1,.int .u64 d2] 102)).alloc (.cells #[.int .i64 N,.int .i64 D] 29)) (.cells #[.int .i64 0,.int .u64 0,.int .i64 0,.int .u64 0] 102)
  rw[hwa,hs]
  simpa using this
 have hs1:s+2<wa.heap.size:=(Array.getElem?_eq_some_iff.1 q0).1
 have hc:∀o v,(#[Value.int .i64 n1,.int .u64 n2,.int .i64 d1,.int .u64 d2]:Array Value)[o]? =some v->wa.cell? ⟨s,o,none⟩=some v:=fun o v h=>by
  rw[hwa,hs,World.cell?_alloc_past _ _ _ (by simp;omega),World.cell?_alloc_past _ _ _ (by simp),World.cell?_alloc_at _ _ _ _ rfl];exact h
 have hc2:∀o v,(#[Value.int .i64 N,.int .i64 D]:Array Value)[o]? =some v->wa.cell? ⟨s+1,o,none⟩=some v:=fun o v h=>by
  rw[hwa,hs,World.cell?_alloc_past _ _ _ (by simp),World.cell?_alloc_at _ _ _ _ (by simp)];exact h
 have HS:=hid (fun(Y:World) (hY:Below wa.heap.size wa Y)=>show Y.cell? ⟨s,0,none⟩=some (.int .i64 n1)∧Y.cell? ⟨s,1,none⟩=some (.int .u64 n2)∧Y.cell? ⟨s,2,none⟩=some (.int .i64 d1)∧Y.cell? ⟨s,3,none⟩=some (.int .u64 d2)∧Y.cell? ⟨s+1,0,none⟩=some (.int .i64 N)∧Y.cell? ⟨s+1,1,none⟩=some (.int .i64 D)from by
  have k0:∀o,Y.cell? ⟨s,o,none⟩=wa.cell? ⟨s,o,none⟩:=fun o=>hY.cell (p:=⟨s,o,none⟩) (by show s<_;omega)
  have k1:∀o,Y.cell? ⟨s+1,o,none⟩=wa.cell? ⟨s+1,o,none⟩:=fun o=>hY.cell (p:=⟨s+1,o,none⟩) (by show s+1<_;omega)
  exact⟨(k0 0).trans (hc 0 _ rfl),(k0 1).trans (hc 1 _ rfl),(k0 2).trans (hc 2 _ rfl),(k0 3).trans (hc 3 _ rfl),(k1 0).trans (hc2 0 _ rfl),(k1 1).trans (hc2 1 _ rfl)⟩)
 have HR:=hid (fun(Y:World) (hY:Below wa.heap.size wa Y)=>show Y.cell? ⟨s+2,0,none⟩=some (.int .i64 0)∧Y.cell? ⟨s+2,1,none⟩=some (.int .u64 0)∧Y.cell? ⟨s+2,2,none⟩=some (.int .i64 0)∧Y.cell? ⟨s+2,3,none⟩=some (.int .u64 0)∧(∀o,Y.frozen? ⟨s+2,o,none⟩=false)∧s+2<Y.heap.size from by
  have h1:=(hY.block (s+2) hs1).trans q0
  exact⟨by simp[World.cell?,h1],by simp[World.cell?,h1],by simp[World.cell?,h1],by simp[World.cell?,h1],fun o=>by simp[World.frozen?,h1],(Array.getElem?_eq_some_iff.1 h1).1⟩)
 have HFIN:=hid (fun(Y:World) (hY:Below wa.heap.size wa Y) (u v x z:Value)=>show Below w.heap.size w ((((Y.setCell ⟨s+2,0,none⟩ u).setCell ⟨s+2,1,none⟩ v).setCell ⟨s+2,2,none⟩ x).setCell ⟨s+2,3,none⟩ z)from
  zAM (zAM (zAM (zAM (zAB hba hY) (by omega) 0 u) (by omega) 1 v) (by omega) 2 x) (by omega) 3 z)
 have HFA:=hid (fun(Y:World) (hY:Below wa.heap.size wa Y) (u v x z:Value)=>show Below wa.heap.size wa wa∧∀o:Nat,True from⟨Below.refl _ _,fun _=>trivial⟩)
 clear hba q0 hs1 hc hc2 HFA
 go_enter Tryz.func96,Tryz.ntmps96
 simp only[ratV]
 go_wp2_with fail
 rw[<- hs,<- hwa]
 clear hs hwa
 refine zAI (fun j' X=>decide (j'<=18)=true->X.cell? ⟨s,0,none⟩=some (.int .i64 n1)∧X.cell? ⟨s,1,none⟩=some (.int .u64 n2)∧X.cell? ⟨s,2,none⟩=some (.int .i64 d1)∧X.cell? ⟨s,3,none⟩=some (.int .u64 d2)∧X.cell? ⟨s+1,0,none⟩=some (.int .i64 N)∧X.cell? ⟨s+1,1,none⟩=some (.int .i64 D)) (by kernel_rfl) ?_
 have hbd:Below wa.heap.size wa wa.drew:=(Below.refl _ _).drew
 generalize wa.drew=wd at hbd⊢
 refine AnyT.tD (i:=0) (v:=.pointer (some ⟨s,0,none⟩)) rfl rfl (by rintro w' ⟨y1,y2,y3,y4,y5,y6⟩;go_simp) (HS.out _ hbd) ?_;go_frame
 refine AnyT.tD (i:=1) (v:=.agg #[.int .i64 n1,.int .u64 n2]) rfl rfl (by rintro w' ⟨y1,y2,y3,y4,y5,y6⟩;go_simp) (HS.out _ hbd) ?_;go_frame
 refine AnyT.tD (i:=2) (v:=.pointer (some ⟨s+1,1,none⟩)) rfl rfl (by rintro w' ⟨y1,y2,y3,y4,y5,y6⟩;go_simp) (HS.out _ hbd) ?_;go_frame
 refine AnyT.tD (i:=3) (v:=.int .i64 D) rfl rfl (by rintro w' ⟨y1,y2,y3,y4,y5,y6⟩;go_simp) (HS.out _ hbd) ?_;go_frame
 refine AnyT.tD (i:=5) (v:=.pointer (some ⟨s,2,none⟩)) rfl rfl (by rintro w' ⟨y1,y2,y3,y4,y5,y6⟩;go_simp) (HS.out _ hbd) ?_;go_frame
 refine AnyT.tD (i:=6) (v:=.agg #[.int .i64 d1,.int .u64 d2]) rfl rfl (by rintro w' ⟨y1,y2,y3,y4,y5,y6⟩;go_simp) (HS.out _ hbd) ?_;go_frame
 refine AnyT.tD (i:=7) (v:=.pointer (some ⟨s+1,0,none⟩)) rfl rfl (by rintro w' ⟨y1,y2,y3,y4,y5,y6⟩;go_simp) (HS.out _ hbd) ?_;go_frame
 refine AnyT.tD (i:=8) (v:=.int .i64 N) rfl rfl (by rintro w' ⟨y1,y2,y3,y4,y5,y6⟩;go_simp) (HS.out _ hbd) ?_;go_frame
 refine AnyT.tD (i:=9) (v:=.int .i64 t) rfl rfl (by rintro w' ⟨y1,y2,y3,y4,y5,y6⟩;go_simp) (HS.out _ hbd) ?_;go_frame
 refine AnyT.tD (i:=10) (v:=.int .i64 m) rfl rfl (by rintro w' ⟨y1,y2,y3,y4,y5,y6⟩;go_simp) (HS.out _ hbd) ?_;go_frame
 refine AnyT.tD (i:=13) (v:=.pointer (some ⟨s,2,none⟩)) rfl rfl (by rintro w' ⟨y1,y2,y3,y4,y5,y6⟩;go_simp) (HS.out _ hbd) ?_;go_frame
 refine AnyT.tD (i:=14) (v:=.agg #[.int .i64 d1,.int .u64 d2]) rfl rfl (by rintro w' ⟨y1,y2,y3,y4,y5,y6⟩;go_simp) (HS.out _ hbd) ?_;go_frame
 refine AnyT.tD (i:=15) (v:=.pointer (some ⟨s+1,1,none⟩)) rfl rfl (by rintro w' ⟨y1,y2,y3,y4,y5,y6⟩;go_simp) (HS.out _ hbd) ?_;go_frame
 refine AnyT.tD (i:=16) (v:=.int .i64 D) rfl rfl (by rintro w' ⟨y1,y2,y3,y4,y5,y6⟩;go_simp) (HS.out _ hbd) ?_;go_frame
 refine AnyT.nx (i:=4) rfl ?_
 go_wp2_with (go_at_call 151;refine(HT1.out _).mono ?_;rintro e w1 ⟨rfl,hbw1⟩;refine Stop.of ?_)
 refine Stop.go ?_
 have HB1:=hid (zAB hbd hbw1)
 clear hbw1
 go_wp2
 refine⟨fun _=>HS.out _ HB1.out,?_⟩
 refine AnyT.nx (i:=11) rfl ?_
 go_wp2_with (go_at_call 151;refine(HT2.out _).mono ?_;rintro e w2 ⟨rfl,hbw2⟩;refine Stop.of ?_)
 refine Stop.go ?_
 have HB2:=hid (zAB HB1.out hbw2)
 clear hbw2
 go_wp2
 refine⟨fun _=>HS.out _ HB2.out,?_⟩
 refine AnyT.nx (i:=12) rfl ?_
 go_wp2_with (go_at_call 161;refine(HPL.out _).mono ?_;rintro e w3 ⟨rfl,hbw3⟩;refine Stop.of ?_)
 refine Stop.go ?_
 have HB3:=hid (zAB HB2.out hbw3)
 clear hbw3
 go_wp2
 refine⟨fun _=>HS.out _ HB3.out,?_⟩
 refine AnyT.nx (i:=17) rfl ?_
 go_wp2_with (go_at_call 151;refine(HT3.out _).mono ?_;rintro e w4 ⟨rfl,hbw4⟩;refine Stop.of ?_)
 refine Stop.go ?_
 have HB4:=hid (zAB HB3.out hbw4)
 clear hbw4
 go_wp2
 refine⟨fun _=>HS.out _ HB4.out,?_⟩
 refine AnyT.nx (i:=18) rfl ?_
 go_wp2
 refine⟨fun _=>HS.out _ HB4.out,?_⟩
 refine AnyT.nx (i:=19) rfl ?_
 obtain⟨c00,c01,c02,c03,hfz,hlt⟩:=HR.out _ HB4.out
 have f0:=hfz 0
 have f1:=hfz 1
 have f2:=hfz 2
 have f3:=hfz 3
 have HFI:=hid (HFIN.out _ HB4.out)
 clear HFIN hfz
 go_wp2
 refine⟨fun h=>absurd h (by decide),?_⟩
 refine AnyT.done (by kernel_rfl) ?_ _
 go_wp2
 refine bodyPost_ret (v:=.agg #[.int .i64 s1,.int .u64 s2,.int .i64 c1,.int .u64 c2]) ?_ rfl ⟨rfl,HFI.out _ _ _ _⟩
 simp[results,Tryz.results96,go_sem,c00,c01,c02,c03,f0,f1,f2,f3,hlt]
theorem zIO(w:World)(n d y:Int)(hd:B127 d)(hy: -9223372036854775808<y∧y<=9223372036854775807)(h1:B127 (d*y)):
 Calls Tryz.prog 155 #[sumV n d,.int .i64 y] w fun e w'=>e=.returned (.int .i64 (cmpI n (d*y)))∧Below w.heap.size w w':=by
 have HT:=hid (fun X=>zHA X d y hd hy (by rw[<- Int.natAbs_mul];unfold B127 at h1;omega))
 have HC:=hid (fun X=>zDJ X n (d*y))
 obtain⟨n1,n2,pn⟩:=WP.ex n
 obtain⟨d1,d2,pd⟩:=WP.ex d
 obtain⟨a1,a2,pA⟩:=WP.ex (d*y)
 rw[pd.val,pA.val]at HT
 rw[pn.val,pA.val]at HC
 rw[pn.sum pd]
 obtain⟨c,hc⟩:=exq (cmpI n (d*y))
 rw[<- hc]at HC⊢
 clear hc hd hy h1 pn pd pA
 obtain⟨wz,hwz⟩:=exq (w.alloc (.cells #[.int .i64 n1,.int .u64 n2,.int .i64 d1,.int .u64 d2] 102))
 have hbz:Below w.heap.size w wz:=by rw[hwz];exact(Below.refl _ _).alloc (Nat.le_refl _) _
 have hsz:w.heap.size<wz.heap.size:=by rw[hwz];simp
 have hcl:∀o v,(#[Value.int .i64 n1,.int .u64 n2,.int .i64 d1,.int .u64 d2]:Array Value)[o]? =some v->wz.cell? ⟨w.heap.size,o,none⟩=some v:=fun o v h=>by
  rw[hwz,World.cell?_alloc_at _ _ _ _ rfl];exact h
 have l0:=zAR hsz (hcl 0 _ rfl)
 have l1:=zAR hsz (hcl 1 _ rfl)
 have l2:=zAR hsz (hcl 2 _ rfl)
 have l3:=zAR hsz (hcl 3 _ rfl)
 have HBZ:=hid hbz
 clear hbz hsz hcl
 go_enter Tryz.func155,Tryz.ntmps155
 go_wp2_with fail
 rw[<- hwz]
 clear hwz
 refine zCY (by kernel_rfl) (by kernel_rfl) ?_
 repeat (go_big_quiet_step (first
  | (go_at_call 151;exact zBV (HT.out _))
  | (go_at_call 207;exact zBV (HC.out _))))
 refine wpQuiet_nil ?_
 rintro _ ⟨X,rfl⟩
 have hfin:=zAB HBZ.out (zCP wz X)
 go_wp2
 go_ret
 exact⟨rfl,hfin⟩
end
section
open Go.RowKit Go.Lib
def zAJ(r:Rt):Bool:=decide (1<=r.2)&&(decide (r.2<=400)&&(decide (-10000000000<=r.1)&&(decide (r.1<=10000000000)&&decide (Int.gcd r.1 r.2=1))))
theorem zBB{r:Rt}:zAJ r=true↔1<=r.2∧r.2<=400∧ -10000000000<=r.1∧r.1<=10000000000∧Int.gcd r.1 r.2=1:=by
 unfold zAJ;simp only[Bool.and_eq_true,decide_eq_true_eq]
theorem zJY(w:World)(N D:Int):Calls Tryz.prog 147 #[.agg #[.int .i64 N,.int .i64 D]] w fun e w'=>e=.returned (.bool (zAJ (N,D)))∧Below w.heap.size w w':=by
 obtain⟨wz,hwz⟩:=exq (w.alloc (.cells #[.int .i64 N,.int .i64 D] 29))
 have hbz:Below w.heap.size w wz:=by rw[hwz];exact(Below.refl _ _).alloc (Nat.le_refl _) _
 have l0:wz.cell? ⟨w.heap.size,0,none⟩=some (.int .i64 N):=by rw[hwz,World.cell?_alloc_at _ _ _ _ rfl];rfl
 have l1:wz.cell? ⟨w.heap.size,1,none⟩=some (.int .i64 D):=by rw[hwz,World.cell?_alloc_at _ _ _ _ rfl];rfl
 have HBZ:=hid hbz
 have HV:=hid (show zAJ (N,D)=(decide (1<=D)&&(decide (D<=400)&&(decide (-10000000000<=N)&&(decide (N<=10000000000)&&decide (Int.gcd N D=1)))))from rfl)
 clear hbz
 by_cases h1:1<=D
 ·by_cases h2:D<=400
  ·by_cases h3: -10000000000<=N
   ·by_cases h4:N<=10000000000
    ·have HD:=hid (fun X=>zIB X N D (by omega) (by omega))
     obtain⟨g,hg⟩:∃g:Int,g=((Int.gcd N D:Nat):Int):=⟨_,rfl⟩
     rw[<- hg]at HD
     have HB:=hid (show zAJ (N,D)=(g==1)from by
      rw[HV.out,decide_eq_true h1,decide_eq_true h2,decide_eq_true h3,decide_eq_true h4]
      simp only[Bool.true_and]
      rw[Bool.eq_iff_iff,decide_eq_true_iff]
      simp only[beq_iff_eq]
      omega)
     have d1:decide (1<=D)=true:=by simp;omega
     have d2:decide (D<=400)=true:=by simp;omega
     have d3:decide (-10000000000<=N)=true:=by simp;omega
     have d4:decide (N<=10000000000)=true:=by simp;omega
     clear hg HV
     go_enter Tryz.func147,Tryz.ntmps147
     go_wp2_with fail
     rw[<- hwz]
     clear hwz
     go_wp2_with (go_at_call 206;refine(HD.out _).mono ?_;rintro e w2 ⟨rfl,k2,rfl⟩;refine Stop.of ?_)
     refine Stop.go ?_
     go_wp2
     go_ret
     exact⟨zAX (by rw[HB.out]),zBW HBZ.out k2⟩
    ·have HB:=hid (show zAJ (N,D)=false from by rw[HV.out,decide_eq_false h4];simp)
     have d4:decide (N<=10000000000)=false:=by simp;omega
     clear HV
     go_enter Tryz.func147,Tryz.ntmps147
     go_wp2_with fail
     rw[<- hwz]
     clear hwz
     go_wp2
     go_ret
     exact⟨zAX (by rw[HB.out]),HBZ.out⟩
   ·have HB:=hid (show zAJ (N,D)=false from by rw[HV.out,decide_eq_false h3];simp)
    have d3:decide (-10000000000<=N)=false:=by simp;omega
    clear HV
    go_enter Tryz.func147,Tryz.ntmps147
    go_wp2_with fail
    rw[<- hwz]
    clear hwz
    go_wp2
    go_ret
    exact⟨zAX (by rw[HB.out]),HBZ.out⟩
  ·have HB:=hid (show zAJ (N,D)=false from by rw[HV.out,decide_eq_false h2];simp)
   have d2:decide (D<=400)=false:=by simp;omega
   clear HV
   go_enter Tryz.func147,Tryz.ntmps147
   go_wp2_with fail
   rw[<- hwz]
   clear hwz
   go_wp2
   go_ret
   exact⟨zAX (by rw[HB.out]),HBZ.out⟩
 ·have HB:=hid (show zAJ (N,D)=false from by rw[HV.out,decide_eq_false h1];simp)
  have d1:decide (1<=D)=false:=by simp;omega
  clear HV
  go_enter Tryz.func147,Tryz.ntmps147
  go_wp2_with fail
  rw[<- hwz]
  clear hwz
  go_wp2
  go_ret
  exact⟨zAX (by rw[HB.out]),HBZ.out⟩
theorem linvalid_c(w:World)(N D:Int):Calls Tryz.prog 154 #[.agg #[.int .i64 N,.int .i64 D]] w fun e w'=>e=.returned (.bool (!zAJ (N,D)))∧Below w.heap.size w w':=by
 obtain⟨wz,hwz⟩:=exq (w.alloc (.cells #[.int .i64 N,.int .i64 D] 29))
 have HB:=hid (show Below w.heap.size w wz by rw[hwz];exact(Below.refl _ _).alloc (Nat.le_refl _) _)
 have l0:wz.cell? ⟨w.heap.size,0,none⟩=some (.int .i64 N):=by rw[hwz,World.cell?_alloc_at _ _ _ _ rfl];rfl
 have l1:wz.cell? ⟨w.heap.size,1,none⟩=some (.int .i64 D):=by rw[hwz,World.cell?_alloc_at _ _ _ _ rfl];rfl
 have HV:=hid (zJY wz N D)
 obtain⟨b,hb⟩:=exq (zAJ (N,D))
 rw[<- hb]at HV⊢
 clear hb
 go_enter Tryz.func154,Tryz.ntmps154
 go_wp2_with fail
 rw[<- hwz]
 clear hwz
 go_wp2_with (go_at_call 147;refine HV.out.mono ?_;rintro e w2 ⟨rfl,hb2⟩;refine Stop.of ?_)
 refine Stop.go ?_
 go_wp2
 go_ret
 exact⟨rfl,zAB HB.out hb2⟩
theorem indexInv(w:World)(a:Option Addr)(n cap:Nat)(l:List Rt)(hn:l.length=n)(hm:n<=maxLen)(H:zBX w a l):
 Calls Tryz.prog 146 #[.slice a n cap,.func (.func 154) #[] #[]] w fun e w'=>e=.returned (.int .i64 (idxP (fun r=>!zAJ r) l 0))∧Below w.heap.size w w':=by
 have HN:=hid hn
 have HH:=hid H
 have HP:=hid (fun(X:World) (N D:Int)=>linvalid_c X N D)
 have eg:=enters_of Tryz.func154 (by kernel_rfl) rfl
 clear hn H
 unfold maxLen at hm
 go_enter Tryz.func146,Tryz.ntmps146
 go_wp2
 go_loopw [8] (fun i wr=>∃k:Nat,k<=n∧i=.int .i64 k∧Below w.heap.size w wr∧∀i y,i<k->l[i]? =some y->(!zAJ y)=false) (fun i _=>n-(intOf i).toNat)
 case atStart=>exact⟨0,Nat.zero_le _,rfl,Below.refl _ _,fun i y h=>by omega⟩
 case round=>
  obtain⟨k,hk,rfl,hb,hno⟩:=hrel
  have HNO:=hid hno
  clear hno
  by_cases hlt:k<n
  ·have hkl:k<l.length:=by rw[HN.out];exact hlt
   obtain⟨b,off,rfl,hbs,h0,h1⟩:=(HH.out.below hb) k hkl
   have HK:=hid (List.getElem?_eq_getElem hkl)
   obtain⟨⟨r1,r2⟩,hr⟩:∃r,r=l[k]'hkl:=⟨_,rfl⟩
   rw[<- hr]at h0 h1 HK
   simp only[]at h0 h1
   have HC:=hid (HP.out wr r1 r2)
   obtain⟨B,hB⟩:=exq (zAJ (r1,r2))
   rw[<- hB]at HC
   have HBB:=hid hB.symm
   clear hr hB hkl
   go_wp2_with (refine HC.out.mono ?_;rintro e w1 ⟨rfl,hb1⟩;refine Stop.of ?_)
   refine Stop.go ?_
   cases B
   ·go_wp2
    go_ret
    refine⟨zBP ?_,zAB hb hb1⟩
    rw[zIV (fun r=>!zAJ r) l 0 k _ HK.out (by simp[HBB.out]) HNO.out];simp
   ·go_wp2
    refine⟨⟨k+1,by omega,by go_num,zAB hb hb1,?_⟩,by simp[intOf];omega⟩
    intro i y hi hy
    by_cases e:i=k
    ·subst e;rw[HK.out]at hy;cases hy;simp[HBB.out]
    ·exact HNO.out i y (by omega) hy
  ·go_wp2
   go_ret
   refine⟨zBP ?_,hb⟩
   rw[zGJ]
   intro x hx
   obtain⟨i,hi,e⟩:=List.getElem_of_mem hx
   exact HNO.out i x (by have:=HN.out;omega) (by rw[List.getElem?_eq_getElem hi,e])
theorem containsInv(w:World)(a:Option Addr)(n cap:Nat)(l:List Rt)(hn:l.length=n)(hm:n<=maxLen)(H:zBX w a l):
 Calls Tryz.prog 80 #[.slice a n cap,.func (.func 154) #[] #[]] w fun e w'=>e=.returned (.bool (!l.all zAJ))∧Below w.heap.size w w':=by
 have HC:=hid (indexInv w a n cap l hn hm H)
 have HG:=zLD (fun r=>!zAJ r) l 0
 have HG':=hid HG
 clear hn H HG
 go_enter Tryz.func80,Tryz.ntmps80
 go_wp2_with (refine HC.out.mono ?_;rintro e w1 ⟨rfl,hb1⟩)
 go_ret
 refine⟨zAX ?_,hb1⟩
 rw[Bool.eq_iff_iff,decide_eq_true_iff,HG'.out,List.not_all_eq_any_not]
theorem lreading_c(w:World)(a a2:Option Addr)(n cap n2 cap2:Nat)(M:Mask)(y:List Int)(hn:M.length=n)(hn2:y.length=n2)(hm:n<=maxLen)(hm2:n2<=maxLen)(H:zAL w a M)(H2:zAE w a2 y):
 Calls Tryz.prog 153 #[.slice a n cap,.slice a2 n2 cap2] w fun e w'=>e=.returned (.bool (decide (rdE M y=0)))∧Below w.heap.size w w':=by
 have HC:=hid (zLK w a a2 none n cap n2 cap2 0 0 M y [] hn hn2 rfl hm hm2 (by decide) H H2 (fun j hj=>by simp at hj))
 rw[<- zGI]at HC
 obtain⟨E,hE⟩:=exq (rdE M y)
 rw[<- hE]at HC⊢
 clear hE hn hn2 H H2
 go_enter Tryz.func153,Tryz.ntmps153
 go_wp2_with (go_at_call 101;refine HC.out.mono ?_;rintro e w1 ⟨rfl,hb1⟩;refine Stop.of ?_)
 refine Stop.go ?_
 go_wp2
 go_ret
 exact⟨zAX (by rw[Bool.eq_iff_iff];simp),hb1⟩
end
end
section
section
open Go.RowKit Go.Lib
def zAC(x:List Rt)(k:Nat):Rt:=x[k]?.getD (0,1)
def sumR(r:List Int)(x:List Rt):Nat->Int×Int
 |0=>(0,1)
 |k+1=>if vec r k≠0 then((sumR r x k).1*(zAC x k).2+(sumR r x k).2*((zAC x k).1*vec r k),(sumR r x k).2*(zAC x k).2)else sumR r x k
theorem zMS{r:List Int}{x:List Rt}(h1:∀k,-1<=vec r k∧vec r k<=1)(hx:∀k,1<=(zAC x k).2∧(zAC x k).2<=400∧ -10000000000<=(zAC x k).1∧(zAC x k).1<=10000000000):
 ∀k:Nat,(sumR r x k).1.natAbs<=k*10000000000*400 ^ k∧1<=(sumR r x k).2∧(sumR r x k).2.natAbs<=400 ^ k
 |0=>by simp[sumR]
 |k+1=>by
  obtain⟨i1,i2,i3⟩:=zMS h1 hx k
  obtain⟨x1,x2,x3,x4⟩:=hx k
  have hv:=h1 k
  have hp:400 ^ (k+1)=400 ^ k*400:=Nat.pow_succ ..
  have hmono:400 ^ k<=400 ^ (k+1):=by rw[hp];omega
  rw[sumR]
  by_cases h0:vec r k≠0
  ·rw[if_pos h0]
   simp only[]
   generalize sumR r x k=s at i1 i2 i3
   generalize zAC x k=q at x1 x2 x3 x4
   obtain⟨s1,s2⟩:=s
   obtain⟨q1,q2⟩:=q
   simp only[]at*
   have e1:(s1*q2).natAbs<=k*10000000000*400 ^ k*400:=by
    rw[Int.natAbs_mul];exact Nat.mul_le_mul i1 (by omega)
   have e2:(s2*(q1*vec r k)).natAbs<=400 ^ k*10000000000:=by
    rw[Int.natAbs_mul]
    refine Nat.mul_le_mul i3 ?_
    rw[Int.natAbs_mul]
    have:q1.natAbs*(vec r k).natAbs<=10000000000*1:=Nat.mul_le_mul (by omega) (by omega)
    omega
   have e3:(s2*q2).natAbs<=400 ^ k*400:=by
    rw[Int.natAbs_mul];exact Nat.mul_le_mul i3 (by omega)
   refine⟨?_,?_,by rw[hp];exact e3⟩
   ·have e4:(k+1)*10000000000*400 ^ (k+1)=k*10000000000*400 ^ k*400+400 ^ k*10000000000*400:=by
     rw[hp]
     generalize 400 ^ k=P
     grind
    rw[e4]
    have e5:400 ^ k*10000000000<=400 ^ k*10000000000*400:=by omega
    omega
   ·have:=Int.mul_pos (show(0:Int)<s2 by omega) (show(0:Int)<q2 by omega)
    omega
  ·rw[if_neg h0]
   refine⟨?_,i2,Nat.le_trans i3 hmono⟩
   refine Nat.le_trans i1 ?_
   exact Nat.mul_le_mul (by omega) hmono
theorem zLS{r:List Int}{x:List Rt}(h1:∀k,-1<=vec r k∧vec r k<=1)(hx:∀k,1<=(zAC x k).2∧(zAC x k).2<=400∧ -10000000000<=(zAC x k).1∧(zAC x k).1<=10000000000){k:Nat}(hk:k<=10):
 (sumR r x k).1.natAbs<=10485760000000000000000000000000000000∧1<=(sumR r x k).2∧(sumR r x k).2.natAbs<=104857600000000000000000000:=by
 obtain⟨i1,i2,i3⟩:=zMS h1 hx k
 have hp:400 ^ k<=400 ^ 10:=Nat.pow_le_pow_right (by decide) hk
 have e10:(400:Nat) ^ 10=104857600000000000000000000:=by decide+kernel
 rw[e10]at hp
 refine⟨?_,i2,by omega⟩
 refine Nat.le_trans i1 ?_
 have:k*10000000000*400 ^ k<=10*10000000000*104857600000000000000000000:=Nat.mul_le_mul (by omega) hp
 omega
theorem sumR_bnd9{r:List Int}{x:List Rt}(h1:∀k,-1<=vec r k∧vec r k<=1)(hx:∀k,1<=(zAC x k).2∧(zAC x k).2<=400∧ -10000000000<=(zAC x k).1∧(zAC x k).1<=10000000000){k:Nat}(hk:k<=9):
 (sumR r x k).1.natAbs*400<=10485760000000000000000000000000000000∧(sumR r x k).2.natAbs*400<=104857600000000000000000000:=by
 obtain⟨i1,i2,i3⟩:=zMS h1 hx k
 have hp:400 ^ k<=400 ^ 9:=Nat.pow_le_pow_right (by decide) hk
 have e9:(400:Nat) ^ 9=262144000000000000000000:=by decide+kernel
 rw[e9]at hp
 refine⟨?_,by omega⟩
 have:k*10000000000*400 ^ k<=9*10000000000*262144000000000000000000:=Nat.mul_le_mul (by omega) hp
 omega
def zDI(M:Mask)(x:List Rt)(y:List Int):Bool:=
 decide (rdE M y=0)&&(decide (x.length=zAA M)&&(x.all zAJ&&decide (∀i,i<M.length->(sumR (M[i]?.getD []) x (zAA M)).1=(sumR (M[i]?.getD []) x (zAA M)).2*vec y i)))
theorem mk_no1{M:Mask}{x:List Rt}{y:List Int}(h:rdE M y≠0):zDI M x y=false:=by unfold zDI;rw[decide_eq_false h];rfl
theorem mk_no2{M:Mask}{x:List Rt}{y:List Int}(h:x.length≠zAA M):zDI M x y=false:=by unfold zDI;rw[decide_eq_false h];simp
theorem mk_no3{M:Mask}{x:List Rt}{y:List Int}(h:x.all zAJ=false):zDI M x y=false:=by unfold zDI;rw[h];simp
theorem mk_no4{M:Mask}{x:List Rt}{y:List Int}{i:Nat}(hi:i<M.length)(h:(sumR (M[i]?.getD []) x (zAA M)).1≠(sumR (M[i]?.getD []) x (zAA M)).2*vec y i):zDI M x y=false:=by
 have:decide (∀i,i<M.length->(sumR (M[i]?.getD []) x (zAA M)).1=(sumR (M[i]?.getD []) x (zAA M)).2*vec y i)=false:=decide_eq_false fun hh=>h (hh i hi)
 unfold zDI;rw[this];simp
theorem mk_yes{M:Mask}{x:List Rt}{y:List Int}(h1:rdE M y=0)(h2:x.length=zAA M)(h3:x.all zAJ=true)(h4:∀i,i<M.length->(sumR (M[i]?.getD []) x (zAA M)).1=(sumR (M[i]?.getD []) x (zAA M)).2*vec y i):zDI M x y=true:=by
 unfold zDI;rw[decide_eq_true h1,decide_eq_true h2,h3,decide_eq_true h4];rfl
def SumB(w:World)(g:Nat)(n d:Int):Prop:=w.heap[g]? =some (.cells #[.int .i64 (n/18446744073709551616),.int .u64 (n%18446744073709551616),.int .i64 (d/18446744073709551616),.int .u64 (d%18446744073709551616)] 102 (0,0))
theorem SumB.lt{w:World}{g:Nat}{n d:Int}(h:SumB w g n d):g<w.heap.size:=(Array.getElem?_eq_some_iff.1 h).1
theorem SumB.keep{w w':World}{g:Nat}{n d:Int}(h:SumB w g n d)(hk:w'.heap[g]? =w.heap[g]?):SumB w' g n d:=hk.trans h
theorem SumB.cells{w:World}{g:Nat}{n d n1 n2 d1 d2:Int}(h:SumB w g n d)(pn:WP n n1 n2)(pd:WP d d1 d2):w.cell? ⟨g,0,none⟩=some (.int .i64 n1)∧w.cell? ⟨g,1,none⟩=some (.int .u64 n2)∧w.cell? ⟨g,2,none⟩=some (.int .i64 d1)∧w.cell? ⟨g,3,none⟩=some (.int .u64 d2)∧∀o,w.frozen? ⟨g,o,none⟩=false:=by
 unfold SumB at h
 rw[pn.1,pn.2,pd.1,pd.2]
 exact⟨by simp[World.cell?,h],by simp[World.cell?,h],by simp[World.cell?,h],by simp[World.cell?,h],fun o=>by simp[World.frozen?,h]⟩
theorem SumB.set{w:World}{g:Nat}{n d m e a b c f:Int}(h:SumB w g n d)(pm:WP m a b)(pe:WP e c f):SumB ((((w.setCell ⟨g,0,none⟩ (.int .i64 a)).setCell ⟨g,1,none⟩ (.int .u64 b)).setCell ⟨g,2,none⟩ (.int .i64 c)).setCell ⟨g,3,none⟩ (.int .u64 f)) g m e:=by
 unfold SumB
 rw[zBA (zBA (zBA (zBA h 0 _) 1 _) 2 _) 3 _,pm.1,pm.2,pe.1,pe.2]
 simp
theorem SumB.made(w:World){n d a b c f:Int}(pn:WP n a b)(pd:WP d c f):SumB (w.alloc (.cells #[.int .i64 a,.int .u64 b,.int .i64 c,.int .u64 f] 102)) w.heap.size n d:=by
 unfold SumB
 rw[World.alloc_heap_new,pn.1,pn.2,pd.1,pd.2]
theorem lmakes_c(w:World)(a a2 a3:Option Addr)(n cap n2 cap2 n3 cap3:Nat)(M:Mask)(x:List Rt)(y:List Int)(hn:M.length=n)(hn2:x.length=n2)(hn3:y.length=n3)(hm:n<=maxLen)(hm2:n2<=maxLen)(hm3:n3<=maxLen)(H:zAL w a M)(H2:zBX w a2 x)(H3:zAE w a3 y):
 Calls Tryz.prog 84 #[.slice a n cap,.slice a2 n2 cap2,.slice a3 n3 cap3] w fun e w'=>e=.returned (.bool (zDI M x y))∧Below w.heap.size w w':=by
 have HRD:=hid (lreading_c w a a3 n cap n3 cap3 M y hn hn3 hm hm3 H H3)
 have HN1:=hid (mk_no1 (M:=M) (x:=x) (y:=y))
 have HN2:=hid (mk_no2 (M:=M) (x:=x) (y:=y))
 have HN3:=hid (mk_no3 (M:=M) (x:=x) (y:=y))
 obtain⟨B,hB⟩:=exq (zDI M x y)
 rw[<- hB]at HN1 HN2 HN3⊢
 by_cases h0:rdE M y=0
 rotate_left
 ·rw[decide_eq_false h0]at HRD
  obtain rfl:B=false:=HN1.out h0
  clear hn hn2 hn3 H H2 H3 hB h0 HN2 HN3
  go_enter Tryz.func84,Tryz.ntmps84
  go_wp2_with (go_at_call 153;refine HRD.out.mono ?_;rintro e w1 ⟨rfl,hb1⟩)
  go_ret
  exact⟨rfl,hb1⟩
 rw[decide_eq_true h0]at HRD
 obtain⟨hok,hyl,hmil⟩:=zIR h0
 obtain⟨hM,h1,h6,hc1,hc10⟩:=zCN hok
 obtain⟨b,off,ra,rc,rfl,hb,hc⟩:=zCT H (by omega)
 have HCC:=hid (fun(X:World) (hX:Below w.heap.size w X)=>show X.cell? ⟨b,off,none⟩=some (.slice ra (zAA M) rc)from(hX.cell (p:=⟨b,off,none⟩) hb).trans hc)
 have HN4:=hid (fun i (hi:i<M.length) h=>mk_no4 (x:=x) (y:=y) hi h)
 have HYS:=hid (fun h2 h3 h4=>mk_yes (M:=M) (x:=x) (y:=y) h0 h2 h3 h4)
 rw[<- hB]at HYS HN4
 have i0:(0:Int)<(n:Int):=by omega
 have HCI:=hid (fun(X:World) (hX:Below w.heap.size w X)=>containsInv X a2 n2 cap2 x hn2 hm2 (H2.below hX))
 have HRW:=hid (fun(X:World) (hX:Below w.heap.size w X)=>H.below hX)
 have HXI:=hid (fun(X:World) (hX:Below w.heap.size w X)=>H2.below hX)
 have HYI:=hid (fun(X:World) (hX:Below w.heap.size w X)=>H3.below hX)
 have HMW:=hid (show ∀r∈M,r.length=zAA M∧∀k,-1<=vec r k∧vec r k<=1 from fun r hr=>⟨hM.wid r hr,hM.one r hr⟩)
 have HYB:=hid (mil_le hmil)
 have HN:=hid hn
 have HNX:=hid hn2
 have HNY:=hid hn3
 have HHN:=hid (show n3=n by omega)
 have hn6:n<=6:=by omega
 obtain⟨W,hW⟩:=exq (zAA M)
 rw[<- hW]at HCC HN2 HN4 HYS HMW hc10 hc1
 clear hn hn2 hn3 H H2 H3 hB h0 hok hyl hmil hM h1 h6 hb hc HN1 hW
 by_cases hlw:n2=W
 rotate_left
 ·obtain rfl:B=false:=HN2.out (by rw[HNX.out];exact hlw)
  have hlb:((n2:Int) !=(W:Int))=true:=by simp;omega
  clear HN3 HN4 HYS HCI HRW HXI HYI HMW HYB
  go_enter Tryz.func84,Tryz.ntmps84
  go_wp2_with (go_at_call 153;refine HRD.out.mono ?_;rintro e w1 ⟨rfl,hb1⟩;refine Stop.of ?_)
  refine Stop.go ?_
  have cc:=HCC.out _ hb1
  go_wp2
  go_ret
  exact⟨rfl,hb1⟩
 subst hlw
 have hlb:((n2:Int) !=(n2:Int))=false:=by simp
 obtain⟨V,hV⟩:=exq (!x.all zAJ)
 rw[<- hV]at HCI
 have HVV:=hid hV.symm
 clear hV
 go_enter Tryz.func84,Tryz.ntmps84
 go_wp2_with (go_at_call 153;refine HRD.out.mono ?_;rintro e w1 ⟨rfl,hb1⟩;refine Stop.of ?_)
 refine Stop.go ?_
 have cc:=HCC.out _ hb1
 have HB1:=hid hb1
 have HCI1:=hid (HCI.out _ hb1)
 clear hb1 HCI HRD
 go_wp2_with (go_at_call 80;refine HCI1.out.mono ?_;rintro e w2 ⟨rfl,hb2⟩;refine Stop.of ?_)
 refine Stop.go ?_
 have HB2:=hid (zAB HB1.out hb2)
 clear hb2 HB1 HCI1 cc HCC
 cases V
 rotate_left
 ·obtain rfl:B=false:=HN3.out (by have:=HVV.out;simpa using this)
  go_wp2
  go_ret
  exact⟨rfl,HB2.out⟩
 ·have hall:x.all zAJ=true:=by have:=HVV.out;simpa using this
  have hxv:∀k,1<=(zAC x k).2∧(zAC x k).2<=400∧ -10000000000<=(zAC x k).1∧(zAC x k).1<=10000000000:=fun k=>by
   unfold zAC
   cases e:x[k]? with
   |none=>decide
   |some r=>
    have:=List.all_eq_true.1 hall r (List.mem_of_getElem? e)
    rw[zBB]at this
    exact⟨this.1,this.2.1,this.2.2.1,this.2.2.2.1⟩
  have HXV:=hid hxv
  have HYS2:=hid (HYS.out HNX.out hall)
  clear hall hxv HN2 HN3 HYS HVV
  go_wp2
  go_loopw [31] (fun i wr=>∃k:Nat,k<=n∧i=.int .i64 k∧Below w.heap.size w wr∧Hid (∀q,q<k->(sumR (M[q]?.getD []) x n2).1=(sumR (M[q]?.getD []) x n2).2*vec y q)) (fun i _=>n-(intOf i).toNat)
  case atStart=>exact⟨0,Nat.zero_le _,rfl,HB2.out,hid (fun q h=>by omega)⟩
  case round=>
   obtain⟨k,hk,rfl,hbk,HQ⟩:=hrel
   by_cases hlt:k<n
   ·have hkM:k<M.length:=by rw[HN.out];exact hlt
    obtain⟨b5,o5,ra5,rn5,rc5,e5,hb5,hc5,hrn5,hrm5,hri5⟩:=(HRW.out wr hbk) k hkM
    cases e5
    obtain⟨hwid,hone⟩:=HMW.out _ (List.getElem_mem hkM)
    obtain rfl:rn5=n2:=by omega
    have hrowe:M[k]?.getD []=M[k]:=by rw[List.getElem?_eq_getElem hkM];rfl
    have HNK:=hid (HN4.out k hkM)
    rw[hrowe]at HNK
    have HQX:=hid (fun(h:(sumR M[k] x rn5).1=(sumR M[k] x rn5).2*vec y k)=>show ∀q,q<k+1->(sumR (M[q]?.getD []) x rn5).1=(sumR (M[q]?.getD []) x rn5).2*vec y q from fun q hq=>by
     rcases Nat.lt_or_ge q k with h3|h3
     ·exact HQ.out q h3
     ·obtain rfl:q=k:=by omega
      rw[hrowe];exact h)
    obtain⟨R,hR⟩:=exq (M[k])
    rw[<- hR]at hri5 hone hwid HNK HQX
    have HBD:=hid (fun j (hj:j<=10)=>zLS hone HXV.out hj)
    have HBD9:=hid (fun j (hj:j<=9)=>sumR_bnd9 hone HXV.out hj)
    have HRI:=hid (fun(X:World) (hX:Below wr.heap.size wr X)=>hri5.below hX)
    have HONE:=hid hone
    have HWID:=hid hwid
    have HBK:=hid hbk
    have i1:(k:Int)<(n:Int):=by omega
    clear hR hrowe hri5 hrn5 hkM hone hwid hbk HN4 HQ
    go_wp2_with (go_at_call 95;refine(zMP _).mono ?_;rintro e w3 ⟨rfl,hb3⟩;refine Stop.of ?_)
    refine Stop.go ?_
    have hz:sumV 0 1=.agg #[.int .i64 0,.int .u64 0,.int .i64 0,.int .u64 1]:=by simp[sumV]
    rw[hz]
    clear hz
    go_wp2_with fail
    obtain⟨wb,hwb⟩:=exq (w3.alloc (.cells #[.int .i64 0,.int .u64 0,.int .i64 0,.int .u64 1] 102))
    obtain⟨g,hg⟩:=exq (w3.heap.size)
    have hsb:SumB wb g 0 1:=by rw[hwb,hg];exact SumB.made w3 ⟨by decide,by decide⟩ ⟨by decide,by decide⟩
    have hbb:Below w3.heap.size w3 wb:=by rw[hwb];exact(Below.refl _ _).alloc (Nat.le_refl _) _
    rw[<- hwb,<- hg]
    have HSB:=hid hsb
    have HBB:=hid hbb
    have HB3:=hid hb3
    have HG:=hid hg
    clear hwb hg hsb hbb hb3
    obtain⟨wo,hwo⟩:=exq (wr)
    subst hwo
    go_loopw [39] (fun i wr=>∃t:Nat,t<=rn5∧i=.int .i64 t∧SumB wr g (sumR R x t).1 (sumR R x t).2∧Below w3.heap.size w3 wr) (fun i _=>rn5-(intOf i).toNat)
    case atStart=>exact⟨0,Nat.zero_le _,rfl,HSB.out,HBB.out⟩
    case round=>
     obtain⟨t,ht,rfl,hsb,hbt⟩:=hrel
     by_cases htl:t<rn5
     ·have hbw:Below wo.heap.size wo wr:=HB3.out.trans (hbt.mono HB3.out.size)
      obtain⟨b6,o6,rfl,hb6,hc6⟩:=(HRI.out wr hbw) t (by rw[HWID.out];exact htl)
      have hv6:R[t]?.getD 0=vec R t:=rfl
      rw[hv6]at hc6
      have hone:=HONE.out t
      have hsr:sumR R x (t+1)=if vec R t≠0 then((sumR R x t).1*(zAC x t).2+(sumR R x t).2*((zAC x t).1*vec R t),(sumR R x t).2*(zAC x t).2)else sumR R x t:=rfl
      obtain⟨v,hv⟩:=exq (vec R t)
      rw[<- hv]at hc6 hsr hone
      by_cases h0:v=0
      ·rw[if_neg (by simp[h0])]at hsr
       have hvb:(v !=0)=false:=by simp[h0]
       have HSR:=hid hsr
       have HSX:=hid hsb
       have HBT:=hid hbt
       clear hv6 hv hsr hsb hbt hbw
       go_wp2
       refine⟨⟨t+1,by omega,by go_num,by rw[HSR.out];exact HSX.out,HBT.out⟩,by simp[intOf];omega⟩
      ·rw[if_pos h0]at hsr
       have hvb:(v !=0)=true:=by simp[h0]
       obtain⟨k1,k2,k3⟩:=HBD.out t (by omega)
       obtain⟨m1,m2,m3⟩:=HBD.out (t+1) (by omega)
       obtain⟨z1,z2⟩:=HBD9.out t (by omega)
       obtain⟨x1,x2,x3,x4⟩:=HXV.out t
       obtain⟨bx,ox,rfl,hbx,hx0,hx1⟩:=(HXI.out wr (zAB HBK.out hbw)) t (by rw[HNX.out];exact htl)
       have hxt:zAC x t=x[t]'(by rw[HNX.out];exact htl):=by unfold zAC;rw[List.getElem?_eq_getElem (by rw[HNX.out];exact htl)];rfl
       rw[<- hxt]at hx0 hx1
       rw[hsr]at m1 m2 m3
       have HSR:=hid hsr
       obtain⟨⟨N,D⟩,hND⟩:∃q,q=zAC x t:=⟨_,rfl⟩
       rw[<- hND]at hx0 hx1 m1 m2 m3 x1 x2 x3 x4 HSR
       obtain⟨⟨sn,sd⟩,hS⟩:∃q,q=sumR R x t:=⟨_,rfl⟩
       rw[<- hS]at hsb k1 k2 k3 m1 m2 m3 z1 z2 HSR
       simp only[]at hx0 hx1 m1 m2 m3 x1 x2 x3 x4 HSR hsb k1 k2 k3 z1 z2
       have e1:(sn*D).natAbs<=10485760000000000000000000000000000000:=by
        rw[Int.natAbs_mul]
        have:sn.natAbs*D.natAbs<=sn.natAbs*400:=Nat.mul_le_mul_left _ (by omega)
        omega
       have e2:(sd*(N*v)).natAbs<=104857600000000000000000000*10000000000:=by
        rw[Int.natAbs_mul,Int.natAbs_mul]
        exact Nat.mul_le_mul k3 (by have:N.natAbs*v.natAbs<=10000000000*1:=Nat.mul_le_mul (by omega) (by omega);omega)
       have e3: -10000000000<=N*v∧N*v<=10000000000:=by
        have:(N*v).natAbs<=10000000000*1:=by rw[Int.natAbs_mul];exact Nat.mul_le_mul (by omega) (by omega)
        omega
       have HPL:=hid (fun(X:World)=>zMU X sn sd N D v (by unfold B127;omega) (by unfold B127;omega) (by omega) (by omega) (by unfold B127;omega) (by unfold B127;omega) (by unfold B127;omega) (by unfold B127;omega))
       obtain⟨n1,n2,pn⟩:=WP.ex sn
       obtain⟨d1,d2,pd⟩:=WP.ex sd
       obtain⟨s1,s2,pS⟩:=WP.ex (sn*D+sd*(N*v))
       obtain⟨q1,q2,pC⟩:=WP.ex (sd*D)
       rw[pn.sum pd,pS.sum pC]at HPL
       simp only[ratV]at HPL
       have HSS:=hid (fun(X:World) (hX:SumB X g sn sd)=>hX.set pS pC)
       have hcel:=hsb.cells pn pd
       have hgl:=hsb.lt
       have HSX:=hid hsb
       have HBT:=hid hbt
       have HS:=hid (fun(X:World) (hX:Below wr.heap.size wr X)=>show X.cell? ⟨g,0,none⟩=some (.int .i64 n1)∧X.cell? ⟨g,1,none⟩=some (.int .u64 n2)∧X.cell? ⟨g,2,none⟩=some (.int .i64 d1)∧X.cell? ⟨g,3,none⟩=some (.int .u64 d2)∧X.cell? ⟨bx,ox+t*2,none⟩=some (.int .i64 N)∧X.cell? ⟨bx,ox+t*2+1,none⟩=some (.int .i64 D)from
        ⟨(hX.cell (p:=⟨g,0,none⟩) hgl).trans hcel.1,(hX.cell (p:=⟨g,1,none⟩) hgl).trans hcel.2.1,(hX.cell (p:=⟨g,2,none⟩) hgl).trans hcel.2.2.1,(hX.cell (p:=⟨g,3,none⟩) hgl).trans hcel.2.2.2.1,(hX.cell (p:=⟨bx,_,none⟩) hbx).trans hx0,(hX.cell (p:=⟨bx,_,none⟩) hbx).trans hx1⟩)
       have htl2:(t:Int)<(rn5:Int):=by omega
       clear hv6 hv hsr hsb hbt hbw k1 k2 k3 m1 m2 m3 z1 z2 x1 x2 x3 x4 e1 e2 e3 hND hS pn pd pS pC hcel hx0 hx1 hxt
       go_wp2
       refine zAI (fun j' X=>decide (j'<=6)=true->X.cell? ⟨g,0,none⟩=some (.int .i64 n1)∧X.cell? ⟨g,1,none⟩=some (.int .u64 n2)∧X.cell? ⟨g,2,none⟩=some (.int .i64 d1)∧X.cell? ⟨g,3,none⟩=some (.int .u64 d2)∧X.cell? ⟨bx,ox+t*2,none⟩=some (.int .i64 N)∧X.cell? ⟨bx,ox+t*2+1,none⟩=some (.int .i64 D)) (by kernel_rfl) ?_
       have hbd:Below wr.heap.size wr wr.drew:=(Below.refl _ _).drew
       have HSXd:=hid (HSX.out.keep (w':=wr.drew) rfl)
       generalize wr.drew=wd at hbd HSXd⊢
       refine AnyT.tD (i:=0) (v:=.agg #[.int .i64 n1,.int .u64 n2,.int .i64 d1,.int .u64 d2]) rfl rfl (by rintro w' ⟨y1,y2,y3,y4,y5,y6⟩;go_simp) (HS.out _ hbd) ?_;go_frame
       refine AnyT.tD (i:=1) (v:=.slice (some ⟨bx,ox,none⟩) rn5 cap2) rfl rfl (by rintro w' ⟨y1,y2,y3,y4,y5,y6⟩;go_simp) (HS.out _ hbd) ?_;go_frame
       refine AnyT.tD (i:=2) (v:=.int .i64 t) rfl rfl (by rintro w' ⟨y1,y2,y3,y4,y5,y6⟩;go_simp) (HS.out _ hbd) ?_;go_frame
       refine AnyT.tD (i:=3) (v:=.pointer (some ⟨bx,ox+t*2,none⟩)) rfl rfl (by rintro w' ⟨y1,y2,y3,y4,y5,y6⟩;go_simp) (HS.out _ hbd) ?_;go_frame
       refine AnyT.tD (i:=4) (v:=.agg #[.int .i64 N,.int .i64 D]) rfl rfl (by rintro w' ⟨y1,y2,y3,y4,y5,y6⟩;go_simp) (HS.out _ hbd) ?_;go_frame
       refine AnyT.tD (i:=5) (v:=.int .i64 v) rfl rfl (by rintro w' ⟨y1,y2,y3,y4,y5,y6⟩;go_simp) (HS.out _ hbd) ?_;go_frame
       refine AnyT.nx (i:=6) rfl ?_
       go_wp2_with (go_at_call 96;refine(HPL.out _).mono ?_;rintro e w4 ⟨rfl,hb4⟩;refine Stop.of ?_)
       refine Stop.go ?_
       have HB4:=hid (zAB hbd hb4)
       have hs4:=HSXd.out.keep (hb4.block g HSXd.out.lt)
       obtain⟨y1,y2,y3,y4,y5,y6⟩:=HS.out _ HB4.out
       have hfz:∀o,w4.frozen? ⟨g,o,none⟩=false:=by
        obtain⟨_,_,p1⟩:=WP.ex sn
        obtain⟨_,_,p2⟩:=WP.ex sd
        exact(hs4.cells p1 p2).2.2.2.2
       have f0:=hfz 0
       have f1:=hfz 1
       have f2:=hfz 2
       have f3:=hfz 3
       have HST:=hid (HSS.out w4 hs4)
       have hg4:g<w4.heap.size:=hs4.lt
       have HBE:=hid (show Below w3.heap.size w3 ((((w4.setCell ⟨g,0,none⟩ (.int .i64 s1)).setCell ⟨g,1,none⟩ (.int .u64 s2)).setCell ⟨g,2,none⟩ (.int .i64 q1)).setCell ⟨g,3,none⟩ (.int .u64 q2))from by
        have hg3:w3.heap.size<=g:=by rw[HG.out];exact Nat.le_refl _
        exact zAM (zAM (zAM (zAM (HBT.out.trans (HB4.out.mono HBT.out.size)) hg3 0 _) hg3 1 _) hg3 2 _) hg3 3 _)
       clear hs4 hfz HSS HPL hb4 HSXd hbd
       go_wp2
       refine⟨fun _=>HS.out _ HB4.out,?_⟩
       refine AnyT.nx (i:=7) rfl ?_
       go_wp2
       refine⟨fun h=>absurd h (by decide),?_⟩
       refine AnyT.done (by kernel_rfl) ?_ _
       go_wp2
       refine⟨⟨t+1,by omega,by go_num,?_,HBE.out⟩,by simp[intOf];omega⟩
       rw[HSR.out]
       exact HST.out
     ·obtain rfl:t=rn5:=by omega
      have hbw:Below wo.heap.size wo wr:=HB3.out.trans (hbt.mono HB3.out.size)
      obtain⟨k1,k2,k3⟩:=HBD.out t (by omega)
      have hkY:k<y.length:=by rw[HNY.out,HHN.out];exact hlt
      obtain⟨by7,oy7,rfl,hby,hcy⟩:=(HYI.out wr (zAB HBK.out hbw)) k hkY
      have hvy:y[k]?.getD 0=vec y k:=rfl
      rw[hvy]at hcy
      have hyb:=zET (P:=fun z=> -1000000<=z∧z<=1000000) (by decide) HYB.out k
      obtain⟨yv,hyv⟩:=exq (vec y k)
      rw[<- hyv]at hcy hyb HNK HQX
      obtain⟨⟨sn,sd⟩,hS⟩:∃q,q=sumR R x t:=⟨_,rfl⟩
      rw[<- hS]at hsb k1 k2 k3 HNK HQX
      simp only[]at hsb k1 k2 k3 HNK HQX
      have e2:(sd*yv).natAbs<=104857600000000000000000000*1000000:=by
       rw[Int.natAbs_mul]
       exact Nat.mul_le_mul k3 (by omega)
      have HCP:=hid (fun(X:World)=>zIO X sn sd yv (by unfold B127;omega) (by omega) (by unfold B127;omega))
      obtain⟨n1,n2,pn⟩:=WP.ex sn
      obtain⟨d1,d2,pd⟩:=WP.ex sd
      rw[pn.sum pd]at HCP
      obtain⟨z0,z1,z2,z3,_⟩:=hsb.cells pn pd
      have l0:=zAR hsb.lt z0
      have l1:=zAR hsb.lt z1
      have l2:=zAR hsb.lt z2
      have l3:=zAR hsb.lt z3
      have l4:=zAR hby hcy
      have hcz:(cmpI sn (sd*yv)=0↔sn=sd*yv):=by unfold cmpI;split<;>(try split)<;>omega
      obtain⟨cv,hcv⟩:=exq (cmpI sn (sd*yv))
      rw[<- hcv]at HCP hcz
      have HCZ:=hid hcz
      have HBT:=hid (zAB HBK.out hbw)
      have i3:(k:Int)<(n3:Int):=by have:=HHN.out;omega
      have i4:(0:Int)<=(k:Int):=by omega
      clear hbw hkY hvy hyv hS hsb k1 k2 k3 e2 pn pd z0 z1 z2 z3 hcv hcz hcy hbt hyb
      go_wp2
      refine zCY (by kernel_rfl) (by kernel_rfl) ?_
      repeat (go_big_quiet_step ((go_at_call 155;exact zBV (HCP.out _))))
      refine wpQuiet_nil ?_
      rintro _ ⟨X,rfl⟩
      have HFB:=hid (zAB HBT.out (zCP wr X))
      clear l0 l1 l2 l3 l4
      by_cases hc0:cv=0
      ·have hcb:(cv !=0)=false:=by simp[hc0]
       have HX:=hid (HQX.out (HCZ.out.1 hc0))
       go_wp2
       exact⟨⟨k+1,by omega,by go_num,HFB.out,HX⟩,by simp[intOf];omega⟩
      ·have hcb:(cv !=0)=true:=by simp[hc0]
       obtain rfl:B=false:=HNK.out (fun h=>hc0 (HCZ.out.2 h))
       go_wp2
       go_ret
       exact⟨rfl,HFB.out⟩
   ·obtain rfl:k=n:=by omega
    obtain rfl:B=true:=HYS2.out (fun i hi=>HQ.out i (by have:=HN.out;omega))
    go_wp2
    go_ret
    exact⟨rfl,hbk⟩
end
section
open Go.RowKit Go.Lib
end
section
def denP(x:List Rt):Nat->Int
 |0=>1
 |k+1=>denP x k*(zAC x k).2
theorem denP_ne{x:List Rt}(h:∀k,(zAC x k).2≠0):∀k,denP x k≠0
 |0=>by show(1:Int)≠0;decide
 |k+1=>Int.mul_ne_zero (denP_ne h k) (h k)
theorem denP_dvd(x:List Rt):∀(k i:Nat),i<k->(zAC x i).2∣denP x k
 |0,i,h=>by omega
 |k+1,i,h=>by
  by_cases e:i=k
  ·subst e;exact⟨denP x i,Int.mul_comm _ _⟩
  ·obtain⟨c,hc⟩:=denP_dvd x k i (by omega)
   exact⟨c*(zAC x k).2,by rw[denP,hc];grind⟩
def numP(x:List Rt)(W i:Nat):Int:=(zAC x i).1*(denP x W/(zAC x i).2)
theorem numP_eq{x:List Rt}{W i:Nat}(hi:i<W):numP x W i*(zAC x i).2=(zAC x i).1*denP x W:=by
 have h2:=Int.ediv_mul_cancel (denP_dvd x W i hi)
 unfold numP
 rw[Int.mul_assoc,h2]
end
end
section
def sumA{α:Type}(v:α->Int):List α->Nat
 | []=>0
 |r::rs=>(v r).natAbs+sumA v rs
def pairA{α:Type}(c d:α->Int):List α->Nat
 | []=>0
 |r::rs=>sumA (fun s=>c r*d s-d r*c s) rs+pairA c d rs
theorem ex_abs{α:Type}(v:α->Int):∀(l:List α) (F:Nat) (f:List α->Int),(∀m:List α,m.length+1=l.length->(f m).natAbs<=F)->(ex v f l).natAbs<=F*sumA v l
 | [],F,f,_=>by simp[ex]
 |r::rs,F,f,hf=>by
  have h1:=ex_abs v rs F (fun l=>f (r::l)) (fun m hm=>hf _ (by simp;omega))
  have h2:=hf rs (by simp)
  have h3:(v r*f rs).natAbs<=F*(v r).natAbs:=by rw[Int.natAbs_mul,Nat.mul_comm];exact Nat.mul_le_mul_right _ h2
  unfold ex sumA
  rw[Nat.mul_add]
  omega
theorem ex_lin{α:Type}(c d:α->Int)(x y:Int):∀(l:List α) (f:List α->Int),ex (fun s=>x*d s-y*c s) f l=x*ex d f l-y*ex c f l
 | [],f=>by simp[ex]
 |r::rs,f=>by
  unfold ex
  rw[ex_lin c d x y rs (fun l=>f (r::l))]
  grind
theorem ex2_abs{α:Type}(c d:α->Int):∀(l:List α) (F:Nat) (f:List α->Int),(∀m:List α,m.length+2=l.length->(f m).natAbs<=F)->(ex c (ex d f) l).natAbs<=F*pairA c d l
 | [],F,f,_=>by simp[ex]
 |r::rs,F,f,hf=>by
  have h1:=ex2_abs c d rs F (fun k=>f (r::k)) (fun m hm=>hf _ (by simp;omega))
  have e1:ex c (fun l=>ex d f (r::l)) rs=d r*ex c f rs-ex c (ex d (fun m=>f (r::m))) rs:=by
   have:(fun l=>ex d f (r::l))=fun l=>d r*f l-ex d (fun m=>f (r::m)) l:=by funext l;rfl
   rw[this,ex_sub c rs (fun l=>d r*f l) (fun l=>ex d (fun m=>f (r::m)) l),ex_mul]
  have e2:ex c (ex d f) (r::rs)=ex (fun s=>c r*d s-d r*c s) f rs+ex c (ex d (fun m=>f (r::m))) rs:=by
   rw[ex_lin]
   show c r*ex d f rs-ex c (fun l=>ex d f (r::l)) rs=_
   rw[e1];omega
  have h2:=ex_abs (fun s=>c r*d s-d r*c s) rs F f (fun m hm=>hf m (by simp;omega))
  rw[e2]
  unfold pairA
  rw[Nat.mul_add]
  omega
structure Cnt where
 a:Nat
 b:Nat
 c:Nat
 d:Nat
def cnt{α:Type}(c d:α->Int):List α->Cnt
 | []=>⟨0,0,0,0⟩
 |r::rs=>
  let k:=cnt c d rs
  if c r=0 then(if d r=0 then k else {k with d:=k.d+1})else if d r=0 then {k with c:=k.c+1}else if c r=d r then {k with a:=k.a+1}else {k with b:=k.b+1}
theorem zNQ{α:Type}(c d:α->Int)(r:α)(rs:List α):cnt c d (r::rs)=if c r=0 then(if d r=0 then cnt c d rs else {cnt c d rs with d:=(cnt c d rs).d+1})else if d r=0 then {cnt c d rs with c:=(cnt c d rs).c+1}else if c r=d r then {cnt c d rs with a:=(cnt c d rs).a+1}else {cnt c d rs with b:=(cnt c d rs).b+1}:=rfl
theorem one3{x:Int}(h: -1<=x∧x<=1):x= -1∨x=0∨x=1:=by omega
theorem cnt_le{α:Type}(c d:α->Int):∀l:List α,(cnt c d l).a+(cnt c d l).b+(cnt c d l).c+(cnt c d l).d<=l.length
 | []=>by simp[cnt]
 |r::rs=>by
  have:=cnt_le c d rs
  rw[zNQ]
  simp only[List.length_cons]
  generalize cnt c d rs=k at this⊢
  obtain⟨A,B,C,D⟩:=k
  split<;>(try split)<;>(try split)<;>(try simp only[])<;>(try simp only[]at this)<;>omega
theorem sum_cnt{α:Type}{c d:α->Int}(hc:∀r,-1<=c r∧c r<=1)(hd:∀r,-1<=d r∧d r<=1)(x y:Int)(hx: -1<=x∧x<=1)(hy: -1<=y∧y<=1):∀l:List α,
 sumA (fun s=>x*d s-y*c s) l=if x=0 then(if y=0 then 0 else(cnt c d l).a+(cnt c d l).b+(cnt c d l).c)else if y=0 then(cnt c d l).a+(cnt c d l).b+(cnt c d l).d else if x=y then 2*(cnt c d l).b+(cnt c d l).c+(cnt c d l).d else 2*(cnt c d l).a+(cnt c d l).c+(cnt c d l).d
 | []=>by simp[sumA,cnt]
 |r::rs=>by
  have ih:=sum_cnt hc hd x y hx hy rs
  unfold sumA
  rw[ih,zNQ]
  have h1:=one3 (hc r)
  have h2:=one3 (hd r)
  generalize c r=p at h1⊢
  generalize d r=q at h2⊢
  generalize cnt c d rs=k
  rcases one3 hx with rfl|rfl|rfl<;>rcases one3 hy with rfl|rfl|rfl<;>rcases h1 with rfl|rfl|rfl<;>rcases h2 with rfl|rfl|rfl<;>simp<;>omega
theorem pair_cnt{α:Type}{c d:α->Int}(hc:∀r,-1<=c r∧c r<=1)(hd:∀r,-1<=d r∧d r<=1):∀l:List α,
 pairA c d l=2*((cnt c d l).a*(cnt c d l).b)+(cnt c d l).c*(cnt c d l).d+((cnt c d l).c+(cnt c d l).d)*((cnt c d l).a+(cnt c d l).b)
 | []=>by simp[pairA,cnt]
 |r::rs=>by
  have ih:=pair_cnt hc hd rs
  have hs:=sum_cnt hc hd (c r) (d r) (hc r) (hd r) rs
  unfold pairA
  rw[hs,ih,zNQ]
  have h1:=one3 (hc r)
  have h2:=one3 (hd r)
  generalize c r=p at h1⊢
  generalize d r=q at h2⊢
  generalize cnt c d rs=k
  obtain⟨A,B,C,D⟩:=k
  rcases h1 with rfl|rfl|rfl<;>rcases h2 with rfl|rfl|rfl<;>simp<;>grind
theorem pair_le{α:Type}{c d:α->Int}(hc:∀r,-1<=c r∧c r<=1)(hd:∀r,-1<=d r∧d r<=1)(l:List α):2*pairA c d l<=l.length*l.length:=by
 rw[pair_cnt hc hd l]
 have h:=cnt_le c d l
 generalize cnt c d l=k at h⊢
 obtain⟨A,B,C,D⟩:=k
 simp only[]at h⊢
 refine Nat.le_trans ?_ (Nat.mul_le_mul h h)
 have hab:2*(A*B)<=A*A+B*B:=by
  rcases Nat.le_total A B with e|e
  ·obtain⟨t,rfl⟩:=Nat.exists_eq_add_of_le e
   have:=Nat.zero_le (t*t)
   grind
  ·obtain⟨t,rfl⟩:=Nat.exists_eq_add_of_le e
   have:=Nat.zero_le (t*t)
   grind
 have h1:=Nat.zero_le (C*C)
 have h2:=Nat.zero_le (D*D)
 have e:(A+B+C+D)*(A+B+C+D)=A*A+B*B+2*(A*B)+(C*C+D*D+2*(C*D))+2*((C+D)*(A+B)):=by grind
 rw[e]
 omega
theorem det_288{α:Type}(cs:List (α->Int))(hc:∀c∈cs,∀r,-1<=c r∧c r<=1)(l:List α)(hl:l.length=cs.length)(h6:cs.length<=6):(det cs l).natAbs<=288:=by
 have two:∀(c d:α->Int) (ds:List (α->Int)) (F:Nat) (m:List α),(∀r,-1<=c r∧c r<=1)->(∀r,-1<=d r∧d r<=1)->(∀k:List α,k.length+2=m.length->(det ds k).natAbs<=F)->(det (c::d::ds) m).natAbs<=F*(m.length*m.length/2):=by
  intro c d ds F m h1 h2 h3
  refine Nat.le_trans (ex2_abs c d m F (det ds) h3) (Nat.mul_le_mul_left _ ?_)
  have:=pair_le h1 h2 m
  omega
 have d0:∀m:List α,(det ([]:List (α->Int)) m).natAbs<=1:=fun m=>by simp[det]
 have d1:∀(c:α->Int) (m:List α),(∀r,-1<=c r∧c r<=1)->m.length=1->(det [c] m).natAbs<=1:=by
  intro c m h hm
  match m,hm with
  | [r],_=>have:=h r;simp[det,ex];omega
 match cs,hc,hl,h6 with
 | [],_,_,_=>have:=d0 l;omega
 | [c],hc,hl,_=>have:=d1 c l (hc c (by simp)) (by simpa using hl);omega
 | [c,d],hc,hl,_=>
   have:=two c d [] 1 l (hc c (by simp)) (hc d (by simp)) (fun k _=>d0 k)
   rw[hl]at this;simp at this;omega
 | [c,d,e],hc,hl,_=>
   have:=two c d [e] 1 l (hc c (by simp)) (hc d (by simp)) (fun k hk=>d1 e k (hc e (by simp)) (by simp at hl;omega))
   rw[hl]at this;simp at this;omega
 | [c,d,e,f],hc,hl,_=>
   have:=two c d [e,f] 2 l (hc c (by simp)) (hc d (by simp)) (fun k hk=>by
    have:=two e f [] 1 k (hc e (by simp)) (hc f (by simp)) (fun k _=>d0 k)
    rw[show k.length=2 by simp at hl;omega]at this;simpa using this)
   rw[hl]at this;simp at this;omega
 | [c,d,e,f,g],hc,hl,_=>
   have:=two c d [e,f,g] 4 l (hc c (by simp)) (hc d (by simp)) (fun k hk=>by
    have hk3:k.length=3:=by simp at hl;omega
    have:=two e f [g] 1 k (hc e (by simp)) (hc f (by simp)) (fun j hj=>d1 g j (hc g (by simp)) (by omega))
    rw[hk3]at this;simpa using this)
   rw[hl]at this;simp at this;omega
 | [c,d,e,f,g,h],hc,hl,_=>
   have:=two c d [e,f,g,h] 16 l (hc c (by simp)) (hc d (by simp)) (fun k hk=>by
    have hk4:k.length=4:=by simp at hl;omega
    have:=two e f [g,h] 2 k (hc e (by simp)) (hc f (by simp)) (fun j hj=>by
     have:=two g h [] 1 j (hc g (by simp)) (hc h (by simp)) (fun k _=>d0 k)
     rw[show j.length=2 by omega]at this;simpa using this)
    rw[hk4]at this;simpa using this)
   rw[hl]at this;simp at this;omega
 |_::_::_::_::_::_::_::_,_,_,h6=>simp at h6
end
section
theorem RInv.piv_288{W N:Nat}{A0:Nat->Vec}{j:Nat}{L:List (List Int)}{J:List Nat}(h:RInv W N A0 j L J)(hN:N<=6)(h1:∀x∈J,∀r,-1<=A0 r x∧A0 r x<=1){k:Nat}(hk:k<J.length):
 0<rowv L k (jf J k)∧rowv L k (jf J k)<=288:=by
 have hp:=(h.pp k hk).2
 refine⟨hp,?_⟩
 obtain⟨A,hs,hA⟩:=h.st
 have hd:=det_288 (zCO (jf J) A J.length) (fun x hx r=>by
  obtain⟨k,hk,rfl⟩:=zFD.1 hx
  obtain⟨q0,e⟩:=hA r
  simp only[e]
  exact h1 _ (by unfold jf;rw[List.getElem?_eq_getElem hk];exact List.getElem_mem hk) q0) (zCK J.length) (by rw[zEJ,zCU]) (by rw[zCU];exact Nat.le_trans hs.le hN)
 have h0:=hs.d0
 have hdv:=Int.natAbs_dvd_natAbs.2 (hs.piv_dvd hk (h.pp k hk).1)
 have:=Nat.le_of_dvd (by omega) hdv
 omega
theorem sys_zero{R:List (List Int)}{n Y:Nat}(h:MaskY R n Y)(hn:n∉(rRed R (n+1)).piv){q:Nat}(h1:(pRed R n).2.length<=q)(h2:q<R.length)(c:Nat):rowv (pRed R n).1 q c=0:=by
 have hi:=zCA R h.wid n (fun j hj q=>zBT (by decide) (fun r hr=>h.one r hr j hj) q)
 rcases Nat.lt_or_ge c n with hc|hc
 ·exact hi.zero q h1 h2 c hc
 ·by_cases e:c=n
  ·subst e
   rcases Classical.em (rowv (pRed R c).1 q c=0)with e0|e0
   ·exact e0
   ·exact absurd (red_more (m:=c+1) h.wid h.one (Nat.le_refl _) h1 h2 e0) hn
  ·exact zGH hi.wid q (by omega)
theorem zFZ{α:Type}(f:Nat->α)(g:Nat->Nat)(l:List α):∀(K j:Nat),(∀a,a<K->g a≠j)->((List.range K).foldl (fun out i=>out.set (g i) (f i)) l)[j]? =l[j]?
 |0,j,_=>by simp
 |K+1,j,h=>by
  rw[List.range_succ,List.foldl_append]
  simp only[List.foldl_cons,List.foldl_nil]
  rw[List.getElem?_set_ne (h K (by omega))]
  exact zFZ f g l K j (fun a ha=>h a (by omega))
theorem zJK{R:List (List Int)}{n Y:Nat}(h:MaskY R n Y)(hn:n∉(rRed R (n+1)).piv):
 (zCB R n).2.2=true∧(zCB R n).1.length=n∧(∀i,i<(pRed R n).2.length->zAC (zCB R n).1 (jf (pRed R n).2 i)=zBC (rowv (pRed R n).1 i n) (rowv (pRed R n).1 i (jf (pRed R n).2 i)))∧
 (∀j,j∉(pRed R n).2->zAC (zCB R n).1 j=(0,1)):=by
 have hi:=zCA R h.wid n (fun j hj q=>zBT (by decide) (fun r hr=>h.one r hr j hj) q)
 obtain⟨e1,e2⟩:=zMV (m:=n+1) h.wid h.one (Nat.le_refl _) (fun q h1 h2 c _ _=>sys_zero h hn h1 h2 c)
 have hl:=zEP R n
 have hK:=hi.K_le
 unfold zCB
 simp only[]
 rw[if_neg hn,e2,<- e1]
 refine⟨rfl,by rw[zDU];simp,fun i hlt=>?_,fun j hj=>?_⟩
 ·unfold zAC
  rw[zJO (fun i=>zBC (vec (((pRed R n).1.take (pRed R n).2.length)[i]?.getD []) n) (vec (((pRed R n).1.take (pRed R n).2.length)[i]?.getD []) (jf (pRed R n).2 i))) (fun i=>jf (pRed R n).2 i) _ _ i hlt (by simp only[List.length_replicate];exact hi.jf_lt hlt) (fun a b h1 h2=>by have:=hi.ech.asc a b h1 h2;omega)]
  rw[List.getElem?_take_of_lt hlt]
  rfl
 ·unfold zAC
  rw[zFZ _ _ _ _ j (fun a ha e=>hj (by rw[<- e];exact jf_mem ha)),List.getElem?_replicate]
  split<;>rfl
theorem zDB{a b:Int}(hb:0<b):0<(zBC a b).2∧(zBC a b).2<=b∧(zBC a b).1.natAbs<=a.natAbs∧Int.gcd (zBC a b).1 (zBC a b).2=1∧(zBC a b).1*b=a*(zBC a b).2:=by
 have g1:0<Int.gcd a b:=Nat.pos_of_ne_zero fun e=>by have:=(Int.gcd_eq_zero_iff.1 e).2;omega
 obtain⟨a1,ha⟩:=Int.gcd_dvd_left a b
 obtain⟨b1,hb1⟩:=Int.gcd_dvd_right a b
 have hG0:((Int.gcd a b:Nat):Int)≠0:=by omega
 have e:zBC a b=(a1,b1):=by
  unfold zBC
  rw[Int.tdiv_eq_of_eq_mul_left hG0 (c:=a1) (by rw[Int.mul_comm];exact ha),Int.tdiv_eq_of_eq_mul_left hG0 (c:=b1) (by rw[Int.mul_comm];exact hb1)]
 rw[e]
 have hb0:0<b1:=by
  rcases Int.lt_or_le 0 b1 with h|h
  ·exact h
  ·have:((Int.gcd a b:Nat):Int)*b1<=0:=Int.mul_nonpos_of_nonneg_of_nonpos (by omega) h
   omega
 have hg:Int.gcd a1 b1=1:=by
  have k1:Int.gcd (((Int.gcd a b:Nat):Int)*a1) (((Int.gcd a b:Nat):Int)*b1)=Int.gcd a b*Int.gcd a1 b1:=by
   rw[Int.gcd_mul_left];simp
  rw[<- ha,<- hb1]at k1
  exact Nat.eq_of_mul_eq_mul_left g1 (by omega)
 refine⟨hb0,?_,?_,hg,?_⟩
 ·have:b1*1<=b1*((Int.gcd a b:Nat):Int):=Int.mul_le_mul_of_nonneg_left (by omega) (by omega)
  rw[Int.mul_comm b1 ((Int.gcd a b:Nat):Int)]at this
  omega
 ·have:a1.natAbs<=Int.gcd a b*a1.natAbs:=Nat.le_mul_of_pos_left _ g1
  have h2:a.natAbs=Int.gcd a b*a1.natAbs:=by
   have:=congrArg Int.natAbs ha
   rwa [Int.natAbs_mul,Int.natAbs_natCast]at this
  omega
 ·show a1*b=a*b1
  generalize ((Int.gcd a b:Nat):Int)=G at ha hb1
  rw[ha,hb1];grind
theorem sys_le{R:List (List Int)}{n Y:Nat}(h:MaskY R n Y)(i c:Nat):(rowv (pRed R n).1 i c).natAbs<=720*Y:=by
 unfold rowv
 cases hk:(pRed R n).1[i]? with
 |none=>simp[vec]
 |some r=>
  have h2:=(zNA (n:=n) (Y:=Y) h.wid h.le6 (fun r hr c hc=>h.one r hr c hc) h.all (Nat.le_refl n) r (List.mem_of_getElem? hk)).2
  have:=zET (P:=fun x=>x.natAbs<=720*Y) (by simp) (fun x hx=>by have:=h2 x hx;omega) c
  simpa using this
theorem zJJ{R:List (List Int)}{n Y:Nat}(h:MaskY R n Y)(hY:Y<=1000000)(hn:n∉(rRed R (n+1)).piv):(zCB R n).1.all zAJ=true∧∀j,0<(zAC (zCB R n).1 j).2:=by
 obtain⟨_,hl,hp,ho⟩:=zJK h hn
 have hi:=zCA R h.wid n (fun j hj q=>zBT (by decide) (fun r hr=>h.one r hr j hj) q)
 have hv:∀j,zAJ (zAC (zCB R n).1 j)=true:=by
  intro j
  by_cases hj:j∈(pRed R n).2
  ·obtain⟨i,hilt,e⟩:=List.mem_iff_getElem.1 hj
   have ej:jf (pRed R n).2 i=j:=by unfold jf;rw[List.getElem?_eq_getElem hilt];simpa using e
   rw[<- ej,hp i hilt]
   obtain⟨b1,b2⟩:=hi.piv_288 h.le6 (fun x hx r=>zBT (by decide) (fun r hr=>h.one r hr x (hi.lt x hx)) r) hilt
   have b3:=sys_le h i n
   obtain⟨c1,c2,c3,c4,_⟩:=zDB (a:=rowv (pRed R n).1 i n) b1
   have b4:720*Y<=720000000:=by omega
   rw[zBB]
   exact⟨by omega,by omega,by omega,by omega,c4⟩
  ·rw[ho j hj];decide
 refine⟨List.all_eq_true.2 fun r hr=>?_,fun j=>?_⟩
 ·obtain⟨j,hj,e⟩:=List.mem_iff_getElem.1 hr
  have:=hv j
  unfold zAC at this
  rw[List.getElem?_eq_getElem hj]at this
  rw[<- e];exact this
 ·have:=(zBB.1 (hv j)).1;omega
theorem zKM(f:Nat->Int)(n:Nat):sm f (n+1)=sm f n+f n:=rfl
theorem solved_row{R:List (List Int)}{n Y:Nat}(h:MaskY R n Y)(hY:Y<=1000000)(hn:n∉(rRed R (n+1)).piv){u:Vec}(hu:Sp (RB R.length (rowv R)) u):
 sm (fun j=>u j*numP (zCB R n).1 n j) n=u n*denP (zCB R n).1 n:=by
 obtain⟨_,hl,hp,ho⟩:=zJK h hn
 obtain⟨_,hpos⟩:=zJJ h hY hn
 have hi:=zCA R h.wid n (fun j hj q=>zBT (by decide) (fun r hr=>h.one r hr j hj) q)
 have hden:denP (zCB R n).1 n≠0:=denP_ne (fun k=>by have:=hpos k;omega) n
 have hnum:=fun i (hi:i<n)=>numP_eq (x:=(zCB R n).1) (W:=n) hi
 generalize (zCB R n).1=X at hl hp ho hpos hden hnum⊢
 have hsp:=(hi.span (fun q h1 h2 c=>sys_zero h hn h1 h2 c)).2 hu
 have key:=zNN (B:=RB (pRed R n).2.length (rowv (pRed R n).1)) (h:=fun c=>if c<n then numP X n c else-denP X n) (n:=n+1) (by
  rintro v ⟨k,hk,rfl⟩
  have hkn:=hi.jf_lt hk
  unfold dotS
  rw[zKM,zAG (g:=fun c=>rowv (pRed R n).1 k c*numP X n c) (fun c hc=>by simp only[if_pos hc])]
  simp only[Nat.lt_irrefl,if_false]
  rw[zDS hkn (fun c hc hne=>?_)]
  ·have e1:=hnum _ hkn
   rw[hp k hk]at e1
   have hb:=(hi.pp k hk).2
   obtain⟨c1,_,_,_,c5⟩:=zDB (a:=rowv (pRed R n).1 k n) hb
   -- num*b2=b1*den,b1*b=a*b2
   generalize rowv (pRed R n).1 k (jf (pRed R n).2 k)=b at*
   generalize rowv (pRed R n).1 k n=a at*
   generalize zBC a b=p at*
   obtain⟨b1,b2⟩:=p
   dsimp only at*
   have e2:b2*(b*numP X n (jf (pRed R n).2 k))=b2*(a*denP X n):=by
    have:b2*(b*numP X n (jf (pRed R n).2 k))=b*(numP X n (jf (pRed R n).2 k)*b2):=by grind
    rw[this,e1]
    have:b*(b1*denP X n)=(b1*b)*denP X n:=by grind
    rw[this,c5];grind
   have e3:=Int.eq_of_mul_eq_mul_left (show b2≠0 by omega) e2
   rw[e3,Int.mul_neg];omega
  ·by_cases hm:c∈(pRed R n).2
   ·obtain⟨q,hq,e⟩:=List.mem_iff_getElem.1 hm
    have ej:jf (pRed R n).2 q=c:=by unfold jf;rw[List.getElem?_eq_getElem hq];simpa using e
    have hqk:q≠k:=fun e2=>hne (by rw[<- ej,e2])
    rw[<- ej,hi.ech.red.off k hk q hq (fun e3=>hqk e3.symm)]
    simp
   ·have e1:=hnum c hc
    rw[ho c hm]at e1
    simp at e1
    rw[e1];simp) hsp
 unfold dotS at key
 rw[zKM,zAG (g:=fun c=>u c*numP X n c) (fun c hc=>by simp only[if_pos hc])]at key
 simp only[Nat.lt_irrefl,if_false]at key
 rw[Int.mul_neg]at key
 omega
end
section
theorem zKE{M:List (List Int)}{n:Nat}(h:MaskOk M n){y:List Int}(hy:y.length=M.length){q:Nat}(hq:q<M.length):zEE n (rowv (zAF M y) q)=rowv M q:=by
 funext c
 unfold zEE
 by_cases hc:c<n
 ·rw[if_pos hc,zFQ h hy hq,if_pos hc]
 ·rw[if_neg hc,zGH h.wid q (by omega)]
theorem zKF{M:List (List Int)}{n:Nat}(h:MaskOk M n){y:List Int}(hy:y.length=M.length){Y:Nat}(hY:MaskY (zAF M y) n Y):(pRed (zAF M y) n).2=JP M n:=by
 have he:=zCA (zAF M y) hY.wid n (fun j hj q=>zBT (by decide) (fun r hr=>hY.one r hr j hj) q)
 rw[zED hy]at he
 have hi:=h.inv n
 have hE:Ech (pRed (zAF M y) n).2.length (jf (pRed (zAF M y) n).2) (fun k=>zEE n (rowv (pRed (zAF M y) n).1 k)):=by
  have e:=he.ech
  refine⟨⟨fun k hk=>?_,fun k hk q hq hne=>?_⟩,fun k hk c hc=>?_,e.asc⟩
  ·have hl:=he.jf_lt hk
   simp only[zEE,if_pos hl]
   exact e.red.piv k hk
  ·have hl:=he.jf_lt hq
   simp only[zEE,if_pos hl]
   exact e.red.off k hk q hq hne
  ·simp only[zEE]
   split
   ·exact e.lead k hk c hc
   ·rfl
 have s1:∀k,k<(pRed (zAF M y) n).2.length->Sp (RB (JP M n).length (rowv (RP M n))) (zEE n (rowv (pRed (zAF M y) n).1 k)):=by
  intro k hk
  refine h.span.2 (truncV_sp (B:=RB M.length (rowv (zAF M y))) ?_ (he.sp1 k (Nat.lt_of_lt_of_le hk he.K_le)))
  rintro v ⟨q,hq,rfl⟩
  rw[zKE h hy hq];exact RB.sp hq
 have s2:∀k,k<(JP M n).length->Sp (RB (pRed (zAF M y) n).2.length (fun k=>zEE n (rowv (pRed (zAF M y) n).1 k))) (rowv (RP M n) k):=by
  intro k hk
  refine(h.span.1 (RB.sp hk)).trans ?_
  rintro v ⟨q,hq,rfl⟩
  rw[<- zKE h hy hq]
  refine truncV_sp (B:=RB M.length (rowv (pRed (zAF M y) n).1)) ?_ (he.sp2 q hq)
  rintro v ⟨m,hm,rfl⟩
  rcases Nat.lt_or_ge m (pRed (zAF M y) n).2.length with c|c
  ·exact .of ⟨m,c,rfl⟩
  ·refine Sp.zero.congr fun x=>?_
   unfold zEE
   split
   ·exact he.zero m c hm x ‹_›
   ·rfl
 obtain⟨hK,hJ,hR⟩:=hE.unique hi.ech s1 s2
 exact List.ext_getElem hK fun k h1 h2=>by
  have:=hJ k h1
  unfold jf at this
  rw[List.getElem?_eq_getElem h1,List.getElem?_eq_getElem h2]at this
  simpa using this
end
section
theorem denP_pos{x:List Rt}(h:∀k,0<(zAC x k).2):∀k,0<denP x k
 |0=>by show(0:Int)<1;decide
 |k+1=>Int.mul_pos (denP_pos h k) (h k)
theorem solve_of{M:List (List Int)}{n:Nat}(h:MaskOk M n){y:List Int}(hy:y.length=M.length)(hmil:∀v∈y,-1000000<=v∧v<=1000000)(hr:zEU M n=n)
 {l:Nat->Int}{D:Int}(hD:D≠0)(hl:∀q,q<M.length->sm (fun i=>rowv M q i*l i) n=vec y q*D):
 (zAQ (zAF M y) n).2=0∧(zAQ (zAF M y) n).1.length=n∧∀k,k<n->(zAC (zAQ (zAF M y) n).1 k).1*D=l k*(zAC (zAQ (zAF M y) n).1 k).2∧0<(zAC (zAQ (zAF M y) n).1 k).2∧(zAC (zAQ (zAF M y) n).1 k).2<=288∧Int.gcd (zAC (zAQ (zAF M y) n).1 k).1 (zAC (zAQ (zAF M y) n).1 k).2=1:=by
 have hY:=h.addY hy (Y:=1000000) (by decide) (by simpa using hmil)
 have hi:=zCA (zAF M y) hY.wid n (fun j hj q=>zBT (by decide) (fun r hr=>hY.one r hr j hj) q)
 have hpiv:=zKF h hy hY
 have hJl:(pRed (zAF M y) n).2.length=n:=by rw[hpiv];exact hr
 have hasc:(pRed (zAF M y) n).2=List.range' 0 n:=zKB hi.asc (fun x hx=>by have:=hi.lt x hx;omega) hJl
 have hjf:∀k,k<n->jf (pRed (zAF M y) n).2 k=k:=fun k hk=>by
  rw[hasc];unfold jf;rw[List.getElem?_range' hk];simp
 have hlen:(zAF M y).length=M.length:=zED hy
 have hdot:∀u,Sp (RB (zAF M y).length (rowv (zAF M y))) u->dotS u (fun c=>if c<n then l c else-D) (n+1)=0:=by
  intro u hu
  refine zNN ?_ hu
  rintro v ⟨q,hq,rfl⟩
  rw[hlen]at hq
  unfold dotS
  rw[zKM,zAG (g:=fun i=>rowv M q i*l i) (fun c hc=>by simp only[if_pos hc];rw[zFQ h hy hq,if_pos hc]),hl q hq]
  simp only[Nat.lt_irrefl,if_false]
  rw[zFQ h hy hq,if_neg (by omega),if_pos rfl]
  rw[Int.mul_neg];omega
 have hsp1:=hi.sp1
 rw[<- hlen]at hy
 -- the rows behind the pivots
 have h0:∀q,n<=q->q<(zAF M y).length->rowv (pRed (zAF M y) n).1 q n=0:=by
  intro q h1 h2
  have hd:=hdot _ (hsp1 q h2)
  unfold dotS at hd
  rw[zKM,zAG (g:=fun _=>0) (fun c hc=>by simp only[if_pos hc];rw[hi.zero q (by omega) h2 c hc];simp),zCR]at hd
  simp only[Nat.lt_irrefl,if_false]at hd
  rcases Int.mul_eq_zero.1 (show rowv (pRed (zAF M y) n).1 q n* -D=0 by omega)with e|e
  ·exact e
  ·omega
 have hpl:=zEP (zAF M y) n
 have hany:((pRed (zAF M y) n).1.drop (pRed (zAF M y) n).2.length).any (nz n)=false:=by
  rw[List.any_eq_false]
  intro r hr2
  obtain⟨i,hilt,rfl⟩:=List.mem_iff_getElem.1 hr2
  rw[List.getElem_drop]
  rw[List.length_drop]at hilt
  have:=h0 ((pRed (zAF M y) n).2.length+i) (by omega) (by omega)
  rw[zFU (by omega)]at this
  simpa[nz]using this
 have hs:zAQ (zAF M y) n=((List.range n).map fun k=>ofF (vec ((pRed (zAF M y) n).1[k]?.getD []) n) (vec ((pRed (zAF M y) n).1[k]?.getD []) (jf (pRed (zAF M y) n).2 k)),0):=by
  unfold zAQ
  simp only[]
  rw[if_neg (by rw[hany];simp),if_neg (by omega)]
 rw[hs]
 refine⟨rfl,by simp,fun k hk=>?_⟩
 have hk':k<(pRed (zAF M y) n).2.length:=by omega
 have hb:=hi.piv_288 (by rw[zED (by omega)];exact h.le6) (fun x hx r=>zBT (by decide) (fun r hr=>hY.one r hr x (hi.lt x hx)) r) hk'
 have e1:zAC ((List.range n).map fun k=>ofF (vec ((pRed (zAF M y) n).1[k]?.getD []) n) (vec ((pRed (zAF M y) n).1[k]?.getD []) (jf (pRed (zAF M y) n).2 k))) k=ofF (rowv (pRed (zAF M y) n).1 k n) (rowv (pRed (zAF M y) n).1 k (jf (pRed (zAF M y) n).2 k)):=by
  unfold zAC
  rw[List.getElem?_map,List.getElem?_range hk];rfl
 rw[e1,zKU hb.1]
 have hd:=hdot _ (hsp1 k (Nat.lt_of_lt_of_le hk' hi.K_le))
 unfold dotS at hd
 rw[zKM,zDS hk (fun c hc hne=>?_)]at hd
 ·simp only[if_pos hk,Nat.lt_irrefl,if_false]at hd
  have hjk:=hjf k hk
  rw[hjk]at hb⊢
  obtain⟨c1,c2,c3,c4,c5⟩:=zDB (a:=rowv (pRed (zAF M y) n).1 k n) hb.1
  refine⟨?_,c1,by omega,c4⟩
  generalize rowv (pRed (zAF M y) n).1 k k=b at*
  generalize rowv (pRed (zAF M y) n).1 k n=a at*
  generalize zBC a b=p at*
  obtain⟨b1,b2⟩:=p
  dsimp only at*
  have e2:b*(b1*D)=b*(l k*b2):=by
   have:b*(b1*D)=(b1*b)*D:=by grind
   rw[this,c5]
   have hd':b*l k=a*D:=by rw[Int.mul_neg]at hd;omega
   have:b*(l k*b2)=(b*l k)*b2:=by grind
   rw[this,hd'];grind
  exact Int.eq_of_mul_eq_mul_left (by omega) e2
 ·simp only[if_pos hc]
  have hc':c<(pRed (zAF M y) n).2.length:=by omega
  have:=hi.ech.red.off k hk' c hc' (fun e=>hne e.symm)
  rw[hjf c hc]at this
  rw[this];simp
theorem solve_to{M:List (List Int)}{n:Nat}(h:MaskOk M n){y:List Int}(hy:y.length=M.length)(hmil:∀v∈y,-1000000<=v∧v<=1000000)(he:(zAQ (zAF M y) n).2=0):
 zEU M n=n∧∃(l:Nat->Int) (D:Int),0<D∧(∀q,q<M.length->sm (fun i=>rowv M q i*l i) n=vec y q*D)∧∀k,k<n->(zAC (zAQ (zAF M y) n).1 k).1*D=l k*(zAC (zAQ (zAF M y) n).1 k).2:=by
 have hY:=h.addY hy (Y:=1000000) (by decide) (by simpa using hmil)
 have hi:=zCA (zAF M y) hY.wid n (fun j hj q=>zBT (by decide) (fun r hr=>hY.one r hr j hj) q)
 have hpiv:=zKF h hy hY
 have hle:=zMN (a:=0) (b:=n) hi.asc (fun x hx=>⟨Nat.zero_le _,hi.lt x hx⟩)
 have hge:n<=(pRed (zAF M y) n).2.length:=by
  unfold zAQ at he
  simp only[]at he
  split at he
  ·simp at he
  ·split at he
   ·simp at he
   ·omega
 have hr:zEU M n=n:=by
  have:zEU M n=(pRed (zAF M y) n).2.length:=by rw[hpiv];rfl
  omega
 have hss:=solve_same hY
 have hn:n∉(rRed (zAF M y) (n+1)).piv:=by
  intro hm
  rw[hss]at he
  unfold solveR zCB at he
  simp only[]at he
  rw[if_pos hm]at he
  simp at he
 have hsv:(zAQ (zAF M y) n).1=(zCB (zAF M y) n).1:=by
  rw[hss]at he⊢
  unfold solveR at he⊢
  simp only[]at he⊢
  split at he
  ·simp at he
  ·rename_i h1
   split at he
   ·simp at he
   ·rename_i h2
    rw[if_neg h1,if_neg h2]
 obtain⟨_,hpos⟩:=zJJ hY (Nat.le_refl _) hn
 refine⟨hr,numP (zCB (zAF M y) n).1 n,denP (zCB (zAF M y) n).1 n,denP_pos hpos n,fun q hq=>?_,fun k hk=>?_⟩
 ·have:=solved_row hY (Nat.le_refl _) hn (RB.sp (K:=(zAF M y).length) (R:=rowv (zAF M y)) (k:=q) (by rw[zED hy];exact hq))
  rw[zAG (g:=fun i=>rowv M q i*numP (zCB (zAF M y) n).1 n i) (fun c hc=>by rw[zFQ h hy hq,if_pos hc]),zFQ h hy hq,if_neg (by omega),if_pos rfl]at this
  exact this
 ·rw[hsv]
  have:=numP_eq (x:=(zCB (zAF M y) n).1) (W:=n) hk
  omega
end
end Go.Proofs.YtlffndehhhpgjaaGreat

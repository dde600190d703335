/- Walks and plain laws for DualSureRow, part 14. -/
import Derived.Test.YtlffndehhhpgjaaGreatPkDualSureRow13
namespace Go.Proofs.YtlffndehhhpgjaaGreat
set_option linter.unusedVariables false
set_option linter.unusedSimpArgs false
set_option maxRecDepth 100000
set_option maxHeartbeats 4000000
section
open Go.RowKit
theorem spr_eq(n:Nat)(l:List Int)(v:List Rt):∀k,k<=v.length->zDF n l v k=zKK n l v k
 |0,_=>rfl
 |k+1,h=>by
  rw[zHE,spr_eq n l v k (by omega)]
  show _=(zKK n l v k).set (l[k]?.getD 0).toNat (zAC v k)
  unfold zAC
  rw[List.getElem?_eq_getElem (show k<v.length by omega)];rfl
theorem spr_R{n:Nat}{f:FitT}(h:f.2.length=f.1.length):zMT n f.1 f.2=sprF n f:=spr_eq n f.1 f.2 f.1.length (by omega)
theorem info_pics:(Tryz.prog.info? 42).map (fun i=>(i.zero,i.size,i.bytes))=some (some (.slice none 0 0),1,24):=by kernel_rfl
theorem qpicture_c(w:World)(a:Option Addr)(n cap:Nat)(M:Mask)(W:Nat)(y:Value)(us ur:Value)(f:FitT)(hn:M.length=n)(h0:0<n)(hW:W=zAA M)(hW1:1<=W)(hW10:W<=10)(H:zAL w a M)(hd:HdF w us ur f)(hs:zCE W f.1)(hl:f.2.length=f.1.length)(hl10:f.1.length<=10)(ya:Option Addr)(yn yc:Nat)(hy:y=.slice ya yn yc):
 Calls Tryz.prog 99 #[.agg #[.slice a n cap,y],.agg #[us,ur]] w fun e w'=>∃g,e=.returned (.slice (some ⟨g,0,none⟩) W W)∧w.heap.size<=g∧zCD w' g (sprF W f)∧Below w.heap.size w w':=by
 subst hy
 obtain⟨pa,pn,pc,va,vn,vc,rfl,rfl,k1,k2,k3,k4,k5,k6⟩:=hd
 obtain⟨b0,off0,ra0,rc0,rfl,hb0,hc0⟩:=zCT H (by omega)
 rw[<- hW]at hc0
 obtain⟨qb,hqb⟩:=exq (w.heap.size)
 obtain⟨fb,hfb⟩:=exq (w.heap.size+1)
 obtain⟨wy,hwy⟩:=exq (w.alloc (.cells #[.slice (some ⟨b0,off0,none⟩) n cap,.slice ya yn yc] 86))
 have hby:Below w.heap.size w wy:=by rw[hwy];exact(Below.refl _ _).alloc (Nat.le_refl _) _
 have hys:wy.heap.size=w.heap.size+1:=by rw[hwy];simp
 have hqy:wy.heap[qb]? =some (.cells #[.slice (some ⟨b0,off0,none⟩) n cap,.slice ya yn yc] 86 (0,0)):=by rw[hwy,hqb];exact World.alloc_heap_new _ _
 obtain⟨wz,hwz⟩:=exq (wy.alloc (.cells #[.slice pa pn pc,.slice va vn vc] 73))
 have hyz:Below wy.heap.size wy wz:=by rw[hwz];exact(Below.refl _ _).alloc (Nat.le_refl _) _
 have hfz:wz.heap[fb]? =some (.cells #[.slice pa pn pc,.slice va vn vc] 73 (0,0)):=by rw[hwz,hfb,<- hys];exact World.alloc_heap_new _ _
 have hqz:wz.heap[qb]? =some (.cells #[.slice (some ⟨b0,off0,none⟩) n cap,.slice ya yn yc] 86 (0,0)):=(hyz.block qb (Array.getElem?_eq_some_iff.1 hqy).1).trans hqy
 have hbz:Below w.heap.size w wz:=zAB hby hyz
 have HWZ:=hid (show(w.alloc (.cells #[.slice (some ⟨b0,off0,none⟩) n cap,.slice ya yn yc] 86)).alloc (.cells #[.slice pa pn pc,.slice va vn vc] 73)=wz by rw[hwz,hwy])
 have HBZ:=hid hbz
 have HS:=hid (fun(Z:World) (hZ:Below wz.heap.size wz Z)=>show Z.cell? ⟨qb,0,none⟩=some (.slice (some ⟨b0,off0,none⟩) n cap)∧Z.cell? ⟨fb,0,none⟩=some (.slice pa pn pc)∧Z.cell? ⟨fb,1,none⟩=some (.slice va vn vc)∧Z.cell? ⟨b0,off0,none⟩=some (.slice ra0 W rc0)from by
  have h1:=(hZ.block qb (Array.getElem?_eq_some_iff.1 hqz).1).trans hqz
  have h2:=(hZ.block fb (Array.getElem?_eq_some_iff.1 hfz).1).trans hfz
  exact⟨by simp[World.cell?,h1],by simp[World.cell?,h2],by simp[World.cell?,h2],((zAB hbz hZ).cell (p:=⟨b0,off0,none⟩) hb0).trans hc0⟩)
 have HSP:=hid (fun(Z:World) (hZ:Below w.heap.size w Z)=>spread_c Z W hW1 (by omega) pa va pn pc vn vc f.1 f.2 k1 k4 (by omega) (by omega) (k3.below hZ) (k6.below hZ) (fun i hi=>by
  rw[List.getElem?_eq_getElem (show i<f.1.length by omega)]
  exact hs.2 _ (List.getElem_mem _)))
 rw[spr_R hl]at HSP
 have i0:(0:Int)<(n:Int):=by omega
 clear hn hW H hs hl hl10 k1 k2 k3 k4 k5 k6 hb0 hc0 hwy hby hys hqy hwz hyz hfz hqz hbz
 go_enter Tryz.func99,Tryz.ntmps99
 go_upto_region 1 with fail
 rw[<- hfb,<- hqb,HWZ.out]
 clear hfb hqb
 refine zAI (fun j' Z=>wAll j'=true->Z.cell? ⟨qb,0,none⟩=some (.slice (some ⟨b0,off0,none⟩) n cap)∧Z.cell? ⟨fb,0,none⟩=some (.slice pa pn pc)∧Z.cell? ⟨fb,1,none⟩=some (.slice va vn vc)∧Z.cell? ⟨b0,off0,none⟩=some (.slice ra0 W rc0)) (by kernel_rfl) ?_
 have hbd:Below wz.heap.size wz wz.drew:=(Below.refl _ _).drew
 generalize wz.drew=wd at hbd⊢
 have HBD:=hid hbd
 clear hbd
 refine AnyT.tD (i:=0) (v:=.pointer (some ⟨qb,0,none⟩)) rfl rfl (by rintro w' ⟨q0,q1,q2,q3⟩;go_simp) (HS.out _ HBD.out) ?_;go_frame
 refine AnyT.tD (i:=1) (v:=.slice (some ⟨b0,off0,none⟩) n cap) rfl rfl (by rintro w' ⟨q0,q1,q2,q3⟩;go_simp) (HS.out _ HBD.out) ?_;go_frame
 refine AnyT.tD (i:=2) (v:=.pointer (some ⟨b0,off0,none⟩)) rfl rfl (by rintro w' ⟨q0,q1,q2,q3⟩;go_simp) (HS.out _ HBD.out) ?_;go_frame
 refine AnyT.tD (i:=3) (v:=.slice ra0 W rc0) rfl rfl (by rintro w' ⟨q0,q1,q2,q3⟩;go_simp) (HS.out _ HBD.out) ?_;go_frame
 refine AnyT.tD (i:=4) (v:=.int .i64 W) rfl rfl (by rintro w' ⟨q0,q1,q2,q3⟩;go_simp) (HS.out _ HBD.out) ?_;go_frame
 refine AnyT.tD (i:=5) (v:=.pointer (some ⟨fb,0,none⟩)) rfl rfl (by rintro w' ⟨q0,q1,q2,q3⟩;go_simp) (HS.out _ HBD.out) ?_;go_frame
 refine AnyT.tD (i:=6) (v:=.slice pa pn pc) rfl rfl (by rintro w' ⟨q0,q1,q2,q3⟩;go_simp) (HS.out _ HBD.out) ?_;go_frame
 refine AnyT.tD (i:=7) (v:=.pointer (some ⟨fb,1,none⟩)) rfl rfl (by rintro w' ⟨q0,q1,q2,q3⟩;go_simp) (HS.out _ HBD.out) ?_;go_frame
 refine AnyT.tD (i:=8) (v:=.slice va vn vc) rfl rfl (by rintro w' ⟨q0,q1,q2,q3⟩;go_simp) (HS.out _ HBD.out) ?_;go_frame
 refine AnyT.nx (i:=9) rfl ?_
 go_wp2_with (go_at_call 162;refine(HSP.out _ (zAB HBZ.out HBD.out)).mono ?_;rintro e w5 ⟨g,rfl,hg,hr,hb5⟩;refine Stop.of ?_)
 refine Stop.go ?_
 have HB5:=hid (zAB HBD.out hb5)
 have HRB:=hid hr
 have HGS:=hid (show w.heap.size<=g by have:=HBZ.out.size;have:=HBD.out.size;omega)
 clear hb5 hr hg
 go_wp2
 refine⟨fun _=>HS.out _ HB5.out,?_⟩
 refine AnyT.nx (i:=10) rfl ?_
 go_wp2
 refine⟨fun _=>HS.out _ HB5.out,?_⟩
 refine AnyT.done (by kernel_rfl) ?_ _
 go_wp2
 go_ret
 exact⟨g,rfl,HGS.out,HRB.out,zAB HBZ.out HB5.out⟩
def CorP(M:Mask)(Y:List Int)(e:Ending)(w':World):Prop:=∃ca c,e=.returned (.tuple #[.slice ca (zBK M Y).length c,.int .i64 (valE M Y).2])∧(zBK M Y).length<=11264∧zMO w' ca (zBK M Y)
theorem zMJ(w:World)(a a2:Option Addr)(n cap n2 cap2:Nat)(M:Mask)(Y:List Int)(hn:M.length=n)(hn2:Y.length=n2)(hm:n<=maxLen)(hm2:n2<=maxLen)(H:zAL w a M)(H2:zAE w a2 Y):
 Calls Tryz.prog 37 #[.slice a n cap,.slice a2 n2 cap2] w fun e w'=>CorP M Y e w'∧Below w.heap.size w w':=by
 have HAS:=hid (fun(X:World) (hX:Below w.heap.size w X)=>dasked_c X a a2 n cap n2 cap2 M Y hn hn2 hm hm2 (H.below hX) (H2.below hX))
 by_cases hv:(valE M Y).2=0
 rotate_left
 ·have HC0:=hid (show zBK M Y=[]by unfold zBK;rw[if_neg hv])
  obtain⟨F,hF⟩:=exq ((valE M Y).2)
  have HAS0:=hid (fun(X:World) (hX:Below w.heap.size w X)=>show Calls Tryz.prog 73 #[.slice a n cap,.slice a2 n2 cap2] X fun e w'=>e=.returned (.tuple #[.agg #[.slice none 0 0,.slice none 0 0,.int .i64 0,.int .i64 0,.slice none 0 0],.int .i64 F])∧Below X.heap.size X w' from by
   refine(HAS.out X hX).mono ?_
   rintro e w' ⟨hb,⟨h0,he⟩|⟨h0,h1,he⟩|⟨h0,h1,_⟩⟩
   ·refine⟨?_,hb⟩
    rw[he,hF];unfold valE;rw[if_pos h0]
   ·refine⟨?_,hb⟩
    rw[he,hF];unfold valE;rw[if_neg (fun h=>h h0),if_pos h1]
   ·exfalso;apply hv;unfold valE;rw[if_neg (fun h=>h h0),if_neg h1])
  have HPP:=hid (show ∀e w',e=.returned (.tuple #[.slice none 0 0,.int .i64 F])->CorP M Y e w' from fun e w' he=>⟨none,0,by rw[HC0.out,<- hF];exact he,by rw[HC0.out];simp,by rw[HC0.out];exact fun j hj=>by simp at hj⟩)
  clear hn hn2 H H2 hv hF HAS
  go_enter Tryz.func37,Tryz.ntmps37
  go_upto_region 2 with (go_at_call 73;refine(HAS0.out _ (Below.refl _ _)).mono ?_;rintro e w1 ⟨rfl,hb1⟩;have HB1:=hid hb1;clear hb1;refine Stop.of ?_)
  refine Stop.go ?_
  go_upto_region 2 with fail
  obtain⟨ab,hab⟩:=exq (w1.heap.size)
  obtain⟨wa,hwa⟩:=exq (w1.alloc (.cells #[.slice none 0 0,.slice none 0 0,.int .i64 0,.int .i64 0,.slice none 0 0] 89))
  rw[<- hab,<- hwa]
  have A0:AnsB wa ab (.slice none 0 0) (.slice none 0 0) (0,0) (.slice none 0 0):=by rw[hwa,hab];exact World.alloc_heap_new _ _
  have HBA:=hid (show Below w.heap.size w wa by rw[hwa];exact HB1.out.alloc HB1.out.size _)
  obtain⟨_,_,_,_,c4,_⟩:=A0.cells
  clear A0 hwa hab
  go_wp2
  go_loopw [8,20] (fun v i wr=>v=.slice none 0 0∧i=.int .i64 0∧wr=wa) (fun _ _ _=>0)
  case atStart=>exact⟨rfl,rfl,rfl⟩
  case round=>
   obtain⟨rfl,rfl,rfl⟩:=hrel
   go_wp2
   go_ret2
   exact⟨HPP.out _ _ rfl,HBA.out⟩
 obtain⟨hr0,ho⟩:=val_err hv
 obtain⟨hok,hyl,hmil⟩:=zIR hr0
 obtain⟨hM,h1,h6,hc1,hc10⟩:=zCN hok
 obtain⟨C,hC⟩:=exq (zFK M Y)
 have hce:zBK M Y=C.map (sprF (zAA M)):=by unfold zBK;rw[if_pos hv,hC]
 have HAS1:=hid (fun(X:World) (hX:Below w.heap.size w X)=>show Calls Tryz.prog 73 #[.slice a n cap,.slice a2 n2 cap2] X fun e w'=>(∃ca c,e=.returned (.tuple #[.agg #[.slice a n cap,.slice a2 n2 cap2,.int .i64 (valF M Y).1,.int .i64 (valF M Y).2,.slice ca C.length c],.int .i64 0])∧zII w' ca C)∧Below X.heap.size X w' from by
  refine(HAS.out X hX).mono ?_
  rintro e w' ⟨hb,⟨h0,he⟩|⟨h0,h1,he⟩|⟨h0,h1,ca,c,he,hf⟩⟩
  ·exfalso;rw[zGI]at hr0;exact h0 hr0
  ·exfalso
   rcases zHB hr0 with⟨_,k⟩|⟨k,_⟩
   ·rw[k]at hv;cases hv
   ·exact k h1
  ·rw[hC];exact⟨⟨ca,c,he,hf⟩,hb⟩)
 have HCF:=hid (fun(f:FitT) (hf:f∈C)=>show zCE (zAA M) f.1∧f.2.length=f.1.length∧f.1.length<=10 from by
  rw[hC]at hf
  have hf1:=((zKA hr0).1 hf).1
  obtain⟨k1,k2,_⟩:=zDZ hok hyl hmil hf1
  have:=(zJB (show f∈allF M Y by rw[zLL hc10];exact hf1)).2.2
  exact⟨k1,k2,by omega⟩)
 have hCl:C.length<=11264:=by
  have h2:C.length<=(zBE M Y 10).length:=by
   rw[hC];unfold zFK
   rw[(zIN _).length_eq]
   exact scan_len _
  have h3:=zEQ M Y (zAA M) (min (min 10 (zAA M)) M.length+1)
  have h4:zBE M Y 10=zBM M Y (zAA M) (min (min 10 (zAA M)) M.length+1):=rfl
  rw[h4]at h2
  have h5:(min (min 10 (zAA M)) M.length+1)*2 ^ zAA M<=11*2 ^ 10:=Nat.mul_le_mul (by omega) (Nat.pow_le_pow_right (by decide) hc10)
  omega
 obtain⟨W,hW⟩:=exq (zAA M)
 obtain⟨vn,hvn⟩:=exq ((valF M Y).1)
 obtain⟨vd,hvd⟩:=exq ((valF M Y).2)
 have HPI:=hid (fun(X:World) (hX:Below w.heap.size w X) (us ur:Value) (f:FitT) (hd:HdF X us ur f) (hf:f∈C)=>qpicture_c X a n cap M W (.slice a2 n2 cap2) us ur f hn (by omega) hW (by omega) (by omega) (H.below hX) hd (by rw[hW];exact(HCF.out f hf).1) (HCF.out f hf).2.1 (HCF.out f hf).2.2 a2 n2 cap2 rfl)
 have HPP:=hid (show ∀ca c e w',e=.returned (.tuple #[.slice ca C.length c,.int .i64 0])->zMO w' ca (C.map (sprF W))->CorP M Y e w' from fun ca c e w' he hp=>⟨ca,c,by rw[hv,hce,List.length_map];exact he,by rw[hce,List.length_map];exact hCl,by rw[hce,<- hW];exact hp⟩)
 rw[<- hvn,<- hvd]at HAS1
 have HW10:=hid (show W<=10 by omega)
 have HCL:=hid hCl
 clear hn hn2 H H2 hv hr0 ho hok hyl hmil hM h1 h6 hc1 hc10 hC hce hW hvn hvd HAS HCF
 go_enter Tryz.func37,Tryz.ntmps37
 go_upto_region 2 with (go_at_call 73;refine(HAS1.out _ (Below.refl _ _)).mono ?_;rintro e w1 ⟨⟨ca,cc,rfl,hfa⟩,hb1⟩;have HB1:=hid hb1;have HFA:=hid hfa;clear hb1 hfa;refine Stop.of ?_)
 refine Stop.go ?_
 go_upto_region 2 with fail
 obtain⟨ab,hab⟩:=exq (w1.heap.size)
 obtain⟨X,hX⟩:=exq (w1.alloc (.cells #[.slice a n cap,.slice a2 n2 cap2,.int .i64 vn,.int .i64 vd,.slice ca C.length cc] 89))
 rw[<- hab,<- hX]
 have hA0:AnsB X ab (.slice a n cap) (.slice a2 n2 cap2) (vn,vd) (.slice ca C.length cc):=by rw[hX,hab];exact World.alloc_heap_new _ _
 have hB1X:Below w1.heap.size w1 X:=by rw[hX];exact(Below.refl _ _).alloc (Nat.le_refl _) _
 have HBX:=hid (zAB HB1.out hB1X)
 have HFX:=hid (HFA.out.below hB1X)
 have HA0:=hid hA0
 obtain⟨_,_,_,_,c4,_⟩:=hA0.cells
 clear hA0 hab hX hB1X
 go_wp2
 clear c4
 go_loopw [8,20] (fun v i wr=>∃k:Nat,k<=C.length∧i=.int .i64 k∧TabQ wr X.heap.size v ((C.map (sprF W)).take k)∧Below X.heap.size X wr) (fun _ i _=>C.length-(intOf i).toNat)
 case atStart=>exact⟨0,Nat.zero_le _,rfl,TabQ.nil _ _,Below.refl _ _⟩
 case round=>
  obtain⟨k,hk,rfl,hT,hbk⟩:=hrel
  by_cases hlt:k<C.length
  ·obtain⟨b,off,us,ur,rfl,hb,q0,q1,hd⟩:=HFX.out.hd hlt
   obtain⟨pa,pn,pc,va,vn',vc,rfl,rfl,_⟩:=id hd
   have q0':wr.cell? ⟨b,off+k*2,none⟩=some (.slice pa pn pc):=(hbk.cell (p:=⟨b,_,none⟩) hb).trans q0
   have q1':wr.cell? ⟨b,off+k*2+1,none⟩=some (.slice va vn' vc):=(hbk.cell (p:=⟨b,_,none⟩) hb).trans q1
   obtain⟨f,hf⟩:=exq (C[k])
   rw[<- hf]at hd
   have hfm:f∈C:=by rw[hf];exact List.getElem_mem hlt
   have HTK:=hid (show(C.map (sprF W)).take (k+1)=(C.map (sprF W)).take k++[sprF W f]by
    rw[List.take_succ_eq_append_getElem (by simp;exact hlt),List.getElem_map,hf])
   have i0:(0:Int)<=(k:Int):=by omega
   have i1:(k:Int)<(C.length:Int):=by omega
   have hk9:k<=11264:=by have:=HCL.out;omega
   have HD:=hid hd
   have HFM:=hid hfm
   have HTT:=hid hT
   have HBK:=hid hbk
   clear hd hf hfm hT hbk q0 q1 hb
   go_upto_region 6 with fail
   obtain⟨h,hh⟩:=exq (wr.heap.size)
   obtain⟨wh,hwh⟩:=exq (wr.alloc (.cells #[.slice pa pn pc,.slice va vn' vc] 73))
   rw[<- hh,<- hwh]
   have hbh:Below wr.heap.size wr wh:=by rw[hwh];exact(Below.refl _ _).alloc (Nat.le_refl _) _
   have hch:wh.heap[h]? =some (.cells #[.slice pa pn pc,.slice va vn' vc] 73 (0,0)):=by rw[hwh,hh];exact World.alloc_heap_new _ _
   have HBH:=hid (zAB HBK.out hbh)
   have HTH:=hid (HTT.out.below hbh)
   obtain⟨x0,x1,_⟩:=(HA0.out.keep (HBH.out.block _ HA0.out.lt)).cells
   have y0:wh.cell? ⟨h,0,none⟩=some (.slice pa pn pc):=by simp[World.cell?,hch]
   have y1:wh.cell? ⟨h,1,none⟩=some (.slice va vn' vc):=by simp[World.cell?,hch]
   have HDH:=hid (HD.out.below HBH.out)
   clear q0' q1' hh hwh hch hbh HTT HBK
   go_upto_region 7 with (go_at_call 99;refine(HPI.out _ (zAB HBX.out HBH.out) _ _ f HDH.out HFM.out).mono ?_;rintro e w3 ⟨g,rfl,hg,hrb,hb3⟩;refine Stop.of ?_)
   refine Stop.go ?_
   have hT3:=HTH.out.below hb3
   obtain⟨ta,tc,hte⟩:=hT3.slice
   subst hte
   obtain⟨xs,hoo,hoe⟩:=hT3
   have hq:((C.map (sprF W)).take k).length=k:=by simp;omega
   rw[hq]at hoo⊢
   have HRO:=hid (zEW.own (base:=X.heap.size) (hrb.own (zDO W f) (show W<=maxLen by have:=HW10.out;unfold maxLen;omega) (Nat.le_refl g)))
   have HOO:=hid hoo
   have HOE:=hid hoe
   have HQ:=hid hq
   have HB3:=hid (zAB HBH.out hb3)
   have HNW:=hid (zDG w3 (.slice (some ⟨g,0,none⟩) W W) 42)
   have M1:=hid (show k+1<=maxLen by unfold maxLen;omega)
   have M2:=hid (show(k+1)*24<=140737488355328 by omega)
   have M3:=hid (Nat.le_trans HB3.out.size (zCV w3 (.cells #[.slice (some ⟨g,0,none⟩) W W] 42)))
   have HONE:=hid (show ∀u∈[Value.slice (some ⟨g,0,none⟩) W W],u.oneCell'=true from fun u hu=>by simp at hu;subst hu;rfl)
   clear hoo hoe hq hb3 hrb hg x0 x1 y0 y1
   go_wp2_with (at_builtin;refine zBN _ rfl (.tmp 24) (.tmp 29) 54 rfl X.heap.size 42 (.slice none 0 0) 1 24 Tryz.underlying54 info_pics rfl (by decide) (.slice ta k tc) k xs rfl (HOO.out.alloc _) (some ⟨w3.heap.size,0,none⟩) 1 1 [.slice (some ⟨g,0,none⟩) W W] rfl rfl zDM HNW.out HONE.out M1.out M2.out M3.out ?_;intro a9 c9 w9 own9 g9;refine Stop.of ?_)
   refine Stop.go ?_
   have hb39:Below w3.heap.size w3 (w3.alloc (.cells #[.slice (some ⟨g,0,none⟩) W W] 42)):=(Below.refl _ _).alloc (Nat.le_refl _) _
   have HSN:=hid (TabQ.snoc (L:=(C.map (sprF W)).take k) (by rw[HQ.out];exact HOO.out) HOE.out hb39 (HRO.out.below hb39) g9 (by rw[HQ.out];exact own9))
   have HB9:=hid (show Below X.heap.size X w9 from(HB3.out.alloc HB3.out.size _).grown g9 M3.out (fun g hg=>(HOO.out.lt g hg).1))
   clear own9 g9 hb39
   go_wp2
   refine⟨⟨k+1,by omega,by go_num,?_,HB9.out⟩,by simp[intOf];omega⟩
   rw[HTK.out];exact HSN.out
  ·obtain rfl:k=C.length:=by omega
   rw[List.take_of_length_le (by simp)]at hT
   obtain⟨ta,tc,hte⟩:=hT.slice
   rw[List.length_map]at hte
   subst hte
   obtain⟨h1,h2,h3⟩:=hT.reads
   have HP3:=hid h3
   have HBK:=hid (zAB HBX.out hbk)
   have i1:¬((C.length:Int)<(C.length:Int)):=by omega
   clear hT hbk h1 h2 h3
   go_wp2
   go_ret2
   exact⟨HPP.out ta tc _ _ rfl HP3.out,HBK.out⟩
end
section
open Go.RowKit
def zGY(M:Mask)(N D:Int)(j i:Nat):Prop:=∀q p,(q<j∨(q=j∧p<i))->p<q->0<zAS M p p*zAS M q q∧zAS M p q*zAS M p q*D<=N*(zAS M p p*zAS M q q)
def CohOk(M:Mask)(N D:Int):Prop:=2<=zAA M∧0<=N∧N<=36∧1<=D∧D<=36∧∀q p,q<zAA M->p<q->0<zAS M p p*zAS M q q∧zAS M p q*zAS M p q*D<=N*(zAS M p p*zAS M q q)
def CohP(M:Mask)(e:Ending):Prop:=∃N D E,e=.returned (.tuple #[.agg #[.int .i64 N,.int .i64 D],.int .i64 E])∧(E=0->CohOk M N D)
theorem pairs_next{M:Mask}{N D A B:Int}{j i:Nat}(h:zGY M N D j i)(hl:LikeOk M i j A B)(hN:0<=N)(hD:1<=D):
 (N*B<A*D->zGY M A B j (i+1))∧(¬N*B<A*D->zGY M N D j (i+1)):=by
 obtain⟨l1,l2,l3,l4,l5,l6⟩:=hl
 refine⟨fun hc q p hq hp=>?_,fun hc q p hq hp=>?_⟩
 ·by_cases e:q=j∧p=i
  ·obtain⟨rfl,rfl⟩:=e
   exact⟨l1,by rw[l6];exact Int.le_refl _⟩
  ·obtain⟨h1,h2⟩:=h q p (by omega) hp
   refine⟨h1,?_⟩
   generalize zAS M p p*zAS M q q=g at*
   generalize zAS M p q*zAS M p q=s at*
   -- s*D<=N*g;N*B<A*D
   have a1:s*B*D<=A*g*D:=by
    have b1:s*D*B<=N*g*B:=Int.mul_le_mul_of_nonneg_right h2 (by omega)
    have b2:N*B*g<=A*D*g:=Int.mul_le_mul_of_nonneg_right (by omega) (by omega)
    have e1:s*B*D=s*D*B:=by grind
    have e2:N*g*B=N*B*g:=by grind
    have e3:A*g*D=A*D*g:=by grind
    omega
   exact Int.le_of_mul_le_mul_right a1 (by omega)
 ·by_cases e:q=j∧p=i
  ·obtain⟨rfl,rfl⟩:=e
   refine⟨l1,?_⟩
   generalize zAS M p p*zAS M q q=g at*
   generalize zAS M p q*zAS M p q=s at*
   -- A*g=s*B;A*D<=N*B
   have a1:s*D*B<=N*g*B:=by
    have b2:A*D*g<=N*B*g:=Int.mul_le_mul_of_nonneg_right (by omega) (by omega)
    have e1:s*D*B=A*D*g:=by
     have:s*D*B=s*B*D:=by grind
     rw[this,<- l6];grind
    have e2:N*g*B=N*B*g:=by grind
    omega
   exact Int.le_of_mul_le_mul_right a1 (by omega)
  ·exact h q p (by omega) hp
theorem r2coh_c(w:World)(a:Option Addr)(n cap:Nat)(M:Mask)(hn:M.length=n)(hm:n<=maxLen)(H:zAL w a M)(hok:okM M=true):
 Calls Tryz.prog 109 #[.slice a n cap] w fun e w'=>CohP M e∧Below w.heap.size w w':=by
 obtain⟨hO,h1,h6,hc1,hc10⟩:=zCN hok
 obtain⟨s,hs⟩:=exq (w.heap.size)
 obtain⟨wz,hwz⟩:=exq (w.alloc (.cells #[.int .i64 0,.int .i64 0] 29))
 have hbz:Below w.heap.size w wz:=by rw[hwz];exact(Below.refl _ _).alloc (Nat.le_refl _) _
 have qa:RatI wz s (0,0):=by rw[hwz,hs];exact RatI.made w (0,0)
 have HSW:=hid (show w.heap.size<=s by omega)
 have HV:=hid (zHL wz a n cap M hn hm (H.below hbz))
 rw[hok]at HV
 have HLK:=hid (fun(X:World) (hX:Below w.heap.size w X) (i j:Nat) (hi:i<zAA M) (hj:j<zAA M)=>r2like_c X a n cap M hn hm (H.below hX) hok i j hi hj)
 have HQ:=hid (fun(X:World) (hX:Below wz.heap.size wz X)=>qa.keep (hX.block _ qa.lt))
 have HBZ:=hid hbz
 have HCO:=hid (show ∀N D,2<=zAA M->0<=N->N<=36->1<=D->D<=36->zGY M N D (zAA M) 0->CohOk M N D from fun N D h0 h1 h2 h3 h4 h5=>⟨h0,h1,h2,h3,h4,fun q p hq hp=>h5 q p (.inl hq) hp⟩)
 obtain⟨b_,off_,ra,rc,rfl,hb,hc⟩:=zCT H (by omega)
 have HCC:=hid (fun(X:World) (hX:Below w.heap.size w X)=>show X.cell? ⟨b_,off_,none⟩=some (.slice ra (zAA M) rc)from(hX.cell (p:=⟨b_,off_,none⟩) hb).trans hc)
 obtain⟨W,hW⟩:=exq (zAA M)
 rw[<- hW]at HCC HCO HLK hc10 hc1
 have hi0:(0:Int)<(n:Int):=by omega
 have cc:=HCC.out wz hbz
 clear hn H hok hO h1 h6 hbz qa hb hc hW
 by_cases hW2:W<2
 ·have i2:(W:Int)<2:=by omega
  go_enter Tryz.func109,Tryz.ntmps109
  go_upto_region 1 with fail
  rw[<- hs,<- hwz]
  clear hs hwz
  have hR2:=HQ.out _ (Below.refl wz.heap.size wz)
  obtain⟨r0,r1,r2,r3,r4⟩:=hR2.cells
  have X1:=hid (RatI.set (p:=(0,0)) hR2)
  have X2:=hid ((zAY wz s (.int .i64 0) (.int .i64 0)).below HBZ.out HBZ.out.size (fun k hk=>by have:=HSW.out;show k≠s;omega))
  clear hR2
  go_wp2_with (go_at_call 68;refine HV.out.mono ?_;rintro e w1 ⟨rfl,rfl⟩)
  clear r0 r1 r2 r3 r4
  generalize (wz.setCell ⟨s,0,none⟩ (.int .i64 0)).setCell ⟨s,1,none⟩ (.int .i64 0)=WF at X1 X2⊢
  obtain⟨t0,t1,t2,t3,t4⟩:=X1.out.cells
  refine bodyPost_ret (v:=.tuple #[.agg #[.int .i64 0,.int .i64 0],.int .i64 8]) ?_ rfl ⟨⟨0,0,8,rfl,fun h=>by cases h⟩,X2.out⟩
  simp[results,Tryz.results109,go_sem,t0,t1,t2,t3,t4]
 have i2:¬(W:Int)<2:=by omega
 go_enter Tryz.func109,Tryz.ntmps109
 go_upto_region 1 with fail
 rw[<- hs,<- hwz]
 clear hs hwz
 go_upto_region 6 with (go_at_call 68;refine HV.out.mono ?_;rintro e w1 ⟨rfl,rfl⟩)
 obtain⟨g,hg⟩:=exq (wz.heap.size)
 obtain⟨w5,hw5⟩:=exq (wz.alloc (.cells #[.int .i64 0,.int .i64 1] 29))
 rw[<- hg,<- hw5]
 have HG5:=hid (show RatI w5 g (0,1)by rw[hw5,hg];exact RatI.made wz (0,1))
 have HB5:=hid (show Below wz.heap.size wz w5 by rw[hw5];exact(Below.refl _ _).alloc (Nat.le_refl _) _)
 have HGZ:=hid (show wz.heap.size<=g by omega)
 clear hg hw5 cc
 have cc:=HCC.out w5 (zAB HBZ.out HB5.out)
 go_wp2
 clear cc
 go_loopw [24] (fun x wr=>∃(j:Nat) (N D:Int),j<=W∧x=.int .i64 j∧RatI wr g (N,D)∧Below wz.heap.size wz wr∧Hid (0<=N∧N<=36∧1<=D∧D<=36∧zGY M N D j 0)) (fun x _=>W-(intOf x).toNat)
 case atStart=>exact⟨0,0,1,Nat.zero_le _,rfl,HG5.out,HB5.out,hid ⟨by decide,by decide,by decide,by decide,fun q p hq hp=>by omega⟩⟩
 case round=>
  obtain⟨j,N,D,hj,rfl,hgj,hbj,HND⟩:=hrel
  obtain⟨wo,hwo⟩:=exq (wr)
  subst hwo
  by_cases hjl:j<W
  ·have HJL:=hid hjl
   have j1:(j:Int)<(W:Int):=by omega
   have HGJ:=hid hgj
   have HBJ:=hid hbj
   clear hgj hbj
   go_wp2
   go_loopw [28] (fun x wr=>∃(i:Nat) (N D:Int),i<=j∧x=.int .i64 i∧RatI wr g (N,D)∧Below wz.heap.size wz wr∧Hid (0<=N∧N<=36∧1<=D∧D<=36∧zGY M N D j i)) (fun x _=>j-(intOf x).toNat)
   case atStart=>exact⟨0,N,D,Nat.zero_le _,rfl,HGJ.out,HBJ.out,HND⟩
   case round=>
    obtain⟨i,N,D,hi,rfl,hgi,hbi,HIN⟩:=hrel
    by_cases hil:i<j
    ·have k1:(i:Int)<(j:Int):=by omega
     have HL:=hid (HLK.out wr (zAB HBZ.out hbi) i j (by omega) HJL.out)
     have HGI:=hid hgi
     have HBI:=hid hbi
     clear hgi hbi
     go_upto_region 13 with (go_at_call 168;refine HL.out.mono ?_;rintro e w6 ⟨⟨A,B,E,rfl,hE⟩,hb6⟩;have HB6:=hid (zAB HBI.out hb6);have HB26:=hid hb6;have HE:=hid hE;clear hb6 hE;refine Stop.of ?_)
     refine Stop.go ?_
     go_upto_region 13 with fail
     obtain⟨h,hh⟩:=exq (w6.heap.size)
     obtain⟨w7,hw7⟩:=exq (w6.alloc (.cells #[.int .i64 A,.int .i64 B] 29))
     rw[<- hh,<- hw7]
     have h67:Below w6.heap.size w6 w7:=by rw[hw7];exact(Below.refl _ _).alloc (Nat.le_refl _) _
     have HH7:=hid (show RatI w7 h (A,B)by rw[hw7,hh];exact RatI.made w6 (A,B))
     have HB7:=hid (zAB HB6.out h67)
     have HG7:=hid (HGI.out.keep ((zAB HB26.out h67).block _ HGI.out.lt))
     clear hh hw7 h67
     by_cases hE0:E=0
     rotate_left
     ·have hne:(E !=0)=true:=by simpa using hE0
      have hR2:=HQ.out _ HB7.out
      obtain⟨r0,r1,r2,r3,r4⟩:=hR2.cells
      have X1:=hid (RatI.set (p:=(0,0)) hR2)
      have X2:=hid ((zAY w7 s (.int .i64 0) (.int .i64 0)).below (zAB HBZ.out HB7.out) (zAB HBZ.out HB7.out).size (fun k hk=>by have:=HSW.out;show k≠s;omega))
      have HEN:=hid hE0
      clear hR2 hE0
      go_wp2
      clear r0 r1 r2 r3 r4
      generalize (w7.setCell ⟨s,0,none⟩ (.int .i64 0)).setCell ⟨s,1,none⟩ (.int .i64 0)=WF at X1 X2⊢
      obtain⟨t0,t1,t2,t3,t4⟩:=X1.out.cells
      refine bodyPost_ret (v:=.tuple #[.agg #[.int .i64 0,.int .i64 0],.int .i64 E]) ?_ rfl ⟨⟨0,0,E,rfl,fun h=>absurd h HEN.out⟩,X2.out⟩
      simp[results,Tryz.results109,go_sem,t0,t1,t2,t3,t4]
     subst hE0
     have hlk:=HE.out rfl
     obtain⟨p1,p2,p3,p4,p5⟩:=HIN.out
     have hpn:=pairs_next p5 hlk p1 p3
     obtain⟨_,l2,l3,l4,l5,_⟩:=hlk
     have HPN:=hid hpn
     have e1:0<=A*D∧A*D<=36*36:=⟨Int.mul_nonneg l2 (by omega),Int.mul_le_mul l3 p4 (by omega) (by omega)⟩
     have e2:0<=N*B∧N*B<=36*36:=⟨Int.mul_nonneg p1 (by omega),Int.mul_le_mul p2 l5 (by omega) (by omega)⟩
     obtain⟨U,hU⟩:=exq (A*D)
     obtain⟨V,hV⟩:=exq (N*B)
     have hw1:IntKind.i64.wrap (A*D)=U:=by rw[hU];exact IntWalk.i64_in _ (by omega)
     have hw2:IntKind.i64.wrap (N*B)=V:=by rw[hV];exact IntWalk.i64_in _ (by omega)
     have HBD:=hid (show(0<=N∧N<=36∧1<=D∧D<=36)∧(0<=A∧A<=36∧1<=B∧B<=36)from⟨⟨p1,p2,p3,p4⟩,l2,l3,l4,l5⟩)
     rw[<- hU,<- hV]at HPN
     obtain⟨y0,y1,_⟩:=HH7.out.cells
     obtain⟨z0,z1,z2,z3,z4⟩:=HG7.out.cells
     simp only[]at y0 y1 z0 z1
     clear hpn p1 p2 p3 p4 p5 l2 l3 l4 l5 e1 e2 hU hV
     by_cases hc:V<U
     ·have S1:=hid (RatI.set (p:=(A,B)) HG7.out)
      have S2:=hid ((zAY w7 g (.int .i64 A) (.int .i64 B)).below HB7.out HB7.out.size (fun k hk=>by have:=HGZ.out;show k≠g;omega))
      have HNX:=hid (HPN.out.1 hc)
      have j9:j<=10:=by omega
      go_wp2
      refine⟨⟨i+1,A,B,by omega,by go_num,S1.out,S2.out,hid ⟨HBD.out.2.1,HBD.out.2.2.1,HBD.out.2.2.2.1,HBD.out.2.2.2.2,HNX.out⟩⟩,by simp[intOf];omega⟩
     ·have HNX:=hid (HPN.out.2 hc)
      have j9:j<=10:=by omega
      go_wp2
      refine⟨⟨i+1,N,D,by omega,by go_num,HG7.out,HB7.out,hid ⟨HBD.out.1.1,HBD.out.1.2.1,HBD.out.1.2.2.1,HBD.out.1.2.2.2,HNX.out⟩⟩,by simp[intOf];omega⟩
    ·obtain rfl:i=j:=by omega
     have k1:¬(i:Int)<(i:Int):=by omega
     have HGI:=hid hgi
     have HBI:=hid hbi
     have HNX:=hid (show 0<=N∧N<=36∧1<=D∧D<=36∧zGY M N D (i+1) 0 from by
      obtain⟨p1,p2,p3,p4,p5⟩:=HIN.out
      exact⟨p1,p2,p3,p4,fun q p hq hp=>p5 q p (by omega) hp⟩)
     clear hgi hbi
     go_wp2
     refine⟨⟨i+1,N,D,by omega,by go_num,HGI.out,HBI.out,HNX⟩,by simp[intOf];omega⟩
  ·obtain rfl:j=W:=by omega
   have j1:¬(j:Int)<(j:Int):=by omega
   obtain⟨p1,p2,p3,p4,p5⟩:=HND.out
   have HOKC:=hid (HCO.out N D (by omega) p1 p2 p3 p4 p5)
   obtain⟨z0,z1,z2,z3,z4⟩:=hgj.cells
   simp only[]at z0 z1
   have hR2:=HQ.out _ hbj
   obtain⟨r0,r1,r2,r3,r4⟩:=hR2.cells
   have X1:=hid (RatI.set (p:=(N,D)) hR2)
   have X2:=hid ((zAY wo s (.int .i64 N) (.int .i64 D)).below (zAB HBZ.out hbj) (zAB HBZ.out hbj).size (fun k hk=>by have:=HSW.out;show k≠s;omega))
   clear hR2 p1 p2 p3 p4 p5 hgj hbj
   go_wp2
   clear r0 r1 r2 r3 r4 z0 z1 z2 z3 z4
   generalize (wo.setCell ⟨s,0,none⟩ (.int .i64 N)).setCell ⟨s,1,none⟩ (.int .i64 D)=WF at X1 X2⊢
   obtain⟨t0,t1,t2,t3,t4⟩:=X1.out.cells
   refine bodyPost_ret (v:=.tuple #[.agg #[.int .i64 N,.int .i64 D],.int .i64 0]) ?_ rfl ⟨⟨N,D,0,rfl,fun _=>HOKC.out⟩,X2.out⟩
   simp[results,Tryz.results109,go_sem,t0,t1,t2,t3,t4]
def zGZ(M:Mask)(k:Int):Prop:=2<=zAA M∧0<=k∧(1<=k->∀q p,q<zAA M->p<q->0<zAS M p p*zAS M q q∧(2*k-1)*(2*k-1)*(zAS M p q*zAS M p q)<zAS M p p*zAS M q q)
def BoundP(M:Mask)(e:Ending):Prop:=∃k E,e=.returned (.tuple #[.int .i64 k,.int .i64 E])∧(E=0->zGZ M k)
theorem bound_of{M:Mask}{N D:Int}(h:CohOk M N D){k:Nat}(hk:1<=k->(2*(k:Int)-1)*(2*(k:Int)-1)*N<D):zGZ M (k:Int):=by
 obtain⟨h0,h1,h2,h3,h4,h5⟩:=h
 refine⟨h0,by omega,fun h6 q p hq hp=>?_⟩
 obtain⟨a1,a2⟩:=h5 q p hq hp
 refine⟨a1,?_⟩
 have h7:=hk (by omega)
 have ht:=sq_nn (2*(k:Int)-1)
 generalize (2*(k:Int)-1)*(2*(k:Int)-1)=t at*
 generalize zAS M p p*zAS M q q=g at*
 generalize zAS M p q*zAS M p q=s at*
 apply Classical.byContradiction
 intro hc
 have b1:t*(s*D)<=t*(N*g):=Int.mul_le_mul_of_nonneg_left a2 ht
 have b2:t*N*g<D*g:=Int.mul_lt_mul_of_pos_right h7 a1
 have b3:g*D<=t*s*D:=Int.mul_le_mul_of_nonneg_right (by omega) (by omega)
 have e1:t*(s*D)=t*s*D:=by grind
 have e2:t*(N*g)=t*N*g:=by grind
 have e3:D*g=g*D:=by grind
 omega
theorem r4Bound_c(w:World)(a:Option Addr)(n cap:Nat)(M:Mask)(hn:M.length=n)(hm:n<=maxLen)(H:zAL w a M)(hok:okM M=true):
 Calls Tryz.prog 52 #[.slice a n cap] w fun e w'=>BoundP M e∧Below w.heap.size w w':=by
 obtain⟨hO,h1,h6,hc1,hc10⟩:=zCN hok
 have HC:=hid (r2coh_c w a n cap M hn hm H hok)
 obtain⟨b_,off_,ra,rc,rfl,hb,hc⟩:=zCT H (by omega)
 have HCC:=hid (fun(X:World) (hX:Below w.heap.size w X)=>show X.cell? ⟨b_,off_,none⟩=some (.slice ra (zAA M) rc)from(hX.cell (p:=⟨b_,off_,none⟩) hb).trans hc)
 have HBO:=hid (fun(N D:Int) (h:CohOk M N D) (k:Nat) hk=>bound_of h (k:=k) hk)
 obtain⟨W,hW⟩:=exq (zAA M)
 rw[<- hW]at HCC hc10 hc1
 have hi0:(0:Int)<(n:Int):=by omega
 clear hn H hok hO h1 h6 hb hc hW
 go_enter Tryz.func52,Tryz.ntmps52
 go_upto_region 5 with (go_at_call 109;refine HC.out.mono ?_;rintro e w1 ⟨⟨N,D,E,rfl,hE⟩,hb1⟩;have HE:=hid hE;have HB1:=hid hb1;clear hE hb1;refine Stop.of ?_)
 refine Stop.go ?_
 go_upto_region 2 with fail
 obtain⟨h,hh⟩:=exq (w1.heap.size)
 obtain⟨w7,hw7⟩:=exq (w1.alloc (.cells #[.int .i64 N,.int .i64 D] 29))
 rw[<- hh,<- hw7]
 have h67:Below w1.heap.size w1 w7:=by rw[hw7];exact(Below.refl _ _).alloc (Nat.le_refl _) _
 have HH7:=hid (show RatI w7 h (N,D)by rw[hw7,hh];exact RatI.made w1 (N,D))
 have HB7:=hid (zAB HB1.out h67)
 clear hh hw7 h67
 by_cases hE0:E=0
 rotate_left
 ·have hne:(E !=0)=true:=by simpa using hE0
  go_wp2
  refine bodyPost_ret (v:=.tuple #[.int .i64 0,.int .i64 E]) ?_ rfl ⟨⟨0,E,rfl,fun h=>absurd h hE0⟩,HB7.out⟩
  simp[results,Tryz.results52,go_sem]
 subst hE0
 have hcoh:=HE.out rfl
 have HBK:=hid (HBO.out N D hcoh)
 have HND:=hid (show 0<=N∧N<=36∧1<=D∧D<=36 from⟨hcoh.2.1,hcoh.2.2.1,hcoh.2.2.2.1,hcoh.2.2.2.2.1⟩)
 have cc:=HCC.out w7 HB7.out
 obtain⟨y0,y1,_⟩:=HH7.out.cells
 simp only[]at y0 y1
 clear hcoh HBO
 go_wp2
 go_loopw [6] (fun x wr=>∃(k:Nat),k<=W∧x=.int .i64 k∧wr=w7∧Hid (1<=k->(2*(k:Int)-1)*(2*(k:Int)-1)*N<D)) (fun x _=>W-(intOf x).toNat)
 case atStart=>exact⟨0,Nat.zero_le _,rfl,rfl,hid (fun h=>by omega)⟩
 case round=>
  obtain⟨k,hk,rfl,rfl,HKN⟩:=hrel
  have HOUT:=hid (HBK.out k HKN.out)
  by_cases hkl:k<W
  ·have k1:(k:Int)<(W:Int):=by omega
   have hq:0<=(2*(k:Int)+1)*(2*(k:Int)+1)∧(2*(k:Int)+1)*(2*(k:Int)+1)<=21*21:=⟨sq_nn _,Int.mul_le_mul (by omega) (by omega) (by omega) (by omega)⟩
   obtain⟨Q,hQ⟩:=exq ((2*(k:Int)+1)*(2*(k:Int)+1))
   obtain⟨V,hV⟩:=exq (Q*N)
   rw[<- hQ]at hq
   have hv:0<=Q*N∧Q*N<=441*36:=⟨Int.mul_nonneg hq.1 HND.out.1,Int.mul_le_mul hq.2 HND.out.2.1 HND.out.1 (by omega)⟩
   have hw0:IntKind.i64.wrap (2*(k:Int))=2*(k:Int):=IntWalk.i64_in _ (by omega)
   have hw1:IntKind.i64.wrap (2*(k:Int)+1)=2*(k:Int)+1:=IntWalk.i64_in _ (by omega)
   have hw2:IntKind.i64.wrap ((2*(k:Int)+1)*(2*(k:Int)+1))=Q:=by rw[hQ];exact IntWalk.i64_in _ (by omega)
   have hw3:IntKind.i64.wrap (Q*N)=V:=by rw[hV];exact IntWalk.i64_in _ (by omega)
   have HQV:=hid (show V=(2*((k+1:Nat):Int)-1)*(2*((k+1:Nat):Int)-1)*N by
    rw[hV,hQ]
    have:2*((k+1:Nat):Int)-1=2*(k:Int)+1:=by omega
    rw[this])
   clear hq hQ hV hv
   by_cases hc:V<D
   ·have HNX:=hid (show 1<=k+1->(2*((k+1:Nat):Int)-1)*(2*((k+1:Nat):Int)-1)*N<D from fun _=>by rw[<- HQV.out];exact hc)
    go_wp2
    refine⟨⟨k+1,by omega,by go_num,by trivial,HNX⟩,by simp[intOf];omega⟩
   ·go_wp2
    refine bodyPost_ret (v:=.tuple #[.int .i64 k,.int .i64 0]) ?_ rfl ⟨⟨k,0,rfl,fun _=>HOUT.out⟩,HB7.out⟩
    simp[results,Tryz.results52,go_sem]
  ·have k1:¬(k:Int)<(W:Int):=by omega
   go_wp2
   refine bodyPost_ret (v:=.tuple #[.int .i64 k,.int .i64 0]) ?_ rfl ⟨⟨k,0,rfl,fun _=>HOUT.out⟩,HB7.out⟩
   simp[results,Tryz.results52,go_sem]
end
section
def zCG(x:List Int):List Rt:=x.map fun n=>(n,1)
theorem zKH{x:List Int}{j:Nat}(hj:j<x.length):zAC (zCG x) j=(vec x j,1):=by
 unfold zAC zCG vec
 rw[List.getElem?_map,List.getElem?_eq_getElem hj];rfl
theorem pic_ext{a b:List Rt}(hl:a.length=b.length)(h:∀j,j<a.length->zAC a j=zAC b j):a=b:=by
 refine List.ext_getElem hl fun j h1 h2=>?_
 have:=h j h1
 unfold zAC at this
 rw[List.getElem?_eq_getElem h1,List.getElem?_eq_getElem h2]at this
 exact this
theorem set_eq{n:Nat}{S T:List Int}(hS:zCE n S)(hT:zCE n T)(h:∀j,j<n->((j:Int)∈S↔(j:Int)∈T)):S=T:=by
 refine List.Perm.eq_of_pairwise (le:=fun a b:Int=>a<b) (fun a b _ _ h1 h2=>by omega) hS.1 hT.1 ?_
 refine(List.perm_ext_iff_of_nodup ?_ ?_).2 fun a=>?_
 ·exact hS.1.imp (fun h=>by omega)
 ·exact hT.1.imp (fun h=>by omega)
 ·constructor
  ·intro ha
   have h1:=hS.2 a ha
   have h2:=h a.toNat (by omega)
   rw[show((a.toNat:Nat):Int)=a by omega]at h2
   exact h2.1 ha
  ·intro ha
   have h1:=hT.2 a ha
   have h2:=h a.toNat (by omega)
   rw[show((a.toNat:Nat):Int)=a by omega]at h2
   exact h2.2 ha
theorem coprime_one{r:Rt}{v:Int}(hv:zAJ r=true)(h:r.1=v*r.2):r=(v,1):=by
 refine low_eq hv ?_ (by rw[h];simp)
 have h1:=zBB.1 hv
 obtain⟨r1,r2⟩:=r
 simp only at h h1⊢
 have hg:(r2.natAbs:Nat)∣Int.gcd r1 r2:=Nat.dvd_gcd (by rw[h,Int.natAbs_mul];exact Nat.dvd_mul_left _ _) (Nat.dvd_refl _)
 have hg1:Int.gcd r1 r2=1:=by omega
 rw[hg1]at hg
 have h2:r2.natAbs=1:=Nat.dvd_one.1 hg
 have h3:r2=1:=by omega
 subst h3
 rw[Int.mul_one]at h
 subst h
 exact hv
theorem corner_sol{M:Mask}{y:List Int}(h:rdE M y=0){x:Nat->Int}(hx:SolM M (zAA M) y x 1){f:FitT}(hf:f∈zFK M y):
 f∈zBE M y 10∧zCE (zAA M) f.1∧(sprF (zAA M) f).all zAJ=true∧(∀j,j<zAA M->((zAC (sprF (zAA M) f) j).1≠0↔(j:Int)∈f.1))∧
  ∃(l:Nat->Int) (D:Int),SolM M (zAA M) y l D∧(∀j,j<zAA M->(zAC (sprF (zAA M) f) j).1*D=l j*(zAC (sprF (zAA M) f) j).2)∧nrmI l (zAA M)<=nrmI x (zAA M)*D:=by
 obtain⟨hok,hy,hmil⟩:=zIR h
 obtain⟨hf1,hf2⟩:=(zKA h).1 hf
 obtain⟨hS,_,hv,hnz,l,D,hl,hxl,hn⟩:=zHF hok hy hmil hf1
 have hv0:=val_of h hx
 obtain⟨e,ho⟩:=val_ok h hv0
 have h1:=ho.le x 1 hx
 obtain⟨hq,_⟩:=zEC hok hy hmil f hf1
 obtain⟨e2,p2⟩:=zHQ hq
 rw[hf2]at e2 p2
 refine⟨hf1,hS,hv,hnz,l,D,hl,hxl,?_⟩
 have hD:=hl.1
 generalize valF M y=v at*
 generalize nrmQ f.2=N at*
 generalize nrmI l (zAA M)=L at*
 generalize nrmI x (zAA M)=X at*
 -- v=N=L/D and v<=X
 have a1:L*(v.2*N.2)<=X*D*(v.2*N.2):=by
  have b1:L*(v.2*N.2)=v.1*N.2*D:=by
   have c1:L*(v.2*N.2)=N.2*L*v.2:=by grind
   rw[c1,<- hn,e2];grind
  have b2:X*D*(v.2*N.2)=X*v.2*(D*N.2):=by grind
  have b3:v.1*N.2*D=v.1*1*(D*N.2):=by grind
  rw[b1,b2,b3]
  exact Int.mul_le_mul_of_nonneg_right h1 (by have:=Int.mul_pos hD hq;omega)
 exact Int.le_of_mul_le_mul_right a1 (Int.mul_pos p2 hq)
theorem only_corner{M:Mask}{x y:List Int}(h:rdE M y=0)(hx:SolM M (zAA M) y (vec x) 1)(hxl:x.length=zAA M)(ho:OnlyN M (zAA M) (vec x)):zBK M y=[zCG x]:=by
 have hv0:=val_of h hx
 have key:∀f,f∈zFK M y->sprF (zAA M) f=zCG x∧f.1=zAT (zAA M) (vec x):=fun f hf=>by
  obtain⟨hf1,hS,hv,hnz,l,D,hl,hlx,hle⟩:=corner_sol h hx hf
  have hD:=hl.1
  have heq:=only_lt ho hx hl hle
  have hat:∀j,j<zAA M->zAC (sprF (zAA M) f) j=(vec x j,1):=fun j hj=>by
   have h1:=hlx j hj
   rw[heq j hj]at h1
   have hval:zAJ (zAC (sprF (zAA M) f) j)=true:=by
    have:zAC (sprF (zAA M) f) j=(sprF (zAA M) f)[j]'(by rw[zDO];exact hj):=by unfold zAC;rw[List.getElem?_eq_getElem (by rw[zDO];exact hj)];rfl
    rw[this];exact List.all_eq_true.1 hv _ (List.getElem_mem _)
   refine coprime_one hval ?_
   have:(zAC (sprF (zAA M) f) j).1*D=vec x j*(zAC (sprF (zAA M) f) j).2*D:=by rw[h1];grind
   exact Int.eq_of_mul_eq_mul_right (by omega) this
  refine⟨pic_ext (by rw[zDO];unfold zCG;rw[List.length_map];exact hxl.symm) fun j hj=>?_,set_eq hS (zDE _ _) fun j hj=>?_⟩
  ·rw[zDO]at hj
   rw[hat j hj,zKH (by omega)]
  ·rw[<- hnz j hj,hat j hj,zBL]
   exact⟨fun k=>⟨hj,k⟩,fun k=>k.2⟩
 have hne:=corners_ne h hv0
 have hlen:=zJP hv0
 -- one corner alone
 have hone:(zFK M y).length<=1:=by
  apply Classical.byContradiction
  intro hgt
  obtain⟨hok,hy,hmil⟩:=zIR h
  have hasc:AscF (zFK M y):=by
   unfold zFK
   obtain⟨s1,s2⟩:=zEA (zBE M y 10) (fun f hf=>((zEC hok hy hmil) f hf).2)
   refine(zGG ?_).1
   by_cases e:zBE M y 10=[]
   ·rw[s1 e];exact List.nodup_nil
   ·rw[(s2 e).2.2.2]
    exact(List.filter_sublist.map _).nodup (zMD hok)
  have h0:0<(zFK M y).length:=by omega
  have h1:1<(zFK M y).length:=by omega
  have:=List.pairwise_iff_getElem.1 hasc 0 1 h0 h1 (by omega)
  rw[(key _ (List.getElem_mem h0)).2,(key _ (List.getElem_mem h1)).2,zGW]at this
  cases this
 unfold zBK at hne⊢
 rw[if_pos hv0]at hne⊢
 match e:zFK M y,hone with
 | [],_=>rw[e]at hne;exact absurd rfl hne
 | [f],_=>
   have:=(key f (by rw[e];simp)).1
   simp[this]
 |f::g::l,h2=>simp at h2
end
section
open Go.RowKit
theorem zDT{M:Mask}{x:List Int}:zCI M x=0↔okM M=true∧x.length=zAA M∧milB x=true:=by
 unfold zCI milB
 cases okM M
 ·simp
 ·by_cases h:x.length=zAA M
  ·simp only[if_true,h]
   split
   ·rename_i k;exact⟨fun _=>⟨trivial,trivial,k⟩,fun _=>rfl⟩
   ·rename_i k;exact⟨fun h=>(by cases h),fun h=>absurd h.2.2 k⟩
  ·simp[h]
theorem mil_bndL{x:List Int}(h:milB x=true):BndL 67108864 x:=fun v hv=>by
 have:=mil_int h v hv
 show-((67108864:Nat):Int)<=v∧v<=((67108864:Nat):Int)
 omega
theorem mReadE_c(w:World)(a:Option Addr)(n cap:Nat)(M:Mask)(hn:M.length=n)(hm:n<=maxLen)(H:zAL w a M)(a2:Option Addr)(n2 cap2:Nat)(x:List Int)(hn2:x.length=n2)(hm2:n2<=maxLen)(H2:zAE w a2 x)(hE:zCI M x≠0):
 Calls Tryz.prog 104 #[.slice a n cap,.slice a2 n2 cap2] w fun e w'=>e=.returned (.tuple #[.slice none 0 0,.int .i64 (zCI M x)])∧Below w.heap.size w w':=by
 have HS:=hid (mshown_c w a n cap M hn hm H a2 n2 cap2 x hn2 hm2 H2)
 have hne:(zCI M x !=0)=true:=by simpa using hE
 obtain⟨E,hEE⟩:=exq (zCI M x)
 rw[<- hEE]at HS hne⊢
 clear hn H hn2 H2 hE hEE
 go_enter Tryz.func104,Tryz.ntmps104
 go_wp2_with (go_at_call 164;refine HS.out.mono ?_;rintro e w1 ⟨rfl,hb1⟩)
 go_ret2
 exact⟨rfl,hb1⟩
theorem mReadO_c(w:World)(a:Option Addr)(n cap:Nat)(M:Mask)(hn:M.length=n)(hm:n<=maxLen)(H:zAL w a M)(a2:Option Addr)(n2 cap2:Nat)(x:List Int)(hn2:x.length=n2)(hm2:n2<=maxLen)(H2:zAE w a2 x)(hE:zCI M x=0):
 Calls Tryz.prog 104 #[.slice a n cap,.slice a2 n2 cap2] w fun e w'=>(∃va vc,e=.returned (.tuple #[.slice va n vc,.int .i64 0])∧zAE w' va (zCZ M x))∧Below w.heap.size w w':=by
 refine(maskRead_c w a n cap M hn hm H a2 n2 cap2 x hn2 hm2 H2 hE).mono ?_
 rintro e w' ⟨v,base,rfl,hb,ho,hbb⟩
 obtain⟨hok,_,hmil⟩:=zDT.1 hE
 rw[readM_V hok (mil_bndL hmil)]at ho
 obtain⟨va,vc,rfl,hi⟩:=zDN ho (by unfold zCZ;rw[List.length_map];exact hn)
 exact⟨⟨va,vc,rfl,hi.1⟩,hbb⟩
theorem r2ReadO_c(w:World)(a:Option Addr)(n cap:Nat)(M:Mask)(hn:M.length=n)(hm:n<=maxLen)(H:zAL w a M)(a2:Option Addr)(n2 cap2:Nat)(x:List Int)(hn2:x.length=n2)(hm2:n2<=maxLen)(H2:zAE w a2 x)(hE:zCI M x=0):
 Calls Tryz.prog 50 #[.slice a n cap,.slice a2 n2 cap2] w fun e w'=>(∃va vc,e=.returned (.tuple #[.slice va n vc,.int .i64 0])∧zAE w' va (zCZ M x))∧Below w.heap.size w w':=by
 obtain⟨hok,hl,hmil⟩:=zDT.1 hE
 refine(r2Read_c w a a2 n cap n2 cap2 M x hn hn2 H H2 hok hl hmil).mono ?_
 rintro e w' ⟨v,rfl,ho,hbb⟩
 obtain⟨va,vc,rfl,hi⟩:=zDN ho (by unfold zCZ;rw[List.length_map];exact hn)
 exact⟨⟨va,vc,rfl,hi.1⟩,hbb⟩
theorem read_sol{M:Mask}{x:List Int}(hok:okM M=true)(hx:x.length=zAA M):SolM M (zAA M) (zCZ M x) (vec x) 1:=by
 obtain⟨hM,h1,h6,hc1,hc10⟩:=zCN hok
 refine⟨by decide,fun q hq=>?_⟩
 have e1:vec (zCZ M x) q=dotV (M[q]) x:=by
  unfold vec zCZ
  rw[List.getElem?_map,List.getElem?_eq_getElem hq];rfl
 rw[e1,Int.mul_one]
 unfold dotV
 rw[hM.wid _ (List.getElem_mem hq)]
 refine zAG fun i _=>?_
 have e2:rowv M q i=vec (M[q]) i:=by
  unfold rowv;rw[List.getElem?_eq_getElem hq];rfl
 rw[e2]
def zGQ(M:Mask)(x:List Int):Bool×Int:=
 if zCI M x=0 then(if milB (zCZ M x)=true then(decide (zBK M (zCZ M x)=[zCG x]),0)else(false,10))else(false,zCI M x)
theorem read_rd{M:Mask}{x:List Int}(hs:zCI M x=0):rdE M (zCZ M x)=0↔milB (zCZ M x)=true:=by
 obtain⟨hok,_,_⟩:=zDT.1 hs
 constructor
 ·intro h;exact(zIR h).2.2
 ·intro h
  rw[zGI]
  unfold zBJ
  rw[if_pos hok,if_pos (by unfold zCZ;rw[List.length_map]),if_pos h]
  unfold pixE zFC;simp[ascB,hok]
theorem read_val{M:Mask}{x:List Int}(hs:zCI M x=0)(hm:milB (zCZ M x)=true):(valE M (zCZ M x)).2=0:=by
 obtain⟨hok,hx,_⟩:=zDT.1 hs
 exact val_of ((read_rd hs).2 hm) (read_sol hok hx)
end
section
open Go.RowKit
theorem dfinds_c(w:World)(a:Option Addr)(n cap:Nat)(M:Mask)(hn:M.length=n)(hm:n<=maxLen)(H:zAL w a M)(a2:Option Addr)(n2 cap2:Nat)(x:List Int)(hn2:x.length=n2)(hm2:n2<=maxLen)(H2:zAE w a2 x):
 Calls Tryz.prog 47 #[.slice a n cap,.slice a2 n2 cap2] w fun e w'=>e=.returned (.tuple #[.bool (zGQ M x).1,.int .i64 (zGQ M x).2])∧Below w.heap.size w w':=by
 obtain⟨E,hE⟩:=exq (zGQ M x)
 rw[<- hE]
 by_cases hs:zCI M x=0
 rotate_left
 ·have HE2:=hid (show E=(false,zCI M x)by rw[hE];unfold zGQ;rw[if_neg hs])
  have HR:=hid (mReadE_c w a n cap M hn hm H a2 n2 cap2 x hn2 hm2 H2 hs)
  have hne:(zCI M x !=0)=true:=by simpa using hs
  obtain⟨S,hS⟩:=exq (zCI M x)
  rw[<- hS]at HE2 HR hne
  clear hn H hn2 H2 hs hS hE
  go_enter Tryz.func47,Tryz.ntmps47
  go_wp2_with (go_at_call 104;refine HR.out.mono ?_;rintro e w1 ⟨rfl,hb1⟩)
  go_ret2
  exact⟨by rw[HE2.out]<;>rfl,hb1⟩
 have HR:=hid (mReadO_c w a n cap M hn hm H a2 n2 cap2 x hn2 hm2 H2 hs)
 obtain⟨hok,hxl,hxm⟩:=zDT.1 hs
 have hrd:=read_rd hs
 obtain⟨Y,hY⟩:=exq (zCZ M x)
 have hyl:Y.length=n:=by rw[hY];unfold zCZ;rw[List.length_map];exact hn
 have HCO:=hid (fun(X:World) (hX:Below w.heap.size w X) (ya:Option Addr) (yc:Nat) (hy:zAE X ya Y)=>zMJ X a ya n cap n yc M Y hn hyl hm hm (H.below hX) hy)
 have hEv:E=if milB Y=true then(decide (zBK M Y=[zCG x]),0)else(false,10):=by rw[hE];unfold zGQ;rw[if_pos hs,<- hY]
 have hv0:milB Y=true->(valE M Y).2=0:=fun h=>by rw[hY]at h⊢;exact read_val hs h
 rw[<- hY]at HR hrd
 have HN:=hid hn
 have HYN:=hid hyl
 have HH:=hid H
 have HI:=hid H2
 have HXN:=hid hn2
 have HXL:=hid hxl
 have HOK:=hid hok
 by_cases hmy:milB Y=true
 rotate_left
 ·have hmy':milB Y=false:=by simpa using hmy
  have HE2:=hid (show E=(false,10)by rw[hEv,if_neg hmy])
  have HMZ:=hid hmy'
  have HRDD:=hid (show decide (rdE M Y=0)=false from decide_eq_false (fun h=>hmy (hrd.1 h)))
  clear hn H hn2 H2 hs hE hok hxl hxm hrd hY hyl hEv hv0 hmy hmy'
  go_enter Tryz.func47,Tryz.ntmps47
  go_wp2_with (go_at_call 104;refine HR.out.mono ?_;rintro e w1 ⟨⟨ya,yc,rfl,hyi⟩,hb1⟩;have HYI:=hid hyi;have HB1:=hid hb1;clear hyi hb1;refine Stop.of ?_)
  refine Stop.go ?_
  go_wp2_with (go_at_call 106;refine(zNS _ 1000000).mono ?_;rintro e w2 ⟨q,rfl,hq,hqs,hb2⟩;refine Stop.of ?_)
  refine Stop.go ?_
  have HB2:=hid (zAB HB1.out hb2)
  have HB2X:=hid hb2
  have HCF:=hid (zGD w2 ya n yc Y HYN.out hm (HYI.out.below hb2) 167 #[.pointer (some ⟨q,0,none⟩)] (fun n=>!(inB n (-1000000) 1000000)) (enters_of Tryz.func167 (by kernel_rfl) rfl) (beyond1 w2 q 1000000 (by decide) hq hqs))
  rw[any_mil,HMZ.out]at HCF
  clear hq hqs hb2
  go_wp2_with (go_at_call 105;refine HCF.out.mono ?_;rintro e w3 ⟨rfl,hb3⟩;have HB3:=hid (zAB HB2.out hb3);have HBX3:=hid (zAB HB2X.out hb3);clear hb3;refine Stop.of ?_)
  refine Stop.go ?_
  go_wp2
  go_ret2
  exact⟨by rw[HE2.out]<;>rfl,HB3.out⟩
 have hv:=hv0 hmy
 have HMZ:=hid hmy
 have HRDD:=hid (show decide (rdE M Y=0)=true from decide_eq_true (hrd.2 hmy))
 rw[if_pos hmy]at hEv
 have HPL:=hid (fun p (hp:p∈zBK M Y)=>show p.length=zAA M from by
  obtain⟨_,f,_,rfl⟩:=corner_pic (hrd.2 hmy) hv hp
  exact zDO _ _)
 have HEV:=hid hEv
 have HV:=hid hv
 obtain⟨L,hL⟩:=exq (zBK M Y)
 have HLL:=hid hL
 rw[<- hL]at HEV HPL
 clear hn H hn2 H2 hs hE hok hxl hxm hrd hY hyl hEv hv0 hmy hv hL
 go_enter Tryz.func47,Tryz.ntmps47
 go_wp2_with (go_at_call 104;refine HR.out.mono ?_;rintro e w1 ⟨⟨ya,yc,rfl,hyi⟩,hb1⟩;have HYI:=hid hyi;have HB1:=hid hb1;clear hyi hb1;refine Stop.of ?_)
 refine Stop.go ?_
 go_wp2_with (go_at_call 106;refine(zNS _ 1000000).mono ?_;rintro e w2 ⟨q,rfl,hq,hqs,hb2⟩;refine Stop.of ?_)
 refine Stop.go ?_
 have HB2:=hid (zAB HB1.out hb2)
 have HB2X:=hid hb2
 have HCF:=hid (zGD w2 ya n yc Y HYN.out hm (HYI.out.below hb2) 167 #[.pointer (some ⟨q,0,none⟩)] (fun n=>!(inB n (-1000000) 1000000)) (enters_of Tryz.func167 (by kernel_rfl) rfl) (beyond1 w2 q 1000000 (by decide) hq hqs))
 rw[any_mil,HMZ.out]at HCF
 clear hq hqs hb2
 go_wp2_with (go_at_call 105;refine HCF.out.mono ?_;rintro e w3 ⟨rfl,hb3⟩;have HB3:=hid (zAB HB2.out hb3);have HBX3:=hid (zAB HB2X.out hb3);clear hb3;refine Stop.of ?_)
 refine Stop.go ?_
 have HYI3:=hid (HYI.out.below HBX3.out)
 go_wp2_with (go_at_call 37;refine(HCO.out w3 HB3.out ya yc HYI3.out).mono ?_;rintro e w4 ⟨⟨la,lc,rfl,hll,hpa⟩,hb4⟩;have HB4:=hid (zAB HB3.out hb4);have HPA:=hid hpa;have HLB:=hid hll;clear hb4 hll hpa;refine Stop.of ?_)
 refine Stop.go ?_
 rw[HV.out]
 have hpa:=HPA.out
 rw[<- HLL.out]at hpa⊢
 have hlb:L.length<=11264:=by rw[HLL.out];exact HLB.out
 by_cases hl1:L.length=1
 rotate_left
 ·have HE2:=hid (show E=(false,0)by
   rw[HEV.out,decide_eq_false]
   intro h;apply hl1;rw[h];rfl)
  obtain⟨q,hq⟩:=exq (L.length)
  rw[<- hq]at hl1⊢
  have hne:((q:Int) !=1)=true:=by simp;omega
  clear hpa hlb hq
  go_wp2
  go_ret2
  exact⟨by rw[HE2.out]<;>rfl,HB4.out⟩
 rw[hl1]
 obtain⟨p,hp⟩:∃p,L=[p]:=List.length_eq_one_iff.1 hl1
 subst hp
 obtain⟨b,off,pa,pn,pc,rfl,hb,hc,hpn,hpm,hpr⟩:=hpa 0 (by simp)
 simp only[List.getElem_cons_zero,Nat.add_zero]at hpn hpr hc
 have hpl:=HPL.out p (by simp)
 have hpw:pn=n2:=by rw[<- hpn,hpl,<- HXL.out,HXN.out]
 subst hpw
 have hEp:E=(decide (p=zCG x),0):=by rw[HEV.out];congr 1;rw[decide_eq_decide];simp
 have HEP:=hid hEp
 have HPN:=hid hpn
 have HPR:=hid hpr
 have HBB:=hid hb
 clear hpa hlb hl1 hb hpn hpr hpl hEp
 go_wp2
 clear hc
 go_loopw [41] (fun i wr=>∃k:Nat,k<=pn∧i=.int .i64 k∧Below w4.heap.size w4 wr∧Hid (∀j,j<k->zAC p j=(vec x j,1))) (fun i _=>pn-(intOf i).toNat)
 case atStart=>exact⟨0,Nat.zero_le _,rfl,Below.refl _ _,hid (fun j h=>by omega)⟩
 case round=>
  obtain⟨k,hk,rfl,hbk,HNO⟩:=hrel
  by_cases hlt:k<pn
  ·have hkp:k<p.length:=by rw[HPN.out];exact hlt
   have hkx:k<x.length:=by rw[HXN.out];exact hlt
   obtain⟨pb,po,rfl,hpb,hp0,hp1⟩:=(HPR.out.below hbk) k hkp
   obtain⟨xb,xo,rfl,hxb,hxc⟩:=HI.out k hkx
   have hra:zAC p k=p[k]:=by unfold zAC;rw[List.getElem?_eq_getElem hkp];rfl
   rw[<- hra]at hp0 hp1
   have hxv:x[k]?.getD 0=vec x k:=rfl
   rw[hxv]at hxc
   have HNX:=hid (fun(h:zAC p k=(vec x k,1))=>show ∀j,j<k+1->zAC p j=(vec x j,1)from fun j hj=>by
    rcases Nat.lt_or_ge j k with h1|h1
    ·exact HNO.out j h1
    ·have:j=k:=by omega
     subst this;exact h)
   have HNE:=hid (fun(h:zAC p k≠(vec x k,1))=>show E=(false,0)from by
    rw[HEP.out,decide_eq_false]
    intro hpe
    exact h (by rw[hpe,zKH hkx]))
   obtain⟨⟨rn,rd⟩,hr⟩:∃r,r=zAC p k:=⟨_,rfl⟩
   obtain⟨v,hv⟩:=exq (vec x k)
   rw[<- hr,<- hv]at HNX HNE
   rw[<- hr]at hp0 hp1
   rw[<- hv]at hxc
   simp only[]at hp0 hp1
   have HXC:=hid (fun(Z:World) (hZ:Below w.heap.size w Z)=>show Z.cell? ⟨xb,xo+k,none⟩=some (.int .i64 v)from(hZ.cell (p:=⟨xb,_,none⟩) hxb).trans hxc)
   have HBK:=hid (zAB HB4.out hbk)
   have HBK2:=hid hbk
   have i0:(0:Int)<=(k:Int):=by omega
   have i1:(k:Int)<(pn:Int):=by omega
   have hk9:k<=10:=by have h1:=(zCN HOK.out).2.2.2.2;have h2:=HXL.out;have h3:=HXN.out;omega
   clear hkp hkx hpb hxb hra hxv hr hv hxc hbk
   go_upto_region 12 with fail
   clear hp0 hp1
   obtain⟨h,hh⟩:=exq (wr.heap.size)
   obtain⟨wh,hwh⟩:=exq (wr.alloc (.cells #[.int .i64 rn,.int .i64 rd] 29))
   rw[<- hh,<- hwh]
   have hbh:Below wr.heap.size wr wh:=by rw[hwh];exact(Below.refl _ _).alloc (Nat.le_refl _) _
   have HRH:=hid (show RatI wh h (rn,rd)by rw[hwh,hh];exact RatI.made wr (rn,rd))
   have HBH:=hid (zAB HBK.out hbh)
   have HBH2:=hid (zAB HBK2.out hbh)
   have HS:=hid (fun(Z:World) (hZ:Below wh.heap.size wh Z)=>show Z.cell? ⟨h,0,none⟩=some (.int .i64 rn)∧Z.cell? ⟨h,1,none⟩=some (.int .i64 rd)∧Z.cell? ⟨xb,xo+k,none⟩=some (.int .i64 v)from by
    obtain⟨c0,c1,_⟩:=(HRH.out.keep (hZ.block _ HRH.out.lt)).cells
    exact⟨c0,c1,HXC.out _ (zAB HBH.out hZ)⟩)
   clear hh hwh hbh
   by_cases e1:rn=v
   ·by_cases e2:rd=1
    ·subst e1
     subst e2
     have HNX2:=HNX.out rfl
     refine zAI (fun j' Z=>wAll j'=true->Z.cell? ⟨h,0,none⟩=some (.int .i64 rn)∧Z.cell? ⟨h,1,none⟩=some (.int .i64 1)∧Z.cell? ⟨xb,xo+k,none⟩=some (.int .i64 rn)) (by kernel_rfl) ?_
     have hbd:Below wh.heap.size wh wh.drew:=(Below.refl _ _).drew
     generalize wh.drew=wd at hbd⊢
     have HBD:=hid hbd
     clear hbd
     refine AnyT.tD (i:=0) (v:=.agg #[.int .i64 rn,.int .i64 1]) rfl rfl (by rintro w' ⟨q0,q1,q2⟩;go_simp) (HS.out _ HBD.out) ?_;go_frame
     refine AnyT.tD (i:=1) (v:=.slice (some ⟨xb,xo,none⟩) pn cap2) rfl rfl (by rintro w' ⟨q0,q1,q2⟩;go_simp) (HS.out _ HBD.out) ?_;go_frame
     refine AnyT.tD (i:=2) (v:=.int .i64 k) rfl rfl (by rintro w' ⟨q0,q1,q2⟩;go_simp) (HS.out _ HBD.out) ?_;go_frame
     refine AnyT.tD (i:=3) (v:=.pointer (some ⟨xb,xo+k,none⟩)) rfl rfl (by rintro w' ⟨q0,q1,q2⟩;go_simp) (HS.out _ HBD.out) ?_;go_frame
     refine AnyT.tD (i:=4) (v:=.int .i64 rn) rfl rfl (by rintro w' ⟨q0,q1,q2⟩;go_simp) (HS.out _ HBD.out) ?_;go_frame
     refine AnyT.tD (i:=5) (v:=.agg #[.int .i64 rn,.int .i64 1]) rfl rfl (by rintro w' ⟨q0,q1,q2⟩;go_simp) (HS.out _ HBD.out) ?_;go_frame
     refine AnyT.nx (i:=6) rfl ?_
     go_wp2
     refine⟨fun _=>HS.out _ HBD.out,?_⟩
     refine AnyT.done (by kernel_rfl) ?_ _
     go_wp2
     exact⟨⟨k+1,by omega,by go_num,zAB HBH2.out HBD.out,hid HNX2⟩,by simp[intOf];omega⟩
    ·have HE2:=hid (HNE.out (fun h=>e2 (Prod.mk.inj h).2))
     have e3:(rd==1)=false:=by simpa using e2
     subst e1
     refine zAI (fun j' Z=>wAll j'=true->Z.cell? ⟨h,0,none⟩=some (.int .i64 rn)∧Z.cell? ⟨h,1,none⟩=some (.int .i64 rd)∧Z.cell? ⟨xb,xo+k,none⟩=some (.int .i64 rn)) (by kernel_rfl) ?_
     have hbd:Below wh.heap.size wh wh.drew:=(Below.refl _ _).drew
     generalize wh.drew=wd at hbd⊢
     have HBD:=hid hbd
     clear hbd
     refine AnyT.tD (i:=0) (v:=.agg #[.int .i64 rn,.int .i64 rd]) rfl rfl (by rintro w' ⟨q0,q1,q2⟩;go_simp) (HS.out _ HBD.out) ?_;go_frame
     refine AnyT.tD (i:=1) (v:=.slice (some ⟨xb,xo,none⟩) pn cap2) rfl rfl (by rintro w' ⟨q0,q1,q2⟩;go_simp) (HS.out _ HBD.out) ?_;go_frame
     refine AnyT.tD (i:=2) (v:=.int .i64 k) rfl rfl (by rintro w' ⟨q0,q1,q2⟩;go_simp) (HS.out _ HBD.out) ?_;go_frame
     refine AnyT.tD (i:=3) (v:=.pointer (some ⟨xb,xo+k,none⟩)) rfl rfl (by rintro w' ⟨q0,q1,q2⟩;go_simp) (HS.out _ HBD.out) ?_;go_frame
     refine AnyT.tD (i:=4) (v:=.int .i64 rn) rfl rfl (by rintro w' ⟨q0,q1,q2⟩;go_simp) (HS.out _ HBD.out) ?_;go_frame
     refine AnyT.tD (i:=5) (v:=.agg #[.int .i64 rn,.int .i64 1]) rfl rfl (by rintro w' ⟨q0,q1,q2⟩;go_simp) (HS.out _ HBD.out) ?_;go_frame
     refine AnyT.nx (i:=6) rfl ?_
     go_wp2
     refine⟨fun _=>HS.out _ HBD.out,?_⟩
     refine AnyT.done (by kernel_rfl) ?_ _
     go_wp2
     go_ret2
     exact⟨by rw[HE2.out]<;>rfl,zAB HBH.out HBD.out⟩
   ·have HE2:=hid (HNE.out (fun h=>e1 (Prod.mk.inj h).1))
    have e3:(rn==v)=false:=by simpa using e1
    refine zAI (fun j' Z=>wAll j'=true->Z.cell? ⟨h,0,none⟩=some (.int .i64 rn)∧Z.cell? ⟨h,1,none⟩=some (.int .i64 rd)∧Z.cell? ⟨xb,xo+k,none⟩=some (.int .i64 v)) (by kernel_rfl) ?_
    have hbd:Below wh.heap.size wh wh.drew:=(Below.refl _ _).drew
    generalize wh.drew=wd at hbd⊢
    have HBD:=hid hbd
    clear hbd
    refine AnyT.tD (i:=0) (v:=.agg #[.int .i64 rn,.int .i64 rd]) rfl rfl (by rintro w' ⟨q0,q1,q2⟩;go_simp) (HS.out _ HBD.out) ?_;go_frame
    refine AnyT.tD (i:=1) (v:=.slice (some ⟨xb,xo,none⟩) pn cap2) rfl rfl (by rintro w' ⟨q0,q1,q2⟩;go_simp) (HS.out _ HBD.out) ?_;go_frame
    refine AnyT.tD (i:=2) (v:=.int .i64 k) rfl rfl (by rintro w' ⟨q0,q1,q2⟩;go_simp) (HS.out _ HBD.out) ?_;go_frame
    refine AnyT.tD (i:=3) (v:=.pointer (some ⟨xb,xo+k,none⟩)) rfl rfl (by rintro w' ⟨q0,q1,q2⟩;go_simp) (HS.out _ HBD.out) ?_;go_frame
    refine AnyT.tD (i:=4) (v:=.int .i64 v) rfl rfl (by rintro w' ⟨q0,q1,q2⟩;go_simp) (HS.out _ HBD.out) ?_;go_frame
    refine AnyT.tD (i:=5) (v:=.agg #[.int .i64 v,.int .i64 1]) rfl rfl (by rintro w' ⟨q0,q1,q2⟩;go_simp) (HS.out _ HBD.out) ?_;go_frame
    refine AnyT.nx (i:=6) rfl ?_
    go_wp2
    refine⟨fun _=>HS.out _ HBD.out,?_⟩
    refine AnyT.done (by kernel_rfl) ?_ _
    go_wp2
    go_ret2
    exact⟨by rw[HE2.out]<;>rfl,zAB HBH.out HBD.out⟩
  ·obtain rfl:k=pn:=by omega
   have HE2:=hid (show E=(true,0)by
    rw[HEP.out,decide_eq_true]
    refine pic_ext (by unfold zCG;rw[List.length_map,HPN.out,HXN.out]) fun j hj=>?_
    rw[HPN.out]at hj
    rw[HNO.out j hj,zKH (by rw[HXN.out];exact hj)])
   have HBK:=hid (zAB HB4.out hbk)
   have i1:¬((k:Int)<(k:Int)):=by omega
   clear hbk
   go_wp2
   go_ret2
   exact⟨by rw[HE2.out]<;>rfl,HBK.out⟩
end
section
def nzC(x:List Int)(i:Nat):Int:=sm (fun j=>if vec x j=0 then 0 else 1) i
theorem zND(x:List Int)(i:Nat):nzC x (i+1)=nzC x i+if vec x i=0 then 0 else 1:=rfl
theorem nzC_bnd(x:List Int):∀i,0<=nzC x i∧nzC x i<=i
 |0=>⟨Int.le_refl _,Int.le_refl _⟩
 |i+1=>by
  have:=nzC_bnd x i
  rw[zND]
  split<;>omega
theorem nzC_none(x:List Int):∀i,nzC x i<=0->∀j,j<i->vec x j=0
 |0,_,j,hj=>by omega
 |i+1,h,j,hj=>by
  have h0:=nzC_bnd x i
  rw[zND]at h
  rcases Nat.lt_or_ge j i with c|c
  ·exact nzC_none x i (by split at h<;>omega) j c
  ·obtain rfl:j=i:=by omega
   split at h
   ·assumption
   ·omega
theorem zero_only{M:List (List Int)}{n:Nat}{x:Nat->Int}(hx:∀j,j<n->x j=0):OnlyN M n x:=by
 intro h hh hz
 have hN:0<nrmI h n:=by
  obtain⟨j,hj,hne⟩:=hz
  have:=nrmI_ge h hj
  omega
 have:nrmI h n<=gSum (hiS x) (loS x) n h:=by
  unfold gSum nrmI
  refine zDP n fun j hj=>?_
  unfold hiS loS
  simp only[hx j hj,if_true]
  split<;>omega
 omega
theorem sq_lt{a d:Int}(hd:0<=d)(h:a*a<d*d):((a.natAbs:Nat):Int)<d:=by
 apply Classical.byContradiction
 intro hc
 have h1:d*d<=((a.natAbs:Nat):Int)*((a.natAbs:Nat):Int):=Int.mul_le_mul (by omega) (by omega) hd (by omega)
 rw[Int.natAbs_mul_self']at h1
 omega
theorem sure_only{M:Mask}{k:Int}(hb:zGZ M k)(hg:∀j,j<zAA M->zAS M j j=zAS M 0 0){x:List Int}(hx:nzC x (zAA M)<=k):OnlyN M (zAA M) (vec x):=by
 obtain⟨h2,h0,hp⟩:=hb
 by_cases hk:1<=k
 rotate_left
 ·exact zero_only (nzC_none x _ (by omega))
 have hp:=hp hk
 obtain⟨d,hd⟩:=exq (zAS M 0 0)
 rw[<- hd]at hg
 have hd0:0<=d:=by rw[hd];exact gram_nn 0
 have hdp:0<d:=by
  have:=(hp 1 0 (by omega) (by omega)).1
  rw[hg 0 (by omega),hg 1 (by omega)]at this
  rcases Int.lt_or_eq_of_le hd0 with c|c
  ·exact c
  ·rw[<- c]at this;omega
 have key:∀p q,p<q->q<zAA M->(2*k-1)*((zAS M p q).natAbs:Int)<d:=fun p q hpq hq=>by
  have h3:=(hp q p hq hpq).2
  rw[hg p (by omega),hg q hq]at h3
  have h4:((2*k-1)*zAS M p q)*((2*k-1)*zAS M p q)<d*d:=by
   have:((2*k-1)*zAS M p q)*((2*k-1)*zAS M p q)=(2*k-1)*(2*k-1)*(zAS M p q*zAS M p q):=by grind
   omega
  have h5:=sq_lt hd0 h4
  rw[Int.natAbs_mul,Int.natCast_mul]at h5
  have:(((2*k-1).natAbs:Nat):Int)=2*k-1:=by omega
  rw[this]at h5
  exact h5
 refine flat_only hdp hk hg (fun p q hpn hqn hne=>?_) hx
 rcases Nat.lt_or_ge p q with c|c
 ·exact key p q c hqn
 ·rw[gram_symm];exact key q p (by omega) hpn
theorem sure_finds{M:Mask}{x:List Int}(hs:zCI M x=0)(hm:milB (zCZ M x)=true){k:Int}(hb:zGZ M k)(hg:∀j,j<zAA M->zAS M j j=zAS M 0 0)(hx:nzC x (zAA M)<=k):zBK M (zCZ M x)=[zCG x]:=by
 obtain⟨hok,hl,_⟩:=zDT.1 hs
 exact only_corner ((read_rd hs).2 hm) (read_sol hok hl) hl (sure_only hb hg hx)
end
section
open Go.RowKit
theorem sameRats_c(w:World)(a a2:Option Addr)(n cap n2 cap2:Nat)(x y:List Rt)(hn:x.length=n)(hn2:y.length=n2)(hm:n<=maxLen)(hm2:n2<=maxLen)(H:zBX w a x)(H2:zBX w a2 y):
 Calls Tryz.prog 35 #[.slice a n cap,.slice a2 n2 cap2] w fun e w'=>e=.returned (.bool (decide (x=y)))∧Below w.heap.size w w':=by
 unfold maxLen at hm hm2
 obtain⟨E,hE⟩:=exq (decide (x=y))
 rw[<- hE]
 by_cases hl:n=n2
 rotate_left
 ·have hd:((n:Int) !=(n2:Int))=true:=by simp;omega
  have HE:=hid (show E=false from by rw[hE];exact decide_eq_false (fun h=>hl (by rw[<- hn,<- hn2,h])))
  clear hn hn2 H H2 hE hl
  go_enter Tryz.func35,Tryz.ntmps35
  go_wp2
  go_ret
  exact⟨by rw[HE.out]<;>rfl,Below.refl _ _⟩
 subst hl
 have hd:((n:Int) !=(n:Int))=false:=by simp
 have HYES:=hid (fun(h:∀j,j<n->x[j]? =y[j]?)=>show E=true from by
  rw[hE]
  refine decide_eq_true (List.ext_getElem? fun j=>?_)
  rcases Nat.lt_or_ge j n with k|k
  ·exact h j k
  ·rw[List.getElem?_eq_none (by omega),List.getElem?_eq_none (by omega)])
 have HNO:=hid (fun(j:Nat) (h:x[j]? ≠y[j]?)=>show E=false from by
  rw[hE];exact decide_eq_false (fun k=>h (by rw[k])))
 have HXI:=hid (fun(j:Nat) (hj:j<n)=>show ∃b off r,a=some ⟨b,off,none⟩∧x[j]? =some r∧∀Z:World,Below w.heap.size w Z->Z.cell? ⟨b,off+j*2,none⟩=some (.int .i64 r.1)∧Z.cell? ⟨b,off+j*2+1,none⟩=some (.int .i64 r.2)from by
  obtain⟨b,off,e,hb,c0,c1⟩:=H j (by omega)
  exact⟨b,off,x[j]'(by omega),e,List.getElem?_eq_getElem (by omega),fun Z hZ=>⟨(hZ.cell (p:=⟨b,_,none⟩) hb).trans c0,(hZ.cell (p:=⟨b,_,none⟩) hb).trans c1⟩⟩)
 have HYI:=hid (fun(j:Nat) (hj:j<n)=>show ∃b off r,a2=some ⟨b,off,none⟩∧y[j]? =some r∧∀Z:World,Below w.heap.size w Z->Z.cell? ⟨b,off+j*2,none⟩=some (.int .i64 r.1)∧Z.cell? ⟨b,off+j*2+1,none⟩=some (.int .i64 r.2)from by
  obtain⟨b,off,e,hb,c0,c1⟩:=H2 j (by omega)
  exact⟨b,off,y[j]'(by omega),e,List.getElem?_eq_getElem (by omega),fun Z hZ=>⟨(hZ.cell (p:=⟨b,_,none⟩) hb).trans c0,(hZ.cell (p:=⟨b,_,none⟩) hb).trans c1⟩⟩)
 clear hn hn2 H H2 hE
 go_enter Tryz.func35,Tryz.ntmps35
 go_wp2
 go_loopw [13] (fun i wr=>∃k:Nat,k<=n∧i=.int .i64 k∧Below w.heap.size w wr∧Hid (∀j,j<k->x[j]? =y[j]?)) (fun i _=>n-(intOf i).toNat)
 case atStart=>exact⟨0,Nat.zero_le _,rfl,Below.refl _ _,hid fun j hj=>by omega⟩
 case round=>
  obtain⟨k,hk,rfl,hbk,HK⟩:=hrel
  have HBK:=hid hbk
  by_cases hlt:k<n
  ·obtain⟨b,off,⟨x1,x2⟩,rfl,ex,hx⟩:=HXI.out k hlt
   obtain⟨b2,off2,⟨y1,y2⟩,rfl,ey,hy⟩:=HYI.out k hlt
   have HX:=hid hx
   have HY:=hid hy
   have HNE:=hid (fun(h:¬((x1,x2):Rt)=(y1,y2))=>HNO.out k (by rw[ex,ey];intro e;exact h (Option.some.inj e)))
   have HEQ:=hid (fun(h:((x1,x2):Rt)=(y1,y2))=>show ∀j,j<k+1->x[j]? =y[j]? from fun j hj=>by
    rcases Nat.lt_or_ge j k with c|c
    ·exact HK.out j c
    ·obtain rfl:j=k:=by omega
     rw[ex,ey,h])
   have i0:(0:Int)<=(k:Int):=by omega
   have i1:(k:Int)<(n:Int):=by omega
   have HS:=hid (fun(Z:World) (hZ:Below wr.heap.size wr Z)=>And.intro (HX.out Z (zAB HBK.out hZ)) (HY.out Z (zAB HBK.out hZ)))
   clear ex ey hx hy hbk
   go_upto_region 6 with fail
   refine zAI (fun j' Z=>wAll j'=true->(Z.cell? ⟨b,off+k*2,none⟩=some (.int .i64 x1)∧Z.cell? ⟨b,off+k*2+1,none⟩=some (.int .i64 x2))∧Z.cell? ⟨b2,off2+k*2,none⟩=some (.int .i64 y1)∧Z.cell? ⟨b2,off2+k*2+1,none⟩=some (.int .i64 y2)) (by kernel_rfl) ?_
   have hbd:Below wr.heap.size wr wr.drew:=(Below.refl _ _).drew
   generalize wr.drew=wd at hbd⊢
   have HBD:=hid hbd
   clear hbd
   refine AnyT.tD (i:=0) (v:=.slice (some ⟨b,off,none⟩) n cap) rfl rfl (by rintro w' ⟨⟨q0,q1⟩,q2,q3⟩;go_simp) (HS.out _ HBD.out) ?_;go_frame
   refine AnyT.tD (i:=1) (v:=.int .i64 k) rfl rfl (by rintro w' ⟨⟨q0,q1⟩,q2,q3⟩;go_simp) (HS.out _ HBD.out) ?_;go_frame
   refine AnyT.tD (i:=2) (v:=.pointer (some ⟨b,off+k*2,none⟩)) rfl rfl (by rintro w' ⟨⟨q0,q1⟩,q2,q3⟩;go_simp) (HS.out _ HBD.out) ?_;go_frame
   refine AnyT.tD (i:=3) (v:=.agg #[.int .i64 x1,.int .i64 x2]) rfl rfl (by rintro w' ⟨⟨q0,q1⟩,q2,q3⟩;go_simp) (HS.out _ HBD.out) ?_;go_frame
   refine AnyT.tD (i:=4) (v:=.slice (some ⟨b2,off2,none⟩) n cap2) rfl rfl (by rintro w' ⟨⟨q0,q1⟩,q2,q3⟩;go_simp) (HS.out _ HBD.out) ?_;go_frame
   refine AnyT.tD (i:=5) (v:=.int .i64 k) rfl rfl (by rintro w' ⟨⟨q0,q1⟩,q2,q3⟩;go_simp) (HS.out _ HBD.out) ?_;go_frame
   refine AnyT.tD (i:=6) (v:=.pointer (some ⟨b2,off2+k*2,none⟩)) rfl rfl (by rintro w' ⟨⟨q0,q1⟩,q2,q3⟩;go_simp) (HS.out _ HBD.out) ?_;go_frame
   refine AnyT.tD (i:=7) (v:=.agg #[.int .i64 y1,.int .i64 y2]) rfl rfl (by rintro w' ⟨⟨q0,q1⟩,q2,q3⟩;go_simp) (HS.out _ HBD.out) ?_;go_frame
   by_cases c1:x1=y1
   ·by_cases c2:x2=y2
    ·subst c1
     subst c2
     have HE:=hid (HEQ.out rfl)
     refine AnyT.nx (i:=8) rfl ?_
     go_wp2
     refine⟨fun _=>HS.out _ HBD.out,?_⟩
     refine AnyT.done (by kernel_rfl) ?_ _
     go_wp2
     exact⟨⟨k+1,by omega,by go_num,zAB HBK.out HBD.out,HE⟩,by simp[intOf];omega⟩
    ·have HE:=hid (HNE.out (fun h=>c2 (by cases h;rfl)))
     have c2':(x2==y2)=false:=by simpa using c2
     subst c1
     refine AnyT.nx (i:=8) rfl ?_
     go_wp2
     refine⟨fun _=>HS.out _ HBD.out,?_⟩
     refine AnyT.done (by kernel_rfl) ?_ _
     go_wp2
     go_ret
     exact⟨by rw[HE.out]<;>rfl,zAB HBK.out HBD.out⟩
   ·have HE:=hid (HNE.out (fun h=>c1 (by cases h;rfl)))
    have c1':(x1==y1)=false:=by simpa using c1
    refine AnyT.nx (i:=8) rfl ?_
    go_wp2
    refine⟨fun _=>HS.out _ HBD.out,?_⟩
    refine AnyT.done (by kernel_rfl) ?_ _
    go_wp2
    go_ret
    exact⟨by rw[HE.out]<;>rfl,zAB HBK.out HBD.out⟩
  ·obtain rfl:k=n:=by omega
   have HE:=hid (HYES.out HK.out)
   have i1:¬((k:Int)<(k:Int)):=by omega
   clear hbk
   go_wp2
   go_ret
   exact⟨by rw[HE.out]<;>rfl,HBK.out⟩
end
section
open Go.RowKit
theorem two5_c(w:World):Calls Tryz.prog 72 #[] w fun e w'=>Below w.heap.size w w'∧∃a cap,e=.returned (.slice a 2 cap)∧zAL w' a twoM:=by
 go_enter Tryz.func72,Tryz.ntmps72
 go_wp2
 go_ret
 exact⟨(((Below.refl _ _).alloc (Nat.le_refl _) _).alloc (by simp) _).alloc (by simp;omega) _,_,_,rfl,two_rows w⟩
theorem zFG(w:World)(n:Int):Calls Tryz.prog 51 #[.int .i64 n] w fun e w'=>e=.returned (.agg #[.int .i64 n,.int .i64 1])∧Below w.heap.size w w':=by
 obtain⟨rb,hrb⟩:=exq (w.heap.size)
 obtain⟨wz,hwz⟩:=exq (w.alloc (.cells #[.int .i64 0,.int .i64 0] 29))
 have hbz:Below w.heap.size w wz:=by rw[hwz];exact(Below.refl _ _).alloc (Nat.le_refl _) _
 have hrz:RatI wz rb (0,0):=by rw[hwz,hrb];exact RatI.made w (0,0)
 obtain⟨r0,r1,r2,r3,r4⟩:=hrz.cells
 have X1:=hid (RatI.set (p:=(n,1)) hrz)
 have X2:=hid ((zAY wz rb (.int .i64 n) (.int .i64 1)).below hbz hbz.size (fun k hk=>by show k≠rb;omega))
 have HWZ:=hid hwz
 clear hwz hrz hbz
 go_enter Tryz.func51,Tryz.ntmps51
 go_upto_region 1 with fail
 rw[<- hrb,<- HWZ.out]
 clear hrb
 go_wp2
 clear r0 r1 r2 r3 r4
 generalize (wz.setCell ⟨rb,0,none⟩ (.int .i64 n)).setCell ⟨rb,1,none⟩ (.int .i64 1)=WF at X1 X2⊢
 obtain⟨t0,t1,t2,t3,t4⟩:=X1.out.cells
 refine bodyPost_ret (v:=.agg #[.int .i64 n,.int .i64 1]) ?_ rfl ⟨rfl,X2.out⟩
 simp[results,Tryz.results51,go_sem,t0,t1,t2,t3,t4]
theorem aw5_val:valE twoM [1,-1]=((2,1),0):=by decide+kernel
theorem aw5_prov:zDL twoM [1,1] [(0,1),(1,1),(0,1)] [(1,1),(0,1)]=true:=by decide+kernel
theorem ints2(w:World)(x y:Int)(T:TypeId):zAE (w.alloc (.cells #[.int .i64 x,.int .i64 y] T)) (some ⟨w.heap.size,0,none⟩) [x,y]:=fun j hj=>⟨w.heap.size,0,rfl,by simp,by
 rw[World.cell?_alloc_at _ _ _ _ rfl]
 match j,hj with
 |0,_=>rfl
 |1,_=>rfl⟩
theorem rats3(w:World)(a b c d e f:Int)(T:TypeId):zBX (w.alloc (.cells #[.int .i64 a,.int .i64 b,.int .i64 c,.int .i64 d,.int .i64 e,.int .i64 f] T)) (some ⟨w.heap.size,0,none⟩) [(a,b),(c,d),(e,f)]:=fun j hj=>⟨w.heap.size,0,rfl,by simp,by
 rw[World.cell?_alloc_at _ _ _ _ rfl]
 match j,hj with
 |0,_=>rfl
 |1,_=>rfl
 |2,_=>rfl,by
 rw[World.cell?_alloc_at _ _ _ _ rfl]
 match j,hj with
 |0,_=>rfl
 |1,_=>rfl
 |2,_=>rfl⟩
theorem rats2(w:World)(a b c d:Int)(T:TypeId):zBX (w.alloc (.cells #[.int .i64 a,.int .i64 b,.int .i64 c,.int .i64 d] T)) (some ⟨w.heap.size,0,none⟩) [(a,b),(c,d)]:=fun j hj=>⟨w.heap.size,0,rfl,by simp,by
 rw[World.cell?_alloc_at _ _ _ _ rfl]
 match j,hj with
 |0,_=>rfl
 |1,_=>rfl,by
 rw[World.cell?_alloc_at _ _ _ _ rfl]
 match j,hj with
 |0,_=>rfl
 |1,_=>rfl⟩
theorem awake5_c(w:World):Calls Tryz.prog 18 #[] w fun e w'=>e=.returned (.bool true)∧Below w.heap.size w w':=by
 go_enter Tryz.func18,Tryz.ntmps18
 go_upto_region 2 with (go_at_call 72;refine(two5_c _).mono ?_;rintro e w1 ⟨hb1,a,cap,rfl,hR⟩;refine Stop.of ?_)
 refine Stop.go ?_
 have hbA:Below w1.heap.size w1 (w1.alloc (.cells #[.int .i64 1,.int .i64 (-1)] 3)):=(Below.refl _ _).alloc (Nat.le_refl _) _
 have HV:=hid (dvalue_c (w1.alloc (.cells #[.int .i64 1,.int .i64 (-1)] 3)) a (some ⟨w1.heap.size,0,none⟩) 2 cap 2 2 twoM [1,-1] rfl rfl (by decide) (by decide) (hR.below hbA) (ints2 w1 1 (-1) _))
 rw[aw5_val]at HV
 have HB1:=hid (zAB hb1 hbA)
 clear hb1 hbA hR
 go_upto_region 2 with (go_at_call 19;refine HV.out.mono ?_;rintro e w2 ⟨rfl,hb2⟩;refine Stop.of ?_)
 refine Stop.go ?_
 have HB2:=hid (zAB HB1.out hb2)
 clear hb2 HB1 HV
 have hr:ratV (2,1)=.agg #[.int .i64 2,.int .i64 1]:=rfl
 rw[hr]
 clear hr
 go_upto_region 2 with fail
 go_upto_region 3 with (go_at_call 51;refine(zFG _ _).mono ?_;rintro e w3 ⟨rfl,hb3⟩;have HB3:=hid hb3;clear hb3;refine Stop.of ?_)
 refine Stop.go ?_
 go_upto_region 3 with (go_at_call 51;refine(zFG _ _).mono ?_;rintro e w4 ⟨rfl,hb4⟩;have HB4:=hid hb4;clear hb4;refine Stop.of ?_)
 refine Stop.go ?_
 go_upto_region 3 with (go_at_call 51;refine(zFG _ _).mono ?_;rintro e w5 ⟨rfl,hb5⟩;have HB5:=hid hb5;clear hb5;refine Stop.of ?_)
 refine Stop.go ?_
 go_upto_region 3 with (go_at_call 51;refine(zFG _ _).mono ?_;rintro e w6 ⟨rfl,hb6⟩;have HB6:=hid hb6;clear hb6;refine Stop.of ?_)
 refine Stop.go ?_
 go_upto_region 3 with (go_at_call 51;refine(zFG _ _).mono ?_;rintro e w7 ⟨rfl,hb7⟩;have HB7:=hid hb7;clear hb7;refine Stop.of ?_)
 refine Stop.go ?_
 go_upto_region 3 with fail
 have B25:Below (w2.alloc (.cells #[.int .i64 2,.int .i64 1] 29)).heap.size (w2.alloc (.cells #[.int .i64 2,.int .i64 1] 29)) w5:=zAB HB3.out (zAB HB4.out HB5.out)
 have B57:Below (w5.alloc (.cells #[.int .i64 0,.int .i64 1,.int .i64 1,.int .i64 1,.int .i64 0,.int .i64 1] 29)).heap.size (w5.alloc (.cells #[.int .i64 0,.int .i64 1,.int .i64 1,.int .i64 1,.int .i64 0,.int .i64 1] 29)) w7:=zAB HB6.out HB7.out
 have R2:=RatI.made w2 (2,1)
 have R5:RatI w5 w2.heap.size (2,1):=R2.keep (B25.block _ R2.lt)
 have bC:Below w5.heap.size w5 (w5.alloc (.cells #[.int .i64 0,.int .i64 1,.int .i64 1,.int .i64 1,.int .i64 0,.int .i64 1] 29)):=(Below.refl _ _).alloc (Nat.le_refl _) _
 have b57:Below w5.heap.size w5 w7:=zAB bC B57
 have R7:RatI w7 w2.heap.size (2,1):=R5.keep (b57.block _ R5.lt)
 have X7:zBX w7 (some ⟨w5.heap.size,0,none⟩) [(0,1),(1,1),(0,1)]:=(rats3 w5 0 1 1 1 0 1 29).below B57
 have bA:Below w2.heap.size w2 (w2.alloc (.cells #[.int .i64 2,.int .i64 1] 29)):=(Below.refl _ _).alloc (Nat.le_refl _) _
 have bw7:Below w.heap.size w w7:=zAB HB2.out (zAB bA (zAB B25 b57))
 obtain⟨b1,hb1⟩:=exq (w2.heap.size)
 obtain⟨ap,hap⟩:=exq (w5.heap.size)
 obtain⟨ax,hax⟩:=exq (w7.heap.size)
 obtain⟨b3,hb3⟩:=exq (w7.heap.size+1)
 obtain⟨wB,hwB⟩:=exq ((w7.alloc (.cells #[.int .i64 1,.int .i64 1,.int .i64 0,.int .i64 1] 29)).alloc (.cells #[.slice (some ⟨w5.heap.size,0,none⟩) 3 3,.slice (some ⟨w7.heap.size,0,none⟩) 2 2] 78))
 have bD:Below w7.heap.size w7 (w7.alloc (.cells #[.int .i64 1,.int .i64 1,.int .i64 0,.int .i64 1] 29)):=(Below.refl _ _).alloc (Nat.le_refl _) _
 have bB:Below w7.heap.size w7 wB:=by rw[hwB];exact bD.alloc bD.size _
 have bDB:Below (w7.alloc (.cells #[.int .i64 1,.int .i64 1,.int .i64 0,.int .i64 1] 29)).heap.size (w7.alloc (.cells #[.int .i64 1,.int .i64 1,.int .i64 0,.int .i64 1] 29)) wB:=by rw[hwB];exact(Below.refl _ _).alloc (Nat.le_refl _) _
 have HRB:=hid (R7.keep (bB.block _ R7.lt))
 have HPB:=hid (X7.below bB)
 have HXB:=hid ((rats2 w7 1 1 0 1 29).below bDB)
 have HLB:=hid (show wB.heap[w7.heap.size+1]? =some (.cells #[.slice (some ⟨w5.heap.size,0,none⟩) 3 3,.slice (some ⟨w7.heap.size,0,none⟩) 2 2] 78 (0,0))by
  have h:=World.alloc_heap_new (w7.alloc (.cells #[.int .i64 1,.int .i64 1,.int .i64 0,.int .i64 1] 29)) (.cells #[.slice (some ⟨w5.heap.size,0,none⟩) 3 3,.slice (some ⟨w7.heap.size,0,none⟩) 2 2] 78)
  rw[World.size_alloc]at h
  rw[hwB];exact h)
 have HBW:=hid (zAB bw7 bB)
 rw[<- hwB]
 rw[<- hb1]at HRB⊢
 rw[<- hb3]at HLB⊢
 rw[<- hap]at HPB HLB⊢
 rw[<- hax]at HXB HLB⊢
 clear B25 B57 R2 R5 bC b57 R7 X7 bA bw7 hb1 hap hax hb3 hwB bD bB bDB HB2 HB3 HB4 HB5 HB6 HB7
 have HS:=hid (fun(X:World) (hX:Below wB.heap.size wB X)=>show X.cell? ⟨b1,0,none⟩=some (.int .i64 2)∧X.cell? ⟨b1,1,none⟩=some (.int .i64 1)∧X.cell? ⟨b3,0,none⟩=some (.slice (some ⟨ap,0,none⟩) 3 3)∧X.cell? ⟨b3,1,none⟩=some (.slice (some ⟨ax,0,none⟩) 2 2)from by
  obtain⟨c0,c1,_⟩:=(HRB.out.keep (hX.block _ HRB.out.lt)).cells
  have h:=(hX.block _ (Array.getElem?_eq_some_iff.1 HLB.out).1).trans HLB.out
  exact⟨c0,c1,by simp[World.cell?,h],by simp[World.cell?,h]⟩)
 have HPV:=hid (fun(X:World) (a a3:Option Addr) (cap cap3:Nat) (hX:Below wB.heap.size wB X) (hR:zAL X a twoM) (hY:zAE X a3 [1,1])=>dproves_c X a a3 (some ⟨ap,0,none⟩) (some ⟨ax,0,none⟩) 2 cap 2 cap3 3 3 2 2 twoM [1,1] [(0,1),(1,1),(0,1)] [(1,1),(0,1)] rfl rfl rfl rfl (by decide) (by decide) (by decide) (by decide) hR hY (HPB.out.below hX) (HXB.out.below hX))
 rw[aw5_prov]at HPV
 refine zAI (fun j X=>wAll j=true->X.cell? ⟨b1,0,none⟩=some (.int .i64 2)∧X.cell? ⟨b1,1,none⟩=some (.int .i64 1)∧X.cell? ⟨b3,0,none⟩=some (.slice (some ⟨ap,0,none⟩) 3 3)∧X.cell? ⟨b3,1,none⟩=some (.slice (some ⟨ax,0,none⟩) 2 2)) (by kernel_rfl) ?_
 have hbd:Below wB.heap.size wB wB.drew:=(Below.refl _ _).drew
 generalize wB.drew=wd at hbd⊢
 have HBD:=hid hbd
 clear hbd
 refine AnyT.nx (i:=0) rfl ?_
 go_wp2
 refine⟨fun _=>HS.out _ HBD.out,?_⟩
 refine AnyT.nx (i:=1) rfl ?_
 go_wp2
 refine⟨fun _=>HS.out _ HBD.out,?_⟩
 refine AnyT.nx (i:=2) rfl ?_
 go_wp2
 refine⟨fun _=>HS.out _ HBD.out,?_⟩
 refine AnyT.tD (i:=3) (v:=.agg #[.int .i64 2,.int .i64 1]) rfl rfl (by rintro w' ⟨q0,q1,q2,q3⟩;go_simp) (HS.out _ HBD.out) ?_;go_frame
 refine AnyT.nx (i:=4) rfl ?_
 go_wp2_with (go_at_call 51;refine(zFG _ _).mono ?_;rintro e w3 ⟨rfl,hb3⟩;have HB3:=hid (zAB HBD.out hb3);clear hb3;refine Stop.of ?_)
 refine Stop.go ?_
 go_wp2
 refine⟨fun _=>HS.out _ HB3.out,?_⟩
 refine AnyT.nx (i:=5) rfl ?_
 go_wp2
 refine⟨fun _=>HS.out _ HB3.out,?_⟩
 refine AnyT.nx (i:=6) rfl ?_
 go_wp2
 refine⟨fun _=>HS.out _ HB3.out,?_⟩
 refine AnyT.nx (i:=7) rfl ?_
 go_wp2
 refine⟨fun _=>HS.out _ HB3.out,?_⟩
 refine AnyT.tD (i:=10) (v:=.agg #[.slice (some ⟨ap,0,none⟩) 3 3,.slice (some ⟨ax,0,none⟩) 2 2]) rfl rfl (by rintro w' ⟨q0,q1,q2,q3⟩;go_simp) (HS.out _ HB3.out) ?_;go_frame
 refine AnyT.next2 (i:=8) (j:=9) (by kernel_rfl) (wpOp_of_list rfl ?_) (wpOp_of_list rfl ?_)
 ·go_wp2_with (go_at_call 72;refine(two5_c _).mono ?_;rintro e w4 ⟨hb4,a4,cap4,rfl,hR4⟩;have HB4:=hid (zAB HB3.out hb4);have HR4:=hid hR4;clear hb4 hR4;refine Stop.of ?_)
  refine Stop.go ?_
  go_wp2
  refine⟨fun _=>HS.out _ HB4.out,?_⟩
  refine AnyT.nx (i:=9) rfl ?_
  go_wp2
  have hb5:Below w4.heap.size w4 (w4.alloc (.cells #[.int .i64 1,.int .i64 1] 3)):=(Below.refl _ _).alloc (Nat.le_refl _) _
  have HB5:=hid (zAB HB4.out hb5)
  have HPV2:=hid (HPV.out _ a4 (some ⟨w4.heap.size,0,none⟩) cap4 2 HB5.out (HR4.out.below hb5) (ints2 w4 1 1 3))
  clear hb5
  refine⟨fun _=>HS.out _ HB5.out,?_⟩
  refine AnyT.nx (i:=11) rfl ?_
  go_wp2_with (go_at_call 61;refine HPV2.out.mono ?_;rintro e w8 ⟨rfl,hb8⟩;have HB8:=hid (zAB HB5.out hb8);clear hb8;refine Stop.of ?_)
  refine Stop.go ?_
  go_wp2
  refine⟨fun _=>HS.out _ HB8.out,?_⟩
  refine AnyT.nx (i:=12) rfl ?_
  go_wp2
  refine⟨fun _=>HS.out _ HB8.out,?_⟩
  refine AnyT.nx (i:=13) rfl ?_
  go_wp2
  refine⟨fun _=>HS.out _ HB8.out,?_⟩
  refine AnyT.done (by kernel_rfl) ?_ _
  go_wp2
  go_ret
  exact⟨rfl,zAB HBW.out HB8.out⟩
 ·go_wp2
  obtain⟨w4,hw4⟩:=exq (w3.alloc (.cells #[.int .i64 1,.int .i64 1] 3))
  have hb4:Below w3.heap.size w3 w4:=by rw[hw4];exact(Below.refl _ _).alloc (Nat.le_refl _) _
  have HY4:=hid (show zAE w4 (some ⟨w3.heap.size,0,none⟩) [1,1]by rw[hw4];exact ints2 w3 1 1 3)
  have HB4:=hid (zAB HB3.out hb4)
  rw[<- hw4]
  clear hb4 hw4
  refine⟨fun _=>HS.out _ HB4.out,?_⟩
  refine AnyT.nx (i:=8) rfl ?_
  go_wp2_with (go_at_call 72;refine(two5_c _).mono ?_;rintro e w5 ⟨hb5,a4,cap4,rfl,hR4⟩;have HB5:=hid (zAB HB4.out hb5);have HPV2:=hid (HPV.out _ a4 (some ⟨w3.heap.size,0,none⟩) cap4 2 HB5.out hR4 (HY4.out.below hb5));clear hb5 hR4;refine Stop.of ?_)
  refine Stop.go ?_
  go_wp2
  refine⟨fun _=>HS.out _ HB5.out,?_⟩
  refine AnyT.nx (i:=11) rfl ?_
  go_wp2_with (go_at_call 61;refine HPV2.out.mono ?_;rintro e w8 ⟨rfl,hb8⟩;have HB8:=hid (zAB HB5.out hb8);clear hb8;refine Stop.of ?_)
  refine Stop.go ?_
  go_wp2
  refine⟨fun _=>HS.out _ HB8.out,?_⟩
  refine AnyT.nx (i:=12) rfl ?_
  go_wp2
  refine⟨fun _=>HS.out _ HB8.out,?_⟩
  refine AnyT.nx (i:=13) rfl ?_
  go_wp2
  refine⟨fun _=>HS.out _ HB8.out,?_⟩
  refine AnyT.done (by kernel_rfl) ?_ _
  go_wp2
  go_ret
  exact⟨rfl,zAB HBW.out HB8.out⟩
end
section
open Go.RowKit
def AnyB(e:Ending):Prop:=∃b,e=.returned (.bool b)
theorem AnyB.of{e:Ending}(b:Bool)(h:e=.returned (.bool b)):AnyB e:=⟨b,h⟩
end
end Go.Proofs.YtlffndehhhpgjaaGreat

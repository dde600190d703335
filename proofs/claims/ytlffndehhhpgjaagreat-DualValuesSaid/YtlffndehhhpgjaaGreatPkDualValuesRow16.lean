/- Walks and plain laws for DualValuesRow, part 16. -/
import Derived.Test.YtlffndehhhpgjaaGreatPkDualValuesRow15
namespace Go.Proofs.YtlffndehhhpgjaaGreat
set_option linter.unusedVariables false
set_option linter.unusedSimpArgs false
set_option maxRecDepth 100000
set_option maxHeartbeats 4000000
section
open Go.RowKit
theorem spr_eq(n:Nat)(l:List Int)(v:List Rt):∀k,k<=v.length->zDF n l v k=zLL n l v k
 |0,_=>rfl
 |k+1,h=>by
  rw[zIA,spr_eq n l v k (by omega)]
  show _=(zLL n l v k).set (l[k]?.getD 0).toNat (zAG v k)
  unfold zAG
  rw[List.getElem?_eq_getElem (show k<v.length by omega)];rfl
theorem spr_R{n:Nat}{f:FitT}(h:f.2.length=f.1.length):zOD n f.1 f.2=sprF n f:=spr_eq n f.1 f.2 f.1.length (by omega)
theorem info_pics:(Tryz.prog.info? 42).map (fun i=>(i.zero,i.size,i.bytes))=some (some (.slice none 0 0),1,24):=by kernel_rfl
theorem qpicture_c(w:World)(a:Option Addr)(n cap:Nat)(M:Mask)(W:Nat)(y:Value)(us ur:Value)(f:FitT)(hn:M.length=n)(h0:0<n)(hW:W=zAE M)(hW1:1<=W)(hW10:W<=10)(H:zAM w a M)(hd:HdF w us ur f)(hs:zCL W f.1)(hl:f.2.length=f.1.length)(hl10:f.1.length<=10)(ya:Option Addr)(yn yc:Nat)(hy:y=.slice ya yn yc):
 Calls Tryz.prog 99 #[.agg #[.slice a n cap,y],.agg #[us,ur]] w fun e w'=>∃g,e=.returned (.slice (some ⟨g,0,none⟩) W W)∧w.heap.size<=g∧zBW w' g (sprF W f)∧Below w.heap.size w w':=by
 subst hy
 obtain⟨pa,pn,pc,va,vn,vc,rfl,rfl,k1,k2,k3,k4,k5,k6⟩:=hd
 obtain⟨b0,off0,ra0,rc0,rfl,hb0,hc0⟩:=zDV H (by omega)
 rw[<- hW]at hc0
 obtain⟨qb,hqb⟩:=exq (w.heap.size)
 obtain⟨fb,hfb⟩:=exq (w.heap.size+1)
 obtain⟨wy,hwy⟩:=exq (w.alloc (.cells #[.slice (some ⟨b0,off0,none⟩) n cap,.slice ya yn yc] 86))
 have hby:Below w.heap.size w wy:=by rw[hwy];exact(Below.refl _ _).alloc (Nat.le_refl _) _
 have hys:wy.heap.size=w.heap.size+1:=by rw[hwy];simp
 have hqy:wy.heap[qb]? =some (.cells #[.slice (some ⟨b0,off0,none⟩) n cap,.slice ya yn yc] 86 (0,0)):=by rw[hwy,hqb];exact World.alloc_heap_new _ _
 obtain⟨wz,hwz⟩:=exq (wy.alloc (.cells #[.slice pa pn pc,.slice va vn vc] 73))
 have hyz:Below wy.heap.size wy wz:=by rw[hwz];exact(Below.refl _ _).alloc (Nat.le_refl _) _
 have hfz:wz.heap[fb]? =some (.cells #[.slice pa pn pc,.slice va vn vc] 73 (0,0)):=by rw[hwz,hfb,<- hys];exact World.alloc_heap_new _ _
 have hqz:wz.heap[qb]? =some (.cells #[.slice (some ⟨b0,off0,none⟩) n cap,.slice ya yn yc] 86 (0,0)):=(hyz.block qb (Array.getElem?_eq_some_iff.1 hqy).1).trans hqy
 have hbz:Below w.heap.size w wz:=zAA hby hyz
 have HWZ:=hid (show(w.alloc (.cells #[.slice (some ⟨b0,off0,none⟩) n cap,.slice ya yn yc] 86)).alloc (.cells #[.slice pa pn pc,.slice va vn vc] 73)=wz by rw[hwz,hwy])
 have HBZ:=hid hbz
 have HS:=hid (fun(Z:World) (hZ:Below wz.heap.size wz Z)=>show Z.cell? ⟨qb,0,none⟩=some (.slice (some ⟨b0,off0,none⟩) n cap)∧Z.cell? ⟨fb,0,none⟩=some (.slice pa pn pc)∧Z.cell? ⟨fb,1,none⟩=some (.slice va vn vc)∧Z.cell? ⟨b0,off0,none⟩=some (.slice ra0 W rc0)from by
  have h1:=(hZ.block qb (Array.getElem?_eq_some_iff.1 hqz).1).trans hqz
  have h2:=(hZ.block fb (Array.getElem?_eq_some_iff.1 hfz).1).trans hfz
  exact⟨by simp[World.cell?,h1],by simp[World.cell?,h2],by simp[World.cell?,h2],((zAA hbz hZ).cell (p:=⟨b0,off0,none⟩) hb0).trans hc0⟩)
 have HSP:=hid (fun(Z:World) (hZ:Below w.heap.size w Z)=>spread_c Z W hW1 (by omega) pa va pn pc vn vc f.1 f.2 k1 k4 (by omega) (by omega) (k3.below hZ) (k6.below hZ) (fun i hi=>by
  rw[List.getElem?_eq_getElem (show i<f.1.length by omega)]
  exact hs.2 _ (List.getElem_mem _)))
 rw[spr_R hl]at HSP
 have i0:(0:Int)<(n:Int):=by omega
 clear hn hW H hs hl hl10 k1 k2 k3 k4 k5 k6 hb0 hc0 hwy hby hys hqy hwz hyz hfz hqz hbz
 go_enter Tryz.func99,Tryz.ntmps99
 go_upto_region 1 with fail
 rw[<- hfb,<- hqb,HWZ.out]
 clear hfb hqb
 refine zAF (fun j' Z=>wAll j'=true->Z.cell? ⟨qb,0,none⟩=some (.slice (some ⟨b0,off0,none⟩) n cap)∧Z.cell? ⟨fb,0,none⟩=some (.slice pa pn pc)∧Z.cell? ⟨fb,1,none⟩=some (.slice va vn vc)∧Z.cell? ⟨b0,off0,none⟩=some (.slice ra0 W rc0)) (by kernel_rfl) ?_
 have hbd:Below wz.heap.size wz wz.drew:=(Below.refl _ _).drew
 generalize wz.drew=wd at hbd⊢
 have HBD:=hid hbd
 clear hbd
 refine AnyT.tD (i:=0) (v:=.pointer (some ⟨qb,0,none⟩)) rfl rfl (by rintro w' ⟨q0,q1,q2,q3⟩;go_simp) (HS.out _ HBD.out) ?_;go_frame
 refine AnyT.tD (i:=1) (v:=.slice (some ⟨b0,off0,none⟩) n cap) rfl rfl (by rintro w' ⟨q0,q1,q2,q3⟩;go_simp) (HS.out _ HBD.out) ?_;go_frame
 refine AnyT.tD (i:=2) (v:=.pointer (some ⟨b0,off0,none⟩)) rfl rfl (by rintro w' ⟨q0,q1,q2,q3⟩;go_simp) (HS.out _ HBD.out) ?_;go_frame
 refine AnyT.tD (i:=3) (v:=.slice ra0 W rc0) rfl rfl (by rintro w' ⟨q0,q1,q2,q3⟩;go_simp) (HS.out _ HBD.out) ?_;go_frame
 refine AnyT.tD (i:=4) (v:=.int .i64 W) rfl rfl (by rintro w' ⟨q0,q1,q2,q3⟩;go_simp) (HS.out _ HBD.out) ?_;go_frame
 refine AnyT.tD (i:=5) (v:=.pointer (some ⟨fb,0,none⟩)) rfl rfl (by rintro w' ⟨q0,q1,q2,q3⟩;go_simp) (HS.out _ HBD.out) ?_;go_frame
 refine AnyT.tD (i:=6) (v:=.slice pa pn pc) rfl rfl (by rintro w' ⟨q0,q1,q2,q3⟩;go_simp) (HS.out _ HBD.out) ?_;go_frame
 refine AnyT.tD (i:=7) (v:=.pointer (some ⟨fb,1,none⟩)) rfl rfl (by rintro w' ⟨q0,q1,q2,q3⟩;go_simp) (HS.out _ HBD.out) ?_;go_frame
 refine AnyT.tD (i:=8) (v:=.slice va vn vc) rfl rfl (by rintro w' ⟨q0,q1,q2,q3⟩;go_simp) (HS.out _ HBD.out) ?_;go_frame
 refine AnyT.nx (i:=9) rfl ?_
 go_wp2_with (go_at_call 162;refine(HSP.out _ (zAA HBZ.out HBD.out)).mono ?_;rintro e w5 ⟨g,rfl,hg,hr,hb5⟩;refine Stop.of ?_)
 refine Stop.go ?_
 have HB5:=hid (zAA HBD.out hb5)
 have HRB:=hid hr
 have HGS:=hid (show w.heap.size<=g by have:=HBZ.out.size;have:=HBD.out.size;omega)
 clear hb5 hr hg
 go_wp2
 refine⟨fun _=>HS.out _ HB5.out,?_⟩
 refine AnyT.nx (i:=10) rfl ?_
 go_wp2
 refine⟨fun _=>HS.out _ HB5.out,?_⟩
 refine AnyT.done (by kernel_rfl) ?_ _
 go_wp2
 go_ret
 exact⟨g,rfl,HGS.out,HRB.out,zAA HBZ.out HB5.out⟩
def CorP(M:Mask)(Y:List Int)(e:Ending)(w':World):Prop:=∃ca c,e=.returned (.tuple #[.slice ca (zCZ M Y).length c,.int .i64 (valE M Y).2])∧(zCZ M Y).length<=11264∧zGY w' ca (zCZ M Y)
theorem dcorners_c(w:World)(a a2:Option Addr)(n cap n2 cap2:Nat)(M:Mask)(Y:List Int)(hn:M.length=n)(hn2:Y.length=n2)(hm:n<=maxLen)(hm2:n2<=maxLen)(H:zAM w a M)(H2:zAI w a2 Y):
 Calls Tryz.prog 37 #[.slice a n cap,.slice a2 n2 cap2] w fun e w'=>CorP M Y e w'∧Below w.heap.size w w':=by
 have HAS:=hid (fun(X:World) (hX:Below w.heap.size w X)=>zOY X a a2 n cap n2 cap2 M Y hn hn2 hm hm2 (H.below hX) (H2.below hX))
 by_cases hv:(valE M Y).2=0
 rotate_left
 ·have HC0:=hid (show zCZ M Y=[]by unfold zCZ;rw[if_neg hv])
  obtain⟨F,hF⟩:=exq ((valE M Y).2)
  have HAS0:=hid (fun(X:World) (hX:Below w.heap.size w X)=>show Calls Tryz.prog 73 #[.slice a n cap,.slice a2 n2 cap2] X fun e w'=>e=.returned (.tuple #[.agg #[.slice none 0 0,.slice none 0 0,.int .i64 0,.int .i64 0,.slice none 0 0],.int .i64 F])∧Below X.heap.size X w' from by
   refine(HAS.out X hX).mono ?_
   rintro e w' ⟨hb,⟨h0,he⟩|⟨h0,h1,he⟩|⟨h0,h1,_⟩⟩
   ·refine⟨?_,hb⟩
    rw[he,hF];unfold valE;rw[if_pos h0]
   ·refine⟨?_,hb⟩
    rw[he,hF];unfold valE;rw[if_neg (fun h=>h h0),if_pos h1]
   ·exfalso;apply hv;unfold valE;rw[if_neg (fun h=>h h0),if_neg h1])
  have HPP:=hid (show ∀e w',e=.returned (.tuple #[.slice none 0 0,.int .i64 F])->CorP M Y e w' from fun e w' he=>⟨none,0,by rw[HC0.out,<- hF];exact he,by rw[HC0.out];simp,by rw[HC0.out];exact fun j hj=>by simp at hj⟩)
  clear hn hn2 H H2 hv hF HAS
  go_enter Tryz.func37,Tryz.ntmps37
  go_upto_region 2 with (go_at_call 73;refine(HAS0.out _ (Below.refl _ _)).mono ?_;rintro e w1 ⟨rfl,hb1⟩;have HB1:=hid hb1;clear hb1;refine Stop.of ?_)
  refine Stop.go ?_
  go_upto_region 2 with fail
  obtain⟨ab,hab⟩:=exq (w1.heap.size)
  obtain⟨wa,hwa⟩:=exq (w1.alloc (.cells #[.slice none 0 0,.slice none 0 0,.int .i64 0,.int .i64 0,.slice none 0 0] 89))
  rw[<- hab,<- hwa]
  have A0:AnsB wa ab (.slice none 0 0) (.slice none 0 0) (0,0) (.slice none 0 0):=by rw[hwa,hab];exact World.alloc_heap_new _ _
  have HBA:=hid (show Below w.heap.size w wa by rw[hwa];exact HB1.out.alloc HB1.out.size _)
  obtain⟨_,_,_,_,c4,_⟩:=A0.cells
  clear A0 hwa hab
  go_wp2
  go_loopw [8,20] (fun v i wr=>v=.slice none 0 0∧i=.int .i64 0∧wr=wa) (fun _ _ _=>0)
  case atStart=>exact⟨rfl,rfl,rfl⟩
  case round=>
   obtain⟨rfl,rfl,rfl⟩:=hrel
   go_wp2
   go_ret2
   exact⟨HPP.out _ _ rfl,HBA.out⟩
 obtain⟨hr0,ho⟩:=val_err hv
 obtain⟨hok,hyl,hmil⟩:=zOK hr0
 obtain⟨hM,h1,h6,hc1,hc10⟩:=zCW hok
 obtain⟨C,hC⟩:=exq (zDZ M Y)
 have hce:zCZ M Y=C.map (sprF (zAE M)):=by unfold zCZ;rw[if_pos hv,hC]
 have HAS1:=hid (fun(X:World) (hX:Below w.heap.size w X)=>show Calls Tryz.prog 73 #[.slice a n cap,.slice a2 n2 cap2] X fun e w'=>(∃ca c,e=.returned (.tuple #[.agg #[.slice a n cap,.slice a2 n2 cap2,.int .i64 (valF M Y).1,.int .i64 (valF M Y).2,.slice ca C.length c],.int .i64 0])∧zEC w' ca C)∧Below X.heap.size X w' from by
  refine(HAS.out X hX).mono ?_
  rintro e w' ⟨hb,⟨h0,he⟩|⟨h0,h1,he⟩|⟨h0,h1,ca,c,he,hf⟩⟩
  ·exfalso;rw[zHE]at hr0;exact h0 hr0
  ·exfalso
   rcases zGJ hr0 with⟨_,k⟩|⟨k,_⟩
   ·rw[k]at hv;cases hv
   ·exact k h1
  ·rw[hC];exact⟨⟨ca,c,he,hf⟩,hb⟩)
 have HCF:=hid (fun(f:FitT) (hf:f∈C)=>show zCL (zAE M) f.1∧f.2.length=f.1.length∧f.1.length<=10 from by
  rw[hC]at hf
  have hf1:=((zOZ hr0).1 hf).1
  obtain⟨k1,k2,_⟩:=zDM hok hyl hmil hf1
  have:=(zEK (show f∈allF M Y by rw[zEX hc10];exact hf1)).2.2
  exact⟨k1,k2,by omega⟩)
 have hCl:C.length<=11264:=by
  have h2:C.length<=(zBH M Y 10).length:=by
   rw[hC];unfold zDZ
   rw[(zEH _).length_eq]
   exact zOF _
  have h3:=zDD M Y (zAE M) (min (min 10 (zAE M)) M.length+1)
  have h4:zBH M Y 10=zBO M Y (zAE M) (min (min 10 (zAE M)) M.length+1):=rfl
  rw[h4]at h2
  have h5:(min (min 10 (zAE M)) M.length+1)*2 ^ zAE M<=11*2 ^ 10:=Nat.mul_le_mul (by omega) (Nat.pow_le_pow_right (by decide) hc10)
  omega
 obtain⟨W,hW⟩:=exq (zAE M)
 obtain⟨vn,hvn⟩:=exq ((valF M Y).1)
 obtain⟨vd,hvd⟩:=exq ((valF M Y).2)
 have HPI:=hid (fun(X:World) (hX:Below w.heap.size w X) (us ur:Value) (f:FitT) (hd:HdF X us ur f) (hf:f∈C)=>qpicture_c X a n cap M W (.slice a2 n2 cap2) us ur f hn (by omega) hW (by omega) (by omega) (H.below hX) hd (by rw[hW];exact(HCF.out f hf).1) (HCF.out f hf).2.1 (HCF.out f hf).2.2 a2 n2 cap2 rfl)
 have HPP:=hid (show ∀ca c e w',e=.returned (.tuple #[.slice ca C.length c,.int .i64 0])->zGY w' ca (C.map (sprF W))->CorP M Y e w' from fun ca c e w' he hp=>⟨ca,c,by rw[hv,hce,List.length_map];exact he,by rw[hce,List.length_map];exact hCl,by rw[hce,<- hW];exact hp⟩)
 rw[<- hvn,<- hvd]at HAS1
 have HW10:=hid (show W<=10 by omega)
 have HCL:=hid hCl
 clear hn hn2 H H2 hv hr0 ho hok hyl hmil hM h1 h6 hc1 hc10 hC hce hW hvn hvd HAS HCF
 go_enter Tryz.func37,Tryz.ntmps37
 go_upto_region 2 with (go_at_call 73;refine(HAS1.out _ (Below.refl _ _)).mono ?_;rintro e w1 ⟨⟨ca,cc,rfl,hfa⟩,hb1⟩;have HB1:=hid hb1;have HFA:=hid hfa;clear hb1 hfa;refine Stop.of ?_)
 refine Stop.go ?_
 go_upto_region 2 with fail
 obtain⟨ab,hab⟩:=exq (w1.heap.size)
 obtain⟨X,hX⟩:=exq (w1.alloc (.cells #[.slice a n cap,.slice a2 n2 cap2,.int .i64 vn,.int .i64 vd,.slice ca C.length cc] 89))
 rw[<- hab,<- hX]
 have hA0:AnsB X ab (.slice a n cap) (.slice a2 n2 cap2) (vn,vd) (.slice ca C.length cc):=by rw[hX,hab];exact World.alloc_heap_new _ _
 have hB1X:Below w1.heap.size w1 X:=by rw[hX];exact(Below.refl _ _).alloc (Nat.le_refl _) _
 have HBX:=hid (zAA HB1.out hB1X)
 have HFX:=hid (HFA.out.below hB1X)
 have HA0:=hid hA0
 obtain⟨_,_,_,_,c4,_⟩:=hA0.cells
 clear hA0 hab hX hB1X
 go_wp2
 clear c4
 go_loopw [8,20] (fun v i wr=>∃k:Nat,k<=C.length∧i=.int .i64 k∧TabQ wr X.heap.size v ((C.map (sprF W)).take k)∧Below X.heap.size X wr) (fun _ i _=>C.length-(intOf i).toNat)
 case atStart=>exact⟨0,Nat.zero_le _,rfl,TabQ.nil _ _,Below.refl _ _⟩
 case round=>
  obtain⟨k,hk,rfl,hT,hbk⟩:=hrel
  by_cases hlt:k<C.length
  ·obtain⟨b,off,us,ur,rfl,hb,q0,q1,hd⟩:=HFX.out.hd hlt
   obtain⟨pa,pn,pc,va,vn',vc,rfl,rfl,_⟩:=id hd
   have q0':wr.cell? ⟨b,off+k*2,none⟩=some (.slice pa pn pc):=(hbk.cell (p:=⟨b,_,none⟩) hb).trans q0
   have q1':wr.cell? ⟨b,off+k*2+1,none⟩=some (.slice va vn' vc):=(hbk.cell (p:=⟨b,_,none⟩) hb).trans q1
   obtain⟨f,hf⟩:=exq (C[k])
   rw[<- hf]at hd
   have hfm:f∈C:=by rw[hf];exact List.getElem_mem hlt
   have HTK:=hid (show(C.map (sprF W)).take (k+1)=(C.map (sprF W)).take k++[sprF W f]by
    rw[List.take_succ_eq_append_getElem (by simp;exact hlt),List.getElem_map,hf])
   have i0:(0:Int)<=(k:Int):=by omega
   have i1:(k:Int)<(C.length:Int):=by omega
   have hk9:k<=11264:=by have:=HCL.out;omega
   have HD:=hid hd
   have HFM:=hid hfm
   have HTT:=hid hT
   have HBK:=hid hbk
   clear hd hf hfm hT hbk q0 q1 hb
   go_upto_region 6 with fail
   obtain⟨h,hh⟩:=exq (wr.heap.size)
   obtain⟨wh,hwh⟩:=exq (wr.alloc (.cells #[.slice pa pn pc,.slice va vn' vc] 73))
   rw[<- hh,<- hwh]
   have hbh:Below wr.heap.size wr wh:=by rw[hwh];exact(Below.refl _ _).alloc (Nat.le_refl _) _
   have hch:wh.heap[h]? =some (.cells #[.slice pa pn pc,.slice va vn' vc] 73 (0,0)):=by rw[hwh,hh];exact World.alloc_heap_new _ _
   have HBH:=hid (zAA HBK.out hbh)
   have HTH:=hid (HTT.out.below hbh)
   obtain⟨x0,x1,_⟩:=(HA0.out.keep (HBH.out.block _ HA0.out.lt)).cells
   have y0:wh.cell? ⟨h,0,none⟩=some (.slice pa pn pc):=by simp[World.cell?,hch]
   have y1:wh.cell? ⟨h,1,none⟩=some (.slice va vn' vc):=by simp[World.cell?,hch]
   have HDH:=hid (HD.out.below HBH.out)
   clear q0' q1' hh hwh hch hbh HTT HBK
   go_upto_region 7 with (go_at_call 99;refine(HPI.out _ (zAA HBX.out HBH.out) _ _ f HDH.out HFM.out).mono ?_;rintro e w3 ⟨g,rfl,hg,hrb,hb3⟩;refine Stop.of ?_)
   refine Stop.go ?_
   have hT3:=HTH.out.below hb3
   obtain⟨ta,tc,hte⟩:=hT3.slice
   subst hte
   obtain⟨xs,hoo,hoe⟩:=hT3
   have hq:((C.map (sprF W)).take k).length=k:=by simp;omega
   rw[hq]at hoo⊢
   have HRO:=hid (zEA.own (base:=X.heap.size) (hrb.own (sprF_len W f) (show W<=maxLen by have:=HW10.out;unfold maxLen;omega) (Nat.le_refl g)))
   have HOO:=hid hoo
   have HOE:=hid hoe
   have HQ:=hid hq
   have HB3:=hid (zAA HBH.out hb3)
   have HNW:=hid (zBK w3 (.slice (some ⟨g,0,none⟩) W W) 42)
   have M1:=hid (show k+1<=maxLen by unfold maxLen;omega)
   have M2:=hid (show(k+1)*24<=140737488355328 by omega)
   have M3:=hid (Nat.le_trans HB3.out.size (zBT w3 (.cells #[.slice (some ⟨g,0,none⟩) W W] 42)))
   have HONE:=hid (show ∀u∈[Value.slice (some ⟨g,0,none⟩) W W],u.oneCell'=true from fun u hu=>by simp at hu;subst hu;rfl)
   clear hoo hoe hq hb3 hrb hg x0 x1 y0 y1
   go_wp2_with (at_builtin;refine zAL _ rfl (.tmp 24) (.tmp 29) 54 rfl X.heap.size 42 (.slice none 0 0) 1 24 Tryz.underlying54 info_pics rfl (by decide) (.slice ta k tc) k xs rfl (HOO.out.alloc _) (some ⟨w3.heap.size,0,none⟩) 1 1 [.slice (some ⟨g,0,none⟩) W W] rfl rfl zBS HNW.out HONE.out M1.out M2.out M3.out ?_;intro a9 c9 w9 own9 g9;refine Stop.of ?_)
   refine Stop.go ?_
   have hb39:Below w3.heap.size w3 (w3.alloc (.cells #[.slice (some ⟨g,0,none⟩) W W] 42)):=(Below.refl _ _).alloc (Nat.le_refl _) _
   have HSN:=hid (TabQ.snoc (L:=(C.map (sprF W)).take k) (by rw[HQ.out];exact HOO.out) HOE.out hb39 (HRO.out.below hb39) g9 (by rw[HQ.out];exact own9))
   have HB9:=hid (show Below X.heap.size X w9 from(HB3.out.alloc HB3.out.size _).grown g9 M3.out (fun g hg=>(HOO.out.lt g hg).1))
   clear own9 g9 hb39
   go_wp2
   refine⟨⟨k+1,by omega,by go_num,?_,HB9.out⟩,by simp[intOf];omega⟩
   rw[HTK.out];exact HSN.out
  ·obtain rfl:k=C.length:=by omega
   rw[List.take_of_length_le (by simp)]at hT
   obtain⟨ta,tc,hte⟩:=hT.slice
   rw[List.length_map]at hte
   subst hte
   obtain⟨h1,h2,h3⟩:=hT.reads
   have HP3:=hid h3
   have HBK:=hid (zAA HBX.out hbk)
   have i1:¬((C.length:Int)<(C.length:Int)):=by omega
   clear hT hbk h1 h2 h3
   go_wp2
   go_ret2
   exact⟨HPP.out ta tc _ _ rfl HP3.out,HBK.out⟩
end
section
open Go.RowKit
def CornR(M:Mask)(Y:List Int)(e:Ending)(w':World):Prop:=
 (rdE M Y≠0∧e=.returned (.tuple #[.slice none 0 0,.int .i64 (rdE M Y)]))∨(rdE M Y=0∧zBH M Y 10=[]∧e=.returned (.tuple #[.slice none 0 0,.int .i64 10]))∨
   (rdE M Y=0∧zBH M Y 10≠[]∧∃a c,e=.returned (.tuple #[.slice a (zDZ M Y).length c,.int .i64 0])∧zEC w' a (zDZ M Y))
theorem cmpQ_S{f g:FitT}(hf:f.2.all zAJ=true)(hg:g.2.all zAJ=true):cmpI ((zEZ f.2).1*(zEZ g.2).2) ((zEZ g.2).1*(zEZ f.2).2)=cmpQ f g:=by
 have pf:=all_pos hf
 have pg:=all_pos hg
 obtain⟨e1,h1⟩:=nrmSQ_Q pf
 obtain⟨e2,h2⟩:=nrmSQ_Q pg
 exact cmp_same e1 e2 h1 h2 (zFQ pf _).1 (zFQ pg _).1
theorem ins_set{T:List FitT}{f:FitT}{p:Nat}(hp:p<T.length):
 ((T.take (p+1)++f::T.drop (p+1)).set (p+1) T[p]).set p f=T.take p++f::T.drop p:=by
 have h1:T.take (p+1)=T.take p++[T[p]]:=List.take_succ_eq_append_getElem hp
 have h2:T.drop p=T[p]::T.drop (p+1):=List.drop_eq_getElem_cons hp
 have hl:(T.take p).length=p:=by simp;omega
 rw[h1,h2]
 have e1:(T.take p++[T[p]]++f::T.drop (p+1)).set (p+1) T[p]=T.take p++[T[p]]++T[p]::T.drop (p+1):=by
  rw[List.set_append_right _ _ (by simp;omega)]
  rw[show p+1-(T.take p++[T[p]]).length=0 by simp;omega];rfl
 rw[e1,List.append_assoc,List.set_append_right _ _ (by omega),hl]
 simp
theorem ins_get{T:List FitT}{f:FitT}{p:Nat}(hp:p<T.length):(T.take (p+1)++f::T.drop (p+1))[p]? =some T[p]∧(T.take (p+1)++f::T.drop (p+1))[p+1]? =some f∧(T.take (p+1)++f::T.drop (p+1)).length=T.length+1:=by
 have hl:(T.take (p+1)).length=p+1:=by simp;omega
 refine⟨?_,?_,?_⟩
 ·rw[List.getElem?_append_left (by omega),List.getElem?_take,if_pos (by omega),List.getElem?_eq_getElem hp]
 ·rw[List.getElem?_append_right (by omega),hl];simp
 ·simp;omega
theorem refC_len:∀l:List FitT,(refC l).length<=l.length:=by
 intro l
 induction hn:l.length generalizing l with
 |zero=>
  have:l=[]:=List.length_eq_zero_iff.1 hn
  subst this;simp[refC]
 |succ n ih=>
  obtain⟨m,f,rfl⟩:∃m f,l=m++[f]:=⟨l.dropLast,l.getLast (by intro e;rw[e]at hn;simp at hn),(List.dropLast_concat_getLast _).symm⟩
  rw[zLO]
  have h1:=ih m (by simpa using hn)
  unfold stepR
  split
  ·simp
  ·rename_i g t e
   rw[e]at h1
   split
   ·omega
   ·split
    ·simp
    ·have:=(zFS f (g::t)).length_eq
     rw[this];simp at h1⊢;omega
theorem zHS(w:World)(a a2:Option Addr)(n cap n2 cap2:Nat)(M:Mask)(Y:List Int)(hn:M.length=n)(hn2:Y.length=n2)(hm:n<=maxLen)(hm2:n2<=maxLen)(H:zAM w a M)(H2:zAI w a2 Y):
 Calls Tryz.prog 86 #[.slice a n cap,.slice a2 n2 cap2] w fun e w'=>CornR M Y e w'∧Below w.heap.size w w':=by
 have HRD:=hid (r3Read_c w a a2 n cap n2 cap2 M Y hn hn2 hm hm2 H H2)
 by_cases h0:rdE M Y=0
 rotate_left
 ·have HP:=hid (show ∀e w',Below w.heap.size w w'->e=.returned (.tuple #[.slice none 0 0,.int .i64 (rdE M Y)])->CornR M Y e w'∧Below w.heap.size w w' from fun e w' h1 h2=>⟨.inl ⟨h0,h2⟩,h1⟩)
  have hne:(rdE M Y !=0)=true:=by simpa using h0
  obtain⟨E,hE⟩:=exq (rdE M Y)
  rw[<- hE]at HRD hne HP
  clear hn hn2 H H2 h0 hE
  go_enter Tryz.func86,Tryz.ntmps86
  go_wp2_with (go_at_call 71;refine HRD.out.mono ?_;rintro e w1 ⟨rfl,rfl⟩;refine Stop.of ?_)
  refine Stop.go ?_
  go_wp2
  go_ret2
  exact HP.out _ _ (Below.refl _ _) rfl
 obtain⟨hok,hyl,hmil⟩:=zOK h0
 obtain⟨hM,h1,h6,hc1,hc10⟩:=zCW hok
 rw[h0]at HRD
 have HAL:=hid (fun(X:World) (hX:Below w.heap.size w X)=>r4All_c X a a2 n cap n2 cap2 M Y hn hn2 hm hm2 (H.below hX) (H2.below hX) hok)
 rw[zEX hc10]at HAL
 have HFV:=hid (fun(f:FitT) (hf:f∈zBH M Y 10)=>show f.2.length<=10∧f.2.all zAJ=true∧f.1.length<=10 from by
  obtain⟨k1,k2,k3,_⟩:=zDM hok hyl hmil hf
  have:=(zEK (show f∈allF M Y by rw[zEX hc10];exact hf)).2.2
  exact⟨by omega,k3,by omega⟩)
 have HRC:=hid (fun k=>refC_eq ((zBH M Y 10).take k) (fun f hf=>zFT hok hyl hmil f (List.mem_of_mem_take hf)) (((zHK (y:=Y) hok).sublist ((List.take_sublist k _).map _))))
 have HND:=hid (zHK (y:=Y) hok)
 have HCF:=hid (show refC (zBH M Y 10)=zDZ M Y from(refC_eq (zBH M Y 10) (fun f hf=>zFT hok hyl hmil f hf) (zHK hok)).1)
 have HCN:=hid (fun h=>corn_ne h0 h)
 have HP0:=hid (show ∀e w',Below w.heap.size w w'->zBH M Y 10=[]->e=.returned (.tuple #[.slice none 0 0,.int .i64 10])->CornR M Y e w'∧Below w.heap.size w w' from fun e w' h1 h2 h3=>⟨.inr (.inl ⟨h0,h2,h3⟩),h1⟩)
 have HP1:=hid (show ∀e w',Below w.heap.size w w'->zBH M Y 10≠[]->(∃a c,e=.returned (.tuple #[.slice a (zDZ M Y).length c,.int .i64 0])∧zEC w' a (zDZ M Y))->CornR M Y e w'∧Below w.heap.size w w' from fun e w' h1 h2 h3=>⟨.inr (.inr ⟨h0,h2,h3⟩),h1⟩)
 obtain⟨F,hF⟩:=exq (zBH M Y 10)
 obtain⟨C,hC⟩:=exq (zDZ M Y)
 rw[<- hF]at HAL HFV HRC HND HCF HCN HP0 HP1
 rw[<- hC]at HCF HCN HP1
 have HFL:=hid (show F.length<=11264 by
  rw[hF]
  have h3:=zDD M Y (zAE M) (min (min 10 (zAE M)) M.length+1)
  have h4:zBH M Y 10=zBO M Y (zAE M) (min (min 10 (zAE M)) M.length+1):=rfl
  rw[h4]
  have h5:(min (min 10 (zAE M)) M.length+1)*2 ^ zAE M<=11*2 ^ 10:=Nat.mul_le_mul (by omega) (Nat.pow_le_pow_right (by decide) hc10)
  omega)
 clear hn hn2 H H2 h0 hok hyl hmil hM h1 h6 hc1 hc10 hF hC
 go_enter Tryz.func86,Tryz.ntmps86
 go_wp2_with (go_at_call 71;refine HRD.out.mono ?_;rintro e w1 ⟨rfl,rfl⟩;refine Stop.of ?_)
 refine Stop.go ?_
 go_wp2_with (go_at_call 157;refine(HAL.out _ (Below.refl _ _)).mono ?_;rintro e X ⟨vF,base,rfl,hbase,hFO,hbX⟩;refine Stop.of ?_)
 refine Stop.go ?_
 obtain⟨fa,fc,rfl,hFm,hFA⟩:=hFO.reads
 have HFA:=hid hFA
 have HBX:=hid hbX
 clear hFO hFA hbX hbase
 go_wp2
 go_loopw [7,23] (fun v i wr=>∃k:Nat,k<=F.length∧i=.int .i64 k∧TabF X wr v (refC (F.take k))∧Below X.heap.size X wr) (fun _ i _=>F.length-(intOf i).toNat)
 case atStart=>exact⟨0,Nat.zero_le _,rfl,TabF.nil _ _,Below.refl _ _⟩
 case round=>
  obtain⟨k,hk,rfl,hT,hbk⟩:=hrel
  by_cases hlt:k<F.length
  ·obtain⟨wo,hwo⟩:=exq (wr)
   subst hwo
   obtain⟨b,off,us,ur,rfl,hb,q0,q1,hd⟩:=HFA.out.hd hlt
   obtain⟨pa,pn,pc,va,vn,vc,rfl,rfl,hpn,hpm,hpi,hvn,hvm,hvr⟩:=id hd
   have q0':wo.cell? ⟨b,off+k*2,none⟩=some (.slice pa pn pc):=(hbk.cell (p:=⟨b,_,none⟩) hb).trans q0
   have q1':wo.cell? ⟨b,off+k*2+1,none⟩=some (.slice va vn vc):=(hbk.cell (p:=⟨b,_,none⟩) hb).trans q1
   obtain⟨f,hf⟩:=exq (F[k])
   rw[<- hf]at hd hpn hpi hvn hvr
   have hfm:f∈F:=by rw[hf];exact List.getElem_mem hlt
   have hft:F.take (k+1)=F.take k++[f]:=by rw[hf];exact List.take_succ_eq_append_getElem hlt
   have hrc:refC (F.take (k+1))=stepR (refC (F.take k)) f:=by rw[hft,zLO]
   obtain⟨_,hasc,hmem,_⟩:=HRC.out k
   have hne:∀g∈refC (F.take k),g.1≠f.1:=fun g hg e=>by
    obtain⟨i,hi,rfl⟩:=List.mem_iff_getElem.1 (hmem g hg)
    have hik:i<k:=by simp at hi;omega
    rw[List.getElem_take]at e
    have h1:=List.pairwise_iff_getElem.1 HND.out i k (by simp;omega) (by simp;omega) hik
    simp only[List.getElem_map]at h1
    exact h1 (by rw[e,hf])
   have hTl:=refC_len (F.take k)
   have hTl2:(refC (F.take k)).length<=11264:=by
    have:=HFL.out
    simp at hTl;omega
   obtain⟨T,hTT⟩:=exq (refC (F.take k))
   rw[<- hTT]at hT hrc hasc hmem hne hTl2
   have hfv:=HFV.out f hfm
   have HFF:=hid hfv
   have HDF:=hid hd
   have HRR:=hid hrc
   have HAS:=hid hasc
   have HNE:=hid hne
   have HGV:=hid (fun g (hg:g∈T)=>HFV.out g (List.mem_of_mem_take (hmem g hg)))
   have HTT:=hid hT
   have HBK:=hid hbk
   have i1:(k:Int)<(F.length:Int):=by omega
   have hk9:k<=11264:=by have:=HFL.out;omega
   have i0:(0:Int)<=(k:Int):=by omega
   have HFR:=hid hvr
   have HVN:=hid hvn
   clear hd hpn hpm hpi hvn hvm hvr hf hfm hft hrc hasc hmem hne hTl hT hbk hfv hTT q0 q1 hb
   go_upto_region 8 with fail
   obtain⟨h,hh⟩:=exq (wo.heap.size)
   obtain⟨wh,hwh⟩:=exq (wo.alloc (.cells #[.slice pa pn pc,.slice va vn vc] 73))
   rw[<- hh,<- hwh]
   have hbh:Below wo.heap.size wo wh:=by rw[hwh];exact(Below.refl _ _).alloc (Nat.le_refl _) _
   have hch:wh.heap[h]? =some (.cells #[.slice pa pn pc,.slice va vn vc] 73 (0,0)):=by rw[hwh,hh];exact World.alloc_heap_new _ _
   have HCH:=hid (fun(Z:World) (hZ:Below wh.heap.size wh Z)=>show Z.cell? ⟨h,0,none⟩=some (.slice pa pn pc)∧Z.cell? ⟨h,1,none⟩=some (.slice va vn vc)from by
    have h1:=(hZ.block h (Array.getElem?_eq_some_iff.1 hch).1).trans hch
    exact⟨by simp[World.cell?,h1],by simp[World.cell?,h1]⟩)
   have HTH:=hid (HTT.out.below hbh)
   have HBH:=hid (zAA HBK.out hbh)
   clear q0' q1' hh hwh hbh hch HTT HBK
   obtain⟨ta,tc,rfl⟩:=HTH.out.slice
   rcases T with _|⟨g0,T1⟩
   ·have HIN:=hid (show refC (F.take (k+1))=insC f []from HRR.out)
    obtain⟨wg,hwg⟩:=exq (wh)
    subst hwg
    have HTG:=HTH
    have HBG:=HBH
    have HBW:=hid (Below.refl wg.heap.size wg)
    have HAT:=HAS
    have HNT:=HNE
    have HLT:=hid (show 0<=11264 by omega)
    go_upto_region 14 with fail
    -- the insertion:([]:List FitT)
    obtain⟨xs,hoo,hoe⟩:=HTG.out
    have hq':(([]:List FitT)).length=0:=rfl
    rw[hq']at hoo
    have HOO:=hid hoo
    have HOE:=hid hoe
    have HXL:=hid hoo.1
    have HQQ:=hid hq'
    clear hoo hoe hq'
    have HNW:=hid (news2 wg (.slice pa pn pc) (.slice va vn vc) 73)
    have M1:=hid (show 0+1<=maxLen by have:=HLT.out;unfold maxLen;omega)
    have M2:=hid (show(0+1)*48<=140737488355328 by have:=HLT.out;omega)
    have M3:=hid (Nat.le_trans HBG.out.size (zBT wg (.cells #[.slice pa pn pc,.slice va vn vc] 73)))
    have HONE:=hid (show ∀u∈[Value.slice pa pn pc,.slice va vn vc],u.oneCell'=true from fun u hu=>by simp at hu;rcases hu with rfl|rfl<;>rfl)
    obtain⟨y0,y1⟩:=HCH.out _ HBW.out
    go_wp2_with (at_builtin;refine zAL _ rfl (.tmp 45) (.tmp 47) 87 rfl X.heap.size 73 (.agg #[.slice none 0 0,.slice none 0 0]) 2 48 Tryz.underlying87 zHI rfl (by decide) (.slice ta 0 tc) 0 xs rfl (HOO.out.alloc _) (some ⟨wg.heap.size,0,none⟩) 1 1 [.slice pa pn pc,.slice va vn vc] rfl rfl zBS HNW.out HONE.out M1.out M2.out M3.out ?_;intro a9 c9 w9 own9 g9;refine Stop.of ?_)
    refine Stop.go ?_
    have HSN:=hid (TabF.snoc (t:=f) HQQ.out HXL.out HOE.out HDF.out own9)
    have HB9:=hid (show Below X.heap.size X w9 from(HBG.out.alloc HBG.out.size _).grown g9 M3.out (fun g hg=>(HOO.out.lt g hg).1))
    clear own9 g9 y0 y1
    go_wp2
    go_loopw [11] (fun i wx=>∃at_:Nat,at_<=0∧i=.int .i64 at_∧TabF X wx (.slice a9 (0+1) c9) ((([]:List FitT)).take at_++f::(([]:List FitT)).drop at_)∧Below X.heap.size X wx∧∀g∈(([]:List FitT)).drop at_,zAK f.1 g.1=true) (fun i _=>(intOf i).toNat)
    case atStart=>exact⟨0,Nat.le_refl _,rfl,by rw[List.take_of_length_le (by rw[HQQ.out];exact Nat.le_refl _),List.drop_of_length_le (by rw[HQQ.out];exact Nat.le_refl _)];exact HSN.out,HB9.out,fun g hg=>by rw[List.drop_of_length_le (by rw[HQQ.out];exact Nat.le_refl _)]at hg;cases hg⟩
    case round=>
     obtain⟨at_,hat,rfl,hTx,hbx,hlater⟩:=hrel
     rcases at_ with _|pq
     ·have hins:=ins_at (at_:=0) HAT.out HNT.out (Nat.zero_le _) hlater (.inl rfl)
      rw[hins,<- HIN.out]at hTx
      have HTX:=hid hTx
      have HBX2:=hid hbx
      clear hins hTx hbx hlater
      go_wp2
      refine zAF (fun j' _=>wAll j'=true->True) (by kernel_rfl) ?_
      refine AnyT.nx (i:=0) rfl ?_
      go_wp2
      refine⟨fun _=>trivial,?_⟩
      refine AnyT.nx (i:=1) rfl ?_
      go_wp2
      refine⟨fun _=>trivial,?_⟩
      refine AnyT.nx (i:=2) rfl ?_
      go_wp2
      refine⟨fun _=>trivial,?_⟩
      refine AnyT.tN (i:=3) rfl rfl trivial ?_;go_frame
      refine AnyT.tN (i:=4) rfl rfl trivial ?_;go_frame
      refine AnyT.tN (i:=5) rfl rfl trivial ?_;go_frame
      refine AnyT.tN (i:=6) rfl rfl trivial ?_;go_frame
      refine AnyT.tN (i:=7) rfl rfl trivial ?_;go_frame
      refine AnyT.tN (i:=8) rfl rfl trivial ?_;go_frame
      refine AnyT.tN (i:=9) rfl rfl trivial ?_;go_frame
      refine AnyT.tN (i:=10) rfl rfl trivial ?_;go_frame
      refine AnyT.tN (i:=11) rfl rfl trivial ?_;go_frame
      refine AnyT.tN (i:=12) rfl rfl trivial ?_;go_frame
      refine AnyT.tN (i:=13) rfl rfl trivial ?_;go_frame
      refine AnyT.tN (i:=14) rfl rfl trivial ?_;go_frame
      refine AnyT.nx (i:=15) rfl ?_
      go_wp2
      refine⟨fun _=>trivial,?_⟩
      refine AnyT.done (by kernel_rfl) ?_ _
      go_wp2
      exact⟨⟨k+1,by omega,by go_num,HTX.out.below ((Below.refl _ _).drew),HBX2.out.drew⟩,by simp[intOf];omega⟩
     ·exact absurd hat (by omega)
   ·obtain⟨gb,gc,gus,gur,egv,hgb,hglt,z0,z1,hgd,hgf,_⟩:=HTH.out.at (j:=0) (by simp)
    simp only[Value.slice.injEq]at egv
    obtain⟨rfl,_,rfl⟩:=egv
    obtain⟨ga,gn,gcc,gva,gvn,gvc,rfl,rfl,_,_,_,hgvn,_,hgvr⟩:=hgd
    simp only[List.getElem_cons_zero]at hgvn hgvr
    have hgv:=HGV.out g0 (by simp)
    have HS:=hid (fun(Z:World) (hZ:Below wh.heap.size wh Z)=>show Z.cell? ⟨h,1,none⟩=some (.slice va vn vc)∧Z.cell? ⟨gb,1,none⟩=some (.slice gva gvn gvc)from
     ⟨(HCH.out Z hZ).2,by have:=(hZ.cell (p:=⟨gb,0*2+1,none⟩) hglt).trans z1;simpa using this⟩)
    have HN1:=hid (fun(Z:World) (hZ:Below X.heap.size X Z)=>zOL Z va vn vc f.2 HVN.out (by have:=HFF.out.1;have:=HVN.out;omega) (HFR.out.below hZ) (fun j=>by obtain⟨x1,x2,x3,x4⟩:=zJI HFF.out.2.1 j;omega))
    have HN2:=hid (fun(Z:World) (hZ:Below X.heap.size X Z)=>zOL Z gva gvn gvc g0.2 hgvn (by have:=hgv.1;omega) (hgvr.below hZ) (fun j=>by obtain⟨x1,x2,x3,x4⟩:=zJI hgv.2.1 j;omega))
    have HCQ:=hid (cmpQ_S HFF.out.2.1 hgv.2.1)
    have HOR:=hid (fun(Z:World) (v u:Value) (h:RatV Z v 90 (zEZ f.2).1 (zEZ f.2).2) (k:RatV Z u 90 (zEZ g0.2).1 (zEZ g0.2).2)=>rorder_v Z v u 90 90 _ _ _ _ h k (by omega) (by omega))
    rw[HCQ.out]at HOR
    have HSR:=hid (show stepR (g0::T1) f=if 0<cmpQ f g0 then g0::T1 else if cmpQ f g0<0 then [f]else insC f (g0::T1)from rfl)
    obtain⟨cv,hcv⟩:=exq (cmpQ f g0)
    rw[<- hcv]at HOR HSR
    have HGLT:=hid hglt
    have hlen:(g0::T1).length=T1.length+1:=rfl
    have HLE:=hid hlen
    obtain⟨Q,hQ⟩:=exq ((g0::T1).length)
    have hQ1:1<=Q:=by omega
    have HQ:=hid hQ
    rw[<- hQ]at hTl2
    clear hgb hglt z0 z1 hgf hgvn hgvr hgv hcv hlen HCQ
    rw[show ∀(ta:Option Addr) (tc:Nat),(Value.slice ta (g0::T1).length tc)=.slice ta Q tc from fun _ _=>by rw[hQ]]
    have iQ:(0:Int)<(Q:Int):=by omega
    clear hQ
    go_upto_region 9 with fail
    refine zAF (fun j' Z=>wAll j'=true->Z.cell? ⟨h,1,none⟩=some (.slice va vn vc)∧Z.cell? ⟨gb,1,none⟩=some (.slice gva gvn gvc)) (by kernel_rfl) ?_
    have hbd:Below wh.heap.size wh wh.drew:=(Below.refl _ _).drew
    generalize wh.drew=wd at hbd⊢
    refine AnyT.tD (i:=0) (v:=.pointer (some ⟨h,1,none⟩)) rfl rfl (by rintro w' ⟨y1,y2⟩;go_simp) (HS.out _ hbd) ?_;go_frame
    refine AnyT.tD (i:=1) (v:=.slice va vn vc) rfl rfl (by rintro w' ⟨y1,y2⟩;go_simp) (HS.out _ hbd) ?_;go_frame
    refine AnyT.tD (i:=3) (v:=.slice (some ⟨gb,0,none⟩) Q tc) rfl rfl (by rintro w' ⟨y1,y2⟩;go_simp) (HS.out _ hbd) ?_;go_frame
    refine AnyT.tD (i:=4) (v:=.pointer (some ⟨gb,0,none⟩)) rfl rfl (by rintro w' ⟨y1,y2⟩;go_simp) (HS.out _ hbd) ?_;go_frame
    refine AnyT.tD (i:=5) (v:=.pointer (some ⟨gb,1,none⟩)) rfl rfl (by rintro w' ⟨y1,y2⟩;go_simp) (HS.out _ hbd) ?_;go_frame
    refine AnyT.tD (i:=6) (v:=.slice gva gvn gvc) rfl rfl (by rintro w' ⟨y1,y2⟩;go_simp) (HS.out _ hbd) ?_;go_frame
    refine AnyT.nx (i:=2) rfl ?_
    go_wp2_with (go_at_call 87;refine(HN1.out _ (zAA HBH.out hbd)).mono ?_;rintro e w4 ⟨v4,rfl,hv4,hb4⟩;refine Stop.of ?_)
    refine Stop.go ?_
    obtain⟨ps,pa',pk,pc',pb,pm,pe,rfl,_⟩:=hv4.agg
    have HB4:=hid (zAA hbd hb4)
    have HV4:=hid hv4
    clear hv4 hb4
    go_wp2
    refine⟨fun _=>HS.out _ HB4.out,?_⟩
    refine AnyT.nx (i:=7) rfl ?_
    go_wp2_with (go_at_call 87;refine(HN2.out _ (zAA HBH.out HB4.out)).mono ?_;rintro e w5 ⟨v5,rfl,hv5,hb5⟩;refine Stop.of ?_)
    refine Stop.go ?_
    obtain⟨qs,qa,qk,qc,qb,qm,qe,rfl,_⟩:=hv5.agg
    have HB5:=hid (zAA HB4.out hb5)
    have HORR:=hid (HOR.out w5 _ _ (HV4.out.below hb5) hv5)
    clear hv5 hb5 HV4
    go_wp2
    refine⟨fun _=>HS.out _ HB5.out,?_⟩
    refine AnyT.nx (i:=8) rfl ?_
    go_wp2_with (go_at_call 21;refine HORR.out.mono ?_;rintro e wg ⟨rfl,hb6⟩;refine Stop.of ?_)
    refine Stop.go ?_
    have HBW:=hid (zAA HB5.out hb6)
    clear hb6
    go_wp2
    refine⟨fun _=>HS.out _ HBW.out,?_⟩
    refine AnyT.nx (i:=9) rfl ?_
    go_wp2
    refine⟨fun _=>HS.out _ HBW.out,?_⟩
    refine AnyT.done (by kernel_rfl) ?_ _
    have HTW:=hid (HTH.out.below HBW.out)
    have HBG:=hid (zAA HBH.out HBW.out)
    clear hbd
    by_cases c1:0<cv
    ·have HIN:=hid (show refC (F.take (k+1))=g0::T1 by rw[HRR.out,HSR.out,if_pos c1])
     go_wp2
     refine⟨⟨k+1,by omega,by go_num,?_,HBG.out⟩,by simp[intOf];omega⟩
     rw[HIN.out,HQ.out];exact HTW.out
    ·by_cases c2:cv<0
     ·have HIN:=hid (show refC (F.take (k+1))=insC f []by rw[HRR.out,HSR.out,if_neg c1,if_pos c2];rfl)
      have HTG:=hid (TabF.nil X wg)
      have HAT:=hid (show AscF []from List.Pairwise.nil)
      have HNT:=hid (show ∀g∈([]:List FitT),g.1≠f.1 from fun g hg=>by cases hg)
      have HLT:=hid (show 0<=11264 by omega)
      go_upto_region 14 with fail
      -- the insertion:([]:List FitT)
      obtain⟨xs,hoo,hoe⟩:=HTG.out
      have hq':(([]:List FitT)).length=0:=rfl
      rw[hq']at hoo
      have HOO:=hid hoo
      have HOE:=hid hoe
      have HXL:=hid hoo.1
      have HQQ:=hid hq'
      clear hoo hoe hq'
      have HNW:=hid (news2 wg (.slice pa pn pc) (.slice va vn vc) 73)
      have M1:=hid (show 0+1<=maxLen by have:=HLT.out;unfold maxLen;omega)
      have M2:=hid (show(0+1)*48<=140737488355328 by have:=HLT.out;omega)
      have M3:=hid (Nat.le_trans HBG.out.size (zBT wg (.cells #[.slice pa pn pc,.slice va vn vc] 73)))
      have HONE:=hid (show ∀u∈[Value.slice pa pn pc,.slice va vn vc],u.oneCell'=true from fun u hu=>by simp at hu;rcases hu with rfl|rfl<;>rfl)
      obtain⟨y0,y1⟩:=HCH.out _ HBW.out
      go_wp2_with (at_builtin;refine zAL _ rfl (.tmp 45) (.tmp 47) 87 rfl X.heap.size 73 (.agg #[.slice none 0 0,.slice none 0 0]) 2 48 Tryz.underlying87 zHI rfl (by decide) (.slice none 0 0) 0 xs rfl (HOO.out.alloc _) (some ⟨wg.heap.size,0,none⟩) 1 1 [.slice pa pn pc,.slice va vn vc] rfl rfl zBS HNW.out HONE.out M1.out M2.out M3.out ?_;intro a9 c9 w9 own9 g9;refine Stop.of ?_)
      refine Stop.go ?_
      have HSN:=hid (TabF.snoc (t:=f) HQQ.out HXL.out HOE.out HDF.out own9)
      have HB9:=hid (show Below X.heap.size X w9 from(HBG.out.alloc HBG.out.size _).grown g9 M3.out (fun g hg=>(HOO.out.lt g hg).1))
      clear own9 g9 y0 y1
      go_wp2
      go_loopw [11] (fun i wx=>∃at_:Nat,at_<=0∧i=.int .i64 at_∧TabF X wx (.slice a9 (0+1) c9) ((([]:List FitT)).take at_++f::(([]:List FitT)).drop at_)∧Below X.heap.size X wx∧∀g∈(([]:List FitT)).drop at_,zAK f.1 g.1=true) (fun i _=>(intOf i).toNat)
      case atStart=>exact⟨0,Nat.le_refl _,rfl,by rw[List.take_of_length_le (by rw[HQQ.out];exact Nat.le_refl _),List.drop_of_length_le (by rw[HQQ.out];exact Nat.le_refl _)];exact HSN.out,HB9.out,fun g hg=>by rw[List.drop_of_length_le (by rw[HQQ.out];exact Nat.le_refl _)]at hg;cases hg⟩
      case round=>
       obtain⟨at_,hat,rfl,hTx,hbx,hlater⟩:=hrel
       rcases at_ with _|pq
       ·have hins:=ins_at (at_:=0) HAT.out HNT.out (Nat.zero_le _) hlater (.inl rfl)
        rw[hins,<- HIN.out]at hTx
        have HTX:=hid hTx
        have HBX2:=hid hbx
        clear hins hTx hbx hlater
        go_wp2
        refine zAF (fun j' _=>wAll j'=true->True) (by kernel_rfl) ?_
        refine AnyT.nx (i:=0) rfl ?_
        go_wp2
        refine⟨fun _=>trivial,?_⟩
        refine AnyT.nx (i:=1) rfl ?_
        go_wp2
        refine⟨fun _=>trivial,?_⟩
        refine AnyT.nx (i:=2) rfl ?_
        go_wp2
        refine⟨fun _=>trivial,?_⟩
        refine AnyT.tN (i:=3) rfl rfl trivial ?_;go_frame
        refine AnyT.tN (i:=4) rfl rfl trivial ?_;go_frame
        refine AnyT.tN (i:=5) rfl rfl trivial ?_;go_frame
        refine AnyT.tN (i:=6) rfl rfl trivial ?_;go_frame
        refine AnyT.tN (i:=7) rfl rfl trivial ?_;go_frame
        refine AnyT.tN (i:=8) rfl rfl trivial ?_;go_frame
        refine AnyT.tN (i:=9) rfl rfl trivial ?_;go_frame
        refine AnyT.tN (i:=10) rfl rfl trivial ?_;go_frame
        refine AnyT.tN (i:=11) rfl rfl trivial ?_;go_frame
        refine AnyT.tN (i:=12) rfl rfl trivial ?_;go_frame
        refine AnyT.tN (i:=13) rfl rfl trivial ?_;go_frame
        refine AnyT.tN (i:=14) rfl rfl trivial ?_;go_frame
        refine AnyT.nx (i:=15) rfl ?_
        go_wp2
        refine⟨fun _=>trivial,?_⟩
        refine AnyT.done (by kernel_rfl) ?_ _
        go_wp2
        exact⟨⟨k+1,by omega,by go_num,HTX.out.below ((Below.refl _ _).drew),HBX2.out.drew⟩,by simp[intOf];omega⟩
       ·exact absurd hat (by omega)
     ·have HIN:=hid (show refC (F.take (k+1))=insC f (g0::T1)by rw[HRR.out,HSR.out,if_neg c1,if_neg c2])
      have HTG:=HTW
      have HAT:=HAS
      have HNT:=HNE
      have HLT:=hid hTl2
      go_upto_region 14 with fail
      -- the insertion:(g0::T1)
      obtain⟨xs,hoo,hoe⟩:=HTG.out
      have hq':((g0::T1)).length=Q:=HQ.out.symm
      rw[hq']at hoo
      have HOO:=hid hoo
      have HOE:=hid hoe
      have HXL:=hid hoo.1
      have HQQ:=hid hq'
      clear hoo hoe hq'
      have HNW:=hid (news2 wg (.slice pa pn pc) (.slice va vn vc) 73)
      have M1:=hid (show Q+1<=maxLen by have:=HLT.out;unfold maxLen;omega)
      have M2:=hid (show(Q+1)*48<=140737488355328 by have:=HLT.out;omega)
      have M3:=hid (Nat.le_trans HBG.out.size (zBT wg (.cells #[.slice pa pn pc,.slice va vn vc] 73)))
      have HONE:=hid (show ∀u∈[Value.slice pa pn pc,.slice va vn vc],u.oneCell'=true from fun u hu=>by simp at hu;rcases hu with rfl|rfl<;>rfl)
      obtain⟨y0,y1⟩:=HCH.out _ HBW.out
      go_wp2_with (at_builtin;refine zAL _ rfl (.tmp 45) (.tmp 47) 87 rfl X.heap.size 73 (.agg #[.slice none 0 0,.slice none 0 0]) 2 48 Tryz.underlying87 zHI rfl (by decide) (.slice (some ⟨gb,0,none⟩) Q tc) Q xs rfl (HOO.out.alloc _) (some ⟨wg.heap.size,0,none⟩) 1 1 [.slice pa pn pc,.slice va vn vc] rfl rfl zBS HNW.out HONE.out M1.out M2.out M3.out ?_;intro a9 c9 w9 own9 g9;refine Stop.of ?_)
      refine Stop.go ?_
      have HSN:=hid (TabF.snoc (t:=f) HQQ.out HXL.out HOE.out HDF.out own9)
      have HB9:=hid (show Below X.heap.size X w9 from(HBG.out.alloc HBG.out.size _).grown g9 M3.out (fun g hg=>(HOO.out.lt g hg).1))
      clear own9 g9 y0 y1
      go_wp2
      go_loopw [11] (fun i wx=>∃at_:Nat,at_<=Q∧i=.int .i64 at_∧TabF X wx (.slice a9 (Q+1) c9) (((g0::T1)).take at_++f::((g0::T1)).drop at_)∧Below X.heap.size X wx∧∀g∈((g0::T1)).drop at_,zAK f.1 g.1=true) (fun i _=>(intOf i).toNat)
      case atStart=>exact⟨Q,Nat.le_refl _,rfl,by rw[List.take_of_length_le (by rw[HQQ.out];exact Nat.le_refl _),List.drop_of_length_le (by rw[HQQ.out];exact Nat.le_refl _)];exact HSN.out,HB9.out,fun g hg=>by rw[List.drop_of_length_le (by rw[HQQ.out];exact Nat.le_refl _)]at hg;cases hg⟩
      case round=>
       obtain⟨at_,hat,rfl,hTx,hbx,hlater⟩:=hrel
       rcases at_ with _|pq
       ·have hins:=ins_at (at_:=0) HAT.out HNT.out (Nat.zero_le _) hlater (.inl rfl)
        rw[hins,<- HIN.out]at hTx
        have HTX:=hid hTx
        have HBX2:=hid hbx
        clear hins hTx hbx hlater
        go_wp2
        refine zAF (fun j' _=>wAll j'=true->True) (by kernel_rfl) ?_
        refine AnyT.nx (i:=0) rfl ?_
        go_wp2
        refine⟨fun _=>trivial,?_⟩
        refine AnyT.nx (i:=1) rfl ?_
        go_wp2
        refine⟨fun _=>trivial,?_⟩
        refine AnyT.nx (i:=2) rfl ?_
        go_wp2
        refine⟨fun _=>trivial,?_⟩
        refine AnyT.tN (i:=3) rfl rfl trivial ?_;go_frame
        refine AnyT.tN (i:=4) rfl rfl trivial ?_;go_frame
        refine AnyT.tN (i:=5) rfl rfl trivial ?_;go_frame
        refine AnyT.tN (i:=6) rfl rfl trivial ?_;go_frame
        refine AnyT.tN (i:=7) rfl rfl trivial ?_;go_frame
        refine AnyT.tN (i:=8) rfl rfl trivial ?_;go_frame
        refine AnyT.tN (i:=9) rfl rfl trivial ?_;go_frame
        refine AnyT.tN (i:=10) rfl rfl trivial ?_;go_frame
        refine AnyT.tN (i:=11) rfl rfl trivial ?_;go_frame
        refine AnyT.tN (i:=12) rfl rfl trivial ?_;go_frame
        refine AnyT.tN (i:=13) rfl rfl trivial ?_;go_frame
        refine AnyT.tN (i:=14) rfl rfl trivial ?_;go_frame
        refine AnyT.nx (i:=15) rfl ?_
        go_wp2
        refine⟨fun _=>trivial,?_⟩
        refine AnyT.done (by kernel_rfl) ?_ _
        go_wp2
        exact⟨⟨k+1,by omega,by go_num,HTX.out.below ((Below.refl _ _).drew),HBX2.out.drew⟩,by simp[intOf];omega⟩
       ·have hp:pq<(g0::T1).length:=by rw[<- HQ.out];omega
        obtain⟨e1,e2,e3⟩:=ins_get (f:=f) hp
        obtain⟨L,hL⟩:=exq ((g0::T1).take (pq+1)++f::(g0::T1).drop (pq+1))
        have hns:(L.set (pq+1) (g0::T1)[pq]).set pq f=(g0::T1).take pq++f::(g0::T1).drop pq:=by rw[hL];exact ins_set hp
        have hgt:(g0::T1)[pq]? =some (g0::T1)[pq]:=List.getElem?_eq_getElem hp
        have hdr:(g0::T1).drop pq=(g0::T1)[pq]::(g0::T1).drop (pq+1):=List.drop_eq_getElem_cons hp
        obtain⟨g1,hg1⟩:=exq ((g0::T1)[pq])
        rw[<- hL]at e1 e2 e3
        rw[<- hg1]at e1 hns hgt hdr
        have HLI:=hid (fun(hv:zAK f.1 g1.1=false)=>show L=insC f (g0::T1)from by rw[hL];exact ins_at HAT.out HNT.out (by omega) hlater (.inr ⟨g1,hgt,hv⟩))
        have HLA:=hid (fun(hv:zAK f.1 g1.1=true)=>show ∀g∈(g0::T1).drop pq,zAK f.1 g.1=true from by
         intro g hg
         rw[hdr]at hg
         rcases List.mem_cons.1 hg with rfl|hg
         ·exact hv
         ·exact hlater g hg)
        rw[<- hL]at hTx
        have hLl:L.length=Q+1:=by rw[e3,HQ.out]
        have hp1:pq+1<L.length:=by omega
        have hp0:pq<L.length:=by omega
        have l1:L[pq+1]=f:=(List.getElem?_eq_some_iff.1 e2).2
        have l0:L[pq]=g1:=(List.getElem?_eq_some_iff.1 e1).2
        have HNS:=hid hns
        clear hns hgt hdr hlater hg1 e1 e2 e3 hL
        obtain⟨gb1,gc1,us1,ur1,ev1,hgx1,hgl1,z0,z1,hd1,hfz,_⟩:=hTx.at hp1
        obtain⟨gb2,gc2,us2,ur2,ev2,_,_,y0,y1,hd2,_,_⟩:=hTx.at hp0
        rw[l1]at hd1
        rw[l0]at hd2
        rw[hLl]at ev1 ev2
        simp only[Value.slice.injEq,true_and]at ev1 ev2
        obtain⟨rfl,rfl⟩:=ev1
        obtain⟨ev2,rfl⟩:=ev2
        simp only[Option.some.injEq,Addr.mk.injEq,and_true]at ev2
        subst ev2
        obtain⟨p1a,p1n,p1c,v1a,v1n,v1c,rfl,rfl,k1,k2,k3,k4,k5,k6⟩:=id hd1
        obtain⟨p2a,p2n,p2c,v2a,v2n,v2c,rfl,rfl,m1,m2,m3,m4,m5,m6⟩:=id hd2
        have HD1:=hid hd1
        have HD2:=hid hd2
        have HEA:=hid (fun(Z:World) (hZ:Below X.heap.size X Z)=>r5earlier_c Z p1a p2a p1n p1c p2n p2c f.1 g1.1 k1 m1 k2 m2 (k3.below hZ) (m3.below hZ))
        have HS:=hid (fun(Z:World) (hZ:Below wr.heap.size wr Z)=>show Z.cell? ⟨gb1,(pq+1)*2,none⟩=some (.slice p1a p1n p1c)∧Z.cell? ⟨gb1,pq*2,none⟩=some (.slice p2a p2n p2c)∧Z.cell? ⟨gb1,(pq+1)*2+1,none⟩=some (.slice v1a v1n v1c)∧Z.cell? ⟨gb1,pq*2+1,none⟩=some (.slice v2a v2n v2c)from
         ⟨(hZ.cell (p:=⟨gb1,_,none⟩) hgl1).trans z0,(hZ.cell (p:=⟨gb1,_,none⟩) hgl1).trans y0,(hZ.cell (p:=⟨gb1,_,none⟩) hgl1).trans z1,(hZ.cell (p:=⟨gb1,_,none⟩) hgl1).trans y1⟩)
        have HTX:=hid hTx
        have HBX2:=hid hbx
        have HGL:=hid hgl1
        have HLL:=hid hLl
        have HPX1:=hid hp1
        have HPX0:=hid hp0
        obtain⟨evb,hevb⟩:=exq (zAK f.1 g1.1)
        rw[<- hevb]at HEA HLI HLA
        clear hd1 hd2 k1 k2 k3 k4 k5 k6 m1 m2 m3 m4 m5 m6 hTx hbx hgl1 z0 z1 y0 y1 hLl hp1 hp0 l1 l0 hevb hp hfz hgx1
        have hpq9:pq<=11264:=by have:=HLT.out;omega
        have ipos:(0:Int)<((pq+1:Nat):Int):=by omega
        have ia:(0:Int)<=((pq+1:Nat):Int)∧((pq+1:Nat):Int)<((Q+1:Nat):Int):=by omega
        have ib:((pq+1:Nat):Int)-1=(pq:Int):=by omega
        have ic:(0:Int)<=(pq:Int)∧(pq:Int)<((Q+1:Nat):Int):=by omega
        have hpqQ:pq<Q:=by omega
        have ja:¬((pq:Int)+1<0):=by omega
        have jb:¬((Q:Int)+1<=(pq:Int)):=by omega
        have jc:(pq:Int)+1<(Q:Int)+1:=by omega
        have jd:(pq:Int)<(Q:Int)+1:=by omega
        have jw:IntKind.i64.wrap (pq:Int)=pq:=IntWalk.i64_in _ (by omega)
        go_wp2
        refine zAF (fun j' Z=>wAll j'=true->Z.cell? ⟨gb1,(pq+1)*2,none⟩=some (.slice p1a p1n p1c)∧Z.cell? ⟨gb1,pq*2,none⟩=some (.slice p2a p2n p2c)∧Z.cell? ⟨gb1,(pq+1)*2+1,none⟩=some (.slice v1a v1n v1c)∧Z.cell? ⟨gb1,pq*2+1,none⟩=some (.slice v2a v2n v2c)) (by kernel_rfl) ?_
        have hbd:Below wr.heap.size wr wr.drew:=(Below.refl _ _).drew
        generalize wr.drew=wd at hbd⊢
        have HBD:=hid hbd
        clear hbd
        refine AnyT.nx (i:=0) rfl ?_
        go_wp2
        refine⟨fun _=>HS.out _ HBD.out,?_⟩
        refine AnyT.nx (i:=1) rfl ?_
        go_wp2
        refine⟨fun _=>HS.out _ HBD.out,?_⟩
        refine AnyT.nx (i:=2) rfl ?_
        go_wp2
        refine⟨fun _=>HS.out _ HBD.out,?_⟩
        refine AnyT.tD (i:=3) (v:=.slice (some ⟨gb1,0,none⟩) (Q+1) c9) rfl rfl (by rintro w' ⟨q0,q1,q2,q3⟩;go_simp) (HS.out _ HBD.out) ?_;go_frame
        refine AnyT.tD (i:=4) (v:=.int .i64 ((pq+1:Nat):Int)) rfl rfl (by rintro w' ⟨q0,q1,q2,q3⟩;go_simp) (HS.out _ HBD.out) ?_;go_frame
        refine AnyT.tD (i:=5) (v:=.pointer (some ⟨gb1,(pq+1)*2,none⟩)) rfl rfl (by rintro w' ⟨q0,q1,q2,q3⟩;go_simp) (HS.out _ HBD.out) ?_;go_frame
        refine AnyT.tD (i:=6) (v:=.pointer (some ⟨gb1,(pq+1)*2,none⟩)) rfl rfl (by rintro w' ⟨q0,q1,q2,q3⟩;go_simp) (HS.out _ HBD.out) ?_;go_frame
        refine AnyT.tD (i:=7) (v:=.slice p1a p1n p1c) rfl rfl (by rintro w' ⟨q0,q1,q2,q3⟩;go_simp) (HS.out _ HBD.out) ?_;go_frame
        refine AnyT.tD (i:=8) (v:=.slice (some ⟨gb1,0,none⟩) (Q+1) c9) rfl rfl (by rintro w' ⟨q0,q1,q2,q3⟩;go_simp) (HS.out _ HBD.out) ?_;go_frame
        refine AnyT.tD (i:=9) (v:=.int .i64 ((pq+1:Nat):Int)) rfl rfl (by rintro w' ⟨q0,q1,q2,q3⟩;go_simp) (HS.out _ HBD.out) ?_;go_frame
        refine AnyT.tD (i:=10) (v:=.int .i64 (pq:Int)) rfl rfl (by rintro w' ⟨q0,q1,q2,q3⟩;go_simp) (HS.out _ HBD.out) ?_;go_frame
        refine AnyT.tD (i:=11) (v:=.pointer (some ⟨gb1,pq*2,none⟩)) rfl rfl (by rintro w' ⟨q0,q1,q2,q3⟩;go_simp) (HS.out _ HBD.out) ?_;go_frame
        refine AnyT.tD (i:=12) (v:=.pointer (some ⟨gb1,pq*2,none⟩)) rfl rfl (by rintro w' ⟨q0,q1,q2,q3⟩;go_simp) (HS.out _ HBD.out) ?_;go_frame
        refine AnyT.tD (i:=13) (v:=.slice p2a p2n p2c) rfl rfl (by rintro w' ⟨q0,q1,q2,q3⟩;go_simp) (HS.out _ HBD.out) ?_;go_frame
        refine AnyT.nx (i:=14) rfl ?_
        go_wp2_with (go_at_call 158;refine(HEA.out _ (zAA HBX2.out HBD.out)).mono ?_;rintro e wE ⟨rfl,hbE⟩;refine Stop.of ?_)
        refine Stop.go ?_
        have HBE:=hid (zAA HBD.out hbE)
        clear hbE
        go_wp2
        refine⟨fun _=>HS.out _ HBE.out,?_⟩
        refine AnyT.nx (i:=15) rfl ?_
        go_wp2
        refine⟨fun _=>HS.out _ HBE.out,?_⟩
        refine AnyT.done (by kernel_rfl) ?_ _
        have HTE:=hid (HTX.out.below HBE.out)
        have HBXE:=hid (zAA HBX2.out HBE.out)
        cases evb
        ·have HLE:=hid (HLI.out rfl)
         go_wp2
         refine⟨⟨k+1,by omega,by go_num,?_,HBXE.out⟩,by simp[intOf];omega⟩
         have ht:=HTE.out
         rw[HLE.out,<- HIN.out]at ht
         exact ht
        ·have HLA2:=hid (HLA.out rfl)
         obtain⟨r0,r1,r2,r3⟩:=HS.out _ HBE.out
         go_upto_region 17 with fail
         clear r0 r1 r2 r3
         obtain⟨bx,hbx⟩:=exq (wE.heap.size)
         obtain⟨wF,hwF⟩:=exq (wE.alloc (.cells #[.slice p1a p1n p1c,.slice v1a v1n v1c] 73))
         rw[<- hbx,<- hwF]
         have hEF:Below wE.heap.size wE wF:=by rw[hwF];exact(Below.refl _ _).alloc (Nat.le_refl _) _
         have hcx:wF.heap[bx]? =some (.cells #[.slice p1a p1n p1c,.slice v1a v1n v1c] 73 (0,0)):=by rw[hwF,hbx];exact World.alloc_heap_new _ _
         have hTF:=HTE.out.below hEF
         have HBF:=hid (zAA HBXE.out hEF)
         have hgl:gb1<wE.heap.size:=Nat.lt_of_lt_of_le HGL.out HBE.out.size
         have hbg:bx≠gb1:=by omega
         obtain⟨r0,r1,r2,r3⟩:=HS.out _ (zAA HBE.out hEF)
         have hTG:=hTF.put HPX1.out HD2.out
         obtain⟨gq,_,_,_,evq,_,_,_,_,_,hfq,_⟩:=hTF.at HPX1.out
         simp only[Value.slice.injEq,Option.some.injEq,Addr.mk.injEq,and_true]at evq
         obtain⟨rfl,_⟩:=evq
         have f0:=hfq ((pq+1)*2)
         have f1:=hfq ((pq+1)*2+1)
         have HTG:=hid hTG
         have HCX:=hid hcx
         have HBG2:=hid hbg
         have HGX:=hid (show X.heap.size<=gb1 from by
          obtain⟨gq,_,_,_,evq,hq,_⟩:=hTF.at HPX1.out
          simp only[Value.slice.injEq,Option.some.injEq,Addr.mk.injEq,and_true]at evq
          obtain⟨rfl,_⟩:=evq
          exact hq)
         clear hTG hcx hbg hTF hEF hwF hbx hgl hfq
         go_upto_region 18 with fail
         clear r0 r1 r2 r3 f0 f1
         obtain⟨wG,hwG⟩:=exq ((wF.setCell ⟨gb1,(pq+1)*2,none⟩ (.slice p2a p2n p2c)).setCell ⟨gb1,(pq+1)*2+1,none⟩ (.slice v2a v2n v2c))
         rw[<- hwG]
         have hTG:=HTG.out
         rw[<- hwG]at hTG
         have hcx:wG.heap[bx]? =some (.cells #[.slice p1a p1n p1c,.slice v1a v1n v1c] 73 (0,0)):=by
          rw[hwG,Below.heap_setCell _ _ _ _ HBG2.out,Below.heap_setCell _ _ _ _ HBG2.out];exact HCX.out
         have hBG:Below X.heap.size X wG:=by rw[hwG];exact zAB (zAB HBF.out HGX.out _ _) HGX.out _ _
         have x0:wG.cell? ⟨bx,0,none⟩=some (.slice p1a p1n p1c):=by simp[World.cell?,hcx]
         have x1:wG.cell? ⟨bx,1,none⟩=some (.slice v1a v1n v1c):=by simp[World.cell?,hcx]
         have hlg:pq<(L.set (pq+1) g1).length:=by rw[List.length_set];exact HPX0.out
         have hTH:=hTG.put hlg HD1.out
         obtain⟨gq,_,usq,urq,evq,_,_,r0,r1,_,hfq,_⟩:=hTG.at hlg
         simp only[Value.slice.injEq,Option.some.injEq,Addr.mk.injEq,and_true]at evq
         obtain⟨rfl,_⟩:=evq
         have f0:=hfq (pq*2)
         have f1:=hfq (pq*2+1)
         rw[HNS.out]at hTH
         have HTH2:=hid hTH
         have HBH2:=hid (zAB (zAB hBG HGX.out (pq*2) (.slice p1a p1n p1c)) HGX.out (pq*2+1) (.slice v1a v1n v1c))
         clear hcx hwG
         go_wp2
         exact⟨⟨pq,by omega,by go_num,HTH2.out,HBH2.out,HLA2.out⟩,by simp[intOf]<;>omega⟩
  ·obtain rfl:k=F.length:=by omega
   rw[List.take_of_length_le (Nat.le_refl _),HCF.out]at hT
   obtain⟨ca,cc,rfl,hcm,hca⟩:=hT.reads hbk
   have HCA:=hid hca
   have HBK:=hid (zAA HBX.out hbk)
   have i1:¬((F.length:Int)<(F.length:Int)):=by omega
   clear hT hbk hca
   by_cases hF0:F=[]
   ·have hC0:C.length=0:=by have:=HCF.out;rw[hF0]at this;rw[<- this];rfl
    rw[hC0]at hcm⊢
    have HF0:=hid hF0
    clear hF0 hC0 hlt
    go_wp2
    go_ret2
    exact HP0.out _ _ HBK.out HF0.out rfl
   ·have hC0:C≠[]:=HCN.out hF0
    have hCl:0<C.length:=List.length_pos_iff.2 hC0
    have hce:((C.length:Int)==0)=false:=by simp;omega
    have HF0:=hid hF0
    clear hF0 hC0 hlt
    go_wp2
    go_ret2
    exact HP1.out _ _ HBK.out HF0.out ⟨ca,cc,rfl,HCA.out⟩
end
section
open Go.RowKit
theorem CornR.val{M:Mask}{Y:List Int}{e:Ending}{w':World}(h:CornR M Y e w'):((valE M Y).2≠0∧e=.returned (.tuple #[.slice none 0 0,.int .i64 (valE M Y).2]))∨
 ((valE M Y).2=0∧rdE M Y=0∧zBH M Y 10≠[]∧valE M Y=(valF M Y,0)∧∃a c,e=.returned (.tuple #[.slice a (zDZ M Y).length c,.int .i64 0])∧zEC w' a (zDZ M Y)∧0<(zDZ M Y).length):=by
 rcases h with⟨h0,e1⟩|⟨h0,h1,e1⟩|⟨h0,h1,a,c,e1,h2⟩
 ·left
  have hv:valE M Y=((0,0),rdE M Y):=by unfold valE;rw[<- zHE,if_pos h0]
  rw[hv];exact⟨h0,e1⟩
 ·left
  rcases zGJ h0 with⟨_,hv⟩|⟨k,_⟩
  ·rw[hv];exact⟨by decide,e1⟩
  ·exact absurd h1 k
 ·right
  rcases zGJ h0 with⟨k,_⟩|⟨_,hv,_⟩
  ·exact absurd k h1
  ·exact⟨by rw[hv],h0,h1,hv,a,c,e1,h2,List.length_pos_iff.2 (corn_ne h0 h1)⟩
end
section
open Go.RowKit
theorem r4spread_c(w:World)(a:Option Addr)(n cap:Nat)(M:Mask)(W:Nat)(us ur:Value)(f:FitT)(hn:M.length=n)(h0:0<n)(hW:W=zAE M)(hW10:W<=10)(H:zAM w a M)(hd:HdF w us ur f)(hs:zCL W f.1)(hl:f.2.length=f.1.length)(hl10:f.1.length<=10):
 Calls Tryz.prog 100 #[.slice a n cap,.agg #[us,ur]] w fun e w'=>∃g,e=.returned (.slice (some ⟨g,0,none⟩) W W)∧w.heap.size<=g∧zBW w' g (sprF W f)∧Below w.heap.size w w':=by
 obtain⟨pa,pn,pc,va,vn,vc,rfl,rfl,k1,k2,k3,k4,k5,k6⟩:=hd
 obtain⟨b0,off0,ra0,rc0,rfl,hb0,hc0⟩:=zDV H (by omega)
 rw[<- hW]at hc0
 obtain⟨fb,hfb⟩:=exq (w.heap.size)
 obtain⟨wz,hwz⟩:=exq (w.alloc (.cells #[.slice pa pn pc,.slice va vn vc] 73))
 have hbz:Below w.heap.size w wz:=by rw[hwz];exact(Below.refl _ _).alloc (Nat.le_refl _) _
 have hfz:wz.heap[fb]? =some (.cells #[.slice pa pn pc,.slice va vn vc] 73 (0,0)):=by rw[hwz,hfb];exact World.alloc_heap_new _ _
 have HWZ:=hid hwz
 have HBZ:=hid hbz
 have HS:=hid (fun(Z:World) (hZ:Below wz.heap.size wz Z)=>show Z.cell? ⟨fb,0,none⟩=some (.slice pa pn pc)∧Z.cell? ⟨fb,1,none⟩=some (.slice va vn vc)∧Z.cell? ⟨b0,off0,none⟩=some (.slice ra0 W rc0)from by
  have h2:=(hZ.block fb (Array.getElem?_eq_some_iff.1 hfz).1).trans hfz
  exact⟨by simp[World.cell?,h2],by simp[World.cell?,h2],((zAA hbz hZ).cell (p:=⟨b0,off0,none⟩) hb0).trans hc0⟩)
 have HP:=hid (fun(Z:World) (hZ:Below wz.heap.size wz Z)=>And.intro (k3.below (zAA hbz hZ)) (k6.below (zAA hbz hZ)))
 have HPN:=hid k1
 have HVN:=hid k4
 have HLL:=hid hl
 have HSO:=hid hs
 have hpl:pn<=10:=by omega
 have hvp:vn=pn:=by omega
 subst hvp
 obtain⟨c0,c1,c2⟩:=HS.out wz (Below.refl _ _)
 have i0:(0:Int)<(n:Int):=by omega
 have hmk:=zGO W (by omega)
 obtain⟨w7,hw7⟩:=exq (wz.alloc (.cells (madeCells #[.int .i64 0,.int .i64 0] (W*2)) 29))
 obtain⟨g,hg⟩:=exq (wz.heap.size)
 have HRB0:=hid (show zBW w7 g (List.replicate W (0,0))by rw[hw7,hg];exact zOR wz W)
 have HB7:=hid (show Below g wz w7 by rw[hw7,hg];exact(Below.refl _ _).alloc (Nat.le_refl _) _)
 have HFS:=hid (show fb<wz.heap.size∧w.heap.size<=g from⟨(Array.getElem?_eq_some_iff.1 hfz).1,by rw[hg];exact hbz.size⟩)
 clear hn h0 hW H hs hl hl10 k1 k2 k3 k4 k5 k6 hb0 hc0 hwz hbz hfz
 go_enter Tryz.func100,Tryz.ntmps100
 go_upto_region 1 with fail
 rw[<- hfb,<- HWZ.out]
 clear hfb
 go_wp2_with fail
 rw[<- hg,<- hw7]
 have HG:=hid hg
 clear hg hw7 hmk
 go_wp2
 go_loopw [16] (fun i wr=>∃t:Nat,t<=W∧i=.int .i64 t∧zBW wr g (List.replicate t (0,1)++List.replicate (W-t) (0,0))∧Below wz.heap.size wz wr) (fun i _=>W-(intOf i).toNat)
 case atStart=>exact⟨0,Nat.zero_le _,rfl,by simpa using HRB0.out,by rw[<- HG.out];exact HB7.out⟩
 case round=>
  obtain⟨t,ht,rfl,hr,hbk⟩:=hrel
  by_cases hlt:t<W
  ·have hlen:(List.replicate t ((0,1):Rt)++List.replicate (W-t) (0,0)).length=W:=by simp;omega
   obtain⟨⟨z0,q0⟩,⟨z1,q1⟩,f0,f1⟩:(∃z,wr.cell? ⟨g,t*2,none⟩=some (.int .i64 z))∧(∃z,wr.cell? ⟨g,t*2+1,none⟩=some (.int .i64 z))∧wr.frozen? ⟨g,t*2,none⟩=false∧wr.frozen? ⟨g,t*2+1,none⟩=false:=by
    obtain⟨q0,q1,q2⟩:=hr.cells (k:=t) (by rw[hlen];exact hlt)
    exact⟨⟨_,q0⟩,⟨_,q1⟩,q2 _,q2 _⟩
   have hst:=hr.set (k:=t) (by rw[hlen];exact hlt) 0 1
   have e1:(List.replicate t ((0,1):Rt)++List.replicate (W-t) (0,0)).set t (0,1)=List.replicate (t+1) (0,1)++List.replicate (W-(t+1)) (0,0):=by
    rw[List.set_append_right _ _ (by simp),show W-t=W-(t+1)+1 by omega,List.replicate_succ (n:=W-(t+1)),List.replicate_succ' (n:=t)]
    simp
   rw[e1]at hst
   have hbe:Below wz.heap.size wz ((wr.setCell ⟨g,t*2,none⟩ (.int .i64 0)).setCell ⟨g,t*2+1,none⟩ (.int .i64 1)):=zAB (zAB hbk (by rw[HG.out];exact Nat.le_refl _) _ _) (by rw[HG.out];exact Nat.le_refl _) _ _
   have hgl:=hr.lt
   have HST:=hid hst
   have HBE:=hid hbe
   have i1:(t:Int)<(W:Int):=by omega
   clear hst hbe e1 hlen hr hbk
   go_wp2
   exact⟨⟨t+1,by omega,by go_num,HST.out,HBE.out⟩,by simp[intOf];omega⟩
  ·obtain rfl:t=W:=by omega
   rw[Nat.sub_self,List.replicate_zero,List.append_nil]at hr
   have HR:=hid hr
   have HBK:=hid hbk
   obtain⟨d0,d1,d2⟩:=HS.out _ hbk
   have i1:¬((t:Int)<(t:Int)):=by omega
   clear hr hbk c0 c1 c2
   go_wp2
   clear d0 d1 d2
   obtain⟨wo,hwo⟩:=exq (wr)
   subst hwo
   go_loopw [27] (fun i wx=>∃k:Nat,k<=vn∧i=.int .i64 k∧zBW wx g (zLL t f.1 f.2 k)∧Below wz.heap.size wz wx) (fun i _=>vn-(intOf i).toNat)
   case atStart=>exact⟨0,Nat.zero_le _,rfl,HR.out,HBK.out⟩
   case round=>
    obtain⟨k,hk,rfl,hr,hbk⟩:=hrel
    by_cases hlt:k<vn
    ·obtain⟨hp,hv⟩:=HP.out _ hbk
     have hkp:k<f.1.length:=by rw[HPN.out];exact hlt
     have hkv:k<f.2.length:=by rw[HVN.out];exact hlt
     obtain⟨pb,po,rfl,hpb,hpc⟩:=hp k hkp
     obtain⟨vb,vo,rfl,hvb,hv0,hv1⟩:=hv k hkv
     have e0:f.1[k]?.getD 0=f.1[k]:=by rw[List.getElem?_eq_getElem hkp];rfl
     rw[e0]at hpc
     have hbd:=HSO.out.2 _ (List.getElem_mem hkp)
     obtain⟨j,hj⟩:∃j:Nat,j=(f.1[k]).toNat:=⟨_,rfl⟩
     have hjv:f.1[k]=(j:Int):=by omega
     rw[hjv]at hpc
     have hjt:j<t:=by omega
     have hra:zAG f.2 k=f.2[k]:=by unfold zAG;rw[List.getElem?_eq_getElem hkv];rfl
     rw[<- hra]at hv0 hv1
     have hsu:zLL t f.1 f.2 (k+1)=(zLL t f.1 f.2 k).set j (zAG f.2 k):=by
      show(zLL t f.1 f.2 k).set (f.1[k]?.getD 0).toNat _=_
      rw[e0,<- hj]
     obtain⟨⟨rn,rd⟩,hrr⟩:∃r,r=zAG f.2 k:=⟨_,rfl⟩
     rw[<- hrr]at hv0 hv1 hsu
     have hst:=hr.set (k:=j) (by rw[zIB];exact hjt) rn rd
     rw[<- hsu]at hst
     obtain⟨⟨z0,q0⟩,⟨z1,q1⟩,f0,f1⟩:(∃z,wr.cell? ⟨g,j*2,none⟩=some (.int .i64 z))∧(∃z,wr.cell? ⟨g,j*2+1,none⟩=some (.int .i64 z))∧wr.frozen? ⟨g,j*2,none⟩=false∧wr.frozen? ⟨g,j*2+1,none⟩=false:=by
      obtain⟨q0,q1,q2⟩:=hr.cells (k:=j) (by rw[zIB];exact hjt)
      exact⟨⟨_,q0⟩,⟨_,q1⟩,q2 _,q2 _⟩
     have hbe:Below wz.heap.size wz ((wr.setCell ⟨g,j*2,none⟩ (.int .i64 rn)).setCell ⟨g,j*2+1,none⟩ (.int .i64 rd)):=zAB (zAB hbk (by rw[HG.out];exact Nat.le_refl _) _ _) (by rw[HG.out];exact Nat.le_refl _) _ _
     obtain⟨_,d1,_⟩:=HS.out _ hbk
     have hgl:=hr.lt
     have HST:=hid hst
     have HBE:=hid hbe
     have i1:(k:Int)<(vn:Int):=by omega
     have i2:(0:Int)<=(k:Int):=by omega
     have i3:(j:Int)<(t:Int):=by omega
     simp only[]at hv0 hv1
     clear hp hv hkp hkv e0 hbd hj hjv hra hsu hrr hst hr hbk hbe hpb hvb
     go_wp2
     exact⟨⟨k+1,by omega,by go_num,HST.out,HBE.out⟩,by simp[intOf];omega⟩
    ·obtain rfl:k=vn:=by omega
     have HR2:=hid (show zBW wr g (sprF t f)by unfold sprF;rw[HPN.out];exact hr)
     have HBK2:=hid (zAA HBZ.out hbk)
     have i2:¬((k:Int)<(k:Int)):=by omega
     clear hr hbk
     go_wp2
     go_ret
     exact⟨g,rfl,HFS.out.2,HR2.out,HBK2.out⟩
theorem r5Corners_c(w:World)(a a2:Option Addr)(n cap n2 cap2:Nat)(M:Mask)(Y:List Int)(hn:M.length=n)(hn2:Y.length=n2)(hm:n<=maxLen)(hm2:n2<=maxLen)(H:zAM w a M)(H2:zAI w a2 Y):
 Calls Tryz.prog 38 #[.slice a n cap,.slice a2 n2 cap2] w fun e w'=>CorP M Y e w'∧Below w.heap.size w w':=by
 have HCO:=hid (fun(X:World) (hX:Below w.heap.size w X)=>zHS X a a2 n cap n2 cap2 M Y hn hn2 hm hm2 (H.below hX) (H2.below hX))
 by_cases hv:(valE M Y).2=0
 rotate_left
 ·have hc0:zCZ M Y=[]:=by unfold zCZ;rw[if_neg hv]
  obtain⟨F,hF⟩:=exq ((valE M Y).2)
  have HCO0:=hid (fun(X:World) (hX:Below w.heap.size w X)=>show Calls Tryz.prog 86 #[.slice a n cap,.slice a2 n2 cap2] X fun e w'=>e=.returned (.tuple #[.slice none 0 0,.int .i64 F])∧Below X.heap.size X w' from by
   refine(HCO.out X hX).mono ?_
   rintro e w' ⟨hco,hb⟩
   rcases hco.val with⟨_,h⟩|⟨h,_⟩
   ·rw[hF];exact⟨h,hb⟩
   ·exact absurd h hv)
  have HPP:=hid (show ∀e w',e=.returned (.tuple #[.slice none 0 0,.int .i64 F])->CorP M Y e w' from fun e w' he=>⟨none,0,by rw[hc0,<- hF];exact he,by rw[hc0];simp,by rw[hc0];exact fun j hj=>by simp at hj⟩)
  have hne:(F !=0)=true:=by rw[hF];simpa using hv
  clear hn hn2 H H2 hv hF hc0 HCO
  go_enter Tryz.func38,Tryz.ntmps38
  go_wp2_with (go_at_call 86;refine(HCO0.out _ (Below.refl _ _)).mono ?_;rintro e w1 ⟨rfl,hb1⟩;have HB1:=hid hb1;clear hb1;refine Stop.of ?_)
  refine Stop.go ?_
  go_wp2
  go_ret2
  exact⟨HPP.out _ _ rfl,HB1.out⟩
 obtain⟨hr0,ho⟩:=val_err hv
 obtain⟨hok,hyl,hmil⟩:=zOK hr0
 obtain⟨hM,h1,h6,hc1,hc10⟩:=zCW hok
 obtain⟨C,hC⟩:=exq (zDZ M Y)
 have hce:zCZ M Y=C.map (sprF (zAE M)):=by unfold zCZ;rw[if_pos hv,hC]
 have HCO1:=hid (fun(X:World) (hX:Below w.heap.size w X)=>show Calls Tryz.prog 86 #[.slice a n cap,.slice a2 n2 cap2] X fun e w'=>(∃ca c,e=.returned (.tuple #[.slice ca C.length c,.int .i64 0])∧zEC w' ca C)∧Below X.heap.size X w' from by
  refine(HCO.out X hX).mono ?_
  rintro e w' ⟨hco,hb⟩
  rw[hC]
  rcases hco.val with⟨h,_⟩|⟨_,_,_,_,a,c,h1,h2,_⟩
  ·exact absurd hv h
  ·exact⟨⟨a,c,h1,h2⟩,hb⟩)
 have HCF:=hid (fun(f:FitT) (hf:f∈C)=>show zCL (zAE M) f.1∧f.2.length=f.1.length∧f.1.length<=10 from by
  rw[hC]at hf
  have hf1:=((zOZ hr0).1 hf).1
  obtain⟨k1,k2,_⟩:=zDM hok hyl hmil hf1
  have:=(zEK (show f∈allF M Y by rw[zEX hc10];exact hf1)).2.2
  exact⟨k1,k2,by omega⟩)
 have hCl:C.length<=11264:=by
  have h2:C.length<=(zBH M Y 10).length:=by
   rw[hC];unfold zDZ
   rw[(zEH _).length_eq]
   exact zOF _
  have h3:=zDD M Y (zAE M) (min (min 10 (zAE M)) M.length+1)
  have h4:zBH M Y 10=zBO M Y (zAE M) (min (min 10 (zAE M)) M.length+1):=rfl
  rw[h4]at h2
  have h5:(min (min 10 (zAE M)) M.length+1)*2 ^ zAE M<=11*2 ^ 10:=Nat.mul_le_mul (by omega) (Nat.pow_le_pow_right (by decide) hc10)
  omega
 obtain⟨W,hW⟩:=exq (zAE M)
 have HPI:=hid (fun(X:World) (hX:Below w.heap.size w X) (us ur:Value) (f:FitT) (hd:HdF X us ur f) (hf:f∈C)=>r4spread_c X a n cap M W us ur f hn (by omega) hW (by omega) (H.below hX) hd (by rw[hW];exact(HCF.out f hf).1) (HCF.out f hf).2.1 (HCF.out f hf).2.2)
 have HPP:=hid (show ∀ca c e w',e=.returned (.tuple #[.slice ca C.length c,.int .i64 0])->zGY w' ca (C.map (sprF W))->CorP M Y e w' from fun ca c e w' he hp=>⟨ca,c,by rw[hv,hce,List.length_map];exact he,by rw[hce,List.length_map];exact hCl,by rw[hce,<- hW];exact hp⟩)
 have HW10:=hid (show W<=10 by omega)
 have HCL:=hid hCl
 clear hn hn2 H H2 hv hr0 ho hok hyl hmil hM h1 h6 hc1 hc10 hC hce hW HCO HCF
 go_enter Tryz.func38,Tryz.ntmps38
 go_upto_region 2 with (go_at_call 86;refine(HCO1.out _ (Below.refl _ _)).mono ?_;rintro e X ⟨⟨ca,cc,rfl,hfa⟩,hb1⟩;have HBX:=hid hb1;have HFX:=hid hfa;clear hb1 hfa;refine Stop.of ?_)
 refine Stop.go ?_
 go_wp2
 go_loopw [8,22] (fun v i wr=>∃k:Nat,k<=C.length∧i=.int .i64 k∧TabQ wr X.heap.size v ((C.map (sprF W)).take k)∧Below X.heap.size X wr) (fun _ i _=>C.length-(intOf i).toNat)
 case atStart=>exact⟨0,Nat.zero_le _,rfl,TabQ.nil _ _,Below.refl _ _⟩
 case round=>
  obtain⟨k,hk,rfl,hT,hbk⟩:=hrel
  by_cases hlt:k<C.length
  ·obtain⟨b,off,us,ur,rfl,hb,q0,q1,hd⟩:=HFX.out.hd hlt
   obtain⟨pa,pn,pc,va,vn',vc,rfl,rfl,_⟩:=id hd
   have q0':wr.cell? ⟨b,off+k*2,none⟩=some (.slice pa pn pc):=(hbk.cell (p:=⟨b,_,none⟩) hb).trans q0
   have q1':wr.cell? ⟨b,off+k*2+1,none⟩=some (.slice va vn' vc):=(hbk.cell (p:=⟨b,_,none⟩) hb).trans q1
   obtain⟨f,hf⟩:=exq (C[k])
   rw[<- hf]at hd
   have hfm:f∈C:=by rw[hf];exact List.getElem_mem hlt
   have HTK:=hid (show(C.map (sprF W)).take (k+1)=(C.map (sprF W)).take k++[sprF W f]by
    rw[List.take_succ_eq_append_getElem (by simp;exact hlt),List.getElem_map,hf])
   have i0:(0:Int)<=(k:Int):=by omega
   have i1:(k:Int)<(C.length:Int):=by omega
   have hk9:k<=11264:=by have:=HCL.out;omega
   have HD:=hid hd
   have HFM:=hid hfm
   have HTT:=hid hT
   have HBK:=hid hbk
   clear hd hf hfm hT hbk q0 q1 hb
   go_upto_region 8 with fail
   obtain⟨h,hh⟩:=exq (wr.heap.size)
   obtain⟨wh,hwh⟩:=exq (wr.alloc (.cells #[.slice pa pn pc,.slice va vn' vc] 73))
   rw[<- hh,<- hwh]
   have hbh:Below wr.heap.size wr wh:=by rw[hwh];exact(Below.refl _ _).alloc (Nat.le_refl _) _
   have hch:wh.heap[h]? =some (.cells #[.slice pa pn pc,.slice va vn' vc] 73 (0,0)):=by rw[hwh,hh];exact World.alloc_heap_new _ _
   have HBH:=hid (zAA HBK.out hbh)
   have HTH:=hid (HTT.out.below hbh)
   have y0:wh.cell? ⟨h,0,none⟩=some (.slice pa pn pc):=by simp[World.cell?,hch]
   have y1:wh.cell? ⟨h,1,none⟩=some (.slice va vn' vc):=by simp[World.cell?,hch]
   have HDH:=hid (HD.out.below HBH.out)
   clear q0' q1' hh hwh hch hbh HTT HBK
   go_upto_region 9 with (go_at_call 100;refine(HPI.out _ (zAA HBX.out HBH.out) _ _ f HDH.out HFM.out).mono ?_;rintro e w3 ⟨g,rfl,hg,hrb,hb3⟩;refine Stop.of ?_)
   refine Stop.go ?_
   have hT3:=HTH.out.below hb3
   obtain⟨ta,tc,hte⟩:=hT3.slice
   subst hte
   obtain⟨xs,hoo,hoe⟩:=hT3
   have hq:((C.map (sprF W)).take k).length=k:=by simp;omega
   rw[hq]at hoo⊢
   have HRO:=hid (zEA.own (base:=X.heap.size) (hrb.own (sprF_len W f) (show W<=maxLen by have:=HW10.out;unfold maxLen;omega) (Nat.le_refl g)))
   have HOO:=hid hoo
   have HOE:=hid hoe
   have HQ:=hid hq
   have HB3:=hid (zAA HBH.out hb3)
   have HNW:=hid (zBK w3 (.slice (some ⟨g,0,none⟩) W W) 42)
   have M1:=hid (show k+1<=maxLen by unfold maxLen;omega)
   have M2:=hid (show(k+1)*24<=140737488355328 by omega)
   have M3:=hid (Nat.le_trans HB3.out.size (zBT w3 (.cells #[.slice (some ⟨g,0,none⟩) W W] 42)))
   have HONE:=hid (show ∀u∈[Value.slice (some ⟨g,0,none⟩) W W],u.oneCell'=true from fun u hu=>by simp at hu;subst hu;rfl)
   clear hoo hoe hq hb3 hrb hg y0 y1
   go_wp2_with (at_builtin;refine zAL _ rfl (.tmp 26) (.tmp 30) 54 rfl X.heap.size 42 (.slice none 0 0) 1 24 Tryz.underlying54 info_pics rfl (by decide) (.slice ta k tc) k xs rfl (HOO.out.alloc _) (some ⟨w3.heap.size,0,none⟩) 1 1 [.slice (some ⟨g,0,none⟩) W W] rfl rfl zBS HNW.out HONE.out M1.out M2.out M3.out ?_;intro a9 c9 w9 own9 g9;refine Stop.of ?_)
   refine Stop.go ?_
   have hb39:Below w3.heap.size w3 (w3.alloc (.cells #[.slice (some ⟨g,0,none⟩) W W] 42)):=(Below.refl _ _).alloc (Nat.le_refl _) _
   have HSN:=hid (TabQ.snoc (L:=(C.map (sprF W)).take k) (by rw[HQ.out];exact HOO.out) HOE.out hb39 (HRO.out.below hb39) g9 (by rw[HQ.out];exact own9))
   have HB9:=hid (show Below X.heap.size X w9 from(HB3.out.alloc HB3.out.size _).grown g9 M3.out (fun g hg=>(HOO.out.lt g hg).1))
   clear own9 g9 hb39
   go_wp2
   refine⟨⟨k+1,by omega,by go_num,?_,HB9.out⟩,by simp[intOf];omega⟩
   rw[HTK.out];exact HSN.out
  ·obtain rfl:k=C.length:=by omega
   rw[List.take_of_length_le (by simp)]at hT
   obtain⟨ta,tc,hte⟩:=hT.slice
   rw[List.length_map]at hte
   subst hte
   obtain⟨h1,h2,h3⟩:=hT.reads
   have HP3:=hid h3
   have HBK:=hid (zAA HBX.out hbk)
   have i1:¬((C.length:Int)<(C.length:Int)):=by omega
   clear hT hbk h1 h2 h3
   go_wp2
   go_ret2
   exact⟨HPP.out ta tc _ _ rfl HP3.out,HBK.out⟩
end
section
open Go.RowKit
theorem low_norm{x:List Rt}(h:x.all zAJ=true):lowE (zEZ x).1 (zEZ x).2=(if zAJ (zAQ (nrmQ x).1 (nrmQ x).2)=true then(zAQ (nrmQ x).1 (nrmQ x).2,true)else((0,0),false))∧0<(zEZ x).2:=by
 have hp:=all_pos h
 obtain⟨e,h1⟩:=nrmSQ_Q hp
 have h2:=(zFQ hp x.length).1
 have e2:zAQ (zEZ x).1 (zEZ x).2=zAQ (nrmQ x).1 (nrmQ x).2:=zGP h1 h2 e
 exact⟨by unfold lowE;rw[e2],h1⟩
end
section
open Go.RowKit
def zPA(M:Mask)(y:List Int):Nat:=if (valE M y).2=0 then(zDZ M y).length else 0
theorem zJT(M:Mask)(y:List Int):(valE M y).2≠0->zPA M y=0:=fun h=>by unfold zPA;rw[if_neg h]
theorem val_of_err{M:Mask}{Y:List Int}(h:zAZ M Y []≠0):valE M Y=((0,0),zAZ M Y []):=by unfold valE;rw[if_pos h]
theorem val_of_none{M:Mask}{Y:List Int}(h:zAZ M Y []=0)(h1:zBH M Y 10=[]):valE M Y=((0,0),10):=by unfold valE;rw[if_neg (fun k=>k h),if_pos h1]
theorem val_of_ok{M:Mask}{Y:List Int}(h:zAZ M Y []=0)(h1:¬zBH M Y 10=[]):valE M Y=(valF M Y,0):=by unfold valE;rw[if_neg (fun k=>k h),if_neg h1]
theorem dunique_c(w:World)(a a2:Option Addr)(n cap n2 cap2:Nat)(M:Mask)(Y:List Int)(hn:M.length=n)(hn2:Y.length=n2)(hm:n<=maxLen)(hm2:n2<=maxLen)(H:zAM w a M)(H2:zAI w a2 Y):
 Calls Tryz.prog 39 #[.slice a n cap,.slice a2 n2 cap2] w fun e w'=>e=.returned (.tuple #[.bool (decide (zPA M Y=1)),.int .i64 (valE M Y).2])∧Below w.heap.size w w':=by
 obtain⟨K,hK⟩:=exq (zPA M Y)
 obtain⟨F,hF⟩:=exq ((valE M Y).2)
 have HAS:=hid (show Calls Tryz.prog 73 #[.slice a n cap,.slice a2 n2 cap2] w fun e w'=>(∃p1 p2 p3 q1 q2 q3 s1 s3,∃r1 r2:Int,e=.returned (.tuple #[.agg #[.slice p1 p2 p3,.slice q1 q2 q3,.int .i64 r1,.int .i64 r2,.slice s1 K s3],.int .i64 F]))∧Below w.heap.size w w' from by
  refine(zOY w a a2 n cap n2 cap2 M Y hn hn2 hm hm2 H H2).mono ?_
  rintro e w' ⟨hb,⟨h0,he⟩|⟨h0,h1,he⟩|⟨h0,h1,ca,c,he,_⟩⟩
  ·have hv:=val_of_err h0
   have k0:K=0:=by rw[hK];exact zJT _ _ (by rw[hv];exact h0)
   have f0:F=zAZ M Y []:=by rw[hF,hv]
   exact⟨⟨_,_,_,_,_,_,_,_,_,_,by rw[he,k0,f0]⟩,hb⟩
  ·have hv:=val_of_none h0 h1
   have k0:K=0:=by rw[hK];exact zJT _ _ (by rw[hv];decide)
   have f0:F=10:=by rw[hF,hv]
   exact⟨⟨_,_,_,_,_,_,_,_,_,_,by rw[he,k0,f0]⟩,hb⟩
  ·have hv:=val_of_ok h0 h1
   have k0:K=(zDZ M Y).length:=by rw[hK];unfold zPA;rw[if_pos (by rw[hv])]
   have f0:F=0:=by rw[hF,hv]
   exact⟨⟨_,_,_,_,_,_,_,_,_,_,by rw[he,k0,f0]⟩,hb⟩)
 rw[<- hK,<- hF]
 clear hn hn2 H H2 hK hF
 go_enter Tryz.func39,Tryz.ntmps39
 go_upto_region 2 with (go_at_call 73;refine HAS.out.mono ?_;rintro e w1 ⟨⟨p1,p2,p3,q1,q2,q3,s1,s3,r1,r2,rfl⟩,hb1⟩;have HB1:=hid hb1;clear hb1;refine Stop.of ?_)
 refine Stop.go ?_
 go_upto_region 2 with fail
 obtain⟨ab,hab⟩:=exq (w1.heap.size)
 obtain⟨wa,hwa⟩:=exq (w1.alloc (.cells #[.slice p1 p2 p3,.slice q1 q2 q3,.int .i64 r1,.int .i64 r2,.slice s1 K s3] 89))
 rw[<- hab,<- hwa]
 have A0:AnsB wa ab (.slice p1 p2 p3) (.slice q1 q2 q3) (r1,r2) (.slice s1 K s3):=by rw[hwa,hab];exact World.alloc_heap_new _ _
 have HBA:=hid (show Below w.heap.size w wa by rw[hwa];exact HB1.out.alloc HB1.out.size _)
 obtain⟨_,_,_,_,c4,_⟩:=A0.cells
 clear A0 hwa hab
 by_cases h1:K=1
 ·have i1:((K:Int)==1)=true:=by simp;omega
  have i2:(K:Int)=1:=by omega
  go_wp2
  go_ret2
  exact⟨by simp[h1,i1,i2],HBA.out⟩
 ·have i1:((K:Int)==1)=false:=by simp;omega
  have i2:¬(K:Int)=1:=by omega
  go_wp2
  go_ret2
  exact⟨by simp[h1,i1,i2],HBA.out⟩
theorem r5unique_c(w:World)(a a2:Option Addr)(n cap n2 cap2:Nat)(M:Mask)(Y:List Int)(hn:M.length=n)(hn2:Y.length=n2)(hm:n<=maxLen)(hm2:n2<=maxLen)(H:zAM w a M)(H2:zAI w a2 Y):
 Calls Tryz.prog 40 #[.slice a n cap,.slice a2 n2 cap2] w fun e w'=>e=.returned (.tuple #[.bool (decide (zPA M Y=1)),.int .i64 (valE M Y).2])∧Below w.heap.size w w':=by
 obtain⟨K,hK⟩:=exq (zPA M Y)
 obtain⟨F,hF⟩:=exq ((valE M Y).2)
 have HAS:=hid (show Calls Tryz.prog 86 #[.slice a n cap,.slice a2 n2 cap2] w fun e w'=>(∃s1 s3,e=.returned (.tuple #[.slice s1 K s3,.int .i64 F]))∧Below w.heap.size w w' from by
  refine(zHS w a a2 n cap n2 cap2 M Y hn hn2 hm hm2 H H2).mono ?_
  rintro e w' ⟨hco,hb⟩
  rcases hco.val with⟨h0,he⟩|⟨h0,_,_,_,ca,c,he,_⟩
  ·have k0:K=0:=by rw[hK];exact zJT _ _ h0
   exact⟨⟨_,_,by rw[he,k0,hF]⟩,hb⟩
  ·have k0:K=(zDZ M Y).length:=by rw[hK];unfold zPA;rw[if_pos h0]
   exact⟨⟨_,_,by rw[he,k0,hF,h0]⟩,hb⟩)
 rw[<- hK,<- hF]
 clear hn hn2 H H2 hK hF
 go_enter Tryz.func40,Tryz.ntmps40
 go_upto_region 2 with (go_at_call 86;refine HAS.out.mono ?_;rintro e w1 ⟨⟨s1,s3,rfl⟩,hb1⟩;have HB1:=hid hb1;clear hb1;refine Stop.of ?_)
 refine Stop.go ?_
 by_cases h1:K=1
 ·have i1:((K:Int)==1)=true:=by simp;omega
  have i2:(K:Int)=1:=by omega
  go_wp2
  go_ret2
  exact⟨by simp[h1,i1,i2],HB1.out⟩
 ·have i1:((K:Int)==1)=false:=by simp;omega
  have i2:¬(K:Int)=1:=by omega
  go_wp2
  go_ret2
  exact⟨by simp[h1,i1,i2],HB1.out⟩
end
section
open Go.RowKit
theorem r5Value_c(w:World)(a a2:Option Addr)(n cap n2 cap2:Nat)(M:Mask)(Y:List Int)(hn:M.length=n)(hn2:Y.length=n2)(hm:n<=maxLen)(hm2:n2<=maxLen)(H:zAM w a M)(H2:zAI w a2 Y):
 Calls Tryz.prog 36 #[.slice a n cap,.slice a2 n2 cap2] w fun e w'=>e=.returned (.tuple #[ratV (valE M Y).1,.int .i64 (valE M Y).2])∧Below w.heap.size w w':=by
 obtain⟨s,hs⟩:=exq (w.heap.size)
 obtain⟨wz,hwz⟩:=exq (w.alloc (.cells #[.int .i64 0,.int .i64 0] 29))
 have hbz:Below w.heap.size w wz:=by rw[hwz];exact(Below.refl _ _).alloc (Nat.le_refl _) _
 have qa:RatI wz s (0,0):=by rw[hwz,hs];exact RatI.made w (0,0)
 have HQ:=hid (fun(Z:World) (hZ:Below wz.heap.size wz Z)=>qa.keep (hZ.block _ qa.lt))
 have HBZ:=hid hbz
 have HSW:=hid (show w.heap.size<=s by omega)
 have HCO:=hid (zHS wz a a2 n cap n2 cap2 M Y hn hn2 hm hm2 (H.below hbz) (H2.below hbz))
 by_cases hv:(valE M Y).2=0
 rotate_left
 ·have hv1:(valE M Y).1=(0,0):=by
   unfold valE
   split
   ·rfl
   ·rename_i h0
    split
    ·rfl
    ·rename_i h1
     exact absurd (by rw[val_of_ok (Classical.not_not.1 h0) h1]) hv
  rw[hv1]
  obtain⟨F,hF⟩:=exq ((valE M Y).2)
  have HCO0:=hid (show Calls Tryz.prog 86 #[.slice a n cap,.slice a2 n2 cap2] wz fun e w'=>e=.returned (.tuple #[.slice none 0 0,.int .i64 F])∧Below wz.heap.size wz w' from by
   refine HCO.out.mono ?_
   rintro e w' ⟨hco,hb⟩
   rcases hco.val with⟨_,h⟩|⟨h,_⟩
   ·exact⟨by rw[hF];exact h,hb⟩
   ·exact absurd h hv)
  have hnf:(F !=0)=true:=by rw[hF];simpa using hv
  rw[<- hF]
  clear hn hn2 H H2 hv hv1 hF hbz qa HCO
  go_enter Tryz.func36,Tryz.ntmps36
  go_upto_region 1 with fail
  rw[<- hs,<- hwz]
  clear hs hwz
  go_upto_region 2 with (go_at_call 86;refine HCO0.out.mono ?_;rintro e w2 ⟨rfl,hb2⟩;have HB2:=hid hb2;clear hb2;refine Stop.of ?_)
  refine Stop.go ?_
  have hR2:=HQ.out _ HB2.out
  obtain⟨r0,r1,r2,r3,r4⟩:=hR2.cells
  have X1:=hid (RatI.set (p:=(0,0)) hR2)
  have X2:=hid (zJD (zAA HBZ.out HB2.out) HSW.out (.int .i64 0) (.int .i64 0))
  clear hR2
  go_wp2
  clear r0 r1 r2 r3 r4
  generalize (w2.setCell ⟨s,0,none⟩ (.int .i64 0)).setCell ⟨s,1,none⟩ (.int .i64 0)=WF at X1 X2⊢
  obtain⟨t0,t1,t2,t3,t4⟩:=X1.out.cells
  refine bodyPost_ret (v:=.tuple #[.agg #[.int .i64 0,.int .i64 0],.int .i64 F]) ?_ rfl ⟨rfl,X2.out⟩
  simp[results,Tryz.results36,go_sem,t0,t1,t2,t3,t4]
 obtain⟨hr0,ho⟩:=val_err hv
 obtain⟨hok,hyl,hmil⟩:=zOK hr0
 obtain⟨C,hC⟩:=exq (zDZ M Y)
 have hvk:=ho.valid
 have hve:valE M Y=(valF M Y,0):=(val_ok hr0 hv).1
 have hcl:0<C.length:=by
  rw[hC]
  rcases zGJ hr0 with⟨_,k⟩|⟨k,_⟩
  ·rw[k]at hv;cases hv
  ·exact List.length_pos_iff.2 (corn_ne hr0 k)
 have HCO1:=hid (show Calls Tryz.prog 86 #[.slice a n cap,.slice a2 n2 cap2] wz fun e w'=>(∃a c,e=.returned (.tuple #[.slice a C.length c,.int .i64 0])∧zEC w' a C)∧Below wz.heap.size wz w' from by
  refine HCO.out.mono ?_
  rintro e w' ⟨hco,hb⟩
  rw[hC]
  rcases hco.val with⟨h,_⟩|⟨_,_,_,_,a,c,h1,h2,_⟩
  ·exact absurd hv h
  ·exact⟨⟨a,c,h1,h2⟩,hb⟩)
 obtain⟨g,hg⟩:=exq (C[0])
 have hgm:g∈zDZ M Y:=by rw[hg,<- hC];exact List.getElem_mem hcl
 obtain⟨hgf,hgv⟩:=(zOZ hr0).1 hgm
 obtain⟨_,glen,gval,_,gpos,_⟩:=zDM hok hyl hmil hgf
 have hg10:g.2.length<=10:=by
  have:=(zEK (show g∈allF M Y by rw[zEX (zCW hok).2.2.2.2];exact hgf)).2.2
  have:=(zCW hok).2.2.2.2
  omega
 obtain⟨hlow,hpos⟩:=low_norm gval
 have hrv:zAQ (nrmQ g.2).1 (nrmQ g.2).2=(valE M Y).1:=by rw[hve];exact hgv
 rw[hrv,if_pos hvk]at hlow
 have HLO:=hid (fun(Z:World) (v:Value) (hv:RatV Z v 90 (zEZ g.2).1 (zEZ g.2).2)=>lowest_v Z v 90 _ _ hv (by omega) hpos)
 rw[hlow]at HLO
 have HGV:=hid (zJI gval)
 have HG:=hid (show C[0]? =some g by rw[List.getElem?_eq_getElem hcl,hg])
 have HG10:=hid hg10
 rw[hv]
 obtain⟨⟨r1,r2⟩,hr⟩:∃r,r=(valE M Y).1:=⟨_,rfl⟩
 rw[<- hr]at HLO⊢
 simp only[ratV]at HLO⊢
 have HCL:=hid hcl
 clear hn hn2 H H2 hv hr0 ho hok hyl hmil hC hvk hve hcl hgm hgf hgv glen gval gpos hg10 hlow hpos hrv hr hbz qa HCO hg
 go_enter Tryz.func36,Tryz.ntmps36
 go_upto_region 1 with fail
 rw[<- hs,<- hwz]
 clear hs hwz
 go_upto_region 2 with (go_at_call 86;refine HCO1.out.mono ?_;rintro e w2 ⟨⟨ca,cc,rfl,hfa⟩,hb2⟩;have HB2:=hid hb2;have HFA:=hid hfa;clear hb2 hfa;refine Stop.of ?_)
 refine Stop.go ?_
 have hcl:=HCL.out
 obtain⟨cb,coff,us,ur,rfl,hcb,c0,c1',hd⟩:=HFA.out.hd hcl
 obtain⟨p1a,p1n,p1c,v1a,v1n,v1c,rfl,rfl,k1,k2,k3,k4,k5,k6⟩:=hd
 have e0:C[0]'hcl=g:=Option.some.inj (by rw[<- List.getElem?_eq_getElem hcl];exact HG.out)
 rw[e0]at k4 k6
 have c1:w2.cell? ⟨cb,coff+1,none⟩=some (.slice v1a v1n v1c):=by simpa using c1'
 have HNX:=hid (zOL w2 v1a v1n v1c g.2 k4 (by have:=HG10.out;omega) k6 (fun j=>by obtain⟨x1,x2,x3,x4⟩:=HGV.out j;omega))
 obtain⟨Q,hQ⟩:=exq (C.length)
 rw[<- hQ]at hcl⊢
 have iQ:(0:Int)<(Q:Int):=by omega
 have iQ2:¬Q=0:=by omega
 clear c0 c1' k1 k2 k3 k4 k5 k6 hcb hQ e0
 go_upto_region 5 with (go_at_call 87;refine HNX.out.mono ?_;rintro e w4 ⟨v4,rfl,hv4,hb4⟩;refine Stop.of ?_)
 refine Stop.go ?_
 obtain⟨ps,pa',pk,pc',pb,pm,pe,rfl,_⟩:=hv4.agg
 have HB4:=hid (zAA HB2.out hb4)
 have HL:=hid (HLO.out _ _ hv4)
 clear hv4 hb4 c1
 go_upto_region 5 with (go_at_call 94;refine HL.out.mono ?_;rintro e w5 ⟨rfl,hb5⟩;have HB5:=hid (zAA HB4.out hb5);clear hb5;refine Stop.of ?_)
 refine Stop.go ?_
 go_upto_region 5 with fail
 obtain⟨gg,hgg⟩:=exq (w5.heap.size)
 obtain⟨w6,hw6⟩:=exq (w5.alloc (.cells #[.int .i64 r1,.int .i64 r2] 29))
 rw[<- hgg,<- hw6]
 have hg6:RatI w6 gg (r1,r2):=by rw[hw6,hgg];exact RatI.made w5 (r1,r2)
 have HB6:=hid (show Below wz.heap.size wz w6 by rw[hw6];exact HB5.out.alloc HB5.out.size _)
 obtain⟨g0,g1,_⟩:=hg6.cells
 simp only[]at g0 g1
 have hR2:=HQ.out _ HB6.out
 obtain⟨s0,s1,s2,s3,s4⟩:=hR2.cells
 have X1:=hid (RatI.set (p:=(r1,r2)) hR2)
 have X2:=hid (zJD (zAA HBZ.out HB6.out) HSW.out (.int .i64 r1) (.int .i64 r2))
 clear hR2 hgg hw6 hg6
 go_wp2
 clear s0 s1 s2 s3 s4 g0 g1
 generalize (w6.setCell ⟨s,0,none⟩ (.int .i64 r1)).setCell ⟨s,1,none⟩ (.int .i64 r2)=WF at X1 X2⊢
 obtain⟨t0,t1,t2,t3,t4⟩:=X1.out.cells
 refine bodyPost_ret (v:=.tuple #[.agg #[.int .i64 r1,.int .i64 r2],.int .i64 0]) ?_ rfl ⟨rfl,X2.out⟩
 simp[results,Tryz.results36,go_sem,t0,t1,t2,t3,t4]
end
end Go.Proofs.YtlffndehhhpgjaaGreat

/- Walks and plain laws for DualFindsRow, part 19. -/
import Derived.Test.YtlffndehhhpgjaaGreatPkDualFindsRow18
namespace Go.Proofs.YtlffndehhhpgjaaGreat
set_option linter.unusedVariables false
set_option linter.unusedSimpArgs false
set_option maxRecDepth 100000
set_option maxHeartbeats 4000000
section
open Go.RowKit
theorem dfinds_c (w : World) (a : Option Addr) (n cap : Nat) (M : Mask) (hn : M.length = n) (hm : n <= maxLen) (H : zAK w a M) (a2 : Option Addr) (n2 cap2 : Nat) (x : List Int) (hn2 : x.length = n2) (hm2 : n2 <= maxLen) (H2 : zAH w a2 x) :
 Calls Tryz.prog 47 #[.slice a n cap, .slice a2 n2 cap2] w fun e w' => e = .returned (.tuple #[.bool (zFD M x).1, .int .i64 (zFD M x).2]) ∧ Below w.heap.size w w' := by
 obtain ⟨E, hE⟩ := exq (zFD M x)
 rw [<- hE]
 by_cases hs : zBW M x = 0
 rotate_left
 ·have HE2 := hid (show E = (false, zBW M x) by rw [hE]; unfold zFD; rw [if_neg hs])
  have HR := hid (mReadE_c w a n cap M hn hm H a2 n2 cap2 x hn2 hm2 H2 hs)
  have hne : (zBW M x != 0) = true := by simpa using hs
  obtain ⟨S, hS⟩ := exq (zBW M x)
  rw [<- hS] at HE2 HR hne
  clear hn H hn2 H2 hs hS hE
  go_enter Tryz.func47, Tryz.ntmps47
  go_wp2_with (go_at_call 104; refine HR.out.mono ?_; rintro e w1 ⟨rfl, hb1⟩)
  go_ret2
  exact ⟨by rw [HE2.out] <;> rfl, hb1⟩
 have HR := hid (mReadO_c w a n cap M hn hm H a2 n2 cap2 x hn2 hm2 H2 hs)
 obtain ⟨hok, hxl, hxm⟩ := zFR.1 hs
 have hrd := read_rd hs
 obtain ⟨Y, hY⟩ := exq (zDH M x)
 have hyl : Y.length = n := by rw [hY]; unfold zDH; rw [List.length_map]; exact hn
 have HCO := hid (fun (X : World) (hX : Below w.heap.size w X) (ya : Option Addr) (yc : Nat) (hy : zAH X ya Y) => dcorners_c X a ya n cap n yc M Y hn hyl hm hm (H.below hX) hy)
 have hEv : E = if milB Y = true then (decide (zCB M Y = [zII x]), 0) else (false, 10) := by rw [hE]; unfold zFD; rw [if_pos hs, <- hY]
 have hv0 : milB Y = true -> (valE M Y).2 = 0 := fun h => by rw [hY] at h ⊢; exact read_val hs h
 rw [<- hY] at HR hrd
 have HN := hid hn
 have HYN := hid hyl
 have HH := hid H
 have HI := hid H2
 have HXN := hid hn2
 have HXL := hid hxl
 have HOK := hid hok
 by_cases hmy : milB Y = true
 rotate_left
 ·have hmy' : milB Y = false := by simpa using hmy
  have HE2 := hid (show E = (false, 10) by rw [hEv, if_neg hmy])
  have HMZ := hid hmy'
  have HRDD := hid (show decide (rdE M Y = 0) = false from decide_eq_false (fun h => hmy (hrd.1 h)))
  clear hn H hn2 H2 hs hE hok hxl hxm hrd hY hyl hEv hv0 hmy hmy'
  go_enter Tryz.func47, Tryz.ntmps47
  go_wp2_with (go_at_call 104; refine HR.out.mono ?_; rintro e w1 ⟨⟨ya, yc, rfl, hyi⟩, hb1⟩; have HYI := hid hyi; have HB1 := hid hb1; clear hyi hb1; refine Stop.of ?_)
  refine Stop.go ?_
  go_wp2_with (go_at_call 106; refine (zPK _ 1000000).mono ?_; rintro e w2 ⟨q, rfl, hq, hqs, hb2⟩; refine Stop.of ?_)
  refine Stop.go ?_
  have HB2 := hid (zAA HB1.out hb2)
  have HB2X := hid hb2
  have HCF := hid (zHF w2 ya n yc Y HYN.out hm (HYI.out.below hb2) 167 #[.pointer (some ⟨q, 0, none⟩)] (fun n => !(inB n (-1000000) 1000000)) (enters_of Tryz.func167 (by kernel_rfl) rfl) (beyond1 w2 q 1000000 (by decide) hq hqs))
  rw [any_mil, HMZ.out] at HCF
  clear hq hqs hb2
  go_wp2_with (go_at_call 105; refine HCF.out.mono ?_; rintro e w3 ⟨rfl, hb3⟩; have HB3 := hid (zAA HB2.out hb3); have HBX3 := hid (zAA HB2X.out hb3); clear hb3; refine Stop.of ?_)
  refine Stop.go ?_
  go_wp2
  go_ret2
  exact ⟨by rw [HE2.out] <;> rfl, HB3.out⟩
 have hv := hv0 hmy
 have HMZ := hid hmy
 have HRDD := hid (show decide (rdE M Y = 0) = true from decide_eq_true (hrd.2 hmy))
 rw [if_pos hmy] at hEv
 have HPL := hid (fun p (hp : p ∈ zCB M Y) => show p.length = zAB M from by
  obtain ⟨_, f, _, rfl⟩ := zNY (hrd.2 hmy) hv hp
  exact zEZ _ _)
 have HEV := hid hEv
 have HV := hid hv
 obtain ⟨L, hL⟩ := exq (zCB M Y)
 have HLL := hid hL
 rw [<- hL] at HEV HPL
 clear hn H hn2 H2 hs hE hok hxl hxm hrd hY hyl hEv hv0 hmy hv hL
 go_enter Tryz.func47, Tryz.ntmps47
 go_wp2_with (go_at_call 104; refine HR.out.mono ?_; rintro e w1 ⟨⟨ya, yc, rfl, hyi⟩, hb1⟩; have HYI := hid hyi; have HB1 := hid hb1; clear hyi hb1; refine Stop.of ?_)
 refine Stop.go ?_
 go_wp2_with (go_at_call 106; refine (zPK _ 1000000).mono ?_; rintro e w2 ⟨q, rfl, hq, hqs, hb2⟩; refine Stop.of ?_)
 refine Stop.go ?_
 have HB2 := hid (zAA HB1.out hb2)
 have HB2X := hid hb2
 have HCF := hid (zHF w2 ya n yc Y HYN.out hm (HYI.out.below hb2) 167 #[.pointer (some ⟨q, 0, none⟩)] (fun n => !(inB n (-1000000) 1000000)) (enters_of Tryz.func167 (by kernel_rfl) rfl) (beyond1 w2 q 1000000 (by decide) hq hqs))
 rw [any_mil, HMZ.out] at HCF
 clear hq hqs hb2
 go_wp2_with (go_at_call 105; refine HCF.out.mono ?_; rintro e w3 ⟨rfl, hb3⟩; have HB3 := hid (zAA HB2.out hb3); have HBX3 := hid (zAA HB2X.out hb3); clear hb3; refine Stop.of ?_)
 refine Stop.go ?_
 have HYI3 := hid (HYI.out.below HBX3.out)
 go_wp2_with (go_at_call 37; refine (HCO.out w3 HB3.out ya yc HYI3.out).mono ?_; rintro e w4 ⟨⟨la, lc, rfl, hll, hpa⟩, hb4⟩; have HB4 := hid (zAA HB3.out hb4); have HPA := hid hpa; have HLB := hid hll; clear hb4 hll hpa; refine Stop.of ?_)
 refine Stop.go ?_
 rw [HV.out]
 have hpa := HPA.out
 rw [<- HLL.out] at hpa ⊢
 have hlb : L.length <= 11264 := by rw [HLL.out]; exact HLB.out
 by_cases hl1 : L.length = 1
 rotate_left
 ·have HE2 := hid (show E = (false, 0) by
   rw [HEV.out, decide_eq_false]
   intro h; apply hl1; rw [h]; rfl)
  obtain ⟨q, hq⟩ := exq (L.length)
  rw [<- hq] at hl1 ⊢
  have hne : ((q : Int) != 1) = true := by simp; omega
  clear hpa hlb hq
  go_wp2
  go_ret2
  exact ⟨by rw [HE2.out] <;> rfl, HB4.out⟩
 rw [hl1]
 obtain ⟨p, hp⟩ : ∃ p, L = [p] := List.length_eq_one_iff.1 hl1
 subst hp
 obtain ⟨b, off, pa, pn, pc, rfl, hb, hc, hpn, hpm, hpr⟩ := hpa 0 (by simp)
 simp only [List.getElem_cons_zero, Nat.add_zero] at hpn hpr hc
 have hpl := HPL.out p (by simp)
 have hpw : pn = n2 := by rw [<- hpn, hpl, <- HXL.out, HXN.out]
 subst hpw
 have hEp : E = (decide (p = zII x), 0) := by rw [HEV.out]; congr 1; rw [decide_eq_decide]; simp
 have HEP := hid hEp
 have HPN := hid hpn
 have HPR := hid hpr
 have HBB := hid hb
 clear hpa hlb hl1 hb hpn hpr hpl hEp
 go_wp2
 clear hc
 go_loopw [41] (fun i wr => ∃ k : Nat, k <= pn ∧ i = .int .i64 k ∧ Below w4.heap.size w4 wr ∧ Hid (∀ j, j < k -> zAE p j = (vec x j, 1))) (fun i _ => pn - (intOf i).toNat)
 case atStart => exact ⟨0, Nat.zero_le _, rfl, Below.refl _ _, hid (fun j h => by omega)⟩
 case round =>
  obtain ⟨k, hk, rfl, hbk, HNO⟩ := hrel
  by_cases hlt : k < pn
  ·have hkp : k < p.length := by rw [HPN.out]; exact hlt
   have hkx : k < x.length := by rw [HXN.out]; exact hlt
   obtain ⟨pb, po, rfl, hpb, hp0, hp1⟩ := (HPR.out.below hbk) k hkp
   obtain ⟨xb, xo, rfl, hxb, hxc⟩ := HI.out k hkx
   have hra : zAE p k = p[k] := by unfold zAE; rw [List.getElem?_eq_getElem hkp]; rfl
   rw [<- hra] at hp0 hp1
   have hxv : x[k]?.getD 0 = vec x k := rfl
   rw [hxv] at hxc
   have HNX := hid (fun (h : zAE p k = (vec x k, 1)) => show ∀ j, j < k + 1 -> zAE p j = (vec x j, 1) from fun j hj => by
    rcases Nat.lt_or_ge j k with h1 | h1
    ·exact HNO.out j h1
    ·have : j = k := by omega
     subst this; exact h)
   have HNE := hid (fun (h : zAE p k ≠ (vec x k, 1)) => show E = (false, 0) from by
    rw [HEP.out, decide_eq_false]
    intro hpe
    exact h (by rw [hpe, zIH hkx]))
   obtain ⟨⟨rn, rd⟩, hr⟩ : ∃ r, r = zAE p k := ⟨_, rfl⟩
   obtain ⟨v, hv⟩ := exq (vec x k)
   rw [<- hr, <- hv] at HNX HNE
   rw [<- hr] at hp0 hp1
   rw [<- hv] at hxc
   simp only [] at hp0 hp1
   have HXC := hid (fun (Z : World) (hZ : Below w.heap.size w Z) => show Z.cell? ⟨xb, xo + k, none⟩ = some (.int .i64 v) from (hZ.cell (p := ⟨xb, _, none⟩) hxb).trans hxc)
   have HBK := hid (zAA HB4.out hbk)
   have HBK2 := hid hbk
   have i0 : (0 : Int) <= (k : Int) := by omega
   have i1 : (k : Int) < (pn : Int) := by omega
   have hk9 : k <= 10 := by have h1 := (zCP HOK.out).2.2.2.2; have h2 := HXL.out; have h3 := HXN.out; omega
   clear hkp hkx hpb hxb hra hxv hr hv hxc hbk
   go_upto_region 12 with fail
   clear hp0 hp1
   obtain ⟨h, hh⟩ := exq (wr.heap.size)
   obtain ⟨wh, hwh⟩ := exq (wr.alloc (.cells #[.int .i64 rn, .int .i64 rd] 29))
   rw [<- hh, <- hwh]
   have hbh : Below wr.heap.size wr wh := by rw [hwh]; exact (Below.refl _ _).alloc (Nat.le_refl _) _
   have HRH := hid (show RatI wh h (rn, rd) by rw [hwh, hh]; exact RatI.made wr (rn, rd))
   have HBH := hid (zAA HBK.out hbh)
   have HBH2 := hid (zAA HBK2.out hbh)
   have HS := hid (fun (Z : World) (hZ : Below wh.heap.size wh Z) => show Z.cell? ⟨h, 0, none⟩ = some (.int .i64 rn) ∧ Z.cell? ⟨h, 1, none⟩ = some (.int .i64 rd) ∧ Z.cell? ⟨xb, xo + k, none⟩ = some (.int .i64 v) from by
    obtain ⟨c0, c1, _⟩ := (HRH.out.keep (hZ.block _ HRH.out.lt)).cells
    exact ⟨c0, c1, HXC.out _ (zAA HBH.out hZ)⟩)
   clear hh hwh hbh
   by_cases e1 : rn = v
   ·by_cases e2 : rd = 1
    ·subst e1
     subst e2
     have HNX2 := HNX.out rfl
     refine zAG (fun j' Z => wAll j' = true -> Z.cell? ⟨h, 0, none⟩ = some (.int .i64 rn) ∧ Z.cell? ⟨h, 1, none⟩ = some (.int .i64 1) ∧ Z.cell? ⟨xb, xo + k, none⟩ = some (.int .i64 rn)) (by kernel_rfl) ?_
     have hbd : Below wh.heap.size wh wh.drew := (Below.refl _ _).drew
     generalize wh.drew = wd at hbd ⊢
     have HBD := hid hbd
     clear hbd
     refine AnyT.tD (i := 0) (v := .agg #[.int .i64 rn, .int .i64 1]) rfl rfl (by rintro w' ⟨q0, q1, q2⟩; go_simp) (HS.out _ HBD.out) ?_; go_frame
     refine AnyT.tD (i := 1) (v := .slice (some ⟨xb, xo, none⟩) pn cap2) rfl rfl (by rintro w' ⟨q0, q1, q2⟩; go_simp) (HS.out _ HBD.out) ?_; go_frame
     refine AnyT.tD (i := 2) (v := .int .i64 k) rfl rfl (by rintro w' ⟨q0, q1, q2⟩; go_simp) (HS.out _ HBD.out) ?_; go_frame
     refine AnyT.tD (i := 3) (v := .pointer (some ⟨xb, xo + k, none⟩)) rfl rfl (by rintro w' ⟨q0, q1, q2⟩; go_simp) (HS.out _ HBD.out) ?_; go_frame
     refine AnyT.tD (i := 4) (v := .int .i64 rn) rfl rfl (by rintro w' ⟨q0, q1, q2⟩; go_simp) (HS.out _ HBD.out) ?_; go_frame
     refine AnyT.tD (i := 5) (v := .agg #[.int .i64 rn, .int .i64 1]) rfl rfl (by rintro w' ⟨q0, q1, q2⟩; go_simp) (HS.out _ HBD.out) ?_; go_frame
     refine AnyT.nx (i := 6) rfl ?_
     go_wp2
     refine ⟨fun _ => HS.out _ HBD.out, ?_⟩
     refine AnyT.done (by kernel_rfl) ?_ _
     go_wp2
     exact ⟨⟨k + 1, by omega, by go_num, zAA HBH2.out HBD.out, hid HNX2⟩, by simp [intOf]; omega⟩
    ·have HE2 := hid (HNE.out (fun h => e2 (Prod.mk.inj h).2))
     have e3 : (rd == 1) = false := by simpa using e2
     subst e1
     refine zAG (fun j' Z => wAll j' = true -> Z.cell? ⟨h, 0, none⟩ = some (.int .i64 rn) ∧ Z.cell? ⟨h, 1, none⟩ = some (.int .i64 rd) ∧ Z.cell? ⟨xb, xo + k, none⟩ = some (.int .i64 rn)) (by kernel_rfl) ?_
     have hbd : Below wh.heap.size wh wh.drew := (Below.refl _ _).drew
     generalize wh.drew = wd at hbd ⊢
     have HBD := hid hbd
     clear hbd
     refine AnyT.tD (i := 0) (v := .agg #[.int .i64 rn, .int .i64 rd]) rfl rfl (by rintro w' ⟨q0, q1, q2⟩; go_simp) (HS.out _ HBD.out) ?_; go_frame
     refine AnyT.tD (i := 1) (v := .slice (some ⟨xb, xo, none⟩) pn cap2) rfl rfl (by rintro w' ⟨q0, q1, q2⟩; go_simp) (HS.out _ HBD.out) ?_; go_frame
     refine AnyT.tD (i := 2) (v := .int .i64 k) rfl rfl (by rintro w' ⟨q0, q1, q2⟩; go_simp) (HS.out _ HBD.out) ?_; go_frame
     refine AnyT.tD (i := 3) (v := .pointer (some ⟨xb, xo + k, none⟩)) rfl rfl (by rintro w' ⟨q0, q1, q2⟩; go_simp) (HS.out _ HBD.out) ?_; go_frame
     refine AnyT.tD (i := 4) (v := .int .i64 rn) rfl rfl (by rintro w' ⟨q0, q1, q2⟩; go_simp) (HS.out _ HBD.out) ?_; go_frame
     refine AnyT.tD (i := 5) (v := .agg #[.int .i64 rn, .int .i64 1]) rfl rfl (by rintro w' ⟨q0, q1, q2⟩; go_simp) (HS.out _ HBD.out) ?_; go_frame
     refine AnyT.nx (i := 6) rfl ?_
     go_wp2
     refine ⟨fun _ => HS.out _ HBD.out, ?_⟩
     refine AnyT.done (by kernel_rfl) ?_ _
     go_wp2
     go_ret2
     exact ⟨by rw [HE2.out] <;> rfl, zAA HBH.out HBD.out⟩
   ·have HE2 := hid (HNE.out (fun h => e1 (Prod.mk.inj h).1))
    have e3 : (rn == v) = false := by simpa using e1
    refine zAG (fun j' Z => wAll j' = true -> Z.cell? ⟨h, 0, none⟩ = some (.int .i64 rn) ∧ Z.cell? ⟨h, 1, none⟩ = some (.int .i64 rd) ∧ Z.cell? ⟨xb, xo + k, none⟩ = some (.int .i64 v)) (by kernel_rfl) ?_
    have hbd : Below wh.heap.size wh wh.drew := (Below.refl _ _).drew
    generalize wh.drew = wd at hbd ⊢
    have HBD := hid hbd
    clear hbd
    refine AnyT.tD (i := 0) (v := .agg #[.int .i64 rn, .int .i64 rd]) rfl rfl (by rintro w' ⟨q0, q1, q2⟩; go_simp) (HS.out _ HBD.out) ?_; go_frame
    refine AnyT.tD (i := 1) (v := .slice (some ⟨xb, xo, none⟩) pn cap2) rfl rfl (by rintro w' ⟨q0, q1, q2⟩; go_simp) (HS.out _ HBD.out) ?_; go_frame
    refine AnyT.tD (i := 2) (v := .int .i64 k) rfl rfl (by rintro w' ⟨q0, q1, q2⟩; go_simp) (HS.out _ HBD.out) ?_; go_frame
    refine AnyT.tD (i := 3) (v := .pointer (some ⟨xb, xo + k, none⟩)) rfl rfl (by rintro w' ⟨q0, q1, q2⟩; go_simp) (HS.out _ HBD.out) ?_; go_frame
    refine AnyT.tD (i := 4) (v := .int .i64 v) rfl rfl (by rintro w' ⟨q0, q1, q2⟩; go_simp) (HS.out _ HBD.out) ?_; go_frame
    refine AnyT.tD (i := 5) (v := .agg #[.int .i64 v, .int .i64 1]) rfl rfl (by rintro w' ⟨q0, q1, q2⟩; go_simp) (HS.out _ HBD.out) ?_; go_frame
    refine AnyT.nx (i := 6) rfl ?_
    go_wp2
    refine ⟨fun _ => HS.out _ HBD.out, ?_⟩
    refine AnyT.done (by kernel_rfl) ?_ _
    go_wp2
    go_ret2
    exact ⟨by rw [HE2.out] <;> rfl, zAA HBH.out HBD.out⟩
  ·obtain rfl : k = pn := by omega
   have HE2 := hid (show E = (true, 0) by
    rw [HEP.out, decide_eq_true]
    refine pic_ext (by unfold zII; rw [List.length_map, HPN.out, HXN.out]) fun j hj => ?_
    rw [HPN.out] at hj
    rw [HNO.out j hj, zIH (by rw [HXN.out]; exact hj)])
   have HBK := hid (zAA HB4.out hbk)
   have i1 : ¬ ((k : Int) < (k : Int)) := by omega
   clear hbk
   go_wp2
   go_ret2
   exact ⟨by rw [HE2.out] <;> rfl, HBK.out⟩
theorem r5finds_c (w : World) (a : Option Addr) (n cap : Nat) (M : Mask) (hn : M.length = n) (hm : n <= maxLen) (H : zAK w a M) (a2 : Option Addr) (n2 cap2 : Nat) (x : List Int) (hn2 : x.length = n2) (hm2 : n2 <= maxLen) (H2 : zAH w a2 x) :
 Calls Tryz.prog 107 #[.slice a n cap, .slice a2 n2 cap2] w fun e w' => e = .returned (.tuple #[.bool (zFD M x).1, .int .i64 (zFD M x).2]) ∧ Below w.heap.size w w' := by
 obtain ⟨E, hE⟩ := exq (zFD M x)
 rw [<- hE]
 by_cases hs : zBW M x = 0
 rotate_left
 ·have HE2 := hid (show E = (false, zBW M x) by rw [hE]; unfold zFD; rw [if_neg hs])
  have HR := hid (r2ReadE_c w a n cap M hn hm H a2 n2 cap2 x hn2 hm2 H2 hs)
  have hne : (zBW M x != 0) = true := by simpa using hs
  obtain ⟨S, hS⟩ := exq (zBW M x)
  rw [<- hS] at HE2 HR hne
  clear hn H hn2 H2 hs hS hE
  go_enter Tryz.func107, Tryz.ntmps107
  go_wp2_with (go_at_call 50; refine HR.out.mono ?_; rintro e w1 ⟨rfl, hb1⟩)
  go_ret2
  exact ⟨by rw [HE2.out] <;> rfl, hb1⟩
 have HR := hid (r2ReadO_c w a n cap M hn hm H a2 n2 cap2 x hn2 hm2 H2 hs)
 obtain ⟨hok, hxl, hxm⟩ := zFR.1 hs
 have hrd := read_rd hs
 obtain ⟨Y, hY⟩ := exq (zDH M x)
 have hyl : Y.length = n := by rw [hY]; unfold zDH; rw [List.length_map]; exact hn
 have HCO := hid (fun (X : World) (hX : Below w.heap.size w X) (ya : Option Addr) (yc : Nat) (hy : zAH X ya Y) => r5Corners_c X a ya n cap n yc M Y hn hyl hm hm (H.below hX) hy)
 have hEv : E = if milB Y = true then (decide (zCB M Y = [zII x]), 0) else (false, 10) := by rw [hE]; unfold zFD; rw [if_pos hs, <- hY]
 have hv0 : milB Y = true -> (valE M Y).2 = 0 := fun h => by rw [hY] at h ⊢; exact read_val hs h
 rw [<- hY] at HR hrd
 have HN := hid hn
 have HYN := hid hyl
 have HH := hid H
 have HI := hid H2
 have HXN := hid hn2
 have HXL := hid hxl
 have HOK := hid hok
 by_cases hmy : milB Y = true
 rotate_left
 ·have hmy' : milB Y = false := by simpa using hmy
  have HE2 := hid (show E = (false, 10) by rw [hEv, if_neg hmy])
  have HMZ := hid hmy'
  have HRDD := hid (show decide (rdE M Y = 0) = false from decide_eq_false (fun h => hmy (hrd.1 h)))
  clear hn H hn2 H2 hs hE hok hxl hxm hrd hY hyl hEv hv0 hmy hmy'
  go_enter Tryz.func107, Tryz.ntmps107
  go_wp2_with (go_at_call 50; refine HR.out.mono ?_; rintro e w1 ⟨⟨ya, yc, rfl, hyi⟩, hb1⟩; have HYI := hid hyi; have HB1 := hid hb1; clear hyi hb1; refine Stop.of ?_)
  refine Stop.go ?_
  have HRG := hid (zLX w1 a ya n cap n yc M Y HN.out HYN.out hm hm (HH.out.below HB1.out) HYI.out)
  rw [HRDD.out] at HRG
  go_wp2_with (go_at_call 17; refine HRG.out.mono ?_; rintro e w3 ⟨rfl, rfl⟩; have HB3 := HB1; have HBX3 := hid (Below.refl w1.heap.size w1); refine Stop.of ?_)
  refine Stop.go ?_
  obtain ⟨w3, hw3⟩ := exq (w1)
  subst hw3
  go_wp2
  go_ret2
  exact ⟨by rw [HE2.out] <;> rfl, HB3.out⟩
 have hv := hv0 hmy
 have HMZ := hid hmy
 have HRDD := hid (show decide (rdE M Y = 0) = true from decide_eq_true (hrd.2 hmy))
 rw [if_pos hmy] at hEv
 have HPL := hid (fun p (hp : p ∈ zCB M Y) => show p.length = zAB M from by
  obtain ⟨_, f, _, rfl⟩ := zNY (hrd.2 hmy) hv hp
  exact zEZ _ _)
 have HEV := hid hEv
 have HV := hid hv
 obtain ⟨L, hL⟩ := exq (zCB M Y)
 have HLL := hid hL
 rw [<- hL] at HEV HPL
 clear hn H hn2 H2 hs hE hok hxl hxm hrd hY hyl hEv hv0 hmy hv hL
 go_enter Tryz.func107, Tryz.ntmps107
 go_wp2_with (go_at_call 50; refine HR.out.mono ?_; rintro e w1 ⟨⟨ya, yc, rfl, hyi⟩, hb1⟩; have HYI := hid hyi; have HB1 := hid hb1; clear hyi hb1; refine Stop.of ?_)
 refine Stop.go ?_
 have HRG := hid (zLX w1 a ya n cap n yc M Y HN.out HYN.out hm hm (HH.out.below HB1.out) HYI.out)
 rw [HRDD.out] at HRG
 go_wp2_with (go_at_call 17; refine HRG.out.mono ?_; rintro e w3 ⟨rfl, rfl⟩; have HB3 := HB1; have HBX3 := hid (Below.refl w1.heap.size w1); refine Stop.of ?_)
 refine Stop.go ?_
 obtain ⟨w3, hw3⟩ := exq (w1)
 subst hw3
 have HYI3 := hid (HYI.out.below HBX3.out)
 go_wp2_with (go_at_call 38; refine (HCO.out w3 HB3.out ya yc HYI3.out).mono ?_; rintro e w4 ⟨⟨la, lc, rfl, hll, hpa⟩, hb4⟩; have HB4 := hid (zAA HB3.out hb4); have HPA := hid hpa; have HLB := hid hll; clear hb4 hll hpa; refine Stop.of ?_)
 refine Stop.go ?_
 rw [HV.out]
 have hpa := HPA.out
 rw [<- HLL.out] at hpa ⊢
 have hlb : L.length <= 11264 := by rw [HLL.out]; exact HLB.out
 by_cases hl1 : L.length = 1
 rotate_left
 ·have HE2 := hid (show E = (false, 0) by
   rw [HEV.out, decide_eq_false]
   intro h; apply hl1; rw [h]; rfl)
  obtain ⟨q, hq⟩ := exq (L.length)
  rw [<- hq] at hl1 ⊢
  have hne : ((q : Int) != 1) = true := by simp; omega
  clear hpa hlb hq
  go_wp2
  go_ret2
  exact ⟨by rw [HE2.out] <;> rfl, HB4.out⟩
 rw [hl1]
 obtain ⟨p, hp⟩ : ∃ p, L = [p] := List.length_eq_one_iff.1 hl1
 subst hp
 obtain ⟨b, off, pa, pn, pc, rfl, hb, hc, hpn, hpm, hpr⟩ := hpa 0 (by simp)
 simp only [List.getElem_cons_zero, Nat.add_zero] at hpn hpr hc
 have hpl := HPL.out p (by simp)
 have hpw : pn = n2 := by rw [<- hpn, hpl, <- HXL.out, HXN.out]
 subst hpw
 have hEp : E = (decide (p = zII x), 0) := by rw [HEV.out]; congr 1; rw [decide_eq_decide]; simp
 have HEP := hid hEp
 have HPN := hid hpn
 have HPR := hid hpr
 have HBB := hid hb
 clear hpa hlb hl1 hb hpn hpr hpl hEp
 go_wp2
 clear hc
 go_loopw [42] (fun i wr => ∃ k : Nat, k <= pn ∧ i = .int .i64 k ∧ Below w4.heap.size w4 wr ∧ Hid (∀ j, j < k -> zAE p j = (vec x j, 1))) (fun i _ => pn - (intOf i).toNat)
 case atStart => exact ⟨0, Nat.zero_le _, rfl, Below.refl _ _, hid (fun j h => by omega)⟩
 case round =>
  obtain ⟨k, hk, rfl, hbk, HNO⟩ := hrel
  by_cases hlt : k < pn
  ·have hkp : k < p.length := by rw [HPN.out]; exact hlt
   have hkx : k < x.length := by rw [HXN.out]; exact hlt
   obtain ⟨pb, po, rfl, hpb, hp0, hp1⟩ := (HPR.out.below hbk) k hkp
   obtain ⟨xb, xo, rfl, hxb, hxc⟩ := HI.out k hkx
   have hra : zAE p k = p[k] := by unfold zAE; rw [List.getElem?_eq_getElem hkp]; rfl
   rw [<- hra] at hp0 hp1
   have hxv : x[k]?.getD 0 = vec x k := rfl
   rw [hxv] at hxc
   have HNX := hid (fun (h : zAE p k = (vec x k, 1)) => show ∀ j, j < k + 1 -> zAE p j = (vec x j, 1) from fun j hj => by
    rcases Nat.lt_or_ge j k with h1 | h1
    ·exact HNO.out j h1
    ·have : j = k := by omega
     subst this; exact h)
   have HNE := hid (fun (h : zAE p k ≠ (vec x k, 1)) => show E = (false, 0) from by
    rw [HEP.out, decide_eq_false]
    intro hpe
    exact h (by rw [hpe, zIH hkx]))
   obtain ⟨⟨rn, rd⟩, hr⟩ : ∃ r, r = zAE p k := ⟨_, rfl⟩
   obtain ⟨v, hv⟩ := exq (vec x k)
   rw [<- hr, <- hv] at HNX HNE
   rw [<- hr] at hp0 hp1
   rw [<- hv] at hxc
   simp only [] at hp0 hp1
   have HXC := hid (fun (Z : World) (hZ : Below w.heap.size w Z) => show Z.cell? ⟨xb, xo + k, none⟩ = some (.int .i64 v) from (hZ.cell (p := ⟨xb, _, none⟩) hxb).trans hxc)
   have HBK := hid (zAA HB4.out hbk)
   have HBK2 := hid hbk
   have i0 : (0 : Int) <= (k : Int) := by omega
   have i1 : (k : Int) < (pn : Int) := by omega
   have hk9 : k <= 10 := by have h1 := (zCP HOK.out).2.2.2.2; have h2 := HXL.out; have h3 := HXN.out; omega
   clear hkp hkx hpb hxb hra hxv hr hv hxc hbk
   go_upto_region 12 with fail
   clear hp0 hp1
   obtain ⟨h, hh⟩ := exq (wr.heap.size)
   obtain ⟨wh, hwh⟩ := exq (wr.alloc (.cells #[.int .i64 rn, .int .i64 rd] 29))
   rw [<- hh, <- hwh]
   have hbh : Below wr.heap.size wr wh := by rw [hwh]; exact (Below.refl _ _).alloc (Nat.le_refl _) _
   have HRH := hid (show RatI wh h (rn, rd) by rw [hwh, hh]; exact RatI.made wr (rn, rd))
   have HBH := hid (zAA HBK.out hbh)
   have HBH2 := hid (zAA HBK2.out hbh)
   have HS := hid (fun (Z : World) (hZ : Below wh.heap.size wh Z) => show Z.cell? ⟨h, 0, none⟩ = some (.int .i64 rn) ∧ Z.cell? ⟨h, 1, none⟩ = some (.int .i64 rd) ∧ Z.cell? ⟨xb, xo + k, none⟩ = some (.int .i64 v) from by
    obtain ⟨c0, c1, _⟩ := (HRH.out.keep (hZ.block _ HRH.out.lt)).cells
    exact ⟨c0, c1, HXC.out _ (zAA HBH.out hZ)⟩)
   clear hh hwh hbh
   by_cases e1 : rn = v
   ·by_cases e2 : rd = 1
    ·subst e1
     subst e2
     have HNX2 := HNX.out rfl
     refine zAG (fun j' Z => wAll j' = true -> Z.cell? ⟨h, 0, none⟩ = some (.int .i64 rn) ∧ Z.cell? ⟨h, 1, none⟩ = some (.int .i64 1) ∧ Z.cell? ⟨xb, xo + k, none⟩ = some (.int .i64 rn)) (by kernel_rfl) ?_
     have hbd : Below wh.heap.size wh wh.drew := (Below.refl _ _).drew
     generalize wh.drew = wd at hbd ⊢
     have HBD := hid hbd
     clear hbd
     refine AnyT.tD (i := 0) (v := .agg #[.int .i64 rn, .int .i64 1]) rfl rfl (by rintro w' ⟨q0, q1, q2⟩; go_simp) (HS.out _ HBD.out) ?_; go_frame
     refine AnyT.tD (i := 1) (v := .slice (some ⟨xb, xo, none⟩) pn cap2) rfl rfl (by rintro w' ⟨q0, q1, q2⟩; go_simp) (HS.out _ HBD.out) ?_; go_frame
     refine AnyT.tD (i := 2) (v := .int .i64 k) rfl rfl (by rintro w' ⟨q0, q1, q2⟩; go_simp) (HS.out _ HBD.out) ?_; go_frame
     refine AnyT.tD (i := 3) (v := .pointer (some ⟨xb, xo + k, none⟩)) rfl rfl (by rintro w' ⟨q0, q1, q2⟩; go_simp) (HS.out _ HBD.out) ?_; go_frame
     refine AnyT.tD (i := 4) (v := .int .i64 rn) rfl rfl (by rintro w' ⟨q0, q1, q2⟩; go_simp) (HS.out _ HBD.out) ?_; go_frame
     refine AnyT.tD (i := 5) (v := .agg #[.int .i64 rn, .int .i64 1]) rfl rfl (by rintro w' ⟨q0, q1, q2⟩; go_simp) (HS.out _ HBD.out) ?_; go_frame
     refine AnyT.nx (i := 6) rfl ?_
     go_wp2
     refine ⟨fun _ => HS.out _ HBD.out, ?_⟩
     refine AnyT.done (by kernel_rfl) ?_ _
     go_wp2
     exact ⟨⟨k + 1, by omega, by go_num, zAA HBH2.out HBD.out, hid HNX2⟩, by simp [intOf]; omega⟩
    ·have HE2 := hid (HNE.out (fun h => e2 (Prod.mk.inj h).2))
     have e3 : (rd == 1) = false := by simpa using e2
     subst e1
     refine zAG (fun j' Z => wAll j' = true -> Z.cell? ⟨h, 0, none⟩ = some (.int .i64 rn) ∧ Z.cell? ⟨h, 1, none⟩ = some (.int .i64 rd) ∧ Z.cell? ⟨xb, xo + k, none⟩ = some (.int .i64 rn)) (by kernel_rfl) ?_
     have hbd : Below wh.heap.size wh wh.drew := (Below.refl _ _).drew
     generalize wh.drew = wd at hbd ⊢
     have HBD := hid hbd
     clear hbd
     refine AnyT.tD (i := 0) (v := .agg #[.int .i64 rn, .int .i64 rd]) rfl rfl (by rintro w' ⟨q0, q1, q2⟩; go_simp) (HS.out _ HBD.out) ?_; go_frame
     refine AnyT.tD (i := 1) (v := .slice (some ⟨xb, xo, none⟩) pn cap2) rfl rfl (by rintro w' ⟨q0, q1, q2⟩; go_simp) (HS.out _ HBD.out) ?_; go_frame
     refine AnyT.tD (i := 2) (v := .int .i64 k) rfl rfl (by rintro w' ⟨q0, q1, q2⟩; go_simp) (HS.out _ HBD.out) ?_; go_frame
     refine AnyT.tD (i := 3) (v := .pointer (some ⟨xb, xo + k, none⟩)) rfl rfl (by rintro w' ⟨q0, q1, q2⟩; go_simp) (HS.out _ HBD.out) ?_; go_frame
     refine AnyT.tD (i := 4) (v := .int .i64 rn) rfl rfl (by rintro w' ⟨q0, q1, q2⟩; go_simp) (HS.out _ HBD.out) ?_; go_frame
     refine AnyT.tD (i := 5) (v := .agg #[.int .i64 rn, .int .i64 1]) rfl rfl (by rintro w' ⟨q0, q1, q2⟩; go_simp) (HS.out _ HBD.out) ?_; go_frame
     refine AnyT.nx (i := 6) rfl ?_
     go_wp2
     refine ⟨fun _ => HS.out _ HBD.out, ?_⟩
     refine AnyT.done (by kernel_rfl) ?_ _
     go_wp2
     go_ret2
     exact ⟨by rw [HE2.out] <;> rfl, zAA HBH.out HBD.out⟩
   ·have HE2 := hid (HNE.out (fun h => e1 (Prod.mk.inj h).1))
    have e3 : (rn == v) = false := by simpa using e1
    refine zAG (fun j' Z => wAll j' = true -> Z.cell? ⟨h, 0, none⟩ = some (.int .i64 rn) ∧ Z.cell? ⟨h, 1, none⟩ = some (.int .i64 rd) ∧ Z.cell? ⟨xb, xo + k, none⟩ = some (.int .i64 v)) (by kernel_rfl) ?_
    have hbd : Below wh.heap.size wh wh.drew := (Below.refl _ _).drew
    generalize wh.drew = wd at hbd ⊢
    have HBD := hid hbd
    clear hbd
    refine AnyT.tD (i := 0) (v := .agg #[.int .i64 rn, .int .i64 rd]) rfl rfl (by rintro w' ⟨q0, q1, q2⟩; go_simp) (HS.out _ HBD.out) ?_; go_frame
    refine AnyT.tD (i := 1) (v := .slice (some ⟨xb, xo, none⟩) pn cap2) rfl rfl (by rintro w' ⟨q0, q1, q2⟩; go_simp) (HS.out _ HBD.out) ?_; go_frame
    refine AnyT.tD (i := 2) (v := .int .i64 k) rfl rfl (by rintro w' ⟨q0, q1, q2⟩; go_simp) (HS.out _ HBD.out) ?_; go_frame
    refine AnyT.tD (i := 3) (v := .pointer (some ⟨xb, xo + k, none⟩)) rfl rfl (by rintro w' ⟨q0, q1, q2⟩; go_simp) (HS.out _ HBD.out) ?_; go_frame
    refine AnyT.tD (i := 4) (v := .int .i64 v) rfl rfl (by rintro w' ⟨q0, q1, q2⟩; go_simp) (HS.out _ HBD.out) ?_; go_frame
    refine AnyT.tD (i := 5) (v := .agg #[.int .i64 v, .int .i64 1]) rfl rfl (by rintro w' ⟨q0, q1, q2⟩; go_simp) (HS.out _ HBD.out) ?_; go_frame
    refine AnyT.nx (i := 6) rfl ?_
    go_wp2
    refine ⟨fun _ => HS.out _ HBD.out, ?_⟩
    refine AnyT.done (by kernel_rfl) ?_ _
    go_wp2
    go_ret2
    exact ⟨by rw [HE2.out] <;> rfl, zAA HBH.out HBD.out⟩
  ·obtain rfl : k = pn := by omega
   have HE2 := hid (show E = (true, 0) by
    rw [HEP.out, decide_eq_true]
    refine pic_ext (by unfold zII; rw [List.length_map, HPN.out, HXN.out]) fun j hj => ?_
    rw [HPN.out] at hj
    rw [HNO.out j hj, zIH (by rw [HXN.out]; exact hj)])
   have HBK := hid (zAA HB4.out hbk)
   have i1 : ¬ ((k : Int) < (k : Int)) := by omega
   clear hbk
   go_wp2
   go_ret2
   exact ⟨by rw [HE2.out] <;> rfl, HBK.out⟩
theorem r5Finds_c (w : World) (a : Option Addr) (n cap : Nat) (M : Mask) (hn : M.length = n) (hm : n <= maxLen) (H : zAK w a M) (a2 : Option Addr) (n2 cap2 : Nat) (x : List Int) (hn2 : x.length = n2) (hm2 : n2 <= maxLen) (H2 : zAH w a2 x) :
 Calls Tryz.prog 48 #[.slice a n cap, .slice a2 n2 cap2] w fun e w' => e = .returned (.tuple #[.bool (zFD M x).1, .int .i64 (zFD M x).2]) ∧ Below w.heap.size w w' := by
 have HF := hid (r5finds_c w a n cap M hn hm H a2 n2 cap2 x hn2 hm2 H2)
 obtain ⟨E, hE⟩ := exq (zFD M x)
 rw [<- hE] at HF ⊢
 clear hn H hn2 H2 hE
 go_enter Tryz.func48, Tryz.ntmps48
 go_wp2_with (go_at_call 107; refine HF.out.mono ?_; rintro e w1 ⟨rfl, hb1⟩)
 go_ret2
 exact ⟨rfl, hb1⟩
end
section
open Go.RowKit
theorem two5_c (w : World) : Calls Tryz.prog 72 #[] w fun e w' => Below w.heap.size w w' ∧ ∃ a cap, e = .returned (.slice a 2 cap) ∧ zAK w' a twoM := by
 go_enter Tryz.func72, Tryz.ntmps72
 go_wp2
 go_ret
 exact ⟨(((Below.refl _ _).alloc (Nat.le_refl _) _).alloc (by simp) _).alloc (by simp; omega) _, _, _, rfl, two_rows w⟩
theorem zHH (w : World) (n : Int) : Calls Tryz.prog 51 #[.int .i64 n] w fun e w' => e = .returned (.agg #[.int .i64 n, .int .i64 1]) ∧ Below w.heap.size w w' := by
 obtain ⟨rb, hrb⟩ := exq (w.heap.size)
 obtain ⟨wz, hwz⟩ := exq (w.alloc (.cells #[.int .i64 0, .int .i64 0] 29))
 have hbz : Below w.heap.size w wz := by rw [hwz]; exact (Below.refl _ _).alloc (Nat.le_refl _) _
 have hrz : RatI wz rb (0, 0) := by rw [hwz, hrb]; exact RatI.made w (0, 0)
 obtain ⟨r0, r1, r2, r3, r4⟩ := hrz.cells
 have X1 := hid (RatI.set (p := (n, 1)) hrz)
 have X2 := hid ((zBV wz rb (.int .i64 n) (.int .i64 1)).below hbz hbz.size (fun k hk => by show k ≠ rb; omega))
 have HWZ := hid hwz
 clear hwz hrz hbz
 go_enter Tryz.func51, Tryz.ntmps51
 go_upto_region 1 with fail
 rw [<- hrb, <- HWZ.out]
 clear hrb
 go_wp2
 clear r0 r1 r2 r3 r4
 generalize (wz.setCell ⟨rb, 0, none⟩ (.int .i64 n)).setCell ⟨rb, 1, none⟩ (.int .i64 1) = WF at X1 X2 ⊢
 obtain ⟨t0, t1, t2, t3, t4⟩ := X1.out.cells
 refine bodyPost_ret (v := .agg #[.int .i64 n, .int .i64 1]) ?_ rfl ⟨rfl, X2.out⟩
 simp [results, Tryz.results51, go_sem, t0, t1, t2, t3, t4]
theorem aw5_val : valE twoM [1, -1] = ((2, 1), 0) := by decide +kernel
theorem aw5_prov : zDT twoM [1, 1] [(0, 1), (1, 1), (0, 1)] [(1, 1), (0, 1)] = true := by decide +kernel
theorem ints2 (w : World) (x y : Int) (T : TypeId) : zAH (w.alloc (.cells #[.int .i64 x, .int .i64 y] T)) (some ⟨w.heap.size, 0, none⟩) [x, y] := fun j hj => ⟨w.heap.size, 0, rfl, by simp, by
 rw [World.cell?_alloc_at _ _ _ _ rfl]
 match j, hj with
 | 0, _ => rfl
 | 1, _ => rfl⟩
theorem rats3 (w : World) (a b c d e f : Int) (T : TypeId) : zCJ (w.alloc (.cells #[.int .i64 a, .int .i64 b, .int .i64 c, .int .i64 d, .int .i64 e, .int .i64 f] T)) (some ⟨w.heap.size, 0, none⟩) [(a, b), (c, d), (e, f)] := fun j hj => ⟨w.heap.size, 0, rfl, by simp, by
 rw [World.cell?_alloc_at _ _ _ _ rfl]
 match j, hj with
 | 0, _ => rfl
 | 1, _ => rfl
 | 2, _ => rfl, by
 rw [World.cell?_alloc_at _ _ _ _ rfl]
 match j, hj with
 | 0, _ => rfl
 | 1, _ => rfl
 | 2, _ => rfl⟩
theorem rats2 (w : World) (a b c d : Int) (T : TypeId) : zCJ (w.alloc (.cells #[.int .i64 a, .int .i64 b, .int .i64 c, .int .i64 d] T)) (some ⟨w.heap.size, 0, none⟩) [(a, b), (c, d)] := fun j hj => ⟨w.heap.size, 0, rfl, by simp, by
 rw [World.cell?_alloc_at _ _ _ _ rfl]
 match j, hj with
 | 0, _ => rfl
 | 1, _ => rfl, by
 rw [World.cell?_alloc_at _ _ _ _ rfl]
 match j, hj with
 | 0, _ => rfl
 | 1, _ => rfl⟩
theorem awake5_c (w : World) : Calls Tryz.prog 18 #[] w fun e w' => e = .returned (.bool true) ∧ Below w.heap.size w w' := by
 go_enter Tryz.func18, Tryz.ntmps18
 go_upto_region 2 with (go_at_call 72; refine (two5_c _).mono ?_; rintro e w1 ⟨hb1, a, cap, rfl, hR⟩; refine Stop.of ?_)
 refine Stop.go ?_
 have hbA : Below w1.heap.size w1 (w1.alloc (.cells #[.int .i64 1, .int .i64 (-1)] 3)) := (Below.refl _ _).alloc (Nat.le_refl _) _
 have HV := hid (dvalue_c (w1.alloc (.cells #[.int .i64 1, .int .i64 (-1)] 3)) a (some ⟨w1.heap.size, 0, none⟩) 2 cap 2 2 twoM [1, -1] rfl rfl (by decide) (by decide) (hR.below hbA) (ints2 w1 1 (-1) _))
 rw [aw5_val] at HV
 have HB1 := hid (zAA hb1 hbA)
 clear hb1 hbA hR
 go_upto_region 2 with (go_at_call 19; refine HV.out.mono ?_; rintro e w2 ⟨rfl, hb2⟩; refine Stop.of ?_)
 refine Stop.go ?_
 have HB2 := hid (zAA HB1.out hb2)
 clear hb2 HB1 HV
 have hr : ratV (2, 1) = .agg #[.int .i64 2, .int .i64 1] := rfl
 rw [hr]
 clear hr
 go_upto_region 2 with fail
 go_upto_region 3 with (go_at_call 51; refine (zHH _ _).mono ?_; rintro e w3 ⟨rfl, hb3⟩; have HB3 := hid hb3; clear hb3; refine Stop.of ?_)
 refine Stop.go ?_
 go_upto_region 3 with (go_at_call 51; refine (zHH _ _).mono ?_; rintro e w4 ⟨rfl, hb4⟩; have HB4 := hid hb4; clear hb4; refine Stop.of ?_)
 refine Stop.go ?_
 go_upto_region 3 with (go_at_call 51; refine (zHH _ _).mono ?_; rintro e w5 ⟨rfl, hb5⟩; have HB5 := hid hb5; clear hb5; refine Stop.of ?_)
 refine Stop.go ?_
 go_upto_region 3 with (go_at_call 51; refine (zHH _ _).mono ?_; rintro e w6 ⟨rfl, hb6⟩; have HB6 := hid hb6; clear hb6; refine Stop.of ?_)
 refine Stop.go ?_
 go_upto_region 3 with (go_at_call 51; refine (zHH _ _).mono ?_; rintro e w7 ⟨rfl, hb7⟩; have HB7 := hid hb7; clear hb7; refine Stop.of ?_)
 refine Stop.go ?_
 go_upto_region 3 with fail
 have B25 : Below (w2.alloc (.cells #[.int .i64 2, .int .i64 1] 29)).heap.size (w2.alloc (.cells #[.int .i64 2, .int .i64 1] 29)) w5 := zAA HB3.out (zAA HB4.out HB5.out)
 have B57 : Below (w5.alloc (.cells #[.int .i64 0, .int .i64 1, .int .i64 1, .int .i64 1, .int .i64 0, .int .i64 1] 29)).heap.size (w5.alloc (.cells #[.int .i64 0, .int .i64 1, .int .i64 1, .int .i64 1, .int .i64 0, .int .i64 1] 29)) w7 := zAA HB6.out HB7.out
 have R2 := RatI.made w2 (2, 1)
 have R5 : RatI w5 w2.heap.size (2, 1) := R2.keep (B25.block _ R2.lt)
 have bC : Below w5.heap.size w5 (w5.alloc (.cells #[.int .i64 0, .int .i64 1, .int .i64 1, .int .i64 1, .int .i64 0, .int .i64 1] 29)) := (Below.refl _ _).alloc (Nat.le_refl _) _
 have b57 : Below w5.heap.size w5 w7 := zAA bC B57
 have R7 : RatI w7 w2.heap.size (2, 1) := R5.keep (b57.block _ R5.lt)
 have X7 : zCJ w7 (some ⟨w5.heap.size, 0, none⟩) [(0, 1), (1, 1), (0, 1)] := (rats3 w5 0 1 1 1 0 1 29).below B57
 have bA : Below w2.heap.size w2 (w2.alloc (.cells #[.int .i64 2, .int .i64 1] 29)) := (Below.refl _ _).alloc (Nat.le_refl _) _
 have bw7 : Below w.heap.size w w7 := zAA HB2.out (zAA bA (zAA B25 b57))
 obtain ⟨b1, hb1⟩ := exq (w2.heap.size)
 obtain ⟨ap, hap⟩ := exq (w5.heap.size)
 obtain ⟨ax, hax⟩ := exq (w7.heap.size)
 obtain ⟨b3, hb3⟩ := exq (w7.heap.size + 1)
 obtain ⟨wB, hwB⟩ := exq ((w7.alloc (.cells #[.int .i64 1, .int .i64 1, .int .i64 0, .int .i64 1] 29)).alloc (.cells #[.slice (some ⟨w5.heap.size, 0, none⟩) 3 3, .slice (some ⟨w7.heap.size, 0, none⟩) 2 2] 78))
 have bD : Below w7.heap.size w7 (w7.alloc (.cells #[.int .i64 1, .int .i64 1, .int .i64 0, .int .i64 1] 29)) := (Below.refl _ _).alloc (Nat.le_refl _) _
 have bB : Below w7.heap.size w7 wB := by rw [hwB]; exact bD.alloc bD.size _
 have bDB : Below (w7.alloc (.cells #[.int .i64 1, .int .i64 1, .int .i64 0, .int .i64 1] 29)).heap.size (w7.alloc (.cells #[.int .i64 1, .int .i64 1, .int .i64 0, .int .i64 1] 29)) wB := by rw [hwB]; exact (Below.refl _ _).alloc (Nat.le_refl _) _
 have HRB := hid (R7.keep (bB.block _ R7.lt))
 have HPB := hid (X7.below bB)
 have HXB := hid ((rats2 w7 1 1 0 1 29).below bDB)
 have HLB := hid (show wB.heap[w7.heap.size + 1]? = some (.cells #[.slice (some ⟨w5.heap.size, 0, none⟩) 3 3, .slice (some ⟨w7.heap.size, 0, none⟩) 2 2] 78 (0, 0)) by
  have h := World.alloc_heap_new (w7.alloc (.cells #[.int .i64 1, .int .i64 1, .int .i64 0, .int .i64 1] 29)) (.cells #[.slice (some ⟨w5.heap.size, 0, none⟩) 3 3, .slice (some ⟨w7.heap.size, 0, none⟩) 2 2] 78)
  rw [World.size_alloc] at h
  rw [hwB]; exact h)
 have HBW := hid (zAA bw7 bB)
 rw [<- hwB]
 rw [<- hb1] at HRB ⊢
 rw [<- hb3] at HLB ⊢
 rw [<- hap] at HPB HLB ⊢
 rw [<- hax] at HXB HLB ⊢
 clear B25 B57 R2 R5 bC b57 R7 X7 bA bw7 hb1 hap hax hb3 hwB bD bB bDB HB2 HB3 HB4 HB5 HB6 HB7
 have HS := hid (fun (X : World) (hX : Below wB.heap.size wB X) => show X.cell? ⟨b1, 0, none⟩ = some (.int .i64 2) ∧ X.cell? ⟨b1, 1, none⟩ = some (.int .i64 1) ∧ X.cell? ⟨b3, 0, none⟩ = some (.slice (some ⟨ap, 0, none⟩) 3 3) ∧ X.cell? ⟨b3, 1, none⟩ = some (.slice (some ⟨ax, 0, none⟩) 2 2) from by
  obtain ⟨c0, c1, _⟩ := (HRB.out.keep (hX.block _ HRB.out.lt)).cells
  have h := (hX.block _ (Array.getElem?_eq_some_iff.1 HLB.out).1).trans HLB.out
  exact ⟨c0, c1, by simp [World.cell?, h], by simp [World.cell?, h]⟩)
 have HPV := hid (fun (X : World) (a a3 : Option Addr) (cap cap3 : Nat) (hX : Below wB.heap.size wB X) (hR : zAK X a twoM) (hY : zAH X a3 [1, 1]) => dproves_c X a a3 (some ⟨ap, 0, none⟩) (some ⟨ax, 0, none⟩) 2 cap 2 cap3 3 3 2 2 twoM [1, 1] [(0, 1), (1, 1), (0, 1)] [(1, 1), (0, 1)] rfl rfl rfl rfl (by decide) (by decide) (by decide) (by decide) hR hY (HPB.out.below hX) (HXB.out.below hX))
 rw [aw5_prov] at HPV
 refine zAG (fun j X => wAll j = true -> X.cell? ⟨b1, 0, none⟩ = some (.int .i64 2) ∧ X.cell? ⟨b1, 1, none⟩ = some (.int .i64 1) ∧ X.cell? ⟨b3, 0, none⟩ = some (.slice (some ⟨ap, 0, none⟩) 3 3) ∧ X.cell? ⟨b3, 1, none⟩ = some (.slice (some ⟨ax, 0, none⟩) 2 2)) (by kernel_rfl) ?_
 have hbd : Below wB.heap.size wB wB.drew := (Below.refl _ _).drew
 generalize wB.drew = wd at hbd ⊢
 have HBD := hid hbd
 clear hbd
 refine AnyT.nx (i := 0) rfl ?_
 go_wp2
 refine ⟨fun _ => HS.out _ HBD.out, ?_⟩
 refine AnyT.nx (i := 1) rfl ?_
 go_wp2
 refine ⟨fun _ => HS.out _ HBD.out, ?_⟩
 refine AnyT.nx (i := 2) rfl ?_
 go_wp2
 refine ⟨fun _ => HS.out _ HBD.out, ?_⟩
 refine AnyT.tD (i := 3) (v := .agg #[.int .i64 2, .int .i64 1]) rfl rfl (by rintro w' ⟨q0, q1, q2, q3⟩; go_simp) (HS.out _ HBD.out) ?_; go_frame
 refine AnyT.nx (i := 4) rfl ?_
 go_wp2_with (go_at_call 51; refine (zHH _ _).mono ?_; rintro e w3 ⟨rfl, hb3⟩; have HB3 := hid (zAA HBD.out hb3); clear hb3; refine Stop.of ?_)
 refine Stop.go ?_
 go_wp2
 refine ⟨fun _ => HS.out _ HB3.out, ?_⟩
 refine AnyT.nx (i := 5) rfl ?_
 go_wp2
 refine ⟨fun _ => HS.out _ HB3.out, ?_⟩
 refine AnyT.nx (i := 6) rfl ?_
 go_wp2
 refine ⟨fun _ => HS.out _ HB3.out, ?_⟩
 refine AnyT.nx (i := 7) rfl ?_
 go_wp2
 refine ⟨fun _ => HS.out _ HB3.out, ?_⟩
 refine AnyT.tD (i := 10) (v := .agg #[.slice (some ⟨ap, 0, none⟩) 3 3, .slice (some ⟨ax, 0, none⟩) 2 2]) rfl rfl (by rintro w' ⟨q0, q1, q2, q3⟩; go_simp) (HS.out _ HB3.out) ?_; go_frame
 refine AnyT.next2 (i := 8) (j := 9) (by kernel_rfl) (wpOp_of_list rfl ?_) (wpOp_of_list rfl ?_)
 ·go_wp2_with (go_at_call 72; refine (two5_c _).mono ?_; rintro e w4 ⟨hb4, a4, cap4, rfl, hR4⟩; have HB4 := hid (zAA HB3.out hb4); have HR4 := hid hR4; clear hb4 hR4; refine Stop.of ?_)
  refine Stop.go ?_
  go_wp2
  refine ⟨fun _ => HS.out _ HB4.out, ?_⟩
  refine AnyT.nx (i := 9) rfl ?_
  go_wp2
  have hb5 : Below w4.heap.size w4 (w4.alloc (.cells #[.int .i64 1, .int .i64 1] 3)) := (Below.refl _ _).alloc (Nat.le_refl _) _
  have HB5 := hid (zAA HB4.out hb5)
  have HPV2 := hid (HPV.out _ a4 (some ⟨w4.heap.size, 0, none⟩) cap4 2 HB5.out (HR4.out.below hb5) (ints2 w4 1 1 3))
  clear hb5
  refine ⟨fun _ => HS.out _ HB5.out, ?_⟩
  refine AnyT.nx (i := 11) rfl ?_
  go_wp2_with (go_at_call 61; refine HPV2.out.mono ?_; rintro e w8 ⟨rfl, hb8⟩; have HB8 := hid (zAA HB5.out hb8); clear hb8; refine Stop.of ?_)
  refine Stop.go ?_
  go_wp2
  refine ⟨fun _ => HS.out _ HB8.out, ?_⟩
  refine AnyT.nx (i := 12) rfl ?_
  go_wp2
  refine ⟨fun _ => HS.out _ HB8.out, ?_⟩
  refine AnyT.nx (i := 13) rfl ?_
  go_wp2
  refine ⟨fun _ => HS.out _ HB8.out, ?_⟩
  refine AnyT.done (by kernel_rfl) ?_ _
  go_wp2
  go_ret
  exact ⟨rfl, zAA HBW.out HB8.out⟩
 ·go_wp2
  obtain ⟨w4, hw4⟩ := exq (w3.alloc (.cells #[.int .i64 1, .int .i64 1] 3))
  have hb4 : Below w3.heap.size w3 w4 := by rw [hw4]; exact (Below.refl _ _).alloc (Nat.le_refl _) _
  have HY4 := hid (show zAH w4 (some ⟨w3.heap.size, 0, none⟩) [1, 1] by rw [hw4]; exact ints2 w3 1 1 3)
  have HB4 := hid (zAA HB3.out hb4)
  rw [<- hw4]
  clear hb4 hw4
  refine ⟨fun _ => HS.out _ HB4.out, ?_⟩
  refine AnyT.nx (i := 8) rfl ?_
  go_wp2_with (go_at_call 72; refine (two5_c _).mono ?_; rintro e w5 ⟨hb5, a4, cap4, rfl, hR4⟩; have HB5 := hid (zAA HB4.out hb5); have HPV2 := hid (HPV.out _ a4 (some ⟨w3.heap.size, 0, none⟩) cap4 2 HB5.out hR4 (HY4.out.below hb5)); clear hb5 hR4; refine Stop.of ?_)
  refine Stop.go ?_
  go_wp2
  refine ⟨fun _ => HS.out _ HB5.out, ?_⟩
  refine AnyT.nx (i := 11) rfl ?_
  go_wp2_with (go_at_call 61; refine HPV2.out.mono ?_; rintro e w8 ⟨rfl, hb8⟩; have HB8 := hid (zAA HB5.out hb8); clear hb8; refine Stop.of ?_)
  refine Stop.go ?_
  go_wp2
  refine ⟨fun _ => HS.out _ HB8.out, ?_⟩
  refine AnyT.nx (i := 12) rfl ?_
  go_wp2
  refine ⟨fun _ => HS.out _ HB8.out, ?_⟩
  refine AnyT.nx (i := 13) rfl ?_
  go_wp2
  refine ⟨fun _ => HS.out _ HB8.out, ?_⟩
  refine AnyT.done (by kernel_rfl) ?_ _
  go_wp2
  go_ret
  exact ⟨rfl, zAA HBW.out HB8.out⟩
end
section
open Go.RowKit
def AnyB (e : Ending) : Prop := ∃ b, e = .returned (.bool b)
theorem AnyB.of {e : Ending} (b : Bool) (h : e = .returned (.bool b)) : AnyB e := ⟨b, h⟩
theorem long5_c (w : World) (a : Option Addr) (n cap : Nat) (L : List (List Int)) (hn : L.length = n) (hm : n <= maxLen) (H : zAK w a L) :
 Calls Tryz.prog 25 #[.slice a n cap] w fun e w' => AnyB e ∧ w = w' := by
 have HN := hid hn
 have HH := hid H
 clear hn H
 unfold maxLen at hm
 go_enter Tryz.func25, Tryz.ntmps25
 go_wp2
 go_loop [7] (fun i => ∃ k : Nat, k <= n ∧ i = .int .i64 k) (fun i => n - (intOf i).toNat)
 case atStart => exact ⟨0, Nat.zero_le _, rfl⟩
 case round =>
  obtain ⟨k, hk, rfl⟩ := hrel
  by_cases hlt : k < n
  ·have hkl : k < L.length := by rw [HN.out]; exact hlt
   obtain ⟨b, off, ra, rn, rc, rfl, hbs, hq0, hrn, hrm, hri⟩ := HH.out k hkl
   clear hrn hri hkl hrm
   by_cases h1 : 100 < rn
   ·have hi : (100 : Int) < (rn : Int) := by omega
    go_wp2
    go_ret
    exact ⟨AnyB.of _ rfl, rfl⟩
   ·have hi : ¬ (100 : Int) < (rn : Int) := by omega
    go_wp2
    go_round
    case rel => exact ⟨k + 1, by omega, by go_num⟩
    case measure => simp [intOf]; omega
  ·go_wp2
   go_ret
   exact ⟨AnyB.of _ rfl, rfl⟩
end
section
open Go.RowKit
theorem dualFinds_c (w : World) (a : Option Addr) (n cap : Nat) (M : Mask) (hn : M.length = n) (hm : n <= maxLen) (H : zAK w a M) (_ : ∀ y ∈ M, ∀ z ∈ y, zKP z)
 (a2 : Option Addr) (n2 cap2 : Nat) (x : List Int) (hn2 : x.length = n2) (hm2 : n2 <= maxLen) (H2 : zAH w a2 x) (_ : ∀ z ∈ x, zKP z) :
 Calls Tryz.prog 8 #[.slice a n cap, .slice a2 n2 cap2] w fun e w' => e = .returned (.bool true) ∧ Below w.heap.size w w' := by
 have HAW := hid (fun X => awake5_c X)
 have HLI := hid (light_c w a n cap M hn hm H)
 have HLO := hid (fun (X : World) (hX : Below w.heap.size w X) => long5_c (X.alloc (.cells #[.slice a2 n2 cap2] 24)) (some ⟨X.heap.size, 0, none⟩) 1 1 [x] rfl (by decide) (rows_one hn2 hm2 (H2.below hX)))
 have HD := hid (fun (X : World) (hX : Below w.heap.size w X) => dfinds_c X a n cap M hn hm (H.below hX) a2 n2 cap2 x hn2 hm2 (H2.below hX))
 have HR := hid (fun (X : World) (hX : Below w.heap.size w X) => r5Finds_c X a n cap M hn hm (H.below hX) a2 n2 cap2 x hn2 hm2 (H2.below hX))
 obtain ⟨E, hE⟩ := exq (zFD M x)
 rw [<- hE] at HD HR
 obtain ⟨E1, E2⟩ := E
 simp only [] at HD HR
 clear hn hn2 H H2 hE
 go_enter Tryz.func8, Tryz.ntmps8
 go_wp2_with (go_at_call 16; refine HLI.out.mono ?_; rintro e w1 ⟨⟨sb, rfl⟩, rfl⟩; refine Stop.of ?_)
 refine Stop.go ?_
 cases sb
 ·go_wp2_with (go_at_call 18; refine (HAW.out _).mono ?_; rintro e w2 ⟨rfl, hb2⟩)
  go_ret
  exact ⟨rfl, hb2⟩
 go_wp2_with (go_at_call 25; refine (HLO.out _ (Below.refl _ _)).mono ?_; rintro e w1 ⟨⟨lb, rfl⟩, rfl⟩; refine Stop.of ?_)
 refine Stop.go ?_
 obtain ⟨wa, hwa⟩ := exq (w.alloc (.cells #[.slice a2 n2 cap2] 24))
 have HBA := hid (show Below w.heap.size w wa by rw [hwa]; exact (Below.refl _ _).alloc (Nat.le_refl _) _)
 rw [<- hwa]
 clear hwa
 cases lb
 rotate_left
 ·go_wp2_with (go_at_call 18; refine (HAW.out _).mono ?_; rintro e w2 ⟨rfl, hb2⟩)
  go_ret
  exact ⟨rfl, zAA HBA.out hb2⟩
 go_wp2_with (go_at_call 47; refine (HD.out _ HBA.out).mono ?_; rintro e w2 ⟨rfl, hb2⟩; have HB2 := hid (zAA HBA.out hb2); clear hb2; refine Stop.of ?_)
 refine Stop.go ?_
 go_wp2_with (go_at_call 48; refine (HR.out _ HB2.out).mono ?_; rintro e w3 ⟨rfl, hb3⟩; have HB3 := hid (zAA HB2.out hb3); clear hb3; refine Stop.of ?_)
 refine Stop.go ?_
 go_wp2_with (go_at_call 18; refine (HAW.out _).mono ?_; rintro e wA ⟨rfl, hbA⟩)
 go_ret
 exact ⟨rfl, zAA HB3.out hbA⟩
end
end Go.Proofs.YtlffndehhhpgjaaGreat

/- Walks and plain laws for DualScalesRow, part 14. -/
import Derived.Test.YtlffndehhhpgjaaGreatPkDualScalesRow13
namespace Go.Proofs.YtlffndehhhpgjaaGreat
open Go.RowKit
set_option linter.unusedVariables false
set_option linter.unusedSimpArgs false

set_option maxRecDepth 100000 in
set_option maxHeartbeats 4000000 in
theorem dualScales_c (w : World) (a a2 a3 : Option Addr) (n cap n2 cap2 n3 cap3 : Nat) (M : Mask) (Y Z : List Int) (t : Int) (hn : M.length = n) (hn2 : Y.length = n2) (hn3 : Z.length = n3) (hm : n ≤ maxLen) (hm2 : n2 ≤ maxLen) (hm3 : n3 ≤ maxLen)
    (H : RowsAt w a M) (H2 : IntsAt w a2 Y) (H3 : IntsAt w a3 Z) :
    Calls Tryz.prog 3 #[.slice a n cap, .slice a2 n2 cap2, .slice a3 n3 cap3, .int .i64 t] w fun e w' => e = .returned (.bool true) ∧ Below w.heap.size w w' := by
  have HAW := hid (fun X => awake5_c X)
  have HLI := hid (light_c w a n cap M hn hm H)
  have HRY := hid (r3Reading_c w a a2 n cap n2 cap2 M Y hn hn2 hm hm2 H H2)
  have HRZ := hid (fun (X : World) (hX : Below w.heap.size w X) => r3Reading_c X a a3 n cap n3 cap3 M Z hn hn3 hm hm3 (H.below hX) (H3.below hX))
  have HVA := hid (fun (X : World) (hX : Below w.heap.size w X) (L : List Int) (b : Option Addr) (k c : Nat) (hk : L.length = k) (hkm : k ≤ maxLen) (HL : IntsAt X b L) => dvalue_c X a b n cap k c M L hn hk hm hkm (H.below hX) HL)
  have HRL := hid (fun (X : World) (hX : Below w.heap.size w X) (L : List Int) (b : Option Addr) (k c : Nat) (hk : L.length = k) (hkm : k ≤ maxLen) (HL : IntsAt X b L) => r3Reading_c X a b n cap k c M L hn hk hm hkm (H.below hX) HL)
  have HY := hid H2
  have HZ := hid H3
  have HNY := hid hn2
  have HNZ := hid hn3
  have HNM := hid hn
  have HM2 := hid hm2
  have HM3 := hid hm3
  by_cases hy : rdE M Y = 0
  rotate_left
  · rw [decide_eq_false hy] at HRY
    clear hn hn2 hn3 H H2 H3 hy
    go_enter Tryz.func3, Tryz.ntmps3
    go_wp2_with (go_at_call 16; refine HLI.out.mono ?_; rintro e w1 ⟨⟨sb, rfl⟩, rfl⟩; refine Stop.of ?_)
    refine Stop.go ?_
    cases sb
    · go_wp2_with (go_at_call 18; refine (HAW.out _).mono ?_; rintro e w2 ⟨rfl, hb2⟩)
      go_ret
      exact ⟨rfl, hb2⟩
    · go_wp2_with (go_at_call 17; refine HRY.out.mono ?_; rintro e w2 ⟨rfl, rfl⟩; refine Stop.of ?_)
      refine Stop.go ?_
      go_wp2_with (go_at_call 18; refine (HAW.out _).mono ?_; rintro e w2 ⟨rfl, hb2⟩)
      go_ret
      exact ⟨rfl, hb2⟩
  rw [decide_eq_true hy] at HRY
  obtain ⟨hok, hyl, hmil⟩ := rd_ok hy
  obtain ⟨hM, h1, h6, hc1, hc10⟩ := okM_ok hok
  have HYB := hid (mil_le hmil)
  have HTI := hid (fun (X : World) (hX : Below w.heap.size w X) (m : Int) (hT : -1000 ≤ m ∧ m ≤ 1000) => r5times_c X a2 n2 cap2 Y m hn2 (by omega) (H2.below hX) (mil_le hmil) hT)
  have HRD := hid hy
  have HNEG := hid (scale_neg hy (rd_neg hy))
  have HN6 := hid (show n2 = n ∧ n ≤ 6 from ⟨by omega, by omega⟩)
  obtain ⟨r, hr⟩ : ∃ r, r = (valE M Y).1 := ⟨_, rfl⟩
  obtain ⟨E, hE⟩ : ∃ E, E = (valE M Y).2 := ⟨_, rfl⟩
  have HR := hid hr
  have HE := hid hE
  clear hn hn2 hn3 H H2 H3 hy hok hyl hmil hM h1 h6 hc1 hc10 hr hE
  go_enter Tryz.func3, Tryz.ntmps3
  go_wp2_with (go_at_call 16; refine HLI.out.mono ?_; rintro e w1 ⟨⟨sb, rfl⟩, rfl⟩; refine Stop.of ?_)
  refine Stop.go ?_
  cases sb
  · go_wp2_with (go_at_call 18; refine (HAW.out _).mono ?_; rintro e w2 ⟨rfl, hb2⟩)
    go_ret
    exact ⟨rfl, hb2⟩
  go_upto_region 3 with (go_at_call 17; refine HRY.out.mono ?_; rintro e w2 ⟨rfl, rfl⟩; refine Stop.of ?_)
  refine Stop.go ?_
  go_upto_region 3 with fail
  have HV1 := hid (HVA.out w (Below.refl _ _) Y a2 n2 cap2 HNY.out HM2.out HY.out)
  rw [← HR.out, ← HE.out] at HV1
  go_upto_region 4 with (go_at_call 19; refine HV1.out.mono ?_; rintro e w2 ⟨rfl, hb2⟩; have HB2 := hid hb2; clear hb2; refine Stop.of ?_)
  refine Stop.go ?_
  simp only [ratV]
  go_upto_region 4 with fail
  obtain ⟨b1, hb1⟩ : ∃ b1, b1 = w2.heap.size := ⟨_, rfl⟩
  obtain ⟨w3, hw3⟩ : ∃ w3, w3 = w2.alloc (.cells #[.int .i64 r.1, .int .i64 r.2] 29) := ⟨_, rfl⟩
  rw [← hb1, ← hw3]
  have HR3 := hid (show RatI w3 b1 r by rw [hw3, hb1]; exact RatI.made w2 r)
  have HB3 := hid (show Below w.heap.size w w3 by rw [hw3]; exact HB2.out.alloc HB2.out.size _)
  clear hb1 hw3 HV1
  go_upto_region 5 with (go_at_call 20; refine (HTI.out _ HB3.out (-1) (by omega)).mono ?_; rintro e w4 ⟨va, vc, rfl, hi, hb4⟩; have HI4 := hid hi; have HB4 := hid hb4; clear hi hb4; refine Stop.of ?_)
  refine Stop.go ?_
  have HV2 := hid (HVA.out w4 (chain HB3.out HB4.out) (timesY Y (-1)) va n2 vc (by unfold timesY; rw [List.length_map]; exact HNY.out) HM2.out HI4.out)
  rw [HNEG.out, ← HR.out, ← HE.out] at HV2
  go_upto_region 5 with (go_at_call 19; refine HV2.out.mono ?_; rintro e w5 ⟨rfl, hb5⟩; have HB5 := hid (chain HB4.out hb5); clear hb5; refine Stop.of ?_)
  refine Stop.go ?_
  simp only [ratV]
  go_upto_region 5 with fail
  obtain ⟨b2, hb2⟩ : ∃ b2, b2 = w5.heap.size := ⟨_, rfl⟩
  obtain ⟨w6, hw6⟩ : ∃ w6, w6 = w5.alloc (.cells #[.int .i64 r.1, .int .i64 r.2] 29) := ⟨_, rfl⟩
  rw [← hb2, ← hw6]
  have HQ6 := hid (show RatI w6 b2 r by rw [hw6, hb2]; exact RatI.made w5 r)
  have h36 : Below w3.heap.size w3 w6 := by rw [hw6]; exact HB5.out.alloc HB5.out.size _
  have HR6 := hid (HR3.out.keep (h36.block _ HR3.out.lt))
  have HB6 := hid (chain HB3.out h36)
  clear hb2 hw6 HV2 h36
  obtain ⟨x0, x1, x2, x3, x4⟩ := HR6.out.cells
  obtain ⟨y0, y1, y2, y3, y4⟩ := HQ6.out.cells
  by_cases hE0 : E = 0
  rotate_left
  · have hne : (E != 0) = true := by simpa using hE0
    clear hE0
    go_wp2_with (go_at_call 18; refine (HAW.out _).mono ?_; rintro e w7 ⟨rfl, hb7⟩)
    go_ret
    exact ⟨rfl, chain HB6.out hb7⟩
  subst hE0
  go_upto_region 9 with fail
  clear x0 x1 x2 x3 x4 y0 y1 y2 y3 y4
  go_cut [67] from 55 to 66 (fun v wx => (∃ vb, v = .bool vb ∧ (vb = true → 0 < t ∧ t ≤ 1000 ∧ rdE M (timesY Y t) = 0)) ∧ RatI wx b1 r ∧ Below w.heap.size w wx)
  case first =>
    by_cases ht : 0 < t ∧ t ≤ 1000
    · obtain ⟨ht1, ht2⟩ := ht
      have HT := hid (And.intro ht1 ht2)
      go_wp2_with (go_at_call 20; refine (HTI.out _ HB6.out t (by have := HT.out; omega)).mono ?_; rintro e w7 ⟨vb, vd, rfl, hi, hb7⟩; have HI7 := hid hi; have HB7 := hid hb7; clear hi hb7; refine Stop.of ?_)
      refine Stop.go ?_
      have HRR := hid (HRL.out w7 (chain HB6.out HB7.out) (timesY Y t) vb n2 vd (by unfold timesY; rw [List.length_map]; exact HNY.out) HM2.out HI7.out)
      obtain ⟨B, hB⟩ : ∃ B, B = decide (rdE M (timesY Y t) = 0) := ⟨_, rfl⟩
      rw [← hB] at HRR
      have HBB := hid hB
      clear hB
      go_wp2_with (go_at_call 17; refine HRR.out.mono ?_; rintro e w8 ⟨rfl, rfl⟩)
      go_meet
      case rel => exact ⟨⟨B, rfl, fun h => ⟨HT.out.1, HT.out.2, by have := HBB.out; rw [h] at this; exact of_decide_eq_true this.symm⟩⟩, HR6.out.keep (HB7.out.block _ HR6.out.lt), chain HB6.out HB7.out⟩
    · have hcase : ¬ 0 < t ∨ (0 < t ∧ ¬ t ≤ 1000) := by omega
      clear ht
      rcases hcase with h1 | ⟨h1, h2⟩
      · go_wp2
        go_meet
        case rel => exact ⟨⟨false, rfl, fun h => by cases h⟩, HR6.out, HB6.out⟩
      · go_wp2
        go_meet
        case rel => exact ⟨⟨false, rfl, fun h => by cases h⟩, HR6.out, HB6.out⟩
  case rest =>
   obtain ⟨⟨vb, rfl, hvb⟩, hR6, hB6⟩ := hcut
   have HVT := hid hvb
   have HR7 := hid hR6
   have HB7 := hid hB6
   clear hvb hR6 hB6 HR6 HB6 HQ6 HR3 HB2 HB3 HB4 HB5 HI4
   go_upto_if 67 with fail
   rename_i wq
   go_cut [13, 14] from 68 to 87 (fun _ _ wx => RatI wx b1 r ∧ Below w.heap.size w wx)
   case first =>
    cases vb
    · go_wp2
      go_meet
      case rel => exact ⟨HR7.out, HB7.out⟩
    · obtain ⟨ht1, ht2, htr⟩ := HVT.out rfl
      have HT := hid (And.intro ht1 ht2)
      have HSC := hid (scale_times ht1 HRD.out htr HE.out.symm)
      obtain ⟨r2, hr2⟩ : ∃ r2, r2 = (valE M (timesY Y t)).1 := ⟨_, rfl⟩
      have HVR := hid (val_err HE.out.symm).2.valid
      have HVS := hid (val_err HSC.out.1).2.valid
      rw [← HR.out, ← hr2] at HSC
      rw [← HR.out] at HVR
      rw [← hr2] at HVS
      clear ht1 ht2 htr
      go_upto_region 11 with (go_at_call 20; refine (HTI.out _ HB7.out t (by have := HT.out; omega)).mono ?_; rintro e w7 ⟨vb, vd, rfl, hi, hb7⟩; have HI7 := hid hi; have HB8 := hid hb7; clear hi hb7; refine Stop.of ?_)
      refine Stop.go ?_
      have HV3 := hid (HVA.out w7 (chain HB7.out HB8.out) (timesY Y t) vb n2 vd (by unfold timesY; rw [List.length_map]; exact HNY.out) HM2.out HI7.out)
      rw [HSC.out.1, ← hr2] at HV3
      clear hr2
      go_upto_region 11 with (go_at_call 19; refine HV3.out.mono ?_; rintro e w8 ⟨rfl, hb8⟩; have HB9 := hid (chain HB8.out hb8); clear hb8; refine Stop.of ?_)
      refine Stop.go ?_
      simp only [ratV]
      go_upto_region 11 with fail
      obtain ⟨b3, hb3⟩ : ∃ b3, b3 = w8.heap.size := ⟨_, rfl⟩
      obtain ⟨w9, hw9⟩ : ∃ w9, w9 = w8.alloc (.cells #[.int .i64 r2.1, .int .i64 r2.2] 29) := ⟨_, rfl⟩
      rw [← hb3, ← hw9]
      have HQ9 := hid (show RatI w9 b3 r2 by rw [hw9, hb3]; exact RatI.made w8 r2)
      have h99 : Below wc.heap.size wc w9 := by rw [hw9]; exact HB9.out.alloc HB9.out.size _
      have HR9 := hid (HR7.out.keep (h99.block _ HR7.out.lt))
      have HBA := hid (chain HB7.out h99)
      clear hb3 hw9 h99
      have HS := hid (fun (X : World) (hX : Below w9.heap.size w9 X) => show X.cell? ⟨b1, 0, none⟩ = some (.int .i64 r.1) ∧ X.cell? ⟨b1, 1, none⟩ = some (.int .i64 r.2) ∧ X.cell? ⟨b3, 0, none⟩ = some (.int .i64 r2.1) ∧ X.cell? ⟨b3, 1, none⟩ = some (.int .i64 r2.2) from by
        obtain ⟨c0, c1, _⟩ := (HR9.out.keep (hX.block _ HR9.out.lt)).cells
        obtain ⟨d0, d1, _⟩ := (HQ9.out.keep (hX.block _ HQ9.out.lt)).cells
        exact ⟨c0, c1, d0, d1⟩)
      have HOR := hid (fun (X : World) (v u : Value) (h : RatV X v 3 r2.1 r2.2) (k : RatV X u 6 (t * r.1) r.2) => rorder_v X v u 3 6 _ _ _ _ h k (by omega) (by omega))
      rw [HSC.out.2, show cmpI (t * r.1 * r2.2) (t * r.1 * r2.2) = 0 by unfold cmpI; simp] at HOR
      refine plain_region (fun j X => wAll j = true → X.cell? ⟨b1, 0, none⟩ = some (.int .i64 r.1) ∧ X.cell? ⟨b1, 1, none⟩ = some (.int .i64 r.2) ∧ X.cell? ⟨b3, 0, none⟩ = some (.int .i64 r2.1) ∧ X.cell? ⟨b3, 1, none⟩ = some (.int .i64 r2.2)) (by kernel_rfl) ?_
      have hbd : Below w9.heap.size w9 w9.drew := (Below.refl _ _).drew
      generalize w9.drew = wd at hbd ⊢
      have HBD := hid hbd
      clear hbd
      refine AnyT.next (i := 0) (by kernel_rfl) rfl (wpOp_of_list rfl ?_)
      go_wp2
      refine ⟨fun _ => HS.out _ HBD.out, ?_⟩
      refine AnyT.next (i := 1) (by kernel_rfl) rfl (wpOp_of_list rfl ?_)
      go_wp2
      refine ⟨fun _ => HS.out _ HBD.out, ?_⟩
      refine AnyT.next (i := 2) (by kernel_rfl) rfl (wpOp_of_list rfl ?_)
      go_wp2
      refine ⟨fun _ => HS.out _ HBD.out, ?_⟩
      refine AnyT.takeD (i := 3) (v := .agg #[.int .i64 r2.1, .int .i64 r2.2]) rfl rfl (by kernel_rfl) (by kernel_rfl) (by kernel_rfl) (by first | exact (fun _ _ _ h => h) | exact (fun _ _ _ h => absurd h.1 (by simp))) (by kernel_rfl) (by rfl) (by rintro w' ⟨q0, q1, q2, q3⟩; go_simp) (HS.out _ HBD.out) ?_; go_frame
      refine AnyT.takeD (i := 5) (v := .int .i64 t) rfl rfl (by kernel_rfl) (by kernel_rfl) (by kernel_rfl) (by first | exact (fun _ _ _ h => h) | exact (fun _ _ _ h => absurd h.1 (by simp))) (by kernel_rfl) (by rfl) (by rintro w' ⟨q0, q1, q2, q3⟩; go_simp) (HS.out _ HBD.out) ?_; go_frame
      refine AnyT.takeD (i := 6) (v := .agg #[.int .i64 r.1, .int .i64 r.2]) rfl rfl (by kernel_rfl) (by kernel_rfl) (by kernel_rfl) (by first | exact (fun _ _ _ h => h) | exact (fun _ _ _ h => absurd h.1 (by simp))) (by kernel_rfl) (by rfl) (by rintro w' ⟨q0, q1, q2, q3⟩; go_simp) (HS.out _ HBD.out) ?_; go_frame
      refine AnyT.next (i := 4) (by kernel_rfl) rfl (wpOp_of_list rfl ?_)
      go_wp2_with (go_at_call 22; refine (exact_v _ r2.1 r2.2 (by have := validR_iff.1 HVS.out; omega) (by have := validR_iff.1 HVS.out; omega)).mono ?_; rintro e wA ⟨vA, rfl, hvA, hbA⟩; refine Stop.of ?_)
      refine Stop.go ?_
      obtain ⟨sa', aa, ak, ac, ab, am, ae, rfl, _⟩ := hvA.agg
      have HA := hid hvA
      have HBB := hid (chain HBD.out hbA)
      clear hvA hbA
      go_wp2
      refine ⟨fun _ => HS.out _ HBB.out, ?_⟩
      refine AnyT.next (i := 7) (by kernel_rfl) rfl (wpOp_of_list rfl ?_)
      go_wp2_with (go_at_call 22; refine (exact_v _ r.1 r.2 (by have := validR_iff.1 HVR.out; omega) (by have := validR_iff.1 HVR.out; omega)).mono ?_; rintro e wB ⟨vB, rfl, hvB, hbB⟩; refine Stop.of ?_)
      refine Stop.go ?_
      obtain ⟨bs, ba, bk, bc, bb, bm, be, rfl, _⟩ := hvB.agg
      have HVB := hid hvB
      have HA2 := hid (HA.out.below hbB)
      have HBE := hid (chain HBB.out hbB)
      clear hvB hbB
      go_wp2
      refine ⟨fun _ => HS.out _ HBE.out, ?_⟩
      refine AnyT.next (i := 8) (by kernel_rfl) rfl (wpOp_of_list rfl ?_)
      go_wp2_with (go_at_call 23; refine (rtimes_v _ t _ 3 r.1 r.2 (by have := HT.out; omega) HVB.out (by omega)).mono ?_; rintro e wC ⟨vC, rfl, hvC, hbC⟩; refine Stop.of ?_)
      refine Stop.go ?_
      obtain ⟨cs, ca, ck, cc, cb, cm, ce, rfl, _⟩ := hvC.agg
      have HORR := hid (HOR.out wC _ _ (HA2.out.below hbC) hvC)
      have HBF := hid (chain HBE.out hbC)
      clear hvC hbC
      go_wp2
      refine ⟨fun _ => HS.out _ HBF.out, ?_⟩
      refine AnyT.next (i := 9) (by kernel_rfl) rfl (wpOp_of_list rfl ?_)
      go_wp2_with (go_at_call 21; refine HORR.out.mono ?_; rintro e wD ⟨rfl, hbD⟩; refine Stop.of ?_)
      refine Stop.go ?_
      have HBG := hid (chain HBF.out hbD)
      clear hbD
      go_wp2
      refine ⟨fun _ => HS.out _ HBG.out, ?_⟩
      refine AnyT.next (i := 10) (by kernel_rfl) rfl (wpOp_of_list rfl ?_)
      go_wp2
      refine ⟨fun _ => HS.out _ HBG.out, ?_⟩
      refine AnyT.next (i := 11) (by kernel_rfl) rfl (wpOp_of_list rfl ?_)
      go_wp2
      refine ⟨fun _ => HS.out _ HBG.out, ?_⟩
      refine AnyT.done (by kernel_rfl) ?_ _
      go_wp2
      go_meet
      case rel => exact ⟨HR9.out.keep (HBG.out.block _ HR9.out.lt), chain HBA.out HBG.out⟩
   case rest =>
    obtain ⟨hR, hB⟩ := hcut
    have HRC := hid hR
    have HBC := hid hB
    have HRZ1 := hid (HRZ.out wc hB)
    clear hR hB HTI HNEG HLI HRY HR7 HB7 HVT
    by_cases hz : rdE M Z = 0
    rotate_left
    · rw [decide_eq_false hz] at HRZ1
      clear hz
      go_wp2_with (first
        | (go_at_call 17; refine HRZ1.out.mono ?_; rintro e w7 ⟨rfl, rfl⟩)
        | (go_at_call 18; refine (HAW.out _).mono ?_; rintro e w8 ⟨rfl, hb8⟩))
      go_ret
      exact ⟨rfl, chain HBC.out hb8⟩
    rw [decide_eq_true hz] at HRZ1
    have HZR := hid hz
    have HZL := hid (show n3 = n2 by have h1 := (rd_ok hz).2.1; have h2 := HNZ.out; have h3 := HNM.out; have h4 := HN6.out.1; omega)
    have HZB := hid (mil_le (rd_ok hz).2.2)
    clear hz
    have HCL := hid (show (sumY Y Z).length = n2 by unfold sumY; rw [List.length_zipWith]; have h1 := HNY.out; have h2 := HNZ.out; have h3 := HZL.out; omega)
    have HCT := hid (fun (k : Nat) (hk : k < n2) => show (sumY Y Z).take (k + 1) = (sumY Y Z).take k ++ [vec Y k + vec Z k] from by
      rw [List.take_succ_eq_append_getElem (by rw [HCL.out]; exact hk)]
      congr 2
      have h := vec_sumY (y := Y) (z := Z) (by have h1 := HNY.out; have h2 := HNZ.out; have h3 := HZL.out; omega) k
      rw [← h]; unfold vec; rw [List.getElem?_eq_getElem (by rw [HCL.out]; exact hk)]; rfl)
    go_wp2_with (go_at_call 17; refine HRZ1.out.mono ?_; rintro e w7 ⟨rfl, rfl⟩)
    go_loopw [15, 95] (fun v i wr => ∃ k : Nat, k ≤ n2 ∧ i = .int .i64 k ∧ wr.ownsRow wc.heap.size 3 1 v k (((sumY Y Z).take k).map (Value.int .i64)) ∧ Below wc.heap.size wc wr) (fun _ i _ => n2 - (intOf i).toNat)
    case atStart => exact ⟨0, Nat.zero_le _, rfl, World.ownsRow_nil _ _ _ _, Below.refl _ _⟩
    case round =>
      obtain ⟨k, hk, rfl, hown, hbk⟩ := hrel
      by_cases hlt : k < n2
      · obtain ⟨b, off, rfl, hbs, hc⟩ := HY.out k (by rw [HNY.out]; exact hlt)
        obtain ⟨b2, off2, rfl, hbs2, hc2⟩ := HZ.out k (by rw [HNZ.out, HZL.out]; exact hlt)
        have htk := HCT.out k hlt
        have e1 : Y[k]?.getD 0 = vec Y k := rfl
        have e2 : Z[k]?.getD 0 = vec Z k := rfl
        rw [e1] at hc
        rw [e2] at hc2
        have b1' := HYB.out (vec Y k) (by have hk' : k < Y.length := by rw [HNY.out]; exact hlt
                                          unfold vec; rw [List.getElem?_eq_getElem hk']; exact List.getElem_mem hk')
        have b2' := HZB.out (vec Z k) (by have hk' : k < Z.length := by rw [HNZ.out, HZL.out]; exact hlt
                                          unfold vec; rw [List.getElem?_eq_getElem hk']; exact List.getElem_mem hk')
        obtain ⟨p, hp⟩ : ∃ p, p = vec Y k := ⟨_, rfl⟩
        obtain ⟨q, hq⟩ : ∃ q, q = vec Z k := ⟨_, rfl⟩
        rw [← hp] at hc htk b1'
        rw [← hq] at hc2 htk b2'
        obtain ⟨z, hz⟩ : ∃ z, z = p + q := ⟨_, rfl⟩
        rw [← hz] at htk
        have hw2 : IntKind.i64.wrap (p + q) = z := by rw [hz]; exact IntWalk.i64_in _ (by omega)
        obtain ⟨la, lc, rfl⟩ := ownsRow_slice hown
        have HTK := hid htk
        have HO := hid hown
        have hn6 := HN6.out.2
        have hnn := HN6.out.1
        have M1 := hid (show k + 1 ≤ maxLen by unfold maxLen; omega)
        have M2 := hid (show (k + 1) * 8 ≤ 140737488355328 by omega)
        have HBK := hid hbk
        have hki : (k : Int) < (n2 : Int) := by omega
        have hk10 : k ≤ 1000 := by omega
        have hki3 : (k : Int) < (n3 : Int) := by have := HZL.out; omega
        have hki0 : (0 : Int) ≤ (k : Int) := by omega
        have HS := hid (show ∀ X : World, Below w.heap.size w X → X.cell? ⟨b, off + k, none⟩ = some (.int .i64 p) ∧ X.cell? ⟨b2, off2 + k, none⟩ = some (.int .i64 q) from fun X hX => ⟨(hX.cell (p := ⟨b, _, none⟩) hbs).trans hc, (hX.cell (p := ⟨b2, _, none⟩) hbs2).trans hc2⟩)
        clear htk e1 e2 hp hq hz b1' b2' hown hbk hbs hbs2 hc hc2 hn6 hnn
        go_wp2
        refine plain_region (fun j w' => decide (j < 13) = true → w'.cell? ⟨b, off + k, none⟩ = some (.int .i64 p) ∧ w'.cell? ⟨b2, off2 + k, none⟩ = some (.int .i64 q)) (by kernel_rfl) ?_
        have hS := HS.out wr.drew (chain HBC.out HBK.out.drew)
        have HOd := hid (show wr.drew.ownsRow wc.heap.size 3 1 (.slice la k lc) k (((sumY Y Z).take k).map (Value.int .i64)) from HO.out)
        have HBd := hid HBK.out.drew
        have M3 := hid (Nat.le_trans HBK.out.drew.size (le_alloc wr.drew (.cells #[.int .i64 z] 3)))
        generalize wr.drew = wd at hS HOd HBd M3 ⊢
        refine AnyT.takeD (i := 0) (v := .slice la k lc) rfl rfl (by kernel_rfl) (by kernel_rfl) (by kernel_rfl) (by first | exact (fun _ _ _ h => h) | exact (fun _ _ _ h => absurd h.1 (by simp))) (by kernel_rfl) (by rfl) (by rintro w' ⟨q1, q2⟩; go_simp) hS ?_; go_frame
        refine AnyT.takeD (i := 1) (v := .slice (some ⟨b, off, none⟩) n2 cap2) rfl rfl (by kernel_rfl) (by kernel_rfl) (by kernel_rfl) (by first | exact (fun _ _ _ h => h) | exact (fun _ _ _ h => absurd h.1 (by simp))) (by kernel_rfl) (by rfl) (by rintro w' ⟨q1, q2⟩; go_simp) hS ?_; go_frame
        refine AnyT.takeD (i := 2) (v := .int .i64 k) rfl rfl (by kernel_rfl) (by kernel_rfl) (by kernel_rfl) (by first | exact (fun _ _ _ h => h) | exact (fun _ _ _ h => absurd h.1 (by simp))) (by kernel_rfl) (by rfl) (by rintro w' ⟨q1, q2⟩; go_simp) hS ?_; go_frame
        refine AnyT.takeD (i := 3) (v := .pointer (some ⟨b, off + k, none⟩)) rfl rfl (by kernel_rfl) (by kernel_rfl) (by kernel_rfl) (by first | exact (fun _ _ _ h => h) | exact (fun _ _ _ h => absurd h.1 (by simp))) (by kernel_rfl) (by rfl) (by rintro w' ⟨q1, q2⟩; go_simp) hS ?_; go_frame
        refine AnyT.takeD (i := 4) (v := .int .i64 p) rfl rfl (by kernel_rfl) (by kernel_rfl) (by kernel_rfl) (by first | exact (fun _ _ _ h => h) | exact (fun _ _ _ h => absurd h.1 (by simp))) (by kernel_rfl) (by rfl) (by rintro w' ⟨q1, q2⟩; go_simp) hS ?_; go_frame
        refine AnyT.takeD (i := 5) (v := .slice (some ⟨b2, off2, none⟩) n3 cap3) rfl rfl (by kernel_rfl) (by kernel_rfl) (by kernel_rfl) (by first | exact (fun _ _ _ h => h) | exact (fun _ _ _ h => absurd h.1 (by simp))) (by kernel_rfl) (by rfl) (by rintro w' ⟨q1, q2⟩; go_simp) hS ?_; go_frame
        refine AnyT.takeD (i := 6) (v := .int .i64 k) rfl rfl (by kernel_rfl) (by kernel_rfl) (by kernel_rfl) (by first | exact (fun _ _ _ h => h) | exact (fun _ _ _ h => absurd h.1 (by simp))) (by kernel_rfl) (by rfl) (by rintro w' ⟨q1, q2⟩; go_simp) hS ?_; go_frame
        refine AnyT.takeD (i := 7) (v := .pointer (some ⟨b2, off2 + k, none⟩)) rfl rfl (by kernel_rfl) (by kernel_rfl) (by kernel_rfl) (by first | exact (fun _ _ _ h => h) | exact (fun _ _ _ h => absurd h.1 (by simp))) (by kernel_rfl) (by rfl) (by rintro w' ⟨q1, q2⟩; go_simp) hS ?_; go_frame
        refine AnyT.takeD (i := 8) (v := .int .i64 q) rfl rfl (by kernel_rfl) (by kernel_rfl) (by kernel_rfl) (by first | exact (fun _ _ _ h => h) | exact (fun _ _ _ h => absurd h.1 (by simp))) (by kernel_rfl) (by rfl) (by rintro w' ⟨q1, q2⟩; go_simp) hS ?_; go_frame
        refine AnyT.takeD (i := 9) (v := .int .i64 z) rfl rfl (by kernel_rfl) (by kernel_rfl) (by kernel_rfl) (by first | exact (fun _ _ _ h => h) | exact (fun _ _ _ h => absurd h.1 (by simp))) (by kernel_rfl) (by rfl) (by rintro w' hw'; go_simp) hS ?_; go_frame
        refine AnyT.next (i := 10) (by kernel_rfl) rfl (wpOp_of_list rfl ?_)
        go_wp2
        refine ⟨fun _ => HS.out _ (chain HBC.out (HBd.out.alloc HBd.out.size _)), ?_⟩
        refine AnyT.next (i := 11) (by kernel_rfl) rfl (wpOp_of_list rfl ?_)
        (refine wpList_app _ rfl (.tmp 98) (.tmp 108) 24 rfl wc.heap.size 3 (.int .i64 0) 1 8 Tryz.underlying24 li_int rfl Nat.one_pos (.slice la k lc) k _ rfl (HOd.out.alloc _) (some ⟨wd.heap.size, 0, none⟩) 1 1 [.int .i64 z] rfl rfl no_none (one_news wd _ _) (li_one _) M1.out M2.out M3.out ?_)
        intro a9 c9 w9 own9 g9
        have hB9 : Below wc.heap.size wc w9 := (HBd.out.alloc HBd.out.size _).grown g9 M3.out (fun k hk => (HOd.out.lt k hk).1)
        have hS9 := HS.out w9 (chain HBC.out hB9)
        refine And.intro (fun _ => hS9) ?_
        refine AnyT.takeD (i := 12) (v := .slice a9 (k + 1) c9) rfl rfl (by kernel_rfl) (by kernel_rfl) (by kernel_rfl) (by first | exact (fun _ _ _ h => h) | exact (fun _ _ _ h => absurd h.1 (by simp))) (by kernel_rfl) (by rfl) (by rintro w' ⟨q1, q2⟩; go_simp) hS9 ?_; go_frame
        refine ⟨by kernel_rfl, ?_⟩
        have HB9 := hid hB9
        have HO9 := hid own9
        clear hB9 own9 g9 hS hS9
        go_wp2
        refine ⟨⟨k + 1, by omega, by go_num, ?_, HB9.out⟩, by simp [intOf]; omega⟩
        rw [HTK.out]
        simpa using HO9.out
      · obtain rfl : k = n2 := by omega
        rw [List.take_of_length_le (by rw [HCL.out]; exact Nat.le_refl _)] at hown
        obtain ⟨va, vc, rfl, hia⟩ := ints_of_own hown HCL.out
        have HIA := hid hia.1
        have HBK := hid (chain HBC.out hbk)
        have HRK := hid (HRC.out.keep (hbk.block _ HRC.out.lt))
        have HV4 := hid (HVA.out wr HBK.out Z a3 n3 cap3 HNZ.out HM3.out (HZ.out.below HBK.out))
        obtain ⟨rz, hrz⟩ : ∃ rz, rz = (valE M Z).1 := ⟨_, rfl⟩
        obtain ⟨Ez, hEz⟩ : ∃ E, E = (valE M Z).2 := ⟨_, rfl⟩
        rw [← hrz, ← hEz] at HV4
        have HRZ2 := hid hrz
        have HEZ := hid hEz
        clear hown hia hbk hrz hEz
        have hni : ¬ ((k : Int) < (k : Int)) := by omega
        go_upto_region 22 with (go_at_call 19; refine HV4.out.mono ?_; rintro e w7 ⟨rfl, hb7⟩; have HB7 := hid hb7; clear hb7; refine Stop.of ?_)
        refine Stop.go ?_
        simp only [ratV]
        go_upto_region 22 with fail
        obtain ⟨b7, hb7⟩ : ∃ b7, b7 = w7.heap.size := ⟨_, rfl⟩
        obtain ⟨w8, hw8⟩ : ∃ w8, w8 = w7.alloc (.cells #[.int .i64 rz.1, .int .i64 rz.2] 29) := ⟨_, rfl⟩
        rw [← hb7, ← hw8]
        have HQ8 := hid (show RatI w8 b7 rz by rw [hw8, hb7]; exact RatI.made w7 rz)
        have h88 : Below wr.heap.size wr w8 := by rw [hw8]; exact HB7.out.alloc HB7.out.size _
        have HR8 := hid (HRK.out.keep (h88.block _ HRK.out.lt))
        have HB8 := hid (chain HBK.out h88)
        have HI8 := hid (HIA.out.below h88)
        clear hb7 hw8 h88 HV4
        have HV5 := hid (HVA.out w8 HB8.out (sumY Y Z) va k vc HCL.out HM2.out HI8.out)
        obtain ⟨rs, hrs⟩ : ∃ rs, rs = (valE M (sumY Y Z)).1 := ⟨_, rfl⟩
        obtain ⟨Es, hEs⟩ : ∃ E, E = (valE M (sumY Y Z)).2 := ⟨_, rfl⟩
        rw [← hrs, ← hEs] at HV5
        have HRS := hid hrs
        have HES := hid hEs
        clear hrs hEs
        go_upto_region 23 with (go_at_call 19; refine HV5.out.mono ?_; rintro e w9 ⟨rfl, hb9⟩; have HB9 := hid hb9; clear hb9; refine Stop.of ?_)
        refine Stop.go ?_
        simp only [ratV]
        go_upto_region 23 with fail
        obtain ⟨b9, hb9⟩ : ∃ b9, b9 = w9.heap.size := ⟨_, rfl⟩
        obtain ⟨wA, hwA⟩ : ∃ wA, wA = w9.alloc (.cells #[.int .i64 rs.1, .int .i64 rs.2] 29) := ⟨_, rfl⟩
        rw [← hb9, ← hwA]
        have HTA := hid (show RatI wA b9 rs by rw [hwA, hb9]; exact RatI.made w9 rs)
        have hAA : Below w8.heap.size w8 wA := by rw [hwA]; exact HB9.out.alloc HB9.out.size _
        have HRA := hid (HR8.out.keep (hAA.block _ HR8.out.lt))
        have HQA := hid (HQ8.out.keep (hAA.block _ HQ8.out.lt))
        have HBA := hid (chain HB8.out hAA)
        have HIA2 := hid (HI8.out.below hAA)
        clear hb9 hwA hAA HV5
        by_cases hez : Ez = 0
        rotate_left
        · have hne : (Ez != 0) = true := by simpa using hez
          clear hez
          go_wp2_with (go_at_call 18; refine (HAW.out _).mono ?_; rintro e wB ⟨rfl, hbB⟩)
          go_ret
          exact ⟨rfl, chain HBA.out hbB⟩
        subst hez
        have HRR := hid (HRL.out wA HBA.out (sumY Y Z) va k vc HCL.out HM2.out HIA2.out)
        by_cases hsr : rdE M (sumY Y Z) = 0
        rotate_left
        · rw [decide_eq_false hsr] at HRR
          clear hsr
          go_wp2_with (first
            | (go_at_call 17; refine HRR.out.mono ?_; rintro e wB ⟨rfl, rfl⟩)
            | (go_at_call 18; refine (HAW.out _).mono ?_; rintro e wC ⟨rfl, hbC⟩))
          go_ret
          exact ⟨rfl, chain HBA.out hbC⟩
        rw [decide_eq_true hsr] at HRR
        obtain ⟨hs1, hs2⟩ := scale_sum HRD.out HZR.out hsr HE.out.symm HEZ.out.symm
        have HVR := hid (val_err HE.out.symm).2.valid
        have HVZ := hid (val_err HEZ.out.symm).2.valid
        have HVS := hid (val_err hs1).2.valid
        rw [← HR.out] at HVR hs2
        rw [← HRZ2.out] at HVZ hs2
        rw [← HRS.out] at HVS hs2
        have hes0 : Es = 0 := HES.out.trans hs1
        subst hes0
        obtain ⟨cv, hcv⟩ : ∃ cv, cv = cmpI (rs.1 * (r.2 * rz.2)) ((r.1 * rz.2 + rz.1 * r.2) * rs.2) := ⟨_, rfl⟩
        have hc0 : cv ≤ 0 := by rw [hcv]; unfold cmpI; split <;> (try split) <;> omega
        have HOR := hid (fun (X : World) (v u : Value) (h : RatV X v 3 rs.1 rs.2) (k : RatV X u 7 (r.1 * rz.2 + rz.1 * r.2) (r.2 * rz.2)) => rorder_v X v u 3 7 _ _ _ _ h k (by omega) (by omega))
        rw [← hcv] at HOR
        clear hs1 hs2 hcv hsr
        go_upto_region 25 with (go_at_call 17; refine HRR.out.mono ?_; rintro e wB ⟨rfl, rfl⟩; refine Stop.of ?_)
        refine Stop.go ?_
        go_upto_region 25 with fail
        have HS := hid (fun (X : World) (hX : Below wA.heap.size wA X) => show X.cell? ⟨b1, 0, none⟩ = some (.int .i64 r.1) ∧ X.cell? ⟨b1, 1, none⟩ = some (.int .i64 r.2) ∧ X.cell? ⟨b7, 0, none⟩ = some (.int .i64 rz.1) ∧ X.cell? ⟨b7, 1, none⟩ = some (.int .i64 rz.2) ∧ X.cell? ⟨b9, 0, none⟩ = some (.int .i64 rs.1) ∧ X.cell? ⟨b9, 1, none⟩ = some (.int .i64 rs.2) from by
          obtain ⟨c0, c1, _⟩ := (HRA.out.keep (hX.block _ HRA.out.lt)).cells
          obtain ⟨d0, d1, _⟩ := (HQA.out.keep (hX.block _ HQA.out.lt)).cells
          obtain ⟨g0, g1, _⟩ := (HTA.out.keep (hX.block _ HTA.out.lt)).cells
          exact ⟨c0, c1, d0, d1, g0, g1⟩)
        refine plain_region (fun j X => wAll j = true → X.cell? ⟨b1, 0, none⟩ = some (.int .i64 r.1) ∧ X.cell? ⟨b1, 1, none⟩ = some (.int .i64 r.2) ∧ X.cell? ⟨b7, 0, none⟩ = some (.int .i64 rz.1) ∧ X.cell? ⟨b7, 1, none⟩ = some (.int .i64 rz.2) ∧ X.cell? ⟨b9, 0, none⟩ = some (.int .i64 rs.1) ∧ X.cell? ⟨b9, 1, none⟩ = some (.int .i64 rs.2)) (by kernel_rfl) ?_
        have hbd : Below wA.heap.size wA wA.drew := (Below.refl _ _).drew
        generalize wA.drew = wd at hbd ⊢
        have HBD := hid hbd
        clear hbd
        refine AnyT.next (i := 0) (by kernel_rfl) rfl (wpOp_of_list rfl ?_)
        go_wp2
        refine ⟨fun _ => HS.out _ HBD.out, ?_⟩
        refine AnyT.next (i := 1) (by kernel_rfl) rfl (wpOp_of_list rfl ?_)
        go_wp2
        refine ⟨fun _ => HS.out _ HBD.out, ?_⟩
        refine AnyT.next (i := 2) (by kernel_rfl) rfl (wpOp_of_list rfl ?_)
        go_wp2
        refine ⟨fun _ => HS.out _ HBD.out, ?_⟩
        refine AnyT.takeD (i := 3) (v := .agg #[.int .i64 rs.1, .int .i64 rs.2]) rfl rfl (by kernel_rfl) (by kernel_rfl) (by kernel_rfl) (by first | exact (fun _ _ _ h => h) | exact (fun _ _ _ h => absurd h.1 (by simp))) (by kernel_rfl) (by rfl) (by rintro w' ⟨q0, q1, q2, q3, q4, q5⟩; go_simp) (HS.out _ HBD.out) ?_; go_frame
        refine AnyT.takeD (i := 5) (v := .agg #[.int .i64 r.1, .int .i64 r.2]) rfl rfl (by kernel_rfl) (by kernel_rfl) (by kernel_rfl) (by first | exact (fun _ _ _ h => h) | exact (fun _ _ _ h => absurd h.1 (by simp))) (by kernel_rfl) (by rfl) (by rintro w' ⟨q0, q1, q2, q3, q4, q5⟩; go_simp) (HS.out _ HBD.out) ?_; go_frame
        refine AnyT.takeD (i := 7) (v := .agg #[.int .i64 rz.1, .int .i64 rz.2]) rfl rfl (by kernel_rfl) (by kernel_rfl) (by kernel_rfl) (by first | exact (fun _ _ _ h => h) | exact (fun _ _ _ h => absurd h.1 (by simp))) (by kernel_rfl) (by rfl) (by rintro w' ⟨q0, q1, q2, q3, q4, q5⟩; go_simp) (HS.out _ HBD.out) ?_; go_frame
        refine AnyT.next (i := 4) (by kernel_rfl) rfl (wpOp_of_list rfl ?_)
        go_wp2_with (go_at_call 22; refine (exact_v _ rs.1 rs.2 (by have := validR_iff.1 HVS.out; omega) (by have := validR_iff.1 HVS.out; omega)).mono ?_; rintro e wB ⟨vB, rfl, hvB, hbB⟩; refine Stop.of ?_)
        refine Stop.go ?_
        obtain ⟨sa', aa, ak, ac, ab, am, ae, rfl, _⟩ := hvB.agg
        have HA := hid hvB
        have HB1 := hid (chain HBD.out hbB)
        clear hvB hbB
        go_wp2
        refine ⟨fun _ => HS.out _ HB1.out, ?_⟩
        refine AnyT.next (i := 6) (by kernel_rfl) rfl (wpOp_of_list rfl ?_)
        go_wp2_with (go_at_call 22; refine (exact_v _ r.1 r.2 (by have := validR_iff.1 HVR.out; omega) (by have := validR_iff.1 HVR.out; omega)).mono ?_; rintro e wC ⟨vC, rfl, hvC, hbC⟩; refine Stop.of ?_)
        refine Stop.go ?_
        obtain ⟨bs, ba, bk, bc, bb, bm, be, rfl, _⟩ := hvC.agg
        have HVB := hid hvC
        have HA2 := hid (HA.out.below hbC)
        have HB2 := hid (chain HB1.out hbC)
        clear hvC hbC
        go_wp2
        refine ⟨fun _ => HS.out _ HB2.out, ?_⟩
        refine AnyT.next (i := 8) (by kernel_rfl) rfl (wpOp_of_list rfl ?_)
        go_wp2_with (go_at_call 22; refine (exact_v _ rz.1 rz.2 (by have := validR_iff.1 HVZ.out; omega) (by have := validR_iff.1 HVZ.out; omega)).mono ?_; rintro e wD ⟨vD, rfl, hvD, hbD⟩; refine Stop.of ?_)
        refine Stop.go ?_
        obtain ⟨cs, ca, ck, cc, cb, cm, ce, rfl, _⟩ := hvD.agg
        have HVC := hid hvD
        have HVB2 := hid (HVB.out.below hbD)
        have HA3 := hid (HA2.out.below hbD)
        have HB3 := hid (chain HB2.out hbD)
        clear hvD hbD
        go_wp2
        refine ⟨fun _ => HS.out _ HB3.out, ?_⟩
        refine AnyT.next (i := 9) (by kernel_rfl) rfl (wpOp_of_list rfl ?_)
        go_wp2_with (go_at_call 24; refine (rplus_v _ _ _ 3 3 r.1 r.2 rz.1 rz.2 HVB2.out HVC.out (by omega) (by omega)).mono ?_; rintro e wE ⟨vE, rfl, hvE, hbE⟩; refine Stop.of ?_)
        refine Stop.go ?_
        obtain ⟨ds, da, dk, dc, db, dm, de, rfl, _⟩ := hvE.agg
        have HORR := hid (HOR.out wE _ _ (HA3.out.below hbE) hvE)
        have HB4 := hid (chain HB3.out hbE)
        clear hvE hbE
        go_wp2
        refine ⟨fun _ => HS.out _ HB4.out, ?_⟩
        refine AnyT.next (i := 10) (by kernel_rfl) rfl (wpOp_of_list rfl ?_)
        go_wp2_with (go_at_call 21; refine HORR.out.mono ?_; rintro e wF ⟨rfl, hbF⟩; refine Stop.of ?_)
        refine Stop.go ?_
        have HB5 := hid (chain HB4.out hbF)
        clear hbF
        go_wp2
        refine ⟨fun _ => HS.out _ HB5.out, ?_⟩
        refine AnyT.next (i := 11) (by kernel_rfl) rfl (wpOp_of_list rfl ?_)
        go_wp2
        refine ⟨fun _ => HS.out _ HB5.out, ?_⟩
        refine AnyT.next (i := 12) (by kernel_rfl) rfl (wpOp_of_list rfl ?_)
        go_wp2
        refine ⟨fun _ => HS.out _ HB5.out, ?_⟩
        refine AnyT.next (i := 13) (by kernel_rfl) rfl (wpOp_of_list rfl ?_)
        go_wp2
        refine ⟨fun _ => HS.out _ HB5.out, ?_⟩
        refine AnyT.next (i := 14) (by kernel_rfl) rfl (wpOp_of_list rfl ?_)
        go_wp2_with (go_at_call 18; refine (HAW.out _).mono ?_; rintro e wG ⟨rfl, hbG⟩; refine Stop.of ?_)
        refine Stop.go ?_
        have HB6 := hid (chain HB5.out hbG)
        clear hbG
        go_wp2
        refine ⟨fun _ => HS.out _ HB6.out, ?_⟩
        refine AnyT.next (i := 15) (by kernel_rfl) rfl (wpOp_of_list rfl ?_)
        go_wp2
        refine ⟨fun _ => HS.out _ HB6.out, ?_⟩
        refine AnyT.next (i := 16) (by kernel_rfl) rfl (wpOp_of_list rfl ?_)
        go_wp2
        refine ⟨fun _ => HS.out _ HB6.out, ?_⟩
        refine AnyT.done (by kernel_rfl) ?_ _
        go_wp2
        go_ret
        exact ⟨rfl, chain HBA.out HB6.out⟩
theorem dualScales_l (w : World) (a : Option Addr) (n cap : Nat) (M : Mask) (hn : M.length = n) (hm : n ≤ maxLen) (H : RowsAt w a M) (_ : ∀ y ∈ M, ∀ z ∈ y, Fits64 z)
    (a2 : Option Addr) (n2 cap2 : Nat) (y : List Int) (hn2 : y.length = n2) (hm2 : n2 ≤ maxLen) (H2 : IntsAt w a2 y) (_ : ∀ z ∈ y, Fits64 z)
    (a3 : Option Addr) (n3 cap3 : Nat) (z : List Int) (hn3 : z.length = n3) (hm3 : n3 ≤ maxLen) (H3 : IntsAt w a3 z) (_ : ∀ y ∈ z, Fits64 y) (t : Int) (_ : Fits64 t) :
    Calls Tryz.prog 3 #[.slice a n cap, .slice a2 n2 cap2, .slice a3 n3 cap3, .int .i64 t] w fun e w' => e = .returned (.bool true) ∧ Below w.heap.size w w' :=
  dualScales_c w a a2 a3 n cap n2 cap2 n3 cap3 M y z t hn hn2 hn3 hm hm2 hm3 H H2 H3
end Go.Proofs.YtlffndehhhpgjaaGreat

/- The statement FaultAll: the walk of the law. -/
import Derived.Test.YthaampmdponhbaaDoorFltAB
import Derived.Test.YthaampmdponhbaaDoorLift
namespace Go.Proofs.YthaampmdponhbaaDoor
open Go.RowKit
set_option linter.unusedVariables false

theorem sameFaults_t (W : World) (a a2 : Option Addr) (n cap cap2 : Nat) (l : List Flt) (hn : l.length = n) (hm : n ≤ maxLen) (H : FltsAt W a l) (H2 : FltsAt W a2 l) :
    Calls Tryd.prog 30 #[.slice a n cap, .slice a2 n cap2] W fun e w' => e = .returned (.bool true) ∧ Below W.heap.size W w' :=
  (sameFaults_c W a a2 n cap n cap2 l l hn hn hm hm H H2).mono fun e w' ⟨h1, k, h2⟩ => ⟨by rw [h1]; simp, by rw [h2]; exact below_drewN (Below.refl _ _) _⟩
theorem sameInts_t (W : World) (a a2 : Option Addr) (n cap cap2 : Nat) (l : List Int) (hn : l.length = n) (hm : n ≤ maxLen) (H : IntsAt W a l) (H2 : IntsAt W a2 l) :
    Calls Tryd.prog 12 #[.slice a n cap, .slice a2 n cap2] W fun e w' => e = .returned (.bool true) ∧ Below W.heap.size W w' :=
  (sameInts_c W a a2 n cap n cap2 l l hn hn hm hm H H2).mono fun e w' ⟨h1, k, h2⟩ => ⟨by rw [h1]; simp, by rw [h2]; exact below_drewN (Below.refl _ _) _⟩

theorem faultyL_len {M : Mask} {f : Flt} : (faultyL M f).length ≤ maxLen := by
  unfold faultyL
  split
  · rename_i h; rw [faultyM_row]; have := (okM_len (validF_ok h).1).2.1; unfold maxLen; omega
  · simp
theorem readsL_len {M : Mask} {f : Flt} {x : List Int} : (readsL M f x).length ≤ maxLen := by
  unfold readsL
  split
  · rename_i h
    have hv : validF M f = true := by
      unfold readsE at h
      by_cases hv : validF M f = true
      · exact hv
      · rw [if_neg hv] at h; simp at h
    rw [readF_length]; have := (okM_len (validF_ok hv).1).2.1; unfold maxLen; omega
  · simp

set_option maxRecDepth 100000 in
set_option maxHeartbeats 4000000 in
theorem faultAll_c (w : World) (ht : Tab w) (a : Option Addr) (n cap : Nat) (M : Mask) (hn : M.length = n) (hm : n ≤ maxLen) (H : RowsAt w a M) (f g : Flt)
    (a3 : Option Addr) (n3 cap3 : Nat) (t : List Tst) (hn3 : t.length = n3) (hm3 : n3 ≤ maxLen) (H3 : TestsAt w a3 t)
    (a4 : Option Addr) (n4 cap4 : Nat) (x : List Int) (hn4 : x.length = n4) (hm4 : n4 ≤ maxLen) (H4 : IntsAt w a4 x) :
    Calls Tryd.prog 5 #[.slice a n cap, f.val, g.val, .slice a3 n3 cap3, .slice a4 n4 cap4] w fun e w' => e = .returned (.bool true) ∧ Below w.heap.size w w' := by
  obtain ⟨wg, hwg, hb0, hcells⟩ := fltBox2 w f g
  have HFit := hid (fit_c wg a n cap M hn hm (H.below hb0))
  have HT := hid (tests_c wg a3 n3 cap3 t hn3 hm3 (H3.below hb0))
  have HAw := hid (fun (W : World) (hb : Below wg.heap.size wg W) => awake_c W (ht.below (chain hb0 hb)))
  have HA1 := hid (fun (W : World) (hb : Below wg.heap.size wg W) => All_c W a n cap M hn hm (H.below (chain hb0 hb)))
  have HA2 := hid (fun (W : World) (hb : Below wg.heap.size wg W) => refAll2_c W a n cap M hn hm (H.below (chain hb0 hb)))
  have HF1 := hid (fun (W : World) (hb : Below wg.heap.size wg W) => Faulty_c W a n cap M hn hm (H.below (chain hb0 hb)) f)
  have HF2 := hid (fun (W : World) (hb : Below wg.heap.size wg W) => refFaulty2_c W a n cap M hn hm (H.below (chain hb0 hb)) f)
  have HV1 := hid (fun (W : World) (hb : Below wg.heap.size wg W) => faultValid_c W a n cap M hn hm (H.below (chain hb0 hb)) f)
  have HV2 := hid (fun (W : World) (hb : Below wg.heap.size wg W) => refFValid_c W a n cap M hn hm (H.below (chain hb0 hb)) f)
  have HT1 := hid (fun (W : World) (hb : Below wg.heap.size wg W) => faultValidTests_c W a n cap M hn hm (H.below (chain hb0 hb)) a3 n3 cap3 t hn3 hm3 (H3.below (chain hb0 hb)))
  have HT2 := hid (fun (W : World) (hb : Below wg.heap.size wg W) => refValidTests_c W a n cap M hn hm (H.below (chain hb0 hb)) a3 n3 cap3 t hn3 hm3 (H3.below (chain hb0 hb)))
  have HR1 := hid (fun (W : World) (hb : Below wg.heap.size wg W) => Reads_c W a n cap M hn hm (H.below (chain hb0 hb)) f a4 n4 cap4 x hn4 hm4 (H4.below (chain hb0 hb)))
  have HR2 := hid (fun (W : World) (hb : Below wg.heap.size wg W) => refReads2_c W a n cap M hn hm (H.below (chain hb0 hb)) f a4 n4 cap4 x hn4 hm4 (H4.below (chain hb0 hb)))
  have HO1 := hid (fun (W : World) (hb : Below wg.heap.size wg W) => One_c W a n cap M hn hm (H.below (chain hb0 hb)) f g)
  have HO2 := hid (fun (W : World) (hb : Below wg.heap.size wg W) => refOne_c W a n cap M hn hm (H.below (chain hb0 hb)) f g)
  have HC := hid hcells
  have HB := hid (fun (W : World) (hb : Below wg.heap.size wg W) => chain hb0 hb)
  have HWG := hid hwg
  unfold maxLen at hm hm3 hm4
  clear hn H hn3 H3 hn4 H4 hcells hb0 hwg ht
  by_cases hfit : fitM M = true ∧ fitT t = true ∧ n4 ≤ 20
  · obtain ⟨h1, h2, h3⟩ := hfit
    rw [h1] at HFit
    rw [h2] at HT
    clear h1 h2
    obtain ⟨AL, hAL⟩ : ∃ AL, AL = allL M := ⟨_, rfl⟩
    obtain ⟨E1, hE1⟩ : ∃ E, E = maskE M := ⟨_, rfl⟩
    obtain ⟨FL, hFL⟩ : ∃ FL, FL = faultyL M f := ⟨_, rfl⟩
    obtain ⟨E2, hE2⟩ : ∃ E, E = faultE M f := ⟨_, rfl⟩
    obtain ⟨RL, hRL⟩ : ∃ FL, FL = readsL M f x := ⟨_, rfl⟩
    obtain ⟨E3, hE3⟩ : ∃ E, E = readsE M f x := ⟨_, rfl⟩
    obtain ⟨OB, hOB⟩ : ∃ B, B = oneB M f g := ⟨_, rfl⟩
    obtain ⟨E4, hE4⟩ : ∃ E, E = oneE M f g := ⟨_, rfl⟩
    have HLF := hid (@faultyL_len M f)
    have HLR := hid (@readsL_len M f x)
    rw [← hAL, ← hE1] at HA1 HA2
    rw [← hFL, ← hE2] at HF1 HF2
    rw [← hRL, ← hE3] at HR1 HR2
    rw [← hOB, ← hE4] at HO1 HO2
    rw [← hFL] at HLF
    rw [← hRL] at HLR
    obtain ⟨V1, hV1⟩ : ∃ B, B = validF M f := ⟨_, rfl⟩
    obtain ⟨V2, hV2⟩ : ∃ B, B = okTests M t := ⟨_, rfl⟩
    rw [← hV1] at HV1 HV2
    rw [← hV2] at HT1 HT2
    clear hAL hE1 hFL hE2 hRL hE3 hOB hE4 hV1 hV2
    obtain ⟨kind, row, pixel⟩ := f
    obtain ⟨gk, gr, gp⟩ := g
    simp only [Flt.val] at HF1 HF2 HV1 HV2 HR1 HR2 HO1 HO2 HC HWG ⊢
    go_enter Tryd.func5, Tryd.ntmps5
    go_wp2_with fail
    rw [← HWG.out]
    go_wp2_with (first
      | (go_at_call 8; refine HFit.out.mono ?_; rintro e w1 ⟨rfl, rfl⟩)
      | (go_at_call 22; refine HT.out.mono ?_; rintro e w1 ⟨rfl, hb1⟩)
      | (go_at_call 21; refine (HA1.out _ hb1).mono ?_; rintro e w2 ⟨v2, base2, rfl, hbase2, hF2, hb2⟩; refine Stop.of ?_))
    refine Stop.go ?_
    have hbw2 := chain hb1 hb2
    obtain ⟨va2, vc2, rfl, hal, hA2⟩ := hF2.reads
    obtain ⟨q, hq⟩ : ∃ q, q = AL.length := ⟨_, rfl⟩
    rw [← hq] at hal ⊢
    have HQ := hid hq
    have HAL2 := hid hA2
    clear hF2 hA2 hbase2 hq
    go_wp2_with (go_at_call 23; refine (HA2.out _ hbw2).mono ?_; rintro e w3 ⟨v3, base3, rfl, hbase3, hF3, hb3⟩; refine Stop.of ?_)
    refine Stop.go ?_
    have hbw3 := chain hbw2 hb3
    obtain ⟨va3, vc3, rfl, _, hA3⟩ := hF3.reads
    rw [← HQ.out]
    have HAL3 := hid hA3
    have HAL23 := hid (HAL2.out.below hb3)
    obtain ⟨⟨f0, f1, f2⟩, f3, f4, f5⟩ := HC.out w3 hbw3
    clear hF3 hA3 hbase3 HAL2
    go_wp2_with (go_at_call 24; refine (HF1.out _ hbw3).mono ?_; rintro e w4 ⟨va4, vc4, rfl, hA4, hb4⟩; refine Stop.of ?_)
    refine Stop.go ?_
    have hbw4 := chain hbw3 hb4
    obtain ⟨p, hp⟩ : ∃ p, p = FL.length := ⟨_, rfl⟩
    have hpm : p ≤ maxLen := by rw [hp]; exact HLF.out
    rw [← hp]
    have HP := hid hp
    have HAL4 := hid hA4
    clear hp hA4 f0 f1 f2 f3 f4 f5
    obtain ⟨⟨f0, f1, f2⟩, f3, f4, f5⟩ := HC.out w4 hbw4
    go_wp2_with (go_at_call 25; refine (HF2.out _ hbw4).mono ?_; rintro e w5 ⟨va5, vc5, rfl, hA5, hb5⟩; refine Stop.of ?_)
    refine Stop.go ?_
    have hbw5 := chain hbw4 hb5
    rw [← HP.out]
    have HAL5 := hid hA5
    have HAL45 := hid (HAL4.out.below hb5)
    have HAL35 := hid (HAL3.out.below (chain hb4 hb5))
    have HAL25 := hid (HAL23.out.below (chain hb4 hb5))
    clear hA5 f0 f1 f2 f3 f4 f5
    have hcs := HC.out w5 hbw5
    have hsw : w.heap.size + 1 < w5.heap.size := by have := hbw5.size; have : wg.heap.size = w.heap.size + 2 := by rw [HWG.out]; simp
                                                    omega
    have l0 := lift_cell (show w.heap.size < w5.heap.size by omega) hcs.1.1
    have l1 := lift_cell (show w.heap.size < w5.heap.size by omega) hcs.1.2.1
    have l2 := lift_cell (show w.heap.size < w5.heap.size by omega) hcs.1.2.2
    have HR := hid (fun X => chain hbw5 (lift_below w5 X))
    have HSF := hid (fun X => sameFaults_t (lift w5 X) va2 va3 q vc2 vc3 AL HQ.out.symm hal (HAL25.out.below (lift_below w5 X)) (HAL35.out.below (lift_below w5 X)))
    have HSM := hid (fun X => sameMask_b (lift w5 X) va4 va5 p vc4 vc5 FL FL true HP.out.symm HP.out.symm hpm (HAL45.out.below (lift_below w5 X)) (HAL5.out.below (lift_below w5 X)) (by simp))
    clear hcs hsw
    go_wp2
    refine region_lift (by kernel_rfl) (by kernel_rfl) ?_
    repeat (go_big_quiet_step (first
      | (go_at_call 26; exact lift_calls (HV1.out _ (HR.out _)))
      | (go_at_call 27; exact lift_calls (HV2.out _ (HR.out _)))
      | (go_at_call 28; exact lift_calls (HT1.out _ (HR.out _)))
      | (go_at_call 29; exact lift_calls (HT2.out _ (HR.out _)))
      | (go_at_call 30; exact lift_calls (HSF.out _))
      | (go_at_call 31; exact lift_calls (HSM.out _))))
    refine wpQuiet_nil ?_
    rintro _ ⟨X, rfl⟩
    have hbR := HR.out X
    clear l0 l1 l2 HSF HSM HAL25 HAL35 HAL45 HAL5 HAL4 HAL3 HAL23
    obtain ⟨w6, hw6⟩ : ∃ w6, w6 = lift w5 X := ⟨_, rfl⟩
    rw [← hw6] at hbR ⊢
    clear hw6 HR
    obtain ⟨⟨f0, f1, f2⟩, f3, f4, f5⟩ := HC.out w6 hbR
    go_wp2_with (go_at_call 32; refine (HR1.out _ hbR).mono ?_; rintro e w7 ⟨va7, vc7, rfl, hA7, hb7⟩; refine Stop.of ?_)
    refine Stop.go ?_
    have hbw7 := chain hbR hb7
    obtain ⟨r, hr⟩ : ∃ p, p = RL.length := ⟨_, rfl⟩
    have hrm : r ≤ maxLen := by rw [hr]; exact HLR.out
    rw [← hr]
    have HRR := hid hr
    have HAL7 := hid hA7
    clear hr hA7 f0 f1 f2 f3 f4 f5
    obtain ⟨⟨f0, f1, f2⟩, f3, f4, f5⟩ := HC.out w7 hbw7
    go_wp2_with (go_at_call 33; refine (HR2.out _ hbw7).mono ?_; rintro e w8 ⟨va8, vc8, rfl, hA8, hb8⟩; refine Stop.of ?_)
    refine Stop.go ?_
    have hbw8 := chain hbw7 hb8
    rw [← HRR.out]
    have HAL8 := hid hA8
    have HAL78 := hid (HAL7.out.below hb8)
    clear hA8 f0 f1 f2 f3 f4 f5
    obtain ⟨⟨f0, f1, f2⟩, f3, f4, f5⟩ := HC.out w8 hbw8
    go_wp2_with (go_at_call 34; refine (HO1.out _ hbw8).mono ?_; rintro e w9 ⟨rfl, hb9⟩; refine Stop.of ?_)
    refine Stop.go ?_
    have hbw9 := chain hbw8 hb9
    clear f0 f1 f2 f3 f4 f5
    obtain ⟨⟨f0, f1, f2⟩, f3, f4, f5⟩ := HC.out w9 hbw9
    go_wp2_with (go_at_call 35; refine (HO2.out _ hbw9).mono ?_; rintro e w10 ⟨rfl, hb10⟩; refine Stop.of ?_)
    refine Stop.go ?_
    have hbw10 := chain hbw9 hb10
    have HSI := hid (sameInts_t w10 va7 va8 r vc7 vc8 RL HRR.out.symm hrm (HAL78.out.below (chain hb9 hb10)) (HAL8.out.below (chain hb9 hb10)))
    clear f0 f1 f2 f3 f4 f5
    go_wp2_with (first
      | (go_at_call 12; refine HSI.out.mono ?_; rintro e w11 ⟨rfl, hb11⟩)
      | (go_at_call 9; refine (HAw.out _ (chain hbw10 hb11)).mono ?_; rintro e w12 ⟨rfl, hb12⟩))
    go_ret
    exact ⟨rfl, HB.out _ (chain (chain hbw10 hb11) hb12)⟩
  · cases h1 : fitM M
    · rw [h1] at HFit
      clear hfit
      obtain ⟨kind, row, pixel⟩ := f
      obtain ⟨gk, gr, gp⟩ := g
      simp only [Flt.val] at HC HWG ⊢
      go_enter Tryd.func5, Tryd.ntmps5
      go_wp2_with fail
      rw [← HWG.out]
      go_wp2_with (first
        | (go_at_call 8; refine HFit.out.mono ?_; rintro e w1 ⟨rfl, rfl⟩)
        | (go_at_call 9; refine (HAw.out _ (Below.refl _ _)).mono ?_; rintro e w12 ⟨rfl, hb12⟩))
      go_ret
      exact ⟨rfl, HB.out _ hb12⟩
    · rw [h1] at HFit
      cases h2 : fitT t
      · rw [h2] at HT
        clear hfit
        obtain ⟨kind, row, pixel⟩ := f
        obtain ⟨gk, gr, gp⟩ := g
        simp only [Flt.val] at HC HWG ⊢
        go_enter Tryd.func5, Tryd.ntmps5
        go_wp2_with fail
        rw [← HWG.out]
        go_wp2_with (first
          | (go_at_call 8; refine HFit.out.mono ?_; rintro e w1 ⟨rfl, rfl⟩)
          | (go_at_call 22; refine HT.out.mono ?_; rintro e w1 ⟨rfl, hb1⟩)
          | (go_at_call 9; refine (HAw.out _ hb1).mono ?_; rintro e w12 ⟨rfl, hb12⟩))
        go_ret
        exact ⟨rfl, HB.out _ (chain hb1 hb12)⟩
      · rw [h2] at HT
        have h3 : ¬ n4 ≤ 20 := fun h => hfit ⟨h1, h2, h⟩
        clear hfit
        obtain ⟨kind, row, pixel⟩ := f
        obtain ⟨gk, gr, gp⟩ := g
        simp only [Flt.val] at HC HWG ⊢
        go_enter Tryd.func5, Tryd.ntmps5
        go_wp2_with fail
        rw [← HWG.out]
        go_wp2_with (first
          | (go_at_call 8; refine HFit.out.mono ?_; rintro e w1 ⟨rfl, rfl⟩)
          | (go_at_call 22; refine HT.out.mono ?_; rintro e w1 ⟨rfl, hb1⟩)
          | (go_at_call 9; refine (HAw.out _ hb1).mono ?_; rintro e w12 ⟨rfl, hb12⟩))
        go_ret
        exact ⟨rfl, HB.out _ (chain hb1 hb12)⟩
end Go.Proofs.YthaampmdponhbaaDoor

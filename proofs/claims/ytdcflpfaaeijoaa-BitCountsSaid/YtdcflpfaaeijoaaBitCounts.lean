/- The statement BitCounts: the walk of the law. -/
import Derived.Test.YtdcflpfaaeijoaaBitT
namespace Go.Proofs.Ytdcflpfaaeijoaa
open Go.RowKit
set_option linter.unusedVariables false

set_option maxRecDepth 100000 in
set_option maxHeartbeats 4000000 in
theorem bitCounts_c (w : World) (p t : Int) (a : Option Addr) (n cap : Nat) (l : List Cel) (hn : l.length = n) (hm : n ≤ maxLen) (H : CellsAt w a l)
    (a3 : Option Addr) (n3 cap3 : Nat) (x : List Int) (hn3 : x.length = n3) (hm3 : n3 ≤ maxLen) (H3 : IntsAt w a3 x) (px : Int) :
    Calls Try.prog 6 #[.agg #[.int .i64 p, .int .i64 t], .slice a n cap, .slice a3 n3 cap3, .int .i64 px] w fun e w' => e = .returned (.bool true) ∧ Below w.heap.size w w' := by
  obtain ⟨wf, hwf⟩ : ∃ wf, wf = w.alloc (.cells #[.int .i64 p, .int .i64 t] 23) := ⟨_, rfl⟩
  have hb0 : Below w.heap.size w wf := by rw [hwf]; exact (Below.refl _ _).alloc (Nat.le_refl _) _
  have HF := hid (fun (W : World) (hb : Below wf.heap.size wf W) => show W.cell? ⟨w.heap.size, 0, none⟩ = some (.int .i64 p) ∧ W.cell? ⟨w.heap.size, 1, none⟩ = some (.int .i64 t) from by
    have hz : wf.heap.size = w.heap.size + 1 := by rw [hwf]; simp
    refine ⟨(hb.cell (p := ⟨w.heap.size, 0, none⟩) (show w.heap.size < wf.heap.size by omega)).trans ?_, (hb.cell (p := ⟨w.heap.size, 1, none⟩) (show w.heap.size < wf.heap.size by omega)).trans ?_⟩ <;> (rw [hwf, World.cell?_alloc_at _ _ _ _ rfl]; rfl))
  have HB := hid (fun (W : World) (hb : Below wf.heap.size wf W) => chain hb0 hb)
  have HFEW := hid (fun W : World => few_c W p t 1100)
  have HFIT := hid (fun (W : World) (hb : Below w.heap.size w W) => fit_c W a n cap l hn hm (H.below hb))
  have HAW := hid awake_c
  have HX1 := hid (fun (W : World) (hb : Below w.heap.size w W) => fitsP_c W p t a n cap l hn hm (H.below hb) a3 n3 cap3 x hn3 hm3 (H3.below hb))
  have HX2 := hid (fun (W : World) (hb : Below w.heap.size w W) => refFitsP_c W p t a n cap l hn hm (H.below hb) a3 n3 cap3 x hn3 hm3 (H3.below hb))
  have HC1 := hid (fun (W : World) (hb : Below w.heap.size w W) => count_c W p t a n cap l hn hm (H.below hb))
  have HC2 := hid (fun (W : World) (hb : Below w.heap.size w W) => refCount_c W p t a n cap l hn hm (H.below hb))
  have HI1 := hid (fun (W : World) (hb : Below w.heap.size w W) => first_c W p t a n cap l hn hm (H.below hb))
  have HI2 := hid (fun (W : World) (hb : Below w.heap.size w W) => refFirst_c W p t a n cap l hn hm (H.below hb))
  have HO1 := hid (fun (W : World) (hb : Below w.heap.size w W) => bounds_c W p t a n cap l hn hm (H.below hb) px)
  have HO2 := hid (fun (W : World) (hb : Below w.heap.size w W) => refBounds_c W p t a n cap l hn hm (H.below hb) px)
  have HK1 := hid (fun (W : World) (hb : Below w.heap.size w W) => known_c W p t a n cap l hn hm (H.below hb))
  have HK2 := hid (fun (W : World) (hb : Below w.heap.size w W) => refKnown_c W p t a n cap l hn hm (H.below hb))
  unfold maxLen at hm hm3
  clear hn H hn3 H3
  rcases h1 : fewB p t 1100 with _ | _
  · rw [h1] at HFEW
    go_enter Try.func6, Try.ntmps6
    go_wp2_with fail
    rw [← hwf]
    clear hwf
    refine (HFEW.out _).mono ?_
    rintro e w1 ⟨rfl, hb1⟩
    go_wp2_with (go_at_call 12; refine (HAW.out _).mono ?_; rintro e w2 ⟨rfl, hb2⟩)
    go_ret
    exact ⟨rfl, chain (HB.out _ hb1) hb2⟩
  rcases h2 : fitB l with _ | _
  · rw [h1] at HFEW
    rw [h2] at HFIT
    go_enter Try.func6, Try.ntmps6
    go_wp2_with fail
    rw [← hwf]
    clear hwf
    refine (HFEW.out _).mono ?_
    rintro e w1 ⟨rfl, hb1⟩
    go_wp2_with (first | (go_at_call 11; refine (HFIT.out _ (HB.out _ hb1)).mono ?_; rintro e w2 ⟨rfl, hb2⟩) | (go_at_call 12; refine (HAW.out _).mono ?_; rintro e w3 ⟨rfl, hb3⟩))
    go_ret
    exact ⟨rfl, chain (HB.out _ (chain hb1 hb2)) hb3⟩
  rw [h1] at HFEW
  rw [h2] at HFIT
  by_cases h3 : n3 ≤ 20
  · go_enter Try.func6, Try.ntmps6
    go_wp2_with fail
    rw [← hwf]
    clear hwf
    refine (HFEW.out _).mono ?_
    rintro e w1 ⟨rfl, hb1⟩
    obtain ⟨f10, f11⟩ := HF.out _ hb1
    go_wp2_with (first
      | (go_at_call 11; refine (HFIT.out _ (HB.out _ hb1)).mono ?_; rintro e w2 ⟨rfl, hb2⟩; have hbw2 := chain hb1 hb2; obtain ⟨f20, f21⟩ := HF.out _ hbw2)
      | (go_at_call 32; refine (HX1.out _ (HB.out _ hbw2)).mono ?_; rintro e w3 ⟨rfl, hb3⟩; have hbw3 := chain hbw2 hb3; obtain ⟨f30, f31⟩ := HF.out _ hbw3)
      | (go_at_call 33; refine (HX2.out _ (HB.out _ hbw3)).mono ?_; rintro e w4 ⟨rfl, hb4⟩; have hbw4 := chain hbw3 hb4; obtain ⟨f40, f41⟩ := HF.out _ hbw4)
      | (go_at_call 23; refine (HC1.out _ (HB.out _ hbw4)).mono ?_; rintro e w5 ⟨rfl, hb5⟩; have hbw5 := chain hbw4 hb5; obtain ⟨f50, f51⟩ := HF.out _ hbw5)
      | (go_at_call 34; refine (HC2.out _ (HB.out _ hbw5)).mono ?_; rintro e w6 ⟨rfl, hb6⟩; have hbw6 := chain hbw5 hb6; obtain ⟨f60, f61⟩ := HF.out _ hbw6)
      | (go_at_call 35; refine (HI1.out _ (HB.out _ hbw6)).mono ?_; rintro e w7 ⟨ra, rn, rc, rfl, q1, q2, q3, hb7⟩; have hbw7 := chain hbw6 hb7; obtain ⟨f70, f71⟩ := HF.out _ hbw7; have Q7 := hid (And.intro q1 q3); clear q1 q3)
      | (go_at_call 36; refine (HI2.out _ (HB.out _ hbw7)).mono ?_; rintro e w8 ⟨rb, rm, rd, rfl, q4, q5, q6, hb8⟩; have hbw8 := chain hbw7 hb8; obtain ⟨f80, f81⟩ := HF.out _ hbw8; refine Stop.of ?_))
    refine Stop.go ?_
    have HSM := hid (same_c w8 ra rb rn rc rm rd _ Q7.out.1 q4 q2 (Q7.out.2.below hb8) q6)
    unfold maxLen at q2 q5
    clear q4 q6
    go_wp2_with (first
      | (go_at_call 37; refine HSM.out.mono ?_; rintro e w9 ⟨rfl, hb9⟩; have hbw9 := chain hbw8 hb9; obtain ⟨f90, f91⟩ := HF.out _ hbw9)
      | (go_at_call 24; refine (HO1.out _ (HB.out _ hbw9)).mono ?_; rintro e wa ⟨rfl, hba⟩; refine Stop.of ?_))
    refine Stop.go ?_
    have hbwa := chain hbw9 hba
    have hbwb := hbwa.alloc hbwa.size (.cells #[.int .i64 (boundsLo p t l px), .int .i64 (boundsHi p t l px)] 34)
    have hA := World.alloc_heap_new wa (.cells #[.int .i64 (boundsLo p t l px), .int .i64 (boundsHi p t l px)] 34)
    have HA := hid hA
    clear hA
    obtain ⟨fb0, fb1⟩ := HF.out _ hbwb
    go_wp2_with (first
      | (go_at_call 38; refine (HO2.out _ (HB.out _ hbwb)).mono ?_; rintro e wc ⟨rfl, hbc⟩; refine Stop.of ?_))
    refine Stop.go ?_
    have hbwc := chain hbwb hbc
    have hbwd := hbwc.alloc hbwc.size (.cells #[.int .i64 (boundsLo p t l px), .int .i64 (boundsHi p t l px)] 34)
    have hbd : Below wc.heap.size wc (wc.alloc (.cells #[.int .i64 (boundsLo p t l px), .int .i64 (boundsHi p t l px)] 34)) := (Below.refl _ _).alloc (Nat.le_refl _) _
    have HC := hid (World.alloc_heap_new wc (.cells #[.int .i64 (boundsLo p t l px), .int .i64 (boundsHi p t l px)] 34))
    have HA2 := hid ((hbd.block _ (Array.getElem?_eq_some_iff.1 ((hbc.block _ (Array.getElem?_eq_some_iff.1 HA.out).1).trans HA.out)).1).trans ((hbc.block _ (Array.getElem?_eq_some_iff.1 HA.out).1).trans HA.out))
    obtain ⟨fd0, fd1⟩ := HF.out _ hbwd
    go_wp2_with (first
      | (go_at_call 39; refine (HK1.out _ (HB.out _ hbwd)).mono ?_; rintro e we ⟨sa, sn, sc, rfl, s1, s2, s3, hbe⟩; have hbwe := chain hbwd hbe; obtain ⟨fe0, fe1⟩ := HF.out _ hbwe; have Q8 := hid (And.intro s1 s3); clear s1 s3)
      | (go_at_call 40; refine (HK2.out _ (HB.out _ hbwe)).mono ?_; rintro e wg ⟨sb, sm, sd, rfl, s4, s5, s6, hbg⟩; refine Stop.of ?_))
    refine Stop.go ?_
    have hbwg := chain hbwe hbg
    have HSN := hid (same_c wg sa sb sn sc sm sd _ Q8.out.1 s4 s2 (Q8.out.2.below hbg) s6)
    have hdg := chain hbe hbg
    obtain ⟨k0, k1, _⟩ := cell2_get ((hdg.block _ (Array.getElem?_eq_some_iff.1 HA2.out).1).trans HA2.out)
    obtain ⟨l0, l1, _⟩ := cell2_get ((hdg.block _ (Array.getElem?_eq_some_iff.1 HC.out).1).trans HC.out)
    unfold maxLen at s2 s5
    clear s4 s6
    go_wp2_with (first
      | (go_at_call 37; refine HSN.out.mono ?_; rintro e wh ⟨rfl, hbh⟩)
      | (go_at_call 12; refine (HAW.out _).mono ?_; rintro e wi ⟨rfl, hbi⟩))
    go_ret
    exact ⟨rfl, chain (HB.out _ (chain hbwg hbh)) hbi⟩
  · go_enter Try.func6, Try.ntmps6
    go_wp2_with fail
    rw [← hwf]
    clear hwf
    refine (HFEW.out _).mono ?_
    rintro e w1 ⟨rfl, hb1⟩
    go_wp2_with (first | (go_at_call 11; refine (HFIT.out _ (HB.out _ hb1)).mono ?_; rintro e w2 ⟨rfl, hb2⟩) | (go_at_call 12; refine (HAW.out _).mono ?_; rintro e w3 ⟨rfl, hb3⟩))
    go_ret
    exact ⟨rfl, chain (HB.out _ (chain hb1 hb2)) hb3⟩
end Go.Proofs.Ytdcflpfaaeijoaa

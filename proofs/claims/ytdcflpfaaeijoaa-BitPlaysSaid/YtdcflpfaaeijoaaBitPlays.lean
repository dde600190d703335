/- The statement BitPlays: the walk of the law. -/
import Derived.Test.YtdcflpfaaeijoaaBitAJ
namespace Go.Proofs.Ytdcflpfaaeijoaa
open Go.RowKit Go.Maps
set_option linter.unusedVariables false

set_option maxRecDepth 100000 in
set_option maxHeartbeats 4000000 in
theorem bitPlays_c (w : World) (p t : Int) (a1 : Option Addr) (n1 cap1 : Nat) (ls : List (List Int)) (hn1 : ls.length = n1) (hm1 : n1 ≤ maxLen) (H1 : RowsAt w a1 ls)
    (a2 : Option Addr) (n2 cap2 : Nat) (x : List Int) (hn2 : x.length = n2) (hm2 : n2 ≤ maxLen) (H2 : IntsAt w a2 x) (most : Int) :
    Calls Try.prog 9 #[.agg #[.int .i64 p, .int .i64 t], .slice a1 n1 cap1, .slice a2 n2 cap2, .int .i64 most] w fun e w' => e = .returned (.bool true) ∧ Below w.heap.size w w' := by
  obtain ⟨wf, hwf⟩ : ∃ wf, wf = w.alloc (.cells #[.int .i64 p, .int .i64 t] 23) := ⟨_, rfl⟩
  have hb0 : Below w.heap.size w wf := by rw [hwf]; exact (Below.refl _ _).alloc (Nat.le_refl _) _
  have HF := hid (fun (W : World) (hb : Below wf.heap.size wf W) => show W.cell? ⟨w.heap.size, 0, none⟩ = some (.int .i64 p) ∧ W.cell? ⟨w.heap.size, 1, none⟩ = some (.int .i64 t) from by
    have hz : wf.heap.size = w.heap.size + 1 := by rw [hwf]; simp
    refine ⟨(hb.cell (p := ⟨w.heap.size, 0, none⟩) (show w.heap.size < wf.heap.size by omega)).trans ?_, (hb.cell (p := ⟨w.heap.size, 1, none⟩) (show w.heap.size < wf.heap.size by omega)).trans ?_⟩ <;> (rw [hwf, World.cell?_alloc_at _ _ _ _ rfl]; rfl))
  have HB := hid (fun (W : World) (hb : Below wf.heap.size wf W) => chain hb0 hb)
  have HFEW := hid (fun W : World => few_c W p t 130)
  have HAW := hid awake_c
  have HX1 := hid (fun (W : World) (hb : Below w.heap.size w W) => playP_c W p t a1 n1 cap1 ls hn1 hm1 (H1.below hb) a2 n2 cap2 x hn2 hm2 (H2.below hb) most)
  have HX2 := hid (fun (W : World) (hb : Below w.heap.size w W) => refPlayP_c W p t a1 n1 cap1 ls hn1 hm1 (H1.below hb) a2 n2 cap2 x hn2 hm2 (H2.below hb) most)
  have HLAW := hid (fun (h : playE p t ls x most = 0) => plays_law h)
  have HFI := hid (fun (W : World) (hb : Below w.heap.size w W) (ra : Option Addr) (rn rc : Nat) (A : List Cel) (h1 : A.length = rn) (h2 : rn ≤ maxLen) (h3 : CellsAt W ra A) => fitsP_c W p t ra rn rc A h1 h2 h3 a2 n2 cap2 x hn2 hm2 (H2.below hb))
  have HCO := hid (fun (W : World) (ra : Option Addr) (rn rc : Nat) (A : List Cel) (h1 : A.length = rn) (h2 : rn ≤ maxLen) (h3 : CellsAt W ra A) => count_c W p t ra rn rc A h1 h2 h3)
  have HPA := hid (fun (W : World) (ra : Option Addr) (rn rc : Nat) (A : List Cel) (h1 : A.length = rn) (h2 : rn ≤ maxLen) (h3 : CellsAt W ra A) (b : Option Addr) (bn bc : Nat) (r : List Int) (h4 : r.length = bn) (h5 : bn ≤ maxLen) (h6 : IntsAt W b r) (th : Int) => partsP_c W p t ra rn rc A h1 h2 h3 b bn bc r h4 h5 h6 th)
  have HSA := hid sameCells_c
  have HRd := hid H1
  have HL3 := hid hn1
  unfold maxLen at hm1 hm2
  clear hn1 H1 hn2 H2
  have hcase : (fewB p t 130 = false ∨ fewB p t 130 = true ∧ (¬ n2 ≤ 20 ∨ n2 ≤ 20 ∧ ((¬ n1 ≤ 4 ∧ n1 ≤ 20) ∨ (¬ n1 ≤ 4 ∧ ¬ n1 ≤ 20 ∧ ¬ n1 ≤ 25)))) ∨ (fewB p t 130 = true ∧ n2 ≤ 20 ∧ (n1 ≤ 4 ∨ ¬ n1 ≤ 4 ∧ ¬ n1 ≤ 20 ∧ n1 ≤ 25)) := by
    cases fewB p t 130 <;> simp <;> omega
  rcases hcase with h | ⟨h1, h3, h4⟩
  · rcases h with h1 | ⟨h1, h3 | ⟨h3, ⟨h4, h5⟩ | ⟨h4, h5, h6⟩⟩⟩
    all_goals
      rw [h1] at HFEW
      go_enter Try.func9, Try.ntmps9
      go_wp2_with fail
      rw [← hwf]
      clear hwf
      refine (HFEW.out _).mono ?_
      rintro e w1 ⟨rfl, hb1⟩
      go_wp2_with (go_at_call 12; refine (HAW.out _).mono ?_; rintro e w3 ⟨rfl, hb3⟩)
      go_ret
      exact ⟨rfl, chain (HB.out _ hb1) hb3⟩
  · rw [h1] at HFEW
    rcases h4 with h4 | ⟨h4, h5, h6⟩
    all_goals
      go_enter Try.func9, Try.ntmps9
      go_wp2_with fail
      rw [← hwf]
      clear hwf
      refine (HFEW.out _).mono ?_
      rintro e w1 ⟨rfl, hb1⟩
      go_wp2
      go_loopw [51] (fun i wr => ∃ k : Nat, k ≤ n1 ∧ i = .int .i64 k ∧ Below wf.heap.size wf wr) (fun i _ => n1 - (intOf i).toNat)
      case atStart => exact ⟨0, Nat.zero_le _, rfl, hb1⟩
      case round =>
        obtain ⟨k, hk, rfl, hb⟩ := hrel
        by_cases hlt : k < n1
        · obtain ⟨b, off, ra, xn, xc, rfl, hbs, hcx0, hxn, hxm, hxi⟩ := rows_elem HRd.out (k := k) (by rw [HL3.out]; exact hlt)
          have hcx : wr.cell? ⟨b, off + k, none⟩ = some (.slice ra xn xc) := ((HB.out _ hb).cell (p := ⟨b, off + k, none⟩) hbs).trans hcx0
          clear hcx0 hxn hxi
          unfold maxLen at hxm
          by_cases hx : xn ≤ 20
          · go_wp2
            exact ⟨⟨k + 1, by omega, by go_num, hb⟩, by simp [intOf]; omega⟩
          · go_wp2_with (go_at_call 12; refine (HAW.out _).mono ?_; rintro e w3 ⟨rfl, hb3⟩)
            go_ret
            exact ⟨rfl, chain (HB.out _ hb) hb3⟩
        · obtain ⟨f10, f11⟩ := HF.out _ hb
          go_wp2_with (first
            | (go_at_call 49; refine (HX1.out _ (HB.out _ hb)).mono ?_; rintro e w3 ⟨ra, rn, rc, rfl, q1, q2, q3, hb3⟩; have hbw3 := chain hb hb3; obtain ⟨f30, f31⟩ := HF.out _ hbw3; have Q3 := hid (And.intro q1 q3); clear q1 q3)
            | (go_at_call 50; refine (HX2.out _ (HB.out _ hbw3)).mono ?_; rintro e w4 ⟨rb, rm, rd, rfl, q4, q5, q6, hb4⟩; refine Stop.of ?_))
          refine Stop.go ?_
          have hbw4 := chain hbw3 hb4
          obtain ⟨f40, f41⟩ := HF.out _ hbw4
          obtain ⟨A, hA⟩ : ∃ A, A = playV p t ls x most := ⟨_, rfl⟩
          obtain ⟨E, hE⟩ : ∃ E, E = playE p t ls x most := ⟨_, rfl⟩
          rw [← hA] at q4 q6 Q3 HLAW
          rw [← hE] at HLAW ⊢
          obtain rfl : rn = rm := by have := Q3.out.1; omega
          have HSM := hid (HSA.out w4 ra rb rn rc rd A q4 q5 (Q3.out.2.below hb4) q6)
          have HAL := hid q4
          have HCA := hid (Q3.out.2.below hb4)
          have HQ2 := hid q2
          unfold maxLen at q2 q5
          clear q4 q6 hA hE HX1 HX2 HSA Q3 f10 f11 f30 f31
          by_cases hE0 : E = 0
          rotate_left
          · have hE1 : (E != 0) = true := by simp [hE0]
            go_wp2_with (first | (go_at_call 51; refine HSM.out.mono ?_; rintro e w5 ⟨rfl, hb5⟩) | (go_at_call 12; refine (HAW.out _).mono ?_; rintro e w6 ⟨rfl, hb6⟩))
            go_ret
            exact ⟨rfl, chain (HB.out _ (chain hbw4 hb5)) hb6⟩
          · obtain ⟨l1, l2, l3, l4, l5, l6, l7⟩ := HLAW.out hE0
            have HL7 := hid l7
            subst hE0
            clear l7 HLAW
            go_wp2_with (first
              | (go_at_call 51; refine HSM.out.mono ?_; rintro e w5 ⟨rfl, hb5⟩; have hbw5 := chain hbw4 hb5; obtain ⟨f50, f51⟩ := HF.out _ hbw5)
              | (go_at_call 32; refine (HFI.out _ (HB.out _ hbw5) ra rn rc A HAL.out HQ2.out (HCA.out.below hb5)).mono ?_; rintro e w6 ⟨rfl, hb6⟩; have hb56 := chain hb5 hb6; have hbw6 := chain hbw5 hb6; obtain ⟨f60, f61⟩ := HF.out _ hbw6)
              | (go_at_call 23; refine (HCO.out _ ra rn rc A HAL.out HQ2.out (HCA.out.below hb56)).mono ?_; rintro e w7 ⟨rfl, hb7⟩; refine Stop.of ?_))
            refine Stop.go ?_
            have hbw7 := chain hbw6 hb7
            have hb47 := chain hb56 hb7
            obtain ⟨CN, hCN⟩ : ∃ C, C = countV p t A := ⟨_, rfl⟩
            rw [← hCN] at HL7 ⊢
            clear hCN f40 f41 f50 f51 f60 f61
            by_cases hc1 : CN = 1
            · subst hc1
              go_wp2_with (go_at_call 12; refine (HAW.out _).mono ?_; rintro e w8 ⟨rfl, hb8⟩)
              go_ret
              exact ⟨rfl, chain (HB.out _ hbw7) hb8⟩
            have hc1' : (CN == 1) = false := by simp [hc1]
            by_cases hc2 : (rn : Int) = most
            · subst hc2
              go_wp2_with (go_at_call 12; refine (HAW.out _).mono ?_; rintro e w8 ⟨rfl, hb8⟩)
              go_ret
              exact ⟨rfl, chain (HB.out _ hbw7) hb8⟩
            have hc2' : ((rn : Int) == most) = false := by simp [hc2]
            have HFIN := hid (show ∀ k (thr : Int), k < ls.length → -99 ≤ thr → thr ≤ 100 → partsE p t A (ls[k]?.getD []) thr = 0 ∧ (partsLo p t A (ls[k]?.getD []) thr = 0 ∨ partsHi p t A (ls[k]?.getD []) thr = 0) from by
              have h1 := HL7.out
              rw [HAL.out] at h1
              rcases h1 with h1 | h1 | h1
              · exact absurd h1 hc1
              · exact absurd h1 hc2
              · exact h1)
            clear hc1 hc2
            go_wp2
            go_loopw [122] (fun i wq => ∃ k : Nat, k ≤ n1 ∧ i = .int .i64 k ∧ Below w7.heap.size w7 wq) (fun i _ => n1 - (intOf i).toNat)
            case atStart => exact ⟨0, Nat.zero_le _, rfl, Below.refl _ _⟩
            case round =>
              obtain ⟨k2, hk2, rfl, hb8⟩ := hrel
              by_cases hlt2 : k2 < n1
              · obtain ⟨b, off, ya, yn, yc, rfl, hbs, hcx0, hxn, hxm, hxi⟩ := rows_elem HRd.out (k := k2) (by rw [HL3.out]; exact hlt2)
                have hcx : wr.cell? ⟨b, off + k2, none⟩ = some (.slice ya yn yc) := ((HB.out _ (chain hbw7 hb8)).cell (p := ⟨b, off + k2, none⟩) hbs).trans hcx0
                have HYI := hid (And.intro hxn (And.intro hxm hxi))
                unfold maxLen at hxm
                clear hcx0 hxn hxi
                go_wp2
                go_loopw [21] (fun i wq => ∃ j : Nat, j ≤ 29 ∧ i = .int .i64 (-99 + 7 * (j : Int)) ∧ Below wr.heap.size wr wq) (fun i _ => (120 - intOf i).toNat)
                case atStart => exact ⟨0, by omega, rfl, Below.refl _ _⟩
                case round =>
                  obtain ⟨j, hj, rfl, hb9⟩ := hrel
                  have hbq := chain hb8 hb9
                  obtain ⟨g0, g1⟩ := HF.out _ (chain hbw7 hbq)
                  by_cases hj2 : j ≤ 28
                  · obtain ⟨TT, hTT⟩ : ∃ T, T = -99 + 7 * (j : Int) := ⟨_, rfl⟩
                    obtain ⟨s1, s2⟩ := HFIN.out k2 TT (by rw [HL3.out]; exact hlt2) (by omega) (by omega)
                    have hT1 : -99 ≤ TT := by omega
                    have hT2 : TT ≤ 100 := by omega
                    rw [← hTT]
                    have HTT := hid hTT
                    have HPP := HPA.out _ ra rn rc A HAL.out HQ2.out (HCA.out.below (chain hb47 hbq)) ya yn yc (ls[k2]?.getD []) HYI.out.1 HYI.out.2.1 (HYI.out.2.2.below (HB.out _ (chain hbw7 hbq))) TT
                    rw [s1] at HPP
                    obtain ⟨PL, hPL⟩ : ∃ P, P = partsLo p t A (ls[k2]?.getD []) TT := ⟨_, rfl⟩
                    obtain ⟨PH, hPH⟩ : ∃ P, P = partsHi p t A (ls[k2]?.getD []) TT := ⟨_, rfl⟩
                    rw [← hPL, ← hPH] at HPP s2
                    clear hTT s1 hPL hPH
                    have HPQ := hid HPP
                    clear HPP
                    have hs3 : PL = 0 ∨ (PH = 0 ∧ (0 < PL ∨ ¬ 0 < PL)) := by omega
                    rcases hs3 with h | ⟨h, h' | h'⟩
                    all_goals
                      subst h
                      go_wp2_with (go_at_call 25; refine HPQ.out.mono ?_; rintro e w10 ⟨rfl, hb10⟩)
                      refine ⟨⟨j + 1, by omega, ?_, chain hb9 hb10⟩, by simp [intOf]; omega⟩
                      rw [HTT.out]
                      congr 1
                      omega
                  · obtain rfl : j = 29 := by omega
                    go_wp2
                    exact ⟨⟨k2 + 1, by omega, by go_num, hbq⟩, by simp [intOf]; omega⟩
              · go_wp2_with (go_at_call 12; refine (HAW.out _).mono ?_; rintro e w9 ⟨rfl, hb9⟩)
                go_ret
                exact ⟨rfl, chain (HB.out _ (chain hbw7 hb8)) hb9⟩
end Go.Proofs.Ytdcflpfaaeijoaa

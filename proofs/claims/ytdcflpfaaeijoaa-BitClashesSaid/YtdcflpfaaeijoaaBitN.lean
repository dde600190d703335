/- Walks: the reference's Quantised, SameCell at equal cells, Fits. -/
import Derived.Test.YtdcflpfaaeijoaaBitM
namespace Go.Proofs.Ytdcflpfaaeijoaa
open Go.RowKit
set_option linter.unusedVariables false

theorem qLo_uniq {s step L m : Int} (hs : 1 ≤ step) (hL : L = m * step) (h1 : L ≤ s) (h2 : s < L + step) : qLo s step = L := by
  have e1 := Int.mul_ediv_add_emod s step
  have : s / step = m := by
    apply Int.le_antisymm
    · have : s / step < m + 1 := by
        apply Int.ediv_lt_of_lt_mul (by omega)
        rw [Int.add_mul]; omega
      omega
    · apply Int.le_ediv_of_mul_le (by omega); omega
  unfold qLo; rw [this, hL]

theorem okCell_q {p : Int} {row : List Int} {L step : Int} (hr : okRow p row = true) (hs : 1 ≤ step) : okCell p ⟨row, L, L + step - 1⟩ = (decide (-100 ≤ L) && decide (L + step - 1 ≤ 100)) := by
  unfold okCell inB
  simp only [hr, Bool.true_and]
  have : decide (L ≤ L + step - 1) = true := by simp; omega
  rw [this, Bool.and_true]

set_option maxRecDepth 100000 in
set_option maxHeartbeats 2000000 in
theorem refQuantised_c (w : World) (p t : Int) (a : Option Addr) (n cap : Nat) (row : List Int) (hn : row.length = n) (hm : n ≤ maxLen) (H : IntsAt w a row) (a2 : Option Addr) (n2 cap2 : Nat) (x : List Int) (hn2 : x.length = n2) (hm2 : n2 ≤ maxLen) (H2 : IntsAt w a2 x) (step : Int) :
    Calls Try.prog 28 #[.agg #[.int .i64 p, .int .i64 t], .slice a n cap, .slice a2 n2 cap2, .int .i64 step] w fun e w' => ∃ v, e = .returned (.tuple #[v, .int .i64 (quantE p t row x step)]) ∧ CelV w' v (quantC p t row x step) ∧ Below w.heap.size w w' := by
  obtain ⟨wf, hwf⟩ : ∃ wf, wf = (w.alloc (.cells #[.int .i64 p, .int .i64 t] 23)).alloc (.cells #[.slice none 0 0, .int .i64 0, .int .i64 0] 41) := ⟨_, rfl⟩
  have hb0 : Below w.heap.size w wf := by rw [hwf]; exact ((Below.refl _ _).alloc (Nat.le_refl _) _).alloc (by simp) _
  have HF := hid (two_boxes w wf p t hwf)
  have HB := hid (fun (W : World) (hb : Below wf.heap.size wf W) => chain hb0 hb)
  have HR := hid (fun (W : World) (hb : Below w.heap.size w W) => refSumP_c W p t a n cap row hn hm (H.below hb) a2 n2 cap2 x hn2 hm2 (H2.below hb))
  by_cases hE : rowedE p t row x = 0
  · obtain ⟨d1, d2⟩ := dot_bd24 hE
    obtain ⟨p1, p8, t0, t3⟩ := okField_bd (rowE_zero (rowedE_zero hE).1).1
    obtain ⟨hp, hrw⟩ := okRow_len (rowE_zero (rowedE_zero hE).1).2
    have hok := (rowE_zero (rowedE_zero hE).1).2
    have hn8 : n ≤ 8 := by omega
    have hsv : sumV p t row x = dotW row x := by rw [sumV, if_pos hE]
    rw [hE, hsv] at HR
    cases hs : inB step 1 100
    · have q1 : quantE p t row x step = 7 := by rw [quantE, if_pos hE, hs]; simp
      have q2 : quantC p t row x step = ⟨[], 0, 0⟩ := by rw [quantC, q1, if_neg (by decide)]
      rw [q1, q2]
      have HE := hid hE
      clear q1 q2 hE hn H hn2 H2 hp hrw hsv
      go_enter Try.func28, Try.ntmps28
      go_wp2_with fail
      rw [← hwf]
      clear hwf
      refine (HR.out _ hb0).mono ?_
      rintro e w1 ⟨rfl, hb1⟩
      obtain ⟨f0, f1, f2, f3⟩ := HF.out _ hb1
      obtain ⟨c0, c1, c2, cf⟩ := cell3_get f2
      have HC := hid (cell3_set f2 (.slice none 0 0) (.int .i64 0) (.int .i64 0))
      clear f2
      go_wp2_with (go_at_call 60; refine (in_c _ _ _ _).mono ?_; rintro e w2 ⟨rfl, rfl⟩)
      obtain ⟨r0, r1, r2, _⟩ := cell3_get HC.out
      refine bodyPost_ret (v := .tuple #[.agg #[.slice none 0 0, .int .i64 0, .int .i64 0], .int .i64 7]) ?_ rfl ⟨_, rfl, CelV.zero _, below_set3 (HB.out _ hb1) (by omega) _ _ _⟩
      simp [results, Try.results28, go_sem, r0, r1, r2]
    · have hs' : 1 ≤ step ∧ step ≤ 100 := by simpa [inB] using hs
      obtain ⟨s1, s2⟩ := hs'
      have q1 : quantE p t row x step = if okCell p ⟨row, qLo (dotW row x) step, qLo (dotW row x) step + step - 1⟩ = true then 0 else 7 := by rw [quantE, if_pos hE, hs]; simp
      have q2 : quantC p t row x step = if okCell p ⟨row, qLo (dotW row x) step, qLo (dotW row x) step + step - 1⟩ = true then ⟨row, qLo (dotW row x) step, qLo (dotW row x) step + step - 1⟩ else ⟨[], 0, 0⟩ := by
        rw [quantC, q1]; split <;> simp
      rw [okCell_q hok s1] at q1 q2
      have HQ := hid (fun (L m : Int) (hL : L = m * step) (h1 : L ≤ dotW row x) (h2 : dotW row x < L + step) => qLo_uniq s1 hL h1 h2)
      obtain ⟨D, hD⟩ : ∃ D, D = dotW row x := ⟨_, rfl⟩
      rw [← hD] at HR HQ q1 q2 d1 d2
      have HQ1 := hid q1
      have HQ2 := hid q2
      have HN := hid hn
      have HN0 := hid (fun (W : World) (hb : Below w.heap.size w W) => H.below hb)
      have HE := hid hE
      clear q1 q2 hE hn H hn2 H2 hp hrw hsv hD hok
      go_enter Try.func28, Try.ntmps28
      go_wp2_with fail
      rw [← hwf]
      clear hwf
      refine (HR.out _ hb0).mono ?_
      rintro e w1 ⟨rfl, hb1⟩
      obtain ⟨f0, f1, f2, f3⟩ := HF.out _ hb1
      obtain ⟨c0, c1, c2, cf⟩ := cell3_get f2
      have HH := hid f2
      clear f2
      go_wp2_with (go_at_call 60; refine (in_c _ _ _ _).mono ?_; rintro e w2 ⟨rfl, rfl⟩)
      go_loop [12] (fun v => ∃ L : Int, v = .int .i64 L ∧ (∃ m : Int, L = m * step) ∧ -124 ≤ L ∧ L ≤ 0) (fun v => (intOf v + 200).toNat)
      case atStart => exact ⟨0, rfl, ⟨0, by simp⟩, by omega, by omega⟩
      case round =>
        obtain ⟨L, rfl, hmm, hL1, hL2⟩ := hrel
        have HM := hid hmm
        clear hmm
        by_cases hlt : D < L
        · go_wp2
          go_round
          case rel => exact ⟨L - step, rfl, (by obtain ⟨m, hm⟩ := HM.out; exact ⟨m - 1, by rw [Int.sub_mul]; omega⟩), by omega, by omega⟩
          case measure => simp [intOf]; omega
        · go_wp2
          go_loop [12] (fun v => ∃ L : Int, v = .int .i64 L ∧ (∃ m : Int, L = m * step) ∧ -124 ≤ L ∧ L ≤ D) (fun v => (D - intOf v).toNat)
          case atStart => exact ⟨L, rfl, HM.out, by omega, by omega⟩
          case round =>
            obtain ⟨L2, rfl, hmm, hL3, hL4⟩ := hrel
            have HM2 := hid hmm
            clear hmm
            by_cases hlt2 : L2 + step ≤ D
            · go_wp2
              go_round
              case rel => exact ⟨L2 + step, rfl, (by obtain ⟨m, hm⟩ := HM2.out; exact ⟨m + 1, by rw [Int.add_mul]; omega⟩), by omega, by omega⟩
              case measure => simp [intOf]; omega
            · have hq : qLo D step = L2 := by
                obtain ⟨m, hm⟩ := HM2.out
                exact HQ.out L2 m hm hL4 (by omega)
              have e1 := HQ1.out
              have e2 := HQ2.out
              rw [hq] at e1 e2
              clear hq
              by_cases k1 : -100 ≤ L2
              · by_cases k2 : L2 + step - 1 ≤ 100
                · simp only [k1, k2, decide_true, Bool.and_self, if_true] at e1 e2
                  have E1 := hid e1
                  have E2 := hid e2
                  clear e1 e2
                  have hbe : Below w1.heap.size w1 (w1.alloc (.cells #[] 3)) := (Below.refl _ _).alloc (Nat.le_refl _) _
                  have L1 := hid (show (row.map (Value.int .i64)).length = n * 1 by rw [List.length_map, HN.out]; omega)
                  have L2' := hid (show a = none → n = 0 from fun h => by rw [← HN.out]; exact ints_none (HN0.out _ (HB.out _ hb1)) h)
                  have L3 := hid (ints_news ((HN0.out _ (HB.out _ hb1)).below hbe))
                  have M1 := hid (show 0 + n ≤ maxLen by rw [Nat.zero_add]; exact hm)
                  have M2 := hid (show (0 + n) * 8 ≤ 140737488355328 by omega)
                  have M3 := hid (show w1.heap.size ≤ (w1.alloc (.cells #[] 3)).heap.size by simp)
                  have M4 := hid (World.ownsRow_made (base := w1.heap.size) (e := 3) (size := 1) w1 #[] 0 (Nat.le_refl _) (Nat.zero_le _) rfl)
                  go_wp2_with (at_builtin; refine wpList_app _ rfl (.tmp 52) (.tmp 53) 25 rfl w1.heap.size 3 (.int .i64 0) 1 8 Try.underlying25 info_int rfl Nat.one_pos (.slice (some ⟨w1.heap.size, 0, none⟩) 0 0) 0 [] rfl M4.out a n cap (row.map (Value.int .i64)) rfl L1.out L2'.out L3.out (ints_oneCell _ _) M1.out M2.out M3.out ?_; refine Stop.of ?_)
                  refine Stop.go ?_
                  intro a1 cc w4 own1 g1
                  have hb4 := hbe.grown g1 M3.out (fun k hk => (M4.out.lt k hk).1)
                  obtain ⟨ra, rc, e1, hi4⟩ := own_at own1 (by simp) HN.out hm
                  simp only [Value.slice.injEq, true_and, Nat.zero_add] at e1
                  obtain ⟨rfl, rfl⟩ := e1
                  have hh := (hb4.block (w.heap.size + 1) f3).trans HH.out
                  clear c0 c1 c2 cf
                  obtain ⟨c0, c1, c2, cf⟩ := cell3_get hh
                  have HI := hid hi4
                  clear hi4 own1
                  have HC := hid (cell3_set hh (.slice a1 n cc) (.int .i64 L2) (.int .i64 (L2 + step - 1)))
                  clear hh
                  go_wp2
                  obtain ⟨r0, r1, r2, _⟩ := cell3_get HC.out
                  refine bodyPost_ret (v := .tuple #[.agg #[.slice a1 n cc, .int .i64 L2, .int .i64 (L2 + step - 1)], .int .i64 0]) ?_ rfl ⟨_, by rw [E1.out], by rw [E2.out]; exact ⟨a1, n, cc, rfl, HN.out, hm, (HI.out.set3 f3 _ _ _).at⟩, below_set3 (HB.out _ (chain hb1 hb4)) (by omega) _ _ _⟩
                  simp [results, Try.results28, go_sem, r0, r1, r2]
                · simp only [k1, k2, decide_true, decide_false, Bool.and_false, Bool.false_eq_true, if_false] at e1 e2
                  have E1 := hid e1
                  have E2 := hid e2
                  clear e1 e2
                  have HC := hid (cell3_set HH.out (.slice none 0 0) (.int .i64 0) (.int .i64 0))
                  go_wp2
                  obtain ⟨r0, r1, r2, _⟩ := cell3_get HC.out
                  refine bodyPost_ret (v := .tuple #[.agg #[.slice none 0 0, .int .i64 0, .int .i64 0], .int .i64 7]) ?_ rfl ⟨_, by rw [E1.out], by rw [E2.out]; exact CelV.zero _, below_set3 (HB.out _ hb1) (by omega) _ _ _⟩
                  simp [results, Try.results28, go_sem, r0, r1, r2]
              · simp only [k1, decide_false, Bool.false_and, Bool.false_eq_true, if_false] at e1 e2
                have E1 := hid e1
                have E2 := hid e2
                clear e1 e2
                have HC := hid (cell3_set HH.out (.slice none 0 0) (.int .i64 0) (.int .i64 0))
                go_wp2
                obtain ⟨r0, r1, r2, _⟩ := cell3_get HC.out
                refine bodyPost_ret (v := .tuple #[.agg #[.slice none 0 0, .int .i64 0, .int .i64 0], .int .i64 7]) ?_ rfl ⟨_, by rw [E1.out], by rw [E2.out]; exact CelV.zero _, below_set3 (HB.out _ hb1) (by omega) _ _ _⟩
                simp [results, Try.results28, go_sem, r0, r1, r2]
  · have hE1 : (rowedE p t row x != 0) = true := by simp [hE]
    have q1 : quantE p t row x step = rowedE p t row x := by rw [quantE, if_neg hE]
    have q2 : quantC p t row x step = ⟨[], 0, 0⟩ := by rw [quantC, q1, if_neg hE]
    rw [q1, q2]
    clear q1 q2
    have HE := hid hE
    clear hE hn H hn2 H2
    go_enter Try.func28, Try.ntmps28
    go_wp2_with fail
    rw [← hwf]
    clear hwf
    refine (HR.out _ hb0).mono ?_
    rintro e w1 ⟨rfl, hb1⟩
    obtain ⟨f0, f1, f2, f3⟩ := HF.out _ hb1
    obtain ⟨c0, c1, c2, cf⟩ := cell3_get f2
    have HC := hid (cell3_set f2 (.slice none 0 0) (.int .i64 0) (.int .i64 0))
    clear f2
    go_wp2
    obtain ⟨r0, r1, r2, _⟩ := cell3_get HC.out
    refine bodyPost_ret (v := .tuple #[.agg #[.slice none 0 0, .int .i64 0, .int .i64 0], .int .i64 (rowedE p t row x)]) ?_ rfl ⟨_, rfl, CelV.zero _, below_set3 (HB.out _ hb1) (by omega) _ _ _⟩
    simp [results, Try.results28, go_sem, r0, r1, r2]
end Go.Proofs.Ytdcflpfaaeijoaa

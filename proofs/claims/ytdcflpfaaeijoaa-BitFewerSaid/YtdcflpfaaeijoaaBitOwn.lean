/- The statement BitOwn: the walk of the law. -/
import Derived.Test.YtdcflpfaaeijoaaBitO
namespace Go.Proofs.Ytdcflpfaaeijoaa
open Go.RowKit
set_option linter.unusedVariables false

theorem own_quant {p t step : Int} {row x : List Int} (h : quantE p t row x step = 0) : fitsE p t [quantC p t row x step] x = 0 ∧ fitsV p t [quantC p t row x step] x = true := by
  have hq : quantC p t row x step = ⟨row, qLo (dotW row x) step, qLo (dotW row x) step + step - 1⟩ := by rw [quantC, if_pos h]
  rw [hq]
  unfold quantE at h
  split at h
  · rename_i hE
    split at h
    · rename_i hc
      obtain ⟨h1, h2⟩ := (Bool.and_eq_true _ _).mp hc
      have hs : 1 ≤ step ∧ step ≤ 100 := by simpa [inB] using h1
      obtain ⟨d1, d2⟩ := dot_bd24 hE
      obtain ⟨b1, b2, b3⟩ := qLo_bd d1 d2 hs.1 hs.2
      have hf := (rowE_zero (rowedE_zero hE).1).1
      have hp := (rowedE_zero hE).2
      have hok : okCells p t [⟨row, qLo (dotW row x) step, qLo (dotW row x) step + step - 1⟩] = true := by simp [okCells, hf, h2]
      have e1 : fitsE p t [⟨row, qLo (dotW row x) step, qLo (dotW row x) step + step - 1⟩] x = 0 := by rw [fitsE, hok, if_pos rfl, hp]
      refine ⟨e1, ?_⟩
      rw [fitsV, if_pos e1]
      simp [fitA, fitC, inB]
      omega
    · omega
  · exact absurd h (by assumption)

theorem own_bit {p t thr : Int} {row x : List Int} (h : bitE p t row x thr = 0) : fitsE p t [bitCC p t row x thr] x = 0 ∧ fitsV p t [bitCC p t row x thr] x = true := by
  have hq : bitCC p t row x thr = bitC row x thr := by rw [bitCC, if_pos h]
  rw [hq]
  unfold bitE at h
  split at h
  · rename_i hE
    split at h
    · rename_i h1
      have hs : -99 ≤ thr ∧ thr ≤ 100 := by simpa [inB] using h1
      obtain ⟨d1, d2⟩ := dot_bd24 hE
      obtain ⟨hf, hr⟩ := rowE_zero (rowedE_zero hE).1
      have hp := (rowedE_zero hE).2
      have hc : okCell p (bitC row x thr) = true ∧ inB (dotW row x) (bitC row x thr).lo (bitC row x thr).hi = true ∧ (bitC row x thr).row = row := by
        unfold bitC okCell
        split <;> simp [hr, inB] <;> omega
      have hok : okCells p t [bitC row x thr] = true := by simp [okCells, hf, hc.1]
      have e1 : fitsE p t [bitC row x thr] x = 0 := by rw [fitsE, hok, if_pos rfl, hp]
      refine ⟨e1, ?_⟩
      rw [fitsV, if_pos e1]
      simp only [fitA, fitC, List.all_cons, List.all_nil, Bool.and_true, hc.2.2]
      exact hc.2.1
    · omega
  · exact absurd h (by assumption)

theorem one_cell (W : World) (ra : Option Addr) (n rc : Nat) (c : Cel) (hn : c.row.length = n) (hm : n ≤ maxLen) (h1 : IntsAt W ra c.row) : CellsAt (W.alloc (.cells #[.slice ra n rc, .int .i64 c.lo, .int .i64 c.hi] 41)) (some ⟨W.heap.size, 0, none⟩) [c] := by
  have hb : Below W.heap.size W (W.alloc (.cells #[.slice ra n rc, .int .i64 c.lo, .int .i64 c.hi] 41)) := (Below.refl _ _).alloc (Nat.le_refl _) _
  intro j hj
  have : j = 0 := by simp at hj; omega
  subst this
  refine ⟨W.heap.size, 0, ra, n, rc, rfl, by simp, ?_, ?_, ?_, hn, hm, h1.below hb⟩ <;> (rw [World.cell?_alloc_at _ _ _ _ rfl]; rfl)

theorem box_later {W W' : World} {b : Nat} {c : Obj} (hb : Below W.heap.size W W') (h : W.heap[b]? = some c) : W'.heap[b]? = some c := (hb.block b (Array.getElem?_eq_some_iff.1 h).1).trans h

set_option maxRecDepth 100000 in
set_option maxHeartbeats 4000000 in
theorem bitOwn_c (w : World) (p t : Int)
    (a2 : Option Addr) (n2 cap2 : Nat) (row : List Int) (hn2 : row.length = n2) (hm2 : n2 ≤ maxLen) (H2 : IntsAt w a2 row)
    (a3 : Option Addr) (n3 cap3 : Nat) (x : List Int) (hn3 : x.length = n3) (hm3 : n3 ≤ maxLen) (H3 : IntsAt w a3 x) (step thr : Int) :
    Calls Try.prog 5 #[.agg #[.int .i64 p, .int .i64 t], .slice a2 n2 cap2, .slice a3 n3 cap3, .int .i64 step, .int .i64 thr] w fun e w' => e = .returned (.bool true) ∧ Below w.heap.size w w' := by
  obtain ⟨wf, hwf⟩ : ∃ wf, wf = w.alloc (.cells #[.int .i64 p, .int .i64 t] 23) := ⟨_, rfl⟩
  have hb0 : Below w.heap.size w wf := by rw [hwf]; exact (Below.refl _ _).alloc (Nat.le_refl _) _
  have HF := hid (fun (W : World) (hb : Below wf.heap.size wf W) => show W.cell? ⟨w.heap.size, 0, none⟩ = some (.int .i64 p) ∧ W.cell? ⟨w.heap.size, 1, none⟩ = some (.int .i64 t) from by
    have hz : wf.heap.size = w.heap.size + 1 := by rw [hwf]; simp
    refine ⟨(hb.cell (p := ⟨w.heap.size, 0, none⟩) (show w.heap.size < wf.heap.size by omega)).trans ?_, (hb.cell (p := ⟨w.heap.size, 1, none⟩) (show w.heap.size < wf.heap.size by omega)).trans ?_⟩ <;> (rw [hwf, World.cell?_alloc_at _ _ _ _ rfl]; rfl))
  have HB := hid (fun (W : World) (hb : Below wf.heap.size wf W) => chain hb0 hb)
  have HFEW := hid (fun W : World => few_c W p t 70000)
  have HAW := hid awake_c
  have HQ1 := hid (fun (W : World) (hb : Below w.heap.size w W) => quantised_c W p t a2 n2 cap2 row hn2 hm2 (H2.below hb) a3 n3 cap3 x hn3 hm3 (H3.below hb) step)
  have HQ2 := hid (fun (W : World) (hb : Below w.heap.size w W) => refQuantised_c W p t a2 n2 cap2 row hn2 hm2 (H2.below hb) a3 n3 cap3 x hn3 hm3 (H3.below hb) step)
  have HB1 := hid (fun (W : World) (hb : Below w.heap.size w W) => bitP_c W p t a2 n2 cap2 row hn2 hm2 (H2.below hb) a3 n3 cap3 x hn3 hm3 (H3.below hb) thr)
  have HB2 := hid (fun (W : World) (hb : Below w.heap.size w W) => refBitP_c W p t a2 n2 cap2 row hn2 hm2 (H2.below hb) a3 n3 cap3 x hn3 hm3 (H3.below hb) thr)
  have HFT := hid (fun (W : World) (hb : Below w.heap.size w W) (a : Option Addr) (l : List Cel) (hl : l.length = 1) (H : CellsAt W a l) => fitsP_c W p t a 1 1 l hl (by decide) H a3 n3 cap3 x hn3 hm3 (H3.below hb))
  have HO1 := hid (own_quant (p := p) (t := t) (step := step) (row := row) (x := x))
  have HO2 := hid (own_bit (p := p) (t := t) (thr := thr) (row := row) (x := x))
  obtain ⟨C1, hC1⟩ : ∃ C, C = quantC p t row x step := ⟨_, rfl⟩
  obtain ⟨C2, hC2⟩ : ∃ C, C = bitCC p t row x thr := ⟨_, rfl⟩
  obtain ⟨E1, hE1⟩ : ∃ E, E = quantE p t row x step := ⟨_, rfl⟩
  obtain ⟨E2, hE2⟩ : ∃ E, E = bitE p t row x thr := ⟨_, rfl⟩
  rw [← hC1, ← hE1] at HQ1 HQ2 HO1
  rw [← hC2, ← hE2] at HB1 HB2 HO2
  clear hC1 hC2 hE1 hE2
  unfold maxLen at hm2 hm3
  clear hn2 H2 hn3 H3
  cases h1 : fewB p t 70000 <;> rw [h1] at HFEW
  · go_enter Try.func5, Try.ntmps5
    go_wp2_with fail
    rw [← hwf]
    clear hwf
    refine (HFEW.out _).mono ?_
    rintro e w1 ⟨rfl, hb1⟩
    go_wp2_with (go_at_call 12; refine (HAW.out _).mono ?_; rintro e w2 ⟨rfl, hb2⟩)
    go_ret
    exact ⟨rfl, chain (HB.out _ hb1) hb2⟩
  by_cases h3 : n2 ≤ 20 <;> by_cases h4 : n3 ≤ 20
  all_goals
    go_enter Try.func5, Try.ntmps5
    go_wp2_with fail
    rw [← hwf]
    clear hwf
    refine (HFEW.out _).mono ?_
    rintro e w1 ⟨rfl, hb1⟩
    obtain ⟨f10, f11⟩ := HF.out _ hb1
  · go_wp2_with (first
      | (go_at_call 27; refine (HQ1.out _ (HB.out _ hb1)).mono ?_; rintro e w3 ⟨v, rfl, hv3, hb3⟩; refine Stop.of ?_))
    refine Stop.go ?_
    have hbw3 := chain hb1 hb3
    obtain ⟨ra, rn, rc, rfl, en, em, ei⟩ := hv3
    have hA3 := World.alloc_heap_new w3 (.cells #[.slice ra rn rc, .int .i64 C1.lo, .int .i64 C1.hi] 41)
    have hbw4 := hbw3.alloc hbw3.size (.cells #[.slice ra rn rc, .int .i64 C1.lo, .int .i64 C1.hi] 41)
    have hb4 : Below w3.heap.size w3 (w3.alloc (.cells #[.slice ra rn rc, .int .i64 C1.lo, .int .i64 C1.hi] 41)) := (Below.refl _ _).alloc (Nat.le_refl _) _
    obtain ⟨f40, f41⟩ := HF.out _ hbw4
    have HV1 := hid (fun (W : World) (hb : Below w3.heap.size w3 W) => show CelV W (.agg #[.slice ra rn rc, .int .i64 C1.lo, .int .i64 C1.hi]) C1 from ⟨ra, rn, rc, rfl, en, em, ei.below hb⟩)
    have HI1 := hid (fun (W : World) (hb : Below w3.heap.size w3 W) => one_cell W ra rn rc C1 en em (ei.below hb))
    have HA3 := hid hA3
    clear hA3 en ei
    unfold maxLen at em
    go_wp2_with (first
      | (go_at_call 28; refine (HQ2.out _ (HB.out _ hbw4)).mono ?_; rintro e w5 ⟨v, rfl, hv5, hb5⟩; refine Stop.of ?_))
    refine Stop.go ?_
    have hbw5 := chain hbw4 hb5
    have hb35 := chain hb4 hb5
    obtain ⟨rb, rm, rd, rfl, en, em2, ei⟩ := hv5
    have hbw6 := hbw5.alloc hbw5.size (.cells #[.slice rb rm rd, .int .i64 C1.lo, .int .i64 C1.hi] 41)
    have hb6 : Below w5.heap.size w5 (w5.alloc (.cells #[.slice rb rm rd, .int .i64 C1.lo, .int .i64 C1.hi] 41)) := (Below.refl _ _).alloc (Nat.le_refl _) _
    have HA5 := hid (World.alloc_heap_new w5 (.cells #[.slice rb rm rd, .int .i64 C1.lo, .int .i64 C1.hi] 41))
    obtain ⟨f60, f61⟩ := HF.out _ hbw6
    have HV2 := hid (fun (W : World) (hb : Below w5.heap.size w5 W) => show CelV W (.agg #[.slice rb rm rd, .int .i64 C1.lo, .int .i64 C1.hi]) C1 from ⟨rb, rm, rd, rfl, en, em2, ei.below hb⟩)
    clear en ei
    go_wp2_with (first
      | (go_at_call 29; refine (HB1.out _ (HB.out _ hbw6)).mono ?_; rintro e w7 ⟨v, rfl, hv7, hb7⟩; refine Stop.of ?_))
    refine Stop.go ?_
    have hbw7 := chain hbw6 hb7
    have hb57 := chain hb6 hb7
    obtain ⟨rg, rk, rh, rfl, en, em3, ei⟩ := hv7
    have hbw8 := hbw7.alloc hbw7.size (.cells #[.slice rg rk rh, .int .i64 C2.lo, .int .i64 C2.hi] 41)
    have hb8 : Below w7.heap.size w7 (w7.alloc (.cells #[.slice rg rk rh, .int .i64 C2.lo, .int .i64 C2.hi] 41)) := (Below.refl _ _).alloc (Nat.le_refl _) _
    have HA7 := hid (World.alloc_heap_new w7 (.cells #[.slice rg rk rh, .int .i64 C2.lo, .int .i64 C2.hi] 41))
    obtain ⟨f80, f81⟩ := HF.out _ hbw8
    have HV3 := hid (fun (W : World) (hb : Below w7.heap.size w7 W) => show CelV W (.agg #[.slice rg rk rh, .int .i64 C2.lo, .int .i64 C2.hi]) C2 from ⟨rg, rk, rh, rfl, en, em3, ei.below hb⟩)
    have HI3 := hid (fun (W : World) (hb : Below w7.heap.size w7 W) => one_cell W rg rk rh C2 en em3 (ei.below hb))
    clear en ei
    go_wp2_with (first
      | (go_at_call 30; refine (HB2.out _ (HB.out _ hbw8)).mono ?_; rintro e w9 ⟨v, rfl, hv9, hb9⟩; refine Stop.of ?_))
    refine Stop.go ?_
    have hbw9 := chain hbw8 hb9
    have hb79 := chain hb8 hb9
    obtain ⟨rq, rr, rs, rfl, en, em4, ei⟩ := hv9
    have hA9 := World.alloc_heap_new w9 (.cells #[.slice rq rr rs, .int .i64 C2.lo, .int .i64 C2.hi] 41)
    have hbwA := hbw9.alloc hbw9.size (.cells #[.slice rq rr rs, .int .i64 C2.lo, .int .i64 C2.hi] 41)
    have hbA : Below w9.heap.size w9 (w9.alloc (.cells #[.slice rq rr rs, .int .i64 C2.lo, .int .i64 C2.hi] 41)) := (Below.refl _ _).alloc (Nat.le_refl _) _
    obtain ⟨wA, hwA⟩ : ∃ wA, wA = w9.alloc (.cells #[.slice rq rr rs, .int .i64 C2.lo, .int .i64 C2.hi] 41) := ⟨_, rfl⟩
    have HV4 := hid (fun (W : World) (hb : Below w9.heap.size w9 W) => show CelV W (.agg #[.slice rq rr rs, .int .i64 C2.lo, .int .i64 C2.hi]) C2 from ⟨rq, rr, rs, rfl, en, em4, ei.below hb⟩)
    clear en ei
    have b7A := chain hb79 hbA
    have b5A := chain hb57 b7A
    have b3A := chain hb35 b5A
    have x7 := box_later (chain hb9 hbA) HA7.out
    have x5 := box_later (chain hb7 b7A) HA5.out
    have x3 := box_later (chain hb5 b5A) HA3.out
    rw [← hwA] at hA9 hbwA hbA b7A b5A b3A x7 x5 x3
    have HX := hid (fun (W : World) (hb : Below wA.heap.size wA W) => And.intro (cell3_get (box_later hb x3)) (And.intro (cell3_get (box_later hb x5)) (And.intro (cell3_get (box_later hb x7)) (cell3_get (box_later hb hA9)))))
    clear hA9 x7 x5 x3
    obtain ⟨⟨k0, k1, k2, _⟩, ⟨l0, l1, l2, _⟩, ⟨m0, m1, m2, _⟩, ⟨n0, n1, n2', _⟩⟩ := HX.out wA (Below.refl _ _)
    obtain ⟨fA0, fA1⟩ := HF.out _ hbwA
    have HS1 := hid (sameCell_c wA _ _ C1 (HV1.out _ b3A) (HV2.out _ b5A))
    have HS2 := hid (fun (W : World) (hb : Below wA.heap.size wA W) => sameCell_c W _ _ C2 (HV3.out _ (chain b7A hb)) (HV4.out _ (chain hbA hb)))
    rw [hwA] at k0 k1 k2 l0 l1 l2 fA0 fA1
    clear m0 m1 m2 n0 n1 n2'
    go_wp2_with fail
    rw [← hwA]
    clear hwA
    refine HS1.out.mono ?_
    rintro e wB ⟨rfl, hbB⟩
    clear k0 k1 k2 l0 l1 l2 fA0 fA1
    obtain ⟨_, _, ⟨m0, m1, m2, _⟩, ⟨n0, n1, n2', _⟩⟩ := HX.out wB hbB
    go_wp2_with (go_at_call 31; refine (HS2.out _ hbB).mono ?_; rintro e wC ⟨rfl, hbC0⟩; refine Stop.of ?_)
    refine Stop.go ?_
    have hbC := chain hbB hbC0
    clear m0 m1 m2 n0 n1 n2' HS1 HS2
    by_cases e1 : E1 = 0
    · subst e1
      obtain ⟨⟨k0, k1, k2, _⟩, _, _, _⟩ := HX.out wC hbC
      obtain ⟨fA0, fA1⟩ := HF.out _ (chain hbwA hbC)
      have FT1 := HFT.out _ (HB.out _ ((chain hbwA hbC).alloc (chain hbwA hbC).size (.cells #[.slice ra rn rc, .int .i64 C1.lo, .int .i64 C1.hi] 41))) _ _ rfl (HI1.out _ (chain b3A hbC))
      rw [(HO1.out rfl).1, (HO1.out rfl).2] at FT1
      have FT1 := hid FT1
      have hbX : Below wC.heap.size wC (wC.alloc (.cells #[.slice ra rn rc, .int .i64 C1.lo, .int .i64 C1.hi] 41)) := (Below.refl _ _).alloc (Nat.le_refl _) _
      go_wp2_with (first | (go_at_call 32; refine FT1.out.mono ?_; rintro e wD ⟨rfl, hbD0⟩; refine Stop.of ?_))
      refine Stop.go ?_
      have hbD := chain hbC (chain hbX hbD0)
      clear k0 k1 k2 fA0 fA1
      obtain ⟨⟨k0, k1, k2, _⟩, _, ⟨m0, m1, m2, _⟩, _⟩ := HX.out wD hbD
      obtain ⟨fA0, fA1⟩ := HF.out _ (chain hbwA hbD)
      by_cases e2 : E2 = 0
      · subst e2
        have FT2 := HFT.out _ (HB.out _ ((chain hbwA hbD).alloc (chain hbwA hbD).size (.cells #[.slice rg rk rh, .int .i64 C2.lo, .int .i64 C2.hi] 41))) _ _ rfl (HI3.out _ (chain b7A hbD))
        rw [(HO2.out rfl).1, (HO2.out rfl).2] at FT2
        have FT2 := hid FT2
        have hbY : Below wD.heap.size wD (wD.alloc (.cells #[.slice rg rk rh, .int .i64 C2.lo, .int .i64 C2.hi] 41)) := (Below.refl _ _).alloc (Nat.le_refl _) _
        go_wp2_with (first | (go_at_call 32; refine FT2.out.mono ?_; rintro e wE ⟨rfl, hbE⟩) | (go_at_call 12; refine (HAW.out _).mono ?_; rintro e wZ ⟨rfl, hbZ⟩))
        go_ret
        exact ⟨rfl, chain (chain (chain (HB.out _ (chain hbwA hbD)) hbY) hbE) hbZ⟩
      · have e2' : (E2 == 0) = false := by simp [e2]
        go_wp2_with (first | (go_at_call 12; refine (HAW.out _).mono ?_; rintro e wZ ⟨rfl, hbZ⟩))
        go_ret
        exact ⟨rfl, chain (HB.out _ (chain hbwA hbD)) hbZ⟩
    · have e1' : (E1 == 0) = false := by simp [e1]
      obtain ⟨⟨k0, k1, k2, _⟩, _, ⟨m0, m1, m2, _⟩, _⟩ := HX.out wC hbC
      obtain ⟨fA0, fA1⟩ := HF.out _ (chain hbwA hbC)
      by_cases e2 : E2 = 0
      · subst e2
        have FT2 := HFT.out _ (HB.out _ ((chain hbwA hbC).alloc (chain hbwA hbC).size (.cells #[.slice rg rk rh, .int .i64 C2.lo, .int .i64 C2.hi] 41))) _ _ rfl (HI3.out _ (chain b7A hbC))
        rw [(HO2.out rfl).1, (HO2.out rfl).2] at FT2
        have FT2 := hid FT2
        have hbY : Below wC.heap.size wC (wC.alloc (.cells #[.slice rg rk rh, .int .i64 C2.lo, .int .i64 C2.hi] 41)) := (Below.refl _ _).alloc (Nat.le_refl _) _
        go_wp2_with (first | (go_at_call 32; refine FT2.out.mono ?_; rintro e wE ⟨rfl, hbE⟩) | (go_at_call 12; refine (HAW.out _).mono ?_; rintro e wZ ⟨rfl, hbZ⟩))
        go_ret
        exact ⟨rfl, chain (chain (chain (HB.out _ (chain hbwA hbC)) hbY) hbE) hbZ⟩
      · have e2' : (E2 == 0) = false := by simp [e2]
        go_wp2_with (first | (go_at_call 12; refine (HAW.out _).mono ?_; rintro e wZ ⟨rfl, hbZ⟩))
        go_ret
        exact ⟨rfl, chain (HB.out _ (chain hbwA hbC)) hbZ⟩
  all_goals
    go_wp2_with (go_at_call 12; refine (HAW.out _).mono ?_; rintro e w2 ⟨rfl, hb2⟩)
    go_ret
    exact ⟨rfl, chain (HB.out _ hb1) hb2⟩
end Go.Proofs.Ytdcflpfaaeijoaa

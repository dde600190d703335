/- The statement BitFields: the walk of the law, and the row. -/
import Derived.Test.YtdcflpfaaeijoaaBitK
import Derived.Test.YtdcflpfaaeijoaaOpen
import Derived.Test.YtdcflpfaaeijoaaLift
import Derived.Below
import Derived.ProofKit
import Derived.OpenShut
import Derived.Carry
import Derived.Sort.QuietIn
namespace Go.Proofs.Ytdcflpfaaeijoaa
open Go.RowKit
set_option linter.unusedVariables false

theorem dot_sight {t : Int} (t0 : 0 ≤ t) (t3 : t ≤ 3) {row x : List Int} (hr : ∀ n ∈ row, inB n (-1) 1 = true) (hx : ∀ n ∈ x, inB n 0 t = true) : ∀ k : Nat, k ≤ row.length → k ≤ x.length → k ≤ 8 → sLo t row k ≤ dotTo row x k ∧ dotTo row x k ≤ sHi t row k := by
  intro k
  induction k with
  | zero => intro _ _ _; exact ⟨Int.le_refl _, Int.le_refl _⟩
  | succ k ih =>
    intro h1 h2 h8
    obtain ⟨i1, i2⟩ := ih (by omega) (by omega) (by omega)
    have b1 := sLo_bd t0 t3 row k
    have b2 := sHi_bd t0 t3 row k
    have hrk := hr _ (List.getElem_mem (show k < row.length by omega))
    have hxk := hx _ (List.getElem_mem (show k < x.length by omega))
    have e1 : row[k]?.getD 0 = row[k] := by rw [List.getElem?_eq_getElem (by omega)]; rfl
    have e2 : x[k]?.getD 0 = x[k] := by rw [List.getElem?_eq_getElem (by omega)]; rfl
    have q1 : dotTo row x (k + 1) = wrap64 (dotTo row x k + wrap64 (row[k]?.getD 0 * x[k]?.getD 0)) := rfl
    have q2 : sLo t row (k + 1) = sLo t row k - (if row[k]?.getD 0 < 0 then t else 0) := rfl
    have q3 : sHi t row (k + 1) = sHi t row k + (if 0 < row[k]?.getD 0 then t else 0) := rfl
    rw [q1, q2, q3, e1, e2]
    simp only [inB, Bool.and_eq_true, decide_eq_true_eq] at hrk hxk
    obtain ⟨a1, a2⟩ := hrk
    generalize row[k] = r at *
    generalize x[k] = y at *
    have : r = -1 ∨ r = 0 ∨ r = 1 := by omega
    generalize dotTo row x k = D at *
    generalize sLo t row k = A at *
    generalize sHi t row k = B at *
    rcases this with rfl | rfl | rfl <;> simp [wrap64] <;> omega

/-- a sum that is a picture's lies within the sight -/
theorem sum_sight {p t : Int} {row x : List Int} (h : rowedE p t row x = 0) : rowE p t row = 0 ∧ sightLo p t row ≤ sumV p t row x ∧ sumV p t row x ≤ sightHi p t row := by
  have hr : rowE p t row = 0 := by
    unfold rowedE at h; split at h
    · assumption
    · simp at h
  rw [rowedE, if_pos hr] at h
  have hok : okField p t = true ∧ okRow p row = true := by
    unfold rowE at hr; split at hr
    · rename_i h; simpa using h
    · simp at hr
  have hrow := hok.2
  simp only [okRow, Bool.and_eq_true, decide_eq_true_eq, List.all_eq_true] at hrow
  have hpx : (x.length : Int) = p ∧ ∀ n ∈ x, inB n 0 t = true := by
    unfold picE at h
    split at h
    · simp at h
    · split at h
      · rename_i h1 h2; exact ⟨by omega, List.all_eq_true.1 h2⟩
      · simp at h
  obtain ⟨p1, p8, t0, t3⟩ := okField_bd hok.1
  have := dot_sight t0 t3 (fun n hn => hrow.2 n hn) hpx.2 row.length (Nat.le_refl _) (by omega) (by omega)
  refine ⟨hr, ?_⟩
  rw [sightLo, sightHi, if_pos hr, if_pos hr, sumV, if_pos (by rw [rowedE, if_pos hr, picE, if_neg (by omega), if_pos (List.all_eq_true.2 hpx.2)])]
  exact this

set_option maxRecDepth 100000 in
set_option maxHeartbeats 4000000 in
theorem bitFields_c (w : World) (p t : Int) (a : Option Addr) (n cap : Nat) (l : List Cel) (hn : l.length = n) (hm : n ≤ maxLen) (H : CellsAt w a l)
    (a2 : Option Addr) (n2 cap2 : Nat) (row : List Int) (hn2 : row.length = n2) (hm2 : n2 ≤ maxLen) (H2 : IntsAt w a2 row)
    (a3 : Option Addr) (n3 cap3 : Nat) (x : List Int) (hn3 : x.length = n3) (hm3 : n3 ≤ maxLen) (H3 : IntsAt w a3 x) :
    Calls Try.prog 3 #[.agg #[.int .i64 p, .int .i64 t], .slice a n cap, .slice a2 n2 cap2, .slice a3 n3 cap3] w fun e w' => e = .returned (.bool true) ∧ Below w.heap.size w w' := by
  have hb0 : Below w.heap.size w (w.alloc (.cells #[.int .i64 p, .int .i64 t] 23)) := (Below.refl _ _).alloc (Nat.le_refl _) _
  have HFEW := hid (fun W : World => few_c W p t 5000)
  have HFIT := hid (fun (W : World) (hb : Below w.heap.size w W) => fit_c W a n cap l hn hm (H.below hb))
  have HAW := hid awake_c
  have HP1 := hid (fun W : World => picturesP_c W p t)
  have HP2 := hid (fun W : World => refPicturesP_c W p t)
  have HS1 := hid (fun (W : World) (hb : Below w.heap.size w W) => sumP_c W p t a2 n2 cap2 row hn2 hm2 (H2.below hb) a3 n3 cap3 x hn3 hm3 (H3.below hb))
  have HS2 := hid (fun (W : World) (hb : Below w.heap.size w W) => refSumP_c W p t a2 n2 cap2 row hn2 hm2 (H2.below hb) a3 n3 cap3 x hn3 hm3 (H3.below hb))
  have HG1 := hid (fun (W : World) (hb : Below w.heap.size w W) => sight_c W p t a2 n2 cap2 row hn2 hm2 (H2.below hb))
  have HG2 := hid (fun (W : World) (hb : Below w.heap.size w W) => refSight_c W p t a2 n2 cap2 row hn2 hm2 (H2.below hb))
  have HV1 := hid (fun W : World => validField_c p t W)
  have HV2 := hid (fun W : World => refValidField_c p t W)
  have HC1 := hid (fun (W : World) (hb : Below w.heap.size w W) => validCells_c W p t a n cap l hn hm (H.below hb))
  have HC2 := hid (fun (W : World) (hb : Below w.heap.size w W) => refValidCells_c W p t a n cap l hn hm (H.below hb))
  have HSS := hid (fun h => sum_sight (p := p) (t := t) (row := row) (x := x) h)
  clear hn H hn2 H2 hn3 H3
  unfold maxLen at hm hm2 hm3
  rcases h1 : fewB p t 5000 with _ | _
  · rw [h1] at HFEW
    go_enter Try.func3, Try.ntmps3
    go_wp2_with (first | (go_at_call 10; refine (HFEW.out _).mono ?_; rintro e w1 ⟨rfl, hb1⟩) | (go_at_call 12; refine (HAW.out _).mono ?_; rintro e w2 ⟨rfl, hb2⟩))
    go_ret
    exact ⟨rfl, chain (chain hb0 hb1) hb2⟩
  rcases h2 : fitB l with _ | _
  · rw [h1] at HFEW
    rw [h2] at HFIT
    go_enter Try.func3, Try.ntmps3
    go_wp2_with (first | (go_at_call 10; refine (HFEW.out _).mono ?_; rintro e w1 ⟨rfl, hb1⟩; have hbw1 := chain hb0 hb1) | (go_at_call 11; refine (HFIT.out _ hbw1).mono ?_; rintro e w2 ⟨rfl, hb2⟩; have hbw2 := chain hbw1 hb2) | (go_at_call 12; refine (HAW.out _).mono ?_; rintro e w3 ⟨rfl, hb3⟩))
    go_ret
    exact ⟨rfl, chain hbw2 hb3⟩
  rw [h1] at HFEW
  rw [h2] at HFIT
  by_cases h3 : n2 ≤ 20 <;> by_cases h4 : n3 ≤ 20
  case pos =>
    obtain ⟨wf, hwf⟩ : ∃ wf, wf = w.alloc (.cells #[.int .i64 p, .int .i64 t] 23) := ⟨_, rfl⟩
    rw [← hwf] at hb0
    have HF := hid (fun (W : World) (hb : Below wf.heap.size wf W) => show W.cell? ⟨w.heap.size, 0, none⟩ = some (.int .i64 p) ∧ W.cell? ⟨w.heap.size, 1, none⟩ = some (.int .i64 t) ∧ w.heap.size < W.heap.size from by
      have hs := hb.size
      have hz : wf.heap.size = w.heap.size + 1 := by rw [hwf]; simp
      refine ⟨(hb.cell (p := ⟨w.heap.size, 0, none⟩) (show w.heap.size < wf.heap.size by omega)).trans ?_, (hb.cell (p := ⟨w.heap.size, 1, none⟩) (show w.heap.size < wf.heap.size by omega)).trans ?_, by omega⟩ <;> (rw [hwf, World.cell?_alloc_at _ _ _ _ rfl]; rfl))
    have HB := hid (fun (W : World) (hb : Below wf.heap.size wf W) => chain hb0 hb)
    go_enter Try.func3, Try.ntmps3
    go_wp2_with fail
    rw [← hwf]
    clear hwf
    refine (HFEW.out _).mono ?_
    rintro e w1 ⟨rfl, hb1⟩
    obtain ⟨f10, f11, f12⟩ := HF.out _ hb1
    go_wp2_with (first
      | (go_at_call 11; refine (HFIT.out _ (HB.out _ hb1)).mono ?_; rintro e w2 ⟨rfl, hb2⟩; have hbw2 := chain hb1 hb2; obtain ⟨f20, f21, f22⟩ := HF.out _ hbw2)
      | (go_at_call 13; refine (HP1.out _).mono ?_; rintro e w3 ⟨rfl, hb3⟩; have hbw3 := chain hbw2 hb3; obtain ⟨f30, f31, f32⟩ := HF.out _ hbw3)
      | (go_at_call 14; refine (HP2.out _).mono ?_; rintro e w4 ⟨rfl, hb4⟩; have hbw4 := chain hbw3 hb4; obtain ⟨f40, f41, f42⟩ := HF.out _ hbw4)
      | (go_at_call 15; refine (HS1.out _ (HB.out _ hbw4)).mono ?_; rintro e w5 ⟨rfl, hb5⟩; have hbw5 := chain hbw4 hb5; obtain ⟨f50, f51, f52⟩ := HF.out _ hbw5)
      | (go_at_call 16; refine (HS2.out _ (HB.out _ hbw5)).mono ?_; rintro e w6 ⟨rfl, hb6⟩; have hbw6 := chain hbw5 hb6; obtain ⟨f60, f61, f62⟩ := HF.out _ hbw6)
      | (go_at_call 17; refine (HG1.out _ (HB.out _ hbw6)).mono ?_; rintro e w7 ⟨rfl, hb7⟩; have hbw7 := chain hbw6 hb7; have hbw7a := hbw7.alloc hbw7.size (.cells #[.int .i64 (sightLo p t row), .int .i64 (sightHi p t row)] 34); obtain ⟨f70, f71, f72⟩ := HF.out _ hbw7a)
      | (go_at_call 18; refine (HG2.out _ (HB.out _ hbw7a)).mono ?_; rintro e w8 ⟨rfl, hb8⟩; have hbw8 := chain hbw7a hb8; have hbw8a := hbw8.alloc hbw8.size (.cells #[.int .i64 (sightLo p t row), .int .i64 (sightHi p t row)] 34)))
    obtain ⟨f80, f81, f82⟩ := HF.out _ hbw8a
    have k0 : (w8.alloc (.cells #[.int .i64 (sightLo p t row), .int .i64 (sightHi p t row)] 34)).cell? ⟨w8.heap.size, 0, none⟩ = some (.int .i64 (sightLo p t row)) := by rw [World.cell?_alloc_at _ _ _ _ rfl]; rfl
    have k1 : (w8.alloc (.cells #[.int .i64 (sightLo p t row), .int .i64 (sightHi p t row)] 34)).cell? ⟨w8.heap.size, 1, none⟩ = some (.int .i64 (sightHi p t row)) := by rw [World.cell?_alloc_at _ _ _ _ rfl]; rfl
    have hs8 := hb8.size
    simp only [World.size_alloc] at hs8
    have j0 : (w8.alloc (.cells #[.int .i64 (sightLo p t row), .int .i64 (sightHi p t row)] 34)).cell? ⟨w7.heap.size, 0, none⟩ = some (.int .i64 (sightLo p t row)) := by
      rw [World.cell?_alloc_lt _ _ _ (show w7.heap.size < w8.heap.size by omega), hb8.cell (p := ⟨w7.heap.size, 0, none⟩) (by simp), World.cell?_alloc_at _ _ _ _ rfl]; rfl
    have j1 : (w8.alloc (.cells #[.int .i64 (sightLo p t row), .int .i64 (sightHi p t row)] 34)).cell? ⟨w7.heap.size, 1, none⟩ = some (.int .i64 (sightHi p t row)) := by
      rw [World.cell?_alloc_lt _ _ _ (show w7.heap.size < w8.heap.size by omega), hb8.cell (p := ⟨w7.heap.size, 1, none⟩) (by simp), World.cell?_alloc_at _ _ _ _ rfl]; rfl
    have zR : (w8.alloc (.cells #[.int .i64 (sightLo p t row), .int .i64 (sightHi p t row)] 34)).heap.size = w8.heap.size + 1 := by simp
    obtain ⟨wR, hwR⟩ : ∃ wR, wR = w8.alloc (.cells #[.int .i64 (sightLo p t row), .int .i64 (sightHi p t row)] 34) := ⟨_, rfl⟩
    rw [← hwR] at hbw8a f80 f81 f82 k0 k1 j0 j1 zR ⊢
    clear hwR
    have l0 := lift_cell (show w.heap.size < wR.heap.size from f82) f80
    have l1 := lift_cell (show w.heap.size < wR.heap.size from f82) f81
    have l2 := lift_cell (show w7.heap.size < wR.heap.size by omega) j0
    have l3 := lift_cell (show w7.heap.size < wR.heap.size by omega) j1
    have l4 := lift_cell (show w8.heap.size < wR.heap.size by omega) k0
    have l5 := lift_cell (show w8.heap.size < wR.heap.size by omega) k1
    have HR := hid (fun X => HB.out _ (chain hbw8a (lift_below wR X)))
    refine region_lift (by kernel_rfl) (by kernel_rfl) ?_
    repeat (go_big_quiet_step (first
      | (go_at_call 19; exact lift_calls (HV1.out _))
      | (go_at_call 20; exact lift_calls (HV2.out _))
      | (go_at_call 21; exact lift_calls (HC1.out _ (HR.out _)))
      | (go_at_call 22; exact lift_calls (HC2.out _ (HR.out _)))))
    refine wpQuiet_nil ?_
    rintro _ ⟨X, rfl⟩
    have m2 := l2 X
    have m3 := l3 X
    have hbR := hid (chain hbw8a (lift_below wR X))
    clear l0 l1 l2 l3 l4 l5 j0 j1 k0 k1
    obtain ⟨w9, hw9⟩ : ∃ w9, w9 = lift wR X := ⟨_, rfl⟩
    rw [← hw9] at m2 m3 hbR ⊢
    clear hw9 HR
    by_cases hr : rowedE p t row x = 0
    · obtain ⟨q1, q2, q3⟩ := HSS.out hr
      go_wp2_with (go_at_call 12; refine (HAW.out _).mono ?_; rintro e w10 ⟨rfl, hb10⟩)
      go_ret
      exact ⟨rfl, chain (HB.out _ hbR.out) hb10⟩
    · have hr1 : (rowedE p t row x != 0) = true := by simp [hr]
      go_wp2_with (go_at_call 12; refine (HAW.out _).mono ?_; rintro e w10 ⟨rfl, hb10⟩)
      go_ret
      exact ⟨rfl, chain (HB.out _ hbR.out) hb10⟩
  all_goals
    go_enter Try.func3, Try.ntmps3
    go_wp2_with (first | (go_at_call 10; refine (HFEW.out _).mono ?_; rintro e w1 ⟨rfl, hb1⟩; have hbw1 := chain hb0 hb1) | (go_at_call 11; refine (HFIT.out _ hbw1).mono ?_; rintro e w2 ⟨rfl, hb2⟩; have hbw2 := chain hbw1 hb2) | (go_at_call 12; refine (HAW.out _).mono ?_; rintro e w3 ⟨rfl, hb3⟩))
    go_ret
    exact ⟨rfl, chain hbw2 hb3⟩
end Go.Proofs.Ytdcflpfaaeijoaa

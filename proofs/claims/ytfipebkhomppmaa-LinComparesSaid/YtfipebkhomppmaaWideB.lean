/- Walks: Compare of fractions (package frac, package lin), down (reference 03). -/
import Derived.Test.YtfipebkhomppmaaWideA
namespace Go.Proofs.Ytfipebkhomppmaa
open Go.RowKit
set_option linter.unusedVariables false

def dF (d : Int) : Int := if d < 1 then 1 else d
def cmpR (an ad bn bd : Int) : Int := cmpI (an * dF bd) (bn * dF ad)
def F64 (n : Int) : Prop := -9223372036854775808 ≤ n ∧ n ≤ 9223372036854775807

set_option maxRecDepth 100000 in
set_option maxHeartbeats 1000000 in
theorem fcompare_c (w : World) (an ad bn bd : Int) (h1 : F64 an) (h2 : F64 ad) (h3 : F64 bn) (h4 : F64 bd) :
    Calls Try.prog 85 #[.agg #[.int .i64 an, .int .i64 ad], .agg #[.int .i64 bn, .int .i64 bd]] w fun e w' => e = .returned (.int .i64 (cmpR an ad bn bd)) ∧ Below w.heap.size w w' := by
  obtain ⟨h1a, h1b⟩ := h1
  obtain ⟨h2a, h2b⟩ := h2
  obtain ⟨h3a, h3b⟩ := h3
  obtain ⟨h4a, h4b⟩ := h4
  unfold cmpR dF
  by_cases c1 : ad < 1 <;> by_cases c2 : bd < 1
  · rw [if_pos c1, if_pos c2]
    obtain ⟨C, hC⟩ : ∃ C, C = cmpI (an * 1) (bn * 1) := ⟨_, rfl⟩
    rw [← hC]
    have HCC := hid hC
    obtain ⟨wz, hwz⟩ : ∃ wz, wz = (w.alloc (.cells #[.int .i64 an, .int .i64 1] 46)).alloc (.cells #[.int .i64 bn, .int .i64 1] 46) := ⟨_, rfl⟩
    have hbz : Below w.heap.size w wz := by rw [hwz]; exact ((Below.refl _ _).alloc (Nat.le_refl _) _).alloc (by simp) _
    have hsz : wz.heap.size = w.heap.size + 2 := by rw [hwz]; simp
    have l0 := lift_cell (W := wz) (b := w.heap.size) (o := 0) (by omega) (show wz.cell? ⟨w.heap.size, 0, none⟩ = some (.int .i64 an) by rw [hwz, World.cell?_alloc_past _ _ _ (by simp), World.cell?_alloc_at _ _ _ _ rfl]; rfl)
    have l1 := lift_cell (W := wz) (b := w.heap.size) (o := 1) (by omega) (show wz.cell? ⟨w.heap.size, 1, none⟩ = some (.int .i64 1) by rw [hwz, World.cell?_alloc_past _ _ _ (by simp), World.cell?_alloc_at _ _ _ _ rfl]; rfl)
    have l2 := lift_cell (W := wz) (b := w.heap.size + 1) (o := 0) (by omega) (show wz.cell? ⟨w.heap.size + 1, 0, none⟩ = some (.int .i64 bn) by rw [hwz, World.cell?_alloc_at _ _ _ _ (by simp)]; rfl)
    have l3 := lift_cell (W := wz) (b := w.heap.size + 1) (o := 1) (by omega) (show wz.cell? ⟨w.heap.size + 1, 1, none⟩ = some (.int .i64 1) by rw [hwz, World.cell?_alloc_at _ _ _ _ (by simp)]; rfl)
    have HWZ := hid hwz
    have HBZ := hid hbz
    clear hC hwz hbz hsz
    go_enter Try.func85, Try.ntmps85
    go_wp2
    rw [← HWZ.out]
    refine region_lift (by kernel_rfl) (by kernel_rfl) ?_
    repeat (go_big_quiet_step (first
      | (go_at_call 134; exact lift_calls (product_c _ _ _ (by omega) (by omega)))
      | (go_at_call 135; exact lift_calls (wcompare_c _ _ _))))
    refine wpQuiet_nil ?_
    rintro _ ⟨X, rfl⟩
    have hfin := chain HBZ.out (lift_below wz X)
    go_wp2
    go_ret
    exact ⟨ret_int (by rw [HCC.out]; try simp), hfin⟩
  · rw [if_pos c1, if_neg c2]
    obtain ⟨C, hC⟩ : ∃ C, C = cmpI (an * bd) (bn * 1) := ⟨_, rfl⟩
    rw [← hC]
    have HCC := hid hC
    obtain ⟨wz, hwz⟩ : ∃ wz, wz = (w.alloc (.cells #[.int .i64 an, .int .i64 1] 46)).alloc (.cells #[.int .i64 bn, .int .i64 bd] 46) := ⟨_, rfl⟩
    have hbz : Below w.heap.size w wz := by rw [hwz]; exact ((Below.refl _ _).alloc (Nat.le_refl _) _).alloc (by simp) _
    have hsz : wz.heap.size = w.heap.size + 2 := by rw [hwz]; simp
    have l0 := lift_cell (W := wz) (b := w.heap.size) (o := 0) (by omega) (show wz.cell? ⟨w.heap.size, 0, none⟩ = some (.int .i64 an) by rw [hwz, World.cell?_alloc_past _ _ _ (by simp), World.cell?_alloc_at _ _ _ _ rfl]; rfl)
    have l1 := lift_cell (W := wz) (b := w.heap.size) (o := 1) (by omega) (show wz.cell? ⟨w.heap.size, 1, none⟩ = some (.int .i64 1) by rw [hwz, World.cell?_alloc_past _ _ _ (by simp), World.cell?_alloc_at _ _ _ _ rfl]; rfl)
    have l2 := lift_cell (W := wz) (b := w.heap.size + 1) (o := 0) (by omega) (show wz.cell? ⟨w.heap.size + 1, 0, none⟩ = some (.int .i64 bn) by rw [hwz, World.cell?_alloc_at _ _ _ _ (by simp)]; rfl)
    have l3 := lift_cell (W := wz) (b := w.heap.size + 1) (o := 1) (by omega) (show wz.cell? ⟨w.heap.size + 1, 1, none⟩ = some (.int .i64 bd) by rw [hwz, World.cell?_alloc_at _ _ _ _ (by simp)]; rfl)
    have HWZ := hid hwz
    have HBZ := hid hbz
    clear hC hwz hbz hsz
    go_enter Try.func85, Try.ntmps85
    go_wp2
    rw [← HWZ.out]
    refine region_lift (by kernel_rfl) (by kernel_rfl) ?_
    repeat (go_big_quiet_step (first
      | (go_at_call 134; exact lift_calls (product_c _ _ _ (by omega) (by omega)))
      | (go_at_call 135; exact lift_calls (wcompare_c _ _ _))))
    refine wpQuiet_nil ?_
    rintro _ ⟨X, rfl⟩
    have hfin := chain HBZ.out (lift_below wz X)
    go_wp2
    go_ret
    exact ⟨ret_int (by rw [HCC.out]; try simp), hfin⟩
  · rw [if_neg c1, if_pos c2]
    obtain ⟨C, hC⟩ : ∃ C, C = cmpI (an * 1) (bn * ad) := ⟨_, rfl⟩
    rw [← hC]
    have HCC := hid hC
    obtain ⟨wz, hwz⟩ : ∃ wz, wz = (w.alloc (.cells #[.int .i64 an, .int .i64 ad] 46)).alloc (.cells #[.int .i64 bn, .int .i64 1] 46) := ⟨_, rfl⟩
    have hbz : Below w.heap.size w wz := by rw [hwz]; exact ((Below.refl _ _).alloc (Nat.le_refl _) _).alloc (by simp) _
    have hsz : wz.heap.size = w.heap.size + 2 := by rw [hwz]; simp
    have l0 := lift_cell (W := wz) (b := w.heap.size) (o := 0) (by omega) (show wz.cell? ⟨w.heap.size, 0, none⟩ = some (.int .i64 an) by rw [hwz, World.cell?_alloc_past _ _ _ (by simp), World.cell?_alloc_at _ _ _ _ rfl]; rfl)
    have l1 := lift_cell (W := wz) (b := w.heap.size) (o := 1) (by omega) (show wz.cell? ⟨w.heap.size, 1, none⟩ = some (.int .i64 ad) by rw [hwz, World.cell?_alloc_past _ _ _ (by simp), World.cell?_alloc_at _ _ _ _ rfl]; rfl)
    have l2 := lift_cell (W := wz) (b := w.heap.size + 1) (o := 0) (by omega) (show wz.cell? ⟨w.heap.size + 1, 0, none⟩ = some (.int .i64 bn) by rw [hwz, World.cell?_alloc_at _ _ _ _ (by simp)]; rfl)
    have l3 := lift_cell (W := wz) (b := w.heap.size + 1) (o := 1) (by omega) (show wz.cell? ⟨w.heap.size + 1, 1, none⟩ = some (.int .i64 1) by rw [hwz, World.cell?_alloc_at _ _ _ _ (by simp)]; rfl)
    have HWZ := hid hwz
    have HBZ := hid hbz
    clear hC hwz hbz hsz
    go_enter Try.func85, Try.ntmps85
    go_wp2
    rw [← HWZ.out]
    refine region_lift (by kernel_rfl) (by kernel_rfl) ?_
    repeat (go_big_quiet_step (first
      | (go_at_call 134; exact lift_calls (product_c _ _ _ (by omega) (by omega)))
      | (go_at_call 135; exact lift_calls (wcompare_c _ _ _))))
    refine wpQuiet_nil ?_
    rintro _ ⟨X, rfl⟩
    have hfin := chain HBZ.out (lift_below wz X)
    go_wp2
    go_ret
    exact ⟨ret_int (by rw [HCC.out]; try simp), hfin⟩
  · rw [if_neg c1, if_neg c2]
    obtain ⟨C, hC⟩ : ∃ C, C = cmpI (an * bd) (bn * ad) := ⟨_, rfl⟩
    rw [← hC]
    have HCC := hid hC
    obtain ⟨wz, hwz⟩ : ∃ wz, wz = (w.alloc (.cells #[.int .i64 an, .int .i64 ad] 46)).alloc (.cells #[.int .i64 bn, .int .i64 bd] 46) := ⟨_, rfl⟩
    have hbz : Below w.heap.size w wz := by rw [hwz]; exact ((Below.refl _ _).alloc (Nat.le_refl _) _).alloc (by simp) _
    have hsz : wz.heap.size = w.heap.size + 2 := by rw [hwz]; simp
    have l0 := lift_cell (W := wz) (b := w.heap.size) (o := 0) (by omega) (show wz.cell? ⟨w.heap.size, 0, none⟩ = some (.int .i64 an) by rw [hwz, World.cell?_alloc_past _ _ _ (by simp), World.cell?_alloc_at _ _ _ _ rfl]; rfl)
    have l1 := lift_cell (W := wz) (b := w.heap.size) (o := 1) (by omega) (show wz.cell? ⟨w.heap.size, 1, none⟩ = some (.int .i64 ad) by rw [hwz, World.cell?_alloc_past _ _ _ (by simp), World.cell?_alloc_at _ _ _ _ rfl]; rfl)
    have l2 := lift_cell (W := wz) (b := w.heap.size + 1) (o := 0) (by omega) (show wz.cell? ⟨w.heap.size + 1, 0, none⟩ = some (.int .i64 bn) by rw [hwz, World.cell?_alloc_at _ _ _ _ (by simp)]; rfl)
    have l3 := lift_cell (W := wz) (b := w.heap.size + 1) (o := 1) (by omega) (show wz.cell? ⟨w.heap.size + 1, 1, none⟩ = some (.int .i64 bd) by rw [hwz, World.cell?_alloc_at _ _ _ _ (by simp)]; rfl)
    have HWZ := hid hwz
    have HBZ := hid hbz
    clear hC hwz hbz hsz
    go_enter Try.func85, Try.ntmps85
    go_wp2
    rw [← HWZ.out]
    refine region_lift (by kernel_rfl) (by kernel_rfl) ?_
    repeat (go_big_quiet_step (first
      | (go_at_call 134; exact lift_calls (product_c _ _ _ (by omega) (by omega)))
      | (go_at_call 135; exact lift_calls (wcompare_c _ _ _))))
    refine wpQuiet_nil ?_
    rintro _ ⟨X, rfl⟩
    have hfin := chain HBZ.out (lift_below wz X)
    go_wp2
    go_ret
    exact ⟨ret_int (by rw [HCC.out]; try simp), hfin⟩

theorem lcompare_c (w : World) (an ad bn bd : Int) (h1 : F64 an) (h2 : F64 ad) (h3 : F64 bn) (h4 : F64 bd) :
    Calls Try.prog 35 #[.agg #[.int .i64 an, .int .i64 ad], .agg #[.int .i64 bn, .int .i64 bd]] w fun e w' => e = .returned (.int .i64 (cmpR an ad bn bd)) ∧ Below w.heap.size w w' := by
  have HC := hid (fun X => fcompare_c X an ad bn bd h1 h2 h3 h4)
  obtain ⟨C, hC⟩ : ∃ C, C = cmpR an ad bn bd := ⟨_, rfl⟩
  rw [← hC] at HC ⊢
  have HBL := hid (show Below w.heap.size w ((w.alloc (.cells #[.int .i64 an, .int .i64 ad] 46)).alloc (.cells #[.int .i64 bn, .int .i64 bd] 46)) from ((Below.refl _ _).alloc (Nat.le_refl _) _).alloc (by simp) _)
  clear hC
  go_enter Try.func35, Try.ntmps35
  go_wp2_with (go_at_call 85; refine (HC.out _).mono ?_; rintro e w1 ⟨rfl, hb1⟩)
  go_ret
  exact ⟨rfl, chain HBL.out hb1⟩

theorem down_facts {n d : Int} (hd : 1 ≤ d) : (n.tmod d < 0 → n.tdiv d - 1 = n / d ∧ n.tmod d + d = n % d) ∧ (¬ n.tmod d < 0 → n.tdiv d = n / d ∧ n.tmod d = n % d) ∧ -d < n.tmod d ∧ n.tmod d < d := by
  have e := Int.mul_tdiv_add_tmod n d
  have b1 : n.tmod d < d := Int.tmod_lt_of_pos n (by omega)
  have b2 : -d < n.tmod d := by
    have := Int.lt_tmod_of_pos n (show 0 < d by omega)
    omega
  refine ⟨fun h => ?_, fun h => ?_, b2, b1⟩
  · have := (Int.ediv_emod_unique (a := n) (b := d) (r := n.tmod d + d) (q := n.tdiv d - 1) (by omega)).2 ⟨by rw [Int.mul_sub]; omega, by omega, by omega⟩
    exact ⟨this.1.symm, this.2.symm⟩
  · have := (Int.ediv_emod_unique (a := n) (b := d) (r := n.tmod d) (q := n.tdiv d) (by omega)).2 ⟨by omega, by omega, by omega⟩
    exact ⟨this.1.symm, this.2.symm⟩

theorem down_c (w : World) (n d : Int) (hn : F64 n) (hd : 1 ≤ d ∧ d ≤ 9223372036854775807) :
    Calls Try.prog 86 #[.int .i64 n, .int .i64 d] w fun e w' => e = .returned (.tuple #[.int .i64 (n / d), .int .i64 (n % d)]) ∧ ∃ k, w' = w.drewN k := by
  obtain ⟨f1, f2, f3, f4⟩ := down_facts (n := n) hd.1
  obtain ⟨hna, hnb⟩ := hn
  obtain ⟨hd1, hd2⟩ := hd
  have hq : (n.tdiv d).natAbs ≤ n.natAbs := by rw [Int.natAbs_tdiv]; exact Nat.div_le_self _ _
  have hq3 : n.tdiv d ≤ 9223372036854775807 := by
    rcases Int.lt_or_le n 0 with h | h
    · have e : n.tdiv d = -((-n).tdiv d) := by rw [Int.neg_tdiv]; omega
      have := Int.tdiv_nonneg (show 0 ≤ -n by omega) (show 0 ≤ d by omega)
      omega
    · omega
  have hq2 : n.tmod d < 0 → -9223372036854775808 < n.tdiv d := fun h => by
    have := (f1 h)
    have e := Int.mul_ediv_add_emod n d
    rcases Int.lt_or_le (-9223372036854775808) (n.tdiv d) with h5 | h5
    · exact h5
    · exfalso
      have h6 : n.tdiv d = -9223372036854775808 := by omega
      have h7 : n = -9223372036854775808 := by omega
      have h8 := Int.mul_tdiv_add_tmod n d
      rw [h6] at h8
      have h9 : d * -9223372036854775808 ≤ -9223372036854775808 := by omega
      omega
  obtain ⟨Q, hQ⟩ : ∃ Q, Q = n / d := ⟨_, rfl⟩
  obtain ⟨R, hR⟩ : ∃ Q, Q = n % d := ⟨_, rfl⟩
  obtain ⟨q, hq0⟩ : ∃ Q, Q = n.tdiv d := ⟨_, rfl⟩
  obtain ⟨r, hr0⟩ : ∃ Q, Q = n.tmod d := ⟨_, rfl⟩
  rw [← hQ, ← hR] at f1 f2
  rw [← hq0, ← hr0] at f1 f2 hq2
  rw [← hr0] at f3 f4
  rw [← hq0] at hq hq3
  rw [← hQ, ← hR]
  have w1 : IntKind.i64.wrap (n.tdiv d) = q := by rw [← hq0]; exact IntWalk.i64_in _ (by omega)
  have w2 : n.tmod d = r := hr0.symm
  have hdz : ¬ (d = 0) := by omega
  clear hQ hR hq0 hr0
  by_cases h : r < 0
  · obtain ⟨g1, g2⟩ := f1 h
    have g3 := hq2 h
    have w3 : IntKind.i64.wrap (q - 1) = Q := by rw [g1]; exact IntWalk.i64_in _ (by omega)
    have w4 : IntKind.i64.wrap (r + d) = R := by rw [g2]; exact IntWalk.i64_in _ (by omega)
    clear f1 f2 hq2 g1 g2
    go_enter Try.func86, Try.ntmps86
    go_wp2
    go_quiet (fail)
    go_wp2
    go_ret2
    exact ⟨rfl, _, rfl⟩
  · obtain ⟨g1, g2⟩ := f2 h
    subst g1
    subst g2
    clear f1 f2 hq2
    go_enter Try.func86, Try.ntmps86
    go_wp2
    go_quiet (fail)
    go_wp2
    go_ret2
    exact ⟨rfl, _, rfl⟩
end Go.Proofs.Ytfipebkhomppmaa

/- Walks: the law's example (package law 03). -/
import Derived.Test.YtfipebkhomppmaaLwJ
import Derived.Test.YtfipebkhomppmaaLwR
namespace Go.Proofs.Ytfipebkhomppmaa
open Go.RowKit
set_option linter.unusedVariables false

def twoM : Mask := [[1, 1, 0], [0, 1, 1]]
theorem twoM_ok : okM twoM = true := by decide +kernel
theorem twoM_ker : kerSP twoM (allI (colsM twoM)) = [[1, -1, 1]] := by decide +kernel
theorem twoM_circ : circV twoM = ([1, -1, 1], 0) := by decide +kernel

theorem two_rows (w : World) : RowsAt (((w.alloc (.cells #[.int .i64 1, .int .i64 1, .int .i64 0] 3)).alloc (.cells #[.int .i64 0, .int .i64 1, .int .i64 1] 3)).alloc (.cells #[.slice (some ⟨w.heap.size, 0, none⟩) 3 3, .slice (some ⟨w.heap.size + 1, 0, none⟩) 3 3] 31)) (some ⟨w.heap.size + 2, 0, none⟩) twoM := by
  obtain ⟨w1, h1⟩ : ∃ w1, w1 = w.alloc (.cells #[.int .i64 1, .int .i64 1, .int .i64 0] 3) := ⟨_, rfl⟩
  obtain ⟨w2, h2⟩ : ∃ w2, w2 = w1.alloc (.cells #[.int .i64 0, .int .i64 1, .int .i64 1] 3) := ⟨_, rfl⟩
  rw [← h1, ← h2]
  have s1 : w1.heap.size = w.heap.size + 1 := by rw [h1]; simp
  have s2 : w2.heap.size = w.heap.size + 2 := by rw [h2]; simp [s1]
  have i1 : IntsAt w1 (some ⟨w.heap.size, 0, none⟩) [1, 1, 0] := fun j hj => ⟨w.heap.size, 0, rfl, by omega, by
    rw [h1, World.cell?_alloc_at _ _ _ _ (by simp)]
    match j, hj with
    | 0, _ => rfl
    | 1, _ => rfl
    | 2, _ => rfl⟩
  have i2 : IntsAt w2 (some ⟨w1.heap.size, 0, none⟩) [0, 1, 1] := fun j hj => ⟨w1.heap.size, 0, rfl, by omega, by
    rw [h2, World.cell?_alloc_at _ _ _ _ (by simp)]
    match j, hj with
    | 0, _ => rfl
    | 1, _ => rfl
    | 2, _ => rfl⟩
  rw [s1] at i2
  have b2 : Below w1.heap.size w1 w2 := by rw [h2]; exact (Below.refl _ _).alloc (Nat.le_refl _) _
  obtain ⟨o, ho⟩ : ∃ o, o = Obj.cells #[.slice (some ⟨w.heap.size, 0, none⟩) 3 3, .slice (some ⟨w.heap.size + 1, 0, none⟩) 3 3] 31 := ⟨_, rfl⟩
  rw [← ho]
  have b3 : Below w2.heap.size w2 (w2.alloc o) := (Below.refl _ _).alloc (Nat.le_refl _) _
  have hc : ∀ j, (w2.alloc o).cell? ⟨w.heap.size + 2, j, none⟩ = #[Value.slice (some ⟨w.heap.size, 0, none⟩) 3 3, .slice (some ⟨w.heap.size + 1, 0, none⟩) 3 3][j]? := fun j => by
    rw [ho, World.cell?_alloc_at _ _ _ _ (by rw [s2])]
  intro j hj
  match j, hj with
  | 0, _ => exact ⟨_, 0, some ⟨w.heap.size, 0, none⟩, 3, 3, rfl, by simp [s2], hc 0, rfl, by decide, (i1.below b2).below b3⟩
  | 1, _ => exact ⟨_, 0, some ⟨w.heap.size + 1, 0, none⟩, 3, 3, rfl, by simp [s2], hc 1, rfl, by decide, i2.below b3⟩

theorem one_rows (w : World) : RowsAt ((w.alloc (.cells #[.int .i64 1, .int .i64 (-1), .int .i64 1] 3)).alloc (.cells #[.slice (some ⟨w.heap.size, 0, none⟩) 3 3] 31)) (some ⟨w.heap.size + 1, 0, none⟩) [[1, -1, 1]] := by
  obtain ⟨w1, h1⟩ : ∃ w1, w1 = w.alloc (.cells #[.int .i64 1, .int .i64 (-1), .int .i64 1] 3) := ⟨_, rfl⟩
  rw [← h1]
  have s1 : w1.heap.size = w.heap.size + 1 := by rw [h1]; simp
  have i1 : IntsAt w1 (some ⟨w.heap.size, 0, none⟩) [1, -1, 1] := fun j hj => ⟨w.heap.size, 0, rfl, by omega, by
    rw [h1, World.cell?_alloc_at _ _ _ _ (by simp)]
    match j, hj with
    | 0, _ => rfl
    | 1, _ => rfl
    | 2, _ => rfl⟩
  obtain ⟨o, ho⟩ : ∃ o, o = Obj.cells #[.slice (some ⟨w.heap.size, 0, none⟩) 3 3] 31 := ⟨_, rfl⟩
  rw [← ho]
  have b3 : Below w1.heap.size w1 (w1.alloc o) := (Below.refl _ _).alloc (Nat.le_refl _) _
  have hc : ∀ j, (w1.alloc o).cell? ⟨w.heap.size + 1, j, none⟩ = #[Value.slice (some ⟨w.heap.size, 0, none⟩) 3 3][j]? := fun j => by
    rw [ho, World.cell?_alloc_at _ _ _ _ (by rw [s1])]
  intro j hj
  match j, hj with
  | 0, _ => exact ⟨_, 0, some ⟨w.heap.size, 0, none⟩, 3, 3, rfl, by simp [s1], hc 0, rfl, by decide, i1.below b3⟩

set_option maxHeartbeats 1000000 in
theorem two_c (w : World) : Calls Try.prog 59 #[] w fun e w' => Below w.heap.size w w' ∧ ∃ a cap, e = .returned (.slice a 2 cap) ∧ RowsAt w' a twoM := by
  go_enter Try.func59, Try.ntmps59
  go_wp2
  go_ret
  exact ⟨(((Below.refl _ _).alloc (Nat.le_refl _) _).alloc (by simp) _).alloc (by simp; omega) _, _, _, rfl, two_rows w⟩

/-- the sanity check holds -/
theorem awake_c (w : World) : Calls Try.prog 14 #[] w fun e w' => e = .returned (.bool true) ∧ Below w.heap.size w w' := by
  go_enter Try.func14, Try.ntmps14
  go_wp2_with (go_at_call 59; refine (two_c _).mono ?_; rintro e w1 ⟨hb1, a, cap, rfl, hR⟩; refine Stop.of ?_)
  refine Stop.go ?_
  have HK := hid (lkernel_c w1 a 2 cap twoM rfl (by decide) hR)
  rw [twoM_ok, twoM_ker] at HK
  clear hR
  go_wp2_with (go_at_call 25; refine HK.out.mono ?_; rintro e w2 ⟨v, base, hbs, hb2, ⟨h, _⟩ | ⟨_, rfl, hO⟩⟩; cases h; refine Stop.of ?_)
  refine Stop.go ?_
  clear HK
  have hb12 := chain hb1 hb2
  obtain ⟨va, vc, rfl, hVR⟩ := hO.rows (fun r hr => by rw [List.mem_singleton.1 hr]; decide)
  have HV := hid hVR
  clear hO hVR hb1 hb2 hbs
  go_wp2_with (go_at_call 59; refine (two_c _).mono ?_; rintro e w3 ⟨hb3, a3, cap3, rfl, hR3⟩; refine Stop.of ?_)
  refine Stop.go ?_
  have HS := hid (spark_c w3 a3 2 cap3 twoM rfl (by decide) hR3)
  rw [twoM_circ] at HS
  have hz3 : nzc [1, -1, 1] = 3 := by decide
  simp only [hz3] at HS
  clear hR3 hz3
  go_wp2_with (go_at_call 17; refine HS.out.mono ?_; rintro e w4 ⟨hb4, rfl⟩; refine Stop.of ?_)
  refine Stop.go ?_
  have HB := hid (chain (chain hb12 hb3) hb4)
  have HV4 := hid ((HV.out.below hb3).below hb4)
  clear HS hb12 hb3 hb4 HV
  have hb6 : Below w4.heap.size w4 ((w4.alloc (.cells #[.int .i64 1, .int .i64 (-1), .int .i64 1] 3)).alloc (.cells #[.slice (some ⟨w4.heap.size, 0, none⟩) 3 3] 31)) := ((Below.refl _ _).alloc (Nat.le_refl _) _).alloc (by simp) _
  have HSL := hid (sameLists_c _ va (some ⟨w4.heap.size + 1, 0, none⟩) 1 vc 1 1 [[1, -1, 1]] [[1, -1, 1]] rfl rfl (by decide) (by decide) (HV4.out.below hb6) (one_rows w4))
  have hd : decide (([[1, -1, 1]] : Mask) = [[1, -1, 1]]) = true := by decide
  rw [hd] at HSL
  have HB6 := hid (chain HB.out hb6)
  clear hb6 hd
  go_wp2_with (go_at_call 21; refine HSL.out.mono ?_; rintro e w7 ⟨rfl, k7, rfl⟩; refine Stop.of ?_)
  refine Stop.go ?_
  go_wp2
  go_ret
  exact ⟨rfl, below_drewN HB6.out k7⟩
end Go.Proofs.Ytfipebkhomppmaa

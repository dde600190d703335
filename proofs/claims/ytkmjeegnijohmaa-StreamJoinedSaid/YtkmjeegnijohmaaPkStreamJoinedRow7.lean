/- Walks and plain laws for StreamJoinedRow, part 7. -/
import Derived.Test.YtkmjeegnijohmaaPkStreamJoinedRow6
namespace Go.Proofs.Ytkmjeegnijohmaa
open Go.RowKit
set_option linter.unusedVariables false

set_option maxRecDepth 100000 in
set_option maxHeartbeats 2000000 in
theorem r8frame_c (w : World) (kf : Bool) (a2 a : Option Addr) (n2 cap2 n cap : Nat) (M : Mask) (l : List Int) (hn : M.length = n) (h1 : 1 ≤ n) (H : RowsAt w a M) (hn2 : l.length = n2) (hm2 : n2 ≤ maxLen) (H2 : IntsAt w a2 l) :
    Calls Try.prog 46 #[.slice a n cap, .agg #[.bool kf, .slice a2 n2 cap2]] w fun e w' => e = .returned (.bool (frB M (kf, l))) ∧ Below w.heap.size w w' := by
  obtain ⟨b, off, ra, rc, rfl, hb, hc⟩ := rows_head H (by omega)
  have i0 : (0 : Int) < (n : Int) := by omega
  have hbz : ∀ o : Obj, Below w.heap.size w (w.alloc o) := fun o => (Below.refl _ _).alloc (Nat.le_refl _) _
  have hcz : ∀ o : Obj, (w.alloc o).cell? ⟨b, off, none⟩ = some (.slice ra (colsM M) rc) := fun o => ((hbz o).cell (p := ⟨b, off, none⟩) hb).trans hc
  have HLP := hid (fun (o : Obj) q => r8list_c ((w.alloc o).drewN q) a2 n2 cap2 l hn2 hm2 (H2.below (below_drewN (hbz o) q)) (colsM M) 1000 (by omega) (by omega))
  have HLR := hid (fun (o : Obj) q => r8list_c ((w.alloc o).drewN q) a2 n2 cap2 l hn2 hm2 (H2.below (below_drewN (hbz o) q)) n 1000000 (by omega) (by omega))
  have hp1 : listB l (colsM M) 1000 = picB M l := listB_pic
  have hp2 : listB l n 1000000 = readB M l := by
    unfold listB readB milB
    congr 1
    rw [Bool.eq_iff_iff]; simp; omega
  have hp : frB M (kf, l) = (decide (n2 = 0) || (kf && picB M l) || (!kf && readB M l)) := by unfold frB readB; rw [hn2]
  rw [hp]
  rw [hp1] at HLP
  rw [hp2] at HLR
  have hd : ((n2 : Int) == 0) = decide (n2 = 0) := by rw [Bool.eq_iff_iff]; simp
  obtain ⟨D, hD⟩ : ∃ D, D = decide (n2 = 0) := ⟨_, rfl⟩
  obtain ⟨A, hA⟩ : ∃ A, A = picB M l := ⟨_, rfl⟩
  obtain ⟨R, hR⟩ : ∃ R, R = readB M l := ⟨_, rfl⟩
  obtain ⟨W, hW⟩ : ∃ W, W = colsM M := ⟨_, rfl⟩
  rw [← hD] at hd
  rw [← hA, ← hW] at HLP
  rw [← hR] at HLR
  rw [← hW] at hcz
  rw [← hD, ← hA, ← hR]
  have HBZ := hid hbz
  clear hp hp1 hp2 hD hA hR hW hn hn2 H H2 hc hbz
  cases D
  rotate_left
  ·
    have hb0 := HBZ.out (.cells #[.bool kf, .slice a2 n2 cap2] 50)
    have hc0 := hcz (.cells #[.bool kf, .slice a2 n2 cap2] 50)
    have hw0 : (w.alloc (.cells #[.bool kf, .slice a2 n2 cap2] 50)).heap[w.heap.size]? = some (.cells #[.bool kf, .slice a2 n2 cap2] 50 (0, 0)) := World.alloc_heap_new _ _
    have HLP0 := hid (fun q => HLP.out (.cells #[.bool kf, .slice a2 n2 cap2] 50) q)
    have HLR0 := hid (fun q => HLR.out (.cells #[.bool kf, .slice a2 n2 cap2] 50) q)
    clear hcz HLP HLR
    have HB0 := hid hb0
    have HC0 := hid hc0
    have HW0 := hid hw0
    clear hb0 hc0 hw0
    go_enter Try.func46, Try.ntmps46
    go_wp2
    refine plain_region (fun j w' => decide (j < 30) = true → w' = (w.alloc (.cells #[.bool kf, .slice a2 n2 cap2] 50)).drew) (by kernel_rfl) ?_
    have hb0 : Below w.heap.size w (w.alloc (.cells #[.bool kf, .slice a2 n2 cap2] 50)).drew := HB0.out.drew
    have hc0 : (w.alloc (.cells #[.bool kf, .slice a2 n2 cap2] 50)).drew.cell? ⟨b, off, none⟩ = some (.slice ra W rc) := HC0.out
    have hw0 : (w.alloc (.cells #[.bool kf, .slice a2 n2 cap2] 50)).drew.heap[w.heap.size]? = some (.cells #[.bool kf, .slice a2 n2 cap2] 50 (0, 0)) := HW0.out
    have HLP1 := hid (HLP0.out 1)
    have HLR1 := hid (HLR0.out 1)
    have e1 : (w.alloc (.cells #[.bool kf, .slice a2 n2 cap2] 50)).drewN 1 = (w.alloc (.cells #[.bool kf, .slice a2 n2 cap2] 50)).drew := rfl
    rw [e1] at HLP1 HLR1
    clear HLP0 HLR0 HB0 HC0 HW0 e1
    generalize (w.alloc (.cells #[.bool kf, .slice a2 n2 cap2] 50)).drew = wd at hb0 hc0 hw0 HLP1 HLR1 ⊢
    obtain ⟨q0, q1, _, _, _⟩ := box2_facts hw0
    have HB0 := hid hb0
    clear hb0 hw0
    refine AnyT.takeD (i := 0) (v := .pointer (some ⟨w.heap.size, 1, none⟩)) rfl rfl (by kernel_rfl) (by kernel_rfl) (by kernel_rfl) (by first | exact (fun _ _ _ h => h) | exact (fun _ _ _ h => absurd h.1 (by simp))) (by kernel_rfl) (by rfl) (by rintro w' rfl; go_simp) rfl ?_; go_frame
    refine AnyT.takeD (i := 1) (v := .slice a2 n2 cap2) rfl rfl (by kernel_rfl) (by kernel_rfl) (by kernel_rfl) (by first | exact (fun _ _ _ h => h) | exact (fun _ _ _ h => absurd h.1 (by simp))) (by kernel_rfl) (by rfl) (by rintro w' rfl; go_simp) rfl ?_; go_frame
    refine AnyT.takeD (i := 2) (v := .int .i64 n2) rfl rfl (by kernel_rfl) (by kernel_rfl) (by kernel_rfl) (by first | exact (fun _ _ _ h => h) | exact (fun _ _ _ h => absurd h.1 (by simp))) (by kernel_rfl) (by rfl) (by rintro w' rfl; go_simp) rfl ?_; go_frame
    refine AnyT.takeD (i := 3) (v := .bool true) rfl rfl (by kernel_rfl) (by kernel_rfl) (by kernel_rfl) (by first | exact (fun _ _ _ h => h) | exact (fun _ _ _ h => absurd h.1 (by simp))) (by kernel_rfl) (by rfl) (by rintro w' rfl; go_simp) rfl ?_; go_frame
    refine AnyT.takeD (i := 4) (v := .bool true) rfl rfl (by kernel_rfl) (by kernel_rfl) (by kernel_rfl) (by first | exact (fun _ _ _ h => h) | exact (fun _ _ _ h => absurd h.1 (by simp))) (by kernel_rfl) (by rfl) (by rintro w' rfl; go_simp) rfl ?_; go_frame
    refine AnyT.takeDN (i := 5) rfl rfl (by kernel_rfl) (by kernel_rfl) (by kernel_rfl) (by first | exact (fun _ _ _ h => h) | exact (fun _ _ _ h => absurd h.1 (by simp))) (by kernel_rfl) (by rfl) rfl ?_; go_frame
    refine AnyT.takeDN (i := 6) rfl rfl (by kernel_rfl) (by kernel_rfl) (by kernel_rfl) (by first | exact (fun _ _ _ h => h) | exact (fun _ _ _ h => absurd h.1 (by simp))) (by kernel_rfl) (by rfl) rfl ?_; go_frame
    refine AnyT.takeDN (i := 7) rfl rfl (by kernel_rfl) (by kernel_rfl) (by kernel_rfl) (by first | exact (fun _ _ _ h => h) | exact (fun _ _ _ h => absurd h.1 (by simp))) (by kernel_rfl) (by rfl) rfl ?_; go_frame
    refine AnyT.takeDN (i := 8) rfl rfl (by kernel_rfl) (by kernel_rfl) (by kernel_rfl) (by first | exact (fun _ _ _ h => h) | exact (fun _ _ _ h => absurd h.1 (by simp))) (by kernel_rfl) (by rfl) rfl ?_; go_frame
    refine AnyT.takeDN (i := 9) rfl rfl (by kernel_rfl) (by kernel_rfl) (by kernel_rfl) (by first | exact (fun _ _ _ h => h) | exact (fun _ _ _ h => absurd h.1 (by simp))) (by kernel_rfl) (by rfl) rfl ?_; go_frame
    refine AnyT.takeDN (i := 10) rfl rfl (by kernel_rfl) (by kernel_rfl) (by kernel_rfl) (by first | exact (fun _ _ _ h => h) | exact (fun _ _ _ h => absurd h.1 (by simp))) (by kernel_rfl) (by rfl) rfl ?_; go_frame
    refine AnyT.takeDN (i := 11) rfl rfl (by kernel_rfl) (by kernel_rfl) (by kernel_rfl) (by first | exact (fun _ _ _ h => h) | exact (fun _ _ _ h => absurd h.1 (by simp))) (by kernel_rfl) (by rfl) rfl ?_; go_frame
    refine AnyT.takeDN (i := 12) rfl rfl (by kernel_rfl) (by kernel_rfl) (by kernel_rfl) (by first | exact (fun _ _ _ h => h) | exact (fun _ _ _ h => absurd h.1 (by simp))) (by kernel_rfl) (by rfl) rfl ?_; go_frame
    refine AnyT.takeDN (i := 13) rfl rfl (by kernel_rfl) (by kernel_rfl) (by kernel_rfl) (by first | exact (fun _ _ _ h => h) | exact (fun _ _ _ h => absurd h.1 (by simp))) (by kernel_rfl) (by rfl) rfl ?_; go_frame
    refine AnyT.takeDN (i := 14) rfl rfl (by kernel_rfl) (by kernel_rfl) (by kernel_rfl) (by first | exact (fun _ _ _ h => h) | exact (fun _ _ _ h => absurd h.1 (by simp))) (by kernel_rfl) (by rfl) rfl ?_; go_frame
    refine AnyT.takeDN (i := 15) rfl rfl (by kernel_rfl) (by kernel_rfl) (by kernel_rfl) (by first | exact (fun _ _ _ h => h) | exact (fun _ _ _ h => absurd h.1 (by simp))) (by kernel_rfl) (by rfl) rfl ?_; go_frame
    refine AnyT.takeD (i := 16) (v := .bool true) rfl rfl (by kernel_rfl) (by kernel_rfl) (by kernel_rfl) (by first | exact (fun _ _ _ h => h) | exact (fun _ _ _ h => absurd h.1 (by simp))) (by kernel_rfl) (by rfl) (by rintro w' rfl; go_simp) rfl ?_; go_frame
    refine AnyT.takeD (i := 17) (v := .bool true) rfl rfl (by kernel_rfl) (by kernel_rfl) (by kernel_rfl) (by first | exact (fun _ _ _ h => h) | exact (fun _ _ _ h => absurd h.1 (by simp))) (by kernel_rfl) (by rfl) (by rintro w' rfl; go_simp) rfl ?_; go_frame
    refine AnyT.takeDN (i := 18) rfl rfl (by kernel_rfl) (by kernel_rfl) (by kernel_rfl) (by first | exact (fun _ _ _ h => h) | exact (fun _ _ _ h => absurd h.1 (by simp))) (by kernel_rfl) (by rfl) rfl ?_; go_frame
    refine AnyT.takeDN (i := 19) rfl rfl (by kernel_rfl) (by kernel_rfl) (by kernel_rfl) (by first | exact (fun _ _ _ h => h) | exact (fun _ _ _ h => absurd h.1 (by simp))) (by kernel_rfl) (by rfl) rfl ?_; go_frame
    refine AnyT.takeDN (i := 20) rfl rfl (by kernel_rfl) (by kernel_rfl) (by kernel_rfl) (by first | exact (fun _ _ _ h => h) | exact (fun _ _ _ h => absurd h.1 (by simp))) (by kernel_rfl) (by rfl) rfl ?_; go_frame
    refine AnyT.takeDN (i := 21) rfl rfl (by kernel_rfl) (by kernel_rfl) (by kernel_rfl) (by first | exact (fun _ _ _ h => h) | exact (fun _ _ _ h => absurd h.1 (by simp))) (by kernel_rfl) (by rfl) rfl ?_; go_frame
    refine AnyT.takeDN (i := 22) rfl rfl (by kernel_rfl) (by kernel_rfl) (by kernel_rfl) (by first | exact (fun _ _ _ h => h) | exact (fun _ _ _ h => absurd h.1 (by simp))) (by kernel_rfl) (by rfl) rfl ?_; go_frame
    refine AnyT.takeDN (i := 23) rfl rfl (by kernel_rfl) (by kernel_rfl) (by kernel_rfl) (by first | exact (fun _ _ _ h => h) | exact (fun _ _ _ h => absurd h.1 (by simp))) (by kernel_rfl) (by rfl) rfl ?_; go_frame
    refine AnyT.takeDN (i := 24) rfl rfl (by kernel_rfl) (by kernel_rfl) (by kernel_rfl) (by first | exact (fun _ _ _ h => h) | exact (fun _ _ _ h => absurd h.1 (by simp))) (by kernel_rfl) (by rfl) rfl ?_; go_frame
    refine AnyT.takeDN (i := 25) rfl rfl (by kernel_rfl) (by kernel_rfl) (by kernel_rfl) (by first | exact (fun _ _ _ h => h) | exact (fun _ _ _ h => absurd h.1 (by simp))) (by kernel_rfl) (by rfl) rfl ?_; go_frame
    refine AnyT.takeDN (i := 26) rfl rfl (by kernel_rfl) (by kernel_rfl) (by kernel_rfl) (by first | exact (fun _ _ _ h => h) | exact (fun _ _ _ h => absurd h.1 (by simp))) (by kernel_rfl) (by rfl) rfl ?_; go_frame
    refine AnyT.takeDN (i := 27) rfl rfl (by kernel_rfl) (by kernel_rfl) (by kernel_rfl) (by first | exact (fun _ _ _ h => h) | exact (fun _ _ _ h => absurd h.1 (by simp))) (by kernel_rfl) (by rfl) rfl ?_; go_frame
    refine AnyT.takeD (i := 28) (v := .bool true) rfl rfl (by kernel_rfl) (by kernel_rfl) (by kernel_rfl) (by first | exact (fun _ _ _ h => h) | exact (fun _ _ _ h => absurd h.1 (by simp))) (by kernel_rfl) (by rfl) (by rintro w' rfl; go_simp) rfl ?_; go_frame
    refine AnyT.takeD (i := 29) (v := .bool true) rfl rfl (by kernel_rfl) (by kernel_rfl) (by kernel_rfl) (by first | exact (fun _ _ _ h => h) | exact (fun _ _ _ h => absurd h.1 (by simp))) (by kernel_rfl) (by rfl) (by rintro w' rfl; go_simp) rfl ?_; go_frame
    refine ⟨by kernel_rfl, ?_⟩
    go_wp2
    go_ret
    exact ⟨by simp, HB0.out⟩
  · cases kf
    rotate_left
    ·
      have hb0 := HBZ.out (.cells #[.bool true, .slice a2 n2 cap2] 50)
      have hc0 := hcz (.cells #[.bool true, .slice a2 n2 cap2] 50)
      have hw0 : (w.alloc (.cells #[.bool true, .slice a2 n2 cap2] 50)).heap[w.heap.size]? = some (.cells #[.bool true, .slice a2 n2 cap2] 50 (0, 0)) := World.alloc_heap_new _ _
      have HLP0 := hid (fun q => HLP.out (.cells #[.bool true, .slice a2 n2 cap2] 50) q)
      have HLR0 := hid (fun q => HLR.out (.cells #[.bool true, .slice a2 n2 cap2] 50) q)
      clear hcz HLP HLR
      have HB0 := hid hb0
      have HC0 := hid hc0
      have HW0 := hid hw0
      clear hb0 hc0 hw0
      go_enter Try.func46, Try.ntmps46
      go_wp2
      refine plain_region (fun j w' => decide (j < 30) = true → w' = (w.alloc (.cells #[.bool true, .slice a2 n2 cap2] 50)).drew) (by kernel_rfl) ?_
      have hb0 : Below w.heap.size w (w.alloc (.cells #[.bool true, .slice a2 n2 cap2] 50)).drew := HB0.out.drew
      have hc0 : (w.alloc (.cells #[.bool true, .slice a2 n2 cap2] 50)).drew.cell? ⟨b, off, none⟩ = some (.slice ra W rc) := HC0.out
      have hw0 : (w.alloc (.cells #[.bool true, .slice a2 n2 cap2] 50)).drew.heap[w.heap.size]? = some (.cells #[.bool true, .slice a2 n2 cap2] 50 (0, 0)) := HW0.out
      have HLP1 := hid (HLP0.out 1)
      have HLR1 := hid (HLR0.out 1)
      have e1 : (w.alloc (.cells #[.bool true, .slice a2 n2 cap2] 50)).drewN 1 = (w.alloc (.cells #[.bool true, .slice a2 n2 cap2] 50)).drew := rfl
      rw [e1] at HLP1 HLR1
      clear HLP0 HLR0 HB0 HC0 HW0 e1
      generalize (w.alloc (.cells #[.bool true, .slice a2 n2 cap2] 50)).drew = wd at hb0 hc0 hw0 HLP1 HLR1 ⊢
      obtain ⟨q0, q1, _, _, _⟩ := box2_facts hw0
      have HB0 := hid hb0
      clear hb0 hw0
      refine AnyT.takeD (i := 0) (v := .pointer (some ⟨w.heap.size, 1, none⟩)) rfl rfl (by kernel_rfl) (by kernel_rfl) (by kernel_rfl) (by first | exact (fun _ _ _ h => h) | exact (fun _ _ _ h => absurd h.1 (by simp))) (by kernel_rfl) (by rfl) (by rintro w' rfl; go_simp) rfl ?_; go_frame
      refine AnyT.takeD (i := 1) (v := .slice a2 n2 cap2) rfl rfl (by kernel_rfl) (by kernel_rfl) (by kernel_rfl) (by first | exact (fun _ _ _ h => h) | exact (fun _ _ _ h => absurd h.1 (by simp))) (by kernel_rfl) (by rfl) (by rintro w' rfl; go_simp) rfl ?_; go_frame
      refine AnyT.takeD (i := 2) (v := .int .i64 n2) rfl rfl (by kernel_rfl) (by kernel_rfl) (by kernel_rfl) (by first | exact (fun _ _ _ h => h) | exact (fun _ _ _ h => absurd h.1 (by simp))) (by kernel_rfl) (by rfl) (by rintro w' rfl; go_simp) rfl ?_; go_frame
      refine AnyT.takeD (i := 3) (v := .bool false) rfl rfl (by kernel_rfl) (by kernel_rfl) (by kernel_rfl) (by first | exact (fun _ _ _ h => h) | exact (fun _ _ _ h => absurd h.1 (by simp))) (by kernel_rfl) (by rfl) (by rintro w' rfl; go_simp) rfl ?_; go_frame
      refine AnyT.takeD (i := 4) (v := .bool false) rfl rfl (by kernel_rfl) (by kernel_rfl) (by kernel_rfl) (by first | exact (fun _ _ _ h => h) | exact (fun _ _ _ h => absurd h.1 (by simp))) (by kernel_rfl) (by rfl) (by rintro w' rfl; go_simp) rfl ?_; go_frame
      refine AnyT.takeD (i := 5) (v := .pointer (some ⟨w.heap.size, 0, none⟩)) rfl rfl (by kernel_rfl) (by kernel_rfl) (by kernel_rfl) (by first | exact (fun _ _ _ h => h) | exact (fun _ _ _ h => absurd h.1 (by simp))) (by kernel_rfl) (by rfl) (by rintro w' rfl; go_simp) rfl ?_; go_frame
      refine AnyT.takeD (i := 6) (v := .bool true) rfl rfl (by kernel_rfl) (by kernel_rfl) (by kernel_rfl) (by first | exact (fun _ _ _ h => h) | exact (fun _ _ _ h => absurd h.1 (by simp))) (by kernel_rfl) (by rfl) (by rintro w' rfl; go_simp) rfl ?_; go_frame
      refine AnyT.takeD (i := 7) (v := .bool true) rfl rfl (by kernel_rfl) (by kernel_rfl) (by kernel_rfl) (by first | exact (fun _ _ _ h => h) | exact (fun _ _ _ h => absurd h.1 (by simp))) (by kernel_rfl) (by rfl) (by rintro w' rfl; go_simp) rfl ?_; go_frame
      refine AnyT.takeD (i := 8) (v := .pointer (some ⟨w.heap.size, 1, none⟩)) rfl rfl (by kernel_rfl) (by kernel_rfl) (by kernel_rfl) (by first | exact (fun _ _ _ h => h) | exact (fun _ _ _ h => absurd h.1 (by simp))) (by kernel_rfl) (by rfl) (by rintro w' rfl; go_simp) rfl ?_; go_frame
      refine AnyT.takeD (i := 9) (v := .slice a2 n2 cap2) rfl rfl (by kernel_rfl) (by kernel_rfl) (by kernel_rfl) (by first | exact (fun _ _ _ h => h) | exact (fun _ _ _ h => absurd h.1 (by simp))) (by kernel_rfl) (by rfl) (by rintro w' rfl; go_simp) rfl ?_; go_frame
      refine AnyT.takeD (i := 10) (v := .slice (some ⟨b, off, none⟩) n cap) rfl rfl (by kernel_rfl) (by kernel_rfl) (by kernel_rfl) (by first | exact (fun _ _ _ h => h) | exact (fun _ _ _ h => absurd h.1 (by simp))) (by kernel_rfl) (by rfl) (by rintro w' rfl; go_simp) rfl ?_; go_frame
      refine AnyT.takeD (i := 11) (v := .pointer (some ⟨b, off, none⟩)) rfl rfl (by kernel_rfl) (by kernel_rfl) (by kernel_rfl) (by first | exact (fun _ _ _ h => h) | exact (fun _ _ _ h => absurd h.1 (by simp))) (by kernel_rfl) (by rfl) (by rintro w' rfl; go_simp; intro h; exact absurd h (by omega)) rfl ?_; go_frame
      refine AnyT.takeD (i := 12) (v := .slice ra W rc) rfl rfl (by kernel_rfl) (by kernel_rfl) (by kernel_rfl) (by first | exact (fun _ _ _ h => h) | exact (fun _ _ _ h => absurd h.1 (by simp))) (by kernel_rfl) (by rfl) (by rintro w' rfl; go_simp) rfl ?_; go_frame
      refine AnyT.takeD (i := 13) (v := .int .i64 W) rfl rfl (by kernel_rfl) (by kernel_rfl) (by kernel_rfl) (by first | exact (fun _ _ _ h => h) | exact (fun _ _ _ h => absurd h.1 (by simp))) (by kernel_rfl) (by rfl) (by rintro w' rfl; go_simp) rfl ?_; go_frame
      refine AnyT.next (i := 14) (by kernel_rfl) rfl (wpOp_of_list rfl ?_)
      go_wp2_with (go_at_call 42; refine HLP1.out.mono ?_; rintro e w1 ⟨rfl, rfl⟩)
      refine ⟨fun _ => rfl, ?_⟩
      refine AnyT.takeD (i := 15) (v := .bool A) rfl rfl (by kernel_rfl) (by kernel_rfl) (by kernel_rfl) (by first | exact (fun _ _ _ h => h) | exact (fun _ _ _ h => absurd h.1 (by simp))) (by kernel_rfl) (by rfl) (by rintro w' rfl; go_simp) rfl ?_; go_frame
      refine AnyT.takeD (i := 16) (v := .bool A) rfl rfl (by kernel_rfl) (by kernel_rfl) (by kernel_rfl) (by first | exact (fun _ _ _ h => h) | exact (fun _ _ _ h => absurd h.1 (by simp))) (by kernel_rfl) (by rfl) (by rintro w' rfl; go_simp) rfl ?_; go_frame
      refine AnyT.takeD (i := 17) (v := .bool A) rfl rfl (by kernel_rfl) (by kernel_rfl) (by kernel_rfl) (by first | exact (fun _ _ _ h => h) | exact (fun _ _ _ h => absurd h.1 (by simp))) (by kernel_rfl) (by rfl) (by rintro w' rfl; go_simp) rfl ?_; go_frame
      cases A
      rotate_left
      ·
        refine AnyT.takeDN (i := 18) rfl rfl (by kernel_rfl) (by kernel_rfl) (by kernel_rfl) (by first | exact (fun _ _ _ h => h) | exact (fun _ _ _ h => absurd h.1 (by simp))) (by kernel_rfl) (by rfl) rfl ?_; go_frame
        refine AnyT.takeDN (i := 19) rfl rfl (by kernel_rfl) (by kernel_rfl) (by kernel_rfl) (by first | exact (fun _ _ _ h => h) | exact (fun _ _ _ h => absurd h.1 (by simp))) (by kernel_rfl) (by rfl) rfl ?_; go_frame
        refine AnyT.takeDN (i := 20) rfl rfl (by kernel_rfl) (by kernel_rfl) (by kernel_rfl) (by first | exact (fun _ _ _ h => h) | exact (fun _ _ _ h => absurd h.1 (by simp))) (by kernel_rfl) (by rfl) rfl ?_; go_frame
        refine AnyT.takeDN (i := 21) rfl rfl (by kernel_rfl) (by kernel_rfl) (by kernel_rfl) (by first | exact (fun _ _ _ h => h) | exact (fun _ _ _ h => absurd h.1 (by simp))) (by kernel_rfl) (by rfl) rfl ?_; go_frame
        refine AnyT.takeDN (i := 22) rfl rfl (by kernel_rfl) (by kernel_rfl) (by kernel_rfl) (by first | exact (fun _ _ _ h => h) | exact (fun _ _ _ h => absurd h.1 (by simp))) (by kernel_rfl) (by rfl) rfl ?_; go_frame
        refine AnyT.takeDN (i := 23) rfl rfl (by kernel_rfl) (by kernel_rfl) (by kernel_rfl) (by first | exact (fun _ _ _ h => h) | exact (fun _ _ _ h => absurd h.1 (by simp))) (by kernel_rfl) (by rfl) rfl ?_; go_frame
        refine AnyT.takeDN (i := 24) rfl rfl (by kernel_rfl) (by kernel_rfl) (by kernel_rfl) (by first | exact (fun _ _ _ h => h) | exact (fun _ _ _ h => absurd h.1 (by simp))) (by kernel_rfl) (by rfl) rfl ?_; go_frame
        refine AnyT.takeDN (i := 25) rfl rfl (by kernel_rfl) (by kernel_rfl) (by kernel_rfl) (by first | exact (fun _ _ _ h => h) | exact (fun _ _ _ h => absurd h.1 (by simp))) (by kernel_rfl) (by rfl) rfl ?_; go_frame
        refine AnyT.takeDN (i := 26) rfl rfl (by kernel_rfl) (by kernel_rfl) (by kernel_rfl) (by first | exact (fun _ _ _ h => h) | exact (fun _ _ _ h => absurd h.1 (by simp))) (by kernel_rfl) (by rfl) rfl ?_; go_frame
        refine AnyT.takeDN (i := 27) rfl rfl (by kernel_rfl) (by kernel_rfl) (by kernel_rfl) (by first | exact (fun _ _ _ h => h) | exact (fun _ _ _ h => absurd h.1 (by simp))) (by kernel_rfl) (by rfl) rfl ?_; go_frame
        refine AnyT.takeD (i := 28) (v := .bool true) rfl rfl (by kernel_rfl) (by kernel_rfl) (by kernel_rfl) (by first | exact (fun _ _ _ h => h) | exact (fun _ _ _ h => absurd h.1 (by simp))) (by kernel_rfl) (by rfl) (by rintro w' rfl; go_simp) rfl ?_; go_frame
        refine AnyT.takeD (i := 29) (v := .bool true) rfl rfl (by kernel_rfl) (by kernel_rfl) (by kernel_rfl) (by first | exact (fun _ _ _ h => h) | exact (fun _ _ _ h => absurd h.1 (by simp))) (by kernel_rfl) (by rfl) (by rintro w' rfl; go_simp) rfl ?_; go_frame
        refine ⟨by kernel_rfl, ?_⟩
        go_wp2
        go_ret
        exact ⟨by simp, HB0.out⟩
      ·
        refine AnyT.takeD (i := 18) (v := .pointer (some ⟨w.heap.size, 0, none⟩)) rfl rfl (by kernel_rfl) (by kernel_rfl) (by kernel_rfl) (by first | exact (fun _ _ _ h => h) | exact (fun _ _ _ h => absurd h.1 (by simp))) (by kernel_rfl) (by rfl) (by rintro w' rfl; go_simp) rfl ?_; go_frame
        refine AnyT.takeD (i := 19) (v := .bool true) rfl rfl (by kernel_rfl) (by kernel_rfl) (by kernel_rfl) (by first | exact (fun _ _ _ h => h) | exact (fun _ _ _ h => absurd h.1 (by simp))) (by kernel_rfl) (by rfl) (by rintro w' rfl; go_simp) rfl ?_; go_frame
        refine AnyT.takeD (i := 20) (v := .bool false) rfl rfl (by kernel_rfl) (by kernel_rfl) (by kernel_rfl) (by first | exact (fun _ _ _ h => h) | exact (fun _ _ _ h => absurd h.1 (by simp))) (by kernel_rfl) (by rfl) (by rintro w' rfl; go_simp) rfl ?_; go_frame
        refine AnyT.takeD (i := 21) (v := .bool false) rfl rfl (by kernel_rfl) (by kernel_rfl) (by kernel_rfl) (by first | exact (fun _ _ _ h => h) | exact (fun _ _ _ h => absurd h.1 (by simp))) (by kernel_rfl) (by rfl) (by rintro w' rfl; go_simp) rfl ?_; go_frame
        refine AnyT.takeDN (i := 22) rfl rfl (by kernel_rfl) (by kernel_rfl) (by kernel_rfl) (by first | exact (fun _ _ _ h => h) | exact (fun _ _ _ h => absurd h.1 (by simp))) (by kernel_rfl) (by rfl) rfl ?_; go_frame
        refine AnyT.takeDN (i := 23) rfl rfl (by kernel_rfl) (by kernel_rfl) (by kernel_rfl) (by first | exact (fun _ _ _ h => h) | exact (fun _ _ _ h => absurd h.1 (by simp))) (by kernel_rfl) (by rfl) rfl ?_; go_frame
        refine AnyT.takeDN (i := 24) rfl rfl (by kernel_rfl) (by kernel_rfl) (by kernel_rfl) (by first | exact (fun _ _ _ h => h) | exact (fun _ _ _ h => absurd h.1 (by simp))) (by kernel_rfl) (by rfl) rfl ?_; go_frame
        refine AnyT.takeDN (i := 25) rfl rfl (by kernel_rfl) (by kernel_rfl) (by kernel_rfl) (by first | exact (fun _ _ _ h => h) | exact (fun _ _ _ h => absurd h.1 (by simp))) (by kernel_rfl) (by rfl) rfl ?_; go_frame
        refine AnyT.takeDN (i := 26) rfl rfl (by kernel_rfl) (by kernel_rfl) (by kernel_rfl) (by first | exact (fun _ _ _ h => h) | exact (fun _ _ _ h => absurd h.1 (by simp))) (by kernel_rfl) (by rfl) rfl ?_; go_frame
        refine AnyT.takeD (i := 27) (v := .bool false) rfl rfl (by kernel_rfl) (by kernel_rfl) (by kernel_rfl) (by first | exact (fun _ _ _ h => h) | exact (fun _ _ _ h => absurd h.1 (by simp))) (by kernel_rfl) (by rfl) (by rintro w' rfl; go_simp) rfl ?_; go_frame
        refine AnyT.takeD (i := 28) (v := .bool false) rfl rfl (by kernel_rfl) (by kernel_rfl) (by kernel_rfl) (by first | exact (fun _ _ _ h => h) | exact (fun _ _ _ h => absurd h.1 (by simp))) (by kernel_rfl) (by rfl) (by rintro w' rfl; go_simp) rfl ?_; go_frame
        refine AnyT.takeD (i := 29) (v := .bool false) rfl rfl (by kernel_rfl) (by kernel_rfl) (by kernel_rfl) (by first | exact (fun _ _ _ h => h) | exact (fun _ _ _ h => absurd h.1 (by simp))) (by kernel_rfl) (by rfl) (by rintro w' rfl; go_simp) rfl ?_; go_frame
        refine ⟨by kernel_rfl, ?_⟩
        go_wp2
        go_ret
        exact ⟨by simp, HB0.out⟩
    ·
      have hb0 := HBZ.out (.cells #[.bool false, .slice a2 n2 cap2] 50)
      have hc0 := hcz (.cells #[.bool false, .slice a2 n2 cap2] 50)
      have hw0 : (w.alloc (.cells #[.bool false, .slice a2 n2 cap2] 50)).heap[w.heap.size]? = some (.cells #[.bool false, .slice a2 n2 cap2] 50 (0, 0)) := World.alloc_heap_new _ _
      have HLP0 := hid (fun q => HLP.out (.cells #[.bool false, .slice a2 n2 cap2] 50) q)
      have HLR0 := hid (fun q => HLR.out (.cells #[.bool false, .slice a2 n2 cap2] 50) q)
      clear hcz HLP HLR
      have HB0 := hid hb0
      have HC0 := hid hc0
      have HW0 := hid hw0
      clear hb0 hc0 hw0
      go_enter Try.func46, Try.ntmps46
      go_wp2
      refine plain_region (fun j w' => decide (j < 30) = true → w' = (w.alloc (.cells #[.bool false, .slice a2 n2 cap2] 50)).drew) (by kernel_rfl) ?_
      have hb0 : Below w.heap.size w (w.alloc (.cells #[.bool false, .slice a2 n2 cap2] 50)).drew := HB0.out.drew
      have hc0 : (w.alloc (.cells #[.bool false, .slice a2 n2 cap2] 50)).drew.cell? ⟨b, off, none⟩ = some (.slice ra W rc) := HC0.out
      have hw0 : (w.alloc (.cells #[.bool false, .slice a2 n2 cap2] 50)).drew.heap[w.heap.size]? = some (.cells #[.bool false, .slice a2 n2 cap2] 50 (0, 0)) := HW0.out
      have HLP1 := hid (HLP0.out 1)
      have HLR1 := hid (HLR0.out 1)
      have e1 : (w.alloc (.cells #[.bool false, .slice a2 n2 cap2] 50)).drewN 1 = (w.alloc (.cells #[.bool false, .slice a2 n2 cap2] 50)).drew := rfl
      rw [e1] at HLP1 HLR1
      clear HLP0 HLR0 HB0 HC0 HW0 e1
      generalize (w.alloc (.cells #[.bool false, .slice a2 n2 cap2] 50)).drew = wd at hb0 hc0 hw0 HLP1 HLR1 ⊢
      obtain ⟨q0, q1, _, _, _⟩ := box2_facts hw0
      have HB0 := hid hb0
      clear hb0 hw0
      refine AnyT.takeD (i := 0) (v := .pointer (some ⟨w.heap.size, 1, none⟩)) rfl rfl (by kernel_rfl) (by kernel_rfl) (by kernel_rfl) (by first | exact (fun _ _ _ h => h) | exact (fun _ _ _ h => absurd h.1 (by simp))) (by kernel_rfl) (by rfl) (by rintro w' rfl; go_simp) rfl ?_; go_frame
      refine AnyT.takeD (i := 1) (v := .slice a2 n2 cap2) rfl rfl (by kernel_rfl) (by kernel_rfl) (by kernel_rfl) (by first | exact (fun _ _ _ h => h) | exact (fun _ _ _ h => absurd h.1 (by simp))) (by kernel_rfl) (by rfl) (by rintro w' rfl; go_simp) rfl ?_; go_frame
      refine AnyT.takeD (i := 2) (v := .int .i64 n2) rfl rfl (by kernel_rfl) (by kernel_rfl) (by kernel_rfl) (by first | exact (fun _ _ _ h => h) | exact (fun _ _ _ h => absurd h.1 (by simp))) (by kernel_rfl) (by rfl) (by rintro w' rfl; go_simp) rfl ?_; go_frame
      refine AnyT.takeD (i := 3) (v := .bool false) rfl rfl (by kernel_rfl) (by kernel_rfl) (by kernel_rfl) (by first | exact (fun _ _ _ h => h) | exact (fun _ _ _ h => absurd h.1 (by simp))) (by kernel_rfl) (by rfl) (by rintro w' rfl; go_simp) rfl ?_; go_frame
      refine AnyT.takeD (i := 4) (v := .bool false) rfl rfl (by kernel_rfl) (by kernel_rfl) (by kernel_rfl) (by first | exact (fun _ _ _ h => h) | exact (fun _ _ _ h => absurd h.1 (by simp))) (by kernel_rfl) (by rfl) (by rintro w' rfl; go_simp) rfl ?_; go_frame
      refine AnyT.takeD (i := 5) (v := .pointer (some ⟨w.heap.size, 0, none⟩)) rfl rfl (by kernel_rfl) (by kernel_rfl) (by kernel_rfl) (by first | exact (fun _ _ _ h => h) | exact (fun _ _ _ h => absurd h.1 (by simp))) (by kernel_rfl) (by rfl) (by rintro w' rfl; go_simp) rfl ?_; go_frame
      refine AnyT.takeD (i := 6) (v := .bool false) rfl rfl (by kernel_rfl) (by kernel_rfl) (by kernel_rfl) (by first | exact (fun _ _ _ h => h) | exact (fun _ _ _ h => absurd h.1 (by simp))) (by kernel_rfl) (by rfl) (by rintro w' rfl; go_simp) rfl ?_; go_frame
      refine AnyT.takeD (i := 7) (v := .bool false) rfl rfl (by kernel_rfl) (by kernel_rfl) (by kernel_rfl) (by first | exact (fun _ _ _ h => h) | exact (fun _ _ _ h => absurd h.1 (by simp))) (by kernel_rfl) (by rfl) (by rintro w' rfl; go_simp) rfl ?_; go_frame
      refine AnyT.takeDN (i := 8) rfl rfl (by kernel_rfl) (by kernel_rfl) (by kernel_rfl) (by first | exact (fun _ _ _ h => h) | exact (fun _ _ _ h => absurd h.1 (by simp))) (by kernel_rfl) (by rfl) rfl ?_; go_frame
      refine AnyT.takeDN (i := 9) rfl rfl (by kernel_rfl) (by kernel_rfl) (by kernel_rfl) (by first | exact (fun _ _ _ h => h) | exact (fun _ _ _ h => absurd h.1 (by simp))) (by kernel_rfl) (by rfl) rfl ?_; go_frame
      refine AnyT.takeDN (i := 10) rfl rfl (by kernel_rfl) (by kernel_rfl) (by kernel_rfl) (by first | exact (fun _ _ _ h => h) | exact (fun _ _ _ h => absurd h.1 (by simp))) (by kernel_rfl) (by rfl) rfl ?_; go_frame
      refine AnyT.takeDN (i := 11) rfl rfl (by kernel_rfl) (by kernel_rfl) (by kernel_rfl) (by first | exact (fun _ _ _ h => h) | exact (fun _ _ _ h => absurd h.1 (by simp))) (by kernel_rfl) (by rfl) rfl ?_; go_frame
      refine AnyT.takeDN (i := 12) rfl rfl (by kernel_rfl) (by kernel_rfl) (by kernel_rfl) (by first | exact (fun _ _ _ h => h) | exact (fun _ _ _ h => absurd h.1 (by simp))) (by kernel_rfl) (by rfl) rfl ?_; go_frame
      refine AnyT.takeDN (i := 13) rfl rfl (by kernel_rfl) (by kernel_rfl) (by kernel_rfl) (by first | exact (fun _ _ _ h => h) | exact (fun _ _ _ h => absurd h.1 (by simp))) (by kernel_rfl) (by rfl) rfl ?_; go_frame
      refine AnyT.takeDN (i := 14) rfl rfl (by kernel_rfl) (by kernel_rfl) (by kernel_rfl) (by first | exact (fun _ _ _ h => h) | exact (fun _ _ _ h => absurd h.1 (by simp))) (by kernel_rfl) (by rfl) rfl ?_; go_frame
      refine AnyT.takeD (i := 15) (v := .bool false) rfl rfl (by kernel_rfl) (by kernel_rfl) (by kernel_rfl) (by first | exact (fun _ _ _ h => h) | exact (fun _ _ _ h => absurd h.1 (by simp))) (by kernel_rfl) (by rfl) (by rintro w' rfl; go_simp) rfl ?_; go_frame
      refine AnyT.takeD (i := 16) (v := .bool false) rfl rfl (by kernel_rfl) (by kernel_rfl) (by kernel_rfl) (by first | exact (fun _ _ _ h => h) | exact (fun _ _ _ h => absurd h.1 (by simp))) (by kernel_rfl) (by rfl) (by rintro w' rfl; go_simp) rfl ?_; go_frame
      refine AnyT.takeD (i := 17) (v := .bool false) rfl rfl (by kernel_rfl) (by kernel_rfl) (by kernel_rfl) (by first | exact (fun _ _ _ h => h) | exact (fun _ _ _ h => absurd h.1 (by simp))) (by kernel_rfl) (by rfl) (by rintro w' rfl; go_simp) rfl ?_; go_frame
      refine AnyT.takeD (i := 18) (v := .pointer (some ⟨w.heap.size, 0, none⟩)) rfl rfl (by kernel_rfl) (by kernel_rfl) (by kernel_rfl) (by first | exact (fun _ _ _ h => h) | exact (fun _ _ _ h => absurd h.1 (by simp))) (by kernel_rfl) (by rfl) (by rintro w' rfl; go_simp) rfl ?_; go_frame
      refine AnyT.takeD (i := 19) (v := .bool false) rfl rfl (by kernel_rfl) (by kernel_rfl) (by kernel_rfl) (by first | exact (fun _ _ _ h => h) | exact (fun _ _ _ h => absurd h.1 (by simp))) (by kernel_rfl) (by rfl) (by rintro w' rfl; go_simp) rfl ?_; go_frame
      refine AnyT.takeD (i := 20) (v := .bool true) rfl rfl (by kernel_rfl) (by kernel_rfl) (by kernel_rfl) (by first | exact (fun _ _ _ h => h) | exact (fun _ _ _ h => absurd h.1 (by simp))) (by kernel_rfl) (by rfl) (by rintro w' rfl; go_simp) rfl ?_; go_frame
      refine AnyT.takeD (i := 21) (v := .bool true) rfl rfl (by kernel_rfl) (by kernel_rfl) (by kernel_rfl) (by first | exact (fun _ _ _ h => h) | exact (fun _ _ _ h => absurd h.1 (by simp))) (by kernel_rfl) (by rfl) (by rintro w' rfl; go_simp) rfl ?_; go_frame
      refine AnyT.takeD (i := 22) (v := .pointer (some ⟨w.heap.size, 1, none⟩)) rfl rfl (by kernel_rfl) (by kernel_rfl) (by kernel_rfl) (by first | exact (fun _ _ _ h => h) | exact (fun _ _ _ h => absurd h.1 (by simp))) (by kernel_rfl) (by rfl) (by rintro w' rfl; go_simp) rfl ?_; go_frame
      refine AnyT.takeD (i := 23) (v := .slice a2 n2 cap2) rfl rfl (by kernel_rfl) (by kernel_rfl) (by kernel_rfl) (by first | exact (fun _ _ _ h => h) | exact (fun _ _ _ h => absurd h.1 (by simp))) (by kernel_rfl) (by rfl) (by rintro w' rfl; go_simp) rfl ?_; go_frame
      refine AnyT.takeD (i := 24) (v := .slice (some ⟨b, off, none⟩) n cap) rfl rfl (by kernel_rfl) (by kernel_rfl) (by kernel_rfl) (by first | exact (fun _ _ _ h => h) | exact (fun _ _ _ h => absurd h.1 (by simp))) (by kernel_rfl) (by rfl) (by rintro w' rfl; go_simp) rfl ?_; go_frame
      refine AnyT.takeD (i := 25) (v := .int .i64 n) rfl rfl (by kernel_rfl) (by kernel_rfl) (by kernel_rfl) (by first | exact (fun _ _ _ h => h) | exact (fun _ _ _ h => absurd h.1 (by simp))) (by kernel_rfl) (by rfl) (by rintro w' rfl; go_simp) rfl ?_; go_frame
      refine AnyT.next (i := 26) (by kernel_rfl) rfl (wpOp_of_list rfl ?_)
      go_wp2_with (go_at_call 42; refine HLR1.out.mono ?_; rintro e w1 ⟨rfl, rfl⟩)
      refine ⟨fun _ => rfl, ?_⟩
      refine AnyT.takeD (i := 27) (v := .bool R) rfl rfl (by kernel_rfl) (by kernel_rfl) (by kernel_rfl) (by first | exact (fun _ _ _ h => h) | exact (fun _ _ _ h => absurd h.1 (by simp))) (by kernel_rfl) (by rfl) (by rintro w' rfl; go_simp) rfl ?_; go_frame
      refine AnyT.takeD (i := 28) (v := .bool R) rfl rfl (by kernel_rfl) (by kernel_rfl) (by kernel_rfl) (by first | exact (fun _ _ _ h => h) | exact (fun _ _ _ h => absurd h.1 (by simp))) (by kernel_rfl) (by rfl) (by rintro w' rfl; go_simp) rfl ?_; go_frame
      refine AnyT.takeD (i := 29) (v := .bool R) rfl rfl (by kernel_rfl) (by kernel_rfl) (by kernel_rfl) (by first | exact (fun _ _ _ h => h) | exact (fun _ _ _ h => absurd h.1 (by simp))) (by kernel_rfl) (by rfl) (by rintro w' rfl; go_simp) rfl ?_; go_frame
      refine ⟨by kernel_rfl, ?_⟩
      go_wp2
      go_ret
      exact ⟨by simp, HB0.out⟩
end Go.Proofs.Ytkmjeegnijohmaa

namespace Go.Proofs.Ytkmjeegnijohmaa
open Go.RowKit
set_option linter.unusedVariables false

def encE (M : Mask) (p : List (List Int)) (every : Int) : Int := if picsB M p = true then (if inB every 1 60 = true then 0 else 7) else 1

set_option maxHeartbeats 1000000 in
theorem sEncode_c (w : World) (a a2 : Option Addr) (n cap n2 cap2 : Nat) (M : Mask) (p : List (List Int)) (every : Int) (hn : M.length = n) (hm : n ≤ maxLen) (H : RowsAt w a M) (hn2 : p.length = n2) (hm2 : n2 ≤ maxLen) (H2 : RowsAt w a2 p) :
    Calls Try.prog 10 #[.slice a n cap, .slice a2 n2 cap2, .int .i64 every] w fun e w' => Below w.heap.size w w' ∧
      ((encE M p every ≠ 0 ∧ e = .returned (.tuple #[.slice none 0 0, .int .i64 (encE M p every)])) ∨ (encE M p every = 0 ∧ ∃ v base, e = .returned (.tuple #[v, .int .i64 0]) ∧ w.heap.size ≤ base ∧ FrmsO w' base (fun _ => True) v (encF M p every.toNat))) := by
  have HV := hid (validPics_c w a n cap M hn hm H a2 n2 cap2 p hn2 hm2 H2)
  have HW := hid (fun X => swithin_c every 1 60 X)
  cases hP : picsB M p
  · have he : encE M p every = 1 := by unfold encE; rw [hP]; rfl
    rw [hP] at HV
    rw [he]
    clear hn H hn2 H2 hP he
    go_enter Try.func10, Try.ntmps10
    go_wp2_with (go_at_call 16; refine HV.out.mono ?_; rintro e w1 ⟨rfl, hb1⟩)
    go_ret2
    exact ⟨hb1, .inl ⟨by decide, rfl⟩⟩
  · cases hE : inB every 1 60
    · have he : encE M p every = 7 := by unfold encE; rw [hP, hE]; rfl
      rw [hP] at HV
      rw [hE] at HW
      rw [he]
      clear hn H hn2 H2 hP he hE
      go_enter Try.func10, Try.ntmps10
      go_wp2_with first
        | (go_at_call 16; refine HV.out.mono ?_; rintro e w1 ⟨rfl, hb1⟩)
        | (go_at_call 31; refine (HW.out _).mono ?_; rintro e w2 ⟨rfl, rfl⟩)
      go_ret2
      exact ⟨hb1, .inl ⟨by decide, rfl⟩⟩
    · have he : encE M p every = 0 := by unfold encE; rw [hP, hE]; rfl
      have hE' : 1 ≤ every ∧ every ≤ 60 := by unfold inB at hE; simpa using hE
      obtain ⟨E, rfl⟩ : ∃ E : Nat, every = (E : Int) := ⟨every.toNat, by omega⟩
      have HC := hid (fun (X : World) (hX : Below w.heap.size w X) => encode_c X a a2 n cap n2 cap2 M p E hn hn2 hm (H.below hX) (H2.below hX) hP (by omega) (by omega))
      rw [hP] at HV
      rw [hE] at HW
      rw [he, Int.toNat_natCast]
      clear hn H hn2 H2 hP he hE hE'
      go_enter Try.func10, Try.ntmps10
      go_wp2_with first
        | (go_at_call 16; refine HV.out.mono ?_; rintro e w1 ⟨rfl, hb1⟩)
        | (go_at_call 31; refine (HW.out _).mono ?_; rintro e w2 ⟨rfl, rfl⟩)
        | (go_at_call 32; refine (HC.out _ hb1).mono ?_; rintro e w3 ⟨v3, rfl, ho3, hb3⟩)
      go_ret2
      exact ⟨chain hb1 hb3, .inr ⟨trivial, v3, w1.heap.size, rfl, hb1.size, ho3⟩⟩
end Go.Proofs.Ytkmjeegnijohmaa

namespace Go.Proofs.Ytkmjeegnijohmaa
open Go.RowKit
set_option linter.unusedVariables false

set_option maxRecDepth 100000 in
set_option maxHeartbeats 2000000 in
theorem r8valid_c (w : World) (a : Option Addr) (n cap : Nat) (M : Mask) (hn : M.length = n) (hm : n ≤ maxLen) (H : RowsAt w a M) (a2 : Option Addr) (n2 cap2 : Nat) (fs : List Frm) (hn2 : fs.length = n2) (hm2 : n2 ≤ maxLen) (H2 : FramesAt w a2 fs) :
    Calls Try.prog 19 #[.slice a n cap, .slice a2 n2 cap2] w fun e w' => e = .returned (.bool (validB M fs)) ∧ Below w.heap.size w w' := by
  have HV := hid (r2Valid_c w a n cap M hn hm H)
  have HW := hid (fun X => r8in_c n2 1 60 X)
  cases hM : okM M
  · have hp : validB M fs = false := by unfold validB; rw [hM]; rfl
    rw [hM] at HV
    rw [hp]
    clear hn hn2 H H2 hM hp
    go_enter Try.func19, Try.ntmps19
    go_wp2_with (go_at_call 41; refine HV.out.mono ?_; rintro e w1 ⟨rfl, rfl⟩)
    go_ret
    exact ⟨rfl, Below.refl _ _⟩
  · cases hL : inB n2 1 60
    · have hp : validB M fs = false := by unfold validB; rw [hM, hn2, hL]; rfl
      rw [hM] at HV
      rw [hL] at HW
      rw [hp]
      clear hn hn2 H H2 hM hp hL
      go_enter Try.func19, Try.ntmps19
      go_wp2_with first
        | (go_at_call 41; refine HV.out.mono ?_; rintro e w1 ⟨rfl, rfl⟩)
        | (go_at_call 33; refine (HW.out _).mono ?_; rintro e w2 ⟨rfl, rfl⟩)
      go_ret
      exact ⟨rfl, Below.refl _ _⟩
    · have hl1 : 1 ≤ n2 ∧ n2 ≤ 60 := by unfold inB at hL; simp at hL; omega
      obtain ⟨hl1, hn60⟩ := hl1
      obtain ⟨fb, fo, xa, xn, xc, rfl, hfb, hf0, hf1, hxn, hxm, hxi⟩ := H2 0 (by omega)
      rw [Nat.zero_mul, Nat.add_zero] at hf0 hf1
      obtain ⟨K, hK⟩ : ∃ K, K = (fs[0]'(by omega)).1 := ⟨_, rfl⟩
      rw [← hK] at hf0
      have hK2 : (fs[0]?.getD (false, [])).1 = K := by rw [hK, List.getElem?_eq_getElem (by omega)]; rfl
      have i0 : (0 : Int) < (n2 : Int) := by omega
      have hp : validB M fs = (K && fs.all (frB M)) := by unfold validB; rw [hM, hn2, hL, hK2]; rfl
      have h1 : 1 ≤ n := by rw [← hn]; exact (okM_ok hM).2.1
      have HP2 := hid H2
      have HFR := hid (fun (X : World) (hX : Below w.heap.size w X) (kf : Bool) (ra : Option Addr) (rn rc : Nat) (x : List Int) (hrn : x.length = rn) (hrm : rn ≤ maxLen) (hri : IntsAt X ra x) => r8frame_c X kf ra a rn rc n cap M x hn h1 (H.below hX) hrn hrm hri)
      have HN2 := hid hn2
      rw [hM] at HV
      rw [hL] at HW
      rw [hp]
      clear hn hn2 H H2 hM hp hL hK hK2 hf1 hxn hxm hxi
      cases K
      · go_enter Try.func19, Try.ntmps19
        go_wp2_with first
          | (go_at_call 41; refine HV.out.mono ?_; rintro e w1 ⟨rfl, rfl⟩)
          | (go_at_call 33; refine (HW.out _).mono ?_; rintro e w2 ⟨rfl, rfl⟩)
        go_ret
        exact ⟨rfl, Below.refl _ _⟩
      · go_enter Try.func19, Try.ntmps19
        go_wp2_with first
          | (go_at_call 41; refine HV.out.mono ?_; rintro e w1 ⟨rfl, rfl⟩)
          | (go_at_call 33; refine (HW.out _).mono ?_; rintro e w2 ⟨rfl, rfl⟩)
        clear hf0 hfb
        go_loopw [25] (fun i wr => ∃ k : Nat, k ≤ n2 ∧ i = .int .i64 k ∧ Below w.heap.size w wr ∧ ∀ j (hj : j < fs.length), j < k → frB M fs[j] = true) (fun i _ => n2 - (intOf i).toNat)
        case atStart => exact ⟨0, Nat.zero_le _, rfl, Below.refl _ _, fun i _ h => by omega⟩
        case round =>
          obtain ⟨k, hk, rfl, hb, hno⟩ := hrel
          have HNO := hid hno
          clear hno
          by_cases hlt : k < n2
          · have hkl : k < fs.length := by rw [HN2.out]; exact hlt
            obtain ⟨pb, po, ya, yn, yc, e1, hpb, hp0, hp1, hyn, hym, hyi⟩ := (HP2.out.below hb) k hkl
            cases e1
            obtain ⟨⟨kf, x⟩, hr⟩ : ∃ r, r = fs[k]'hkl := ⟨_, rfl⟩
            rw [← hr] at hp0 hyn hyi
            simp only [] at hp0 hyn hyi
            have hba : ∀ o : Obj, Below wr.heap.size wr (wr.alloc o) := fun o => (Below.refl _ _).alloc (Nat.le_refl _) _
            have HF2 := hid (fun (o : Obj) => HFR.out (wr.alloc o) (chain hb (hba o)) kf ya yn yc x hyn hym (hyi.below (hba o)))
            obtain ⟨B, hB⟩ : ∃ B, B = frB M (kf, x) := ⟨_, rfl⟩
            rw [← hB] at HF2
            rw [hr] at hB
            have HBB := hid hB
            have HKL := hid hkl
            have HBA := hid hba
            have HB := hid hb
            clear hB hyn hyi hr hba hb
            cases B
            · go_wp2_with (go_at_call 46; refine (HF2.out _).mono ?_; rintro e w1 ⟨rfl, hb1⟩)
              go_ret
              refine ⟨ret_bool ?_, chain (chain HB.out (HBA.out _)) hb1⟩
              rw [allP_stop HKL.out HBB.out.symm]; rfl
            · go_wp2_with (go_at_call 46; refine (HF2.out _).mono ?_; rintro e w1 ⟨rfl, hb1⟩)
              refine ⟨⟨k + 1, by omega, by go_num, chain (chain HB.out (HBA.out _)) hb1, fun j hj hjk => ?_⟩, by simp [intOf]; omega⟩
              by_cases e : j = k
              · subst e; exact HBB.out.symm
              · exact HNO.out j hj (by omega)
          · go_wp2
            go_ret
            refine ⟨ret_bool ?_, hb⟩
            rw [allP_done (fun j hj => HNO.out j hj (by have := HN2.out; omega))]; rfl
end Go.Proofs.Ytkmjeegnijohmaa

namespace Go.Proofs.Ytkmjeegnijohmaa
open Go.RowKit
set_option linter.unusedVariables false

theorem frm_set_same {F : List Frm} {k : Nat} (hk : k < F.length) : F.set k (F[k].1, F[k].2) = F := by
  refine List.ext_getElem (by simp) fun i h1 h2 => ?_
  rw [List.getElem_set]
  split
  · rename_i h; subst h; rfl
  · rfl

theorem FrmsO.set' {W : World} {base g n c k : Nat} {S : Nat → Prop} {F F' : List Frm} {u : Value} {l : List Int} (h : FrmsO W base S (.slice (some ⟨g, 0, none⟩) n c) F) (hk : k < F.length) (hu : ElemI 3 W base S u l) (hF : F.set k (F[k].1, l) = F') :
    FrmsO (W.setCell ⟨g, k * 2 + 1, none⟩ u) base S (.slice (some ⟨g, 0, none⟩) n c) F' := by
  subst hF; exact FrmsO.set h hk hu

set_option maxRecDepth 100000 in
set_option maxHeartbeats 1000000 in
theorem copied_c (w : World) (a : Option Addr) (n cap : Nat) (F : List Frm) (hn : F.length = n) (hm : n ≤ 1000) (hl : ∀ f ∈ F, f.2.length ≤ 1000) (H : FramesAt w a F) :
    Calls Try.prog 50 #[.slice a n cap] w fun e w' => ∃ v, e = .returned v ∧ FrmsO w' w.heap.size (fun _ => True) v F ∧ Below w.heap.size w w' := by
  have HCF := hid (cloneF_c w a n cap F hn hm H)
  have HN := hid hn
  have HL := hid hl
  clear hn hl H
  go_enter Try.func50, Try.ntmps50
  go_wp2_with (go_at_call 72; refine HCF.out.mono ?_; rintro e w1 ⟨v, rfl, ho1, hb1⟩; refine Stop.of ?_)
  refine Stop.go ?_
  obtain ⟨va, vc, hva⟩ := ho1.slice
  rw [HN.out] at hva
  subst hva
  have HO1 := hid ho1
  have HB1 := hid hb1
  clear ho1 hb1 HCF
  go_wp2
  go_loopw [9] (fun i wr => ∃ k : Nat, k ≤ n ∧ i = .int .i64 k ∧ FrmsO wr w.heap.size (fun _ => True) (.slice va n vc) F ∧ Below w.heap.size w wr) (fun i _ => n - (intOf i).toNat)
  case atStart => exact ⟨0, Nat.zero_le _, rfl, HO1.out, HB1.out⟩
  case round =>
    obtain ⟨k, hk, rfl, ho, hb⟩ := hrel
    by_cases hlt : k < n
    · have hkl : k < F.length := by rw [HN.out]; exact hlt
      obtain ⟨ra', rc', e, hfm, hfr⟩ := ho.reads
      obtain ⟨g, off, ra, rn, rc, e2, hg, h0, h1, hrn, hrm, hri⟩ := hfr k hkl
      obtain ⟨xs, hoo, hgg, hoe⟩ := id ho
      have hgo : va = some ⟨g, 0, none⟩ ∧ off = 0 ∧ w.heap.size ≤ g ∧ (∃ cur, wr.heap[g]? = some (.cells cur 50 (0, 0)) ∧ cur.size = vc * 2 ∧ n ≤ vc) := by
        rcases hoo.2 with ⟨e3, h3⟩ | ⟨g', cap', cur, e3, hbg, hgg', hnc, hcm, hsz, _⟩
        · rw [HN.out] at h3; omega
        · cases e3
          cases e
          cases e2
          exact ⟨rfl, rfl, hbg, cur, hgg', hsz, by rw [HN.out] at hnc; exact hnc⟩
      obtain ⟨rfl, rfl, hgw, cur, hcur, hcs, hcn⟩ := hgo
      clear e e2
      rw [Nat.zero_add] at h0 h1
      have hr10 : rn ≤ 1000 := by rw [← hrn]; exact HL.out _ (List.getElem_mem hkl)
      have HCI := hid (clone_c wr ra rn rc F[k].2 hrn (by omega) hri)
      have HOW := hid ho
      have HBW := hid hb
      have HRN := hid hrn
      have HKL := hid hkl
      have HCUR := hid hcur
      have HGW := hid hgw
      have hki : (k : Int) < (n : Int) := by omega
      have hki0 : (0 : Int) ≤ (k : Int) := by omega
      clear ho hb hrn hri hfr hoo hgg hoe hfm hcur hcs h0
      go_wp2_with (go_at_call 54; refine HCI.out.mono ?_; rintro e w2 ⟨u, rfl, ho2, hb2⟩; refine Stop.of ?_)
      refine Stop.go ?_
      obtain ⟨ua, uc, rfl⟩ := ownsRow_slice ho2
      have hfo2 := HOW.out.below hb2
      have hel : ElemI 3 w2 w.heap.size (fun _ => True) (.slice ua rn uc) F[k].2 := ElemI.own' ho2 rfl HRN.out hrm (fun _ _ => trivial)
      have hset := FrmsO.set' hfo2 HKL.out hel (frm_set_same HKL.out)
      have hg2 : w2.heap[g]? = some (.cells cur 50 (0, 0)) := (hb2.block g hg).trans HCUR.out
      have hgl : g < w2.heap.size := Nat.lt_of_lt_of_le hg hb2.size
      have hc2 : w2.cell? ⟨g, k * 2 + 1, none⟩ = some (.slice ra rn rc) := (hb2.cell (p := ⟨g, _, none⟩) hg).trans h1
      have hf2 : w2.frozen? ⟨g, k * 2 + 1, none⟩ = false := by simp [World.frozen?, hg2]
      have hbs := below_set (chain HBW.out hb2) HGW.out (k * 2 + 1) (.slice ua rn uc)
      have HSET := hid hset
      have HBS := hid hbs
      clear hfo2 hel hset hg2 hbs ho2 hb2 h1
      go_wp2
      exact ⟨⟨k + 1, by omega, by go_num, HSET.out, HBS.out⟩, by simp [intOf]; omega⟩
    · go_wp2
      go_ret
      exact ⟨_, rfl, ho, hb⟩
end Go.Proofs.Ytkmjeegnijohmaa

namespace Go.Proofs.Ytkmjeegnijohmaa
open Go.RowKit
set_option linter.unusedVariables false

def loseAt (F : List Frm) (i : Int) (k : Nat) : Frm := if (k : Int) = i then ((F[k]?.getD (false, [])).1, []) else F[k]?.getD (false, [])
def loseF (F : List Frm) (i : Int) : List Frm := (List.range F.length).map (loseAt F i)
theorem loseF_len (F : List Frm) (i : Int) : (loseF F i).length = F.length := by simp [loseF]
theorem loseF_take (F : List Frm) (i : Int) {k : Nat} (hk : k < F.length) : (loseF F i).take (k + 1) = (loseF F i).take k ++ [loseAt F i k] := by
  have hc : k < (loseF F i).length := by rw [loseF_len]; exact hk
  rw [List.take_succ_eq_append_getElem hc]
  simp [loseF]
theorem loseF_none (F : List Frm) : loseF F (-1) = F := by
  refine List.ext_getElem (loseF_len _ _) fun i h1 h2 => ?_
  simp only [loseF, List.getElem_map, List.getElem_range, loseAt]
  rw [if_neg (by omega), List.getElem?_eq_getElem h2]; rfl
set_option maxRecDepth 100000 in
set_option maxHeartbeats 2000000 in
theorem r8lose_c (w : World) (a : Option Addr) (n cap : Nat) (F : List Frm) (i : Int) (hn : F.length = n) (hm : n ≤ 1000) (hl : ∀ f ∈ F, f.2.length ≤ 1000) (H : FramesAt w a F) :
    Calls Try.prog 52 #[.slice a n cap, .int .i64 i] w fun e w' => ∃ v, e = .returned v ∧ FrmsO w' w.heap.size (fun b => w.heap.size ≤ b) v (loseF F i) ∧ Below w.heap.size w w' := by
  have HN := hid hn
  have HL := hid hl
  have HH := hid H
  have HCT := hid (fun (k : Nat) (hk : k < F.length) => loseF_take F i hk)
  have HCL := hid (show (loseF F i).length = n by rw [loseF_len, hn])
  have HLA := hid (show ∀ k, loseAt F i k = if (k : Int) = i then ((F[k]?.getD (false, [])).1, []) else F[k]?.getD (false, []) from fun k => rfl)
  obtain ⟨C, hC⟩ : ∃ C, C = loseF F i := ⟨_, rfl⟩
  rw [← hC] at HCT HCL ⊢
  clear hn hl H hC
  go_enter Try.func52, Try.ntmps52
  go_wp2
  go_loopw [5, 11] (fun v i wr => ∃ k : Nat, k ≤ n ∧ i = .int .i64 k ∧ FrmsO wr w.heap.size (fun b => w.heap.size ≤ b) v (C.take k) ∧ Below w.heap.size w wr) (fun _ i _ => n - (intOf i).toNat)
  case atStart => exact ⟨0, Nat.zero_le _, rfl, FrmsO.nil _ _ _, Below.refl _ _⟩
  case round =>
    obtain ⟨k, hk, rfl, ho, hbk⟩ := hrel
    by_cases hlt : k < n
    · have hkl : k < F.length := by rw [HN.out]; exact hlt
      obtain ⟨b, off, ra, rn, rc, rfl, hbs, h0, h1, hrn, hrm, hri⟩ := (HH.out.below hbk) k hkl
      have htk := HCT.out k hkl
      rw [HLA.out k, List.getElem?_eq_getElem hkl] at htk
      have hr10 : rn ≤ 1000 := by rw [← hrn]; exact HL.out _ (List.getElem_mem hkl)
      obtain ⟨⟨kf, x⟩, hr⟩ : ∃ r, r = F[k]'hkl := ⟨_, rfl⟩
      rw [← hr] at h0 hrn hri htk
      simp only [Option.getD_some] at h0 hrn hri htk
      have hCk : (C.take k).length = k := by rw [List.length_take, HCL.out]; omega
      obtain ⟨va, vc, hva⟩ := ho.slice
      rw [hCk] at hva
      subst hva
      obtain ⟨o1, ho1⟩ : ∃ o, o = Obj.cells #[.bool kf, .slice ra rn rc] 50 (0, 0) := ⟨_, rfl⟩
      obtain ⟨o2, ho2⟩ : ∃ o, o = Obj.cells #[.bool kf, .slice none 0 0] 50 (0, 0) := ⟨_, rfl⟩
      have hb1 : Below wr.heap.size wr (wr.alloc o1) := (Below.refl _ _).alloc (Nat.le_refl _) _
      have hb2 : Below wr.heap.size wr ((wr.alloc o1).alloc o2) := hb1.alloc hb1.size _
      have hs2 : ((wr.alloc o1).alloc o2).heap.size = wr.heap.size + 1 + 1 := by simp
      have hq1 : ((wr.alloc o1).alloc o2).heap[wr.heap.size]? = some o1 := by rw [Below.heap_alloc _ _ _ (by simp)]; exact World.alloc_heap_new _ _
      have hq2 : ((wr.alloc o1).alloc o2).heap[wr.heap.size + 1]? = some o2 := by have := World.alloc_heap_new (wr.alloc o1) o2; rwa [World.size_alloc] at this
      rw [ho1] at hq1
      rw [ho2] at hq2
      obtain ⟨y0, y1, _, _, _⟩ := box2_facts hq1
      obtain ⟨z0, z1, f0, f1, _⟩ := box2_facts hq2
      have HTK := hid htk
      have HRN := hid hrn
      have HRI := hid hri
      have HCK := hid hCk
      have HO := hid ho
      have HBK := hid hbk
      have HB2 := hid hb2
      have HQ2 := hid hq2
      have M1 := hid (show k + 1 ≤ maxLen by unfold maxLen; omega)
      have M2 := hid (show (k + 1) * 32 ≤ 140737488355328 by omega)
      have hki : (k : Int) < (n : Int) := by omega
      have hki0 : (0 : Int) ≤ (k : Int) := by omega
      clear htk hrn hri hCk ho hbk hr hb1 hb2 hq1 hq2 hkl
      by_cases hik : (k : Int) = i
      · have hne : ((k : Int) != i) = false := by simp [hik]
        have htk2 := HTK.out
        rw [if_pos hik] at htk2
        have hFO := HO.out.below HB2.out
        have hEI : ElemI 3 ((wr.alloc o1).alloc o2) w.heap.size (fun b => w.heap.size ≤ b) (.slice none 0 0) [] := ⟨none, 0, 0, rfl, rfl, by decide, fun j hj => by simp at hj⟩
        obtain ⟨xs, hoo, hgg, hoe⟩ := hFO
        have hoo' := hoo
        rw [HCK.out] at hoo'
        have HOO := hid hoo
        have HOE := hid hoe
        have HOO' := hid hoo'
        have HEI := hid hEI
        have HTK2 := hid htk2
        have hBW := chain HBK.out HB2.out
        have HBW := hid hBW
        have hnw := news2 ((wr.alloc o1).alloc o2) (.bool kf) (.slice none 0 0) 50
        rw [hs2] at hnw
        have HNW := hid hnw
        have M3 := hid (show w.heap.size ≤ (((wr.alloc o1).alloc o2).alloc (.cells #[.bool kf, .slice none 0 0] 50)).heap.size from Nat.le_trans hBW.size (le_alloc _ _))
        clear hoo hgg hoe hoo' hEI htk2 hik hBW hnw hs2
        subst ho1 ho2
        go_wp2_with (at_builtin; refine wpList_app _ rfl (.tmp 27) (.tmp 29) 24 rfl w.heap.size 50 (.agg #[.bool false, .slice none 0 0]) 2 32 Try.underlying24 info_frame rfl (by decide) (.slice va k vc) k xs rfl (HOO'.out.alloc _) (some ⟨wr.heap.size + 1 + 1, 0, none⟩) 1 1 [.bool kf, .slice none 0 0] rfl rfl no_none HNW.out (frm_one _ _ _ _) M1.out M2.out M3.out ?_; intro a9 c9 w9 own9 g9; refine Stop.of ?_)
        refine Stop.go ?_
        have hsn := FrmsO.snoc (f := (kf, [])) HOO.out HOE.out HEI.out ((Below.refl _ _).alloc (Nat.le_refl _) _) g9 (by rw [HCK.out]; exact own9) (fun g hg => (own9.lt g hg).1)
        have hB9 : Below w.heap.size w w9 := (HBW.out.alloc HBW.out.size _).grown g9 M3.out (fun g hg => (HOO'.out.lt g hg).1)
        rw [← HTK2.out] at hsn
        have HSN := hid hsn
        have HB9 := hid hB9
        clear hsn hB9 own9 g9
        go_wp2
        exact ⟨⟨k + 1, by omega, by go_num, HSN.out, HB9.out⟩, by simp [intOf]; omega⟩
      · have hne : ((k : Int) != i) = true := by simp [hik]
        have htk2 := HTK.out
        rw [if_neg hik] at htk2
        obtain ⟨W3, hW3⟩ : ∃ W3, W3 = ((wr.alloc o1).alloc o2).alloc (.cells #[] 3) := ⟨_, rfl⟩
        have M := World.ownsRow_made (base := wr.heap.size + 1 + 1) (e := 3) (size := 1) ((wr.alloc o1).alloc o2) #[] 0 (by rw [hs2]; exact Nat.le_refl _) (Nat.zero_le _) rfl
        rw [hs2] at M
        have hb3 : Below wr.heap.size wr (((wr.alloc o1).alloc o2).alloc (.cells #[] 3)) := HB2.out.alloc HB2.out.size _
        have hz3 : (((wr.alloc o1).alloc o2).alloc (.cells #[] 3)).heap.size = wr.heap.size + 3 := by simp
        have HX0 := hid (show ra = none → rn = 0 from fun h => by
          rcases Nat.eq_zero_or_pos rn with h' | h'
          · exact h'
          · obtain ⟨_, _, e, _⟩ := HRI.out 0 (by rw [HRN.out]; exact h'); rw [h] at e; cases e)
        have HNX := hid (news_ints HRI.out hb3)
        have HM := hid M
        have HB3 := hid hb3
        have HZ3 := hid hz3
        have HTK2 := hid htk2
        have hq3 : (((wr.alloc o1).alloc o2).alloc (.cells #[] 3)).heap[wr.heap.size + 1]? = some o2 := (Below.heap_alloc _ _ _ (by rw [hs2]; omega)).trans (by have h := HQ2.out; rw [← ho2] at h; exact h)
        rw [ho2] at hq3
        have HQ3 := hid hq3
        clear M hb3 hz3 htk2 hik hW3 hq3
        subst ho1 ho2
        go_wp2_with (at_builtin; refine wpList_app _ rfl (.tmp 22) (.tmp 24) 25 rfl (wr.heap.size + 1 + 1) 3 (.int .i64 0) 1 8 Try.underlying25 li_int rfl Nat.one_pos (.slice (some ⟨wr.heap.size + 1 + 1, 0, none⟩) 0 0) 0 [] rfl HM.out ra rn rc (x.map (Value.int .i64)) rfl (by rw [List.length_map, HRN.out, Nat.mul_one]) HX0.out HNX.out (ints_one _) (by rw [Nat.zero_add]; unfold maxLen; omega) (by omega) (by rw [HZ3.out]; omega) ?_; intro ca cc w4 own4 g4; refine Stop.of ?_)
        refine Stop.go ?_
        have hq4 : w4.heap[wr.heap.size + 1]? = some (.cells #[.bool kf, .slice none 0 0] 50 (0, 0)) := (g4.block _ (by rw [HZ3.out]; omega) (by simp [Value.ownBlock]; try omega)).trans HQ3.out
        obtain ⟨d0, d1, k0, k1, hl4⟩ := box2_facts hq4
        have hb4 : Below wr.heap.size wr w4 := HB3.out.grown g4 HB3.out.size (fun g hg => by have := (HM.out.lt g hg).1; omega)
        have hown4 : w4.ownsRow wr.heap.size 3 1 (.slice ca rn cc) rn (x.map (Value.int .i64)) := own_mono (by simpa using own4) (by omega)
        have hne4 : ∀ g, (Value.slice ca rn cc).ownBlock = some g → g ≠ wr.heap.size + 1 := fun g hg e => by
          rcases hown4.2 with ⟨h, h'⟩ | ⟨g', cap', cur, h, h1, h2, _⟩
          · cases h; simp [Value.ownBlock] at hg
          · cases h
            obtain rfl : g' = g := by simpa [Value.ownBlock] using hg
            rw [e, hq4] at h2; cases h2
        have hf8 : (w4.setCell ⟨wr.heap.size + 1, 1, none⟩ (.slice ca rn cc)).heap[wr.heap.size + 1]? = some (.cells #[.bool kf, .slice ca rn cc] 50 (0, 0)) := by rw [cells_set hq4 1]; rfl
        obtain ⟨e0, e1, _, _, _⟩ := box2_facts hf8
        have hws := HBK.out.size
        have hB8 : Below w.heap.size w (w4.setCell ⟨wr.heap.size + 1, 1, none⟩ (.slice ca rn cc)) := below_set (chain HBK.out hb4) (by omega) _ _
        have hK8 : Keep (fun k => k ≠ wr.heap.size + 1) wr (w4.setCell ⟨wr.heap.size + 1, 1, none⟩ (.slice ca rn cc)) := (Keep.of_below hb4 : Keep (fun k => k ≠ wr.heap.size + 1) _ _).trans (Keep.set _ _ _ _)
        have hFO := FrmsO.keep (S' := fun b => w.heap.size ≤ b) HO.out hK8 (fun b h hb => ⟨by omega, h⟩)
        have hEI : ElemI 3 (w4.setCell ⟨wr.heap.size + 1, 1, none⟩ (.slice ca rn cc)) w.heap.size (fun b => w.heap.size ≤ b) (.slice ca rn cc) x := ElemI.own' (own_set (o := 1) (u := .slice ca rn cc) hown4 hne4) rfl HRN.out hrm (fun b h => Nat.le_trans hws h)
        obtain ⟨xs, hoo, hgg, hoe⟩ := hFO
        have hoo' := hoo
        rw [HCK.out] at hoo'
        have HOO := hid hoo
        have HOE := hid hoe
        have HOO' := hid hoo'
        have HEI := hid hEI
        have HB8 := hid hB8
        have hnw := news2 (w4.setCell ⟨wr.heap.size + 1, 1, none⟩ (.slice ca rn cc)) (.bool kf) (.slice ca rn cc) 50
        have hsz : (w4.setCell ⟨wr.heap.size + 1, 1, none⟩ (.slice ca rn cc)).heap.size = w4.heap.size := by simp [World.setCell]
        rw [hsz] at hnw
        have HNW := hid hnw
        have M3 := hid (show w.heap.size ≤ ((w4.setCell ⟨wr.heap.size + 1, 1, none⟩ (.slice ca rn cc)).alloc (.cells #[.bool kf, .slice ca rn cc] 50)).heap.size from Nat.le_trans HB8.out.size (le_alloc _ _))
        clear hoo hgg hoe hoo' hEI hB8 hnw hsz hK8 hf8 hown4 hne4 hb4 hq4 own4 g4 hws y0 y1 z0 z1 f0 f1
        go_wp2_with (at_builtin; refine wpList_app _ rfl (.tmp 27) (.tmp 29) 24 rfl w.heap.size 50 (.agg #[.bool false, .slice none 0 0]) 2 32 Try.underlying24 info_frame rfl (by decide) (.slice va k vc) k xs rfl (HOO'.out.alloc _) (some ⟨w4.heap.size, 0, none⟩) 1 1 [.bool kf, .slice ca rn cc] rfl rfl no_none HNW.out (frm_one _ _ _ _) M1.out M2.out M3.out ?_; intro a9 c9 w9 own9 g9; refine Stop.of ?_)
        refine Stop.go ?_
        have hsn := FrmsO.snoc (f := (kf, x)) HOO.out HOE.out HEI.out ((Below.refl _ _).alloc (Nat.le_refl _) _) g9 (by rw [HCK.out]; exact own9) (fun g hg => (own9.lt g hg).1)
        have hB9 : Below w.heap.size w w9 := (HB8.out.alloc HB8.out.size _).grown g9 M3.out (fun g hg => (HOO'.out.lt g hg).1)
        rw [← HTK2.out] at hsn
        have HSN := hid hsn
        have HB9 := hid hB9
        clear hsn hB9 own9 g9
        go_wp2
        exact ⟨⟨k + 1, by omega, by go_num, HSN.out, HB9.out⟩, by simp [intOf]; omega⟩
    · obtain rfl : n = k := by omega
      rw [List.take_of_length_le (by rw [HCL.out]; exact Nat.le_refl _)] at ho
      go_wp2
      go_ret
      exact ⟨_, rfl, ho, hbk⟩
end Go.Proofs.Ytkmjeegnijohmaa

namespace Go.Proofs.Ytkmjeegnijohmaa
open Go.RowKit
set_option linter.unusedVariables false
attribute [local go_sem] Oper.semAt_some

theorem equalI_c (w : World) (a a2 : Option Addr) (n cap n2 cap2 : Nat) (l l2 : List Int) (hn : l.length = n) (hn2 : l2.length = n2) (hm : n ≤ maxLen) (hm2 : n2 ≤ maxLen) (H : IntsAt w a l) (H2 : IntsAt w a2 l2) :
    Calls Try.prog 74 #[.slice a n cap, .slice a2 n2 cap2] w fun e w' => e = .returned (.bool (decide (l = l2))) ∧ ∃ k, w' = w.drewN k := by
  have HN := hid hn
  have HN2 := hid hn2
  have HH := hid H
  have HH2 := hid H2
  clear hn hn2 H H2
  unfold maxLen at hm hm2
  by_cases hl : n = n2
  · have hd : ((n : Int) != (n2 : Int)) = false := by simp [hl]
    have HL := hid hl
    clear hl
    go_enter Try.func74, Try.ntmps74
    go_wp2
    go_loopw [13] (fun i wr => ∃ k : Nat, k ≤ n ∧ i = .int .i64 k ∧ (∃ q, wr = w.drewN q) ∧ ∀ j (hj : j < l.length) (hj2 : j < l2.length), j < k → l[j] = l2[j]) (fun i _ => n - (intOf i).toNat)
    case atStart => exact ⟨0, Nat.zero_le _, rfl, ⟨0, rfl⟩, fun i _ _ h => by omega⟩
    case round =>
      obtain ⟨k, hk, rfl, ⟨q, rfl⟩, hno⟩ := hrel
      have HNO := hid hno
      clear hno
      by_cases hlt : k < n
      · have hkl : k < l.length := by rw [HN.out]; exact hlt
        have hkl2 : k < l2.length := by rw [HN2.out, ← HL.out]; exact hlt
        obtain ⟨b, off, rfl, hbs, hc⟩ := HH.out k hkl
        obtain ⟨b2, off2, rfl, hbs2, hc2⟩ := HH2.out k hkl2
        have hg : l[k]?.getD 0 = l[k] := by rw [List.getElem?_eq_getElem hkl]; rfl
        have hg2 : l2[k]?.getD 0 = l2[k] := by rw [List.getElem?_eq_getElem hkl2]; rfl
        rw [hg] at hc
        rw [hg2] at hc2
        have hlt2 : k < n2 := by have := HL.out; omega
        have HKL := hid hkl
        have HKL2 := hid hkl2
        clear hg hg2
        by_cases he : l[k] = l2[k]
        · have hb : (l[k] != l2[k]) = false := by simp [he]
          have HE := hid he
          clear he
          go_wp2
          go_quiet (fail)
          go_wp2
          refine ⟨⟨k + 1, by omega, by go_num, ⟨_, rfl⟩, fun j hj hj2 hjk => ?_⟩, by simp [intOf]; omega⟩
          by_cases e : j = k
          · subst e; exact HE.out
          · exact HNO.out j hj hj2 (by omega)
        · have hb : (l[k] != l2[k]) = true := by simp [he]
          have HE := hid he
          clear he
          go_wp2
          go_quiet (fail)
          go_wp2
          go_ret
          refine ⟨ret_bool ?_, q + nq, drewN_add _ _ _⟩
          symm
          rw [decide_eq_false_iff_not]
          rintro rfl
          exact HE.out rfl
      · go_wp2
        go_ret
        refine ⟨ret_bool ?_, _, rfl⟩
        symm
        rw [decide_eq_true_iff]
        have h1 := HN.out
        have h2 := HN2.out
        have h3 := HL.out
        exact List.ext_getElem (by omega) fun i g1 g2 => HNO.out i g1 g2 (by omega)
  · have hd : ((n : Int) != (n2 : Int)) = true := by simp; omega
    have HL := hid hl
    clear hl
    go_enter Try.func74, Try.ntmps74
    go_wp2
    go_ret
    refine ⟨ret_bool ?_, 0, rfl⟩
    symm
    rw [decide_eq_false_iff_not]
    rintro rfl
    exact HL.out (HN.out.symm.trans HN2.out)

theorem box_cell {W : World} {rb i : Nat} {T : TypeId} {c : Bool} {u : Value} (h : Boxed W rb T (.bool c)) (hc : W.cell? ⟨rb, i, none⟩ = some u) : ∃ c', u = .bool c' := by
  unfold Boxed at h
  simp only [World.cell?, h] at hc
  match i, hc with
  | 0, hc => simp at hc; exact ⟨c, hc.symm⟩
  | i + 1, hc => simp at hc
theorem FramesAt.ex {W W' : World} {a : Option Addr} {fs : List Frm} {rb : Nat} {T : TypeId} {c : Bool} (h : FramesAt W a fs) (hb : Boxed W rb T (.bool c)) (hk : ∀ q, q < W.heap.size → q ≠ rb → W'.heap[q]? = W.heap[q]?) : FramesAt W' a fs := by
  intro j hj
  obtain ⟨b, off, ra, n, cap, e, hlt, h0, h1, hn, hm, hi⟩ := h j hj
  have hne : b ≠ rb := fun e => by subst e; obtain ⟨c', h⟩ := box_cell hb h1; cases h
  refine ⟨b, off, ra, n, cap, e, lt_blk hlt (hk b hlt hne), cell_blk h0 (hk b hlt hne), cell_blk h1 (hk b hlt hne), hn, hm, fun i hi' => ?_⟩
  obtain ⟨b2, off2, e2, hlt2, hc⟩ := hi i hi'
  have hne2 : b2 ≠ rb := fun e => by subst e; obtain ⟨c', h⟩ := box_cell hb hc; cases h
  exact ⟨b2, off2, e2, lt_blk hlt2 (hk b2 hlt2 hne2), cell_blk hc (hk b2 hlt2 hne2)⟩
theorem DecV.keep {M : Mask} {k : Int} {fs : List Frm} {lo : Nat} {S : Nat → Prop} {j : Nat} {v u : Value} {A B : World} {T : Nat → Prop} (h : DecV M k fs lo S j v u A) (hk : Keep T A B) (hT : ∀ q, lo ≤ q → T q) : DecV M k fs lo S j v u B :=
  ⟨h.1, h.2.keep hk fun b h1 _ h2 => ⟨hT b h1, h2⟩⟩

theorem decoded_c (w : World) (a a2 : Option Addr) (n cap n2 cap2 : Nat) (k : Int) :
    Calls Try.prog 70 #[.slice a n cap, .slice a2 n2 cap2, .int .i64 k] w fun e w' => e = .returned (.func (.func 83) #[] #[.pointer (some ⟨w.heap.size + 1, 0, none⟩), .pointer (some ⟨w.heap.size, 0, none⟩), .pointer (some ⟨w.heap.size + 2, 0, none⟩)]) ∧
      w' = ((w.alloc (.cells #[.slice a n cap] 23)).alloc (.cells #[.slice a2 n2 cap2] 24)).alloc (.cells #[.int .i64 k] 3) := by
  have hmf : ∀ (fn : Fn) (first cap : Array Value) (w : World), (Instr.makeFunc fn first cap).run Try.prog w = .ok (.func fn first cap) w := fun _ _ _ _ => rfl
  go_enter Try.func70, Try.ntmps70
  go_wp2
  go_ret
  exact ⟨by simp, rfl⟩

set_option maxRecDepth 100000 in
set_option maxHeartbeats 1000000 in
theorem right_c (w : World) (a a2 : Option Addr) (n cap n2 cap2 : Nat) (M : Mask) (p : List (List Int)) (E : Nat) (k : Int) (hn : M.length = n) (hn2 : p.length = n2) (hm : n ≤ maxLen) (hm2 : n2 ≤ maxLen) (H : RowsAt w a M) (H2 : RowsAt w a2 p) (hP : picsB M p = true) (hE : 1 ≤ E) (hE2 : E ≤ 60) :
    Calls Try.prog 53 #[.slice a n cap, .slice a2 n2 cap2, .int .i64 E, .int .i64 k] w fun e w' => e = .returned (.bool (rightF M p E k)) ∧ Below w.heap.size w w' := by
  have heq := fun (w : World) (a : Option Addr) (n c : Nat) => Lib.run_eql_slice_nil (P := Try.prog) w 25 3 a n c 0 0 Try.underlying25
  obtain ⟨hM, hp1, hp60, hpp⟩ := picsB_ok hP
  obtain ⟨wz, hz⟩ : ∃ wz, wz = (w.alloc (.cells #[.slice a2 n2 cap2] 22)).alloc (.cells #[.bool false] 4) := ⟨_, rfl⟩
  have hbz : Below w.heap.size w wz := by rw [hz]; exact ((Below.refl _ _).alloc (Nat.le_refl _) _).alloc (by simp) _
  have b1 : Boxed wz w.heap.size 22 (.slice a2 n2 cap2) := by rw [hz]; exact (Boxed.new w _ _).alloc _
  have b2 : Boxed wz (w.heap.size + 1) 4 (.bool false) := by rw [hz]; have := Boxed.new (w.alloc (.cells #[.slice a2 n2 cap2] 22)) 4 (.bool false); simpa using this
  have hsz : wz.heap.size = w.heap.size + 2 := by rw [hz]; simp
  have HZ := hid hz
  have HEN := hid (encode_c wz a a2 n cap n2 cap2 M p E hn hn2 hm (H.below hbz) (H2.below hbz) hP hE hE2)
  have HH := hid H
  have HH2 := hid H2
  have HB := hid hbz
  have B1 := hid b1
  have B2 := hid b2
  have HSZ := hid hsz
  have HPO := hid hP
  have HN2 := hid hn2
  have HN := hid hn
  have hc1 := b1.cell
  have hn60 : n2 ≤ 60 := by rw [← hn2]; exact hp60
  clear hn hn2 hm H H2 hP hpp hbz b1 b2 hz hsz
  refine callsIn_wide (n := 0) |>.1 ?_
  refine callsIn_of_wp_marks Try.func53 rfl trivial ?_ rfl
  simp only [Try.ntmps53, List.size_toArray, List.length_cons, List.length_nil, Nat.reduceAdd, Nat.reduceSub, Array.replicate_succ, Array.replicate_zero, List.push_toArray, List.append_toArray, List.nil_append, List.cons_append]
  gi_wp2_with fail
  rw [← HZ.out]
  gi_wp2_with (refine ⟨trivial, rfl, ?_⟩; gi_at_call 32; refine (callsIn_wide.2 HEN.out).mono ?_; rintro e w1 ⟨v1, rfl, ho1, hb1⟩; refine Stop.of ?_)
  refine Stop.go ?_
  obtain ⟨fa, fc, rfl, hfm, hfr⟩ := ho1.reads
  have HFR := hid hfr
  have HB1 := hid hb1
  clear ho1 hb1 hfr HEN
  gi_wp2_with (refine ⟨trivial, rfl, ?_⟩; gi_at_call 70; refine (callsIn_wide.2 (decoded_c _ _ _ _ _ _ _ _)).mono ?_; rintro e w' ⟨rfl, rfl⟩; refine Stop.of ?_)
  refine Stop.go ?_
  obtain ⟨F, hF⟩ : ∃ F, F = encF M p E := ⟨_, rfl⟩
  have hFl : (encF M p E).length = n2 := by rw [encF_len, HN2.out]
  have HVF := hid (show ∀ f ∈ F, frB M f = true from by
    have := encF_valid HPO.out E
    unfold validB at this
    simp only [Bool.and_eq_true, List.all_eq_true] at this
    rw [hF]; exact this.2)
  have hRF : rightF M p E k = (List.range n2).all fun j => decide (decAt M k F (j + 1) = some (p[j]?.getD [])) := by unfold rightF; rw [hF, HN2.out]
  rw [hFl]
  rw [← hF] at HFR hFl
  obtain ⟨w3, hw3⟩ : ∃ w3, w3 = ((w1.alloc (.cells #[.slice a n cap] 23)).alloc (.cells #[.slice fa n2 fc] 24)).alloc (.cells #[.int .i64 k] 3) := ⟨_, rfl⟩
  have c1 : Boxed w3 w1.heap.size 23 (.slice a n cap) := by rw [hw3]; exact ((Boxed.new w1 _ _).alloc _).alloc _
  have c2 : Boxed w3 (w1.heap.size + 1) 24 (.slice fa n2 fc) := by rw [hw3]; have := (Boxed.new (w1.alloc (.cells #[.slice a n cap] 23)) 24 (.slice fa n2 fc)).alloc (.cells #[.int .i64 k] 3); simpa using this
  have c3 : Boxed w3 (w1.heap.size + 2) 3 (.int .i64 k) := by rw [hw3]; have := Boxed.new ((w1.alloc (.cells #[.slice a n cap] 23)).alloc (.cells #[.slice fa n2 fc] 24)) 3 (.int .i64 k); simpa using this
  have hs3 : w3.heap.size = w1.heap.size + 3 := by rw [hw3]; simp
  have hb3 : Below w1.heap.size w1 w3 := by rw [hw3]; exact (((Below.refl _ _).alloc (Nat.le_refl _) _).alloc (by simp) _).alloc (by simp; omega) _
  rw [← hw3]
  have hzs := HSZ.out
  have h1s := HB1.out.size
  have hbx : Boxed w1 (w.heap.size + 1) 4 (.bool false) := (HB1.out.block _ (by omega)).trans B2.out
  have hbx3 : Boxed w3 (w.heap.size + 1) 4 (.bool false) := (hb3.block _ (by omega)).trans hbx
  have hpx3 : Boxed w3 w.heap.size 22 (.slice a2 n2 cap2) := (hb3.block _ (by omega)).trans ((HB1.out.block _ (by omega)).trans B1.out)
  have hB3 : Below w.heap.size w w3 := chain (chain HB.out HB1.out) hb3
  obtain ⟨fp, hfp⟩ : ∃ fp : Nat → Prop, fp = fun q => q < w3.heap.size ∧ q ≠ w.heap.size + 1 := ⟨_, rfl⟩
  have HIT := hid (dec_iter w3 fp (w1.heap.size + 1) w1.heap.size (w1.heap.size + 2) a fa n cap n2 fc M F k HN.out hM hFl (by omega) HVF.out (by rw [hfp]; exact fun q h => h.1)
    (fun X hX hq => by
      rw [hfp] at hq
      refine ⟨⟨RowsAt.blk HH.out fun q hlt => (hq q ⟨by omega, by omega⟩).trans (hB3.block q hlt), ?_⟩, cell_blk c2.cell (hq _ ⟨by omega, by omega⟩), cell_blk c1.cell (hq _ ⟨by omega, by omega⟩), cell_blk c3.cell (hq _ ⟨by omega, by omega⟩)⟩
      exact (FramesAt.ex HFR.out hbx fun q hlt hne => (hq q ⟨by omega, hne⟩).trans (hb3.block q hlt))))
  have HFP := hid hfp
  have HBX3 := hid hbx3
  have HPX3 := hid hpx3
  have HB3 := hid hB3
  have HS3 := hid hs3
  have HRF := hid hRF
  clear hfp hbx hbx3 hpx3 hB3 hs3 hRF hFl hF c1 c2 c3 hw3 hb3 hc1 HFR
  gi_wp2
  refine range_p (gf := 83) (lb := #[.pointer (some ⟨w1.heap.size + 1, 0, none⟩), .pointer (some ⟨w1.heap.size, 0, none⟩), .pointer (some ⟨w1.heap.size + 2, 0, none⟩)]) (xs := List.range n2) (fp := fp) (V := DecV M k F) rfl (enters_of Try.func83 (by kernel_rfl) rfl)
    HIT.out (Below.refl _ _) (by rw [HFP.out]; exact fun q h => h.1)
    (fun Sr pre Z => Keep (fun q => q < w3.heap.size) w3 Z ∧ ∀ j ∈ pre, decAt M k F (j + 1) = some (p[j]?.getD []))
    (fun Sr c pre Z => c = .ret ∧ Keep (fun q => q < w3.heap.size ∧ q ≠ w.heap.size + 1) w3 Z ∧ Boxed Z (w.heap.size + 1) 4 (.bool false) ∧ rightF M p E k = false) ?hI ?hIx ?hV ?h0
    (fun v u a' Z => a' = { tmps := #[.slice a n cap, .slice a2 n2 cap2, .int .i64 E, .int .i64 k, undef, .pointer (some ⟨w.heap.size, 0, none⟩), undef, undef, .pointer (some ⟨w.heap.size + 1, 0, none⟩), v, u, .slice a n cap, .slice a n cap, .slice a2 n2 cap2, .int .i64 E, .slice fa n2 fc, .int .i64 k, .func (.func 83) #[] #[.pointer (some ⟨w1.heap.size + 1, 0, none⟩), .pointer (some ⟨w1.heap.size, 0, none⟩), .pointer (some ⟨w1.heap.size + 2, 0, none⟩)], v, u, undef, undef, undef, undef, undef, undef, undef, undef, undef, undef, undef], defers := [] }) ?hAx ?hassign ?hbody ?hdone ?hstop
  case hI =>
    rintro Sr Sr' s A B ⟨h1, h2⟩ _ _ h3 h4 hk
    exact ⟨h1.trans (hk.mono fun q hq => ⟨by omega, by omega, fun hs => by have := h3 q hs; omega⟩), h2⟩
  case hIx =>
    rintro Sr Sr' c s A B ⟨h1, h2, h5, h6⟩ _ _ h3 h4 hk
    have hs := HS3.out
    exact ⟨h1, h2.trans (hk.mono fun q hq => ⟨by omega, by omega, fun hs => by have := h3 q hs; omega⟩), (hk.block _ h5.lt ⟨by omega, by omega, fun hs => by have := h3 _ hs; omega⟩).trans h5, h6⟩
  case hV =>
    intro Sr x v u A B hv hk
    exact hv.keep hk (fun q hq => ⟨by omega, by omega⟩)
  case h0 =>
    intro Z hk hZ
    exact ⟨hk, fun j hj => by simp at hj⟩
  case hAx =>
    intro v u a' A B h _
    exact h
  case hassign =>
    rintro l Sr x v u Z K hZ hv hK
    gi_wp2
    exact hK _ _ (Below.refl _ _) rfl
  case hbody =>
    rintro l' Sr pre j _ u _ Z hpre hSr ⟨hk, hg⟩ ⟨rfl, ho⟩ rfl hZ hDo hLo
    have hj : j < n2 := List.mem_range.1 (hpre.subset (List.mem_append_right _ (List.mem_singleton.2 rfl)))
    have hs3 := HS3.out
    have hks : ∀ q, q < w.heap.size → Z.heap[q]? = w.heap[q]? := fun q hq => (hk.block q (by omega) (by show q < w3.heap.size; omega)).trans (HB3.out.block q hq)
    obtain ⟨pb, po, ya, yn, yc, rfl, hpb, hpc, hyn, hym, hyi⟩ := (RowsAt.blk HH2.out hks) j (by rw [HN2.out]; exact hj)
    have hbc := (show Boxed Z w.heap.size 22 (.slice (some ⟨pb, po, none⟩) n2 cap2) from (hk.block _ HPX3.out.lt (by show w.heap.size < w3.heap.size; omega)).trans HPX3.out).cell
    have hrb : Boxed Z (w.heap.size + 1) 4 (.bool false) := (hk.block _ HBX3.out.lt (by show w.heap.size + 1 < w3.heap.size; omega)).trans HBX3.out
    have hyv : p[j]?.getD [] = p[j]'(by rw [HN2.out]; exact hj) := by rw [List.getElem?_eq_getElem (by rw [HN2.out]; exact hj)]; rfl
    obtain ⟨y, hy⟩ : ∃ y, y = p[j]'(by rw [HN2.out]; exact hj) := ⟨_, rfl⟩
    rw [← hy] at hyn hyi hyv
    have hrc := hrb.cell
    have hrf := hrb.frozen
    have hrl := hrb.lt
    have HBAD := hid (show decAt M k F (j + 1) ≠ some y → rightF M p E k = false from fun h => by
      rw [HRF.out, List.all_eq_false]
      exact ⟨j, List.mem_range.2 hj, by rw [hyv]; simpa using h⟩)
    have HSET := hid (show ∀ X : World, Keep (fun _ => True) Z X → (Z.heap.size ≤ (X.setCell ⟨w.heap.size + 1, 0, none⟩ (.bool false)).heap.size ∧ (∀ q, (fp q ∨ q = w3.heap.size ∨ q = w3.heap.size + 1 ∨ Sr q) → (X.setCell ⟨w.heap.size + 1, 0, none⟩ (.bool false)).heap[q]? = Z.heap[q]?) ∧ Keep (fun q => q < w3.heap.size ∧ q ≠ w.heap.size + 1) w3 (X.setCell ⟨w.heap.size + 1, 0, none⟩ (.bool false)) ∧ Boxed (X.setCell ⟨w.heap.size + 1, 0, none⟩ (.bool false)) (w.heap.size + 1) 4 (.bool false)) from fun X hX => by
      have hst := Keep.set X (w.heap.size + 1) 0 (.bool false)
      refine ⟨Nat.le_trans hX.size hst.size, fun q hq => ?_, (hk.mono fun q h => h.1).trans ((hX.mono fun _ _ => trivial).trans (hst.mono fun q h => h.2)), Boxed.set _ ((hX.block _ hrl trivial).trans hrb)⟩
      have hq2 : q ≠ w.heap.size + 1 ∧ q < Z.heap.size := by
        rcases hq with h | h | h | h
        · rw [HFP.out] at h; exact ⟨h.2, by have := h.1; omega⟩
        · omega
        · omega
        · have := hSr q h; omega
      exact (hst.block q (Nat.lt_of_lt_of_le hq2.2 hX.size) hq2.1).trans (hX.block q hq2.2 trivial))
    have HG := hid hg
    have HK := hid hk
    have HSR := hid hSr
    have hj0 : (0 : Int) ≤ (j : Int) := by omega
    have hj1 : (j : Int) < (n2 : Int) := by omega
    rcases ho with ⟨hno, rfl⟩ | ⟨x, b, c, hx, rfl, hxb, hxS, hxs, hx1, hxm⟩
    · have hbad := HBAD.out (by rw [hno]; simp)
      have HBD := hid hbad
      clear hks hyn hym hyi hyv hy hno hbad hg hk hrb hSr hpb hDo hLo
      gi_wp2
      refine ⟨trivial, ?_⟩
      gi_wp2
      obtain ⟨s1, s2, s3, s4⟩ := HSET.out Z (Keep.refl _ _)
      exact ⟨s1, s2, rfl, s3, s4, HBD.out⟩
    · have HEQ := hid (equalI_c Z (some ⟨b, 0, none⟩) ya x.length c yn yc x y rfl hyn hxm hym hxs.ints hyi)
      by_cases hxy : x = y
      · rw [decide_eq_true hxy] at HEQ
        have hgood : decAt M k F (j + 1) = some (p[j]?.getD []) := by rw [hx, hxy, hyv]
        have HGO := hid hgood
        clear hks hyn hym hyi hyv hy hgood hg hk hrb hSr hpb hDo hLo hx hxb hxS hxs hx1 hxm hxy
        gi_wp2_with (refine ⟨trivial, rfl, ?_⟩; gi_at_call 74; refine (CallsIn.inRound l' (callsIn_wide.2 HEQ.out)).mono ?_; rintro e w4 ⟨rfl, q4, rfl⟩)
        refine ⟨Nat.le_refl _, fun _ _ => rfl, HK.out.trans ((Keep.refl _ _).drewN _), fun i hi => ?_⟩
        rcases List.mem_append.1 hi with h | h
        · exact HG.out i h
        · rw [List.mem_singleton.1 h]; exact HGO.out
      · rw [decide_eq_false hxy] at HEQ
        have hbad := HBAD.out (by rw [hx]; intro h; cases h; exact hxy rfl)
        have HBD := hid hbad
        have hrcN : ∀ q, (Z.drewN q).cell? ⟨w.heap.size + 1, 0, none⟩ = some (.bool false) := fun q => hrc
        clear hks hyn hym hyi hyv hy hbad hg hk hrb hSr hpb hDo hLo hx hxb hxS hxs hx1 hxm hxy
        gi_wp2_with (refine ⟨trivial, rfl, ?_⟩; gi_at_call 74; refine (CallsIn.inRound l' (callsIn_wide.2 HEQ.out)).mono ?_; rintro e w4 ⟨rfl, q4, rfl⟩)
        obtain ⟨s1, s2, s3, s4⟩ := HSET.out (Z.drewN q4) ((Keep.refl _ _).drewN _)
        exact ⟨s1, s2, rfl, s3, s4, HBD.out⟩
  case hdone =>
    rintro Sr Z hZ hSr ⟨hk, hg⟩ hmk
    have hs3 := HS3.out
    have hrt : rightF M p E k = true := by
      rw [HRF.out, List.all_eq_true]
      intro j hj
      simpa using hg j hj
    have hrb : Boxed Z (w.heap.size + 1) 4 (.bool false) := (hk.block _ HBX3.out.lt (by show w.heap.size + 1 < w3.heap.size; omega)).trans HBX3.out
    have hrc := hrb.cell
    have hrf := hrb.frozen
    have hrl := hrb.lt
    have hbZ : Below w.heap.size w Z := hk.below HB3.out HB3.out.size (fun q hq => by show q < w3.heap.size; have := HB3.out.size; omega)
    have hset : Below w.heap.size w (Z.setCell ⟨w.heap.size + 1, 0, none⟩ (.bool true)) := below_set hbZ (by omega) _ _
    have hbs : Boxed (Z.setCell ⟨w.heap.size + 1, 0, none⟩ (.bool true)) (w.heap.size + 1) 4 (.bool true) := Boxed.set _ hrb
    have hmk2 : (Z.setCell ⟨w.heap.size + 1, 0, none⟩ (.bool true)).heap[w3.heap.size]? = some (.deferred (some [])) := (Below.heap_setCell _ _ _ _ (by show w3.heap.size ≠ w.heap.size + 1; omega)).trans hmk
    have HSET := hid hset
    have HBS := hid hbs
    have HMK := hid hmk2
    clear hg hk hmk hSr hrb hbZ hset hbs hmk2
    gi_wp2
    refine marks_leave [w3.heap.size] _ (by simp) (fun h hh => by rw [List.mem_singleton.1 hh]; exact HMK.out) fun w' hk' => ?_
    have hne : w.heap.size + 1 ∉ [w3.heap.size] := fun hh => by rw [List.mem_singleton] at hh; omega
    have hbw : Boxed w' (w.heap.size + 1) 4 (.bool true) := (hk'.block _ HBS.out.lt hne).trans HBS.out
    have hbc := hbw.cell
    have hfin : Below w.heap.size w w' := hk'.below HSET.out HSET.out.size (fun q hq hh => by rw [List.mem_singleton.1 hh] at hq; omega)
    refine ⟨.bool true, ?_, by rw [hrt], hfin⟩
    simp [results, Try.results53, go_sem, hbc]
  case hstop =>
    rintro Sr c pre Z hpre hSr ⟨rfl, hk, hbx, hR⟩ hmk
    have hs3 := HS3.out
    have hbZ : Below w.heap.size w Z := hk.below HB3.out HB3.out.size (fun q hq => by show q < w3.heap.size ∧ q ≠ w.heap.size + 1; have := HB3.out.size; omega)
    have HBX := hid hbx
    have HBZ := hid hbZ
    have HMK := hid hmk
    clear hk hbx hbZ hmk hSr hpre
    gi_wp2
    refine marks_leave [w3.heap.size] _ (by simp) (fun h hh => by rw [List.mem_singleton.1 hh]; exact HMK.out) fun w' hk' => ?_
    have hne : w.heap.size + 1 ∉ [w3.heap.size] := fun hh => by rw [List.mem_singleton] at hh; omega
    have hbw : Boxed w' (w.heap.size + 1) 4 (.bool false) := (hk'.block _ HBX.out.lt hne).trans HBX.out
    have hbc := hbw.cell
    have hfin : Below w.heap.size w w' := hk'.below HBZ.out HBZ.out.size (fun q hq hh => by rw [List.mem_singleton.1 hh] at hq; omega)
    refine ⟨.bool false, ?_, by rw [hR], hfin⟩
    simp [results, Try.results53, go_sem, hbc]
end Go.Proofs.Ytkmjeegnijohmaa

namespace Go.Proofs.Ytkmjeegnijohmaa
open Go.RowKit
set_option linter.unusedVariables false

def sentE (M : Mask) (p : List (List Int)) (every trust : Int) : Int := if picsB M p = true then (if inB every 1 60 = true ∧ inB trust 0 (colsM M) = true then 0 else 7) else 1
def sentB (M : Mask) (p : List (List Int)) (every trust : Int) : Bool := decide (sentE M p every trust = 0) && rightF M p every.toNat trust

set_option maxHeartbeats 800000 in
theorem sSent_c (w : World) (a a2 : Option Addr) (n cap n2 cap2 : Nat) (M : Mask) (p : List (List Int)) (every trust : Int) (hn : M.length = n) (hm : n ≤ maxLen) (H : RowsAt w a M) (hn2 : p.length = n2) (hm2 : n2 ≤ maxLen) (H2 : RowsAt w a2 p) :
    Calls Try.prog 30 #[.slice a n cap, .slice a2 n2 cap2, .int .i64 every, .int .i64 trust] w fun e w' => e = .returned (.tuple #[.bool (sentB M p every trust), .int .i64 (sentE M p every trust)]) ∧ Below w.heap.size w w' := by
  have HV := hid (validPics_c w a n cap M hn hm H a2 n2 cap2 p hn2 hm2 H2)
  cases hP : picsB M p
  · have he : sentE M p every trust = 1 := by unfold sentE; rw [hP]; rfl
    have hb : sentB M p every trust = false := by unfold sentB; rw [he]; rfl
    rw [hP] at HV
    rw [he, hb]
    clear hn H hn2 H2 hP he hb
    go_enter Try.func30, Try.ntmps30
    go_wp2_with (go_at_call 16; refine HV.out.mono ?_; rintro e w1 ⟨rfl, hb1⟩)
    go_ret2
    exact ⟨rfl, hb1⟩
  · obtain ⟨hM, hp1, hp60, hpp⟩ := picsB_ok hP
    obtain ⟨_, h1, h6, hc1, hc10⟩ := okM_ok hM
    obtain ⟨b, off, ra, rc, rfl, hb, hc⟩ := rows_head H (by omega)
    have i0 : (0 : Int) < (n : Int) := by omega
    have HC0 := hid (show ∀ X : World, Below w.heap.size w X → X.cell? ⟨b, off, none⟩ = some (.slice ra (colsM M) rc) from fun X hX => (hX.cell (p := ⟨b, off, none⟩) hb).trans hc)
    have HW := hid (fun X => swithin_c every 1 60 X)
    have HT := hid (fun X => swithin_c trust 0 (colsM M) X)
    have HE := hid (show sentE M p every trust = if inB every 1 60 = true ∧ inB trust 0 (colsM M) = true then 0 else 7 by unfold sentE; rw [hP]; rfl)
    rw [hP] at HV
    cases hE : inB every 1 60
    · have he : sentE M p every trust = 7 := by rw [HE.out, hE]; rfl
      have hb : sentB M p every trust = false := by unfold sentB; rw [he]; rfl
      rw [hE] at HW
      rw [he, hb]
      clear hn H hn2 H2 hP he hb hE hc hpp hM
      go_enter Try.func30, Try.ntmps30
      go_wp2_with first
        | (go_at_call 16; refine HV.out.mono ?_; rintro e w1 ⟨rfl, hb1⟩)
        | (go_at_call 31; refine (HW.out _).mono ?_; rintro e w2 ⟨rfl, rfl⟩)
      go_ret2
      exact ⟨rfl, hb1⟩
    · rw [hE] at HW
      cases hT : inB trust 0 (colsM M)
      · have he : sentE M p every trust = 7 := by rw [HE.out, hE, hT]; rfl
        have hb : sentB M p every trust = false := by unfold sentB; rw [he]; rfl
        rw [he, hb]
        obtain ⟨W, hW⟩ : ∃ W, W = colsM M := ⟨_, rfl⟩
        rw [← hW] at hT HC0
        clear hn H hn2 H2 hP he hb hc hpp hM hW HT HW
        go_enter Try.func30, Try.ntmps30
        go_wp2_with first
          | (go_at_call 16; refine HV.out.mono ?_; rintro e w1 ⟨rfl, hb1⟩; have hc1' := HC0.out w1 hb1)
          | (go_at_call 31; refine (swithin_c _ _ _ _).mono ?_; rintro e w2 ⟨rfl, rfl⟩)
        go_ret2
        exact ⟨rfl, hb1⟩
      · have he : sentE M p every trust = 0 := by rw [HE.out, hE, hT]; rfl
        have hb : sentB M p every trust = rightF M p every.toNat trust := by unfold sentB; rw [he]; rfl
        have hE' : 1 ≤ every ∧ every ≤ 60 := by unfold inB at hE; simpa using hE
        obtain ⟨E, rfl⟩ : ∃ E : Nat, every = (E : Int) := ⟨every.toNat, by omega⟩
        have HR := hid (fun (X : World) (hX : Below w.heap.size w X) => right_c X (some ⟨b, off, none⟩) a2 n cap n2 cap2 M p E trust hn hn2 hm hm2 (H.below hX) (H2.below hX) hP (by omega) (by omega))
        rw [he, hb, Int.toNat_natCast]
        obtain ⟨W, hW⟩ : ∃ W, W = colsM M := ⟨_, rfl⟩
        rw [← hW] at hT HC0
        clear hn H hn2 H2 hP he hb hc hpp hM hW hE' HT HW
        go_enter Try.func30, Try.ntmps30
        go_wp2_with first
          | (go_at_call 16; refine HV.out.mono ?_; rintro e w1 ⟨rfl, hb1⟩; have hc1' := HC0.out w1 hb1)
          | (go_at_call 31; refine (swithin_c _ _ _ _).mono ?_; rintro e w2 ⟨rfl, rfl⟩)
          | (go_at_call 53; refine (HR.out _ hb1).mono ?_; rintro e w3 ⟨rfl, hb3⟩)
        go_ret2
        exact ⟨rfl, chain hb1 hb3⟩

def awM : Mask := [[1, 1, 0], [0, 1, 1]]
def awP : List (List Int) := [[0, 0, 0], [0, 5, 0], [0, 5, 2]]
theorem aw_enc : encE awM awP 3 = 0 ∧ encF awM awP (Int.toNat 3) = [(true, [0, 0, 0]), (false, [5, 5]), (false, [0, 2])] := ⟨by kernel_rfl, by kernel_rfl⟩
theorem aw_sent : sentE awM awP 3 1 = 0 ∧ sentB awM awP 3 1 = true := ⟨by kernel_rfl, by kernel_rfl⟩
theorem ints_lit3 (w : World) (x y z : Int) (T : TypeId) : IntsAt (w.alloc (.cells #[.int .i64 x, .int .i64 y, .int .i64 z] T)) (some ⟨w.heap.size, 0, none⟩) [x, y, z] := fun j hj => ⟨w.heap.size, 0, rfl, by simp, by
  rw [World.cell?_alloc_at _ _ _ _ rfl]
  match j, hj with
  | 0, _ => rfl
  | 1, _ => rfl
  | 2, _ => rfl⟩
theorem ints_lit2 (w : World) (x y : Int) (T : TypeId) : IntsAt (w.alloc (.cells #[.int .i64 x, .int .i64 y] T)) (some ⟨w.heap.size, 0, none⟩) [x, y] := fun j hj => ⟨w.heap.size, 0, rfl, by simp, by
  rw [World.cell?_alloc_at _ _ _ _ rfl]
  match j, hj with
  | 0, _ => rfl
  | 1, _ => rfl⟩
theorem rows_three {w : World} {a1 a2 a3 : Option Addr} {n1 c1 n2 c2 n3 c3 : Nat} {x y z : List Int} (T : TypeId) (h1 : x.length = n1) (h2 : y.length = n2) (h3 : z.length = n3) (m1 : n1 ≤ maxLen) (m2 : n2 ≤ maxLen) (m3 : n3 ≤ maxLen) (H1 : IntsAt w a1 x) (H2 : IntsAt w a2 y) (H3 : IntsAt w a3 z) :
    RowsAt (w.alloc (.cells #[.slice a1 n1 c1, .slice a2 n2 c2, .slice a3 n3 c3] T)) (some ⟨w.heap.size, 0, none⟩) [x, y, z] := by
  have hb : Below w.heap.size w (w.alloc (.cells #[.slice a1 n1 c1, .slice a2 n2 c2, .slice a3 n3 c3] T)) := (Below.refl _ _).alloc (Nat.le_refl _) _
  intro j hj
  match j, hj with
  | 0, _ => exact ⟨w.heap.size, 0, a1, n1, c1, rfl, by simp, by rw [World.cell?_alloc_at _ _ _ _ rfl]; rfl, h1, m1, H1.below hb⟩
  | 1, _ => exact ⟨w.heap.size, 0, a2, n2, c2, rfl, by simp, by rw [World.cell?_alloc_at _ _ _ _ rfl]; rfl, h2, m2, H2.below hb⟩
  | 2, _ => exact ⟨w.heap.size, 0, a3, n3, c3, rfl, by simp, by rw [World.cell?_alloc_at _ _ _ _ rfl]; rfl, h3, m3, H3.below hb⟩

theorem awM_rows (w : World) : let W := ((w.alloc (.cells #[.int .i64 1, .int .i64 1, .int .i64 0] 3)).alloc (.cells #[.int .i64 0, .int .i64 1, .int .i64 1] 3)).alloc (.cells #[.slice (some ⟨w.heap.size, 0, none⟩) 3 3, .slice (some ⟨w.heap.size + 1, 0, none⟩) 3 3] 25)
    RowsAt W (some ⟨w.heap.size + 2, 0, none⟩) awM ∧ Below w.heap.size w W ∧ W.heap.size = w.heap.size + 3 := by
  have i1 := ints_lit3 w 1 1 0 3
  have i2 := ints_lit3 (w.alloc (.cells #[.int .i64 1, .int .i64 1, .int .i64 0] 3)) 0 1 1 3
  have b2 : ∀ o, Below (w.alloc (.cells #[.int .i64 1, .int .i64 1, .int .i64 0] 3)).heap.size (w.alloc (.cells #[.int .i64 1, .int .i64 1, .int .i64 0] 3)) ((w.alloc (.cells #[.int .i64 1, .int .i64 1, .int .i64 0] 3)).alloc o) := fun o => (Below.refl _ _).alloc (Nat.le_refl _) _
  have h := rows_two (c1 := 3) (c2 := 3) 25 rfl rfl (by decide) (by decide) (i1.below (b2 _)) i2
  simp only [World.size_alloc] at h
  exact ⟨h, ((((Below.refl _ _).alloc (Nat.le_refl _) _).alloc (by simp) _).alloc (by simp; omega) _), by simp⟩
theorem awP_rows (w : World) : let W := (((w.alloc (.cells #[.int .i64 0, .int .i64 0, .int .i64 0] 3)).alloc (.cells #[.int .i64 0, .int .i64 5, .int .i64 0] 3)).alloc (.cells #[.int .i64 0, .int .i64 5, .int .i64 2] 3)).alloc (.cells #[.slice (some ⟨w.heap.size, 0, none⟩) 3 3, .slice (some ⟨w.heap.size + 1, 0, none⟩) 3 3, .slice (some ⟨w.heap.size + 2, 0, none⟩) 3 3] 25)
    RowsAt W (some ⟨w.heap.size + 3, 0, none⟩) awP ∧ Below w.heap.size w W ∧ W.heap.size = w.heap.size + 4 := by
  obtain ⟨w1, hw1⟩ : ∃ w1, w1 = w.alloc (.cells #[.int .i64 0, .int .i64 0, .int .i64 0] 3) := ⟨_, rfl⟩
  have i1 := ints_lit3 w 0 0 0 3
  rw [← hw1] at i1 ⊢
  have i2 := ints_lit3 w1 0 5 0 3
  have s1 : w1.heap.size = w.heap.size + 1 := by rw [hw1]; simp
  obtain ⟨w2, hw2⟩ : ∃ w2, w2 = w1.alloc (.cells #[.int .i64 0, .int .i64 5, .int .i64 0] 3) := ⟨_, rfl⟩
  rw [← hw2] at i2 ⊢
  have b1 : Below w.heap.size w w1 := by rw [hw1]; exact (Below.refl _ _).alloc (Nat.le_refl _) _
  have b2 : Below w1.heap.size w1 w2 := by rw [hw2]; exact (Below.refl _ _).alloc (Nat.le_refl _) _
  have s2 : w2.heap.size = w.heap.size + 2 := by rw [hw2]; simp [s1]
  have i3 := ints_lit3 w2 0 5 2 3
  obtain ⟨w3, hw3⟩ : ∃ w3, w3 = w2.alloc (.cells #[.int .i64 0, .int .i64 5, .int .i64 2] 3) := ⟨_, rfl⟩
  rw [← hw3] at i3 ⊢
  have b3 : Below w2.heap.size w2 w3 := by rw [hw3]; exact (Below.refl _ _).alloc (Nat.le_refl _) _
  have s3 : w3.heap.size = w.heap.size + 3 := by rw [hw3]; simp [s2]
  rw [s1] at i2
  rw [s2] at i3
  have h := rows_three (c1 := 3) (c2 := 3) (c3 := 3) 25 rfl rfl rfl (by decide) (by decide) (by decide) ((i1.below b2).below b3) (i2.below b3) i3
  rw [s3] at h
  exact ⟨h, (chain (chain b1 b2) b3).alloc (by omega) _, by simp [s3]⟩

theorem awake8_c (w : World) : Calls Try.prog 9 #[] w fun e w' => e = .returned (.bool true) ∧ Below w.heap.size w w' := by
  obtain ⟨hM, hbA, hsA⟩ := awM_rows w
  obtain ⟨wA, hA⟩ : ∃ wA, wA = ((w.alloc (.cells #[.int .i64 1, .int .i64 1, .int .i64 0] 3)).alloc (.cells #[.int .i64 0, .int .i64 1, .int .i64 1] 3)).alloc (.cells #[.slice (some ⟨w.heap.size, 0, none⟩) 3 3, .slice (some ⟨w.heap.size + 1, 0, none⟩) 3 3] 25) := ⟨_, rfl⟩
  rw [← hA] at hM hbA hsA
  obtain ⟨hP, hbB, hsB⟩ := awP_rows wA
  obtain ⟨wB, hB⟩ : ∃ wB, wB = (((wA.alloc (.cells #[.int .i64 0, .int .i64 0, .int .i64 0] 3)).alloc (.cells #[.int .i64 0, .int .i64 5, .int .i64 0] 3)).alloc (.cells #[.int .i64 0, .int .i64 5, .int .i64 2] 3)).alloc (.cells #[.slice (some ⟨wA.heap.size, 0, none⟩) 3 3, .slice (some ⟨wA.heap.size + 1, 0, none⟩) 3 3, .slice (some ⟨wA.heap.size + 2, 0, none⟩) 3 3] 25) := ⟨_, rfl⟩
  rw [← hB] at hP hbB hsB
  have hMB := hM.below hbB
  have hbW := chain hbA hbB
  have hEN := sEncode_c wB (some ⟨w.heap.size + 2, 0, none⟩) (some ⟨wA.heap.size + 3, 0, none⟩) 2 2 3 3 awM awP 3 rfl (by decide) hMB rfl (by decide) hP
  rw [hsA] at hEN
  have HSE := hid (fun (X : World) (hX : Below wB.heap.size wB X) => sSent_c X (some ⟨w.heap.size + 2, 0, none⟩) (some ⟨wA.heap.size + 3, 0, none⟩) 2 2 3 3 awM awP 3 1 rfl (by decide) (hMB.below hX) rfl (by decide) (hP.below hX))
  rw [aw_sent.1, aw_sent.2, hsA] at HSE
  rw [aw_enc.1, aw_enc.2] at hEN
  have HEN := hid hEN
  have HBW := hid hbW
  have HSB := hid hsB
  have HSA := hid hsA
  have hBB := hB
  rw [hA] at hBB
  simp only [World.size_alloc] at hBB
  have HB := hid hBB
  clear hM hbA hsA hP hbB hsB hMB hbW hEN hA hB hBB
  go_enter Try.func9, Try.ntmps9
  go_wp2_with fail
  rw [← HB.out]
  refine (show Calls Try.prog _ _ wB _ from HEN.out.mono ?_)
  rintro e w1 ⟨hb1, ⟨h, _⟩ | ⟨_, v, base, rfl, hbs, hO⟩⟩
  · exact absurd rfl h
  obtain ⟨fa, fc, rfl, hfm, hfr⟩ := hO.reads
  have HFR := hid hfr
  have HB1 := hid hb1
  clear hO hfr hfm hb1 HEN HB
  go_wp2_with (go_at_call 30; refine (HSE.out w1 HB1.out).mono ?_; rintro e w2 ⟨rfl, hb2⟩; refine Stop.of ?_)
  refine Stop.go ?_
  obtain ⟨fb, fo, ra, rn, rc, rfl, hfb, hf0, hf1, hrn, hrm, hri⟩ := (HFR.out.below hb2) 2 (by decide)
  have hrn2 : rn = 2 := hrn.symm
  subst hrn2
  have hB2 := chain HB1.out hb2
  have hb5 : Below w2.heap.size w2 (w2.alloc (.cells #[.int .i64 0, .int .i64 2] 3)) := (Below.refl _ _).alloc (Nat.le_refl _) _
  have HSI := hid (s8Ints_c (w2.alloc (.cells #[.int .i64 0, .int .i64 2] 3)) ra (some ⟨w2.heap.size, 0, none⟩) 2 rc 2 2 [0, 2] [0, 2] rfl rfl (by decide) (by decide) (hri.below hb5) (ints_lit2 w2 0 2 3))
  have hd : decide (([0, 2] : List Int) = [0, 2]) = true := by decide
  rw [hd] at HSI
  have HB5 := hid (chain HBW.out (chain hB2 hb5))
  clear hB2 hb5 hd hri hrn hb2
  go_wp2_with (go_at_call 21; refine HSI.out.mono ?_; rintro e w7 ⟨rfl, k7, rfl⟩)
  go_ret
  exact ⟨rfl, below_drewN HB5.out k7⟩
end Go.Proofs.Ytkmjeegnijohmaa

namespace Go.Proofs.Ytkmjeegnijohmaa
open Go.RowKit
set_option linter.unusedVariables false

theorem ints_nil {W : World} {a : Option Addr} : IntsAt W a [] := fun j hj => by simp at hj
theorem frames_nil {W : World} {a : Option Addr} : FramesAt W a [] := fun j hj => by simp at hj

theorem s8Ints_t (W : World) (a a2 : Option Addr) (n cap cap2 : Nat) (l : List Int) (hn : l.length = n) (hm : n ≤ maxLen) (H : IntsAt W a l) (H2 : IntsAt W a2 l) :
    Calls Try.prog 21 #[.slice a n cap, .slice a2 n cap2] W fun e w' => e = .returned (.bool true) ∧ Below W.heap.size W w' :=
  (s8Ints_c W a a2 n cap n cap2 l l hn hn hm hm H H2).mono fun e w' ⟨h1, k, h2⟩ => ⟨by rw [h1]; simp, by rw [h2]; exact below_drewN (Below.refl _ _) _⟩
theorem s8Frames_t (W : World) (a a2 : Option Addr) (n cap cap2 : Nat) (l : List Frm) (hn : l.length = n) (hm : n ≤ maxLen) (H : FramesAt W a l) (H2 : FramesAt W a2 l) :
    Calls Try.prog 20 #[.slice a n cap, .slice a2 n cap2] W fun e w' => e = .returned (.bool true) ∧ Below W.heap.size W w' :=
  (s8Frames_c W a a2 n cap n cap2 l l hn hn hm hm H H2).mono fun e w' ⟨h1, k, h2⟩ => ⟨by rw [h1]; simp, by rw [h2]; exact below_drewN (Below.refl _ _) _⟩
end Go.Proofs.Ytkmjeegnijohmaa

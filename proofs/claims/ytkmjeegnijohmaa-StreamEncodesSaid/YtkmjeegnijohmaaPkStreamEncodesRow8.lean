/- Walks and plain laws for StreamEncodesRow, part 8. -/
import Derived.ChangeOld
import Derived.Deep.Slices
import Derived.Lib.SmallJoins
import Derived.Test.YtkmjeegnijohmaaPkStreamEncodesRow7
namespace Go.Proofs.Ytkmjeegnijohmaa
open Go.RowKit
set_option linter.unusedVariables false

set_option maxRecDepth 100000 in
set_option maxHeartbeats 2000000 in
theorem r8frame_c (w : World) (kf : Bool) (a2 a : Option Addr) (n2 cap2 n cap : Nat) (M : Mask) (l : List Int) (hn : M.length = n) (h1 : 1 ≤ n) (H : RowsAt w a M) (hn2 : l.length = n2) (hm2 : n2 ≤ maxLen) (H2 : IntsAt w a2 l) :
    Calls Try.prog 46 #[.slice a n cap, .agg #[.bool kf, .slice a2 n2 cap2]] w fun e w' => e = .returned (.bool (frB M (kf, l))) ∧ Below w.heap.size w w' := by
  obtain ⟨b, off, ra, rc, rfl, hb, hc⟩ := rows_head H (by omega)
  have i0 : (0 : Int) < (n : Int) := by omega
  have hbz : ∀ o : Obj, Below w.heap.size w (w.alloc o) := fun o => (Below.refl _ _).alloc (Nat.le_refl _) _
  have hcz : ∀ o : Obj, (w.alloc o).cell? ⟨b, off, none⟩ = some (.slice ra (colsM M) rc) := fun o => ((hbz o).cell (p := ⟨b, off, none⟩) hb).trans hc
  have HLP := hid (fun (o : Obj) q => r8list_c ((w.alloc o).drewN q) a2 n2 cap2 l hn2 hm2 (H2.below (below_drewN (hbz o) q)) (colsM M) 1000 (by omega) (by omega))
  have HLR := hid (fun (o : Obj) q => r8list_c ((w.alloc o).drewN q) a2 n2 cap2 l hn2 hm2 (H2.below (below_drewN (hbz o) q)) n 1000000 (by omega) (by omega))
  have hp1 : listB l (colsM M) 1000 = picB M l := listB_pic
  have hp2 : listB l n 1000000 = readB M l := by
    unfold listB readB milB
    congr 1
    rw [Bool.eq_iff_iff]; simp; omega
  have hp : frB M (kf, l) = (decide (n2 = 0) || (kf && picB M l) || (!kf && readB M l)) := by unfold frB readB; rw [hn2]
  rw [hp]
  rw [hp1] at HLP
  rw [hp2] at HLR
  have hd : ((n2 : Int) == 0) = decide (n2 = 0) := by rw [Bool.eq_iff_iff]; simp
  obtain ⟨D, hD⟩ : ∃ D, D = decide (n2 = 0) := ⟨_, rfl⟩
  obtain ⟨A, hA⟩ : ∃ A, A = picB M l := ⟨_, rfl⟩
  obtain ⟨R, hR⟩ : ∃ R, R = readB M l := ⟨_, rfl⟩
  obtain ⟨W, hW⟩ : ∃ W, W = colsM M := ⟨_, rfl⟩
  rw [← hD] at hd
  rw [← hA, ← hW] at HLP
  rw [← hR] at HLR
  rw [← hW] at hcz
  rw [← hD, ← hA, ← hR]
  have HBZ := hid hbz
  clear hp hp1 hp2 hD hA hR hW hn hn2 H H2 hc hbz
  cases D
  rotate_left
  ·
    have hb0 := HBZ.out (.cells #[.bool kf, .slice a2 n2 cap2] 50)
    have hc0 := hcz (.cells #[.bool kf, .slice a2 n2 cap2] 50)
    have hw0 : (w.alloc (.cells #[.bool kf, .slice a2 n2 cap2] 50)).heap[w.heap.size]? = some (.cells #[.bool kf, .slice a2 n2 cap2] 50 (0, 0)) := World.alloc_heap_new _ _
    have HLP0 := hid (fun q => HLP.out (.cells #[.bool kf, .slice a2 n2 cap2] 50) q)
    have HLR0 := hid (fun q => HLR.out (.cells #[.bool kf, .slice a2 n2 cap2] 50) q)
    clear hcz HLP HLR
    have HB0 := hid hb0
    have HC0 := hid hc0
    have HW0 := hid hw0
    clear hb0 hc0 hw0
    go_enter Try.func46, Try.ntmps46
    go_wp2
    refine plain_region (fun j w' => decide (j < 30) = true → w' = (w.alloc (.cells #[.bool kf, .slice a2 n2 cap2] 50)).drew) (by kernel_rfl) ?_
    have hb0 : Below w.heap.size w (w.alloc (.cells #[.bool kf, .slice a2 n2 cap2] 50)).drew := HB0.out.drew
    have hc0 : (w.alloc (.cells #[.bool kf, .slice a2 n2 cap2] 50)).drew.cell? ⟨b, off, none⟩ = some (.slice ra W rc) := HC0.out
    have hw0 : (w.alloc (.cells #[.bool kf, .slice a2 n2 cap2] 50)).drew.heap[w.heap.size]? = some (.cells #[.bool kf, .slice a2 n2 cap2] 50 (0, 0)) := HW0.out
    have HLP1 := hid (HLP0.out 1)
    have HLR1 := hid (HLR0.out 1)
    have e1 : (w.alloc (.cells #[.bool kf, .slice a2 n2 cap2] 50)).drewN 1 = (w.alloc (.cells #[.bool kf, .slice a2 n2 cap2] 50)).drew := rfl
    rw [e1] at HLP1 HLR1
    clear HLP0 HLR0 HB0 HC0 HW0 e1
    generalize (w.alloc (.cells #[.bool kf, .slice a2 n2 cap2] 50)).drew = wd at hb0 hc0 hw0 HLP1 HLR1 ⊢
    obtain ⟨q0, q1, _, _, _⟩ := box2_facts hw0
    have HB0 := hid hb0
    clear hb0 hw0
    refine AnyT.takeD (i := 0) (v := .pointer (some ⟨w.heap.size, 1, none⟩)) rfl rfl (by kernel_rfl) (by kernel_rfl) (by kernel_rfl) (by first | exact (fun _ _ _ h => h) | exact (fun _ _ _ h => absurd h.1 (by simp))) (by kernel_rfl) (by rfl) (by rintro w' rfl; go_simp) rfl ?_; go_frame
    refine AnyT.takeD (i := 1) (v := .slice a2 n2 cap2) rfl rfl (by kernel_rfl) (by kernel_rfl) (by kernel_rfl) (by first | exact (fun _ _ _ h => h) | exact (fun _ _ _ h => absurd h.1 (by simp))) (by kernel_rfl) (by rfl) (by rintro w' rfl; go_simp) rfl ?_; go_frame
    refine AnyT.takeD (i := 2) (v := .int .i64 n2) rfl rfl (by kernel_rfl) (by kernel_rfl) (by kernel_rfl) (by first | exact (fun _ _ _ h => h) | exact (fun _ _ _ h => absurd h.1 (by simp))) (by kernel_rfl) (by rfl) (by rintro w' rfl; go_simp) rfl ?_; go_frame
    refine AnyT.takeD (i := 3) (v := .bool true) rfl rfl (by kernel_rfl) (by kernel_rfl) (by kernel_rfl) (by first | exact (fun _ _ _ h => h) | exact (fun _ _ _ h => absurd h.1 (by simp))) (by kernel_rfl) (by rfl) (by rintro w' rfl; go_simp) rfl ?_; go_frame
    refine AnyT.takeD (i := 4) (v := .bool true) rfl rfl (by kernel_rfl) (by kernel_rfl) (by kernel_rfl) (by first | exact (fun _ _ _ h => h) | exact (fun _ _ _ h => absurd h.1 (by simp))) (by kernel_rfl) (by rfl) (by rintro w' rfl; go_simp) rfl ?_; go_frame
    refine AnyT.takeDN (i := 5) rfl rfl (by kernel_rfl) (by kernel_rfl) (by kernel_rfl) (by first | exact (fun _ _ _ h => h) | exact (fun _ _ _ h => absurd h.1 (by simp))) (by kernel_rfl) (by rfl) rfl ?_; go_frame
    refine AnyT.takeDN (i := 6) rfl rfl (by kernel_rfl) (by kernel_rfl) (by kernel_rfl) (by first | exact (fun _ _ _ h => h) | exact (fun _ _ _ h => absurd h.1 (by simp))) (by kernel_rfl) (by rfl) rfl ?_; go_frame
    refine AnyT.takeDN (i := 7) rfl rfl (by kernel_rfl) (by kernel_rfl) (by kernel_rfl) (by first | exact (fun _ _ _ h => h) | exact (fun _ _ _ h => absurd h.1 (by simp))) (by kernel_rfl) (by rfl) rfl ?_; go_frame
    refine AnyT.takeDN (i := 8) rfl rfl (by kernel_rfl) (by kernel_rfl) (by kernel_rfl) (by first | exact (fun _ _ _ h => h) | exact (fun _ _ _ h => absurd h.1 (by simp))) (by kernel_rfl) (by rfl) rfl ?_; go_frame
    refine AnyT.takeDN (i := 9) rfl rfl (by kernel_rfl) (by kernel_rfl) (by kernel_rfl) (by first | exact (fun _ _ _ h => h) | exact (fun _ _ _ h => absurd h.1 (by simp))) (by kernel_rfl) (by rfl) rfl ?_; go_frame
    refine AnyT.takeDN (i := 10) rfl rfl (by kernel_rfl) (by kernel_rfl) (by kernel_rfl) (by first | exact (fun _ _ _ h => h) | exact (fun _ _ _ h => absurd h.1 (by simp))) (by kernel_rfl) (by rfl) rfl ?_; go_frame
    refine AnyT.takeDN (i := 11) rfl rfl (by kernel_rfl) (by kernel_rfl) (by kernel_rfl) (by first | exact (fun _ _ _ h => h) | exact (fun _ _ _ h => absurd h.1 (by simp))) (by kernel_rfl) (by rfl) rfl ?_; go_frame
    refine AnyT.takeDN (i := 12) rfl rfl (by kernel_rfl) (by kernel_rfl) (by kernel_rfl) (by first | exact (fun _ _ _ h => h) | exact (fun _ _ _ h => absurd h.1 (by simp))) (by kernel_rfl) (by rfl) rfl ?_; go_frame
    refine AnyT.takeDN (i := 13) rfl rfl (by kernel_rfl) (by kernel_rfl) (by kernel_rfl) (by first | exact (fun _ _ _ h => h) | exact (fun _ _ _ h => absurd h.1 (by simp))) (by kernel_rfl) (by rfl) rfl ?_; go_frame
    refine AnyT.takeDN (i := 14) rfl rfl (by kernel_rfl) (by kernel_rfl) (by kernel_rfl) (by first | exact (fun _ _ _ h => h) | exact (fun _ _ _ h => absurd h.1 (by simp))) (by kernel_rfl) (by rfl) rfl ?_; go_frame
    refine AnyT.takeDN (i := 15) rfl rfl (by kernel_rfl) (by kernel_rfl) (by kernel_rfl) (by first | exact (fun _ _ _ h => h) | exact (fun _ _ _ h => absurd h.1 (by simp))) (by kernel_rfl) (by rfl) rfl ?_; go_frame
    refine AnyT.takeD (i := 16) (v := .bool true) rfl rfl (by kernel_rfl) (by kernel_rfl) (by kernel_rfl) (by first | exact (fun _ _ _ h => h) | exact (fun _ _ _ h => absurd h.1 (by simp))) (by kernel_rfl) (by rfl) (by rintro w' rfl; go_simp) rfl ?_; go_frame
    refine AnyT.takeD (i := 17) (v := .bool true) rfl rfl (by kernel_rfl) (by kernel_rfl) (by kernel_rfl) (by first | exact (fun _ _ _ h => h) | exact (fun _ _ _ h => absurd h.1 (by simp))) (by kernel_rfl) (by rfl) (by rintro w' rfl; go_simp) rfl ?_; go_frame
    refine AnyT.takeDN (i := 18) rfl rfl (by kernel_rfl) (by kernel_rfl) (by kernel_rfl) (by first | exact (fun _ _ _ h => h) | exact (fun _ _ _ h => absurd h.1 (by simp))) (by kernel_rfl) (by rfl) rfl ?_; go_frame
    refine AnyT.takeDN (i := 19) rfl rfl (by kernel_rfl) (by kernel_rfl) (by kernel_rfl) (by first | exact (fun _ _ _ h => h) | exact (fun _ _ _ h => absurd h.1 (by simp))) (by kernel_rfl) (by rfl) rfl ?_; go_frame
    refine AnyT.takeDN (i := 20) rfl rfl (by kernel_rfl) (by kernel_rfl) (by kernel_rfl) (by first | exact (fun _ _ _ h => h) | exact (fun _ _ _ h => absurd h.1 (by simp))) (by kernel_rfl) (by rfl) rfl ?_; go_frame
    refine AnyT.takeDN (i := 21) rfl rfl (by kernel_rfl) (by kernel_rfl) (by kernel_rfl) (by first | exact (fun _ _ _ h => h) | exact (fun _ _ _ h => absurd h.1 (by simp))) (by kernel_rfl) (by rfl) rfl ?_; go_frame
    refine AnyT.takeDN (i := 22) rfl rfl (by kernel_rfl) (by kernel_rfl) (by kernel_rfl) (by first | exact (fun _ _ _ h => h) | exact (fun _ _ _ h => absurd h.1 (by simp))) (by kernel_rfl) (by rfl) rfl ?_; go_frame
    refine AnyT.takeDN (i := 23) rfl rfl (by kernel_rfl) (by kernel_rfl) (by kernel_rfl) (by first | exact (fun _ _ _ h => h) | exact (fun _ _ _ h => absurd h.1 (by simp))) (by kernel_rfl) (by rfl) rfl ?_; go_frame
    refine AnyT.takeDN (i := 24) rfl rfl (by kernel_rfl) (by kernel_rfl) (by kernel_rfl) (by first | exact (fun _ _ _ h => h) | exact (fun _ _ _ h => absurd h.1 (by simp))) (by kernel_rfl) (by rfl) rfl ?_; go_frame
    refine AnyT.takeDN (i := 25) rfl rfl (by kernel_rfl) (by kernel_rfl) (by kernel_rfl) (by first | exact (fun _ _ _ h => h) | exact (fun _ _ _ h => absurd h.1 (by simp))) (by kernel_rfl) (by rfl) rfl ?_; go_frame
    refine AnyT.takeDN (i := 26) rfl rfl (by kernel_rfl) (by kernel_rfl) (by kernel_rfl) (by first | exact (fun _ _ _ h => h) | exact (fun _ _ _ h => absurd h.1 (by simp))) (by kernel_rfl) (by rfl) rfl ?_; go_frame
    refine AnyT.takeDN (i := 27) rfl rfl (by kernel_rfl) (by kernel_rfl) (by kernel_rfl) (by first | exact (fun _ _ _ h => h) | exact (fun _ _ _ h => absurd h.1 (by simp))) (by kernel_rfl) (by rfl) rfl ?_; go_frame
    refine AnyT.takeD (i := 28) (v := .bool true) rfl rfl (by kernel_rfl) (by kernel_rfl) (by kernel_rfl) (by first | exact (fun _ _ _ h => h) | exact (fun _ _ _ h => absurd h.1 (by simp))) (by kernel_rfl) (by rfl) (by rintro w' rfl; go_simp) rfl ?_; go_frame
    refine AnyT.takeD (i := 29) (v := .bool true) rfl rfl (by kernel_rfl) (by kernel_rfl) (by kernel_rfl) (by first | exact (fun _ _ _ h => h) | exact (fun _ _ _ h => absurd h.1 (by simp))) (by kernel_rfl) (by rfl) (by rintro w' rfl; go_simp) rfl ?_; go_frame
    refine ⟨by kernel_rfl, ?_⟩
    go_wp2
    go_ret
    exact ⟨by simp, HB0.out⟩
  · cases kf
    rotate_left
    ·
      have hb0 := HBZ.out (.cells #[.bool true, .slice a2 n2 cap2] 50)
      have hc0 := hcz (.cells #[.bool true, .slice a2 n2 cap2] 50)
      have hw0 : (w.alloc (.cells #[.bool true, .slice a2 n2 cap2] 50)).heap[w.heap.size]? = some (.cells #[.bool true, .slice a2 n2 cap2] 50 (0, 0)) := World.alloc_heap_new _ _
      have HLP0 := hid (fun q => HLP.out (.cells #[.bool true, .slice a2 n2 cap2] 50) q)
      have HLR0 := hid (fun q => HLR.out (.cells #[.bool true, .slice a2 n2 cap2] 50) q)
      clear hcz HLP HLR
      have HB0 := hid hb0
      have HC0 := hid hc0
      have HW0 := hid hw0
      clear hb0 hc0 hw0
      go_enter Try.func46, Try.ntmps46
      go_wp2
      refine plain_region (fun j w' => decide (j < 30) = true → w' = (w.alloc (.cells #[.bool true, .slice a2 n2 cap2] 50)).drew) (by kernel_rfl) ?_
      have hb0 : Below w.heap.size w (w.alloc (.cells #[.bool true, .slice a2 n2 cap2] 50)).drew := HB0.out.drew
      have hc0 : (w.alloc (.cells #[.bool true, .slice a2 n2 cap2] 50)).drew.cell? ⟨b, off, none⟩ = some (.slice ra W rc) := HC0.out
      have hw0 : (w.alloc (.cells #[.bool true, .slice a2 n2 cap2] 50)).drew.heap[w.heap.size]? = some (.cells #[.bool true, .slice a2 n2 cap2] 50 (0, 0)) := HW0.out
      have HLP1 := hid (HLP0.out 1)
      have HLR1 := hid (HLR0.out 1)
      have e1 : (w.alloc (.cells #[.bool true, .slice a2 n2 cap2] 50)).drewN 1 = (w.alloc (.cells #[.bool true, .slice a2 n2 cap2] 50)).drew := rfl
      rw [e1] at HLP1 HLR1
      clear HLP0 HLR0 HB0 HC0 HW0 e1
      generalize (w.alloc (.cells #[.bool true, .slice a2 n2 cap2] 50)).drew = wd at hb0 hc0 hw0 HLP1 HLR1 ⊢
      obtain ⟨q0, q1, _, _, _⟩ := box2_facts hw0
      have HB0 := hid hb0
      clear hb0 hw0
      refine AnyT.takeD (i := 0) (v := .pointer (some ⟨w.heap.size, 1, none⟩)) rfl rfl (by kernel_rfl) (by kernel_rfl) (by kernel_rfl) (by first | exact (fun _ _ _ h => h) | exact (fun _ _ _ h => absurd h.1 (by simp))) (by kernel_rfl) (by rfl) (by rintro w' rfl; go_simp) rfl ?_; go_frame
      refine AnyT.takeD (i := 1) (v := .slice a2 n2 cap2) rfl rfl (by kernel_rfl) (by kernel_rfl) (by kernel_rfl) (by first | exact (fun _ _ _ h => h) | exact (fun _ _ _ h => absurd h.1 (by simp))) (by kernel_rfl) (by rfl) (by rintro w' rfl; go_simp) rfl ?_; go_frame
      refine AnyT.takeD (i := 2) (v := .int .i64 n2) rfl rfl (by kernel_rfl) (by kernel_rfl) (by kernel_rfl) (by first | exact (fun _ _ _ h => h) | exact (fun _ _ _ h => absurd h.1 (by simp))) (by kernel_rfl) (by rfl) (by rintro w' rfl; go_simp) rfl ?_; go_frame
      refine AnyT.takeD (i := 3) (v := .bool false) rfl rfl (by kernel_rfl) (by kernel_rfl) (by kernel_rfl) (by first | exact (fun _ _ _ h => h) | exact (fun _ _ _ h => absurd h.1 (by simp))) (by kernel_rfl) (by rfl) (by rintro w' rfl; go_simp) rfl ?_; go_frame
      refine AnyT.takeD (i := 4) (v := .bool false) rfl rfl (by kernel_rfl) (by kernel_rfl) (by kernel_rfl) (by first | exact (fun _ _ _ h => h) | exact (fun _ _ _ h => absurd h.1 (by simp))) (by kernel_rfl) (by rfl) (by rintro w' rfl; go_simp) rfl ?_; go_frame
      refine AnyT.takeD (i := 5) (v := .pointer (some ⟨w.heap.size, 0, none⟩)) rfl rfl (by kernel_rfl) (by kernel_rfl) (by kernel_rfl) (by first | exact (fun _ _ _ h => h) | exact (fun _ _ _ h => absurd h.1 (by simp))) (by kernel_rfl) (by rfl) (by rintro w' rfl; go_simp) rfl ?_; go_frame
      refine AnyT.takeD (i := 6) (v := .bool true) rfl rfl (by kernel_rfl) (by kernel_rfl) (by kernel_rfl) (by first | exact (fun _ _ _ h => h) | exact (fun _ _ _ h => absurd h.1 (by simp))) (by kernel_rfl) (by rfl) (by rintro w' rfl; go_simp) rfl ?_; go_frame
      refine AnyT.takeD (i := 7) (v := .bool true) rfl rfl (by kernel_rfl) (by kernel_rfl) (by kernel_rfl) (by first | exact (fun _ _ _ h => h) | exact (fun _ _ _ h => absurd h.1 (by simp))) (by kernel_rfl) (by rfl) (by rintro w' rfl; go_simp) rfl ?_; go_frame
      refine AnyT.takeD (i := 8) (v := .pointer (some ⟨w.heap.size, 1, none⟩)) rfl rfl (by kernel_rfl) (by kernel_rfl) (by kernel_rfl) (by first | exact (fun _ _ _ h => h) | exact (fun _ _ _ h => absurd h.1 (by simp))) (by kernel_rfl) (by rfl) (by rintro w' rfl; go_simp) rfl ?_; go_frame
      refine AnyT.takeD (i := 9) (v := .slice a2 n2 cap2) rfl rfl (by kernel_rfl) (by kernel_rfl) (by kernel_rfl) (by first | exact (fun _ _ _ h => h) | exact (fun _ _ _ h => absurd h.1 (by simp))) (by kernel_rfl) (by rfl) (by rintro w' rfl; go_simp) rfl ?_; go_frame
      refine AnyT.takeD (i := 10) (v := .slice (some ⟨b, off, none⟩) n cap) rfl rfl (by kernel_rfl) (by kernel_rfl) (by kernel_rfl) (by first | exact (fun _ _ _ h => h) | exact (fun _ _ _ h => absurd h.1 (by simp))) (by kernel_rfl) (by rfl) (by rintro w' rfl; go_simp) rfl ?_; go_frame
      refine AnyT.takeD (i := 11) (v := .pointer (some ⟨b, off, none⟩)) rfl rfl (by kernel_rfl) (by kernel_rfl) (by kernel_rfl) (by first | exact (fun _ _ _ h => h) | exact (fun _ _ _ h => absurd h.1 (by simp))) (by kernel_rfl) (by rfl) (by rintro w' rfl; go_simp; intro h; exact absurd h (by omega)) rfl ?_; go_frame
      refine AnyT.takeD (i := 12) (v := .slice ra W rc) rfl rfl (by kernel_rfl) (by kernel_rfl) (by kernel_rfl) (by first | exact (fun _ _ _ h => h) | exact (fun _ _ _ h => absurd h.1 (by simp))) (by kernel_rfl) (by rfl) (by rintro w' rfl; go_simp) rfl ?_; go_frame
      refine AnyT.takeD (i := 13) (v := .int .i64 W) rfl rfl (by kernel_rfl) (by kernel_rfl) (by kernel_rfl) (by first | exact (fun _ _ _ h => h) | exact (fun _ _ _ h => absurd h.1 (by simp))) (by kernel_rfl) (by rfl) (by rintro w' rfl; go_simp) rfl ?_; go_frame
      refine AnyT.next (i := 14) (by kernel_rfl) rfl (wpOp_of_list rfl ?_)
      go_wp2_with (go_at_call 42; refine HLP1.out.mono ?_; rintro e w1 ⟨rfl, rfl⟩)
      refine ⟨fun _ => rfl, ?_⟩
      refine AnyT.takeD (i := 15) (v := .bool A) rfl rfl (by kernel_rfl) (by kernel_rfl) (by kernel_rfl) (by first | exact (fun _ _ _ h => h) | exact (fun _ _ _ h => absurd h.1 (by simp))) (by kernel_rfl) (by rfl) (by rintro w' rfl; go_simp) rfl ?_; go_frame
      refine AnyT.takeD (i := 16) (v := .bool A) rfl rfl (by kernel_rfl) (by kernel_rfl) (by kernel_rfl) (by first | exact (fun _ _ _ h => h) | exact (fun _ _ _ h => absurd h.1 (by simp))) (by kernel_rfl) (by rfl) (by rintro w' rfl; go_simp) rfl ?_; go_frame
      refine AnyT.takeD (i := 17) (v := .bool A) rfl rfl (by kernel_rfl) (by kernel_rfl) (by kernel_rfl) (by first | exact (fun _ _ _ h => h) | exact (fun _ _ _ h => absurd h.1 (by simp))) (by kernel_rfl) (by rfl) (by rintro w' rfl; go_simp) rfl ?_; go_frame
      cases A
      rotate_left
      ·
        refine AnyT.takeDN (i := 18) rfl rfl (by kernel_rfl) (by kernel_rfl) (by kernel_rfl) (by first | exact (fun _ _ _ h => h) | exact (fun _ _ _ h => absurd h.1 (by simp))) (by kernel_rfl) (by rfl) rfl ?_; go_frame
        refine AnyT.takeDN (i := 19) rfl rfl (by kernel_rfl) (by kernel_rfl) (by kernel_rfl) (by first | exact (fun _ _ _ h => h) | exact (fun _ _ _ h => absurd h.1 (by simp))) (by kernel_rfl) (by rfl) rfl ?_; go_frame
        refine AnyT.takeDN (i := 20) rfl rfl (by kernel_rfl) (by kernel_rfl) (by kernel_rfl) (by first | exact (fun _ _ _ h => h) | exact (fun _ _ _ h => absurd h.1 (by simp))) (by kernel_rfl) (by rfl) rfl ?_; go_frame
        refine AnyT.takeDN (i := 21) rfl rfl (by kernel_rfl) (by kernel_rfl) (by kernel_rfl) (by first | exact (fun _ _ _ h => h) | exact (fun _ _ _ h => absurd h.1 (by simp))) (by kernel_rfl) (by rfl) rfl ?_; go_frame
        refine AnyT.takeDN (i := 22) rfl rfl (by kernel_rfl) (by kernel_rfl) (by kernel_rfl) (by first | exact (fun _ _ _ h => h) | exact (fun _ _ _ h => absurd h.1 (by simp))) (by kernel_rfl) (by rfl) rfl ?_; go_frame
        refine AnyT.takeDN (i := 23) rfl rfl (by kernel_rfl) (by kernel_rfl) (by kernel_rfl) (by first | exact (fun _ _ _ h => h) | exact (fun _ _ _ h => absurd h.1 (by simp))) (by kernel_rfl) (by rfl) rfl ?_; go_frame
        refine AnyT.takeDN (i := 24) rfl rfl (by kernel_rfl) (by kernel_rfl) (by kernel_rfl) (by first | exact (fun _ _ _ h => h) | exact (fun _ _ _ h => absurd h.1 (by simp))) (by kernel_rfl) (by rfl) rfl ?_; go_frame
        refine AnyT.takeDN (i := 25) rfl rfl (by kernel_rfl) (by kernel_rfl) (by kernel_rfl) (by first | exact (fun _ _ _ h => h) | exact (fun _ _ _ h => absurd h.1 (by simp))) (by kernel_rfl) (by rfl) rfl ?_; go_frame
        refine AnyT.takeDN (i := 26) rfl rfl (by kernel_rfl) (by kernel_rfl) (by kernel_rfl) (by first | exact (fun _ _ _ h => h) | exact (fun _ _ _ h => absurd h.1 (by simp))) (by kernel_rfl) (by rfl) rfl ?_; go_frame
        refine AnyT.takeDN (i := 27) rfl rfl (by kernel_rfl) (by kernel_rfl) (by kernel_rfl) (by first | exact (fun _ _ _ h => h) | exact (fun _ _ _ h => absurd h.1 (by simp))) (by kernel_rfl) (by rfl) rfl ?_; go_frame
        refine AnyT.takeD (i := 28) (v := .bool true) rfl rfl (by kernel_rfl) (by kernel_rfl) (by kernel_rfl) (by first | exact (fun _ _ _ h => h) | exact (fun _ _ _ h => absurd h.1 (by simp))) (by kernel_rfl) (by rfl) (by rintro w' rfl; go_simp) rfl ?_; go_frame
        refine AnyT.takeD (i := 29) (v := .bool true) rfl rfl (by kernel_rfl) (by kernel_rfl) (by kernel_rfl) (by first | exact (fun _ _ _ h => h) | exact (fun _ _ _ h => absurd h.1 (by simp))) (by kernel_rfl) (by rfl) (by rintro w' rfl; go_simp) rfl ?_; go_frame
        refine ⟨by kernel_rfl, ?_⟩
        go_wp2
        go_ret
        exact ⟨by simp, HB0.out⟩
      ·
        refine AnyT.takeD (i := 18) (v := .pointer (some ⟨w.heap.size, 0, none⟩)) rfl rfl (by kernel_rfl) (by kernel_rfl) (by kernel_rfl) (by first | exact (fun _ _ _ h => h) | exact (fun _ _ _ h => absurd h.1 (by simp))) (by kernel_rfl) (by rfl) (by rintro w' rfl; go_simp) rfl ?_; go_frame
        refine AnyT.takeD (i := 19) (v := .bool true) rfl rfl (by kernel_rfl) (by kernel_rfl) (by kernel_rfl) (by first | exact (fun _ _ _ h => h) | exact (fun _ _ _ h => absurd h.1 (by simp))) (by kernel_rfl) (by rfl) (by rintro w' rfl; go_simp) rfl ?_; go_frame
        refine AnyT.takeD (i := 20) (v := .bool false) rfl rfl (by kernel_rfl) (by kernel_rfl) (by kernel_rfl) (by first | exact (fun _ _ _ h => h) | exact (fun _ _ _ h => absurd h.1 (by simp))) (by kernel_rfl) (by rfl) (by rintro w' rfl; go_simp) rfl ?_; go_frame
        refine AnyT.takeD (i := 21) (v := .bool false) rfl rfl (by kernel_rfl) (by kernel_rfl) (by kernel_rfl) (by first | exact (fun _ _ _ h => h) | exact (fun _ _ _ h => absurd h.1 (by simp))) (by kernel_rfl) (by rfl) (by rintro w' rfl; go_simp) rfl ?_; go_frame
        refine AnyT.takeDN (i := 22) rfl rfl (by kernel_rfl) (by kernel_rfl) (by kernel_rfl) (by first | exact (fun _ _ _ h => h) | exact (fun _ _ _ h => absurd h.1 (by simp))) (by kernel_rfl) (by rfl) rfl ?_; go_frame
        refine AnyT.takeDN (i := 23) rfl rfl (by kernel_rfl) (by kernel_rfl) (by kernel_rfl) (by first | exact (fun _ _ _ h => h) | exact (fun _ _ _ h => absurd h.1 (by simp))) (by kernel_rfl) (by rfl) rfl ?_; go_frame
        refine AnyT.takeDN (i := 24) rfl rfl (by kernel_rfl) (by kernel_rfl) (by kernel_rfl) (by first | exact (fun _ _ _ h => h) | exact (fun _ _ _ h => absurd h.1 (by simp))) (by kernel_rfl) (by rfl) rfl ?_; go_frame
        refine AnyT.takeDN (i := 25) rfl rfl (by kernel_rfl) (by kernel_rfl) (by kernel_rfl) (by first | exact (fun _ _ _ h => h) | exact (fun _ _ _ h => absurd h.1 (by simp))) (by kernel_rfl) (by rfl) rfl ?_; go_frame
        refine AnyT.takeDN (i := 26) rfl rfl (by kernel_rfl) (by kernel_rfl) (by kernel_rfl) (by first | exact (fun _ _ _ h => h) | exact (fun _ _ _ h => absurd h.1 (by simp))) (by kernel_rfl) (by rfl) rfl ?_; go_frame
        refine AnyT.takeD (i := 27) (v := .bool false) rfl rfl (by kernel_rfl) (by kernel_rfl) (by kernel_rfl) (by first | exact (fun _ _ _ h => h) | exact (fun _ _ _ h => absurd h.1 (by simp))) (by kernel_rfl) (by rfl) (by rintro w' rfl; go_simp) rfl ?_; go_frame
        refine AnyT.takeD (i := 28) (v := .bool false) rfl rfl (by kernel_rfl) (by kernel_rfl) (by kernel_rfl) (by first | exact (fun _ _ _ h => h) | exact (fun _ _ _ h => absurd h.1 (by simp))) (by kernel_rfl) (by rfl) (by rintro w' rfl; go_simp) rfl ?_; go_frame
        refine AnyT.takeD (i := 29) (v := .bool false) rfl rfl (by kernel_rfl) (by kernel_rfl) (by kernel_rfl) (by first | exact (fun _ _ _ h => h) | exact (fun _ _ _ h => absurd h.1 (by simp))) (by kernel_rfl) (by rfl) (by rintro w' rfl; go_simp) rfl ?_; go_frame
        refine ⟨by kernel_rfl, ?_⟩
        go_wp2
        go_ret
        exact ⟨by simp, HB0.out⟩
    ·
      have hb0 := HBZ.out (.cells #[.bool false, .slice a2 n2 cap2] 50)
      have hc0 := hcz (.cells #[.bool false, .slice a2 n2 cap2] 50)
      have hw0 : (w.alloc (.cells #[.bool false, .slice a2 n2 cap2] 50)).heap[w.heap.size]? = some (.cells #[.bool false, .slice a2 n2 cap2] 50 (0, 0)) := World.alloc_heap_new _ _
      have HLP0 := hid (fun q => HLP.out (.cells #[.bool false, .slice a2 n2 cap2] 50) q)
      have HLR0 := hid (fun q => HLR.out (.cells #[.bool false, .slice a2 n2 cap2] 50) q)
      clear hcz HLP HLR
      have HB0 := hid hb0
      have HC0 := hid hc0
      have HW0 := hid hw0
      clear hb0 hc0 hw0
      go_enter Try.func46, Try.ntmps46
      go_wp2
      refine plain_region (fun j w' => decide (j < 30) = true → w' = (w.alloc (.cells #[.bool false, .slice a2 n2 cap2] 50)).drew) (by kernel_rfl) ?_
      have hb0 : Below w.heap.size w (w.alloc (.cells #[.bool false, .slice a2 n2 cap2] 50)).drew := HB0.out.drew
      have hc0 : (w.alloc (.cells #[.bool false, .slice a2 n2 cap2] 50)).drew.cell? ⟨b, off, none⟩ = some (.slice ra W rc) := HC0.out
      have hw0 : (w.alloc (.cells #[.bool false, .slice a2 n2 cap2] 50)).drew.heap[w.heap.size]? = some (.cells #[.bool false, .slice a2 n2 cap2] 50 (0, 0)) := HW0.out
      have HLP1 := hid (HLP0.out 1)
      have HLR1 := hid (HLR0.out 1)
      have e1 : (w.alloc (.cells #[.bool false, .slice a2 n2 cap2] 50)).drewN 1 = (w.alloc (.cells #[.bool false, .slice a2 n2 cap2] 50)).drew := rfl
      rw [e1] at HLP1 HLR1
      clear HLP0 HLR0 HB0 HC0 HW0 e1
      generalize (w.alloc (.cells #[.bool false, .slice a2 n2 cap2] 50)).drew = wd at hb0 hc0 hw0 HLP1 HLR1 ⊢
      obtain ⟨q0, q1, _, _, _⟩ := box2_facts hw0
      have HB0 := hid hb0
      clear hb0 hw0
      refine AnyT.takeD (i := 0) (v := .pointer (some ⟨w.heap.size, 1, none⟩)) rfl rfl (by kernel_rfl) (by kernel_rfl) (by kernel_rfl) (by first | exact (fun _ _ _ h => h) | exact (fun _ _ _ h => absurd h.1 (by simp))) (by kernel_rfl) (by rfl) (by rintro w' rfl; go_simp) rfl ?_; go_frame
      refine AnyT.takeD (i := 1) (v := .slice a2 n2 cap2) rfl rfl (by kernel_rfl) (by kernel_rfl) (by kernel_rfl) (by first | exact (fun _ _ _ h => h) | exact (fun _ _ _ h => absurd h.1 (by simp))) (by kernel_rfl) (by rfl) (by rintro w' rfl; go_simp) rfl ?_; go_frame
      refine AnyT.takeD (i := 2) (v := .int .i64 n2) rfl rfl (by kernel_rfl) (by kernel_rfl) (by kernel_rfl) (by first | exact (fun _ _ _ h => h) | exact (fun _ _ _ h => absurd h.1 (by simp))) (by kernel_rfl) (by rfl) (by rintro w' rfl; go_simp) rfl ?_; go_frame
      refine AnyT.takeD (i := 3) (v := .bool false) rfl rfl (by kernel_rfl) (by kernel_rfl) (by kernel_rfl) (by first | exact (fun _ _ _ h => h) | exact (fun _ _ _ h => absurd h.1 (by simp))) (by kernel_rfl) (by rfl) (by rintro w' rfl; go_simp) rfl ?_; go_frame
      refine AnyT.takeD (i := 4) (v := .bool false) rfl rfl (by kernel_rfl) (by kernel_rfl) (by kernel_rfl) (by first | exact (fun _ _ _ h => h) | exact (fun _ _ _ h => absurd h.1 (by simp))) (by kernel_rfl) (by rfl) (by rintro w' rfl; go_simp) rfl ?_; go_frame
      refine AnyT.takeD (i := 5) (v := .pointer (some ⟨w.heap.size, 0, none⟩)) rfl rfl (by kernel_rfl) (by kernel_rfl) (by kernel_rfl) (by first | exact (fun _ _ _ h => h) | exact (fun _ _ _ h => absurd h.1 (by simp))) (by kernel_rfl) (by rfl) (by rintro w' rfl; go_simp) rfl ?_; go_frame
      refine AnyT.takeD (i := 6) (v := .bool false) rfl rfl (by kernel_rfl) (by kernel_rfl) (by kernel_rfl) (by first | exact (fun _ _ _ h => h) | exact (fun _ _ _ h => absurd h.1 (by simp))) (by kernel_rfl) (by rfl) (by rintro w' rfl; go_simp) rfl ?_; go_frame
      refine AnyT.takeD (i := 7) (v := .bool false) rfl rfl (by kernel_rfl) (by kernel_rfl) (by kernel_rfl) (by first | exact (fun _ _ _ h => h) | exact (fun _ _ _ h => absurd h.1 (by simp))) (by kernel_rfl) (by rfl) (by rintro w' rfl; go_simp) rfl ?_; go_frame
      refine AnyT.takeDN (i := 8) rfl rfl (by kernel_rfl) (by kernel_rfl) (by kernel_rfl) (by first | exact (fun _ _ _ h => h) | exact (fun _ _ _ h => absurd h.1 (by simp))) (by kernel_rfl) (by rfl) rfl ?_; go_frame
      refine AnyT.takeDN (i := 9) rfl rfl (by kernel_rfl) (by kernel_rfl) (by kernel_rfl) (by first | exact (fun _ _ _ h => h) | exact (fun _ _ _ h => absurd h.1 (by simp))) (by kernel_rfl) (by rfl) rfl ?_; go_frame
      refine AnyT.takeDN (i := 10) rfl rfl (by kernel_rfl) (by kernel_rfl) (by kernel_rfl) (by first | exact (fun _ _ _ h => h) | exact (fun _ _ _ h => absurd h.1 (by simp))) (by kernel_rfl) (by rfl) rfl ?_; go_frame
      refine AnyT.takeDN (i := 11) rfl rfl (by kernel_rfl) (by kernel_rfl) (by kernel_rfl) (by first | exact (fun _ _ _ h => h) | exact (fun _ _ _ h => absurd h.1 (by simp))) (by kernel_rfl) (by rfl) rfl ?_; go_frame
      refine AnyT.takeDN (i := 12) rfl rfl (by kernel_rfl) (by kernel_rfl) (by kernel_rfl) (by first | exact (fun _ _ _ h => h) | exact (fun _ _ _ h => absurd h.1 (by simp))) (by kernel_rfl) (by rfl) rfl ?_; go_frame
      refine AnyT.takeDN (i := 13) rfl rfl (by kernel_rfl) (by kernel_rfl) (by kernel_rfl) (by first | exact (fun _ _ _ h => h) | exact (fun _ _ _ h => absurd h.1 (by simp))) (by kernel_rfl) (by rfl) rfl ?_; go_frame
      refine AnyT.takeDN (i := 14) rfl rfl (by kernel_rfl) (by kernel_rfl) (by kernel_rfl) (by first | exact (fun _ _ _ h => h) | exact (fun _ _ _ h => absurd h.1 (by simp))) (by kernel_rfl) (by rfl) rfl ?_; go_frame
      refine AnyT.takeD (i := 15) (v := .bool false) rfl rfl (by kernel_rfl) (by kernel_rfl) (by kernel_rfl) (by first | exact (fun _ _ _ h => h) | exact (fun _ _ _ h => absurd h.1 (by simp))) (by kernel_rfl) (by rfl) (by rintro w' rfl; go_simp) rfl ?_; go_frame
      refine AnyT.takeD (i := 16) (v := .bool false) rfl rfl (by kernel_rfl) (by kernel_rfl) (by kernel_rfl) (by first | exact (fun _ _ _ h => h) | exact (fun _ _ _ h => absurd h.1 (by simp))) (by kernel_rfl) (by rfl) (by rintro w' rfl; go_simp) rfl ?_; go_frame
      refine AnyT.takeD (i := 17) (v := .bool false) rfl rfl (by kernel_rfl) (by kernel_rfl) (by kernel_rfl) (by first | exact (fun _ _ _ h => h) | exact (fun _ _ _ h => absurd h.1 (by simp))) (by kernel_rfl) (by rfl) (by rintro w' rfl; go_simp) rfl ?_; go_frame
      refine AnyT.takeD (i := 18) (v := .pointer (some ⟨w.heap.size, 0, none⟩)) rfl rfl (by kernel_rfl) (by kernel_rfl) (by kernel_rfl) (by first | exact (fun _ _ _ h => h) | exact (fun _ _ _ h => absurd h.1 (by simp))) (by kernel_rfl) (by rfl) (by rintro w' rfl; go_simp) rfl ?_; go_frame
      refine AnyT.takeD (i := 19) (v := .bool false) rfl rfl (by kernel_rfl) (by kernel_rfl) (by kernel_rfl) (by first | exact (fun _ _ _ h => h) | exact (fun _ _ _ h => absurd h.1 (by simp))) (by kernel_rfl) (by rfl) (by rintro w' rfl; go_simp) rfl ?_; go_frame
      refine AnyT.takeD (i := 20) (v := .bool true) rfl rfl (by kernel_rfl) (by kernel_rfl) (by kernel_rfl) (by first | exact (fun _ _ _ h => h) | exact (fun _ _ _ h => absurd h.1 (by simp))) (by kernel_rfl) (by rfl) (by rintro w' rfl; go_simp) rfl ?_; go_frame
      refine AnyT.takeD (i := 21) (v := .bool true) rfl rfl (by kernel_rfl) (by kernel_rfl) (by kernel_rfl) (by first | exact (fun _ _ _ h => h) | exact (fun _ _ _ h => absurd h.1 (by simp))) (by kernel_rfl) (by rfl) (by rintro w' rfl; go_simp) rfl ?_; go_frame
      refine AnyT.takeD (i := 22) (v := .pointer (some ⟨w.heap.size, 1, none⟩)) rfl rfl (by kernel_rfl) (by kernel_rfl) (by kernel_rfl) (by first | exact (fun _ _ _ h => h) | exact (fun _ _ _ h => absurd h.1 (by simp))) (by kernel_rfl) (by rfl) (by rintro w' rfl; go_simp) rfl ?_; go_frame
      refine AnyT.takeD (i := 23) (v := .slice a2 n2 cap2) rfl rfl (by kernel_rfl) (by kernel_rfl) (by kernel_rfl) (by first | exact (fun _ _ _ h => h) | exact (fun _ _ _ h => absurd h.1 (by simp))) (by kernel_rfl) (by rfl) (by rintro w' rfl; go_simp) rfl ?_; go_frame
      refine AnyT.takeD (i := 24) (v := .slice (some ⟨b, off, none⟩) n cap) rfl rfl (by kernel_rfl) (by kernel_rfl) (by kernel_rfl) (by first | exact (fun _ _ _ h => h) | exact (fun _ _ _ h => absurd h.1 (by simp))) (by kernel_rfl) (by rfl) (by rintro w' rfl; go_simp) rfl ?_; go_frame
      refine AnyT.takeD (i := 25) (v := .int .i64 n) rfl rfl (by kernel_rfl) (by kernel_rfl) (by kernel_rfl) (by first | exact (fun _ _ _ h => h) | exact (fun _ _ _ h => absurd h.1 (by simp))) (by kernel_rfl) (by rfl) (by rintro w' rfl; go_simp) rfl ?_; go_frame
      refine AnyT.next (i := 26) (by kernel_rfl) rfl (wpOp_of_list rfl ?_)
      go_wp2_with (go_at_call 42; refine HLR1.out.mono ?_; rintro e w1 ⟨rfl, rfl⟩)
      refine ⟨fun _ => rfl, ?_⟩
      refine AnyT.takeD (i := 27) (v := .bool R) rfl rfl (by kernel_rfl) (by kernel_rfl) (by kernel_rfl) (by first | exact (fun _ _ _ h => h) | exact (fun _ _ _ h => absurd h.1 (by simp))) (by kernel_rfl) (by rfl) (by rintro w' rfl; go_simp) rfl ?_; go_frame
      refine AnyT.takeD (i := 28) (v := .bool R) rfl rfl (by kernel_rfl) (by kernel_rfl) (by kernel_rfl) (by first | exact (fun _ _ _ h => h) | exact (fun _ _ _ h => absurd h.1 (by simp))) (by kernel_rfl) (by rfl) (by rintro w' rfl; go_simp) rfl ?_; go_frame
      refine AnyT.takeD (i := 29) (v := .bool R) rfl rfl (by kernel_rfl) (by kernel_rfl) (by kernel_rfl) (by first | exact (fun _ _ _ h => h) | exact (fun _ _ _ h => absurd h.1 (by simp))) (by kernel_rfl) (by rfl) (by rintro w' rfl; go_simp) rfl ?_; go_frame
      refine ⟨by kernel_rfl, ?_⟩
      go_wp2
      go_ret
      exact ⟨by simp, HB0.out⟩
end Go.Proofs.Ytkmjeegnijohmaa

namespace Go.Proofs.Ytkmjeegnijohmaa
open Go.RowKit
set_option linter.unusedVariables false

set_option maxRecDepth 100000 in
set_option maxHeartbeats 2000000 in
theorem r8valid_c (w : World) (a : Option Addr) (n cap : Nat) (M : Mask) (hn : M.length = n) (hm : n ≤ maxLen) (H : RowsAt w a M) (a2 : Option Addr) (n2 cap2 : Nat) (fs : List Frm) (hn2 : fs.length = n2) (hm2 : n2 ≤ maxLen) (H2 : FramesAt w a2 fs) :
    Calls Try.prog 19 #[.slice a n cap, .slice a2 n2 cap2] w fun e w' => e = .returned (.bool (validB M fs)) ∧ Below w.heap.size w w' := by
  have HV := hid (r2Valid_c w a n cap M hn hm H)
  have HW := hid (fun X => r8in_c n2 1 60 X)
  cases hM : okM M
  · have hp : validB M fs = false := by unfold validB; rw [hM]; rfl
    rw [hM] at HV
    rw [hp]
    clear hn hn2 H H2 hM hp
    go_enter Try.func19, Try.ntmps19
    go_wp2_with (go_at_call 41; refine HV.out.mono ?_; rintro e w1 ⟨rfl, rfl⟩)
    go_ret
    exact ⟨rfl, Below.refl _ _⟩
  · cases hL : inB n2 1 60
    · have hp : validB M fs = false := by unfold validB; rw [hM, hn2, hL]; rfl
      rw [hM] at HV
      rw [hL] at HW
      rw [hp]
      clear hn hn2 H H2 hM hp hL
      go_enter Try.func19, Try.ntmps19
      go_wp2_with first
        | (go_at_call 41; refine HV.out.mono ?_; rintro e w1 ⟨rfl, rfl⟩)
        | (go_at_call 33; refine (HW.out _).mono ?_; rintro e w2 ⟨rfl, rfl⟩)
      go_ret
      exact ⟨rfl, Below.refl _ _⟩
    · have hl1 : 1 ≤ n2 ∧ n2 ≤ 60 := by unfold inB at hL; simp at hL; omega
      obtain ⟨hl1, hn60⟩ := hl1
      obtain ⟨fb, fo, xa, xn, xc, rfl, hfb, hf0, hf1, hxn, hxm, hxi⟩ := H2 0 (by omega)
      rw [Nat.zero_mul, Nat.add_zero] at hf0 hf1
      obtain ⟨K, hK⟩ : ∃ K, K = (fs[0]'(by omega)).1 := ⟨_, rfl⟩
      rw [← hK] at hf0
      have hK2 : (fs[0]?.getD (false, [])).1 = K := by rw [hK, List.getElem?_eq_getElem (by omega)]; rfl
      have i0 : (0 : Int) < (n2 : Int) := by omega
      have hp : validB M fs = (K && fs.all (frB M)) := by unfold validB; rw [hM, hn2, hL, hK2]; rfl
      have h1 : 1 ≤ n := by rw [← hn]; exact (okM_ok hM).2.1
      have HP2 := hid H2
      have HFR := hid (fun (X : World) (hX : Below w.heap.size w X) (kf : Bool) (ra : Option Addr) (rn rc : Nat) (x : List Int) (hrn : x.length = rn) (hrm : rn ≤ maxLen) (hri : IntsAt X ra x) => r8frame_c X kf ra a rn rc n cap M x hn h1 (H.below hX) hrn hrm hri)
      have HN2 := hid hn2
      rw [hM] at HV
      rw [hL] at HW
      rw [hp]
      clear hn hn2 H H2 hM hp hL hK hK2 hf1 hxn hxm hxi
      cases K
      · go_enter Try.func19, Try.ntmps19
        go_wp2_with first
          | (go_at_call 41; refine HV.out.mono ?_; rintro e w1 ⟨rfl, rfl⟩)
          | (go_at_call 33; refine (HW.out _).mono ?_; rintro e w2 ⟨rfl, rfl⟩)
        go_ret
        exact ⟨rfl, Below.refl _ _⟩
      · go_enter Try.func19, Try.ntmps19
        go_wp2_with first
          | (go_at_call 41; refine HV.out.mono ?_; rintro e w1 ⟨rfl, rfl⟩)
          | (go_at_call 33; refine (HW.out _).mono ?_; rintro e w2 ⟨rfl, rfl⟩)
        clear hf0 hfb
        go_loopw [25] (fun i wr => ∃ k : Nat, k ≤ n2 ∧ i = .int .i64 k ∧ Below w.heap.size w wr ∧ ∀ j (hj : j < fs.length), j < k → frB M fs[j] = true) (fun i _ => n2 - (intOf i).toNat)
        case atStart => exact ⟨0, Nat.zero_le _, rfl, Below.refl _ _, fun i _ h => by omega⟩
        case round =>
          obtain ⟨k, hk, rfl, hb, hno⟩ := hrel
          have HNO := hid hno
          clear hno
          by_cases hlt : k < n2
          · have hkl : k < fs.length := by rw [HN2.out]; exact hlt
            obtain ⟨pb, po, ya, yn, yc, e1, hpb, hp0, hp1, hyn, hym, hyi⟩ := (HP2.out.below hb) k hkl
            cases e1
            obtain ⟨⟨kf, x⟩, hr⟩ : ∃ r, r = fs[k]'hkl := ⟨_, rfl⟩
            rw [← hr] at hp0 hyn hyi
            simp only [] at hp0 hyn hyi
            have hba : ∀ o : Obj, Below wr.heap.size wr (wr.alloc o) := fun o => (Below.refl _ _).alloc (Nat.le_refl _) _
            have HF2 := hid (fun (o : Obj) => HFR.out (wr.alloc o) (chain hb (hba o)) kf ya yn yc x hyn hym (hyi.below (hba o)))
            obtain ⟨B, hB⟩ : ∃ B, B = frB M (kf, x) := ⟨_, rfl⟩
            rw [← hB] at HF2
            rw [hr] at hB
            have HBB := hid hB
            have HKL := hid hkl
            have HBA := hid hba
            have HB := hid hb
            clear hB hyn hyi hr hba hb
            cases B
            · go_wp2_with (go_at_call 46; refine (HF2.out _).mono ?_; rintro e w1 ⟨rfl, hb1⟩)
              go_ret
              refine ⟨ret_bool ?_, chain (chain HB.out (HBA.out _)) hb1⟩
              rw [allP_stop HKL.out HBB.out.symm]; rfl
            · go_wp2_with (go_at_call 46; refine (HF2.out _).mono ?_; rintro e w1 ⟨rfl, hb1⟩)
              refine ⟨⟨k + 1, by omega, by go_num, chain (chain HB.out (HBA.out _)) hb1, fun j hj hjk => ?_⟩, by simp [intOf]; omega⟩
              by_cases e : j = k
              · subst e; exact HBB.out.symm
              · exact HNO.out j hj (by omega)
          · go_wp2
            go_ret
            refine ⟨ret_bool ?_, hb⟩
            rw [allP_done (fun j hj => HNO.out j hj (by have := HN2.out; omega))]; rfl
end Go.Proofs.Ytkmjeegnijohmaa

namespace Go.Proofs.Ytkmjeegnijohmaa
open Go.RowKit
set_option linter.unusedVariables false

def TruthB (e : Ending) : Prop := ∃ b, e = .returned (.bool b)
theorem TruthB.mk (b : Bool) : TruthB (.returned (.bool b)) := ⟨b, rfl⟩

set_option maxHeartbeats 1000000 in
theorem l8fit_c (w : World) (a : Option Addr) (n cap : Nat) (M : Mask) (hn : M.length = n) (hm : n ≤ maxLen) (H : RowsAt w a M) :
    Calls Try.prog 6 #[.slice a n cap] w fun e w' => TruthB e ∧ w = w' := by
  have HN := hid hn
  have HH := hid H
  unfold maxLen at hm
  clear hn H
  go_enter Try.func6, Try.ntmps6
  go_wp2
  go_loop [7] (fun i => ∃ k : Nat, k ≤ n ∧ i = .int .i64 k) (fun i => n - (intOf i).toNat)
  case atStart => exact ⟨0, Nat.zero_le _, rfl⟩
  case round =>
    obtain ⟨k, hk, rfl⟩ := hrel
    by_cases hlt : k < n
    · obtain ⟨b, off, ra, rn, rc, rfl, hbs, hc, hrn, hrm, hri⟩ := HH.out k (by rw [HN.out]; exact hlt)
      clear hrn hri
      by_cases h1 : (6 : Int) < (rn : Int) <;> by_cases h2 : (rn : Int) ≤ 10 <;> by_cases h3 : (20 : Int) < (rn : Int)
      all_goals
        go_wp2
        first
          | (go_round
             case rel => exact ⟨k + 1, by omega, by go_num⟩
             case measure => simp [intOf]; omega)
          | (go_ret
             exact ⟨TruthB.mk _, rfl⟩)
    · go_wp2
      go_ret
      exact ⟨TruthB.mk _, rfl⟩

set_option maxHeartbeats 1000000 in
theorem l8lists_c (w : World) (a2 : Option Addr) (n2 cap2 : Nat) (L : List (List Int)) (hn2 : L.length = n2) (hm2 : n2 ≤ maxLen) (H2 : RowsAt w a2 L) (most : Nat) :
    Calls Try.prog 7 #[.slice a2 n2 cap2, .int .i64 most] w fun e w' => TruthB e ∧ w = w' := by
  have HN := hid hn2
  have HH := hid H2
  unfold maxLen at hm2
  clear hn2 H2
  go_enter Try.func7, Try.ntmps7
  go_wp2
  go_loop [9] (fun i => ∃ k : Nat, k ≤ n2 ∧ i = .int .i64 k) (fun i => n2 - (intOf i).toNat)
  case atStart => exact ⟨0, Nat.zero_le _, rfl⟩
  case round =>
    obtain ⟨k, hk, rfl⟩ := hrel
    by_cases hlt : k < n2
    · obtain ⟨b, off, ra, rn, rc, rfl, hbs, hc, hrn, hrm, hri⟩ := HH.out k (by rw [HN.out]; exact hlt)
      clear hrn hri
      by_cases h3 : (20 : Int) < (rn : Int)
      all_goals
        go_wp2
        first
          | (go_round
             case rel => exact ⟨k + 1, by omega, by go_num⟩
             case measure => simp [intOf]; omega)
          | (go_ret
             exact ⟨TruthB.mk _, rfl⟩)
    · obtain rfl : k = n2 := by omega
      by_cases h1 : (k : Int) ≤ (most : Int) <;> by_cases h2 : (60 : Int) < (k : Int) <;> by_cases h3 : (k : Int) < 64
      all_goals
        go_wp2
        go_ret
        exact ⟨TruthB.mk _, rfl⟩

set_option maxHeartbeats 1000000 in
theorem l8frames_c (w : World) (a2 : Option Addr) (n2 cap2 : Nat) (L : List Frm) (hn2 : L.length = n2) (hm2 : n2 ≤ maxLen) (H2 : FramesAt w a2 L) (most : Nat) :
    Calls Try.prog 8 #[.slice a2 n2 cap2, .int .i64 most] w fun e w' => TruthB e ∧ Below w.heap.size w w' := by
  have HN := hid hn2
  have HH := hid H2
  unfold maxLen at hm2
  clear hn2 H2
  go_enter Try.func8, Try.ntmps8
  go_wp2
  go_loopw [9] (fun i wr => ∃ k : Nat, k ≤ n2 ∧ i = .int .i64 k ∧ Below w.heap.size w wr) (fun i _ => n2 - (intOf i).toNat)
  case atStart => exact ⟨0, Nat.zero_le _, rfl, Below.refl _ _⟩
  case round =>
    obtain ⟨k, hk, rfl, hb⟩ := hrel
    by_cases hlt : k < n2
    · obtain ⟨b, off, ra, rn, rc, rfl, hbs, h0, hc, hrn, hrm, hri⟩ := (HH.out.below hb) k (by rw [HN.out]; exact hlt)
      obtain ⟨K, hK⟩ : ∃ K, K = (L[k]'(by rw [HN.out]; exact hlt)).1 := ⟨_, rfl⟩
      rw [← hK] at h0
      have hba : ∀ o : Obj, Below w.heap.size w (wr.alloc o) := fun o => hb.alloc hb.size o
      have HBA := hid hba
      clear hrn hri hK hb hba
      by_cases h3 : (20 : Int) < (rn : Int)
      · go_wp2
        go_ret
        exact ⟨TruthB.mk _, HBA.out _⟩
      · go_wp2
        exact ⟨⟨k + 1, by omega, by go_num, HBA.out _⟩, by simp [intOf]; omega⟩
    · obtain rfl : k = n2 := by omega
      have HB := hid hb
      clear hb
      by_cases h1 : (k : Int) ≤ (most : Int) <;> by_cases h2 : (60 : Int) < (k : Int) <;> by_cases h3 : (k : Int) < 64
      all_goals
        go_wp2
        go_ret
        exact ⟨TruthB.mk _, HB.out⟩
end Go.Proofs.Ytkmjeegnijohmaa

namespace Go.Proofs.Ytkmjeegnijohmaa
open Go.ChangeShapes Go.WideShapes Go.ChangeAt Go.RowKit Go.Deep
set_option linter.unusedVariables false

def Fits64 (n : Int) : Prop := -9223372036854775808 ≤ n ∧ n ≤ 9223372036854775807
theorem fits64 {n : Int} (h : (Lit.int .i64 n).wf = true) : Fits64 n := by
  simpa [Fits64, Lit.wf, IntKind.min, IntKind.max, IntKind.signed, IntKind.bits] using h

theorem cell_plain {w : World} {a : Addr} {v : Value} (h : w.cell? a = some v) : a = ⟨a.block, a.off, none⟩ ∧ a.block < w.heap.size := by
  unfold World.cell? at h
  split at h
  · rename_i c _ _ hb
    obtain ⟨b, o, s⟩ := a
    cases s with
    | none => exact ⟨rfl, (Array.getElem?_eq_some_iff.1 hb).1⟩
    | some s => simp at h
  · simp at h

theorem add_plain (b o : Nat) (i : Nat) : (Addr.mk b o none).add i = ⟨b, o + i, none⟩ := by
  unfold Addr.add
  split
  · rename_i h; rw [h]; rfl
  · rfl

section
variable {H : Type} {enc : TypeId × Value → H} {P : Program} {w : World} {base : Nat} {held : Bool}

theorem ints_opened {e q : TypeId} {fuel : Nat} {a : Option Addr} {n cap : Nat} {x : DataW H × List MemPlace} (he : P.underlying e = some (.slice q)) (hq : P.underlying q = some (.int .i64)) (cq : P.cellsOf q = 1)
    (h : DataW.trod enc P w base (fun _ => true) held fuel e [.slice a n cap] = some x) : ∃ l : List Int, l.length = n ∧ n ≤ maxLen ∧ IntsAt w a l ∧ ∀ y ∈ l, Fits64 y := by
  rcases open_ints he hq cq h with ⟨hcs, _⟩ | ⟨x, l, c, zs, hcs, _, hl, hm, hz, _, hcell, hwz⟩
  · simp at hcs
    obtain ⟨rfl, rfl, rfl⟩ := hcs
    exact ⟨[], rfl, by decide, fun j hj => by simp at hj, fun y hy => by simp at hy⟩
  · simp at hcs
    obtain ⟨rfl, rfl, rfl⟩ := hcs
    simp only [if_true] at hz
    refine ⟨zs.take n, by rw [List.length_take]; omega, by omega, fun j hj => ?_, fun y hy => fits64 (hwz y (List.mem_of_mem_take hy))⟩
    rw [List.length_take] at hj
    have h0 := cell_plain (hcell 0 (by omega))
    simp only [Addr.add, if_true] at h0
    obtain ⟨b, o, s⟩ := x
    have hs : s = none := by have := h0.1; simp at this; exact this
    subst hs
    refine ⟨b, o, rfl, h0.2, ?_⟩
    have := hcell j (by omega)
    rw [add_plain] at this
    rw [this]
    simp [List.getElem?_take, show j < n by omega, List.getD]

theorem arg_ints {r : Reach} {b0 : Nat} {e q : TypeId} {v : Value} {d : DataW H} {p : List MemPlace} (he : P.underlying e = some (.slice q)) (hq : P.underlying q = some (.int .i64)) (cq : P.cellsOf q = 1)
    (hv : Value.okWide P w r b0 e v) (h : DataW.Trod enc P w base (fun _ => true) held e v d p) : ∃ a n cap, ∃ l : List Int, v = .slice a n cap ∧ l.length = n ∧ n ≤ maxLen ∧ IntsAt w a l ∧ ∀ y ∈ l, Fits64 y := by
  obtain ⟨a, n, cap, rfl⟩ := okWide_slice he hv
  obtain ⟨fuel, hf⟩ := h
  obtain ⟨l, h1, h2, h3, h4⟩ := ints_opened he hq cq (by simpa [Value.cells] using hf)
  exact ⟨a, n, cap, l, rfl, h1, h2, h3, h4⟩

theorem arg_rows {r : Reach} {b0 : Nat} {t e q : TypeId} {v : Value} {d : DataW H} {p : List MemPlace} (ht : P.underlying t = some (.slice e)) (ce : P.cellsOf e = 1) (he : P.underlying e = some (.slice q)) (hq : P.underlying q = some (.int .i64)) (cq : P.cellsOf q = 1)
    (hv : Value.okWide P w r b0 t v) (h : DataW.Trod enc P w base (fun _ => true) held t v d p) : ∃ a n cap, ∃ l : List (List Int), v = .slice a n cap ∧ l.length = n ∧ n ≤ maxLen ∧ RowsAt w a l ∧ ∀ y ∈ l, ∀ z ∈ y, Fits64 z := by
  obtain ⟨a, n, cap, rfl⟩ := okWide_slice ht hv
  obtain ⟨fuel, hf⟩ := h
  rcases open_slice1 ht ce (by simpa [Value.cells] using hf) with ⟨hcs, _⟩ | ⟨x, len, c', m, nn, V, D, Pl, hcs, _, hl, hm, hmm, _, hx⟩
  · simp at hcs
    obtain ⟨rfl, rfl, rfl⟩ := hcs
    exact ⟨none, 0, 0, [], rfl, rfl, by decide, fun j hj => by simp at hj, fun y hy => by simp at hy⟩
  simp at hcs
  obtain ⟨rfl, rfl, rfl⟩ := hcs
  simp only [if_true] at hmm
  have each : ∀ i, i < n → ∃ y : List Int × Option Addr × Nat × Nat, w.cell? (x.add i) = some (.slice y.2.1 y.2.2.1 y.2.2.2) ∧ y.1.length = y.2.2.1 ∧ y.2.2.1 ≤ maxLen ∧ IntsAt w y.2.1 y.1 ∧ (∀ z ∈ y.1, Fits64 z) := by
    intro i hi
    obtain ⟨hc, t0⟩ := hx i (by omega)
    have hsl : ∃ ra rn rc, V i = .slice ra rn rc := by
      rcases open_ints he hq cq t0 with ⟨hcs, _⟩ | ⟨x, l, c, zs, hcs, _⟩
      · simp at hcs; exact ⟨_, _, _, hcs⟩
      · simp at hcs; exact ⟨_, _, _, hcs⟩
    obtain ⟨ra, rn, rc, hV⟩ := hsl
    rw [hV] at hc t0
    obtain ⟨l, q1, q2, q3, q4⟩ := ints_opened he hq cq t0
    exact ⟨(l, ra, rn, rc), hc, q1, q2, q3, q4⟩
  haveI : Inhabited (List Int × Option Addr × Nat × Nat) := ⟨([], none, 0, 0)⟩
  obtain ⟨y, hy⟩ := choose_lt each
  refine ⟨some x, n, cap, (List.range n).map fun i => (y i).1, rfl, by simp, by omega, fun j hj => ?_, fun z hz => ?_⟩
  · have hjn : j < n := by simpa using hj
    have hp := cell_plain (hy 0 (by omega)).1
    simp only [Addr.add, if_true] at hp
    obtain ⟨b, o, s⟩ := x
    have hs' : s = none := by have := hp.1; simp at this; exact this
    subst hs'
    obtain ⟨r0, r3, r4, r5, r6⟩ := hy j hjn
    rw [add_plain] at r0
    refine ⟨b, o, (y j).2.1, (y j).2.2.1, (y j).2.2.2, rfl, hp.2, r0, ?_, r4, ?_⟩ <;> simp only [List.getElem_map, List.getElem_range] <;> assumption
  · obtain ⟨i, hi, rfl⟩ := List.mem_map.1 hz
    exact (hy i (List.mem_range.1 hi)).2.2.2.2
end
end Go.Proofs.Ytkmjeegnijohmaa

namespace Go.Proofs.Ytkmjeegnijohmaa
open Go.RowKit
set_option linter.unusedVariables false

set_option maxRecDepth 100000 in
set_option maxHeartbeats 4000000 in
theorem streamEncodes_c (w : World) (a : Option Addr) (n cap : Nat) (M : Mask) (hn : M.length = n) (hm : n ≤ maxLen) (H : RowsAt w a M) (_w0 : ∀ y ∈ M, ∀ z ∈ y, Fits64 z)
    (a1 : Option Addr) (n1 c1 : Nat) (p : List (List Int)) (hn1 : p.length = n1) (hm1 : n1 ≤ maxLen) (H1 : RowsAt w a1 p) (_w1 : ∀ y ∈ p, ∀ z ∈ y, Fits64 z)
    (a2 : Option Addr) (n2 c2 : Nat) (f : List Frm) (hn2 : f.length = n2) (hm2 : n2 ≤ maxLen) (H2 : FramesAt w a2 f) (_w2 : ∀ y ∈ f, ∀ z ∈ y.2, Fits64 z)
    (every : Int) (_w3 : Fits64 every)
    (a4 : Option Addr) (n4 c4 : Nat) (x : List Int) (hn4 : x.length = n4) (hm4 : n4 ≤ maxLen) (H4 : IntsAt w a4 x) (_w4 : ∀ z ∈ x, Fits64 z)
    (a5 : Option Addr) (n5 c5 : Nat) (y : List Int) (hn5 : y.length = n5) (hm5 : n5 ≤ maxLen) (H5 : IntsAt w a5 y) (_w5 : ∀ z ∈ y, Fits64 z) (hcap : n1 ≤ c1) :
    Calls Try.prog 3 #[.slice a n cap, .slice a1 n1 c1, .slice a2 n2 c2, .int .i64 every, .slice a4 n4 c4, .slice a5 n5 c5] w fun e w' => e = .returned (.bool true) ∧ Below w.heap.size w w' := by
  clear _w0 _w1 _w2 _w3 _w4 _w5
  have HFit := hid (l8fit_c w a n cap M hn hm H)
  have HLs := hid (l8lists_c w a1 n1 c1 p hn1 hm1 H1 20)
  have HFs := hid (l8frames_c w a2 n2 c2 f hn2 hm2 H2 20)
  have HE1 := hid (fun (X : World) (hX : Below w.heap.size w X) => sEncodeU_c X a a1 n cap n1 c1 M p every hn hm (H.below hX) hn1 hm1 (H1.below hX))
  have HE2 := hid (fun (X : World) (hX : Below w.heap.size w X) => r8EncodeU_c X a a1 n cap n1 c1 M p every hn hm (H.below hX) hn1 hm1 (H1.below hX))
  have HC1 := hid (fun (X : World) (hX : Below w.heap.size w X) => sChangeU_c X a a4 a5 n cap n4 c4 n5 c5 M x y hn hm (H.below hX) hn4 hm4 (H4.below hX) hn5 hm5 (H5.below hX))
  have HC2 := hid (fun (X : World) (hX : Below w.heap.size w X) => r8ChangeU_c X a a4 a5 n cap n4 c4 n5 c5 M x y hn hm (H.below hX) hn4 hm4 (H4.below hX) hn5 hm5 (H5.below hX))
  have HS1 := hid (fun (X : World) (hX : Below w.heap.size w X) => sSizesU_c X a a1 n cap n1 c1 M p hn hm (H.below hX) hn1 hm1 hcap (H1.below hX))
  have HS2 := hid (fun (X : World) (hX : Below w.heap.size w X) => r8SizesU_c X a a1 n cap n1 c1 M p hn hm (H.below hX) hn1 hm1 hcap (H1.below hX))
  have HP1 := hid (fun (X : World) (hX : Below w.heap.size w X) => validPics_c X a n cap M hn hm (H.below hX) a1 n1 c1 p hn1 hm1 (H1.below hX))
  have HP2 := hid (fun (X : World) (hX : Below w.heap.size w X) => r8validPics_c X a n cap M hn hm (H.below hX) a1 n1 c1 p hn1 hm1 (H1.below hX))
  have HV1 := hid (fun (X : World) (hX : Below w.heap.size w X) => svalid_c X a n cap M hn hm (H.below hX) a2 n2 c2 f hn2 hm2 (H2.below hX))
  have HV2 := hid (fun (X : World) (hX : Below w.heap.size w X) => r8valid_c X a n cap M hn hm (H.below hX) a2 n2 c2 f hn2 hm2 (H2.below hX))
  have HVX := hid (fun (X : World) (hX : Below w.heap.size w X) (va : Option Addr) (vn vc : Nat) (L : List Frm) (hl : L.length = vn) (hlm : vn ≤ maxLen) (hf : FramesAt X va L) => svalid_c X a n cap M hn hm (H.below hX) va vn vc L hl hlm hf)
  have HOK := hid (show encE M p every = 0 → validB M (encL M p every) = true from fun h => by
    have hL : encL M p every = encF M p every.toNat := by unfold encL; rw [if_pos h]
    rw [hL]
    refine encF_valid ?_ _
    unfold encE at h
    split at h
    · assumption
    · simp at h)
  clear hn H hn1 H1 hn2 H2 hn4 H4 hn5 H5 hcap
  unfold maxLen at hm hm1 hm2 hm4 hm5
  by_cases hab : ¬ (20 : Int) < (n4 : Int) ∧ ¬ (20 : Int) < (n5 : Int)
  rotate_left
  · clear HE1 HE2 HC1 HC2 HS1 HS2 HP1 HP2 HV1 HV2 HVX HOK
    by_cases ha : (20 : Int) < (n4 : Int)
    · clear hab
      go_enter Try.func3, Try.ntmps3
      go_wp2_with first
        | (go_at_call 6; refine HFit.out.mono ?_; rintro e w1 ⟨⟨b1, rfl⟩, rfl⟩; cases b1)
        | (go_at_call 7; refine HLs.out.mono ?_; rintro e w1 ⟨⟨b2, rfl⟩, rfl⟩; cases b2)
        | (go_at_call 8; refine HFs.out.mono ?_; rintro e w1 ⟨⟨b3, rfl⟩, hb1⟩; cases b3)
        | (go_at_call 9; refine (awake8_c _).mono ?_; rintro e w2 ⟨rfl, hb2⟩)
      all_goals
        go_ret
        first
          | exact ⟨rfl, hb2⟩
          | exact ⟨rfl, chain hb1 hb2⟩
    · have hb : (20 : Int) < (n5 : Int) := by omega
      clear hab
      go_enter Try.func3, Try.ntmps3
      go_wp2_with first
        | (go_at_call 6; refine HFit.out.mono ?_; rintro e w1 ⟨⟨b1, rfl⟩, rfl⟩; cases b1)
        | (go_at_call 7; refine HLs.out.mono ?_; rintro e w1 ⟨⟨b2, rfl⟩, rfl⟩; cases b2)
        | (go_at_call 8; refine HFs.out.mono ?_; rintro e w1 ⟨⟨b3, rfl⟩, hb1⟩; cases b3)
        | (go_at_call 9; refine (awake8_c _).mono ?_; rintro e w2 ⟨rfl, hb2⟩)
      all_goals
        go_ret
        first
          | exact ⟨rfl, hb2⟩
          | exact ⟨rfl, chain hb1 hb2⟩
  · obtain ⟨ha, hb⟩ := hab
    obtain ⟨LX, hLX⟩ : ∃ L, L = encL M p every := ⟨_, rfl⟩
    obtain ⟨E, hE⟩ : ∃ E, E = encE M p every := ⟨_, rfl⟩
    obtain ⟨LC, hLC⟩ : ∃ L, L = chL M x y := ⟨_, rfl⟩
    obtain ⟨EC, hEC⟩ : ∃ E, E = chE M x y := ⟨_, rfl⟩
    obtain ⟨LS, hLS⟩ : ∃ L, L = szL M p := ⟨_, rfl⟩
    obtain ⟨ES, hES⟩ : ∃ E, E = szE M p := ⟨_, rfl⟩
    obtain ⟨PV, hPV⟩ : ∃ B, B = picsB M p := ⟨_, rfl⟩
    obtain ⟨VV, hVV⟩ : ∃ B, B = validB M f := ⟨_, rfl⟩
    rw [← hLX, ← hE] at HE1 HE2 HOK
    rw [← hLC, ← hEC] at HC1 HC2
    rw [← hLS, ← hES] at HS1 HS2
    rw [← hPV] at HP1 HP2
    rw [← hVV] at HV1 HV2
    have q1 : (!(PV == PV)) = false := by cases PV <;> rfl
    have q2 : (!(VV == VV)) = false := by cases VV <;> rfl
    have q3 : (E != E) = false := by simp
    have q4 : (EC != EC) = false := by simp
    have q5 : (ES != ES) = false := by simp
    clear hLX hE hLC hEC hLS hES hPV hVV
    go_enter Try.func3, Try.ntmps3
    go_wp2_with first
      | (go_at_call 6; refine HFit.out.mono ?_; rintro e w1 ⟨⟨b1, rfl⟩, rfl⟩; cases b1)
      | (go_at_call 7; refine HLs.out.mono ?_; rintro e w1 ⟨⟨b2, rfl⟩, rfl⟩; cases b2)
      | (go_at_call 8; refine HFs.out.mono ?_; rintro e w1 ⟨⟨b3, rfl⟩, hb1⟩; cases b3)
      | (go_at_call 9; refine (awake8_c _).mono ?_; rintro e w2 ⟨rfl, hb2⟩)
      | (go_at_call 10; refine (HE1.out _ hb1).mono ?_; rintro e w2 ⟨xa, xc, rfl, hxm, hxf, hb2⟩; refine Stop.of ?_)
    all_goals first
      | (go_ret; exact ⟨rfl, hb2⟩)
      | (go_ret; exact ⟨rfl, chain hb1 hb2⟩)
      | refine Stop.go ?_
    have HX := hid hxf
    have HXM := hid hxm
    have HB2 := hid (chain hb1 hb2)
    clear hxf hxm hb1 hb2
    go_wp2_with (go_at_call 11; refine (HE2.out _ HB2.out).mono ?_; rintro e w3 ⟨ya, yc, rfl, hym, hyf, hb3⟩; refine Stop.of ?_)
    refine Stop.go ?_
    have HY := hid hyf
    have HX3 := hid (HX.out.below hb3)
    have HB3 := hid (chain HB2.out hb3)
    clear hyf hym hb3 HX HB2
    go_wp2_with (go_at_call 12; refine (HC1.out _ HB3.out).mono ?_; rintro e w4 ⟨ca, cc, rfl, hcm, hci, hb4⟩; refine Stop.of ?_)
    refine Stop.go ?_
    have HC := hid hci
    have HCM := hid hcm
    have HX4 := hid (HX3.out.below hb4)
    have HY4 := hid (HY.out.below hb4)
    have HB4 := hid (chain HB3.out hb4)
    clear hci hcm hb4 HX3 HY HB3
    go_wp2_with (go_at_call 13; refine (HC2.out _ HB4.out).mono ?_; rintro e w5 ⟨da, dc, rfl, hdm, hdi, hb5⟩; refine Stop.of ?_)
    refine Stop.go ?_
    have HD := hid hdi
    have HC5 := hid (HC.out.below hb5)
    have HX5 := hid (HX4.out.below hb5)
    have HY5 := hid (HY4.out.below hb5)
    have HB5 := hid (chain HB4.out hb5)
    clear hdi hdm hb5 HX4 HY4 HB4 HC
    go_wp2_with (go_at_call 14; refine (HS1.out _ HB5.out).mono ?_; rintro e w6 ⟨sa, sc, rfl, hsm, hsi, hb6⟩; refine Stop.of ?_)
    refine Stop.go ?_
    have HS := hid hsi
    have HSM := hid hsm
    have HD6 := hid (HD.out.below hb6)
    have HC6 := hid (HC5.out.below hb6)
    have HX6 := hid (HX5.out.below hb6)
    have HY6 := hid (HY5.out.below hb6)
    have HB6 := hid (chain HB5.out hb6)
    clear hsi hsm hb6 HX5 HY5 HB5 HC5 HD
    go_wp2_with (go_at_call 15; refine (HS2.out _ HB6.out).mono ?_; rintro e w7 ⟨ta, tc, rfl, htm, hti, hb7⟩; refine Stop.of ?_)
    refine Stop.go ?_
    have HT := hid hti
    have HS7 := hid (HS.out.below hb7)
    have HD7 := hid (HD6.out.below hb7)
    have HC7 := hid (HC6.out.below hb7)
    have HX7 := hid (HX6.out.below hb7)
    have HY7 := hid (HY6.out.below hb7)
    have HB7 := hid (chain HB6.out hb7)
    clear hti htm hb7 HX6 HY6 HB6 HC6 HD6 HS HE1 HE2 HC1 HC2 HS1 HS2 HFit HLs HFs
    have HSF := hid (fun (X : World) (hX : Below w7.heap.size w7 X) => s8Frames_t X xa ya LX.length xc yc LX rfl HXM.out (HX7.out.below hX) (HY7.out.below hX))
    have HSC := hid (fun (X : World) (hX : Below w7.heap.size w7 X) => s8Ints_t X ca da LC.length cc dc LC rfl HCM.out (HC7.out.below hX) (HD7.out.below hX))
    have HSS := hid (fun (X : World) (hX : Below w7.heap.size w7 X) => s8Ints_t X sa ta LS.length sc tc LS rfl HSM.out (HS7.out.below hX) (HT.out.below hX))
    have HVL := hid (fun (X : World) (hX : Below w7.heap.size w7 X) => HVX.out X (chain HB7.out hX) xa LX.length xc LX rfl HXM.out (HX7.out.below hX))
    clear HX7 HY7 HC7 HD7 HS7 HT HVX
    go_wp2_with first
      | (go_at_call 16; refine (HP1.out _ HB7.out).mono ?_; rintro e w8 ⟨rfl, hb8⟩)
      | (go_at_call 17; refine (HP2.out _ (chain HB7.out hb8)).mono ?_; rintro e w9 ⟨rfl, hb9⟩)
      | (go_at_call 18; refine (HV1.out _ (chain HB7.out (chain hb8 hb9))).mono ?_; rintro e w10 ⟨rfl, hb10⟩)
      | (go_at_call 19; refine (HV2.out _ (chain HB7.out (chain (chain hb8 hb9) hb10))).mono ?_; rintro e w11 ⟨rfl, hb11⟩; refine Stop.of ?_)
    refine Stop.go ?_
    have HB11 := hid (chain (chain (chain hb8 hb9) hb10) hb11)
    clear hb8 hb9 hb10 hb11 HP1 HP2 HV1 HV2
    go_wp2_with first
      | (go_at_call 20; refine (HSF.out _ HB11.out).mono ?_; rintro e w12 ⟨rfl, hb12⟩; refine Stop.of ?_)
    refine Stop.go ?_
    have HB12 := hid (chain HB11.out hb12)
    clear hb12 HB11 HSF
    go_wp2_with first
      | (go_at_call 21; refine (HSC.out _ HB12.out).mono ?_; rintro e w13 ⟨rfl, hb13⟩; refine Stop.of ?_)
    refine Stop.go ?_
    have HB13 := hid (chain HB12.out hb13)
    clear hb13 HB12 HSC
    go_wp2_with first
      | (go_at_call 21; refine (HSS.out _ HB13.out).mono ?_; rintro e w14 ⟨rfl, hb14⟩; refine Stop.of ?_)
    refine Stop.go ?_
    have HB14 := hid (chain HB13.out hb14)
    clear hb14 HB13 HSS
    by_cases hE0 : E = 0
    · have hv := HOK.out hE0
      rw [hv] at HVL
      have hEn : (E != 0) = false := by simp [hE0]
      clear hE0 hv HOK
      go_wp2_with first
        | (go_at_call 18; refine (HVL.out _ HB14.out).mono ?_; rintro e w15 ⟨rfl, hb15⟩)
        | (go_at_call 9; refine (awake8_c _).mono ?_; rintro e w16 ⟨rfl, hb16⟩)
      go_ret
      exact ⟨rfl, chain (chain HB7.out HB14.out) (chain hb15 hb16)⟩
    · have hEn : (E != 0) = true := by simp [hE0]
      clear hE0 HOK HVL
      go_wp2_with first
        | (go_at_call 9; refine (awake8_c _).mono ?_; rintro e w16 ⟨rfl, hb16⟩)
      go_ret
      exact ⟨rfl, chain (chain HB7.out HB14.out) hb16⟩
end Go.Proofs.Ytkmjeegnijohmaa

namespace Go.Proofs.Ytkmjeegnijohmaa
open Go.ChangeShapes Go.WideShapes Go.ChangeAt Go.RowKit Go.Deep
set_option linter.unusedVariables false

section
variable {H : Type} {enc : TypeId × Value → H} {P : Program} {w : World} {base : Nat} {held : Bool}
theorem slice_cap {t e : TypeId} {a : Option Addr} {n cap : Nat} {d : DataW H} {p : List MemPlace} (ht : P.underlying t = some (.slice e))
    (h : DataW.Trod enc P w base (fun _ => true) held t (.slice a n cap) d p) : n ≤ cap := by
  obtain ⟨fuel, hf⟩ := h
  rcases Go.Deep.open_slice ht (by simpa [Value.cells] using hf) with ⟨hcs, _⟩ | ⟨x, len, c', m, nn, D, Pl, hcs, _, hl, _⟩
  · simp at hcs
    omega
  · simp at hcs
    omega

theorem arg_frames {r : Reach} {b0 : Nat} {t c q : TypeId} {f0 f1 : Field} {v : Value} {d : DataW H} {p : List MemPlace} (ht : P.underlying t = some (.slice c)) (hs : P.underlying c = some (.struct #[f0, f1])) (hone : oneCellFields P #[f0, f1] = true) (hC : P.cellsOf c = 2)
    (he0 : P.underlying f0.type = some .bool) (he1 : P.underlying f1.type = some (.slice q)) (hq : P.underlying q = some (.int .i64)) (cq : P.cellsOf q = 1)
    (hv : Value.okWide P w r b0 t v) (h : DataW.Trod enc P w base (fun _ => true) held t v d p) : ∃ a n cap, ∃ l : List Frm, v = .slice a n cap ∧ l.length = n ∧ n ≤ maxLen ∧ FramesAt w a l ∧ ∀ y ∈ l, ∀ z ∈ y.2, Fits64 z := by
  obtain ⟨a, n, cap, rfl⟩ := okWide_slice ht hv
  obtain ⟨fuel, hf⟩ := h
  rcases open_slice ht (by simpa [Value.cells] using hf) with ⟨hcs, _⟩ | ⟨x, len, c', m, nn, D, Pl, hcs, _, hl, hm, hmm, _, hx⟩
  · simp at hcs
    obtain ⟨rfl, rfl, rfl⟩ := hcs
    exact ⟨none, 0, 0, [], rfl, rfl, by decide, fun j hj => by simp at hj, fun y hy => by simp at hy⟩
  simp at hcs
  obtain ⟨rfl, rfl, rfl⟩ := hcs
  simp only [if_true] at hmm
  obtain ⟨o0, k0⟩ := hone_of hone 0 f0 rfl
  obtain ⟨o1, k1⟩ := hone_of hone 1 f1 rfl
  have hsl : ∀ {fuel : Nat} {e : TypeId} (he : P.underlying e = some (.slice q)) {v0 : Value} {x : DataW H × List MemPlace}, DataW.trod enc P w base (fun _ => true) held fuel e [v0] = some x → ∃ ra rn rc, v0 = .slice ra rn rc := by
    intro fuel e he v0 x k0
    rcases open_ints he hq cq k0 with ⟨hcs, _⟩ | ⟨x, l, c, zs, hcs, _⟩
    · simp at hcs; exact ⟨_, _, _, hcs⟩
    · simp at hcs; exact ⟨_, _, _, hcs⟩
  have each : ∀ i, i < n → ∃ y : Frm × (Option Addr × Nat × Nat), w.cell? (x.add (i * 2)) = some (.bool y.1.1) ∧ w.cell? ((x.add (i * 2)).add 1) = some (.slice y.2.1 y.2.2.1 y.2.2.2) ∧
      y.1.2.length = y.2.2.1 ∧ y.2.2.1 ≤ maxLen ∧ IntsAt w y.2.1 y.1.2 ∧ (∀ z ∈ y.1.2, Fits64 z) := by
    intro i hi
    obtain ⟨cs', hc, htr⟩ := hx i (by omega)
    rw [hC] at hc
    obtain ⟨_, hlen, hcell⟩ := World.cells?_some hc
    match cs', hlen with
    | [c0, c1], _ =>
      obtain ⟨y0, y1, n', _, _, t0, t1⟩ := trod_struct2 hs htr
      rw [o0, k0] at t0
      rw [o1, k1] at t1
      simp at t0 t1
      obtain ⟨kf, e0, _⟩ := DataW.trod_bool he0 t0
      simp at e0
      subst e0
      obtain ⟨ra, rn, rc, rfl⟩ := hsl he1 t1
      obtain ⟨l1, q1, q2, q3, q4⟩ := ints_opened he1 hq cq t1
      have hc0 := hcell 0 (by omega)
      rw [show (x.add (i * 2)).add 0 = x.add (i * 2) from rfl] at hc0
      exact ⟨((kf, l1), (ra, rn, rc)), by simpa using hc0, by simpa using hcell 1 (by omega), q1, q2, q3, q4⟩
  haveI : Inhabited (Frm × (Option Addr × Nat × Nat)) := ⟨((false, []), (none, 0, 0))⟩
  obtain ⟨y, hy⟩ := choose_lt each
  refine ⟨some x, n, cap, (List.range n).map fun i => (y i).1, rfl, by simp, by omega, fun j hj => ?_, fun z hz => ?_⟩
  · have hjn : j < n := by simpa using hj
    have hp := cell_plain (hy 0 (by omega)).1
    simp only [Addr.add, Nat.zero_mul, if_true] at hp
    obtain ⟨b, o, s⟩ := x
    have hs' : s = none := by have := hp.1; simp at this; exact this
    subst hs'
    obtain ⟨r0, r1, r3, r4, r5, r6⟩ := hy j hjn
    rw [add_plain] at r0 r1
    rw [add_plain] at r1
    refine ⟨b, o, (y j).2.1, (y j).2.2.1, (y j).2.2.2, rfl, hp.2, ?_, r1, ?_, r4, ?_⟩ <;> simp only [List.getElem_map, List.getElem_range] <;> assumption
  · obtain ⟨i, hi, rfl⟩ := List.mem_map.1 hz
    obtain ⟨r0, r1, r3, r4, r5, r6⟩ := hy i (List.mem_range.1 hi)
    exact r6
end
end Go.Proofs.Ytkmjeegnijohmaa

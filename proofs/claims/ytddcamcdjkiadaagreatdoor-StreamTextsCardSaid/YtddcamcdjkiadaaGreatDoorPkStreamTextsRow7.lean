/- Walks and plain laws for StreamTextsRow, part 7. -/
import Derived.Laws.EntriesVeiled
import Derived.Maps.OwnOps
import Derived.Maps.Views
import Derived.StringKeys
import Derived.Test.YtddcamcdjkiadaaGreatDoorPkStreamTextsRow6
namespace Go.Proofs.YtddcamcdjkiadaaGreatDoor
open Go.RowKit
set_option linter.unusedVariables false

set_option maxRecDepth 100000 in
set_option maxHeartbeats 2000000 in
theorem r8frame_c (w : World) (kf : Bool) (a2 a : Option Addr) (n2 cap2 n cap : Nat) (M : Mask) (l : List Int) (hn : M.length = n) (h1 : 1 ≤ n) (H : RowsAt w a M) (hn2 : l.length = n2) (hm2 : n2 ≤ maxLen) (H2 : IntsAt w a2 l) :
    Calls Tryz.prog 76 #[.slice a n cap, .agg #[.bool kf, .slice a2 n2 cap2]] w fun e w' => e = .returned (.bool (frB M (kf, l))) ∧ Below w.heap.size w w' := by
  obtain ⟨b, off, ra, rc, rfl, hb, hc⟩ := rows_head H (by omega)
  have i0 : (0 : Int) < (n : Int) := by omega
  have hbz : ∀ o : Obj, Below w.heap.size w (w.alloc o) := fun o => (Below.refl _ _).alloc (Nat.le_refl _) _
  have hcz : ∀ o : Obj, (w.alloc o).cell? ⟨b, off, none⟩ = some (.slice ra (colsM M) rc) := fun o => ((hbz o).cell (p := ⟨b, off, none⟩) hb).trans hc
  have HLP := hid (fun (o : Obj) q => r8list_c ((w.alloc o).drewN q) a2 n2 cap2 l hn2 hm2 (H2.below (below_drewN (hbz o) q)) (colsM M) 1000 (by omega) (by omega))
  have HLR := hid (fun (o : Obj) q => r8list_c ((w.alloc o).drewN q) a2 n2 cap2 l hn2 hm2 (H2.below (below_drewN (hbz o) q)) n 1000000 (by omega) (by omega))
  have hp1 : listB l (colsM M) 1000 = picB M l := listB_pic
  have hp2 : listB l n 1000000 = readB M l := by
    unfold listB readB milB
    congr 1
    rw [Bool.eq_iff_iff]; simp; omega
  have hp : frB M (kf, l) = (decide (n2 = 0) || (kf && picB M l) || (!kf && readB M l)) := by unfold frB readB; rw [hn2]
  rw [hp]
  rw [hp1] at HLP
  rw [hp2] at HLR
  have hd : ((n2 : Int) == 0) = decide (n2 = 0) := by rw [Bool.eq_iff_iff]; simp
  obtain ⟨D, hD⟩ : ∃ D, D = decide (n2 = 0) := ⟨_, rfl⟩
  obtain ⟨A, hA⟩ : ∃ A, A = picB M l := ⟨_, rfl⟩
  obtain ⟨R, hR⟩ : ∃ R, R = readB M l := ⟨_, rfl⟩
  obtain ⟨W, hW⟩ : ∃ W, W = colsM M := ⟨_, rfl⟩
  rw [← hD] at hd
  rw [← hA, ← hW] at HLP
  rw [← hR] at HLR
  rw [← hW] at hcz
  rw [← hD, ← hA, ← hR]
  have HBZ := hid hbz
  clear hp hp1 hp2 hD hA hR hW hn hn2 H H2 hc hbz
  cases D
  rotate_left
  ·
    have hb0 := HBZ.out (.cells #[.bool kf, .slice a2 n2 cap2] 73)
    have hc0 := hcz (.cells #[.bool kf, .slice a2 n2 cap2] 73)
    have hw0 : (w.alloc (.cells #[.bool kf, .slice a2 n2 cap2] 73)).heap[w.heap.size]? = some (.cells #[.bool kf, .slice a2 n2 cap2] 73 (0, 0)) := World.alloc_heap_new _ _
    have HLP0 := hid (fun q => HLP.out (.cells #[.bool kf, .slice a2 n2 cap2] 73) q)
    have HLR0 := hid (fun q => HLR.out (.cells #[.bool kf, .slice a2 n2 cap2] 73) q)
    clear hcz HLP HLR
    have HB0 := hid hb0
    have HC0 := hid hc0
    have HW0 := hid hw0
    clear hb0 hc0 hw0
    go_enter Tryz.func76, Tryz.ntmps76
    go_wp2
    refine plain_region (fun j w' => decide (j < 30) = true → w' = (w.alloc (.cells #[.bool kf, .slice a2 n2 cap2] 73)).drew) (by kernel_rfl) ?_
    have hb0 : Below w.heap.size w (w.alloc (.cells #[.bool kf, .slice a2 n2 cap2] 73)).drew := HB0.out.drew
    have hc0 : (w.alloc (.cells #[.bool kf, .slice a2 n2 cap2] 73)).drew.cell? ⟨b, off, none⟩ = some (.slice ra W rc) := HC0.out
    have hw0 : (w.alloc (.cells #[.bool kf, .slice a2 n2 cap2] 73)).drew.heap[w.heap.size]? = some (.cells #[.bool kf, .slice a2 n2 cap2] 73 (0, 0)) := HW0.out
    have HLP1 := hid (HLP0.out 1)
    have HLR1 := hid (HLR0.out 1)
    have e1 : (w.alloc (.cells #[.bool kf, .slice a2 n2 cap2] 73)).drewN 1 = (w.alloc (.cells #[.bool kf, .slice a2 n2 cap2] 73)).drew := rfl
    rw [e1] at HLP1 HLR1
    clear HLP0 HLR0 HB0 HC0 HW0 e1
    generalize (w.alloc (.cells #[.bool kf, .slice a2 n2 cap2] 73)).drew = wd at hb0 hc0 hw0 HLP1 HLR1 ⊢
    obtain ⟨q0, q1, _, _, _⟩ := box2_facts hw0
    have HB0 := hid hb0
    clear hb0 hw0
    refine AnyT.takeD (i := 0) (v := .pointer (some ⟨w.heap.size, 1, none⟩)) rfl rfl (by kernel_rfl) (by kernel_rfl) (by kernel_rfl) (by first | exact (fun _ _ _ h => h) | exact (fun _ _ _ h => absurd h.1 (by simp))) (by kernel_rfl) (by rfl) (by rintro w' rfl; go_simp) rfl ?_; go_frame
    refine AnyT.takeD (i := 1) (v := .slice a2 n2 cap2) rfl rfl (by kernel_rfl) (by kernel_rfl) (by kernel_rfl) (by first | exact (fun _ _ _ h => h) | exact (fun _ _ _ h => absurd h.1 (by simp))) (by kernel_rfl) (by rfl) (by rintro w' rfl; go_simp) rfl ?_; go_frame
    refine AnyT.takeD (i := 2) (v := .int .i64 n2) rfl rfl (by kernel_rfl) (by kernel_rfl) (by kernel_rfl) (by first | exact (fun _ _ _ h => h) | exact (fun _ _ _ h => absurd h.1 (by simp))) (by kernel_rfl) (by rfl) (by rintro w' rfl; go_simp) rfl ?_; go_frame
    refine AnyT.takeD (i := 3) (v := .bool true) rfl rfl (by kernel_rfl) (by kernel_rfl) (by kernel_rfl) (by first | exact (fun _ _ _ h => h) | exact (fun _ _ _ h => absurd h.1 (by simp))) (by kernel_rfl) (by rfl) (by rintro w' rfl; go_simp) rfl ?_; go_frame
    refine AnyT.takeD (i := 4) (v := .bool true) rfl rfl (by kernel_rfl) (by kernel_rfl) (by kernel_rfl) (by first | exact (fun _ _ _ h => h) | exact (fun _ _ _ h => absurd h.1 (by simp))) (by kernel_rfl) (by rfl) (by rintro w' rfl; go_simp) rfl ?_; go_frame
    refine AnyT.takeDN (i := 5) rfl rfl (by kernel_rfl) (by kernel_rfl) (by kernel_rfl) (by first | exact (fun _ _ _ h => h) | exact (fun _ _ _ h => absurd h.1 (by simp))) (by kernel_rfl) (by rfl) rfl ?_; go_frame
    refine AnyT.takeDN (i := 6) rfl rfl (by kernel_rfl) (by kernel_rfl) (by kernel_rfl) (by first | exact (fun _ _ _ h => h) | exact (fun _ _ _ h => absurd h.1 (by simp))) (by kernel_rfl) (by rfl) rfl ?_; go_frame
    refine AnyT.takeDN (i := 7) rfl rfl (by kernel_rfl) (by kernel_rfl) (by kernel_rfl) (by first | exact (fun _ _ _ h => h) | exact (fun _ _ _ h => absurd h.1 (by simp))) (by kernel_rfl) (by rfl) rfl ?_; go_frame
    refine AnyT.takeDN (i := 8) rfl rfl (by kernel_rfl) (by kernel_rfl) (by kernel_rfl) (by first | exact (fun _ _ _ h => h) | exact (fun _ _ _ h => absurd h.1 (by simp))) (by kernel_rfl) (by rfl) rfl ?_; go_frame
    refine AnyT.takeDN (i := 9) rfl rfl (by kernel_rfl) (by kernel_rfl) (by kernel_rfl) (by first | exact (fun _ _ _ h => h) | exact (fun _ _ _ h => absurd h.1 (by simp))) (by kernel_rfl) (by rfl) rfl ?_; go_frame
    refine AnyT.takeDN (i := 10) rfl rfl (by kernel_rfl) (by kernel_rfl) (by kernel_rfl) (by first | exact (fun _ _ _ h => h) | exact (fun _ _ _ h => absurd h.1 (by simp))) (by kernel_rfl) (by rfl) rfl ?_; go_frame
    refine AnyT.takeDN (i := 11) rfl rfl (by kernel_rfl) (by kernel_rfl) (by kernel_rfl) (by first | exact (fun _ _ _ h => h) | exact (fun _ _ _ h => absurd h.1 (by simp))) (by kernel_rfl) (by rfl) rfl ?_; go_frame
    refine AnyT.takeDN (i := 12) rfl rfl (by kernel_rfl) (by kernel_rfl) (by kernel_rfl) (by first | exact (fun _ _ _ h => h) | exact (fun _ _ _ h => absurd h.1 (by simp))) (by kernel_rfl) (by rfl) rfl ?_; go_frame
    refine AnyT.takeDN (i := 13) rfl rfl (by kernel_rfl) (by kernel_rfl) (by kernel_rfl) (by first | exact (fun _ _ _ h => h) | exact (fun _ _ _ h => absurd h.1 (by simp))) (by kernel_rfl) (by rfl) rfl ?_; go_frame
    refine AnyT.takeDN (i := 14) rfl rfl (by kernel_rfl) (by kernel_rfl) (by kernel_rfl) (by first | exact (fun _ _ _ h => h) | exact (fun _ _ _ h => absurd h.1 (by simp))) (by kernel_rfl) (by rfl) rfl ?_; go_frame
    refine AnyT.takeDN (i := 15) rfl rfl (by kernel_rfl) (by kernel_rfl) (by kernel_rfl) (by first | exact (fun _ _ _ h => h) | exact (fun _ _ _ h => absurd h.1 (by simp))) (by kernel_rfl) (by rfl) rfl ?_; go_frame
    refine AnyT.takeD (i := 16) (v := .bool true) rfl rfl (by kernel_rfl) (by kernel_rfl) (by kernel_rfl) (by first | exact (fun _ _ _ h => h) | exact (fun _ _ _ h => absurd h.1 (by simp))) (by kernel_rfl) (by rfl) (by rintro w' rfl; go_simp) rfl ?_; go_frame
    refine AnyT.takeD (i := 17) (v := .bool true) rfl rfl (by kernel_rfl) (by kernel_rfl) (by kernel_rfl) (by first | exact (fun _ _ _ h => h) | exact (fun _ _ _ h => absurd h.1 (by simp))) (by kernel_rfl) (by rfl) (by rintro w' rfl; go_simp) rfl ?_; go_frame
    refine AnyT.takeDN (i := 18) rfl rfl (by kernel_rfl) (by kernel_rfl) (by kernel_rfl) (by first | exact (fun _ _ _ h => h) | exact (fun _ _ _ h => absurd h.1 (by simp))) (by kernel_rfl) (by rfl) rfl ?_; go_frame
    refine AnyT.takeDN (i := 19) rfl rfl (by kernel_rfl) (by kernel_rfl) (by kernel_rfl) (by first | exact (fun _ _ _ h => h) | exact (fun _ _ _ h => absurd h.1 (by simp))) (by kernel_rfl) (by rfl) rfl ?_; go_frame
    refine AnyT.takeDN (i := 20) rfl rfl (by kernel_rfl) (by kernel_rfl) (by kernel_rfl) (by first | exact (fun _ _ _ h => h) | exact (fun _ _ _ h => absurd h.1 (by simp))) (by kernel_rfl) (by rfl) rfl ?_; go_frame
    refine AnyT.takeDN (i := 21) rfl rfl (by kernel_rfl) (by kernel_rfl) (by kernel_rfl) (by first | exact (fun _ _ _ h => h) | exact (fun _ _ _ h => absurd h.1 (by simp))) (by kernel_rfl) (by rfl) rfl ?_; go_frame
    refine AnyT.takeDN (i := 22) rfl rfl (by kernel_rfl) (by kernel_rfl) (by kernel_rfl) (by first | exact (fun _ _ _ h => h) | exact (fun _ _ _ h => absurd h.1 (by simp))) (by kernel_rfl) (by rfl) rfl ?_; go_frame
    refine AnyT.takeDN (i := 23) rfl rfl (by kernel_rfl) (by kernel_rfl) (by kernel_rfl) (by first | exact (fun _ _ _ h => h) | exact (fun _ _ _ h => absurd h.1 (by simp))) (by kernel_rfl) (by rfl) rfl ?_; go_frame
    refine AnyT.takeDN (i := 24) rfl rfl (by kernel_rfl) (by kernel_rfl) (by kernel_rfl) (by first | exact (fun _ _ _ h => h) | exact (fun _ _ _ h => absurd h.1 (by simp))) (by kernel_rfl) (by rfl) rfl ?_; go_frame
    refine AnyT.takeDN (i := 25) rfl rfl (by kernel_rfl) (by kernel_rfl) (by kernel_rfl) (by first | exact (fun _ _ _ h => h) | exact (fun _ _ _ h => absurd h.1 (by simp))) (by kernel_rfl) (by rfl) rfl ?_; go_frame
    refine AnyT.takeDN (i := 26) rfl rfl (by kernel_rfl) (by kernel_rfl) (by kernel_rfl) (by first | exact (fun _ _ _ h => h) | exact (fun _ _ _ h => absurd h.1 (by simp))) (by kernel_rfl) (by rfl) rfl ?_; go_frame
    refine AnyT.takeDN (i := 27) rfl rfl (by kernel_rfl) (by kernel_rfl) (by kernel_rfl) (by first | exact (fun _ _ _ h => h) | exact (fun _ _ _ h => absurd h.1 (by simp))) (by kernel_rfl) (by rfl) rfl ?_; go_frame
    refine AnyT.takeD (i := 28) (v := .bool true) rfl rfl (by kernel_rfl) (by kernel_rfl) (by kernel_rfl) (by first | exact (fun _ _ _ h => h) | exact (fun _ _ _ h => absurd h.1 (by simp))) (by kernel_rfl) (by rfl) (by rintro w' rfl; go_simp) rfl ?_; go_frame
    refine AnyT.takeD (i := 29) (v := .bool true) rfl rfl (by kernel_rfl) (by kernel_rfl) (by kernel_rfl) (by first | exact (fun _ _ _ h => h) | exact (fun _ _ _ h => absurd h.1 (by simp))) (by kernel_rfl) (by rfl) (by rintro w' rfl; go_simp) rfl ?_; go_frame
    refine ⟨by kernel_rfl, ?_⟩
    go_wp2
    go_ret
    exact ⟨by simp, HB0.out⟩
  · cases kf
    rotate_left
    ·
      have hb0 := HBZ.out (.cells #[.bool true, .slice a2 n2 cap2] 73)
      have hc0 := hcz (.cells #[.bool true, .slice a2 n2 cap2] 73)
      have hw0 : (w.alloc (.cells #[.bool true, .slice a2 n2 cap2] 73)).heap[w.heap.size]? = some (.cells #[.bool true, .slice a2 n2 cap2] 73 (0, 0)) := World.alloc_heap_new _ _
      have HLP0 := hid (fun q => HLP.out (.cells #[.bool true, .slice a2 n2 cap2] 73) q)
      have HLR0 := hid (fun q => HLR.out (.cells #[.bool true, .slice a2 n2 cap2] 73) q)
      clear hcz HLP HLR
      have HB0 := hid hb0
      have HC0 := hid hc0
      have HW0 := hid hw0
      clear hb0 hc0 hw0
      go_enter Tryz.func76, Tryz.ntmps76
      go_wp2
      refine plain_region (fun j w' => decide (j < 30) = true → w' = (w.alloc (.cells #[.bool true, .slice a2 n2 cap2] 73)).drew) (by kernel_rfl) ?_
      have hb0 : Below w.heap.size w (w.alloc (.cells #[.bool true, .slice a2 n2 cap2] 73)).drew := HB0.out.drew
      have hc0 : (w.alloc (.cells #[.bool true, .slice a2 n2 cap2] 73)).drew.cell? ⟨b, off, none⟩ = some (.slice ra W rc) := HC0.out
      have hw0 : (w.alloc (.cells #[.bool true, .slice a2 n2 cap2] 73)).drew.heap[w.heap.size]? = some (.cells #[.bool true, .slice a2 n2 cap2] 73 (0, 0)) := HW0.out
      have HLP1 := hid (HLP0.out 1)
      have HLR1 := hid (HLR0.out 1)
      have e1 : (w.alloc (.cells #[.bool true, .slice a2 n2 cap2] 73)).drewN 1 = (w.alloc (.cells #[.bool true, .slice a2 n2 cap2] 73)).drew := rfl
      rw [e1] at HLP1 HLR1
      clear HLP0 HLR0 HB0 HC0 HW0 e1
      generalize (w.alloc (.cells #[.bool true, .slice a2 n2 cap2] 73)).drew = wd at hb0 hc0 hw0 HLP1 HLR1 ⊢
      obtain ⟨q0, q1, _, _, _⟩ := box2_facts hw0
      have HB0 := hid hb0
      clear hb0 hw0
      refine AnyT.takeD (i := 0) (v := .pointer (some ⟨w.heap.size, 1, none⟩)) rfl rfl (by kernel_rfl) (by kernel_rfl) (by kernel_rfl) (by first | exact (fun _ _ _ h => h) | exact (fun _ _ _ h => absurd h.1 (by simp))) (by kernel_rfl) (by rfl) (by rintro w' rfl; go_simp) rfl ?_; go_frame
      refine AnyT.takeD (i := 1) (v := .slice a2 n2 cap2) rfl rfl (by kernel_rfl) (by kernel_rfl) (by kernel_rfl) (by first | exact (fun _ _ _ h => h) | exact (fun _ _ _ h => absurd h.1 (by simp))) (by kernel_rfl) (by rfl) (by rintro w' rfl; go_simp) rfl ?_; go_frame
      refine AnyT.takeD (i := 2) (v := .int .i64 n2) rfl rfl (by kernel_rfl) (by kernel_rfl) (by kernel_rfl) (by first | exact (fun _ _ _ h => h) | exact (fun _ _ _ h => absurd h.1 (by simp))) (by kernel_rfl) (by rfl) (by rintro w' rfl; go_simp) rfl ?_; go_frame
      refine AnyT.takeD (i := 3) (v := .bool false) rfl rfl (by kernel_rfl) (by kernel_rfl) (by kernel_rfl) (by first | exact (fun _ _ _ h => h) | exact (fun _ _ _ h => absurd h.1 (by simp))) (by kernel_rfl) (by rfl) (by rintro w' rfl; go_simp) rfl ?_; go_frame
      refine AnyT.takeD (i := 4) (v := .bool false) rfl rfl (by kernel_rfl) (by kernel_rfl) (by kernel_rfl) (by first | exact (fun _ _ _ h => h) | exact (fun _ _ _ h => absurd h.1 (by simp))) (by kernel_rfl) (by rfl) (by rintro w' rfl; go_simp) rfl ?_; go_frame
      refine AnyT.takeD (i := 5) (v := .pointer (some ⟨w.heap.size, 0, none⟩)) rfl rfl (by kernel_rfl) (by kernel_rfl) (by kernel_rfl) (by first | exact (fun _ _ _ h => h) | exact (fun _ _ _ h => absurd h.1 (by simp))) (by kernel_rfl) (by rfl) (by rintro w' rfl; go_simp) rfl ?_; go_frame
      refine AnyT.takeD (i := 6) (v := .bool true) rfl rfl (by kernel_rfl) (by kernel_rfl) (by kernel_rfl) (by first | exact (fun _ _ _ h => h) | exact (fun _ _ _ h => absurd h.1 (by simp))) (by kernel_rfl) (by rfl) (by rintro w' rfl; go_simp) rfl ?_; go_frame
      refine AnyT.takeD (i := 7) (v := .bool true) rfl rfl (by kernel_rfl) (by kernel_rfl) (by kernel_rfl) (by first | exact (fun _ _ _ h => h) | exact (fun _ _ _ h => absurd h.1 (by simp))) (by kernel_rfl) (by rfl) (by rintro w' rfl; go_simp) rfl ?_; go_frame
      refine AnyT.takeD (i := 8) (v := .pointer (some ⟨w.heap.size, 1, none⟩)) rfl rfl (by kernel_rfl) (by kernel_rfl) (by kernel_rfl) (by first | exact (fun _ _ _ h => h) | exact (fun _ _ _ h => absurd h.1 (by simp))) (by kernel_rfl) (by rfl) (by rintro w' rfl; go_simp) rfl ?_; go_frame
      refine AnyT.takeD (i := 9) (v := .slice a2 n2 cap2) rfl rfl (by kernel_rfl) (by kernel_rfl) (by kernel_rfl) (by first | exact (fun _ _ _ h => h) | exact (fun _ _ _ h => absurd h.1 (by simp))) (by kernel_rfl) (by rfl) (by rintro w' rfl; go_simp) rfl ?_; go_frame
      refine AnyT.takeD (i := 10) (v := .slice (some ⟨b, off, none⟩) n cap) rfl rfl (by kernel_rfl) (by kernel_rfl) (by kernel_rfl) (by first | exact (fun _ _ _ h => h) | exact (fun _ _ _ h => absurd h.1 (by simp))) (by kernel_rfl) (by rfl) (by rintro w' rfl; go_simp) rfl ?_; go_frame
      refine AnyT.takeD (i := 11) (v := .pointer (some ⟨b, off, none⟩)) rfl rfl (by kernel_rfl) (by kernel_rfl) (by kernel_rfl) (by first | exact (fun _ _ _ h => h) | exact (fun _ _ _ h => absurd h.1 (by simp))) (by kernel_rfl) (by rfl) (by rintro w' rfl; go_simp; intro h; exact absurd h (by omega)) rfl ?_; go_frame
      refine AnyT.takeD (i := 12) (v := .slice ra W rc) rfl rfl (by kernel_rfl) (by kernel_rfl) (by kernel_rfl) (by first | exact (fun _ _ _ h => h) | exact (fun _ _ _ h => absurd h.1 (by simp))) (by kernel_rfl) (by rfl) (by rintro w' rfl; go_simp) rfl ?_; go_frame
      refine AnyT.takeD (i := 13) (v := .int .i64 W) rfl rfl (by kernel_rfl) (by kernel_rfl) (by kernel_rfl) (by first | exact (fun _ _ _ h => h) | exact (fun _ _ _ h => absurd h.1 (by simp))) (by kernel_rfl) (by rfl) (by rintro w' rfl; go_simp) rfl ?_; go_frame
      refine AnyT.next (i := 14) (by kernel_rfl) rfl (wpOp_of_list rfl ?_)
      go_wp2_with (go_at_call 111; refine HLP1.out.mono ?_; rintro e w1 ⟨rfl, rfl⟩)
      refine ⟨fun _ => rfl, ?_⟩
      refine AnyT.takeD (i := 15) (v := .bool A) rfl rfl (by kernel_rfl) (by kernel_rfl) (by kernel_rfl) (by first | exact (fun _ _ _ h => h) | exact (fun _ _ _ h => absurd h.1 (by simp))) (by kernel_rfl) (by rfl) (by rintro w' rfl; go_simp) rfl ?_; go_frame
      refine AnyT.takeD (i := 16) (v := .bool A) rfl rfl (by kernel_rfl) (by kernel_rfl) (by kernel_rfl) (by first | exact (fun _ _ _ h => h) | exact (fun _ _ _ h => absurd h.1 (by simp))) (by kernel_rfl) (by rfl) (by rintro w' rfl; go_simp) rfl ?_; go_frame
      refine AnyT.takeD (i := 17) (v := .bool A) rfl rfl (by kernel_rfl) (by kernel_rfl) (by kernel_rfl) (by first | exact (fun _ _ _ h => h) | exact (fun _ _ _ h => absurd h.1 (by simp))) (by kernel_rfl) (by rfl) (by rintro w' rfl; go_simp) rfl ?_; go_frame
      cases A
      rotate_left
      ·
        refine AnyT.takeDN (i := 18) rfl rfl (by kernel_rfl) (by kernel_rfl) (by kernel_rfl) (by first | exact (fun _ _ _ h => h) | exact (fun _ _ _ h => absurd h.1 (by simp))) (by kernel_rfl) (by rfl) rfl ?_; go_frame
        refine AnyT.takeDN (i := 19) rfl rfl (by kernel_rfl) (by kernel_rfl) (by kernel_rfl) (by first | exact (fun _ _ _ h => h) | exact (fun _ _ _ h => absurd h.1 (by simp))) (by kernel_rfl) (by rfl) rfl ?_; go_frame
        refine AnyT.takeDN (i := 20) rfl rfl (by kernel_rfl) (by kernel_rfl) (by kernel_rfl) (by first | exact (fun _ _ _ h => h) | exact (fun _ _ _ h => absurd h.1 (by simp))) (by kernel_rfl) (by rfl) rfl ?_; go_frame
        refine AnyT.takeDN (i := 21) rfl rfl (by kernel_rfl) (by kernel_rfl) (by kernel_rfl) (by first | exact (fun _ _ _ h => h) | exact (fun _ _ _ h => absurd h.1 (by simp))) (by kernel_rfl) (by rfl) rfl ?_; go_frame
        refine AnyT.takeDN (i := 22) rfl rfl (by kernel_rfl) (by kernel_rfl) (by kernel_rfl) (by first | exact (fun _ _ _ h => h) | exact (fun _ _ _ h => absurd h.1 (by simp))) (by kernel_rfl) (by rfl) rfl ?_; go_frame
        refine AnyT.takeDN (i := 23) rfl rfl (by kernel_rfl) (by kernel_rfl) (by kernel_rfl) (by first | exact (fun _ _ _ h => h) | exact (fun _ _ _ h => absurd h.1 (by simp))) (by kernel_rfl) (by rfl) rfl ?_; go_frame
        refine AnyT.takeDN (i := 24) rfl rfl (by kernel_rfl) (by kernel_rfl) (by kernel_rfl) (by first | exact (fun _ _ _ h => h) | exact (fun _ _ _ h => absurd h.1 (by simp))) (by kernel_rfl) (by rfl) rfl ?_; go_frame
        refine AnyT.takeDN (i := 25) rfl rfl (by kernel_rfl) (by kernel_rfl) (by kernel_rfl) (by first | exact (fun _ _ _ h => h) | exact (fun _ _ _ h => absurd h.1 (by simp))) (by kernel_rfl) (by rfl) rfl ?_; go_frame
        refine AnyT.takeDN (i := 26) rfl rfl (by kernel_rfl) (by kernel_rfl) (by kernel_rfl) (by first | exact (fun _ _ _ h => h) | exact (fun _ _ _ h => absurd h.1 (by simp))) (by kernel_rfl) (by rfl) rfl ?_; go_frame
        refine AnyT.takeDN (i := 27) rfl rfl (by kernel_rfl) (by kernel_rfl) (by kernel_rfl) (by first | exact (fun _ _ _ h => h) | exact (fun _ _ _ h => absurd h.1 (by simp))) (by kernel_rfl) (by rfl) rfl ?_; go_frame
        refine AnyT.takeD (i := 28) (v := .bool true) rfl rfl (by kernel_rfl) (by kernel_rfl) (by kernel_rfl) (by first | exact (fun _ _ _ h => h) | exact (fun _ _ _ h => absurd h.1 (by simp))) (by kernel_rfl) (by rfl) (by rintro w' rfl; go_simp) rfl ?_; go_frame
        refine AnyT.takeD (i := 29) (v := .bool true) rfl rfl (by kernel_rfl) (by kernel_rfl) (by kernel_rfl) (by first | exact (fun _ _ _ h => h) | exact (fun _ _ _ h => absurd h.1 (by simp))) (by kernel_rfl) (by rfl) (by rintro w' rfl; go_simp) rfl ?_; go_frame
        refine ⟨by kernel_rfl, ?_⟩
        go_wp2
        go_ret
        exact ⟨by simp, HB0.out⟩
      ·
        refine AnyT.takeD (i := 18) (v := .pointer (some ⟨w.heap.size, 0, none⟩)) rfl rfl (by kernel_rfl) (by kernel_rfl) (by kernel_rfl) (by first | exact (fun _ _ _ h => h) | exact (fun _ _ _ h => absurd h.1 (by simp))) (by kernel_rfl) (by rfl) (by rintro w' rfl; go_simp) rfl ?_; go_frame
        refine AnyT.takeD (i := 19) (v := .bool true) rfl rfl (by kernel_rfl) (by kernel_rfl) (by kernel_rfl) (by first | exact (fun _ _ _ h => h) | exact (fun _ _ _ h => absurd h.1 (by simp))) (by kernel_rfl) (by rfl) (by rintro w' rfl; go_simp) rfl ?_; go_frame
        refine AnyT.takeD (i := 20) (v := .bool false) rfl rfl (by kernel_rfl) (by kernel_rfl) (by kernel_rfl) (by first | exact (fun _ _ _ h => h) | exact (fun _ _ _ h => absurd h.1 (by simp))) (by kernel_rfl) (by rfl) (by rintro w' rfl; go_simp) rfl ?_; go_frame
        refine AnyT.takeD (i := 21) (v := .bool false) rfl rfl (by kernel_rfl) (by kernel_rfl) (by kernel_rfl) (by first | exact (fun _ _ _ h => h) | exact (fun _ _ _ h => absurd h.1 (by simp))) (by kernel_rfl) (by rfl) (by rintro w' rfl; go_simp) rfl ?_; go_frame
        refine AnyT.takeDN (i := 22) rfl rfl (by kernel_rfl) (by kernel_rfl) (by kernel_rfl) (by first | exact (fun _ _ _ h => h) | exact (fun _ _ _ h => absurd h.1 (by simp))) (by kernel_rfl) (by rfl) rfl ?_; go_frame
        refine AnyT.takeDN (i := 23) rfl rfl (by kernel_rfl) (by kernel_rfl) (by kernel_rfl) (by first | exact (fun _ _ _ h => h) | exact (fun _ _ _ h => absurd h.1 (by simp))) (by kernel_rfl) (by rfl) rfl ?_; go_frame
        refine AnyT.takeDN (i := 24) rfl rfl (by kernel_rfl) (by kernel_rfl) (by kernel_rfl) (by first | exact (fun _ _ _ h => h) | exact (fun _ _ _ h => absurd h.1 (by simp))) (by kernel_rfl) (by rfl) rfl ?_; go_frame
        refine AnyT.takeDN (i := 25) rfl rfl (by kernel_rfl) (by kernel_rfl) (by kernel_rfl) (by first | exact (fun _ _ _ h => h) | exact (fun _ _ _ h => absurd h.1 (by simp))) (by kernel_rfl) (by rfl) rfl ?_; go_frame
        refine AnyT.takeDN (i := 26) rfl rfl (by kernel_rfl) (by kernel_rfl) (by kernel_rfl) (by first | exact (fun _ _ _ h => h) | exact (fun _ _ _ h => absurd h.1 (by simp))) (by kernel_rfl) (by rfl) rfl ?_; go_frame
        refine AnyT.takeD (i := 27) (v := .bool false) rfl rfl (by kernel_rfl) (by kernel_rfl) (by kernel_rfl) (by first | exact (fun _ _ _ h => h) | exact (fun _ _ _ h => absurd h.1 (by simp))) (by kernel_rfl) (by rfl) (by rintro w' rfl; go_simp) rfl ?_; go_frame
        refine AnyT.takeD (i := 28) (v := .bool false) rfl rfl (by kernel_rfl) (by kernel_rfl) (by kernel_rfl) (by first | exact (fun _ _ _ h => h) | exact (fun _ _ _ h => absurd h.1 (by simp))) (by kernel_rfl) (by rfl) (by rintro w' rfl; go_simp) rfl ?_; go_frame
        refine AnyT.takeD (i := 29) (v := .bool false) rfl rfl (by kernel_rfl) (by kernel_rfl) (by kernel_rfl) (by first | exact (fun _ _ _ h => h) | exact (fun _ _ _ h => absurd h.1 (by simp))) (by kernel_rfl) (by rfl) (by rintro w' rfl; go_simp) rfl ?_; go_frame
        refine ⟨by kernel_rfl, ?_⟩
        go_wp2
        go_ret
        exact ⟨by simp, HB0.out⟩
    ·
      have hb0 := HBZ.out (.cells #[.bool false, .slice a2 n2 cap2] 73)
      have hc0 := hcz (.cells #[.bool false, .slice a2 n2 cap2] 73)
      have hw0 : (w.alloc (.cells #[.bool false, .slice a2 n2 cap2] 73)).heap[w.heap.size]? = some (.cells #[.bool false, .slice a2 n2 cap2] 73 (0, 0)) := World.alloc_heap_new _ _
      have HLP0 := hid (fun q => HLP.out (.cells #[.bool false, .slice a2 n2 cap2] 73) q)
      have HLR0 := hid (fun q => HLR.out (.cells #[.bool false, .slice a2 n2 cap2] 73) q)
      clear hcz HLP HLR
      have HB0 := hid hb0
      have HC0 := hid hc0
      have HW0 := hid hw0
      clear hb0 hc0 hw0
      go_enter Tryz.func76, Tryz.ntmps76
      go_wp2
      refine plain_region (fun j w' => decide (j < 30) = true → w' = (w.alloc (.cells #[.bool false, .slice a2 n2 cap2] 73)).drew) (by kernel_rfl) ?_
      have hb0 : Below w.heap.size w (w.alloc (.cells #[.bool false, .slice a2 n2 cap2] 73)).drew := HB0.out.drew
      have hc0 : (w.alloc (.cells #[.bool false, .slice a2 n2 cap2] 73)).drew.cell? ⟨b, off, none⟩ = some (.slice ra W rc) := HC0.out
      have hw0 : (w.alloc (.cells #[.bool false, .slice a2 n2 cap2] 73)).drew.heap[w.heap.size]? = some (.cells #[.bool false, .slice a2 n2 cap2] 73 (0, 0)) := HW0.out
      have HLP1 := hid (HLP0.out 1)
      have HLR1 := hid (HLR0.out 1)
      have e1 : (w.alloc (.cells #[.bool false, .slice a2 n2 cap2] 73)).drewN 1 = (w.alloc (.cells #[.bool false, .slice a2 n2 cap2] 73)).drew := rfl
      rw [e1] at HLP1 HLR1
      clear HLP0 HLR0 HB0 HC0 HW0 e1
      generalize (w.alloc (.cells #[.bool false, .slice a2 n2 cap2] 73)).drew = wd at hb0 hc0 hw0 HLP1 HLR1 ⊢
      obtain ⟨q0, q1, _, _, _⟩ := box2_facts hw0
      have HB0 := hid hb0
      clear hb0 hw0
      refine AnyT.takeD (i := 0) (v := .pointer (some ⟨w.heap.size, 1, none⟩)) rfl rfl (by kernel_rfl) (by kernel_rfl) (by kernel_rfl) (by first | exact (fun _ _ _ h => h) | exact (fun _ _ _ h => absurd h.1 (by simp))) (by kernel_rfl) (by rfl) (by rintro w' rfl; go_simp) rfl ?_; go_frame
      refine AnyT.takeD (i := 1) (v := .slice a2 n2 cap2) rfl rfl (by kernel_rfl) (by kernel_rfl) (by kernel_rfl) (by first | exact (fun _ _ _ h => h) | exact (fun _ _ _ h => absurd h.1 (by simp))) (by kernel_rfl) (by rfl) (by rintro w' rfl; go_simp) rfl ?_; go_frame
      refine AnyT.takeD (i := 2) (v := .int .i64 n2) rfl rfl (by kernel_rfl) (by kernel_rfl) (by kernel_rfl) (by first | exact (fun _ _ _ h => h) | exact (fun _ _ _ h => absurd h.1 (by simp))) (by kernel_rfl) (by rfl) (by rintro w' rfl; go_simp) rfl ?_; go_frame
      refine AnyT.takeD (i := 3) (v := .bool false) rfl rfl (by kernel_rfl) (by kernel_rfl) (by kernel_rfl) (by first | exact (fun _ _ _ h => h) | exact (fun _ _ _ h => absurd h.1 (by simp))) (by kernel_rfl) (by rfl) (by rintro w' rfl; go_simp) rfl ?_; go_frame
      refine AnyT.takeD (i := 4) (v := .bool false) rfl rfl (by kernel_rfl) (by kernel_rfl) (by kernel_rfl) (by first | exact (fun _ _ _ h => h) | exact (fun _ _ _ h => absurd h.1 (by simp))) (by kernel_rfl) (by rfl) (by rintro w' rfl; go_simp) rfl ?_; go_frame
      refine AnyT.takeD (i := 5) (v := .pointer (some ⟨w.heap.size, 0, none⟩)) rfl rfl (by kernel_rfl) (by kernel_rfl) (by kernel_rfl) (by first | exact (fun _ _ _ h => h) | exact (fun _ _ _ h => absurd h.1 (by simp))) (by kernel_rfl) (by rfl) (by rintro w' rfl; go_simp) rfl ?_; go_frame
      refine AnyT.takeD (i := 6) (v := .bool false) rfl rfl (by kernel_rfl) (by kernel_rfl) (by kernel_rfl) (by first | exact (fun _ _ _ h => h) | exact (fun _ _ _ h => absurd h.1 (by simp))) (by kernel_rfl) (by rfl) (by rintro w' rfl; go_simp) rfl ?_; go_frame
      refine AnyT.takeD (i := 7) (v := .bool false) rfl rfl (by kernel_rfl) (by kernel_rfl) (by kernel_rfl) (by first | exact (fun _ _ _ h => h) | exact (fun _ _ _ h => absurd h.1 (by simp))) (by kernel_rfl) (by rfl) (by rintro w' rfl; go_simp) rfl ?_; go_frame
      refine AnyT.takeDN (i := 8) rfl rfl (by kernel_rfl) (by kernel_rfl) (by kernel_rfl) (by first | exact (fun _ _ _ h => h) | exact (fun _ _ _ h => absurd h.1 (by simp))) (by kernel_rfl) (by rfl) rfl ?_; go_frame
      refine AnyT.takeDN (i := 9) rfl rfl (by kernel_rfl) (by kernel_rfl) (by kernel_rfl) (by first | exact (fun _ _ _ h => h) | exact (fun _ _ _ h => absurd h.1 (by simp))) (by kernel_rfl) (by rfl) rfl ?_; go_frame
      refine AnyT.takeDN (i := 10) rfl rfl (by kernel_rfl) (by kernel_rfl) (by kernel_rfl) (by first | exact (fun _ _ _ h => h) | exact (fun _ _ _ h => absurd h.1 (by simp))) (by kernel_rfl) (by rfl) rfl ?_; go_frame
      refine AnyT.takeDN (i := 11) rfl rfl (by kernel_rfl) (by kernel_rfl) (by kernel_rfl) (by first | exact (fun _ _ _ h => h) | exact (fun _ _ _ h => absurd h.1 (by simp))) (by kernel_rfl) (by rfl) rfl ?_; go_frame
      refine AnyT.takeDN (i := 12) rfl rfl (by kernel_rfl) (by kernel_rfl) (by kernel_rfl) (by first | exact (fun _ _ _ h => h) | exact (fun _ _ _ h => absurd h.1 (by simp))) (by kernel_rfl) (by rfl) rfl ?_; go_frame
      refine AnyT.takeDN (i := 13) rfl rfl (by kernel_rfl) (by kernel_rfl) (by kernel_rfl) (by first | exact (fun _ _ _ h => h) | exact (fun _ _ _ h => absurd h.1 (by simp))) (by kernel_rfl) (by rfl) rfl ?_; go_frame
      refine AnyT.takeDN (i := 14) rfl rfl (by kernel_rfl) (by kernel_rfl) (by kernel_rfl) (by first | exact (fun _ _ _ h => h) | exact (fun _ _ _ h => absurd h.1 (by simp))) (by kernel_rfl) (by rfl) rfl ?_; go_frame
      refine AnyT.takeD (i := 15) (v := .bool false) rfl rfl (by kernel_rfl) (by kernel_rfl) (by kernel_rfl) (by first | exact (fun _ _ _ h => h) | exact (fun _ _ _ h => absurd h.1 (by simp))) (by kernel_rfl) (by rfl) (by rintro w' rfl; go_simp) rfl ?_; go_frame
      refine AnyT.takeD (i := 16) (v := .bool false) rfl rfl (by kernel_rfl) (by kernel_rfl) (by kernel_rfl) (by first | exact (fun _ _ _ h => h) | exact (fun _ _ _ h => absurd h.1 (by simp))) (by kernel_rfl) (by rfl) (by rintro w' rfl; go_simp) rfl ?_; go_frame
      refine AnyT.takeD (i := 17) (v := .bool false) rfl rfl (by kernel_rfl) (by kernel_rfl) (by kernel_rfl) (by first | exact (fun _ _ _ h => h) | exact (fun _ _ _ h => absurd h.1 (by simp))) (by kernel_rfl) (by rfl) (by rintro w' rfl; go_simp) rfl ?_; go_frame
      refine AnyT.takeD (i := 18) (v := .pointer (some ⟨w.heap.size, 0, none⟩)) rfl rfl (by kernel_rfl) (by kernel_rfl) (by kernel_rfl) (by first | exact (fun _ _ _ h => h) | exact (fun _ _ _ h => absurd h.1 (by simp))) (by kernel_rfl) (by rfl) (by rintro w' rfl; go_simp) rfl ?_; go_frame
      refine AnyT.takeD (i := 19) (v := .bool false) rfl rfl (by kernel_rfl) (by kernel_rfl) (by kernel_rfl) (by first | exact (fun _ _ _ h => h) | exact (fun _ _ _ h => absurd h.1 (by simp))) (by kernel_rfl) (by rfl) (by rintro w' rfl; go_simp) rfl ?_; go_frame
      refine AnyT.takeD (i := 20) (v := .bool true) rfl rfl (by kernel_rfl) (by kernel_rfl) (by kernel_rfl) (by first | exact (fun _ _ _ h => h) | exact (fun _ _ _ h => absurd h.1 (by simp))) (by kernel_rfl) (by rfl) (by rintro w' rfl; go_simp) rfl ?_; go_frame
      refine AnyT.takeD (i := 21) (v := .bool true) rfl rfl (by kernel_rfl) (by kernel_rfl) (by kernel_rfl) (by first | exact (fun _ _ _ h => h) | exact (fun _ _ _ h => absurd h.1 (by simp))) (by kernel_rfl) (by rfl) (by rintro w' rfl; go_simp) rfl ?_; go_frame
      refine AnyT.takeD (i := 22) (v := .pointer (some ⟨w.heap.size, 1, none⟩)) rfl rfl (by kernel_rfl) (by kernel_rfl) (by kernel_rfl) (by first | exact (fun _ _ _ h => h) | exact (fun _ _ _ h => absurd h.1 (by simp))) (by kernel_rfl) (by rfl) (by rintro w' rfl; go_simp) rfl ?_; go_frame
      refine AnyT.takeD (i := 23) (v := .slice a2 n2 cap2) rfl rfl (by kernel_rfl) (by kernel_rfl) (by kernel_rfl) (by first | exact (fun _ _ _ h => h) | exact (fun _ _ _ h => absurd h.1 (by simp))) (by kernel_rfl) (by rfl) (by rintro w' rfl; go_simp) rfl ?_; go_frame
      refine AnyT.takeD (i := 24) (v := .slice (some ⟨b, off, none⟩) n cap) rfl rfl (by kernel_rfl) (by kernel_rfl) (by kernel_rfl) (by first | exact (fun _ _ _ h => h) | exact (fun _ _ _ h => absurd h.1 (by simp))) (by kernel_rfl) (by rfl) (by rintro w' rfl; go_simp) rfl ?_; go_frame
      refine AnyT.takeD (i := 25) (v := .int .i64 n) rfl rfl (by kernel_rfl) (by kernel_rfl) (by kernel_rfl) (by first | exact (fun _ _ _ h => h) | exact (fun _ _ _ h => absurd h.1 (by simp))) (by kernel_rfl) (by rfl) (by rintro w' rfl; go_simp) rfl ?_; go_frame
      refine AnyT.next (i := 26) (by kernel_rfl) rfl (wpOp_of_list rfl ?_)
      go_wp2_with (go_at_call 111; refine HLR1.out.mono ?_; rintro e w1 ⟨rfl, rfl⟩)
      refine ⟨fun _ => rfl, ?_⟩
      refine AnyT.takeD (i := 27) (v := .bool R) rfl rfl (by kernel_rfl) (by kernel_rfl) (by kernel_rfl) (by first | exact (fun _ _ _ h => h) | exact (fun _ _ _ h => absurd h.1 (by simp))) (by kernel_rfl) (by rfl) (by rintro w' rfl; go_simp) rfl ?_; go_frame
      refine AnyT.takeD (i := 28) (v := .bool R) rfl rfl (by kernel_rfl) (by kernel_rfl) (by kernel_rfl) (by first | exact (fun _ _ _ h => h) | exact (fun _ _ _ h => absurd h.1 (by simp))) (by kernel_rfl) (by rfl) (by rintro w' rfl; go_simp) rfl ?_; go_frame
      refine AnyT.takeD (i := 29) (v := .bool R) rfl rfl (by kernel_rfl) (by kernel_rfl) (by kernel_rfl) (by first | exact (fun _ _ _ h => h) | exact (fun _ _ _ h => absurd h.1 (by simp))) (by kernel_rfl) (by rfl) (by rintro w' rfl; go_simp) rfl ?_; go_frame
      refine ⟨by kernel_rfl, ?_⟩
      go_wp2
      go_ret
      exact ⟨by simp, HB0.out⟩
end Go.Proofs.YtddcamcdjkiadaaGreatDoor

namespace Go.Proofs.YtddcamcdjkiadaaGreatDoor
open Go.RowKit
set_option linter.unusedVariables false

def encE (M : Mask) (p : List (List Int)) (every : Int) : Int := if picsB M p = true then (if inB every 1 60 = true then 0 else 7) else 1

set_option maxHeartbeats 1000000 in
theorem sEncode_c (w : World) (a a2 : Option Addr) (n cap n2 cap2 : Nat) (M : Mask) (p : List (List Int)) (every : Int) (hn : M.length = n) (hm : n ≤ maxLen) (H : RowsAt w a M) (hn2 : p.length = n2) (hm2 : n2 ≤ maxLen) (H2 : RowsAt w a2 p) :
    Calls Tryz.prog 36 #[.slice a n cap, .slice a2 n2 cap2, .int .i64 every] w fun e w' => Below w.heap.size w w' ∧
      ((encE M p every ≠ 0 ∧ e = .returned (.tuple #[.slice none 0 0, .int .i64 (encE M p every)])) ∨ (encE M p every = 0 ∧ ∃ v base, e = .returned (.tuple #[v, .int .i64 0]) ∧ w.heap.size ≤ base ∧ FrmsO w' base (fun _ => True) v (encF M p every.toNat))) := by
  have HV := hid (validPics_c w a n cap M hn hm H a2 n2 cap2 p hn2 hm2 H2)
  have HW := hid (fun X => swithin_c every 1 60 X)
  cases hP : picsB M p
  · have he : encE M p every = 1 := by unfold encE; rw [hP]; rfl
    rw [hP] at HV
    rw [he]
    clear hn H hn2 H2 hP he
    go_enter Tryz.func36, Tryz.ntmps36
    go_wp2_with (go_at_call 64; refine HV.out.mono ?_; rintro e w1 ⟨rfl, hb1⟩)
    go_ret2
    exact ⟨hb1, .inl ⟨by decide, rfl⟩⟩
  · cases hE : inB every 1 60
    · have he : encE M p every = 7 := by unfold encE; rw [hP, hE]; rfl
      rw [hP] at HV
      rw [hE] at HW
      rw [he]
      clear hn H hn2 H2 hP he hE
      go_enter Tryz.func36, Tryz.ntmps36
      go_wp2_with first
        | (go_at_call 64; refine HV.out.mono ?_; rintro e w1 ⟨rfl, hb1⟩)
        | (go_at_call 45; refine (HW.out _).mono ?_; rintro e w2 ⟨rfl, rfl⟩)
      go_ret2
      exact ⟨hb1, .inl ⟨by decide, rfl⟩⟩
    · have he : encE M p every = 0 := by unfold encE; rw [hP, hE]; rfl
      have hE' : 1 ≤ every ∧ every ≤ 60 := by unfold inB at hE; simpa using hE
      obtain ⟨E, rfl⟩ : ∃ E : Nat, every = (E : Int) := ⟨every.toNat, by omega⟩
      have HC := hid (fun (X : World) (hX : Below w.heap.size w X) => encode_c X a a2 n cap n2 cap2 M p E hn hn2 hm (H.below hX) (H2.below hX) hP (by omega) (by omega))
      rw [hP] at HV
      rw [hE] at HW
      rw [he, Int.toNat_natCast]
      clear hn H hn2 H2 hP he hE hE'
      go_enter Tryz.func36, Tryz.ntmps36
      go_wp2_with first
        | (go_at_call 64; refine HV.out.mono ?_; rintro e w1 ⟨rfl, hb1⟩)
        | (go_at_call 45; refine (HW.out _).mono ?_; rintro e w2 ⟨rfl, rfl⟩)
        | (go_at_call 65; refine (HC.out _ hb1).mono ?_; rintro e w3 ⟨v3, rfl, ho3, hb3⟩)
      go_ret2
      exact ⟨chain hb1 hb3, .inr ⟨trivial, v3, w1.heap.size, rfl, hb1.size, ho3⟩⟩
end Go.Proofs.YtddcamcdjkiadaaGreatDoor

namespace Go.Proofs.YtddcamcdjkiadaaGreatDoor
open Go.RowKit
set_option linter.unusedVariables false

set_option maxRecDepth 100000 in
set_option maxHeartbeats 2000000 in
theorem r8valid_c (w : World) (a : Option Addr) (n cap : Nat) (M : Mask) (hn : M.length = n) (hm : n ≤ maxLen) (H : RowsAt w a M) (a2 : Option Addr) (n2 cap2 : Nat) (fs : List Frm) (hn2 : fs.length = n2) (hm2 : n2 ≤ maxLen) (H2 : FramesAt w a2 fs) :
    Calls Tryz.prog 43 #[.slice a n cap, .slice a2 n2 cap2] w fun e w' => e = .returned (.bool (validB M fs)) ∧ Below w.heap.size w w' := by
  have HV := hid (r2Valid_c w a n cap M hn hm H)
  have HW := hid (fun X => r8in_c n2 1 60 X)
  cases hM : okM M
  · have hp : validB M fs = false := by unfold validB; rw [hM]; rfl
    rw [hM] at HV
    rw [hp]
    clear hn hn2 H H2 hM hp
    go_enter Tryz.func43, Tryz.ntmps43
    go_wp2_with (go_at_call 42; refine HV.out.mono ?_; rintro e w1 ⟨rfl, rfl⟩)
    go_ret
    exact ⟨rfl, Below.refl _ _⟩
  · cases hL : inB n2 1 60
    · have hp : validB M fs = false := by unfold validB; rw [hM, hn2, hL]; rfl
      rw [hM] at HV
      rw [hL] at HW
      rw [hp]
      clear hn hn2 H H2 hM hp hL
      go_enter Tryz.func43, Tryz.ntmps43
      go_wp2_with first
        | (go_at_call 42; refine HV.out.mono ?_; rintro e w1 ⟨rfl, rfl⟩)
        | (go_at_call 75; refine (HW.out _).mono ?_; rintro e w2 ⟨rfl, rfl⟩)
      go_ret
      exact ⟨rfl, Below.refl _ _⟩
    · have hl1 : 1 ≤ n2 ∧ n2 ≤ 60 := by unfold inB at hL; simp at hL; omega
      obtain ⟨hl1, hn60⟩ := hl1
      obtain ⟨fb, fo, xa, xn, xc, rfl, hfb, hf0, hf1, hxn, hxm, hxi⟩ := H2 0 (by omega)
      rw [Nat.zero_mul, Nat.add_zero] at hf0 hf1
      obtain ⟨K, hK⟩ : ∃ K, K = (fs[0]'(by omega)).1 := ⟨_, rfl⟩
      rw [← hK] at hf0
      have hK2 : (fs[0]?.getD (false, [])).1 = K := by rw [hK, List.getElem?_eq_getElem (by omega)]; rfl
      have i0 : (0 : Int) < (n2 : Int) := by omega
      have hp : validB M fs = (K && fs.all (frB M)) := by unfold validB; rw [hM, hn2, hL, hK2]; rfl
      have h1 : 1 ≤ n := by rw [← hn]; exact (okM_ok hM).2.1
      have HP2 := hid H2
      have HFR := hid (fun (X : World) (hX : Below w.heap.size w X) (kf : Bool) (ra : Option Addr) (rn rc : Nat) (x : List Int) (hrn : x.length = rn) (hrm : rn ≤ maxLen) (hri : IntsAt X ra x) => r8frame_c X kf ra a rn rc n cap M x hn h1 (H.below hX) hrn hrm hri)
      have HN2 := hid hn2
      rw [hM] at HV
      rw [hL] at HW
      rw [hp]
      clear hn hn2 H H2 hM hp hL hK hK2 hf1 hxn hxm hxi
      cases K
      · go_enter Tryz.func43, Tryz.ntmps43
        go_wp2_with first
          | (go_at_call 42; refine HV.out.mono ?_; rintro e w1 ⟨rfl, rfl⟩)
          | (go_at_call 75; refine (HW.out _).mono ?_; rintro e w2 ⟨rfl, rfl⟩)
        go_ret
        exact ⟨rfl, Below.refl _ _⟩
      · go_enter Tryz.func43, Tryz.ntmps43
        go_wp2_with first
          | (go_at_call 42; refine HV.out.mono ?_; rintro e w1 ⟨rfl, rfl⟩)
          | (go_at_call 75; refine (HW.out _).mono ?_; rintro e w2 ⟨rfl, rfl⟩)
        clear hf0 hfb
        go_loopw [25] (fun i wr => ∃ k : Nat, k ≤ n2 ∧ i = .int .i64 k ∧ Below w.heap.size w wr ∧ ∀ j (hj : j < fs.length), j < k → frB M fs[j] = true) (fun i _ => n2 - (intOf i).toNat)
        case atStart => exact ⟨0, Nat.zero_le _, rfl, Below.refl _ _, fun i _ h => by omega⟩
        case round =>
          obtain ⟨k, hk, rfl, hb, hno⟩ := hrel
          have HNO := hid hno
          clear hno
          by_cases hlt : k < n2
          · have hkl : k < fs.length := by rw [HN2.out]; exact hlt
            obtain ⟨pb, po, ya, yn, yc, e1, hpb, hp0, hp1, hyn, hym, hyi⟩ := (HP2.out.below hb) k hkl
            cases e1
            obtain ⟨⟨kf, x⟩, hr⟩ : ∃ r, r = fs[k]'hkl := ⟨_, rfl⟩
            rw [← hr] at hp0 hyn hyi
            simp only [] at hp0 hyn hyi
            have hba : ∀ o : Obj, Below wr.heap.size wr (wr.alloc o) := fun o => (Below.refl _ _).alloc (Nat.le_refl _) _
            have HF2 := hid (fun (o : Obj) => HFR.out (wr.alloc o) (chain hb (hba o)) kf ya yn yc x hyn hym (hyi.below (hba o)))
            obtain ⟨B, hB⟩ : ∃ B, B = frB M (kf, x) := ⟨_, rfl⟩
            rw [← hB] at HF2
            rw [hr] at hB
            have HBB := hid hB
            have HKL := hid hkl
            have HBA := hid hba
            have HB := hid hb
            clear hB hyn hyi hr hba hb
            cases B
            · go_wp2_with (go_at_call 76; refine (HF2.out _).mono ?_; rintro e w1 ⟨rfl, hb1⟩)
              go_ret
              refine ⟨ret_bool ?_, chain (chain HB.out (HBA.out _)) hb1⟩
              rw [allP_stop HKL.out HBB.out.symm]; rfl
            · go_wp2_with (go_at_call 76; refine (HF2.out _).mono ?_; rintro e w1 ⟨rfl, hb1⟩)
              refine ⟨⟨k + 1, by omega, by go_num, chain (chain HB.out (HBA.out _)) hb1, fun j hj hjk => ?_⟩, by simp [intOf]; omega⟩
              by_cases e : j = k
              · subst e; exact HBB.out.symm
              · exact HNO.out j hj (by omega)
          · go_wp2
            go_ret
            refine ⟨ret_bool ?_, hb⟩
            rw [allP_done (fun j hj => HNO.out j hj (by have := HN2.out; omega))]; rfl
end Go.Proofs.YtddcamcdjkiadaaGreatDoor

namespace Go.Proofs.YtddcamcdjkiadaaGreatDoor
open Go.RowKit Go.Shelf
set_option linter.unusedVariables false

theorem lineS_take (b : Bool) (l : List Int) (k : Nat) (hk : k < l.length) : lineS (b, l.take (k + 1)) = lineS (b, l.take k) ++ (32 :: Lib.itoa l[k]) := by
  unfold lineS
  rw [List.take_succ_eq_append_getElem hk, List.flatMap_append]; simp
theorem frmBox (w : World) (kf : Bool) (a : Option Addr) (n cap : Nat) : ∃ wz, wz = w.alloc (.cells #[.bool kf, .slice a n cap] 73) ∧ Below w.heap.size w wz ∧ ∀ X, Below wz.heap.size wz X → X.cell? ⟨w.heap.size, 0, none⟩ = some (.bool kf) ∧ X.cell? ⟨w.heap.size, 1, none⟩ = some (.slice a n cap) := by
  refine ⟨_, rfl, (Below.refl _ _).alloc (Nat.le_refl _) _, fun X hX => ?_⟩
  have c0 : (w.alloc (.cells #[.bool kf, .slice a n cap] 73)).cell? ⟨w.heap.size, 0, none⟩ = some (.bool kf) := by rw [World.cell?_alloc_at _ _ _ _ rfl]; rfl
  have c1 : (w.alloc (.cells #[.bool kf, .slice a n cap] 73)).cell? ⟨w.heap.size, 1, none⟩ = some (.slice a n cap) := by rw [World.cell?_alloc_at _ _ _ _ rfl]; rfl
  exact ⟨(hX.cell (p := ⟨w.heap.size, 0, none⟩) (by simp)).trans c0, (hX.cell (p := ⟨w.heap.size, 1, none⟩) (by simp)).trans c1⟩

set_option maxRecDepth 100000 in
set_option maxHeartbeats 4000000 in
theorem swritten_c (w : World) (ht : Tab w) (kf : Bool) (a : Option Addr) (n cap : Nat) (l : List Int) (hn : l.length = n) (hm : n ≤ 65537) (H : IntsAt w a l) (hi : ∀ x ∈ l, isInt x) :
    Calls Tryz.prog 41 #[.agg #[.bool kf, .slice a n cap]] w fun e w' => e = .returned (.string ⟨(lineL (kf, l)).toArray⟩) ∧ Below w.heap.size w w' := by
  obtain ⟨wz, hwz, hbz, hcz⟩ := frmBox w kf a n cap
  have HWZ := hid hwz
  have HBZ := hid hbz
  have HN := hid hn
  have HH := hid (H.below hbz)
  have HT := hid (ht.below hbz)
  have HI := hid hi
  have key : ∀ (k0 : Bool), k0 = kf → Hid ((⟨(lineS (k0, l.take 0)).toArray⟩ : ByteArray) = ⟨(wordK k0).toArray⟩) := fun k0 _ => hid (by simp [lineS])
  obtain ⟨c0, c1⟩ := hcz wz (Below.refl _ _)
  have KEY := hid (key kf rfl)
  clear hn H ht hi hbz key hcz
  cases kf
  · go_enter Tryz.func41, Tryz.ntmps41
    go_wp2_with fail
    rw [← HWZ.out]
    clear hwz
    go_wp2
    clear c0 c1
    go_loopw [3, 11] (fun s i wr => ∃ (k : Nat) (S : ByteArray), k ≤ n ∧ i = .int .i64 k ∧ s = .string S ∧ S.size ≤ 4 + 22 * k ∧ Hid (S = ⟨(lineS (false, l.take k)).toArray⟩) ∧ Below wz.heap.size wz wr) (fun _ i _ => n - (intOf i).toNat)
    case atStart => exact ⟨0, _, Nat.zero_le _, rfl, rfl, by decide, hid KEY.out.out.symm, Below.refl _ _⟩
    case round =>
      obtain ⟨k, S, hk, rfl, rfl, hS, HS, hb⟩ := hrel
      by_cases hlt : k < n
      · have hkl : k < l.length := by rw [HN.out]; exact hlt
        obtain ⟨b, off, rfl, hbs, hc⟩ := (HH.out.below hb) k hkl
        have hx : l[k]?.getD 0 = l[k] := by rw [List.getElem?_eq_getElem hkl]; rfl
        obtain ⟨X, hX⟩ : ∃ X, X = l[k]?.getD 0 := ⟨_, rfl⟩
        rw [← hX] at hc
        have hXi : isInt X := by rw [hX, hx]; exact HI.out _ (List.getElem_mem hkl)
        have HC := hid (itoa_c X hXi wr (HT.out.below hb))
        have hlen := Lib.itoa_length_le X hXi.1 hXi.2
        have htk := lineS_take false l k hkl
        rw [← hx, ← hX] at htk
        obtain ⟨I, hI⟩ : ∃ I : ByteArray, I = ⟨(Lib.itoa X).toArray⟩ := ⟨_, rfl⟩
        have hIs : I.size ≤ 21 := by rw [hI]; simpa [ByteArray.size] using hlen
        rw [← hI] at HC
        have hsp : (⟨#[32]⟩ : ByteArray).size = 1 := rfl
        obtain ⟨J, hJ⟩ : ∃ J : ByteArray, J = ⟨#[32]⟩ ++ I := ⟨_, rfl⟩
        have hJs : J.size ≤ 22 := by rw [hJ, ByteArray.size_append, hsp]; omega
        have hr1 : ∀ w, (Op.stringOp .add ⟨#[32]⟩ I).run Tryz.prog w = .ok (.string J) w := fun w => by rw [run_string_add_sum w _ _ (by rw [hsp]; omega), hJ]
        obtain ⟨R, hR⟩ : ∃ R : ByteArray, R = S ++ J := ⟨_, rfl⟩
        have hRs : R.size ≤ 4 + 22 * (k + 1) := by rw [hR, ByteArray.size_append]; omega
        have hr2 : ∀ w, (Op.stringOp .add S J).run Tryz.prog w = .ok (.string R) w := fun w => by rw [run_string_add_sum w _ _ (by omega), hR]
        have hnew : Hid (R = ⟨(lineS (false, l.take (k + 1))).toArray⟩) := hid (by
          rw [htk, hR, hJ, HS.out, hI]
          rw [show (⟨#[32]⟩ : ByteArray) = ⟨[32].toArray⟩ from rfl, bytes_app, bytes_app]; rfl)
        clear hR hJ hI hX hx htk hlen hJs hIs hkl hXi hsp
        go_wp2_with (go_at_call 59; refine HC.out.mono ?_; rintro e w1 ⟨rfl, hb1⟩)
        exact ⟨⟨k + 1, R, by omega, by go_num, rfl, hRs, hnew, chain hb hb1⟩, by simp [intOf]; omega⟩
      · obtain rfl : k = n := by omega
        obtain ⟨R, hR⟩ : ∃ R : ByteArray, R = S ++ ⟨#[10]⟩ := ⟨_, rfl⟩
        have hr3 : ∀ w, (Op.stringOp .add S ⟨#[10]⟩).run Tryz.prog w = .ok (.string R) w := fun w => by rw [run_string_add_sum w _ _ (by rw [show (⟨#[10]⟩ : ByteArray).size = 1 from rfl]; omega), hR]
        have HR := hid (show R = ⟨(lineL (false, l)).toArray⟩ by
          rw [hR, HS.out, List.take_of_length_le (by have := HN.out; omega), show (⟨#[10]⟩ : ByteArray) = ⟨[10].toArray⟩ from rfl, bytes_app]; rfl)
        clear hR
        go_wp2
        go_ret
        exact ⟨by rw [HR.out]; rfl, chain HBZ.out hb⟩
  · go_enter Tryz.func41, Tryz.ntmps41
    go_wp2_with fail
    rw [← HWZ.out]
    clear hwz
    go_wp2
    clear c0 c1
    go_loopw [3, 11] (fun s i wr => ∃ (k : Nat) (S : ByteArray), k ≤ n ∧ i = .int .i64 k ∧ s = .string S ∧ S.size ≤ 4 + 22 * k ∧ Hid (S = ⟨(lineS (true, l.take k)).toArray⟩) ∧ Below wz.heap.size wz wr) (fun _ i _ => n - (intOf i).toNat)
    case atStart => exact ⟨0, _, Nat.zero_le _, rfl, rfl, by decide, hid KEY.out.out.symm, Below.refl _ _⟩
    case round =>
      obtain ⟨k, S, hk, rfl, rfl, hS, HS, hb⟩ := hrel
      by_cases hlt : k < n
      · have hkl : k < l.length := by rw [HN.out]; exact hlt
        obtain ⟨b, off, rfl, hbs, hc⟩ := (HH.out.below hb) k hkl
        have hx : l[k]?.getD 0 = l[k] := by rw [List.getElem?_eq_getElem hkl]; rfl
        obtain ⟨X, hX⟩ : ∃ X, X = l[k]?.getD 0 := ⟨_, rfl⟩
        rw [← hX] at hc
        have hXi : isInt X := by rw [hX, hx]; exact HI.out _ (List.getElem_mem hkl)
        have HC := hid (itoa_c X hXi wr (HT.out.below hb))
        have hlen := Lib.itoa_length_le X hXi.1 hXi.2
        have htk := lineS_take true l k hkl
        rw [← hx, ← hX] at htk
        obtain ⟨I, hI⟩ : ∃ I : ByteArray, I = ⟨(Lib.itoa X).toArray⟩ := ⟨_, rfl⟩
        have hIs : I.size ≤ 21 := by rw [hI]; simpa [ByteArray.size] using hlen
        rw [← hI] at HC
        have hsp : (⟨#[32]⟩ : ByteArray).size = 1 := rfl
        obtain ⟨J, hJ⟩ : ∃ J : ByteArray, J = ⟨#[32]⟩ ++ I := ⟨_, rfl⟩
        have hJs : J.size ≤ 22 := by rw [hJ, ByteArray.size_append, hsp]; omega
        have hr1 : ∀ w, (Op.stringOp .add ⟨#[32]⟩ I).run Tryz.prog w = .ok (.string J) w := fun w => by rw [run_string_add_sum w _ _ (by rw [hsp]; omega), hJ]
        obtain ⟨R, hR⟩ : ∃ R : ByteArray, R = S ++ J := ⟨_, rfl⟩
        have hRs : R.size ≤ 4 + 22 * (k + 1) := by rw [hR, ByteArray.size_append]; omega
        have hr2 : ∀ w, (Op.stringOp .add S J).run Tryz.prog w = .ok (.string R) w := fun w => by rw [run_string_add_sum w _ _ (by omega), hR]
        have hnew : Hid (R = ⟨(lineS (true, l.take (k + 1))).toArray⟩) := hid (by
          rw [htk, hR, hJ, HS.out, hI]
          rw [show (⟨#[32]⟩ : ByteArray) = ⟨[32].toArray⟩ from rfl, bytes_app, bytes_app]; rfl)
        clear hR hJ hI hX hx htk hlen hJs hIs hkl hXi hsp
        go_wp2_with (go_at_call 59; refine HC.out.mono ?_; rintro e w1 ⟨rfl, hb1⟩)
        exact ⟨⟨k + 1, R, by omega, by go_num, rfl, hRs, hnew, chain hb hb1⟩, by simp [intOf]; omega⟩
      · obtain rfl : k = n := by omega
        obtain ⟨R, hR⟩ : ∃ R : ByteArray, R = S ++ ⟨#[10]⟩ := ⟨_, rfl⟩
        have hr3 : ∀ w, (Op.stringOp .add S ⟨#[10]⟩).run Tryz.prog w = .ok (.string R) w := fun w => by rw [run_string_add_sum w _ _ (by rw [show (⟨#[10]⟩ : ByteArray).size = 1 from rfl]; omega), hR]
        have HR := hid (show R = ⟨(lineL (true, l)).toArray⟩ by
          rw [hR, HS.out, List.take_of_length_le (by have := HN.out; omega), show (⟨#[10]⟩ : ByteArray) = ⟨[10].toArray⟩ from rfl, bytes_app]; rfl)
        clear hR
        go_wp2
        go_ret
        exact ⟨by rw [HR.out]; rfl, chain HBZ.out hb⟩

set_option maxRecDepth 100000 in
set_option maxHeartbeats 4000000 in
theorem sline_c (w : World) (ht : Tab w) (kf : Bool) (a : Option Addr) (n cap : Nat) (l : List Int) (hn : l.length = n) (hm : n ≤ 65537) (H : IntsAt w a l) (hi : ∀ x ∈ l, isInt x) :
    Calls Tryz.prog 44 #[.agg #[.bool kf, .slice a n cap]] w fun e w' => e = .returned (.string ⟨(lineS (kf, l)).toArray⟩) ∧ Below w.heap.size w w' := by
  obtain ⟨wz, hwz, hbz, hcz⟩ := frmBox w kf a n cap
  have HWZ := hid hwz
  have HBZ := hid hbz
  have HN := hid hn
  have HH := hid (H.below hbz)
  have HT := hid (ht.below hbz)
  have HI := hid hi
  have key : ∀ (k0 : Bool), k0 = kf → Hid ((⟨(lineS (k0, l.take 0)).toArray⟩ : ByteArray) = ⟨(wordK k0).toArray⟩) := fun k0 _ => hid (by simp [lineS])
  obtain ⟨c0, c1⟩ := hcz wz (Below.refl _ _)
  have KEY := hid (key kf rfl)
  clear hn H ht hi hbz key hcz
  cases kf
  · go_enter Tryz.func44, Tryz.ntmps44
    go_wp2_with fail
    rw [← HWZ.out]
    clear hwz
    go_wp2
    clear c0 c1
    go_loopw [3, 11] (fun s i wr => ∃ (k : Nat) (S : ByteArray), k ≤ n ∧ i = .int .i64 k ∧ s = .string S ∧ S.size ≤ 4 + 22 * k ∧ Hid (S = ⟨(lineS (false, l.take k)).toArray⟩) ∧ Below wz.heap.size wz wr) (fun _ i _ => n - (intOf i).toNat)
    case atStart => exact ⟨0, _, Nat.zero_le _, rfl, rfl, by decide, hid KEY.out.out.symm, Below.refl _ _⟩
    case round =>
      obtain ⟨k, S, hk, rfl, rfl, hS, HS, hb⟩ := hrel
      by_cases hlt : k < n
      · have hkl : k < l.length := by rw [HN.out]; exact hlt
        obtain ⟨b, off, rfl, hbs, hc⟩ := (HH.out.below hb) k hkl
        have hx : l[k]?.getD 0 = l[k] := by rw [List.getElem?_eq_getElem hkl]; rfl
        obtain ⟨X, hX⟩ : ∃ X, X = l[k]?.getD 0 := ⟨_, rfl⟩
        rw [← hX] at hc
        have hXi : isInt X := by rw [hX, hx]; exact HI.out _ (List.getElem_mem hkl)
        have HC := hid (itoa_c X hXi wr (HT.out.below hb))
        have hlen := Lib.itoa_length_le X hXi.1 hXi.2
        have htk := lineS_take false l k hkl
        rw [← hx, ← hX] at htk
        obtain ⟨I, hI⟩ : ∃ I : ByteArray, I = ⟨(Lib.itoa X).toArray⟩ := ⟨_, rfl⟩
        have hIs : I.size ≤ 21 := by rw [hI]; simpa [ByteArray.size] using hlen
        rw [← hI] at HC
        have hsp : (⟨#[32]⟩ : ByteArray).size = 1 := rfl
        obtain ⟨J, hJ⟩ : ∃ J : ByteArray, J = ⟨#[32]⟩ ++ I := ⟨_, rfl⟩
        have hJs : J.size ≤ 22 := by rw [hJ, ByteArray.size_append, hsp]; omega
        have hr1 : ∀ w, (Op.stringOp .add ⟨#[32]⟩ I).run Tryz.prog w = .ok (.string J) w := fun w => by rw [run_string_add_sum w _ _ (by rw [hsp]; omega), hJ]
        obtain ⟨R, hR⟩ : ∃ R : ByteArray, R = S ++ J := ⟨_, rfl⟩
        have hRs : R.size ≤ 4 + 22 * (k + 1) := by rw [hR, ByteArray.size_append]; omega
        have hr2 : ∀ w, (Op.stringOp .add S J).run Tryz.prog w = .ok (.string R) w := fun w => by rw [run_string_add_sum w _ _ (by omega), hR]
        have hnew : Hid (R = ⟨(lineS (false, l.take (k + 1))).toArray⟩) := hid (by
          rw [htk, hR, hJ, HS.out, hI]
          rw [show (⟨#[32]⟩ : ByteArray) = ⟨[32].toArray⟩ from rfl, bytes_app, bytes_app]; rfl)
        clear hR hJ hI hX hx htk hlen hJs hIs hkl hXi hsp
        go_wp2_with (go_at_call 59; refine HC.out.mono ?_; rintro e w1 ⟨rfl, hb1⟩)
        exact ⟨⟨k + 1, R, by omega, by go_num, rfl, hRs, hnew, chain hb hb1⟩, by simp [intOf]; omega⟩
      · obtain rfl : k = n := by omega
        have HR := hid (show S = ⟨(lineS (false, l)).toArray⟩ by rw [HS.out, List.take_of_length_le (by have := HN.out; omega)])
        go_wp2
        go_ret
        exact ⟨by rw [HR.out]; rfl, chain HBZ.out hb⟩
  · go_enter Tryz.func44, Tryz.ntmps44
    go_wp2_with fail
    rw [← HWZ.out]
    clear hwz
    go_wp2
    clear c0 c1
    go_loopw [3, 11] (fun s i wr => ∃ (k : Nat) (S : ByteArray), k ≤ n ∧ i = .int .i64 k ∧ s = .string S ∧ S.size ≤ 4 + 22 * k ∧ Hid (S = ⟨(lineS (true, l.take k)).toArray⟩) ∧ Below wz.heap.size wz wr) (fun _ i _ => n - (intOf i).toNat)
    case atStart => exact ⟨0, _, Nat.zero_le _, rfl, rfl, by decide, hid KEY.out.out.symm, Below.refl _ _⟩
    case round =>
      obtain ⟨k, S, hk, rfl, rfl, hS, HS, hb⟩ := hrel
      by_cases hlt : k < n
      · have hkl : k < l.length := by rw [HN.out]; exact hlt
        obtain ⟨b, off, rfl, hbs, hc⟩ := (HH.out.below hb) k hkl
        have hx : l[k]?.getD 0 = l[k] := by rw [List.getElem?_eq_getElem hkl]; rfl
        obtain ⟨X, hX⟩ : ∃ X, X = l[k]?.getD 0 := ⟨_, rfl⟩
        rw [← hX] at hc
        have hXi : isInt X := by rw [hX, hx]; exact HI.out _ (List.getElem_mem hkl)
        have HC := hid (itoa_c X hXi wr (HT.out.below hb))
        have hlen := Lib.itoa_length_le X hXi.1 hXi.2
        have htk := lineS_take true l k hkl
        rw [← hx, ← hX] at htk
        obtain ⟨I, hI⟩ : ∃ I : ByteArray, I = ⟨(Lib.itoa X).toArray⟩ := ⟨_, rfl⟩
        have hIs : I.size ≤ 21 := by rw [hI]; simpa [ByteArray.size] using hlen
        rw [← hI] at HC
        have hsp : (⟨#[32]⟩ : ByteArray).size = 1 := rfl
        obtain ⟨J, hJ⟩ : ∃ J : ByteArray, J = ⟨#[32]⟩ ++ I := ⟨_, rfl⟩
        have hJs : J.size ≤ 22 := by rw [hJ, ByteArray.size_append, hsp]; omega
        have hr1 : ∀ w, (Op.stringOp .add ⟨#[32]⟩ I).run Tryz.prog w = .ok (.string J) w := fun w => by rw [run_string_add_sum w _ _ (by rw [hsp]; omega), hJ]
        obtain ⟨R, hR⟩ : ∃ R : ByteArray, R = S ++ J := ⟨_, rfl⟩
        have hRs : R.size ≤ 4 + 22 * (k + 1) := by rw [hR, ByteArray.size_append]; omega
        have hr2 : ∀ w, (Op.stringOp .add S J).run Tryz.prog w = .ok (.string R) w := fun w => by rw [run_string_add_sum w _ _ (by omega), hR]
        have hnew : Hid (R = ⟨(lineS (true, l.take (k + 1))).toArray⟩) := hid (by
          rw [htk, hR, hJ, HS.out, hI]
          rw [show (⟨#[32]⟩ : ByteArray) = ⟨[32].toArray⟩ from rfl, bytes_app, bytes_app]; rfl)
        clear hR hJ hI hX hx htk hlen hJs hIs hkl hXi hsp
        go_wp2_with (go_at_call 59; refine HC.out.mono ?_; rintro e w1 ⟨rfl, hb1⟩)
        exact ⟨⟨k + 1, R, by omega, by go_num, rfl, hRs, hnew, chain hb hb1⟩, by simp [intOf]; omega⟩
      · obtain rfl : k = n := by omega
        have HR := hid (show S = ⟨(lineS (true, l)).toArray⟩ by rw [HS.out, List.take_of_length_le (by have := HN.out; omega)])
        go_wp2
        go_ret
        exact ⟨by rw [HR.out]; rfl, chain HBZ.out hb⟩
end Go.Proofs.YtddcamcdjkiadaaGreatDoor

namespace Go.Proofs.YtddcamcdjkiadaaGreatDoor
open Go.RowKit Go.Shelf
set_option linter.unusedVariables false

theorem valid_frames {M : Mask} {fs : List Frm} (h : validB M fs = true) : okM M = true ∧ 1 ≤ fs.length ∧ fs.length ≤ 60 ∧ ∀ x ∈ fs, x.2.length ≤ 10 ∧ ∀ n ∈ x.2, isInt n := by
  unfold validB at h
  simp only [Bool.and_eq_true, List.all_eq_true] at h
  obtain ⟨⟨⟨h1, h2⟩, _⟩, h4⟩ := h
  obtain ⟨_, _, hl6, _, hc10⟩ := okM_ok h1
  unfold inB at h2
  simp only [Bool.and_eq_true, decide_eq_true_eq] at h2
  refine ⟨h1, by omega, by omega, fun x hx => ⟨?_, fun n hn => frame_bd (h4 x hx) n hn⟩⟩
  have := h4 x hx
  unfold frB at this
  simp only [Bool.or_eq_true, Bool.and_eq_true, decide_eq_true_eq] at this
  rcases this with (h | h) | h
  · omega
  · have h2 := h.2
    unfold picB at h2
    simp only [Bool.and_eq_true, decide_eq_true_eq] at h2
    omega
  · have := h.2.1; omega
theorem lineL_len {x : Frm} (h1 : x.2.length ≤ 10) (h2 : ∀ n ∈ x.2, isInt n) : (lineL x).length ≤ 230 := by
  have key : ∀ l : List Int, (∀ n ∈ l, isInt n) → ((l.map Lib.itoa).flatMap (fun w => 32 :: w)).length ≤ 22 * l.length := by
    intro l
    induction l with
    | nil => intro _; simp
    | cons x l ih =>
      intro h
      have h3 := Lib.itoa_length_le x (h x (by simp)).1 (h x (by simp)).2
      have h4 := ih (fun n hn => h n (by simp [hn]))
      rw [List.map_cons, List.flatMap_cons, List.length_append, List.length_cons, List.length_cons]
      omega
  obtain ⟨b, l⟩ := x
  have e : lineL (b, l) = wordK b ++ (l.map Lib.itoa).flatMap (fun w => 32 :: w) ++ [10] := by
    unfold lineL lineS; rw [List.flatMap_map]
  have h3 := key l h2
  have h4 : (wordK b).length ≤ 4 := by cases b <;> decide
  rw [e, List.length_append, List.length_append, List.length_singleton]
  simp only [] at h1
  omega
theorem linesL_len : ∀ {t : List Frm}, (∀ x ∈ t, (lineL x).length ≤ 230) → (t.flatMap lineL).length ≤ 230 * t.length
  | [], _ => by simp
  | x :: t, h => by
    have := linesL_len (t := t) fun y hy => h y (by simp [hy])
    have := h x (by simp)
    rw [List.flatMap_cons, List.length_append, List.length_cons]; omega

set_option maxRecDepth 100000 in
set_option maxHeartbeats 4000000 in
theorem sFormat_c (w : World) (ht : Tab w) (a : Option Addr) (n cap : Nat) (M : Mask) (hn : M.length = n) (hm : n ≤ maxLen) (H : RowsAt w a M) (a2 : Option Addr) (n2 cap2 : Nat) (fs : List Frm) (hn2 : fs.length = n2) (hm2 : n2 ≤ maxLen) (H2 : FramesAt w a2 fs) :
    Calls Tryz.prog 18 #[.slice a n cap, .slice a2 n2 cap2] w fun e w' => e = .returned (.string ⟨(formatS M fs).toArray⟩) ∧ Below w.heap.size w w' := by
  have HV := hid (svalid_c w a n cap M hn hm H a2 n2 cap2 fs hn2 hm2 H2)
  cases hv : validB M fs
  · have HE := hid (show formatS M fs = [] by unfold formatS; rw [hv]; rfl)
    rw [hv] at HV
    clear hn H hn2 H2 ht hv
    go_enter Tryz.func18, Tryz.ntmps18
    go_wp2_with (go_at_call 20; refine HV.out.mono ?_; rintro e w1 ⟨rfl, hb1⟩)
    go_ret
    exact ⟨by rw [HE.out]; rfl, hb1⟩
  obtain ⟨_, v1, v2, v3⟩ := valid_frames hv
  have HE := hid (show formatS M fs = fs.flatMap lineL by unfold formatS; rw [hv]; rfl)
  have HLEN := hid (fun k => show ((fs.take k).flatMap lineL).length ≤ 230 * 60 from by
    have h1 := linesL_len (t := fs.take k) fun x hx => lineL_len (v3 x (List.mem_of_mem_take hx)).1 (v3 x (List.mem_of_mem_take hx)).2
    have : (fs.take k).length ≤ 60 := by rw [List.length_take]; omega
    omega)
  have HN := hid hn2
  have HH := hid H2
  have HFT := hid v3
  have hn60 : n2 ≤ 60 := by omega
  have HTAB := hid ht
  rw [hv] at HV
  clear hn H hn2 H2 ht hv v1 v2 v3
  go_enter Tryz.func18, Tryz.ntmps18
  go_wp2_with (go_at_call 20; refine HV.out.mono ?_; rintro e w1 ⟨rfl, hb1⟩)
  have HB1 := hid hb1
  clear hb1
  go_loopw [14] (fun i wr => ∃ k : Nat, k ≤ n2 ∧ i = .int .i64 k ∧ Lib.IsBuilder 70 5 w1.heap.size w1.heap.size (Lib.byteCells ((fs.take k).flatMap lineL)) wr ∧ Below w1.heap.size w1 wr) (fun i _ => n2 - (intOf i).toNat)
  case atStart => exact ⟨0, Nat.zero_le _, rfl, Lib.fresh_isBuilder _ _ w1, (Below.refl _ _).alloc (Nat.le_refl _) _⟩
  case round =>
    obtain ⟨k, hk, rfl, hI, hbk⟩ := hrel
    by_cases hlt : k < n2
    · have hkl : k < fs.length := by rw [HN.out]; exact hlt
      have hbw := chain HB1.out hbk
      obtain ⟨b, off, ra, rn, rc, rfl, hbs, h0, h1, hrn, hrm, hri⟩ := (HH.out.below hbw) k hkl
      obtain ⟨q1, q2⟩ := HFT.out fs[k] (List.getElem_mem hkl)
      have htk : (fs.take (k + 1)).flatMap lineL = (fs.take k).flatMap lineL ++ lineL fs[k] := by rw [List.take_succ_eq_append_getElem hkl, List.flatMap_append]; simp
      have hwl := lineL_len q1 q2
      obtain ⟨x, hx⟩ : ∃ x, x = fs[k]'hkl := ⟨_, rfl⟩
      rw [← hx] at h0 hrn hri q1 q2 htk hwl
      obtain ⟨kf, l⟩ := x
      simp only [] at h0 hrn hri q1 q2
      obtain ⟨wt, hwt, hb0, hcells⟩ := frmBox wr kf ra rn rc
      have HWr := hid (swritten_c wt (HTAB.out.below (chain hbw hb0)) kf ra rn rc l hrn (by omega) (hri.below hb0) q2)
      obtain ⟨S, hS⟩ : ∃ S : ByteArray, S = ⟨(lineL (kf, l)).toArray⟩ := ⟨_, rfl⟩
      have hSz : S.size ≤ 230 := by rw [hS, bytes_size]; exact hwl
      rw [← hS] at HWr
      obtain ⟨f0, f1⟩ := hcells wt (Below.refl _ _)
      have hIt := isB_below hI hb0
      have HI := hid hIt
      have HWT := hid hwt
      have HB0 := hid (chain hbk hb0)
      have HS := hid hS
      have HTK := hid htk
      have HL := hid (HLEN.out k)
      have M1 := hid hbk.size
      clear hI hIt hwt hb0 hcells hrn hri q1 q2 htk hwl hx hS hbw hbk hkl
      go_wp2_with fail
      rw [← HWT.out]
      go_wp2_with (first
        | (go_at_call 41; refine HWr.out.mono ?_; rintro e w2 ⟨rfl, hb2⟩)
        | (go_at_call 33; refine (writeString_c w1.heap.size w1.heap.size _ S w2 (isB_below HI.out hb2) (by have := HL.out; rw [Lib.byteCells_length]; omega) (Nat.le_trans M1.out (Nat.le_trans (by rw [HWT.out]; simp <;> omega) hb2.size))).mono ?_; rintro e w3 ⟨rfl, hI3, hb3⟩; refine Stop.of ?_))
      refine Stop.go ?_
      have HI3 := hid hI3
      have HB3 := hid ((chain HB0.out hb2).trans hb3)
      clear hI3 hb3 hb2
      go_wp2
      refine ⟨⟨k + 1, by omega, by go_num, ?_, HB3.out⟩, by simp [intOf]; omega⟩
      rw [HTK.out, Lib.byteCells_append]
      have := HI3.out
      rw [HS.out] at this
      exact this
    · obtain rfl : k = n2 := by omega
      have hall : fs.take k = fs := List.take_of_length_le (by have := HN.out; omega)
      rw [hall] at hI
      have HI := hid hI
      have M1 := hid hbk.size
      have HBK := hid hbk
      clear hI hall hbk
      go_wp2_with (go_at_call 34; refine (Tryz.Builder_String_any w1.heap.size w1.heap.size (fs.flatMap lineL) wr HI.out M1.out).mono ?_; rintro e w2 ⟨rfl, hb2⟩)
      go_ret
      exact ⟨by rw [HE.out]; rfl, chain HB1.out (HBK.out.trans hb2)⟩

set_option maxRecDepth 100000 in
set_option maxHeartbeats 4000000 in
theorem r8Format_c (w : World) (ht : Tab w) (a : Option Addr) (n cap : Nat) (M : Mask) (hn : M.length = n) (hm : n ≤ maxLen) (H : RowsAt w a M) (a2 : Option Addr) (n2 cap2 : Nat) (fs : List Frm) (hn2 : fs.length = n2) (hm2 : n2 ≤ maxLen) (H2 : FramesAt w a2 fs) :
    Calls Tryz.prog 19 #[.slice a n cap, .slice a2 n2 cap2] w fun e w' => e = .returned (.string ⟨(formatS M fs).toArray⟩) ∧ Below w.heap.size w w' := by
  have HV := hid (r8valid_c w a n cap M hn hm H a2 n2 cap2 fs hn2 hm2 H2)
  cases hv : validB M fs
  · have HE := hid (show formatS M fs = [] by unfold formatS; rw [hv]; rfl)
    rw [hv] at HV
    clear hn H hn2 H2 ht hv
    go_enter Tryz.func19, Tryz.ntmps19
    go_wp2_with (go_at_call 43; refine HV.out.mono ?_; rintro e w1 ⟨rfl, hb1⟩)
    go_ret
    exact ⟨by rw [HE.out]; rfl, hb1⟩
  obtain ⟨_, v1, v2, v3⟩ := valid_frames hv
  have HE := hid (show formatS M fs = fs.flatMap lineL by unfold formatS; rw [hv]; rfl)
  have HN := hid hn2
  have HH := hid H2
  have HFT := hid v3
  have hn60 : n2 ≤ 60 := by omega
  have HTAB := hid ht
  rw [hv] at HV
  clear hn H hn2 H2 ht hv v1 v2 v3
  go_enter Tryz.func19, Tryz.ntmps19
  go_wp2_with (go_at_call 43; refine HV.out.mono ?_; rintro e w1 ⟨rfl, hb1⟩)
  have HB1 := hid hb1
  clear hb1
  go_loopw [5, 14] (fun s i wr => ∃ (k : Nat) (S : ByteArray), k ≤ n2 ∧ i = .int .i64 k ∧ s = .string S ∧ S.size ≤ 230 * k ∧ Hid (S = ⟨((fs.take k).flatMap lineL).toArray⟩) ∧ Below w1.heap.size w1 wr) (fun _ i _ => n2 - (intOf i).toNat)
  case atStart => exact ⟨0, _, Nat.zero_le _, rfl, rfl, by simp [ByteArray.size], hid rfl, Below.refl _ _⟩
  case round =>
    obtain ⟨k, S, hk, rfl, rfl, hS, HS, hbk⟩ := hrel
    by_cases hlt : k < n2
    · have hkl : k < fs.length := by rw [HN.out]; exact hlt
      have hbw := chain HB1.out hbk
      obtain ⟨b, off, ra, rn, rc, rfl, hbs, h0, h1, hrn, hrm, hri⟩ := (HH.out.below hbw) k hkl
      obtain ⟨q1, q2⟩ := HFT.out fs[k] (List.getElem_mem hkl)
      have htk : (fs.take (k + 1)).flatMap lineL = (fs.take k).flatMap lineL ++ lineL fs[k] := by rw [List.take_succ_eq_append_getElem hkl, List.flatMap_append]; simp
      have hwl := lineL_len q1 q2
      obtain ⟨x, hx⟩ : ∃ x, x = fs[k]'hkl := ⟨_, rfl⟩
      rw [← hx] at h0 hrn hri q1 q2 htk hwl
      obtain ⟨kf, l⟩ := x
      simp only [] at h0 hrn hri q1 q2
      obtain ⟨wt, hwt, hb0, hcells⟩ := frmBox wr kf ra rn rc
      have HLn := hid (sline_c wt (HTAB.out.below (chain hbw hb0)) kf ra rn rc l hrn (by omega) (hri.below hb0) q2)
      obtain ⟨I, hI⟩ : ∃ I : ByteArray, I = ⟨(lineS (kf, l)).toArray⟩ := ⟨_, rfl⟩
      have hIz : I.size ≤ 229 := by rw [hI, bytes_size]; unfold lineL at hwl; rw [List.length_append, List.length_singleton] at hwl; omega
      rw [← hI] at HLn
      obtain ⟨J, hJ⟩ : ∃ J : ByteArray, J = I ++ ⟨#[10]⟩ := ⟨_, rfl⟩
      have hsp : (⟨#[10]⟩ : ByteArray).size = 1 := rfl
      have hJs : J.size ≤ 230 := by rw [hJ, ByteArray.size_append, hsp]; omega
      have hr1 : ∀ w, (Op.stringOp .add I ⟨#[10]⟩).run Tryz.prog w = .ok (.string J) w := fun w => by rw [run_string_add_sum w _ _ (by rw [hsp]; omega), hJ]
      obtain ⟨R, hR⟩ : ∃ R : ByteArray, R = S ++ J := ⟨_, rfl⟩
      have hRs : R.size ≤ 230 * (k + 1) := by rw [hR, ByteArray.size_append]; omega
      have hr2 : ∀ w, (Op.stringOp .add S J).run Tryz.prog w = .ok (.string R) w := fun w => by rw [run_string_add_sum w _ _ (by omega), hR]
      have hnew : Hid (R = ⟨((fs.take (k + 1)).flatMap lineL).toArray⟩) := hid (by
        rw [hR, hJ, hI, HS.out, htk]
        rw [show (⟨#[10]⟩ : ByteArray) = ⟨[10].toArray⟩ from rfl, bytes_app, bytes_app]; rfl)
      obtain ⟨f0, f1⟩ := hcells wt (Below.refl _ _)
      have HWT := hid hwt
      have HB0 := hid (chain hbk hb0)
      clear hR hJ hI hx htk hwl hIz hsp hJs hwt hb0 hcells hrn hri q1 q2 hkl hbk hbw
      go_wp2_with fail
      rw [← HWT.out]
      go_wp2_with (go_at_call 44; refine HLn.out.mono ?_; rintro e w2 ⟨rfl, hb2⟩)
      exact ⟨⟨k + 1, R, by omega, by go_num, rfl, hRs, hnew, chain HB0.out hb2⟩, by simp [intOf]; omega⟩
    · obtain rfl : k = n2 := by omega
      have hall : fs.take k = fs := List.take_of_length_le (by have := HN.out; omega)
      have HR := hid (show S = ⟨(fs.flatMap lineL).toArray⟩ by rw [HS.out, hall])
      clear hall HS
      go_wp2
      go_ret
      exact ⟨by rw [HE.out, HR.out]; rfl, chain HB1.out hbk⟩
end Go.Proofs.YtddcamcdjkiadaaGreatDoor

namespace Go.Proofs.YtddcamcdjkiadaaGreatDoor
open Go.RowKit Go.Shelf
set_option linter.unusedVariables false

def FBox (W : World) (b : Nat) (k : Bool) (y : Value) : Prop := W.heap[b]? = some (.cells #[.bool k, y] 73 (0, 0))
theorem FBox.lt {W : World} {b : Nat} {k : Bool} {y : Value} (h : FBox W b k y) : b < W.heap.size := (Array.getElem?_eq_some_iff.1 h).1
theorem FBox.cell0 {W : World} {b : Nat} {k : Bool} {y : Value} (h : FBox W b k y) : W.cell? ⟨b, 0, none⟩ = some (.bool k) := by
  simp [World.cell?, show W.heap[b]? = _ from h]
theorem FBox.cell1 {W : World} {b : Nat} {k : Bool} {y : Value} (h : FBox W b k y) : W.cell? ⟨b, 1, none⟩ = some y := by
  simp [World.cell?, show W.heap[b]? = _ from h]
theorem FBox.frozen {W : World} {b : Nat} {k : Bool} {y : Value} (h : FBox W b k y) (j : Nat) : W.frozen? ⟨b, j, none⟩ = false := by
  simp [World.frozen?, show W.heap[b]? = _ from h]
theorem FBox.keep {W W' : World} {b : Nat} {k : Bool} {y : Value} (h : FBox W b k y) (hk : W'.heap[b]? = W.heap[b]?) : FBox W' b k y := hk.trans h
theorem FBox.set1 {W : World} {b : Nat} {k : Bool} {y : Value} (h : FBox W b k y) (z : Value) : FBox (W.setCell ⟨b, 1, none⟩ z) b k z := by
  have := cells_set h 1 z
  simpa [FBox] using this
theorem FBox.made (W : World) (k : Bool) (y : Value) : FBox (W.alloc (.cells #[.bool k, y] 73)) W.heap.size k y := World.alloc_heap_new _ _

def InR (wo w4 : World) (xb : Nat) (k : Bool) (l : List Int) (W : World) : Prop :=
  wo.heap.size ≤ xb ∧ xb < w4.heap.size ∧ Below wo.heap.size wo W ∧ Keep (fun k => k ≠ xb) w4 W ∧ ∃ v, FBox W xb k v ∧ W.ownsRow w4.heap.size 3 1 v l.length (l.map (Value.int .i64))
theorem InR.start {wo w4 : World} {xb : Nat} {k : Bool} (h1 : wo.heap.size ≤ xb) (hb : Below wo.heap.size wo w4) (hx : FBox w4 xb k (.slice none 0 0)) : InR wo w4 xb k [] w4 :=
  ⟨h1, hx.lt, hb, Keep.refl _ _, _, hx, World.ownsRow_nil _ _ _ _⟩
theorem InR.below {wo w4 : World} {xb : Nat} {k : Bool} {l : List Int} {W W' : World} (h : InR wo w4 xb k l W) (hb : Below W.heap.size W W') : InR wo w4 xb k l W' := by
  obtain ⟨h1, h2, h3, h4, v, h5, h6⟩ := h
  exact ⟨h1, h2, chain h3 hb, h4.trans (Keep.of_below hb), v, h5.keep (hb.block _ h5.lt), own_below h6 hb⟩
theorem InR.cur {wo w4 : World} {xb : Nat} {k : Bool} {l : List Int} {W : World} (h : InR wo w4 xb k l W) : ∃ a c, W.cell? ⟨xb, 0, none⟩ = some (.bool k) ∧ W.cell? ⟨xb, 1, none⟩ = some (.slice a l.length c) ∧
    W.ownsRow w4.heap.size 3 1 (.slice a l.length c) l.length (l.map (Value.int .i64)) ∧ w4.heap.size ≤ W.heap.size ∧
    ∀ (z : Int) a' c' W0 W1, Below W.heap.size W W0 → W0.grownBy W1 (Value.slice a l.length c).ownBlock → W1.ownsRow w4.heap.size 3 1 (.slice a' (l.length + 1) c') (l.length + 1) (l.map (Value.int .i64) ++ [.int .i64 z]) →
      (∃ u, W1.cell? ⟨xb, 1, none⟩ = some u) ∧ W1.frozen? ⟨xb, 1, none⟩ = false ∧ InR wo w4 xb k (l ++ [z]) (W1.setCell ⟨xb, 1, none⟩ (.slice a' (l.length + 1) c')) := by
  obtain ⟨h1, h2, h3, h4, v, h5, h6⟩ := h
  obtain ⟨a, c, rfl⟩ := ownsRow_slice h6
  refine ⟨a, c, h5.cell0, h5.cell1, h6, h4.size, fun z a' c' W0 W1 hb hg ho => ?_⟩
  have hne : ∀ k, (Value.slice a l.length c).ownBlock = some k → w4.heap.size ≤ k := fun k hk => (h6.lt k hk).1
  have k1 : Keep (fun k => k < w4.heap.size) W0 W1 := (Keep.grown hg).mono fun k hk e => by have := hne k e.symm; omega
  have k2 : Keep (fun k => k < w4.heap.size) W W1 := (Keep.of_below hb).trans k1
  have hx1 : FBox W1 xb k (.slice a l.length c) := h5.keep (k2.block xb h5.lt h2)
  have k3 := Keep.set W1 xb 1 (.slice a' (l.length + 1) c')
  refine ⟨⟨_, hx1.cell1⟩, hx1.frozen 1, h1, h2, ?_, ?_, _, hx1.set1 _, ?_⟩
  · exact below_set (k2.below h3 h3.size fun k hk => by omega) h1 _ _
  · refine ⟨k2.os.trans h4.os, k2.tape.trans h4.tape, k2.output.trans h4.output, ?_, fun k hk hq => ?_⟩
    · have : (W1.setCell ⟨xb, 1, none⟩ (.slice a' (l.length + 1) c')).heap.size = W1.heap.size := by simp [World.setCell]
      rw [this]; exact Nat.le_trans h4.size k2.size
    · exact (k3.block k (Nat.lt_of_lt_of_le hk (Nat.le_trans h4.size k2.size)) hq).trans ((k2.block k (Nat.lt_of_lt_of_le hk h4.size) hk).trans (h4.block k hk hq))
  · rw [List.length_append, List.map_append]
    exact own_keep ho k3 fun k hk => by omega

theorem elem_grown {W w1 w2 : World} {base n : Nat} {S : Nat → Prop} {v u : Value} {l : List Int} {xs : List Value} (ho : W.ownsRow base 73 2 v n xs) (h : ElemI 3 W base S u l) (hW1 : Below W.heap.size W w1) (hg : w1.grownBy w2 v.ownBlock) : ElemI 3 w2 base S u l := by
  have hgb : ∀ b, (b < base ∨ ∃ c f, W.heap[b]? = some (.cells c 3 f)) → b < W.heap.size → w2.heap[b]? = W.heap[b]? := by
    intro b hty hb
    refine (hg.block b (Nat.lt_of_lt_of_le hb hW1.size) ?_).trans (hW1.block b hb)
    rcases ho.2 with ⟨rfl, _⟩ | ⟨g, cap, cur, rfl, hbg, hgg, _⟩
    · simp [Value.ownBlock]
    · intro e
      obtain rfl : b = g := by simpa [Value.ownBlock] using e
      rcases hty with h | ⟨c, f, h⟩
      · omega
      · rw [h] at hgg; cases hgg
  refine h.keep (T := fun b => b < W.heap.size ∧ (b < base ∨ ∃ c f, W.heap[b]? = some (.cells c 3 f))) ⟨hg.os.trans hW1.os, hg.tape.trans hW1.tape, hg.output.trans hW1.output, Nat.le_trans hW1.size hg.size, fun k hk hT => hgb k hT.2 hk⟩ fun b _ hb hty => ⟨hb, hty⟩
theorem rstep_no {M : Mask} {acc : List Frm} {s : List UInt8} (h : ¬ ((Lib.cut s [10]).2.2 = true ∧ validB M (acc ++ [frW (wordsF (Lib.cut s [10]).1)]) = true ∧ lineS (frW (wordsF (Lib.cut s [10]).1)) = (Lib.cut s [10]).1)) : rstepS M acc s = none := by
  unfold rstepS; simp only []; rw [if_neg h]
theorem rstep_yes {M : Mask} {acc : List Frm} {s : List UInt8} (h : (Lib.cut s [10]).2.2 = true ∧ validB M (acc ++ [frW (wordsF (Lib.cut s [10]).1)]) = true ∧ lineS (frW (wordsF (Lib.cut s [10]).1)) = (Lib.cut s [10]).1) : rstepS M acc s = some (frW (wordsF (Lib.cut s [10]).1), (Lib.cut s [10]).2.1) := by
  unfold rstepS; simp only []; rw [if_pos h]
theorem bytes_keyW {B : ByteArray} : (B.toList == (⟨#[107, 101, 121]⟩ : ByteArray).toList) = decide (B.data.toList = keyW) := bytes_eq
theorem step_bound {M : Mask} {acc : List Frm} {x : Frm} (h : validB M (acc ++ [x]) = true) : (acc ++ [x]).length ≤ 60 := by
  have := (valid_frames h).2.2.1; exact this

set_option maxRecDepth 100000 in
set_option maxHeartbeats 8000000 in
theorem r8Parse_c (w : World) (hX : TabX w) (a : Option Addr) (n cap : Nat) (M : Mask) (hn : M.length = n) (hm : n ≤ maxLen) (H : RowsAt w a M) (s : ByteArray) (hsm : s.size ≤ 9223372036854775807) :
    Calls Tryz.prog 16 #[.slice a n cap, .string s] w fun e w' => ∃ v, e = .returned (.tuple #[v, .int .i64 ((parseSF M s.data.toList).2.1 : Nat), .int .i64 (parseSF M s.data.toList).2.2]) ∧ FrmsO w' w.heap.size (fun _ => True) v (parseSF M s.data.toList).1 ∧ Below w.heap.size w w' := by
  have hsz : s.data.toList.length = s.size := (Lib.size_eq s).symm
  have HV := hid (r2Valid_c w a n cap M hn hm H)
  cases hok : okM M
  · have HE := hid (show parseSF M s.data.toList = ([], 0, 1) by unfold parseSF; rw [hok]; rfl)
    rw [hok] at HV
    clear hX hsz hn H hok
    go_enter Tryz.func16, Tryz.ntmps16
    go_wp2_with (go_at_call 42; refine HV.out.mono ?_; rintro e w1 ⟨rfl, rfl⟩)
    refine bodyPost_ret (v := .tuple #[.slice none 0 0, .int .i64 0, .int .i64 1]) (by simp [results, Tryz.results16, go_sem]) rfl ?_
    exact ⟨.slice none 0 0, by rw [HE.out]; rfl, by rw [HE.out]; exact FrmsO.nil _ _ _, Below.refl _ _⟩
  rw [hok] at HV
  by_cases hbig : 65536 < s.size
  · have HE := hid (show parseSF M s.data.toList = ([], 0, 3) by unfold parseSF; rw [if_pos hok, if_pos (by omega)])
    clear hX hsz hn H hok
    go_enter Tryz.func16, Tryz.ntmps16
    go_wp2_with (go_at_call 42; refine HV.out.mono ?_; rintro e w1 ⟨rfl, rfl⟩)
    refine bodyPost_ret (v := .tuple #[.slice none 0 0, .int .i64 0, .int .i64 3]) (by simp [results, Tryz.results16, go_sem]) rfl ?_
    exact ⟨.slice none 0 0, by rw [HE.out]; rfl, by rw [HE.out]; exact FrmsO.nil _ _ _, Below.refl _ _⟩
  have hPT : parseSF M s.data.toList = parseS M s.size [] s.data.toList := by unfold parseSF; rw [if_pos hok, if_neg (by omega), hsz]
  obtain ⟨PT, hPTe⟩ : ∃ P, P = parseSF M s.data.toList := ⟨_, rfl⟩
  rw [← hPTe] at hPT ⊢
  have HX := hid hX
  have HPT := hid hPT
  have HVF := hid (fun (W : World) (hb : Below w.heap.size w W) (a2 : Option Addr) (n2 cap2 : Nat) (fs : List Frm) (hn2 : fs.length = n2) (hm2 : n2 ≤ maxLen) (H2 : FramesAt W a2 fs) => r8valid_c W a n cap M hn hm (H.below hb) a2 n2 cap2 fs hn2 hm2 H2)
  have hs6 : s.size ≤ 65536 := by omega
  clear hX hPT hPTe hsz hn H hok hbig
  go_enter Tryz.func16, Tryz.ntmps16
  go_wp2_with (go_at_call 42; refine HV.out.mono ?_; rintro e w1 ⟨rfl, rfl⟩; refine Stop.of ?_)
  refine Stop.go ?_
  have HB1 := hid (Below.refl w.heap.size w)
  clear HV
  go_wp2
  go_loopw [1, 4, 7] (fun s0 v i wr => ∃ (acc : List Frm) (B : ByteArray) (f : Nat), s0 = .string B ∧ i = .int .i64 acc.length ∧ acc.length ≤ 60 ∧ FrmsO wr w.heap.size (fun _ => True) v acc ∧ B.size ≤ f ∧ B.size ≤ s.size ∧ Hid (PT = parseS M f acc B.data.toList) ∧ Below w.heap.size w wr) (fun s0 _ _ _ => strV s0)
  case atStart => exact ⟨[], s, s.size, rfl, rfl, Nat.zero_le _, FrmsO.nil _ _ _, Nat.le_refl _, Nat.le_refl _, hid HPT.out, HB1.out⟩
  case round =>
    obtain ⟨acc, B, f, rfl, rfl, hk, hto, hBf, hBs, HPF, hb⟩ := hrel
    obtain ⟨va, vc, rfl⟩ := hto.slice
    obtain ⟨k, hke⟩ : ∃ k, k = acc.length := ⟨_, rfl⟩
    rw [← hke] at hk hto ⊢
    have HK := hid hke
    have HTO := hid hto
    have HB := hid hb
    clear hke hto hb
    by_cases hend : B.size = 0 ∧ k ≠ 0
    · obtain ⟨hB0, hk0⟩ := hend
      have hBe := bytes_nil hB0
      subst hBe
      have HR := hid (show PT = (acc, 0, 0) from by rw [HPF.out]; exact parseS_end M f (by intro h; apply hk0; rw [HK.out, h]; rfl))
      have hki : ((k : Int) == 0) = false := by simp; omega
      clear hB0
      go_wp2
      refine bodyPost_ret (v := .tuple #[.slice va k vc, .int .i64 0, .int .i64 0]) (by simp [results, Tryz.results16, go_sem]) rfl ?_
      exact ⟨.slice va k vc, by rw [HR.out]; rfl, by rw [HR.out]; exact HTO.out, HB.out⟩
    have hcase : (¬ B.toList = [] ∧ (B.toList == []) = false ∧ (B.toList != []) = true) ∨ (((k : Int) == 0) = true ∧ B = ⟨#[]⟩) := by
      by_cases hB0 : B.size = 0
      · refine .inr ⟨?_, bytes_nil hB0⟩
        by_cases h : k = 0
        · simp [h]
        · exact absurd ⟨hB0, h⟩ hend
      · have hne : B.data.toList ≠ [] := by intro h; apply hB0; rw [Lib.size_eq, h]; rfl
        have hne1 : ¬ B.toList = [] := by rw [Lib.toList_data]; exact hne
        exact .inl ⟨hne1, by simpa using hne1, by simpa using hne1⟩
    have hcond : ¬ (B.data.toList = [] ∧ acc ≠ []) := by
      rintro ⟨h1, h2⟩
      apply hend
      refine ⟨by rw [Lib.size_eq, h1]; rfl, ?_⟩
      intro h; apply h2; rw [HK.out] at h; exact List.length_eq_zero_iff.1 h
    have hBz : B.data.toList.length = B.size := (Lib.size_eq B).symm
    have e10 : (⟨#[10]⟩ : ByteArray).data.toList = [10] := rfl
    have HC1 := hid (fun (W : World) (hb : Below wr.heap.size wr W) => cut_c W (HX.out.below (chain HB.out hb)) B ⟨#[10]⟩ (by omega))
    rw [e10] at HC1
    have hno := fun h => rstep_no (M := M) (acc := acc) (s := B.data.toList) h
    have hyes := fun h => rstep_yes (M := M) (acc := acc) (s := B.data.toList) h
    have hl1 := cut_rest_le B.data.toList [10]
    have hst := steps_same M acc B.data.toList
    obtain ⟨c1, hc1⟩ : ∃ c, c = (Lib.cut B.data.toList [10]).1 := ⟨_, rfl⟩
    obtain ⟨c2, hc2⟩ : ∃ c, c = (Lib.cut B.data.toList [10]).2.1 := ⟨_, rfl⟩
    obtain ⟨c3, hc3⟩ : ∃ c, c = (Lib.cut B.data.toList [10]).2.2 := ⟨_, rfl⟩
    rw [← hc1, ← hc2, ← hc3] at HC1
    rw [← hc1, ← hc3] at hno
    rw [← hc1, ← hc2, ← hc3] at hyes
    rw [← hc1, ← hc2] at hl1
    obtain ⟨T1, hT1⟩ : ∃ T : ByteArray, T = ⟨c1.toArray⟩ := ⟨_, rfl⟩
    obtain ⟨T2, hT2⟩ : ∃ T : ByteArray, T = ⟨c2.toArray⟩ := ⟨_, rfl⟩
    have hT1d : T1.data.toList = c1 := by rw [hT1]
    have hT2d : T2.data.toList = c2 := by rw [hT2]
    have hT1z : T1.size ≤ 65536 := by rw [hT1, bytes_size]; omega
    have hT2z : T2.size = c2.length := by rw [hT2, bytes_size]
    rw [← hT1, ← hT2] at HC1
    have HSp := hid (fun (W : World) (hb : Below wr.heap.size wr W) => split_c W (HX.out.below (chain HB.out hb)) T1 hT1z)
    rw [hT1d] at HSp
    have hw1 := words_le c1
    have hwl := fun x hx => word_le c1 x hx
    have hwne := words_ne c1
    obtain ⟨ws, hws⟩ : ∃ ws, ws = wordsF c1 := ⟨_, rfl⟩
    rw [← hws] at HSp hw1 hwl hwne hno hyes
    have HNO := hid (fun h => show PT = ([], k, 2) from by
      have h1 : stepS M acc B.data.toList = none := by rw [← hst]; exact hno h
      rw [HPF.out, parseS_bad hcond h1, ← HK.out])
    have HYES := hid (fun h => show PT = parseS M (f - 1) (acc ++ [frW ws]) c2 ∧ c2.length < B.size from by
      have h1 : stepS M acc B.data.toList = some (frW ws, c2) := by rw [← hst]; exact hyes h
      have h2 := stepS_less h1
      refine ⟨?_, by rw [← hBz]; exact h2⟩
      rw [HPF.out, show f = (f - 1) + 1 by omega, parseS_step hcond h1]
      rfl)
    have HT2 := hid (And.intro hT2d hT2z)
    have HT1 := hid hT1d
    have HW1 := hid (And.intro hw1 (And.intro hwl hwne))
    have HC1L := hid (show c1.length ≤ 65536 by omega)
    obtain ⟨k0, hk0⟩ : ∃ b, b = decide (ws[0]?.getD [] = keyW) := ⟨_, rfl⟩
    obtain ⟨vals, hvals⟩ : ∃ l, l = ws.tail.map atV := ⟨_, rfl⟩
    have hfr : frW ws = (k0, vals) := by rw [hk0, hvals]; rfl
    rw [hfr] at HNO HYES
    have HK0 := hid hk0
    have HVA := hid hvals
    clear hno hyes hl1 hc1 hc2 hc3 hT1 hT2 hT1d hT2d hT2z hw1 hwl hwne hws hcond e10 hst hT1z hk0 hvals hfr hend
    rcases hcase with ⟨q1, q2, q3⟩ | ⟨q1, rfl⟩
    all_goals
      go_wp2_with (go_at_call 23; refine (HC1.out _ (Below.refl _ _)).mono ?_; rintro e w2 ⟨rfl, hb2⟩; refine Stop.of ?_)
      refine Stop.go ?_
      have HB2 := hid hb2
      clear hb2
      go_wp2_with (go_at_call 24; refine (HSp.out _ HB2.out).mono ?_; rintro e w3 ⟨L, hL, rfl, hw3⟩; refine Stop.of ?_)
      refine Stop.go ?_
      try rw [← hw3]
      have hb3 : Below w2.heap.size w2 w3 := by rw [hw3]; exact (Below.refl _ _).alloc (Nat.le_refl _) _
      have hcell : ∀ (j : Nat) (x : ByteArray), L[j]? = some x → w3.cell? ⟨w2.heap.size, j, none⟩ = some (.string x) := fun j x h => by rw [hw3]; exact strs_alloc w2 L 9 j x h
      have hlt3 : w2.heap.size < w3.heap.size := by rw [hw3]; simp
      have hLl : L.length = ws.length := by rw [← hL, List.length_map]
      have hL0 : 0 < L.length := by rw [hLl]; exact List.length_pos_iff.2 HW1.out.2.2
      have hLN : L.length ≤ 65537 := by have := HW1.out.1; have := HC1L.out; omega
      obtain ⟨L0, hL0e⟩ : ∃ x, x = L[0] := ⟨_, rfl⟩
      have hc0 : w3.cell? ⟨w2.heap.size, 0, none⟩ = some (.string L0) := by rw [hL0e]; exact hcell 0 _ (List.getElem?_eq_getElem hL0)
      have hk0 : (L0.toList == [107, 101, 121]) = k0 := by
        have e : (⟨#[107, 101, 121]⟩ : ByteArray).toList = [107, 101, 121] := by rw [Lib.toList_data]
        rw [← e, bytes_keyW, HK0.out, ← hL, List.getElem?_map, List.getElem?_eq_getElem hL0, ← hL0e]; rfl
      have HL := hid hL
      have HC := hid hcell
      have HB3 := hid (chain HB2.out hb3)
      have HLT3 := hid hlt3
      have HLL := hid hLl
      have i0 : (0 : Int) < (L.length : Int) := by omega
      obtain ⟨N, hN⟩ : ∃ N, N = L.length := ⟨_, rfl⟩
      rw [← hN] at hLN hL0 i0 ⊢
      have HN := hid hN
      clear hb3 hcell hlt3 hLl hL hw3 hN hL0e
      have hxs : ws.tail.length + 1 = N := by rw [HN.out, HLL.out, List.length_tail]; have := List.length_pos_iff.2 HW1.out.2.2; omega
      have HTL := hid hxs
      clear hxs
      rcases (show N = 1 ∨ (¬ N = 1 ∧ 1 ≤ N) by omega) with rfl | ⟨hn1, hn2⟩
      all_goals
        go_wp2
        obtain ⟨w4, hw4⟩ : ∃ w4, w4 = w3.alloc (.cells #[.bool k0, .slice none 0 0] 73) := ⟨_, rfl⟩
        try rw [← hw4]
        obtain ⟨xb, hxb⟩ : ∃ xb, xb = w3.heap.size := ⟨_, rfl⟩
        have hb34 : Below w3.heap.size w3 w4 := by rw [hw4]; exact (Below.refl _ _).alloc (Nat.le_refl _) _
        have hx4 : FBox w4 xb k0 (.slice none 0 0) := by rw [hw4, hxb]; exact FBox.made w3 k0 _
        obtain ⟨wo, hwo⟩ : ∃ wo, wo = wr := ⟨_, rfl⟩
        subst hwo
        have hs34 := (chain HB3.out hb34)
        have hxo : wo.heap.size ≤ xb := by rw [hxb]; exact HB3.out.size
        have HC4 := hid (fun (X : World) (hX : Keep (fun q => q ≠ xb) w4 X) (j : Nat) (x : ByteArray) (h : L[j]? = some x) => show X.cell? ⟨w2.heap.size, j, none⟩ = some (.string x) from by
          have h1 := HC.out j x h
          have h2 := (hb34.cell (p := ⟨w2.heap.size, j, none⟩) HLT3.out).trans h1
          exact hX.cell h2 (show w2.heap.size ≠ xb by rw [hxb]; have := HLT3.out; omega))
        have HI0 := hid (InR.start (wo := wo) hxo hs34 hx4)
        rw [← hxb]
        have HXB := hid hxb
        clear hw4 hb34 hx4 hs34 hxo hxb hc0 hk0 i0
        obtain ⟨tl, htl⟩ : ∃ t, t = ws.tail.length := ⟨_, rfl⟩
        have HTW := hid htl
        have hNN := HTL.out
        rw [← htl] at hNN
        have HNN := hid hNN
        clear htl hNN
        go_loopw [47] (fun i wr => ∃ j : Nat, j ≤ tl ∧ i = .int .i64 j ∧ InR wo w4 xb k0 ((ws.tail.map atV).take j) wr) (fun i _ => tl - (intOf i).toNat)
        case atStart => exact ⟨0, Nat.zero_le _, rfl, by rw [List.take_zero]; exact HI0.out⟩
        case round =>
          obtain ⟨j, hj, rfl, hI⟩ := hrel
          have hNN := HNN.out
          by_cases hlt : j < tl
          · try (exfalso; omega)
            all_goals
              have hlt' : j < ws.tail.length := by rw [← HTW.out]; exact hlt
              have hkL : j + 1 < L.length := by rw [← HN.out]; omega
              have hkw : j + 1 < ws.length := by rw [← HLL.out]; exact hkL
              obtain ⟨D, hD⟩ : ∃ D, D = L[j + 1] := ⟨_, rfl⟩
              have hIb : Below wo.heap.size wo wr := hI.2.2.1
              have hc : wr.cell? ⟨w2.heap.size, 1 + j, none⟩ = some (.string D) := by rw [Nat.add_comm, hD]; exact HC4.out wr hI.2.2.2.1 _ _ (List.getElem?_eq_getElem hkL)
              have hwj : ws.tail[j]'hlt' = D.data.toList := by
                rw [List.getElem_tail]
                have h := congrArg (fun l => l[j + 1]?) HL.out
                simp only [List.getElem?_map, List.getElem?_eq_getElem hkL, List.getElem?_eq_getElem hkw, Option.map_some] at h
                rw [hD]; exact (Option.some.inj h).symm
              have hwl := HW1.out.2.1 (ws.tail[j]'hlt') (List.mem_of_mem_tail (List.getElem_mem hlt'))
              have htk : (ws.tail.map atV).take (j + 1) = (ws.tail.map atV).take j ++ [atV D.data.toList] := by rw [List.take_succ_eq_append_getElem (by rw [List.length_map]; exact hlt'), List.getElem_map, hwj]
              have hDz : D.size ≤ 65536 := by have := Lib.size_eq D; have := HC1L.out; rw [hwj] at hwl; omega
              have HA := hid (atoi_c wr (HX.out.below (chain HB.out hIb)) D (by omega))
              obtain ⟨X, hXe⟩ : ∃ X, X = atV D.data.toList := ⟨_, rfl⟩
              rw [← hXe] at HA htk
              have hjl : ((ws.tail.map atV).take j).length = j := by rw [List.length_take, List.length_map, ← HTW.out]; omega
              obtain ⟨V, hV⟩ : ∃ V, V = (ws.tail.map atV).take j := ⟨_, rfl⟩
              rw [← hV] at hI htk hjl
              have HTK := hid htk
              have HI := hid hI
              have HJL := hid hjl
              have hN6 : N ≤ 65537 := by omega
              clear hlt' hXe htk hI hjl hV hwl hwj hDz hkL hkw hD hIb
              go_wp2_with (go_at_call 25; refine HA.out.mono ?_; rintro e w5 ⟨ev, rfl, hb5⟩; refine Stop.of ?_)
              refine Stop.go ?_
              obtain ⟨a5, c5, g0, g1, g4, g3, g5⟩ := (HI.out.below hb5).cur
              rw [HJL.out] at g1 g4 g5
              have HG := hid (And.intro g4 (And.intro g3 g5))
              have HN5 := hid (one_news w5 (.int .i64 X) 3)
              have M1 := hid (show j + 1 ≤ maxLen by unfold maxLen; omega)
              have M2 := hid (show (j + 1) * 8 ≤ 140737488355328 by omega)
              have M3 := hid (Nat.le_trans HG.out.2.1 (le_alloc w5 (.cells #[.int .i64 X] 3)))
              clear g4 g3 g5 hb5
              go_wp2_with (at_builtin; refine wpList_app _ rfl (.tmp 57) (.tmp 59) 30 rfl w4.heap.size 3 (.int .i64 0) 1 8 Tryz.underlying30 info_int rfl Nat.one_pos (.slice a5 j c5) j _ rfl (HG.out.1.alloc _) (some ⟨w5.heap.size, 0, none⟩) 1 1 [.int .i64 X] rfl rfl no_none HN5.out (one_int _) M1.out M2.out M3.out ?_; refine Stop.of ?_)
              refine Stop.go ?_
              intro a7 c7 w7 own7 g7
              obtain ⟨⟨u7, hu7⟩, hf7, hI7⟩ := HG.out.2.2 X a7 c7 (w5.alloc (.cells #[.int .i64 X] 3)) w7 ((Below.refl _ _).alloc (Nat.le_refl _) _) g7 own7
              have HI7 := hid hI7
              clear own7 g7 hI7
              go_wp2
              refine ⟨⟨j + 1, by omega, by go_num, ?_⟩, by simp [intOf]; omega⟩
              rw [HTK.out]; exact HI7.out
          · obtain rfl : j = tl := by omega
            have hall : (ws.tail.map atV).take j = vals := by rw [HVA.out]; exact List.take_of_length_le (by rw [List.length_map, ← HTW.out]; exact Nat.le_refl _)
            rw [hall] at hI
            have hvl : vals.length = j := by rw [HVA.out, List.length_map, HTW.out]
            obtain ⟨a5, c5, g0, g1, g4, g3, _⟩ := hI.cur
            rw [hvl] at g1 g4
            have hIb : Below wo.heap.size wo wr := hI.2.2.1
            have hj6 : j ≤ 65536 := by omega
            have hvi : ∀ x ∈ vals, isInt x := fun x hx => by
              rw [HVA.out] at hx
              obtain ⟨y, _, rfl⟩ := List.mem_map.1 hx
              exact atV_isInt _
            obtain ⟨xs, ho, hg, he⟩ := HTO.out.below hIb
            rw [← HK.out] at ho
            have h1 : ElemI 3 wr w.heap.size (fun _ => True) (.slice a5 j c5) vals := ElemI.own' g4 rfl hvl (by unfold maxLen; omega) (fun _ _ => trivial)
            have HH := hid (And.intro he h1)
            have HO := hid ho
            have HXi := hid (h1.ints.2.2)
            have HVI := hid hvi
            have HVL := hid hvl
            have HBI := hid (chain HB.out hIb)
            have HN5 := hid (news2 wr (.bool k0) (.slice a5 j c5) 73)
            have HO2 := hid (show ∀ u ∈ [Value.bool k0, .slice a5 j c5], u.oneCell' = true from by intro u hu; simp at hu; rcases hu with rfl | rfl <;> rfl)
            have M1 := hid (show k + 1 ≤ maxLen by unfold maxLen; omega)
            have M2 := hid (show (k + 1) * 32 ≤ 140737488355328 by omega)
            have M3 := hid (Nat.le_trans HBI.out.size (le_alloc wr (.cells #[.bool k0, .slice a5 j c5] 73)))
            have HLA := hid (HBI.out.alloc HBI.out.size (.cells #[.bool k0, .slice a5 j c5] 73))
            have hxlt : xb < wr.heap.size := World.block_lt_of_cell? _ ⟨xb, 0, none⟩ g0
            have HXL := hid hxlt
            have HG0 := hid (And.intro g0 g1)
            clear hall hI hvl hIb hvi ho hg he h1 g4 g3 hxlt HC4 HI0
            go_wp2_with (at_builtin; refine wpList_app _ rfl (.tmp 63) (.tmp 65) 36 rfl w.heap.size 73 (.agg #[.bool false, .slice none 0 0]) 2 32 Tryz.underlying36 info_frame rfl (by decide) (.slice va k vc) k xs rfl (HO.out.alloc _) (some ⟨wr.heap.size, 0, none⟩) 1 1 [.bool k0, .slice a5 j c5] rfl rfl no_none HN5.out HO2.out M1.out M2.out M3.out ?_; refine Stop.of ?_)
            refine Stop.go ?_
            intro a8 c8 w8 own8 g8
            have hT8 : FrmsO w8 w.heap.size (fun _ => True) (.slice a8 (k + 1) c8) (acc ++ [(k0, vals)]) := FrmsO.snoc (f := (k0, vals)) (u := .slice a5 j c5) (W := wr) (w1 := wr.alloc (.cells #[.bool k0, .slice a5 j c5] 73)) (v := .slice va k vc) (by rw [← HK.out]; exact HO.out) HH.out.1 HH.out.2 ((Below.refl _ wr).alloc (Nat.le_refl _) _) g8 (by rw [← HK.out]; exact own8) (fun _ _ => trivial)
            have hb8 : Below w.heap.size w w8 := HLA.out.grown g8 M3.out (fun q hq => (HO.out.lt q hq).1)
            have hel8 : ElemI 3 w8 w.heap.size (fun _ => True) (.slice a5 j c5) vals := elem_grown HO.out HH.out.2 ((Below.refl _ wr).alloc (Nat.le_refl _) _) g8
            have hbx : w8.heap[xb]? = wr.heap[xb]? := by
              obtain ⟨xs0, ho0, _⟩ := HTO.out
              refine (g8.block xb (Nat.lt_of_lt_of_le HXL.out (by simp)) ?_).trans (Below.heap_alloc _ _ _ HXL.out)
              intro e
              have h1 := (ho0.lt xb e.symm).2
              rw [HXB.out] at h1
              have := HB3.out.size
              omega
            have f0 : w8.cell? ⟨xb, 0, none⟩ = some (.bool k0) := (cell_blk (W' := w8) HG0.out.1 hbx)
            have f1 : w8.cell? ⟨xb, 1, none⟩ = some (.slice a5 j c5) := (cell_blk (W' := w8) HG0.out.2 hbx)
            have hxl8 : xb < w8.heap.size := World.block_lt_of_cell? _ ⟨xb, 0, none⟩ f0
            obtain ⟨a9, c9, e9, hm9, hfr⟩ := hT8.reads
            have hl9 : (acc ++ [(k0, vals)]).length = k + 1 := by rw [List.length_append, ← HK.out]; rfl
            rw [hl9] at e9 hm9
            cases e9
            have HV8 := hid (HVF.out w8 hb8 a8 (k + 1) c8 (acc ++ [(k0, vals)]) hl9 hm9 hfr)
            have HF := hid (show ∀ X, Below w8.heap.size w8 X → X.cell? ⟨xb, 0, none⟩ = some (.bool k0) ∧ X.cell? ⟨xb, 1, none⟩ = some (.slice a5 j c5) from fun X hX => ⟨(hX.cell (p := ⟨xb, 0, none⟩) hxl8).trans f0, (hX.cell (p := ⟨xb, 1, none⟩) hxl8).trans f1⟩)
            have HLN := hid (fun (X : World) (hX : Below w8.heap.size w8 X) => sline_c X ((HX.out.below (chain hb8 hX)).1) k0 a5 j c5 vals HVL.out (by omega) (hel8.ints.2.2.below hX) HVI.out)
            obtain ⟨Z, hZ⟩ : ∃ Z : ByteArray, Z = ⟨(lineS (k0, vals)).toArray⟩ := ⟨_, rfl⟩
            rw [← hZ] at HLN
            have HZ := hid (show Z.data.toList = lineS (k0, vals) by rw [hZ])
            have HT8 := hid hT8
            have HB8 := hid hb8
            have hVd := hid (rfl : validB M (acc ++ [(k0, vals)]) = validB M (acc ++ [(k0, vals)]))
            have HSTEP := hid (fun (h : validB M (acc ++ [(k0, vals)]) = true) => step_bound h)
            obtain ⟨vb, hvb⟩ : ∃ b, b = validB M (acc ++ [(k0, vals)]) := ⟨_, rfl⟩
            rw [← hvb] at HV8 HNO HYES HSTEP
            have HERR := hid (fun h => show ∀ W, Below w8.heap.size w8 W → ∃ v, Ending.returned (.tuple #[.slice none 0 0, .int .i64 (k : Int), .int .i64 2]) = .returned (.tuple #[v, .int .i64 (PT.2.1 : Nat), .int .i64 PT.2.2]) ∧ FrmsO W w.heap.size (fun _ => True) v PT.1 ∧ Below w.heap.size w W from fun W hW => ⟨.slice none 0 0, by rw [HNO.out h], by rw [HNO.out h]; exact FrmsO.nil _ _ _, chain HB8.out hW⟩)
            clear own8 g8 hT8 hb8 hel8 hbx hfr hl9 hZ hVd hvb f0 f1
            cases c3 with
            | false =>
              have HR := hid (HERR.out (by simp))
              go_wp2
              refine bodyPost_ret (v := .tuple #[.slice none 0 0, .int .i64 (k : Int), .int .i64 2]) (by simp [results, Tryz.results16, go_sem]) rfl ?_
              exact HR.out _ (Below.refl _ _)
            | true =>
              cases vb with
              | false =>
                have HR := hid (HERR.out (by simp))
                go_wp2_with (go_at_call 43; refine HV8.out.mono ?_; rintro e w9 ⟨rfl, hb9⟩)
                refine bodyPost_ret (v := .tuple #[.slice none 0 0, .int .i64 (k : Int), .int .i64 2]) (by simp [results, Tryz.results16, go_sem]) rfl ?_
                exact HR.out _ hb9
              | true =>
                go_wp2_with (go_at_call 43; refine HV8.out.mono ?_; rintro e w9 ⟨rfl, hb9⟩; refine Stop.of ?_)
                refine Stop.go ?_
                obtain ⟨f0, f1⟩ := HF.out w9 hb9
                by_cases hle : Z.data.toList = c1
                · have hy := HYES.out ⟨trivial, trivial, by rw [← HZ.out]; exact hle⟩
                  have hq : Z.toList = T1.toList := by rw [Lib.toList_data, Lib.toList_data, hle, HT1.out]
                  have HY1 := hid hy.1
                  have HT3 := hid (Nat.lt_of_le_of_lt (Nat.le_of_eq HT2.out.2) hy.2)
                  have HB9 := hid hb9
                  clear hy hle
                  go_wp2_with (go_at_call 44; refine (HLN.out _ HB9.out).mono ?_; rintro e w10 ⟨rfl, hb10⟩)
                  refine ⟨⟨acc ++ [(k0, vals)], T2, f - 1, rfl, ?_, HSTEP.out (by first | rfl | trivial), HT8.out.below (chain HB9.out hb10), ?_, ?_, hid ?_, chain HB8.out (chain HB9.out hb10)⟩, ?_⟩
                  · rw [List.length_append, ← HK.out]; rfl
                  · have := HT3.out; omega
                  · have := HT3.out; omega
                  · rw [HT2.out.1]; exact HY1.out
                  · exact HT3.out
                · have HR := hid (HERR.out (by rintro ⟨_, _, h⟩; exact hle (by rw [HZ.out]; exact h)))
                  have hq : ¬ Z.toList = T1.toList := by rw [Lib.toList_data, Lib.toList_data, HT1.out]; exact hle
                  have hq2 : (Z.toList == T1.toList) = false := by simpa using hq
                  have hq3 : (Z.toList != T1.toList) = true := by simpa using hq
                  have HB9 := hid hb9
                  clear hle
                  go_wp2_with (go_at_call 44; refine (HLN.out _ HB9.out).mono ?_; rintro e w10 ⟨rfl, hb10⟩)
                  refine bodyPost_ret (v := .tuple #[.slice none 0 0, .int .i64 (k : Int), .int .i64 2]) (by simp [results, Tryz.results16, go_sem]) rfl ?_
                  exact HR.out _ (chain HB9.out hb10)
end Go.Proofs.YtddcamcdjkiadaaGreatDoor

namespace Go.Proofs.YtddcamcdjkiadaaGreatDoor
open Go.RowKit Go.Shelf Go.Maps Go.ChangeMaps
set_option linter.unusedVariables false

def keyB : ByteArray := ⟨#[107, 101, 121]⟩
def redB : ByteArray := ⟨#[114, 101, 97, 100]⟩
def begV (g : Nat) : Value := .agg #[.func (.func g) #[] #[]]
def begE (g : Nat) (s : ByteArray) (i : Nat) : MapEntry := ⟨.string s, begV g, i⟩
def BegM (W : World) (b : Nat) : Prop := W.heap[b]? = some (.map #[begE 71 keyB 0, begE 72 redB 1] 2)
theorem keyS' {s : ByteArray} (h : s.size ≤ maxLen) : keyOf Tryz.prog 9 (.string s) = some (.string s.data.toList) := by
  have hk := Tryz.underlying9
  first | exact keyOf_string_mk hk h | exact WideMaps.keyOf_string_mk hk h
theorem strKeyed : Keyed Tryz.prog 9 := string_keyed Tryz.underlying9
theorem upd_one {w : World} {b : Nat} (h : w.heap[b]? = some (.map #[] 0)) (s : ByteArray) (hsz : s.size ≤ maxLen) (v : Value) : (Instr.mapUpdate 81 (.map (some b)) (.string s) v).run Tryz.prog w = .ok () (setBlock w b (.map #[⟨.string s, v, 0⟩] 1)) := by
  have ht := Tryz.underlying81
  rcases strKeyed.find w (keyS' hsz) [] (by simp) with ⟨h1, _⟩ | ⟨j, e, _, h2, _⟩
  · simp [Instr.mapUpdate, run_underlying ht, MapKept.run_getObj_map h, strKeyed.check w false (keyS' hsz), h1, MapKept.run_setObj_map _ h, Result.andThen, setBlock]
  · simp at h2
theorem upd_two {w : World} {b : Nat} {s0 : ByteArray} {v0 : Value} (h : w.heap[b]? = some (.map #[⟨.string s0, v0, 0⟩] 1)) (s : ByteArray) (h0 : s0.size ≤ maxLen) (hsz : s.size ≤ maxLen) (hne : s0 ≠ s) (v : Value) : (Instr.mapUpdate 81 (.map (some b)) (.string s) v).run Tryz.prog w = .ok () (setBlock w b (.map #[⟨.string s0, v0, 0⟩, ⟨.string s, v, 1⟩] 2)) := by
  have ht := Tryz.underlying81
  rcases strKeyed.find w (keyS' hsz) [⟨.string s0, v0, 0⟩] (by intro e he; rw [List.mem_singleton.1 he]; exact ⟨_, keyS' h0⟩) with ⟨h1, _⟩ | ⟨j, e, _, h2, h3⟩
  · simp [Instr.mapUpdate, run_underlying ht, MapKept.run_getObj_map h, strKeyed.check w false (keyS' hsz), h1, MapKept.run_setObj_map _ h, Result.andThen, setBlock]
  · exfalso
    have := List.mem_of_getElem? h2
    rw [List.mem_singleton.1 this] at h3
    exact hne (by simpa using h3)
theorem size_setBlock (w : World) (b : Nat) (o : Obj) : (setBlock w b o).heap.size = w.heap.size := by simp [setBlock]
theorem heap_setBlock {w : World} {b : Nat} (h : b < w.heap.size) (o : Obj) : (setBlock w b o).heap[b]? = some o := by simp [setBlock, h]
theorem below_setBlock {B : Nat} {a w : World} (h : Below B a w) {b : Nat} (hb : B ≤ b) (o : Obj) : Below B a (setBlock w b o) := by
  refine ⟨h.os, h.tape, h.output, by rw [size_setBlock]; exact h.size, fun k hk => ?_⟩
  have : (setBlock w b o).heap[k]? = w.heap[k]? := by simp only [setBlock]; rw [Array.getElem?_setIfInBounds_ne (by omega)]
  rw [this]; exact h.block k hk

set_option maxRecDepth 100000 in
theorem begins_c (w : World) : Calls Tryz.prog 40 #[] w fun e w' => e = .returned (.map (some w.heap.size)) ∧ BegM w' w.heap.size ∧ Below w.heap.size w w' := by
  have hmm := @run_makeMap Tryz.prog
  have hb0 : (w.alloc (.map #[] 0)).heap[w.heap.size]? = some (.map #[] 0) := World.alloc_heap_new _ _
  have h1 := upd_one hb0 keyB (by decide) (begV 71)
  have hb1 : (setBlock (w.alloc (.map #[] 0)) w.heap.size (.map #[⟨.string keyB, begV 71, 0⟩] 1)).heap[w.heap.size]? = some (.map #[⟨.string keyB, begV 71, 0⟩] 1) := heap_setBlock (by simp) _
  have h2 := upd_two hb1 redB (by decide) (by decide) (by decide) (begV 72)
  have HB := hid (show BegM (setBlock (setBlock (w.alloc (.map #[] 0)) w.heap.size (.map #[⟨.string keyB, begV 71, 0⟩] 1)) w.heap.size (.map #[⟨.string keyB, begV 71, 0⟩, ⟨.string redB, begV 72, 1⟩] 2)) w.heap.size from heap_setBlock (by rw [size_setBlock]; simp) _)
  have HW := hid (show Below w.heap.size w (setBlock (setBlock (w.alloc (.map #[] 0)) w.heap.size (.map #[⟨.string keyB, begV 71, 0⟩] 1)) w.heap.size (.map #[⟨.string keyB, begV 71, 0⟩, ⟨.string redB, begV 72, 1⟩] 2)) from below_setBlock (below_setBlock ((Below.refl _ _).alloc (Nat.le_refl _) _) (Nat.le_refl _) _) (Nat.le_refl _) _)
  obtain ⟨w2, hw2⟩ : ∃ w2, w2 = setBlock (w.alloc (.map #[] 0)) w.heap.size (.map #[⟨.string keyB, begV 71, 0⟩] 1) := ⟨_, rfl⟩
  rw [← hw2] at h1 h2 HB HW
  obtain ⟨w3, hw3⟩ : ∃ w3, w3 = setBlock w2 w.heap.size (.map #[⟨.string keyB, begV 71, 0⟩, ⟨.string redB, begV 72, 1⟩] 2) := ⟨_, rfl⟩
  rw [← hw3] at h2 HB HW
  have h1' : (Instr.mapUpdate 81 (.map (some w.heap.size)) (.string ⟨#[107, 101, 121]⟩) (.agg #[.func (.func 71) #[] #[]])).run Tryz.prog (w.alloc (.map #[] 0)) = .ok () w2 := h1
  have h2' : (Instr.mapUpdate 81 (.map (some w.heap.size)) (.string ⟨#[114, 101, 97, 100]⟩) (.agg #[.func (.func 72) #[] #[]])).run Tryz.prog w2 = .ok () w3 := h2
  clear hw2 hw3 hb0 hb1 h1 h2
  go_enter Tryz.func40, Tryz.ntmps40
  go_wp2
  go_ret
  exact ⟨rfl, HB.out, HW.out⟩

theorem begF1 (w : World) (a : Option Addr) (n cap : Nat) : Calls Tryz.prog 71 #[.slice a n cap] w fun e w' => e = .returned (.agg #[.bool true, .slice a n cap]) ∧ Below w.heap.size w w' := by
  go_enter Tryz.func71, Tryz.ntmps71
  go_wp2
  refine bodyPost_ret (v := .agg #[.bool true, .slice a n cap]) ?_ rfl ⟨rfl, (Below.refl _ _).alloc (Nat.le_refl _) _⟩
  simp [results, Tryz.results71, go_sem]
theorem begF2 (w : World) (a : Option Addr) (n cap : Nat) : Calls Tryz.prog 72 #[.slice a n cap] w fun e w' => e = .returned (.agg #[.bool false, .slice a n cap]) ∧ Below w.heap.size w w' := by
  go_enter Tryz.func72, Tryz.ntmps72
  go_wp2
  refine bodyPost_ret (v := .agg #[.bool false, .slice a n cap]) ?_ rfl ⟨rfl, (Below.refl _ _).alloc (Nat.le_refl _) _⟩
  simp [results, Tryz.results72, go_sem]
theorem zero_beg (w : World) : (zeroValue 79).run Tryz.prog w = .ok (.agg #[.nilFunc]) w := by
  have h : (Tryz.prog.info? 79).map (fun i => i.zero) = some (some (.agg #[.nilFunc])) := by kernel_rfl
  cases hi : Tryz.prog.info? 79 with
  | none => rw [hi] at h; cases h
  | some i =>
    rw [hi] at h
    have h2 : i.zero = some (.agg #[.nilFunc]) := by simpa using h
    simp [zeroValue, typeInfo, hi, h2, go_sem]
theorem look_key {W : World} {b : Nat} (h : BegM W b) (s : ByteArray) (hsz : s.size ≤ maxLen) (hs : s = keyB) : (Instr.lookup 81 (.map (some b)) (.string s) true).run Tryz.prog W = .ok (.tuple #[begV 71, .bool true]) W := by
  have ht := Tryz.underlying81
  have hm : ∀ e ∈ [begE 71 keyB 0, begE 72 redB 1], ∃ l, keyOf Tryz.prog 9 e.key = some l := by
    intro e he
    rcases List.mem_cons.1 he with rfl | he
    · exact ⟨_, keyS' (by decide)⟩
    · rw [List.mem_singleton.1 he]; exact ⟨_, keyS' (by decide)⟩
  rcases strKeyed.find W (keyS' hsz) _ hm with ⟨h1, h2⟩ | ⟨j, e, h1, h2, h3⟩
  · exact absurd (by rw [hs]; rfl) (h2 (begE 71 keyB 0) (by simp))
  · have hv : e.val = begV 71 := by
      rcases List.mem_cons.1 (List.mem_of_getElem? h2) with rfl | he
      · rfl
      · rw [List.mem_singleton.1 he] at h3
        have : redB = s := by simpa [begE] using h3
        rw [hs] at this
        exact absurd this (by decide)
    simp [Instr.lookup, run_underlying ht, MapKept.run_getObj_map h, strKeyed.check W _ (keyS' hsz), h1, hv, Result.andThen]
theorem look_read {W : World} {b : Nat} (h : BegM W b) (s : ByteArray) (hsz : s.size ≤ maxLen) (hs : s = redB) : (Instr.lookup 81 (.map (some b)) (.string s) true).run Tryz.prog W = .ok (.tuple #[begV 72, .bool true]) W := by
  have ht := Tryz.underlying81
  have hm : ∀ e ∈ [begE 71 keyB 0, begE 72 redB 1], ∃ l, keyOf Tryz.prog 9 e.key = some l := by
    intro e he
    rcases List.mem_cons.1 he with rfl | he
    · exact ⟨_, keyS' (by decide)⟩
    · rw [List.mem_singleton.1 he]; exact ⟨_, keyS' (by decide)⟩
  rcases strKeyed.find W (keyS' hsz) _ hm with ⟨h1, h2⟩ | ⟨j, e, h1, h2, h3⟩
  · exact absurd (by rw [hs]; rfl) (h2 (begE 72 redB 1) (by simp))
  · have hv : e.val = begV 72 := by
      rcases List.mem_cons.1 (List.mem_of_getElem? h2) with rfl | he
      · have : keyB = s := by simpa [begE] using h3
        rw [hs] at this
        exact absurd this (by decide)
      · rw [List.mem_singleton.1 he]; rfl
    simp [Instr.lookup, run_underlying ht, MapKept.run_getObj_map h, strKeyed.check W _ (keyS' hsz), h1, hv, Result.andThen]
theorem look_no {W : World} {b : Nat} (h : BegM W b) (s : ByteArray) (hsz : s.size ≤ maxLen) (hs : s ≠ keyB) (hs2 : s ≠ redB) : (Instr.lookup 81 (.map (some b)) (.string s) true).run Tryz.prog W = .ok (.tuple #[.agg #[.nilFunc], .bool false]) W := by
  have ht := Tryz.underlying81
  have hm : ∀ e ∈ [begE 71 keyB 0, begE 72 redB 1], ∃ l, keyOf Tryz.prog 9 e.key = some l := by
    intro e he
    rcases List.mem_cons.1 he with rfl | he
    · exact ⟨_, keyS' (by decide)⟩
    · rw [List.mem_singleton.1 he]; exact ⟨_, keyS' (by decide)⟩
  rcases strKeyed.find W (keyS' hsz) _ hm with ⟨h1, h2⟩ | ⟨j, e, h1, h2, h3⟩
  · simp [Instr.lookup, run_underlying ht, MapKept.run_getObj_map h, strKeyed.check W _ (keyS' hsz), h1, zero_beg W, Result.andThen]
  · exfalso
    rcases List.mem_cons.1 (List.mem_of_getElem? h2) with rfl | he
    · exact hs (by simpa [begE] using h3.symm)
    · rw [List.mem_singleton.1 he] at h3
      exact hs2 (by simpa [begE] using h3.symm)
end Go.Proofs.YtddcamcdjkiadaaGreatDoor

namespace Go.Proofs.YtddcamcdjkiadaaGreatDoor
open Go.RowKit
set_option linter.unusedVariables false

theorem AnyT.weak {P : Program} {md : Region.Mode} {ops : Array Oper} {Q : Exit → Act → World → Prop} {T T' : Nat → World → Prop} (hT : ∀ j w, T' j w → T j w) : ∀ (fuel : Nat) (listed : Array Bool) (a : Act) (w : World), AnyT P md ops Q T' fuel listed a w → AnyT P md ops Q T fuel listed a w
  | 0, _, _, _, h => h
  | fuel + 1, listed, a, w, h => ⟨h.1, fun i hi => wpOp_mono (fun a' w' h' => ⟨hT _ _ h'.1, AnyT.weak hT fuel _ _ _ h'.2⟩) (h.2 i hi)⟩
end Go.Proofs.YtddcamcdjkiadaaGreatDoor

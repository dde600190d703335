/- Walks and plain laws for StreamDecodesRow, part 10. -/
import Derived.WalkSpells
import Derived.Test.YtkmjeegnijohmaaGreatPkStreamDecodesRow9
namespace Go.Proofs.YtkmjeegnijohmaaGreat
open Go.RowKit
set_option linter.unusedVariables false

set_option maxRecDepth 100000 in
set_option maxHeartbeats 2000000 in
theorem r8frame_c (w : World) (kf : Bool) (a2 a : Option Addr) (n2 cap2 n cap : Nat) (M : Mask) (l : List Int) (hn : M.length = n) (h1 : 1 ≤ n) (H : RowsAt w a M) (hn2 : l.length = n2) (hm2 : n2 ≤ maxLen) (H2 : IntsAt w a2 l) :
    Calls Tryz.prog 69 #[.slice a n cap, .agg #[.bool kf, .slice a2 n2 cap2]] w fun e w' => e = .returned (.bool (frB M (kf, l))) ∧ Below w.heap.size w w' := by
  obtain ⟨b, off, ra, rc, rfl, hb, hc⟩ := rows_head H (by omega)
  have i0 : (0 : Int) < (n : Int) := by omega
  have hbz : ∀ o : Obj, Below w.heap.size w (w.alloc o) := fun o => (Below.refl _ _).alloc (Nat.le_refl _) _
  have hcz : ∀ o : Obj, (w.alloc o).cell? ⟨b, off, none⟩ = some (.slice ra (colsM M) rc) := fun o => ((hbz o).cell (p := ⟨b, off, none⟩) hb).trans hc
  have HLP := hid (fun (o : Obj) q => r8list_c ((w.alloc o).drewN q) a2 n2 cap2 l hn2 hm2 (H2.below (below_drewN (hbz o) q)) (colsM M) 1000 (by omega) (by omega))
  have HLR := hid (fun (o : Obj) q => r8list_c ((w.alloc o).drewN q) a2 n2 cap2 l hn2 hm2 (H2.below (below_drewN (hbz o) q)) n 1000000 (by omega) (by omega))
  have hp1 : listB l (colsM M) 1000 = picB M l := listB_pic
  have hp2 : listB l n 1000000 = readB M l := by
    unfold listB readB milB
    congr 1
    rw [Bool.eq_iff_iff]; simp; omega
  have hp : frB M (kf, l) = (decide (n2 = 0) || (kf && picB M l) || (!kf && readB M l)) := by unfold frB readB; rw [hn2]
  rw [hp]
  rw [hp1] at HLP
  rw [hp2] at HLR
  have hd : ((n2 : Int) == 0) = decide (n2 = 0) := by rw [Bool.eq_iff_iff]; simp
  obtain ⟨D, hD⟩ : ∃ D, D = decide (n2 = 0) := ⟨_, rfl⟩
  obtain ⟨A, hA⟩ : ∃ A, A = picB M l := ⟨_, rfl⟩
  obtain ⟨R, hR⟩ : ∃ R, R = readB M l := ⟨_, rfl⟩
  obtain ⟨W, hW⟩ : ∃ W, W = colsM M := ⟨_, rfl⟩
  rw [← hD] at hd
  rw [← hA, ← hW] at HLP
  rw [← hR] at HLR
  rw [← hW] at hcz
  rw [← hD, ← hA, ← hR]
  have HBZ := hid hbz
  clear hp hp1 hp2 hD hA hR hW hn hn2 H H2 hc hbz
  cases D
  rotate_left
  ·
    have hb0 := HBZ.out (.cells #[.bool kf, .slice a2 n2 cap2] 47)
    have hc0 := hcz (.cells #[.bool kf, .slice a2 n2 cap2] 47)
    have hw0 : (w.alloc (.cells #[.bool kf, .slice a2 n2 cap2] 47)).heap[w.heap.size]? = some (.cells #[.bool kf, .slice a2 n2 cap2] 47 (0, 0)) := World.alloc_heap_new _ _
    have HLP0 := hid (fun q => HLP.out (.cells #[.bool kf, .slice a2 n2 cap2] 47) q)
    have HLR0 := hid (fun q => HLR.out (.cells #[.bool kf, .slice a2 n2 cap2] 47) q)
    clear hcz HLP HLR
    have HB0 := hid hb0
    have HC0 := hid hc0
    have HW0 := hid hw0
    clear hb0 hc0 hw0
    go_enter Tryz.func69, Tryz.ntmps69
    go_wp2
    refine plain_region (fun j w' => decide (j < 30) = true → w' = (w.alloc (.cells #[.bool kf, .slice a2 n2 cap2] 47)).drew) (by kernel_rfl) ?_
    have hb0 : Below w.heap.size w (w.alloc (.cells #[.bool kf, .slice a2 n2 cap2] 47)).drew := HB0.out.drew
    have hc0 : (w.alloc (.cells #[.bool kf, .slice a2 n2 cap2] 47)).drew.cell? ⟨b, off, none⟩ = some (.slice ra W rc) := HC0.out
    have hw0 : (w.alloc (.cells #[.bool kf, .slice a2 n2 cap2] 47)).drew.heap[w.heap.size]? = some (.cells #[.bool kf, .slice a2 n2 cap2] 47 (0, 0)) := HW0.out
    have HLP1 := hid (HLP0.out 1)
    have HLR1 := hid (HLR0.out 1)
    have e1 : (w.alloc (.cells #[.bool kf, .slice a2 n2 cap2] 47)).drewN 1 = (w.alloc (.cells #[.bool kf, .slice a2 n2 cap2] 47)).drew := rfl
    rw [e1] at HLP1 HLR1
    clear HLP0 HLR0 HB0 HC0 HW0 e1
    generalize (w.alloc (.cells #[.bool kf, .slice a2 n2 cap2] 47)).drew = wd at hb0 hc0 hw0 HLP1 HLR1 ⊢
    obtain ⟨q0, q1, _, _, _⟩ := box2_facts hw0
    have HB0 := hid hb0
    clear hb0 hw0
    refine AnyT.takeD (i := 0) (v := .pointer (some ⟨w.heap.size, 1, none⟩)) rfl rfl (by kernel_rfl) (by kernel_rfl) (by kernel_rfl) (by first | exact (fun _ _ _ h => h) | exact (fun _ _ _ h => absurd h.1 (by simp))) (by kernel_rfl) (by rfl) (by rintro w' rfl; go_simp) rfl ?_; go_frame
    refine AnyT.takeD (i := 1) (v := .slice a2 n2 cap2) rfl rfl (by kernel_rfl) (by kernel_rfl) (by kernel_rfl) (by first | exact (fun _ _ _ h => h) | exact (fun _ _ _ h => absurd h.1 (by simp))) (by kernel_rfl) (by rfl) (by rintro w' rfl; go_simp) rfl ?_; go_frame
    refine AnyT.takeD (i := 2) (v := .int .i64 n2) rfl rfl (by kernel_rfl) (by kernel_rfl) (by kernel_rfl) (by first | exact (fun _ _ _ h => h) | exact (fun _ _ _ h => absurd h.1 (by simp))) (by kernel_rfl) (by rfl) (by rintro w' rfl; go_simp) rfl ?_; go_frame
    refine AnyT.takeD (i := 3) (v := .bool true) rfl rfl (by kernel_rfl) (by kernel_rfl) (by kernel_rfl) (by first | exact (fun _ _ _ h => h) | exact (fun _ _ _ h => absurd h.1 (by simp))) (by kernel_rfl) (by rfl) (by rintro w' rfl; go_simp) rfl ?_; go_frame
    refine AnyT.takeD (i := 4) (v := .bool true) rfl rfl (by kernel_rfl) (by kernel_rfl) (by kernel_rfl) (by first | exact (fun _ _ _ h => h) | exact (fun _ _ _ h => absurd h.1 (by simp))) (by kernel_rfl) (by rfl) (by rintro w' rfl; go_simp) rfl ?_; go_frame
    refine AnyT.takeDN (i := 5) rfl rfl (by kernel_rfl) (by kernel_rfl) (by kernel_rfl) (by first | exact (fun _ _ _ h => h) | exact (fun _ _ _ h => absurd h.1 (by simp))) (by kernel_rfl) (by rfl) rfl ?_; go_frame
    refine AnyT.takeDN (i := 6) rfl rfl (by kernel_rfl) (by kernel_rfl) (by kernel_rfl) (by first | exact (fun _ _ _ h => h) | exact (fun _ _ _ h => absurd h.1 (by simp))) (by kernel_rfl) (by rfl) rfl ?_; go_frame
    refine AnyT.takeDN (i := 7) rfl rfl (by kernel_rfl) (by kernel_rfl) (by kernel_rfl) (by first | exact (fun _ _ _ h => h) | exact (fun _ _ _ h => absurd h.1 (by simp))) (by kernel_rfl) (by rfl) rfl ?_; go_frame
    refine AnyT.takeDN (i := 8) rfl rfl (by kernel_rfl) (by kernel_rfl) (by kernel_rfl) (by first | exact (fun _ _ _ h => h) | exact (fun _ _ _ h => absurd h.1 (by simp))) (by kernel_rfl) (by rfl) rfl ?_; go_frame
    refine AnyT.takeDN (i := 9) rfl rfl (by kernel_rfl) (by kernel_rfl) (by kernel_rfl) (by first | exact (fun _ _ _ h => h) | exact (fun _ _ _ h => absurd h.1 (by simp))) (by kernel_rfl) (by rfl) rfl ?_; go_frame
    refine AnyT.takeDN (i := 10) rfl rfl (by kernel_rfl) (by kernel_rfl) (by kernel_rfl) (by first | exact (fun _ _ _ h => h) | exact (fun _ _ _ h => absurd h.1 (by simp))) (by kernel_rfl) (by rfl) rfl ?_; go_frame
    refine AnyT.takeDN (i := 11) rfl rfl (by kernel_rfl) (by kernel_rfl) (by kernel_rfl) (by first | exact (fun _ _ _ h => h) | exact (fun _ _ _ h => absurd h.1 (by simp))) (by kernel_rfl) (by rfl) rfl ?_; go_frame
    refine AnyT.takeDN (i := 12) rfl rfl (by kernel_rfl) (by kernel_rfl) (by kernel_rfl) (by first | exact (fun _ _ _ h => h) | exact (fun _ _ _ h => absurd h.1 (by simp))) (by kernel_rfl) (by rfl) rfl ?_; go_frame
    refine AnyT.takeDN (i := 13) rfl rfl (by kernel_rfl) (by kernel_rfl) (by kernel_rfl) (by first | exact (fun _ _ _ h => h) | exact (fun _ _ _ h => absurd h.1 (by simp))) (by kernel_rfl) (by rfl) rfl ?_; go_frame
    refine AnyT.takeDN (i := 14) rfl rfl (by kernel_rfl) (by kernel_rfl) (by kernel_rfl) (by first | exact (fun _ _ _ h => h) | exact (fun _ _ _ h => absurd h.1 (by simp))) (by kernel_rfl) (by rfl) rfl ?_; go_frame
    refine AnyT.takeDN (i := 15) rfl rfl (by kernel_rfl) (by kernel_rfl) (by kernel_rfl) (by first | exact (fun _ _ _ h => h) | exact (fun _ _ _ h => absurd h.1 (by simp))) (by kernel_rfl) (by rfl) rfl ?_; go_frame
    refine AnyT.takeD (i := 16) (v := .bool true) rfl rfl (by kernel_rfl) (by kernel_rfl) (by kernel_rfl) (by first | exact (fun _ _ _ h => h) | exact (fun _ _ _ h => absurd h.1 (by simp))) (by kernel_rfl) (by rfl) (by rintro w' rfl; go_simp) rfl ?_; go_frame
    refine AnyT.takeD (i := 17) (v := .bool true) rfl rfl (by kernel_rfl) (by kernel_rfl) (by kernel_rfl) (by first | exact (fun _ _ _ h => h) | exact (fun _ _ _ h => absurd h.1 (by simp))) (by kernel_rfl) (by rfl) (by rintro w' rfl; go_simp) rfl ?_; go_frame
    refine AnyT.takeDN (i := 18) rfl rfl (by kernel_rfl) (by kernel_rfl) (by kernel_rfl) (by first | exact (fun _ _ _ h => h) | exact (fun _ _ _ h => absurd h.1 (by simp))) (by kernel_rfl) (by rfl) rfl ?_; go_frame
    refine AnyT.takeDN (i := 19) rfl rfl (by kernel_rfl) (by kernel_rfl) (by kernel_rfl) (by first | exact (fun _ _ _ h => h) | exact (fun _ _ _ h => absurd h.1 (by simp))) (by kernel_rfl) (by rfl) rfl ?_; go_frame
    refine AnyT.takeDN (i := 20) rfl rfl (by kernel_rfl) (by kernel_rfl) (by kernel_rfl) (by first | exact (fun _ _ _ h => h) | exact (fun _ _ _ h => absurd h.1 (by simp))) (by kernel_rfl) (by rfl) rfl ?_; go_frame
    refine AnyT.takeDN (i := 21) rfl rfl (by kernel_rfl) (by kernel_rfl) (by kernel_rfl) (by first | exact (fun _ _ _ h => h) | exact (fun _ _ _ h => absurd h.1 (by simp))) (by kernel_rfl) (by rfl) rfl ?_; go_frame
    refine AnyT.takeDN (i := 22) rfl rfl (by kernel_rfl) (by kernel_rfl) (by kernel_rfl) (by first | exact (fun _ _ _ h => h) | exact (fun _ _ _ h => absurd h.1 (by simp))) (by kernel_rfl) (by rfl) rfl ?_; go_frame
    refine AnyT.takeDN (i := 23) rfl rfl (by kernel_rfl) (by kernel_rfl) (by kernel_rfl) (by first | exact (fun _ _ _ h => h) | exact (fun _ _ _ h => absurd h.1 (by simp))) (by kernel_rfl) (by rfl) rfl ?_; go_frame
    refine AnyT.takeDN (i := 24) rfl rfl (by kernel_rfl) (by kernel_rfl) (by kernel_rfl) (by first | exact (fun _ _ _ h => h) | exact (fun _ _ _ h => absurd h.1 (by simp))) (by kernel_rfl) (by rfl) rfl ?_; go_frame
    refine AnyT.takeDN (i := 25) rfl rfl (by kernel_rfl) (by kernel_rfl) (by kernel_rfl) (by first | exact (fun _ _ _ h => h) | exact (fun _ _ _ h => absurd h.1 (by simp))) (by kernel_rfl) (by rfl) rfl ?_; go_frame
    refine AnyT.takeDN (i := 26) rfl rfl (by kernel_rfl) (by kernel_rfl) (by kernel_rfl) (by first | exact (fun _ _ _ h => h) | exact (fun _ _ _ h => absurd h.1 (by simp))) (by kernel_rfl) (by rfl) rfl ?_; go_frame
    refine AnyT.takeDN (i := 27) rfl rfl (by kernel_rfl) (by kernel_rfl) (by kernel_rfl) (by first | exact (fun _ _ _ h => h) | exact (fun _ _ _ h => absurd h.1 (by simp))) (by kernel_rfl) (by rfl) rfl ?_; go_frame
    refine AnyT.takeD (i := 28) (v := .bool true) rfl rfl (by kernel_rfl) (by kernel_rfl) (by kernel_rfl) (by first | exact (fun _ _ _ h => h) | exact (fun _ _ _ h => absurd h.1 (by simp))) (by kernel_rfl) (by rfl) (by rintro w' rfl; go_simp) rfl ?_; go_frame
    refine AnyT.takeD (i := 29) (v := .bool true) rfl rfl (by kernel_rfl) (by kernel_rfl) (by kernel_rfl) (by first | exact (fun _ _ _ h => h) | exact (fun _ _ _ h => absurd h.1 (by simp))) (by kernel_rfl) (by rfl) (by rintro w' rfl; go_simp) rfl ?_; go_frame
    refine ⟨by kernel_rfl, ?_⟩
    go_wp2
    go_ret
    exact ⟨by simp, HB0.out⟩
  · cases kf
    rotate_left
    ·
      have hb0 := HBZ.out (.cells #[.bool true, .slice a2 n2 cap2] 47)
      have hc0 := hcz (.cells #[.bool true, .slice a2 n2 cap2] 47)
      have hw0 : (w.alloc (.cells #[.bool true, .slice a2 n2 cap2] 47)).heap[w.heap.size]? = some (.cells #[.bool true, .slice a2 n2 cap2] 47 (0, 0)) := World.alloc_heap_new _ _
      have HLP0 := hid (fun q => HLP.out (.cells #[.bool true, .slice a2 n2 cap2] 47) q)
      have HLR0 := hid (fun q => HLR.out (.cells #[.bool true, .slice a2 n2 cap2] 47) q)
      clear hcz HLP HLR
      have HB0 := hid hb0
      have HC0 := hid hc0
      have HW0 := hid hw0
      clear hb0 hc0 hw0
      go_enter Tryz.func69, Tryz.ntmps69
      go_wp2
      refine plain_region (fun j w' => decide (j < 30) = true → w' = (w.alloc (.cells #[.bool true, .slice a2 n2 cap2] 47)).drew) (by kernel_rfl) ?_
      have hb0 : Below w.heap.size w (w.alloc (.cells #[.bool true, .slice a2 n2 cap2] 47)).drew := HB0.out.drew
      have hc0 : (w.alloc (.cells #[.bool true, .slice a2 n2 cap2] 47)).drew.cell? ⟨b, off, none⟩ = some (.slice ra W rc) := HC0.out
      have hw0 : (w.alloc (.cells #[.bool true, .slice a2 n2 cap2] 47)).drew.heap[w.heap.size]? = some (.cells #[.bool true, .slice a2 n2 cap2] 47 (0, 0)) := HW0.out
      have HLP1 := hid (HLP0.out 1)
      have HLR1 := hid (HLR0.out 1)
      have e1 : (w.alloc (.cells #[.bool true, .slice a2 n2 cap2] 47)).drewN 1 = (w.alloc (.cells #[.bool true, .slice a2 n2 cap2] 47)).drew := rfl
      rw [e1] at HLP1 HLR1
      clear HLP0 HLR0 HB0 HC0 HW0 e1
      generalize (w.alloc (.cells #[.bool true, .slice a2 n2 cap2] 47)).drew = wd at hb0 hc0 hw0 HLP1 HLR1 ⊢
      obtain ⟨q0, q1, _, _, _⟩ := box2_facts hw0
      have HB0 := hid hb0
      clear hb0 hw0
      refine AnyT.takeD (i := 0) (v := .pointer (some ⟨w.heap.size, 1, none⟩)) rfl rfl (by kernel_rfl) (by kernel_rfl) (by kernel_rfl) (by first | exact (fun _ _ _ h => h) | exact (fun _ _ _ h => absurd h.1 (by simp))) (by kernel_rfl) (by rfl) (by rintro w' rfl; go_simp) rfl ?_; go_frame
      refine AnyT.takeD (i := 1) (v := .slice a2 n2 cap2) rfl rfl (by kernel_rfl) (by kernel_rfl) (by kernel_rfl) (by first | exact (fun _ _ _ h => h) | exact (fun _ _ _ h => absurd h.1 (by simp))) (by kernel_rfl) (by rfl) (by rintro w' rfl; go_simp) rfl ?_; go_frame
      refine AnyT.takeD (i := 2) (v := .int .i64 n2) rfl rfl (by kernel_rfl) (by kernel_rfl) (by kernel_rfl) (by first | exact (fun _ _ _ h => h) | exact (fun _ _ _ h => absurd h.1 (by simp))) (by kernel_rfl) (by rfl) (by rintro w' rfl; go_simp) rfl ?_; go_frame
      refine AnyT.takeD (i := 3) (v := .bool false) rfl rfl (by kernel_rfl) (by kernel_rfl) (by kernel_rfl) (by first | exact (fun _ _ _ h => h) | exact (fun _ _ _ h => absurd h.1 (by simp))) (by kernel_rfl) (by rfl) (by rintro w' rfl; go_simp) rfl ?_; go_frame
      refine AnyT.takeD (i := 4) (v := .bool false) rfl rfl (by kernel_rfl) (by kernel_rfl) (by kernel_rfl) (by first | exact (fun _ _ _ h => h) | exact (fun _ _ _ h => absurd h.1 (by simp))) (by kernel_rfl) (by rfl) (by rintro w' rfl; go_simp) rfl ?_; go_frame
      refine AnyT.takeD (i := 5) (v := .pointer (some ⟨w.heap.size, 0, none⟩)) rfl rfl (by kernel_rfl) (by kernel_rfl) (by kernel_rfl) (by first | exact (fun _ _ _ h => h) | exact (fun _ _ _ h => absurd h.1 (by simp))) (by kernel_rfl) (by rfl) (by rintro w' rfl; go_simp) rfl ?_; go_frame
      refine AnyT.takeD (i := 6) (v := .bool true) rfl rfl (by kernel_rfl) (by kernel_rfl) (by kernel_rfl) (by first | exact (fun _ _ _ h => h) | exact (fun _ _ _ h => absurd h.1 (by simp))) (by kernel_rfl) (by rfl) (by rintro w' rfl; go_simp) rfl ?_; go_frame
      refine AnyT.takeD (i := 7) (v := .bool true) rfl rfl (by kernel_rfl) (by kernel_rfl) (by kernel_rfl) (by first | exact (fun _ _ _ h => h) | exact (fun _ _ _ h => absurd h.1 (by simp))) (by kernel_rfl) (by rfl) (by rintro w' rfl; go_simp) rfl ?_; go_frame
      refine AnyT.takeD (i := 8) (v := .pointer (some ⟨w.heap.size, 1, none⟩)) rfl rfl (by kernel_rfl) (by kernel_rfl) (by kernel_rfl) (by first | exact (fun _ _ _ h => h) | exact (fun _ _ _ h => absurd h.1 (by simp))) (by kernel_rfl) (by rfl) (by rintro w' rfl; go_simp) rfl ?_; go_frame
      refine AnyT.takeD (i := 9) (v := .slice a2 n2 cap2) rfl rfl (by kernel_rfl) (by kernel_rfl) (by kernel_rfl) (by first | exact (fun _ _ _ h => h) | exact (fun _ _ _ h => absurd h.1 (by simp))) (by kernel_rfl) (by rfl) (by rintro w' rfl; go_simp) rfl ?_; go_frame
      refine AnyT.takeD (i := 10) (v := .slice (some ⟨b, off, none⟩) n cap) rfl rfl (by kernel_rfl) (by kernel_rfl) (by kernel_rfl) (by first | exact (fun _ _ _ h => h) | exact (fun _ _ _ h => absurd h.1 (by simp))) (by kernel_rfl) (by rfl) (by rintro w' rfl; go_simp) rfl ?_; go_frame
      refine AnyT.takeD (i := 11) (v := .pointer (some ⟨b, off, none⟩)) rfl rfl (by kernel_rfl) (by kernel_rfl) (by kernel_rfl) (by first | exact (fun _ _ _ h => h) | exact (fun _ _ _ h => absurd h.1 (by simp))) (by kernel_rfl) (by rfl) (by rintro w' rfl; go_simp; intro h; exact absurd h (by omega)) rfl ?_; go_frame
      refine AnyT.takeD (i := 12) (v := .slice ra W rc) rfl rfl (by kernel_rfl) (by kernel_rfl) (by kernel_rfl) (by first | exact (fun _ _ _ h => h) | exact (fun _ _ _ h => absurd h.1 (by simp))) (by kernel_rfl) (by rfl) (by rintro w' rfl; go_simp) rfl ?_; go_frame
      refine AnyT.takeD (i := 13) (v := .int .i64 W) rfl rfl (by kernel_rfl) (by kernel_rfl) (by kernel_rfl) (by first | exact (fun _ _ _ h => h) | exact (fun _ _ _ h => absurd h.1 (by simp))) (by kernel_rfl) (by rfl) (by rintro w' rfl; go_simp) rfl ?_; go_frame
      refine AnyT.next (i := 14) (by kernel_rfl) rfl (wpOp_of_list rfl ?_)
      go_wp2_with (go_at_call 58; refine HLP1.out.mono ?_; rintro e w1 ⟨rfl, rfl⟩)
      refine ⟨fun _ => rfl, ?_⟩
      refine AnyT.takeD (i := 15) (v := .bool A) rfl rfl (by kernel_rfl) (by kernel_rfl) (by kernel_rfl) (by first | exact (fun _ _ _ h => h) | exact (fun _ _ _ h => absurd h.1 (by simp))) (by kernel_rfl) (by rfl) (by rintro w' rfl; go_simp) rfl ?_; go_frame
      refine AnyT.takeD (i := 16) (v := .bool A) rfl rfl (by kernel_rfl) (by kernel_rfl) (by kernel_rfl) (by first | exact (fun _ _ _ h => h) | exact (fun _ _ _ h => absurd h.1 (by simp))) (by kernel_rfl) (by rfl) (by rintro w' rfl; go_simp) rfl ?_; go_frame
      refine AnyT.takeD (i := 17) (v := .bool A) rfl rfl (by kernel_rfl) (by kernel_rfl) (by kernel_rfl) (by first | exact (fun _ _ _ h => h) | exact (fun _ _ _ h => absurd h.1 (by simp))) (by kernel_rfl) (by rfl) (by rintro w' rfl; go_simp) rfl ?_; go_frame
      cases A
      rotate_left
      ·
        refine AnyT.takeDN (i := 18) rfl rfl (by kernel_rfl) (by kernel_rfl) (by kernel_rfl) (by first | exact (fun _ _ _ h => h) | exact (fun _ _ _ h => absurd h.1 (by simp))) (by kernel_rfl) (by rfl) rfl ?_; go_frame
        refine AnyT.takeDN (i := 19) rfl rfl (by kernel_rfl) (by kernel_rfl) (by kernel_rfl) (by first | exact (fun _ _ _ h => h) | exact (fun _ _ _ h => absurd h.1 (by simp))) (by kernel_rfl) (by rfl) rfl ?_; go_frame
        refine AnyT.takeDN (i := 20) rfl rfl (by kernel_rfl) (by kernel_rfl) (by kernel_rfl) (by first | exact (fun _ _ _ h => h) | exact (fun _ _ _ h => absurd h.1 (by simp))) (by kernel_rfl) (by rfl) rfl ?_; go_frame
        refine AnyT.takeDN (i := 21) rfl rfl (by kernel_rfl) (by kernel_rfl) (by kernel_rfl) (by first | exact (fun _ _ _ h => h) | exact (fun _ _ _ h => absurd h.1 (by simp))) (by kernel_rfl) (by rfl) rfl ?_; go_frame
        refine AnyT.takeDN (i := 22) rfl rfl (by kernel_rfl) (by kernel_rfl) (by kernel_rfl) (by first | exact (fun _ _ _ h => h) | exact (fun _ _ _ h => absurd h.1 (by simp))) (by kernel_rfl) (by rfl) rfl ?_; go_frame
        refine AnyT.takeDN (i := 23) rfl rfl (by kernel_rfl) (by kernel_rfl) (by kernel_rfl) (by first | exact (fun _ _ _ h => h) | exact (fun _ _ _ h => absurd h.1 (by simp))) (by kernel_rfl) (by rfl) rfl ?_; go_frame
        refine AnyT.takeDN (i := 24) rfl rfl (by kernel_rfl) (by kernel_rfl) (by kernel_rfl) (by first | exact (fun _ _ _ h => h) | exact (fun _ _ _ h => absurd h.1 (by simp))) (by kernel_rfl) (by rfl) rfl ?_; go_frame
        refine AnyT.takeDN (i := 25) rfl rfl (by kernel_rfl) (by kernel_rfl) (by kernel_rfl) (by first | exact (fun _ _ _ h => h) | exact (fun _ _ _ h => absurd h.1 (by simp))) (by kernel_rfl) (by rfl) rfl ?_; go_frame
        refine AnyT.takeDN (i := 26) rfl rfl (by kernel_rfl) (by kernel_rfl) (by kernel_rfl) (by first | exact (fun _ _ _ h => h) | exact (fun _ _ _ h => absurd h.1 (by simp))) (by kernel_rfl) (by rfl) rfl ?_; go_frame
        refine AnyT.takeDN (i := 27) rfl rfl (by kernel_rfl) (by kernel_rfl) (by kernel_rfl) (by first | exact (fun _ _ _ h => h) | exact (fun _ _ _ h => absurd h.1 (by simp))) (by kernel_rfl) (by rfl) rfl ?_; go_frame
        refine AnyT.takeD (i := 28) (v := .bool true) rfl rfl (by kernel_rfl) (by kernel_rfl) (by kernel_rfl) (by first | exact (fun _ _ _ h => h) | exact (fun _ _ _ h => absurd h.1 (by simp))) (by kernel_rfl) (by rfl) (by rintro w' rfl; go_simp) rfl ?_; go_frame
        refine AnyT.takeD (i := 29) (v := .bool true) rfl rfl (by kernel_rfl) (by kernel_rfl) (by kernel_rfl) (by first | exact (fun _ _ _ h => h) | exact (fun _ _ _ h => absurd h.1 (by simp))) (by kernel_rfl) (by rfl) (by rintro w' rfl; go_simp) rfl ?_; go_frame
        refine ⟨by kernel_rfl, ?_⟩
        go_wp2
        go_ret
        exact ⟨by simp, HB0.out⟩
      ·
        refine AnyT.takeD (i := 18) (v := .pointer (some ⟨w.heap.size, 0, none⟩)) rfl rfl (by kernel_rfl) (by kernel_rfl) (by kernel_rfl) (by first | exact (fun _ _ _ h => h) | exact (fun _ _ _ h => absurd h.1 (by simp))) (by kernel_rfl) (by rfl) (by rintro w' rfl; go_simp) rfl ?_; go_frame
        refine AnyT.takeD (i := 19) (v := .bool true) rfl rfl (by kernel_rfl) (by kernel_rfl) (by kernel_rfl) (by first | exact (fun _ _ _ h => h) | exact (fun _ _ _ h => absurd h.1 (by simp))) (by kernel_rfl) (by rfl) (by rintro w' rfl; go_simp) rfl ?_; go_frame
        refine AnyT.takeD (i := 20) (v := .bool false) rfl rfl (by kernel_rfl) (by kernel_rfl) (by kernel_rfl) (by first | exact (fun _ _ _ h => h) | exact (fun _ _ _ h => absurd h.1 (by simp))) (by kernel_rfl) (by rfl) (by rintro w' rfl; go_simp) rfl ?_; go_frame
        refine AnyT.takeD (i := 21) (v := .bool false) rfl rfl (by kernel_rfl) (by kernel_rfl) (by kernel_rfl) (by first | exact (fun _ _ _ h => h) | exact (fun _ _ _ h => absurd h.1 (by simp))) (by kernel_rfl) (by rfl) (by rintro w' rfl; go_simp) rfl ?_; go_frame
        refine AnyT.takeDN (i := 22) rfl rfl (by kernel_rfl) (by kernel_rfl) (by kernel_rfl) (by first | exact (fun _ _ _ h => h) | exact (fun _ _ _ h => absurd h.1 (by simp))) (by kernel_rfl) (by rfl) rfl ?_; go_frame
        refine AnyT.takeDN (i := 23) rfl rfl (by kernel_rfl) (by kernel_rfl) (by kernel_rfl) (by first | exact (fun _ _ _ h => h) | exact (fun _ _ _ h => absurd h.1 (by simp))) (by kernel_rfl) (by rfl) rfl ?_; go_frame
        refine AnyT.takeDN (i := 24) rfl rfl (by kernel_rfl) (by kernel_rfl) (by kernel_rfl) (by first | exact (fun _ _ _ h => h) | exact (fun _ _ _ h => absurd h.1 (by simp))) (by kernel_rfl) (by rfl) rfl ?_; go_frame
        refine AnyT.takeDN (i := 25) rfl rfl (by kernel_rfl) (by kernel_rfl) (by kernel_rfl) (by first | exact (fun _ _ _ h => h) | exact (fun _ _ _ h => absurd h.1 (by simp))) (by kernel_rfl) (by rfl) rfl ?_; go_frame
        refine AnyT.takeDN (i := 26) rfl rfl (by kernel_rfl) (by kernel_rfl) (by kernel_rfl) (by first | exact (fun _ _ _ h => h) | exact (fun _ _ _ h => absurd h.1 (by simp))) (by kernel_rfl) (by rfl) rfl ?_; go_frame
        refine AnyT.takeD (i := 27) (v := .bool false) rfl rfl (by kernel_rfl) (by kernel_rfl) (by kernel_rfl) (by first | exact (fun _ _ _ h => h) | exact (fun _ _ _ h => absurd h.1 (by simp))) (by kernel_rfl) (by rfl) (by rintro w' rfl; go_simp) rfl ?_; go_frame
        refine AnyT.takeD (i := 28) (v := .bool false) rfl rfl (by kernel_rfl) (by kernel_rfl) (by kernel_rfl) (by first | exact (fun _ _ _ h => h) | exact (fun _ _ _ h => absurd h.1 (by simp))) (by kernel_rfl) (by rfl) (by rintro w' rfl; go_simp) rfl ?_; go_frame
        refine AnyT.takeD (i := 29) (v := .bool false) rfl rfl (by kernel_rfl) (by kernel_rfl) (by kernel_rfl) (by first | exact (fun _ _ _ h => h) | exact (fun _ _ _ h => absurd h.1 (by simp))) (by kernel_rfl) (by rfl) (by rintro w' rfl; go_simp) rfl ?_; go_frame
        refine ⟨by kernel_rfl, ?_⟩
        go_wp2
        go_ret
        exact ⟨by simp, HB0.out⟩
    ·
      have hb0 := HBZ.out (.cells #[.bool false, .slice a2 n2 cap2] 47)
      have hc0 := hcz (.cells #[.bool false, .slice a2 n2 cap2] 47)
      have hw0 : (w.alloc (.cells #[.bool false, .slice a2 n2 cap2] 47)).heap[w.heap.size]? = some (.cells #[.bool false, .slice a2 n2 cap2] 47 (0, 0)) := World.alloc_heap_new _ _
      have HLP0 := hid (fun q => HLP.out (.cells #[.bool false, .slice a2 n2 cap2] 47) q)
      have HLR0 := hid (fun q => HLR.out (.cells #[.bool false, .slice a2 n2 cap2] 47) q)
      clear hcz HLP HLR
      have HB0 := hid hb0
      have HC0 := hid hc0
      have HW0 := hid hw0
      clear hb0 hc0 hw0
      go_enter Tryz.func69, Tryz.ntmps69
      go_wp2
      refine plain_region (fun j w' => decide (j < 30) = true → w' = (w.alloc (.cells #[.bool false, .slice a2 n2 cap2] 47)).drew) (by kernel_rfl) ?_
      have hb0 : Below w.heap.size w (w.alloc (.cells #[.bool false, .slice a2 n2 cap2] 47)).drew := HB0.out.drew
      have hc0 : (w.alloc (.cells #[.bool false, .slice a2 n2 cap2] 47)).drew.cell? ⟨b, off, none⟩ = some (.slice ra W rc) := HC0.out
      have hw0 : (w.alloc (.cells #[.bool false, .slice a2 n2 cap2] 47)).drew.heap[w.heap.size]? = some (.cells #[.bool false, .slice a2 n2 cap2] 47 (0, 0)) := HW0.out
      have HLP1 := hid (HLP0.out 1)
      have HLR1 := hid (HLR0.out 1)
      have e1 : (w.alloc (.cells #[.bool false, .slice a2 n2 cap2] 47)).drewN 1 = (w.alloc (.cells #[.bool false, .slice a2 n2 cap2] 47)).drew := rfl
      rw [e1] at HLP1 HLR1
      clear HLP0 HLR0 HB0 HC0 HW0 e1
      generalize (w.alloc (.cells #[.bool false, .slice a2 n2 cap2] 47)).drew = wd at hb0 hc0 hw0 HLP1 HLR1 ⊢
      obtain ⟨q0, q1, _, _, _⟩ := box2_facts hw0
      have HB0 := hid hb0
      clear hb0 hw0
      refine AnyT.takeD (i := 0) (v := .pointer (some ⟨w.heap.size, 1, none⟩)) rfl rfl (by kernel_rfl) (by kernel_rfl) (by kernel_rfl) (by first | exact (fun _ _ _ h => h) | exact (fun _ _ _ h => absurd h.1 (by simp))) (by kernel_rfl) (by rfl) (by rintro w' rfl; go_simp) rfl ?_; go_frame
      refine AnyT.takeD (i := 1) (v := .slice a2 n2 cap2) rfl rfl (by kernel_rfl) (by kernel_rfl) (by kernel_rfl) (by first | exact (fun _ _ _ h => h) | exact (fun _ _ _ h => absurd h.1 (by simp))) (by kernel_rfl) (by rfl) (by rintro w' rfl; go_simp) rfl ?_; go_frame
      refine AnyT.takeD (i := 2) (v := .int .i64 n2) rfl rfl (by kernel_rfl) (by kernel_rfl) (by kernel_rfl) (by first | exact (fun _ _ _ h => h) | exact (fun _ _ _ h => absurd h.1 (by simp))) (by kernel_rfl) (by rfl) (by rintro w' rfl; go_simp) rfl ?_; go_frame
      refine AnyT.takeD (i := 3) (v := .bool false) rfl rfl (by kernel_rfl) (by kernel_rfl) (by kernel_rfl) (by first | exact (fun _ _ _ h => h) | exact (fun _ _ _ h => absurd h.1 (by simp))) (by kernel_rfl) (by rfl) (by rintro w' rfl; go_simp) rfl ?_; go_frame
      refine AnyT.takeD (i := 4) (v := .bool false) rfl rfl (by kernel_rfl) (by kernel_rfl) (by kernel_rfl) (by first | exact (fun _ _ _ h => h) | exact (fun _ _ _ h => absurd h.1 (by simp))) (by kernel_rfl) (by rfl) (by rintro w' rfl; go_simp) rfl ?_; go_frame
      refine AnyT.takeD (i := 5) (v := .pointer (some ⟨w.heap.size, 0, none⟩)) rfl rfl (by kernel_rfl) (by kernel_rfl) (by kernel_rfl) (by first | exact (fun _ _ _ h => h) | exact (fun _ _ _ h => absurd h.1 (by simp))) (by kernel_rfl) (by rfl) (by rintro w' rfl; go_simp) rfl ?_; go_frame
      refine AnyT.takeD (i := 6) (v := .bool false) rfl rfl (by kernel_rfl) (by kernel_rfl) (by kernel_rfl) (by first | exact (fun _ _ _ h => h) | exact (fun _ _ _ h => absurd h.1 (by simp))) (by kernel_rfl) (by rfl) (by rintro w' rfl; go_simp) rfl ?_; go_frame
      refine AnyT.takeD (i := 7) (v := .bool false) rfl rfl (by kernel_rfl) (by kernel_rfl) (by kernel_rfl) (by first | exact (fun _ _ _ h => h) | exact (fun _ _ _ h => absurd h.1 (by simp))) (by kernel_rfl) (by rfl) (by rintro w' rfl; go_simp) rfl ?_; go_frame
      refine AnyT.takeDN (i := 8) rfl rfl (by kernel_rfl) (by kernel_rfl) (by kernel_rfl) (by first | exact (fun _ _ _ h => h) | exact (fun _ _ _ h => absurd h.1 (by simp))) (by kernel_rfl) (by rfl) rfl ?_; go_frame
      refine AnyT.takeDN (i := 9) rfl rfl (by kernel_rfl) (by kernel_rfl) (by kernel_rfl) (by first | exact (fun _ _ _ h => h) | exact (fun _ _ _ h => absurd h.1 (by simp))) (by kernel_rfl) (by rfl) rfl ?_; go_frame
      refine AnyT.takeDN (i := 10) rfl rfl (by kernel_rfl) (by kernel_rfl) (by kernel_rfl) (by first | exact (fun _ _ _ h => h) | exact (fun _ _ _ h => absurd h.1 (by simp))) (by kernel_rfl) (by rfl) rfl ?_; go_frame
      refine AnyT.takeDN (i := 11) rfl rfl (by kernel_rfl) (by kernel_rfl) (by kernel_rfl) (by first | exact (fun _ _ _ h => h) | exact (fun _ _ _ h => absurd h.1 (by simp))) (by kernel_rfl) (by rfl) rfl ?_; go_frame
      refine AnyT.takeDN (i := 12) rfl rfl (by kernel_rfl) (by kernel_rfl) (by kernel_rfl) (by first | exact (fun _ _ _ h => h) | exact (fun _ _ _ h => absurd h.1 (by simp))) (by kernel_rfl) (by rfl) rfl ?_; go_frame
      refine AnyT.takeDN (i := 13) rfl rfl (by kernel_rfl) (by kernel_rfl) (by kernel_rfl) (by first | exact (fun _ _ _ h => h) | exact (fun _ _ _ h => absurd h.1 (by simp))) (by kernel_rfl) (by rfl) rfl ?_; go_frame
      refine AnyT.takeDN (i := 14) rfl rfl (by kernel_rfl) (by kernel_rfl) (by kernel_rfl) (by first | exact (fun _ _ _ h => h) | exact (fun _ _ _ h => absurd h.1 (by simp))) (by kernel_rfl) (by rfl) rfl ?_; go_frame
      refine AnyT.takeD (i := 15) (v := .bool false) rfl rfl (by kernel_rfl) (by kernel_rfl) (by kernel_rfl) (by first | exact (fun _ _ _ h => h) | exact (fun _ _ _ h => absurd h.1 (by simp))) (by kernel_rfl) (by rfl) (by rintro w' rfl; go_simp) rfl ?_; go_frame
      refine AnyT.takeD (i := 16) (v := .bool false) rfl rfl (by kernel_rfl) (by kernel_rfl) (by kernel_rfl) (by first | exact (fun _ _ _ h => h) | exact (fun _ _ _ h => absurd h.1 (by simp))) (by kernel_rfl) (by rfl) (by rintro w' rfl; go_simp) rfl ?_; go_frame
      refine AnyT.takeD (i := 17) (v := .bool false) rfl rfl (by kernel_rfl) (by kernel_rfl) (by kernel_rfl) (by first | exact (fun _ _ _ h => h) | exact (fun _ _ _ h => absurd h.1 (by simp))) (by kernel_rfl) (by rfl) (by rintro w' rfl; go_simp) rfl ?_; go_frame
      refine AnyT.takeD (i := 18) (v := .pointer (some ⟨w.heap.size, 0, none⟩)) rfl rfl (by kernel_rfl) (by kernel_rfl) (by kernel_rfl) (by first | exact (fun _ _ _ h => h) | exact (fun _ _ _ h => absurd h.1 (by simp))) (by kernel_rfl) (by rfl) (by rintro w' rfl; go_simp) rfl ?_; go_frame
      refine AnyT.takeD (i := 19) (v := .bool false) rfl rfl (by kernel_rfl) (by kernel_rfl) (by kernel_rfl) (by first | exact (fun _ _ _ h => h) | exact (fun _ _ _ h => absurd h.1 (by simp))) (by kernel_rfl) (by rfl) (by rintro w' rfl; go_simp) rfl ?_; go_frame
      refine AnyT.takeD (i := 20) (v := .bool true) rfl rfl (by kernel_rfl) (by kernel_rfl) (by kernel_rfl) (by first | exact (fun _ _ _ h => h) | exact (fun _ _ _ h => absurd h.1 (by simp))) (by kernel_rfl) (by rfl) (by rintro w' rfl; go_simp) rfl ?_; go_frame
      refine AnyT.takeD (i := 21) (v := .bool true) rfl rfl (by kernel_rfl) (by kernel_rfl) (by kernel_rfl) (by first | exact (fun _ _ _ h => h) | exact (fun _ _ _ h => absurd h.1 (by simp))) (by kernel_rfl) (by rfl) (by rintro w' rfl; go_simp) rfl ?_; go_frame
      refine AnyT.takeD (i := 22) (v := .pointer (some ⟨w.heap.size, 1, none⟩)) rfl rfl (by kernel_rfl) (by kernel_rfl) (by kernel_rfl) (by first | exact (fun _ _ _ h => h) | exact (fun _ _ _ h => absurd h.1 (by simp))) (by kernel_rfl) (by rfl) (by rintro w' rfl; go_simp) rfl ?_; go_frame
      refine AnyT.takeD (i := 23) (v := .slice a2 n2 cap2) rfl rfl (by kernel_rfl) (by kernel_rfl) (by kernel_rfl) (by first | exact (fun _ _ _ h => h) | exact (fun _ _ _ h => absurd h.1 (by simp))) (by kernel_rfl) (by rfl) (by rintro w' rfl; go_simp) rfl ?_; go_frame
      refine AnyT.takeD (i := 24) (v := .slice (some ⟨b, off, none⟩) n cap) rfl rfl (by kernel_rfl) (by kernel_rfl) (by kernel_rfl) (by first | exact (fun _ _ _ h => h) | exact (fun _ _ _ h => absurd h.1 (by simp))) (by kernel_rfl) (by rfl) (by rintro w' rfl; go_simp) rfl ?_; go_frame
      refine AnyT.takeD (i := 25) (v := .int .i64 n) rfl rfl (by kernel_rfl) (by kernel_rfl) (by kernel_rfl) (by first | exact (fun _ _ _ h => h) | exact (fun _ _ _ h => absurd h.1 (by simp))) (by kernel_rfl) (by rfl) (by rintro w' rfl; go_simp) rfl ?_; go_frame
      refine AnyT.next (i := 26) (by kernel_rfl) rfl (wpOp_of_list rfl ?_)
      go_wp2_with (go_at_call 58; refine HLR1.out.mono ?_; rintro e w1 ⟨rfl, rfl⟩)
      refine ⟨fun _ => rfl, ?_⟩
      refine AnyT.takeD (i := 27) (v := .bool R) rfl rfl (by kernel_rfl) (by kernel_rfl) (by kernel_rfl) (by first | exact (fun _ _ _ h => h) | exact (fun _ _ _ h => absurd h.1 (by simp))) (by kernel_rfl) (by rfl) (by rintro w' rfl; go_simp) rfl ?_; go_frame
      refine AnyT.takeD (i := 28) (v := .bool R) rfl rfl (by kernel_rfl) (by kernel_rfl) (by kernel_rfl) (by first | exact (fun _ _ _ h => h) | exact (fun _ _ _ h => absurd h.1 (by simp))) (by kernel_rfl) (by rfl) (by rintro w' rfl; go_simp) rfl ?_; go_frame
      refine AnyT.takeD (i := 29) (v := .bool R) rfl rfl (by kernel_rfl) (by kernel_rfl) (by kernel_rfl) (by first | exact (fun _ _ _ h => h) | exact (fun _ _ _ h => absurd h.1 (by simp))) (by kernel_rfl) (by rfl) (by rintro w' rfl; go_simp) rfl ?_; go_frame
      refine ⟨by kernel_rfl, ?_⟩
      go_wp2
      go_ret
      exact ⟨by simp, HB0.out⟩
end Go.Proofs.YtkmjeegnijohmaaGreat

namespace Go.Proofs.YtkmjeegnijohmaaGreat
open Go.RowKit
set_option linter.unusedVariables false

def encE (M : Mask) (p : List (List Int)) (every : Int) : Int := if picsB M p = true then (if inB every 1 60 = true then 0 else 7) else 1

set_option maxHeartbeats 1000000 in
theorem sEncode_c (w : World) (a a2 : Option Addr) (n cap n2 cap2 : Nat) (M : Mask) (p : List (List Int)) (every : Int) (hn : M.length = n) (hm : n ≤ maxLen) (H : RowsAt w a M) (hn2 : p.length = n2) (hm2 : n2 ≤ maxLen) (H2 : RowsAt w a2 p) :
    Calls Tryz.prog 30 #[.slice a n cap, .slice a2 n2 cap2, .int .i64 every] w fun e w' => Below w.heap.size w w' ∧
      ((encE M p every ≠ 0 ∧ e = .returned (.tuple #[.slice none 0 0, .int .i64 (encE M p every)])) ∨ (encE M p every = 0 ∧ ∃ v base, e = .returned (.tuple #[v, .int .i64 0]) ∧ w.heap.size ≤ base ∧ FrmsO w' base (fun _ => True) v (encF M p every.toNat))) := by
  have HV := hid (validPics_c w a n cap M hn hm H a2 n2 cap2 p hn2 hm2 H2)
  have HW := hid (fun X => swithin_c every 1 60 X)
  cases hP : picsB M p
  · have he : encE M p every = 1 := by unfold encE; rw [hP]; rfl
    rw [hP] at HV
    rw [he]
    clear hn H hn2 H2 hP he
    go_enter Tryz.func30, Tryz.ntmps30
    go_wp2_with (go_at_call 31; refine HV.out.mono ?_; rintro e w1 ⟨rfl, hb1⟩)
    go_ret2
    exact ⟨hb1, .inl ⟨by decide, rfl⟩⟩
  · cases hE : inB every 1 60
    · have he : encE M p every = 7 := by unfold encE; rw [hP, hE]; rfl
      rw [hP] at HV
      rw [hE] at HW
      rw [he]
      clear hn H hn2 H2 hP he hE
      go_enter Tryz.func30, Tryz.ntmps30
      go_wp2_with first
        | (go_at_call 31; refine HV.out.mono ?_; rintro e w1 ⟨rfl, hb1⟩)
        | (go_at_call 32; refine (HW.out _).mono ?_; rintro e w2 ⟨rfl, rfl⟩)
      go_ret2
      exact ⟨hb1, .inl ⟨by decide, rfl⟩⟩
    · have he : encE M p every = 0 := by unfold encE; rw [hP, hE]; rfl
      have hE' : 1 ≤ every ∧ every ≤ 60 := by unfold inB at hE; simpa using hE
      obtain ⟨E, rfl⟩ : ∃ E : Nat, every = (E : Int) := ⟨every.toNat, by omega⟩
      have HC := hid (fun (X : World) (hX : Below w.heap.size w X) => encode_c X a a2 n cap n2 cap2 M p E hn hn2 hm (H.below hX) (H2.below hX) hP (by omega) (by omega))
      rw [hP] at HV
      rw [hE] at HW
      rw [he, Int.toNat_natCast]
      clear hn H hn2 H2 hP he hE hE'
      go_enter Tryz.func30, Tryz.ntmps30
      go_wp2_with first
        | (go_at_call 31; refine HV.out.mono ?_; rintro e w1 ⟨rfl, hb1⟩)
        | (go_at_call 32; refine (HW.out _).mono ?_; rintro e w2 ⟨rfl, rfl⟩)
        | (go_at_call 51; refine (HC.out _ hb1).mono ?_; rintro e w3 ⟨v3, rfl, ho3, hb3⟩)
      go_ret2
      exact ⟨chain hb1 hb3, .inr ⟨trivial, v3, w1.heap.size, rfl, hb1.size, ho3⟩⟩
end Go.Proofs.YtkmjeegnijohmaaGreat

namespace Go.Proofs.YtkmjeegnijohmaaGreat
open Go.RowKit
set_option linter.unusedVariables false

set_option maxRecDepth 100000 in
set_option maxHeartbeats 2000000 in
theorem r8valid_c (w : World) (a : Option Addr) (n cap : Nat) (M : Mask) (hn : M.length = n) (hm : n ≤ maxLen) (H : RowsAt w a M) (a2 : Option Addr) (n2 cap2 : Nat) (fs : List Frm) (hn2 : fs.length = n2) (hm2 : n2 ≤ maxLen) (H2 : FramesAt w a2 fs) :
    Calls Tryz.prog 47 #[.slice a n cap, .slice a2 n2 cap2] w fun e w' => e = .returned (.bool (validB M fs)) ∧ Below w.heap.size w w' := by
  have HV := hid (r2Valid_c w a n cap M hn hm H)
  have HW := hid (fun X => r8in_c n2 1 60 X)
  cases hM : okM M
  · have hp : validB M fs = false := by unfold validB; rw [hM]; rfl
    rw [hM] at HV
    rw [hp]
    clear hn hn2 H H2 hM hp
    go_enter Tryz.func47, Tryz.ntmps47
    go_wp2_with (go_at_call 57; refine HV.out.mono ?_; rintro e w1 ⟨rfl, rfl⟩)
    go_ret
    exact ⟨rfl, Below.refl _ _⟩
  · cases hL : inB n2 1 60
    · have hp : validB M fs = false := by unfold validB; rw [hM, hn2, hL]; rfl
      rw [hM] at HV
      rw [hL] at HW
      rw [hp]
      clear hn hn2 H H2 hM hp hL
      go_enter Tryz.func47, Tryz.ntmps47
      go_wp2_with first
        | (go_at_call 57; refine HV.out.mono ?_; rintro e w1 ⟨rfl, rfl⟩)
        | (go_at_call 35; refine (HW.out _).mono ?_; rintro e w2 ⟨rfl, rfl⟩)
      go_ret
      exact ⟨rfl, Below.refl _ _⟩
    · have hl1 : 1 ≤ n2 ∧ n2 ≤ 60 := by unfold inB at hL; simp at hL; omega
      obtain ⟨hl1, hn60⟩ := hl1
      obtain ⟨fb, fo, xa, xn, xc, rfl, hfb, hf0, hf1, hxn, hxm, hxi⟩ := H2 0 (by omega)
      rw [Nat.zero_mul, Nat.add_zero] at hf0 hf1
      obtain ⟨K, hK⟩ : ∃ K, K = (fs[0]'(by omega)).1 := ⟨_, rfl⟩
      rw [← hK] at hf0
      have hK2 : (fs[0]?.getD (false, [])).1 = K := by rw [hK, List.getElem?_eq_getElem (by omega)]; rfl
      have i0 : (0 : Int) < (n2 : Int) := by omega
      have hp : validB M fs = (K && fs.all (frB M)) := by unfold validB; rw [hM, hn2, hL, hK2]; rfl
      have h1 : 1 ≤ n := by rw [← hn]; exact (okM_ok hM).2.1
      have HP2 := hid H2
      have HFR := hid (fun (X : World) (hX : Below w.heap.size w X) (kf : Bool) (ra : Option Addr) (rn rc : Nat) (x : List Int) (hrn : x.length = rn) (hrm : rn ≤ maxLen) (hri : IntsAt X ra x) => r8frame_c X kf ra a rn rc n cap M x hn h1 (H.below hX) hrn hrm hri)
      have HN2 := hid hn2
      rw [hM] at HV
      rw [hL] at HW
      rw [hp]
      clear hn hn2 H H2 hM hp hL hK hK2 hf1 hxn hxm hxi
      cases K
      · go_enter Tryz.func47, Tryz.ntmps47
        go_wp2_with first
          | (go_at_call 57; refine HV.out.mono ?_; rintro e w1 ⟨rfl, rfl⟩)
          | (go_at_call 35; refine (HW.out _).mono ?_; rintro e w2 ⟨rfl, rfl⟩)
        go_ret
        exact ⟨rfl, Below.refl _ _⟩
      · go_enter Tryz.func47, Tryz.ntmps47
        go_wp2_with first
          | (go_at_call 57; refine HV.out.mono ?_; rintro e w1 ⟨rfl, rfl⟩)
          | (go_at_call 35; refine (HW.out _).mono ?_; rintro e w2 ⟨rfl, rfl⟩)
        clear hf0 hfb
        go_loopw [25] (fun i wr => ∃ k : Nat, k ≤ n2 ∧ i = .int .i64 k ∧ Below w.heap.size w wr ∧ ∀ j (hj : j < fs.length), j < k → frB M fs[j] = true) (fun i _ => n2 - (intOf i).toNat)
        case atStart => exact ⟨0, Nat.zero_le _, rfl, Below.refl _ _, fun i _ h => by omega⟩
        case round =>
          obtain ⟨k, hk, rfl, hb, hno⟩ := hrel
          have HNO := hid hno
          clear hno
          by_cases hlt : k < n2
          · have hkl : k < fs.length := by rw [HN2.out]; exact hlt
            obtain ⟨pb, po, ya, yn, yc, e1, hpb, hp0, hp1, hyn, hym, hyi⟩ := (HP2.out.below hb) k hkl
            cases e1
            obtain ⟨⟨kf, x⟩, hr⟩ : ∃ r, r = fs[k]'hkl := ⟨_, rfl⟩
            rw [← hr] at hp0 hyn hyi
            simp only [] at hp0 hyn hyi
            have hba : ∀ o : Obj, Below wr.heap.size wr (wr.alloc o) := fun o => (Below.refl _ _).alloc (Nat.le_refl _) _
            have HF2 := hid (fun (o : Obj) => HFR.out (wr.alloc o) (chain hb (hba o)) kf ya yn yc x hyn hym (hyi.below (hba o)))
            obtain ⟨B, hB⟩ : ∃ B, B = frB M (kf, x) := ⟨_, rfl⟩
            rw [← hB] at HF2
            rw [hr] at hB
            have HBB := hid hB
            have HKL := hid hkl
            have HBA := hid hba
            have HB := hid hb
            clear hB hyn hyi hr hba hb
            cases B
            · go_wp2_with (go_at_call 69; refine (HF2.out _).mono ?_; rintro e w1 ⟨rfl, hb1⟩)
              go_ret
              refine ⟨ret_bool ?_, chain (chain HB.out (HBA.out _)) hb1⟩
              rw [allP_stop HKL.out HBB.out.symm]; rfl
            · go_wp2_with (go_at_call 69; refine (HF2.out _).mono ?_; rintro e w1 ⟨rfl, hb1⟩)
              refine ⟨⟨k + 1, by omega, by go_num, chain (chain HB.out (HBA.out _)) hb1, fun j hj hjk => ?_⟩, by simp [intOf]; omega⟩
              by_cases e : j = k
              · subst e; exact HBB.out.symm
              · exact HNO.out j hj (by omega)
          · go_wp2
            go_ret
            refine ⟨ret_bool ?_, hb⟩
            rw [allP_done (fun j hj => HNO.out j hj (by have := HN2.out; omega))]; rfl
end Go.Proofs.YtkmjeegnijohmaaGreat

namespace Go.Proofs.YtkmjeegnijohmaaGreat
open Go.RowKit
set_option linter.unusedVariables false

def sentE (M : Mask) (p : List (List Int)) (every trust : Int) : Int := if picsB M p = true then (if inB every 1 60 = true ∧ inB trust 0 (colsM M) = true then 0 else 7) else 1
def sentB (M : Mask) (p : List (List Int)) (every trust : Int) : Bool := decide (sentE M p every trust = 0) && rightF M p every.toNat trust

set_option maxHeartbeats 800000 in
theorem sSent_c (w : World) (a a2 : Option Addr) (n cap n2 cap2 : Nat) (M : Mask) (p : List (List Int)) (every trust : Int) (hn : M.length = n) (hm : n ≤ maxLen) (H : RowsAt w a M) (hn2 : p.length = n2) (hm2 : n2 ≤ maxLen) (H2 : RowsAt w a2 p) :
    Calls Tryz.prog 9 #[.slice a n cap, .slice a2 n2 cap2, .int .i64 every, .int .i64 trust] w fun e w' => e = .returned (.tuple #[.bool (sentB M p every trust), .int .i64 (sentE M p every trust)]) ∧ Below w.heap.size w w' := by
  have HV := hid (validPics_c w a n cap M hn hm H a2 n2 cap2 p hn2 hm2 H2)
  cases hP : picsB M p
  · have he : sentE M p every trust = 1 := by unfold sentE; rw [hP]; rfl
    have hb : sentB M p every trust = false := by unfold sentB; rw [he]; rfl
    rw [hP] at HV
    rw [he, hb]
    clear hn H hn2 H2 hP he hb
    go_enter Tryz.func9, Tryz.ntmps9
    go_wp2_with (go_at_call 31; refine HV.out.mono ?_; rintro e w1 ⟨rfl, hb1⟩)
    go_ret2
    exact ⟨rfl, hb1⟩
  · obtain ⟨hM, hp1, hp60, hpp⟩ := picsB_ok hP
    obtain ⟨_, h1, h6, hc1, hc10⟩ := okM_ok hM
    obtain ⟨b, off, ra, rc, rfl, hb, hc⟩ := rows_head H (by omega)
    have i0 : (0 : Int) < (n : Int) := by omega
    have HC0 := hid (show ∀ X : World, Below w.heap.size w X → X.cell? ⟨b, off, none⟩ = some (.slice ra (colsM M) rc) from fun X hX => (hX.cell (p := ⟨b, off, none⟩) hb).trans hc)
    have HW := hid (fun X => swithin_c every 1 60 X)
    have HT := hid (fun X => swithin_c trust 0 (colsM M) X)
    have HE := hid (show sentE M p every trust = if inB every 1 60 = true ∧ inB trust 0 (colsM M) = true then 0 else 7 by unfold sentE; rw [hP]; rfl)
    rw [hP] at HV
    cases hE : inB every 1 60
    · have he : sentE M p every trust = 7 := by rw [HE.out, hE]; rfl
      have hb : sentB M p every trust = false := by unfold sentB; rw [he]; rfl
      rw [hE] at HW
      rw [he, hb]
      clear hn H hn2 H2 hP he hb hE hc hpp hM
      go_enter Tryz.func9, Tryz.ntmps9
      go_wp2_with first
        | (go_at_call 31; refine HV.out.mono ?_; rintro e w1 ⟨rfl, hb1⟩)
        | (go_at_call 32; refine (HW.out _).mono ?_; rintro e w2 ⟨rfl, rfl⟩)
      go_ret2
      exact ⟨rfl, hb1⟩
    · rw [hE] at HW
      cases hT : inB trust 0 (colsM M)
      · have he : sentE M p every trust = 7 := by rw [HE.out, hE, hT]; rfl
        have hb : sentB M p every trust = false := by unfold sentB; rw [he]; rfl
        rw [he, hb]
        obtain ⟨W, hW⟩ : ∃ W, W = colsM M := ⟨_, rfl⟩
        rw [← hW] at hT HC0
        clear hn H hn2 H2 hP he hb hc hpp hM hW HT HW
        go_enter Tryz.func9, Tryz.ntmps9
        go_wp2_with first
          | (go_at_call 31; refine HV.out.mono ?_; rintro e w1 ⟨rfl, hb1⟩; have hc1' := HC0.out w1 hb1)
          | (go_at_call 32; refine (swithin_c _ _ _ _).mono ?_; rintro e w2 ⟨rfl, rfl⟩)
        go_ret2
        exact ⟨rfl, hb1⟩
      · have he : sentE M p every trust = 0 := by rw [HE.out, hE, hT]; rfl
        have hb : sentB M p every trust = rightF M p every.toNat trust := by unfold sentB; rw [he]; rfl
        have hE' : 1 ≤ every ∧ every ≤ 60 := by unfold inB at hE; simpa using hE
        obtain ⟨E, rfl⟩ : ∃ E : Nat, every = (E : Int) := ⟨every.toNat, by omega⟩
        have HR := hid (fun (X : World) (hX : Below w.heap.size w X) => right_c X (some ⟨b, off, none⟩) a2 n cap n2 cap2 M p E trust hn hn2 hm hm2 (H.below hX) (H2.below hX) hP (by omega) (by omega))
        rw [he, hb, Int.toNat_natCast]
        obtain ⟨W, hW⟩ : ∃ W, W = colsM M := ⟨_, rfl⟩
        rw [← hW] at hT HC0
        clear hn H hn2 H2 hP he hb hc hpp hM hW hE' HT HW
        go_enter Tryz.func9, Tryz.ntmps9
        go_wp2_with first
          | (go_at_call 31; refine HV.out.mono ?_; rintro e w1 ⟨rfl, hb1⟩; have hc1' := HC0.out w1 hb1)
          | (go_at_call 32; refine (swithin_c _ _ _ _).mono ?_; rintro e w2 ⟨rfl, rfl⟩)
          | (go_at_call 33; refine (HR.out _ hb1).mono ?_; rintro e w3 ⟨rfl, hb3⟩)
        go_ret2
        exact ⟨rfl, chain hb1 hb3⟩

def awM : Mask := [[1, 1, 0], [0, 1, 1]]
def awP : List (List Int) := [[0, 0, 0], [0, 5, 0], [0, 5, 2]]
theorem aw_enc : encE awM awP 3 = 0 ∧ encF awM awP (Int.toNat 3) = [(true, [0, 0, 0]), (false, [5, 5]), (false, [0, 2])] := ⟨by kernel_rfl, by kernel_rfl⟩
theorem aw_sent : sentE awM awP 3 1 = 0 ∧ sentB awM awP 3 1 = true := ⟨by kernel_rfl, by kernel_rfl⟩
theorem ints_lit3 (w : World) (x y z : Int) (T : TypeId) : IntsAt (w.alloc (.cells #[.int .i64 x, .int .i64 y, .int .i64 z] T)) (some ⟨w.heap.size, 0, none⟩) [x, y, z] := fun j hj => ⟨w.heap.size, 0, rfl, by simp, by
  rw [World.cell?_alloc_at _ _ _ _ rfl]
  match j, hj with
  | 0, _ => rfl
  | 1, _ => rfl
  | 2, _ => rfl⟩
theorem ints_lit2 (w : World) (x y : Int) (T : TypeId) : IntsAt (w.alloc (.cells #[.int .i64 x, .int .i64 y] T)) (some ⟨w.heap.size, 0, none⟩) [x, y] := fun j hj => ⟨w.heap.size, 0, rfl, by simp, by
  rw [World.cell?_alloc_at _ _ _ _ rfl]
  match j, hj with
  | 0, _ => rfl
  | 1, _ => rfl⟩
theorem rows_three {w : World} {a1 a2 a3 : Option Addr} {n1 c1 n2 c2 n3 c3 : Nat} {x y z : List Int} (T : TypeId) (h1 : x.length = n1) (h2 : y.length = n2) (h3 : z.length = n3) (m1 : n1 ≤ maxLen) (m2 : n2 ≤ maxLen) (m3 : n3 ≤ maxLen) (H1 : IntsAt w a1 x) (H2 : IntsAt w a2 y) (H3 : IntsAt w a3 z) :
    RowsAt (w.alloc (.cells #[.slice a1 n1 c1, .slice a2 n2 c2, .slice a3 n3 c3] T)) (some ⟨w.heap.size, 0, none⟩) [x, y, z] := by
  have hb : Below w.heap.size w (w.alloc (.cells #[.slice a1 n1 c1, .slice a2 n2 c2, .slice a3 n3 c3] T)) := (Below.refl _ _).alloc (Nat.le_refl _) _
  intro j hj
  match j, hj with
  | 0, _ => exact ⟨w.heap.size, 0, a1, n1, c1, rfl, by simp, by rw [World.cell?_alloc_at _ _ _ _ rfl]; rfl, h1, m1, H1.below hb⟩
  | 1, _ => exact ⟨w.heap.size, 0, a2, n2, c2, rfl, by simp, by rw [World.cell?_alloc_at _ _ _ _ rfl]; rfl, h2, m2, H2.below hb⟩
  | 2, _ => exact ⟨w.heap.size, 0, a3, n3, c3, rfl, by simp, by rw [World.cell?_alloc_at _ _ _ _ rfl]; rfl, h3, m3, H3.below hb⟩

theorem awM_rows (w : World) : let W := ((w.alloc (.cells #[.int .i64 1, .int .i64 1, .int .i64 0] 3)).alloc (.cells #[.int .i64 0, .int .i64 1, .int .i64 1] 3)).alloc (.cells #[.slice (some ⟨w.heap.size, 0, none⟩) 3 3, .slice (some ⟨w.heap.size + 1, 0, none⟩) 3 3] 33)
    RowsAt W (some ⟨w.heap.size + 2, 0, none⟩) awM ∧ Below w.heap.size w W ∧ W.heap.size = w.heap.size + 3 := by
  have i1 := ints_lit3 w 1 1 0 3
  have i2 := ints_lit3 (w.alloc (.cells #[.int .i64 1, .int .i64 1, .int .i64 0] 3)) 0 1 1 3
  have b2 : ∀ o, Below (w.alloc (.cells #[.int .i64 1, .int .i64 1, .int .i64 0] 3)).heap.size (w.alloc (.cells #[.int .i64 1, .int .i64 1, .int .i64 0] 3)) ((w.alloc (.cells #[.int .i64 1, .int .i64 1, .int .i64 0] 3)).alloc o) := fun o => (Below.refl _ _).alloc (Nat.le_refl _) _
  have h := rows_two (c1 := 3) (c2 := 3) 33 rfl rfl (by decide) (by decide) (i1.below (b2 _)) i2
  simp only [World.size_alloc] at h
  exact ⟨h, ((((Below.refl _ _).alloc (Nat.le_refl _) _).alloc (by simp) _).alloc (by simp; omega) _), by simp⟩
theorem awP_rows (w : World) : let W := (((w.alloc (.cells #[.int .i64 0, .int .i64 0, .int .i64 0] 3)).alloc (.cells #[.int .i64 0, .int .i64 5, .int .i64 0] 3)).alloc (.cells #[.int .i64 0, .int .i64 5, .int .i64 2] 3)).alloc (.cells #[.slice (some ⟨w.heap.size, 0, none⟩) 3 3, .slice (some ⟨w.heap.size + 1, 0, none⟩) 3 3, .slice (some ⟨w.heap.size + 2, 0, none⟩) 3 3] 33)
    RowsAt W (some ⟨w.heap.size + 3, 0, none⟩) awP ∧ Below w.heap.size w W ∧ W.heap.size = w.heap.size + 4 := by
  obtain ⟨w1, hw1⟩ : ∃ w1, w1 = w.alloc (.cells #[.int .i64 0, .int .i64 0, .int .i64 0] 3) := ⟨_, rfl⟩
  have i1 := ints_lit3 w 0 0 0 3
  rw [← hw1] at i1 ⊢
  have i2 := ints_lit3 w1 0 5 0 3
  have s1 : w1.heap.size = w.heap.size + 1 := by rw [hw1]; simp
  obtain ⟨w2, hw2⟩ : ∃ w2, w2 = w1.alloc (.cells #[.int .i64 0, .int .i64 5, .int .i64 0] 3) := ⟨_, rfl⟩
  rw [← hw2] at i2 ⊢
  have b1 : Below w.heap.size w w1 := by rw [hw1]; exact (Below.refl _ _).alloc (Nat.le_refl _) _
  have b2 : Below w1.heap.size w1 w2 := by rw [hw2]; exact (Below.refl _ _).alloc (Nat.le_refl _) _
  have s2 : w2.heap.size = w.heap.size + 2 := by rw [hw2]; simp [s1]
  have i3 := ints_lit3 w2 0 5 2 3
  obtain ⟨w3, hw3⟩ : ∃ w3, w3 = w2.alloc (.cells #[.int .i64 0, .int .i64 5, .int .i64 2] 3) := ⟨_, rfl⟩
  rw [← hw3] at i3 ⊢
  have b3 : Below w2.heap.size w2 w3 := by rw [hw3]; exact (Below.refl _ _).alloc (Nat.le_refl _) _
  have s3 : w3.heap.size = w.heap.size + 3 := by rw [hw3]; simp [s2]
  rw [s1] at i2
  rw [s2] at i3
  have h := rows_three (c1 := 3) (c2 := 3) (c3 := 3) 33 rfl rfl rfl (by decide) (by decide) (by decide) ((i1.below b2).below b3) (i2.below b3) i3
  rw [s3] at h
  exact ⟨h, (chain (chain b1 b2) b3).alloc (by omega) _, by simp [s3]⟩

theorem awake8_c (w : World) : Calls Tryz.prog 8 #[] w fun e w' => e = .returned (.bool true) ∧ Below w.heap.size w w' := by
  obtain ⟨hM, hbA, hsA⟩ := awM_rows w
  obtain ⟨wA, hA⟩ : ∃ wA, wA = ((w.alloc (.cells #[.int .i64 1, .int .i64 1, .int .i64 0] 3)).alloc (.cells #[.int .i64 0, .int .i64 1, .int .i64 1] 3)).alloc (.cells #[.slice (some ⟨w.heap.size, 0, none⟩) 3 3, .slice (some ⟨w.heap.size + 1, 0, none⟩) 3 3] 33) := ⟨_, rfl⟩
  rw [← hA] at hM hbA hsA
  obtain ⟨hP, hbB, hsB⟩ := awP_rows wA
  obtain ⟨wB, hB⟩ : ∃ wB, wB = (((wA.alloc (.cells #[.int .i64 0, .int .i64 0, .int .i64 0] 3)).alloc (.cells #[.int .i64 0, .int .i64 5, .int .i64 0] 3)).alloc (.cells #[.int .i64 0, .int .i64 5, .int .i64 2] 3)).alloc (.cells #[.slice (some ⟨wA.heap.size, 0, none⟩) 3 3, .slice (some ⟨wA.heap.size + 1, 0, none⟩) 3 3, .slice (some ⟨wA.heap.size + 2, 0, none⟩) 3 3] 33) := ⟨_, rfl⟩
  rw [← hB] at hP hbB hsB
  have hMB := hM.below hbB
  have hbW := chain hbA hbB
  have hEN := sEncode_c wB (some ⟨w.heap.size + 2, 0, none⟩) (some ⟨wA.heap.size + 3, 0, none⟩) 2 2 3 3 awM awP 3 rfl (by decide) hMB rfl (by decide) hP
  rw [hsA] at hEN
  have HSE := hid (fun (X : World) (hX : Below wB.heap.size wB X) => sSent_c X (some ⟨w.heap.size + 2, 0, none⟩) (some ⟨wA.heap.size + 3, 0, none⟩) 2 2 3 3 awM awP 3 1 rfl (by decide) (hMB.below hX) rfl (by decide) (hP.below hX))
  rw [aw_sent.1, aw_sent.2, hsA] at HSE
  rw [aw_enc.1, aw_enc.2] at hEN
  have HEN := hid hEN
  have HBW := hid hbW
  have HSB := hid hsB
  have HSA := hid hsA
  have hBB := hB
  rw [hA] at hBB
  simp only [World.size_alloc] at hBB
  have HB := hid hBB
  clear hM hbA hsA hP hbB hsB hMB hbW hEN hA hB hBB
  go_enter Tryz.func8, Tryz.ntmps8
  go_wp2_with fail
  rw [← HB.out]
  refine (show Calls Tryz.prog _ _ wB _ from HEN.out.mono ?_)
  rintro e w1 ⟨hb1, ⟨h, _⟩ | ⟨_, v, base, rfl, hbs, hO⟩⟩
  · exact absurd rfl h
  obtain ⟨fa, fc, rfl, hfm, hfr⟩ := hO.reads
  have HFR := hid hfr
  have HB1 := hid hb1
  clear hO hfr hfm hb1 HEN HB
  go_wp2_with (go_at_call 9; refine (HSE.out w1 HB1.out).mono ?_; rintro e w2 ⟨rfl, hb2⟩; refine Stop.of ?_)
  refine Stop.go ?_
  obtain ⟨fb, fo, ra, rn, rc, rfl, hfb, hf0, hf1, hrn, hrm, hri⟩ := (HFR.out.below hb2) 2 (by decide)
  have hrn2 : rn = 2 := hrn.symm
  subst hrn2
  have hB2 := chain HB1.out hb2
  have hb5 : Below w2.heap.size w2 (w2.alloc (.cells #[.int .i64 0, .int .i64 2] 3)) := (Below.refl _ _).alloc (Nat.le_refl _) _
  have HSI := hid (s8Ints_c (w2.alloc (.cells #[.int .i64 0, .int .i64 2] 3)) ra (some ⟨w2.heap.size, 0, none⟩) 2 rc 2 2 [0, 2] [0, 2] rfl rfl (by decide) (by decide) (hri.below hb5) (ints_lit2 w2 0 2 3))
  have hd : decide (([0, 2] : List Int) = [0, 2]) = true := by decide
  rw [hd] at HSI
  have HB5 := hid (chain HBW.out (chain hB2 hb5))
  clear hB2 hb5 hd hri hrn hb2
  go_wp2_with (go_at_call 22; refine HSI.out.mono ?_; rintro e w7 ⟨rfl, k7, rfl⟩)
  go_ret
  exact ⟨rfl, below_drewN HB5.out k7⟩
end Go.Proofs.YtkmjeegnijohmaaGreat

namespace Go.Proofs.YtkmjeegnijohmaaGreat
open Go.RowKit
set_option linter.unusedVariables false

theorem s8Ints_t (W : World) (a a2 : Option Addr) (n cap cap2 : Nat) (l : List Int) (hn : l.length = n) (hm : n ≤ maxLen) (H : IntsAt W a l) (H2 : IntsAt W a2 l) :
    Calls Tryz.prog 22 #[.slice a n cap, .slice a2 n cap2] W fun e w' => e = .returned (.bool true) ∧ Below W.heap.size W w' :=
  (s8Ints_c W a a2 n cap n cap2 l l hn hn hm hm H H2).mono fun e w' ⟨h1, k, h2⟩ => ⟨by rw [h1]; simp, by rw [h2]; exact below_drewN (Below.refl _ _) _⟩
end Go.Proofs.YtkmjeegnijohmaaGreat

namespace Go.Proofs.YtkmjeegnijohmaaGreat
open Go.RowKit
set_option linter.unusedVariables false

theorem validB_ok {M : Mask} {F : List Frm} (h : validB M F = true) : okM M = true ∧ 1 ≤ F.length ∧ F.length ≤ 60 ∧ ∀ f ∈ F, f.2.length ≤ 1000 := by
  unfold validB inB at h
  simp only [Bool.and_eq_true, decide_eq_true_eq, List.all_eq_true] at h
  obtain ⟨⟨⟨hM, h1⟩, _⟩, h2⟩ := h
  obtain ⟨_, _, h6, _, h10⟩ := okM_ok hM
  refine ⟨hM, by omega, by omega, fun f hf => ?_⟩
  have := h2 f hf
  unfold frB at this
  simp only [Bool.or_eq_true, Bool.and_eq_true, decide_eq_true_eq] at this
  rcases this with (h | ⟨_, h⟩) | ⟨_, h, _⟩
  · omega
  · have := (pic_bnd h).1; omega
  · omega

end Go.Proofs.YtkmjeegnijohmaaGreat

namespace Go.Proofs.YtkmjeegnijohmaaGreat
open Go.RowKit
set_option linter.unusedVariables false
attribute [local go_sem] Oper.semAt_some

def missTo (M : Mask) (k : Int) (F : List Frm) : Nat → List Int
  | 0 => []
  | t + 1 => missTo M k F t ++ (if decAt M k F (t + 1) = none then [(t : Int)] else [])
def missF (M : Mask) (k : Int) (F : List Frm) : List Int := missTo M k F F.length
theorem missTo_le (M : Mask) (k : Int) (F : List Frm) : ∀ t, (missTo M k F t).length ≤ t
  | 0 => by simp [missTo]
  | t + 1 => by
    have := missTo_le M k F t
    simp only [missTo, List.length_append]
    split <;> simp <;> omega
def askE (M : Mask) (F : List Frm) (k : Int) : Int := if validB M F = true then (if inB k 0 (colsM M) = true then 0 else 7) else 1

structure MissI (w w3 : World) (ob : Nat) (fp : Nat → Prop) (S : Nat → Prop) (L : List Int) (Z : World) : Prop where
  b : Below w.heap.size w Z
  f : Keep fp w3 Z
  o : ∃ v, Boxed Z ob 33 v ∧ Z.ownsRow (w3.heap.size + 2) 3 1 v L.length (L.map (Value.int .i64)) ∧ ∀ k, v.ownBlock = some k → ¬ S k ∧ k ≠ ob ∧ k ≠ w3.heap.size ∧ k ≠ w3.heap.size + 1
  z : w3.heap.size + 2 ≤ Z.heap.size

theorem own_keep2 {W W' : World} {base : Nat} {T : TypeId} {k n : Nat} {v : Value} {xs : List Value} (h : W.ownsRow base T k v n xs) {K : Nat → Prop} (hk : Keep K W W') (hK : ∀ g, v.ownBlock = some g → K g) : W'.ownsRow base T k v n xs := by
  refine ⟨h.1, ?_⟩
  rcases h.2 with hn | ⟨g, cap, cur, rfl, hbg, hgg, rest⟩
  · exact .inl hn
  · exact .inr ⟨g, cap, cur, rfl, hbg, (hk.block g (Array.getElem?_eq_some_iff.1 hgg).1 (hK g rfl)).trans hgg, rest⟩

theorem MissI.keep {w w3 : World} {ob : Nat} {fp S S' : Nat → Prop} {L : List Int} {A B : World} (h : MissI w w3 ob fp S L A) (h1 : ∀ k, S k → S' k) (h2 : ∀ k, S' k → S k ∨ A.heap.size ≤ k) (h3 : ∀ k, S' k → w3.heap.size + 2 ≤ k)
    (hob : ob < w3.heap.size) (hfp : ∀ k, fp k → k < w3.heap.size) (hw : w.heap.size ≤ w3.heap.size) (hk : Keep (fun k => k ≠ w3.heap.size ∧ k ≠ w3.heap.size + 1 ∧ ¬ S' k) A B) : MissI w w3 ob fp S' L B where
  b := by
    have hz := h.z
    exact hk.below h.b (Nat.le_trans hw (by omega)) (fun k hlt => ⟨by omega, by omega, fun hs => by have := h3 k hs; omega⟩)
  f := h.f.trans (hk.mono fun k hlt => by have := hfp k hlt; exact ⟨by omega, by omega, fun hs => by have := h3 k hs; omega⟩)
  o := by
    obtain ⟨v, hv, ho, hg⟩ := h.o
    have hg' : ∀ k, v.ownBlock = some k → ¬ S' k ∧ k ≠ ob ∧ k ≠ w3.heap.size ∧ k ≠ w3.heap.size + 1 := fun k hk' => by
      obtain ⟨g1, g2⟩ := hg k hk'
      refine ⟨fun hs => ?_, g2⟩
      rcases h2 k hs with g | g
      · exact g1 g
      · have := (ho.lt k hk').2; omega
    exact ⟨v, (hk.block ob hv.lt ⟨by omega, by omega, fun hs => by have := h3 _ hs; omega⟩).trans hv, own_keep2 ho hk (fun g hgk => ⟨(hg' g hgk).2.2.1, (hg' g hgk).2.2.2, (hg' g hgk).1⟩), hg'⟩
  z := Nat.le_trans h.z hk.size

theorem MissI.push {w w3 Z w9 : World} {ob : Nat} {fp Sr : Nat → Prop} {L : List Int} {v v' : Value} {x : Int} {o8 : Obj}
    (hI : MissI w w3 ob fp Sr L Z) (hBo : Boxed Z ob 33 v) (ho : Z.ownsRow (w3.heap.size + 2) 3 1 v L.length (L.map (Value.int .i64)))
    (hg : ∀ k, v.ownBlock = some k → ¬ Sr k ∧ k ≠ ob ∧ k ≠ w3.heap.size ∧ k ≠ w3.heap.size + 1)
    (g5 : (Z.alloc o8).grownBy w9 v.ownBlock) (own5 : w9.ownsRow (w3.heap.size + 2) 3 1 v' (L.length + 1) (L.map (Value.int .i64) ++ [.int .i64 x]))
    (hat : v'.ownBlock = v.ownBlock ∨ v'.ownBlock = some (Z.alloc o8).heap.size) (hSr : ∀ k, Sr k → w3.heap.size + 2 ≤ k ∧ k < Z.heap.size) (hob : ob < w3.heap.size) (hfp : ∀ k, fp k → k < w3.heap.size ∧ k ≠ ob) (hw : w.heap.size ≤ ob) :
    Z.heap.size ≤ (w9.setCell ⟨ob, 0, none⟩ v').heap.size ∧ (∀ k, (fp k ∨ k = w3.heap.size ∨ k = w3.heap.size + 1 ∨ Sr k) → (w9.setCell ⟨ob, 0, none⟩ v').heap[k]? = Z.heap[k]?) ∧ MissI w w3 ob fp Sr (L ++ [x]) (w9.setCell ⟨ob, 0, none⟩ v') := by
  have hz := hI.z
  have hlo : ∀ k, v.ownBlock = some k → w3.heap.size + 2 ≤ k := fun k hk => (ho.lt k hk).1
  have ha : Below Z.heap.size Z (Z.alloc o8) := (Below.refl _ _).alloc (Nat.le_refl _) _
  have hset : Keep (fun k => k ≠ ob) w9 (w9.setCell ⟨ob, 0, none⟩ v') := Keep.set w9 ob 0 v'
  have hT : Keep (fun k => k ≠ ob ∧ some k ≠ v.ownBlock) Z (w9.setCell ⟨ob, 0, none⟩ v') :=
    (Keep.of_below ha).trans (((Keep.grown g5).mono fun k hk => hk.2).trans (hset.mono fun k hk => hk.1))
  have hPk : ∀ k, (fp k ∨ k = w3.heap.size ∨ k = w3.heap.size + 1 ∨ Sr k) → k < Z.heap.size ∧ k ≠ ob ∧ some k ≠ v.ownBlock := fun k hk => by
    rcases hk with h | h | h | h
    · exact ⟨by have := (hfp k h).1; omega, (hfp k h).2, fun e => by have := hlo k e.symm; have := (hfp k h).1; omega⟩
    · exact ⟨by omega, by omega, fun e => (hg k e.symm).2.2.1 h⟩
    · exact ⟨by omega, by omega, fun e => (hg k e.symm).2.2.2 h⟩
    · exact ⟨(hSr k h).2, by have := (hSr k h).1; omega, fun e => (hg k e.symm).1 h⟩
  have hat' : ∀ k, v'.ownBlock = some k → ¬ Sr k ∧ k ≠ ob ∧ k ≠ w3.heap.size ∧ k ≠ w3.heap.size + 1 := fun k hk => by
    rcases hat with e | e
    · exact hg k (by rw [← e]; exact hk)
    · rw [e] at hk
      have : (Z.alloc o8).heap.size = Z.heap.size + 1 := by simp
      cases hk
      exact ⟨fun h => by have := (hSr _ h).2; omega, by omega, by omega, by omega⟩
  refine ⟨hT.size, fun k hk => hT.block k (hPk k hk).1 (hPk k hk).2, ⟨hT.below hI.b (by have := hI.b.size; omega) (fun k hlt => ⟨by omega, fun e => by have := hlo k e.symm; omega⟩), hI.f.trans (hT.mono fun k hk => (hPk k (.inl hk)).2), ⟨v', ?_, ?_, hat'⟩, Nat.le_trans hz hT.size⟩⟩
  · refine Boxed.set v' (v := v) ?_
    have h1 : Boxed (Z.alloc o8) ob 33 v := hBo.alloc _
    exact h1.kept g5 (fun e => (hg ob e.symm).2.1 rfl)
  · rw [List.length_append, List.map_append]
    exact own_set own5 v' (fun g hgk => (hat' g hgk).2.1)

theorem asked_c (w : World) (a a2 : Option Addr) (n cap n2 cap2 : Nat) (M : Mask) (F : List Frm) (k : Int) (hn : M.length = n) (hm : n ≤ maxLen) (H : RowsAt w a M) (hn2 : F.length = n2) (hm2 : n2 ≤ maxLen) (H2 : FramesAt w a2 F) :
    Calls Tryz.prog 39 #[.slice a n cap, .slice a2 n2 cap2, .int .i64 k] w fun e w' => e = .returned (.int .i64 (askE M F k)) ∧ Below w.heap.size w w' := by
  have HV := hid (svalid_c w a n cap M hn hm H a2 n2 cap2 F hn2 hm2 H2)
  cases hV : validB M F
  · have he : askE M F k = 1 := by unfold askE; rw [hV]; rfl
    rw [hV] at HV
    rw [he]
    clear hn H hn2 H2 hV he
    go_enter Tryz.func39, Tryz.ntmps39
    go_wp2_with (go_at_call 45; refine HV.out.mono ?_; rintro e w1 ⟨rfl, hb1⟩)
    go_ret
    exact ⟨rfl, hb1⟩
  · obtain ⟨_, h1, _, _, _⟩ := okM_ok (validB_ok hV).1
    obtain ⟨b, off, ra, rc, rfl, hb, hc⟩ := rows_head H (by omega)
    have i0 : (0 : Int) < (n : Int) := by omega
    have HC0 := hid (show ∀ X : World, Below w.heap.size w X → X.cell? ⟨b, off, none⟩ = some (.slice ra (colsM M) rc) from fun X hX => (hX.cell (p := ⟨b, off, none⟩) hb).trans hc)
    have HT := hid (fun X => swithin_c k 0 (colsM M) X)
    have he : askE M F k = if inB k 0 (colsM M) = true then 0 else 7 := by unfold askE; rw [hV]; rfl
    rw [hV] at HV
    rw [he]
    obtain ⟨W, hW⟩ : ∃ W, W = colsM M := ⟨_, rfl⟩
    rw [← hW] at HT HC0 ⊢
    obtain ⟨B, hB⟩ : ∃ B, B = inB k 0 (W : Int) := ⟨_, rfl⟩
    rw [← hB] at HT ⊢
    clear hn H hn2 H2 hV he hc hW hB
    cases B
    all_goals
      go_enter Tryz.func39, Tryz.ntmps39
      go_wp2_with first
        | (go_at_call 45; refine HV.out.mono ?_; rintro e w1 ⟨rfl, hb1⟩; have hc1' := HC0.out w1 hb1)
        | (go_at_call 32; refine (HT.out _).mono ?_; rintro e w2 ⟨rfl, rfl⟩)
      go_ret
      exact ⟨rfl, hb1⟩
end Go.Proofs.YtkmjeegnijohmaaGreat

namespace Go.Proofs.YtkmjeegnijohmaaGreat
open Go.RowKit
set_option linter.unusedVariables false
attribute [local go_sem] Oper.semAt_some

theorem missTo_snoc (M : Mask) (k : Int) (F : List Frm) (pre : List Nat) {t : Nat} (h : pre ++ [t] <+: List.range F.length) : pre = List.range t ∧ t < F.length := by
  have ht : t < F.length := List.mem_range.1 (h.subset (List.mem_append_right _ (List.mem_singleton.2 rfl)))
  obtain ⟨r, hr⟩ := h
  have hl : pre.length = t := by
    have h1 : (List.range F.length)[pre.length]? = some t := by rw [← hr]; simp
    have h2 := (List.getElem?_eq_some_iff.1 h1).2
    rw [List.getElem_range] at h2; exact h2
  refine ⟨?_, ht⟩
  have h3 : pre = (List.range F.length).take pre.length := by rw [← hr]; simp
  rw [h3, hl, List.take_range]
  congr 1; omega

set_option maxRecDepth 100000 in
set_option maxHeartbeats 1000000 in
theorem missing_c (w : World) (a a2 : Option Addr) (n cap n2 cap2 : Nat) (M : Mask) (F : List Frm) (k : Int) (hn : M.length = n) (hn2 : F.length = n2) (hm : n ≤ maxLen) (H : RowsAt w a M) (H2 : FramesAt w a2 F) (hV : validB M F = true) :
    Calls Tryz.prog 43 #[.slice a n cap, .slice a2 n2 cap2, .int .i64 k] w fun e w' => ∃ v base, e = .returned v ∧ w.heap.size ≤ base ∧ w'.ownsRow base 3 1 v (missF M k F).length ((missF M k F).map (Value.int .i64)) ∧ Below w.heap.size w w' := by
  have heq := fun (w : World) (a : Option Addr) (n c : Nat) => Lib.run_eql_slice_nil (P := Tryz.prog) w 33 3 a n c 0 0 Tryz.underlying33
  obtain ⟨hM, h1, h60, _⟩ := validB_ok hV
  have hfv : ∀ f ∈ F, frB M f = true := by
    unfold validB at hV
    simp only [Bool.and_eq_true, List.all_eq_true] at hV
    exact hV.2
  have HMF := hid (show missF M k F = missTo M k F n2 by unfold missF; rw [hn2])
  have HML := hid (fun t => missTo_le M k F t)
  have HMT := hid (show ∀ t, missTo M k F (t + 1) = missTo M k F t ++ (if decAt M k F (t + 1) = none then [(t : Int)] else []) from fun t => rfl)
  have HPR := hid (fun (pre : List Nat) (t : Nat) (h : pre ++ [t] <+: List.range n2) => missTo_snoc M k F pre (by rw [hn2]; exact h))
  have hn60 : n2 ≤ 60 := by omega
  obtain ⟨w1, hw1⟩ : ∃ w1, w1 = w.alloc (.cells #[.slice none 0 0] 33) := ⟨_, rfl⟩
  have hb1 : Below w.heap.size w w1 := by rw [hw1]; exact (Below.refl _ _).alloc (Nat.le_refl _) _
  have bx : Boxed w1 w.heap.size 33 (.slice none 0 0) := by rw [hw1]; exact Boxed.new w _ _
  have hs1 : w1.heap.size = w.heap.size + 1 := by rw [hw1]; simp
  obtain ⟨w3, hw3⟩ : ∃ w3, w3 = ((w1.alloc (.cells #[.slice a n cap] 23)).alloc (.cells #[.slice a2 n2 cap2] 37)).alloc (.cells #[.int .i64 k] 3) := ⟨_, rfl⟩
  have c1 : Boxed w3 w1.heap.size 23 (.slice a n cap) := by rw [hw3]; exact ((Boxed.new w1 _ _).alloc _).alloc _
  have c2 : Boxed w3 (w1.heap.size + 1) 37 (.slice a2 n2 cap2) := by rw [hw3]; have := (Boxed.new (w1.alloc (.cells #[.slice a n cap] 23)) 37 (.slice a2 n2 cap2)).alloc (.cells #[.int .i64 k] 3); simpa using this
  have c3 : Boxed w3 (w1.heap.size + 2) 3 (.int .i64 k) := by rw [hw3]; have := Boxed.new ((w1.alloc (.cells #[.slice a n cap] 23)).alloc (.cells #[.slice a2 n2 cap2] 37)) 3 (.int .i64 k); simpa using this
  have hs3 : w3.heap.size = w1.heap.size + 3 := by rw [hw3]; simp
  have hb3 : Below w1.heap.size w1 w3 := by rw [hw3]; exact (((Below.refl _ _).alloc (Nat.le_refl _) _).alloc (by simp) _).alloc (by simp; omega) _
  have hB3 : Below w.heap.size w w3 := chain hb1 hb3
  have bx3 : Boxed w3 w.heap.size 33 (.slice none 0 0) := (hb3.block _ (by omega)).trans bx
  obtain ⟨fp, hfp⟩ : ∃ fp : Nat → Prop, fp = fun q => q < w3.heap.size ∧ q ≠ w.heap.size := ⟨_, rfl⟩
  have hIT := dec_iter w3 fp (w1.heap.size + 1) w1.heap.size (w1.heap.size + 2) a a2 n cap n2 cap2 M F k hn hM hn2 (by omega) hfv (by rw [hfp]; exact fun q h => h.1)
    (fun X hX hq => by
      rw [hfp] at hq
      have hqq : ∀ q, q < w.heap.size → X.heap[q]? = w.heap[q]? := fun q hlt => (hq q ⟨by omega, by omega⟩).trans (hB3.block q hlt)
      refine ⟨⟨RowsAt.blk H hqq, ?_⟩, cell_blk c2.cell (hq _ ⟨by omega, by omega⟩), cell_blk c1.cell (hq _ ⟨by omega, by omega⟩), cell_blk c3.cell (hq _ ⟨by omega, by omega⟩)⟩
      intro j hj
      obtain ⟨b, off, ra, rn, rc, e, hlt, k0, k1, hn', hm', hi⟩ := H2 j hj
      refine ⟨b, off, ra, rn, rc, e, lt_blk hlt (hqq b hlt), cell_blk k0 (hqq b hlt), cell_blk k1 (hqq b hlt), hn', hm', hi.blk hqq⟩)
  rw [hs1] at hIT hs3
  have HIT := hid hIT
  have HFP := hid hfp
  have HB3 := hid hB3
  have HS3 := hid hs3
  have BX3 := hid bx3
  have hww : w3 = (((w.alloc (.cells #[.slice none 0 0] 33)).alloc (.cells #[.slice a n cap] 23)).alloc (.cells #[.slice a2 n2 cap2] 37)).alloc (.cells #[.int .i64 k] 3) := by rw [hw3, hw1]
  have HWW := hid hww
  have hdc := decoded_c w1 a a2 n cap n2 cap2 k
  rw [hs1, hw1] at hdc
  have HDC := hid hdc
  clear hn hn2 hm H H2 hV hfv hM h1 h60 hw1 hb1 bx hs1 hw3 c1 c2 c3 hs3 hb3 hB3 bx3 hfp hIT hww hdc
  obtain ⟨i0, hi0, hz0, hz1, hz2⟩ := info_parts li_int
  refine callsIn_wide (n := 0) |>.1 ?_
  refine callsIn_of_wp_marks Tryz.func43 rfl trivial ?_ rfl
  simp only [Tryz.ntmps43, List.size_toArray, List.length_cons, List.length_nil, Nat.reduceAdd, Nat.reduceSub, Array.replicate_succ, Array.replicate_zero, List.push_toArray, List.append_toArray, List.nil_append, List.cons_append]
  gi_wp2_with (refine ⟨trivial, rfl, ?_⟩; gi_at_call 40; refine (callsIn_wide.2 HDC.out).mono ?_; rintro e w' ⟨rfl, hw'⟩; rw [← HWW.out] at hw'; have hw2 := hw'.symm; clear hw'; subst hw2; refine Stop.of ?_)
  refine Stop.go ?_
  gi_wp2
  refine range_p (gf := 61) (lb := #[.pointer (some ⟨w.heap.size + 1 + 1, 0, none⟩), .pointer (some ⟨w.heap.size + 1, 0, none⟩), .pointer (some ⟨w.heap.size + 1 + 2, 0, none⟩)]) (xs := List.range n2) (fp := fp) (V := DecV M k F) rfl (enters_of Tryz.func61 (by kernel_rfl) rfl)
    HIT.out (Below.refl _ _) (by rw [HFP.out]; exact fun q h => h.1)
    (fun Sr pre Z => MissI w w3 w.heap.size fp Sr (missTo M k F pre.length) Z)
    (fun _ _ _ _ => False) ?hI (fun _ _ _ _ _ _ h => h.elim) ?hV ?h0
    (fun v u a' Z => a' = { tmps := #[.slice a n cap, .slice a2 n2 cap2, .int .i64 k, undef, undef, undef, .slice none 0 0, .pointer (some ⟨w.heap.size, 0, none⟩), v, u, .slice a n cap, .slice a2 n2 cap2, .int .i64 k, .func (.func 61) #[] #[.pointer (some ⟨w.heap.size + 1 + 1, 0, none⟩), .pointer (some ⟨w.heap.size + 1, 0, none⟩), .pointer (some ⟨w.heap.size + 1 + 2, 0, none⟩)], v, u, undef, undef, undef, undef, undef, undef, undef], defers := [] }) ?hAx ?hassign ?hbody ?hdone ?hstop
  case hI =>
    intro Sr Sr' s A B hIA h1 h2 h3 h4 hk
    have hs := HS3.out
    exact hIA.keep h1 h2 h3 (by omega) (by rw [HFP.out]; exact fun q h => h.1) (HB3.out.size) hk
  case hV =>
    intro Sr x v u A B hv hk
    exact hv.keep hk (fun q hq => ⟨by omega, by omega⟩)
  case h0 =>
    intro Z hk hZ
    have hs := HS3.out
    exact ⟨hk.below HB3.out HB3.out.size (fun q hq => by show q < w3.heap.size; omega), hk.mono (by rw [HFP.out]; exact fun q h => h.1), ⟨_, (hk.block _ BX3.out.lt (by show w.heap.size < w3.heap.size; omega)).trans BX3.out, World.ownsRow_nil _ _ _ _, fun q hq => by simp [Value.ownBlock] at hq⟩, hZ⟩
  case hAx =>
    intro v u a' A B h _
    exact h
  case hassign =>
    rintro l Sr x v u Z K hZ hv hK
    gi_wp2
    exact hK _ _ (Below.refl _ _) rfl
  case hbody =>
    rintro l' Sr pre t _ u _ Z hpre hSr hI ⟨rfl, ho⟩ rfl hZ hDo hLo
    obtain ⟨hpr, ht⟩ := HPR.out pre t hpre
    have hlen : pre.length = t := by rw [hpr]; simp
    have hlen1 : (pre ++ [t]).length = t + 1 := by rw [List.length_append, hlen]; rfl
    rw [hlen] at hI
    have HL1 := hid hlen1
    have hmt := HMT.out t
    have HI := hid hI
    have HSR := hid hSr
    rcases ho with ⟨hno, rfl⟩ | ⟨x, b, c, hx, rfl, hxb, hxS, hxs, hx1, hxm⟩
    · rw [if_pos hno] at hmt
      obtain ⟨v, hvb, hvo, hvg⟩ := hI.o
      have hbc := hvb.cell
      have hbf := hvb.frozen
      have hbl := hvb.lt
      have HVB := hid hvb
      have HVO := hid hvo
      have HVG := hid hvg
      have HMT2 := hid hmt
      have hml := HML.out t
      obtain ⟨L, hL⟩ : ∃ L, L = missTo M k F t := ⟨_, rfl⟩
      rw [← hL] at HVO hml HI HMT2
      have M1 := hid (show L.length + 1 ≤ maxLen by unfold maxLen; rw [HPR.out pre t hpre |>.1] at hpre; have := (HPR.out _ t hpre).2; have hq : t < n2 := List.mem_range.1 (hpre.subset (List.mem_append_right _ (List.mem_singleton.2 rfl))); omega)
      have M2 := hid (show (L.length + 1) * 8 ≤ 140737488355328 by have hq : t < n2 := List.mem_range.1 (hpre.subset (List.mem_append_right _ (List.mem_singleton.2 rfl))); omega)
      have M3 := hid (show w3.heap.size + 2 ≤ (Z.alloc (.cells #[.int .i64 (t : Int)] 3)).heap.size by simp; omega)
      clear hno hmt hI hvb hvo hvg hL hpr hlen hlen1 hpre hSr hDo hLo hml
      gi_wp2_with (gi_at_builtin; go_loud (refine wpListIn_append_own_at _ rfl _ _ 33 rfl (w3.heap.size + 2) 3 i0 (.int .i64 0) 1 8 Tryz.underlying33 hi0 hz0 hz1 hz2 rfl (by decide) v _ _ rfl (HVO.out.alloc _) ⟨Z.heap.size, 0, none⟩ 1 1 [.int .i64 t] rfl rfl (one_news Z _ _ _ rfl) (li_one _) M1.out M2.out M3.out ?_; refine Stop.of ?_))
      refine Stop.go ?_
      intro v5 w9 own5 g5 _ hat5
      obtain ⟨a5, c5, rfl⟩ := ownsRow_slice own5
      have hb9 : Boxed w9 w.heap.size 33 v := (HVB.out.alloc _).kept g5 (fun e => (HVG.out _ e.symm).2.1 rfl)
      have hc9 := hb9.cell
      have hf9 := hb9.frozen
      have hl9 := hb9.lt
      have hs := HS3.out
      have hpush := MissI.push HI.out HVB.out HVO.out HVG.out g5 own5 (by rw [World.size_alloc]; exact hat5) HSR.out (by omega) (by rw [HFP.out]; exact fun q h => h) (Nat.le_refl _)
      have HPU := hid hpush
      clear hb9 hpush own5 g5 hat5
      gi_wp2
      obtain ⟨r1, r2, r3⟩ := HPU.out
      refine ⟨r1, r2, ?_⟩
      show MissI w w3 w.heap.size fp Sr (missTo M k F (pre ++ [t]).length) _
      rw [HL1.out, HMT2.out]
      exact r3
    · rw [if_neg (by rw [hx]; simp), List.append_nil] at hmt
      have HMT2 := hid hmt
      clear hmt hI hpr hlen hlen1 hpre hSr hDo hLo hx hxb hxS hxs hx1 hxm
      gi_wp2
      refine ⟨Nat.le_refl _, fun _ _ => rfl, ?_⟩
      show MissI w w3 w.heap.size fp Sr (missTo M k F (pre ++ [t]).length) _
      rw [HL1.out, HMT2.out]
      exact HI.out
  case hdone =>
    intro Sr Z hZ hSr hI hmk
    rw [List.length_range] at hI
    obtain ⟨v, hvb, hvo, hvg⟩ := hI.o
    have hcv := hvb.cell
    have HI := hid hI
    have HVO := hid hvo
    have HVG := hid hvg
    have HMR := hid hmk
    clear hI hvb hvo hvg hmk hSr
    gi_wp2
    refine marks_leave [w3.heap.size] Z (by simp) (fun h hh => by rw [List.mem_singleton.1 hh]; exact HMR.out) fun w' hk => ?_
    refine ⟨_, results_tmp rfl _ _ _, v, w3.heap.size + 2, rfl, by have := HB3.out.size; omega, ?_, hk.below HI.out.b HI.out.b.size (fun q hq hh => by rw [List.mem_singleton.1 hh] at hq; have := HB3.out.size; omega)⟩
    rw [HMF.out]
    exact own_keep2 HVO.out hk (fun g hgk hh => (HVG.out g hgk).2.2.1 (List.mem_singleton.1 hh))
  case hstop =>
    intro Sr c pre Z hpre hSr hI hmk
    exact hI.elim
end Go.Proofs.YtkmjeegnijohmaaGreat

namespace Go.Proofs.YtkmjeegnijohmaaGreat
open Go.RowKit
set_option linter.unusedVariables false

theorem OptV.oneCell {W : World} {base : Nat} {S : Nat → Prop} {o : Option (List Int)} {u : Value} (h : OptV W base S o u) : u.oneCell' = true := by
  rcases h with ⟨_, rfl⟩ | ⟨x, b, c, _, rfl, _⟩ <;> rfl
theorem OptV.slice {W : World} {base : Nat} {S : Nat → Prop} {o : Option (List Int)} {u : Value} (h : OptV W base S o u) : ∃ a c, u = .slice a (o.getD []).length c ∧ (o.getD []).length ≤ maxLen ∧ IntsAt W a (o.getD []) ∧ (a = none ↔ o = none) := by
  rcases h with ⟨rfl, rfl⟩ | ⟨x, b, c, rfl, rfl, _, _, h, _, h2⟩
  · exact ⟨none, 0, rfl, by simp, fun j hj => by simp at hj, by simp⟩
  · exact ⟨_, c, rfl, h2, h.ints, by simp⟩
def PicsO (W : World) (base : Nat) (S : Nat → Prop) (v : Value) (os : List (Option (List Int))) : Prop :=
  ∃ vs, W.ownsRow base 33 1 v os.length vs ∧ (∀ k, v.ownBlock = some k → S k) ∧ ∀ j (hj : j < os.length), ∃ u, vs[j]? = some u ∧ OptV W base S os[j] u
theorem PicsO.nil (W : World) (base : Nat) (S : Nat → Prop) : PicsO W base S (.slice none 0 0) [] :=
  ⟨[], World.ownsRow_nil _ _ _ _, fun k hk => by simp [Value.ownBlock] at hk, fun j hj => by simp at hj⟩
theorem PicsO.slice {W : World} {base : Nat} {S : Nat → Prop} {v : Value} {T : List (Option (List Int))} (h : PicsO W base S v T) : ∃ a c, v = .slice a T.length c := by
  obtain ⟨xs, ho, _⟩ := h; exact ownsRow_slice ho
theorem PicsO.keep {W W' : World} {base : Nat} {S S' K : Nat → Prop} {v : Value} {ls : List (Option (List Int))} (h : PicsO W base S v ls) (hk : Keep K W W') (hS : ∀ b, S b → b < W.heap.size → K b ∧ S' b) : PicsO W' base S' v ls := by
  obtain ⟨vs, ho, hg, he⟩ := h
  refine ⟨vs, ⟨ho.1, ?_⟩, fun k hk' => ?_, fun j hj => ?_⟩
  · rcases ho.2 with hn | ⟨g, cap, cur, rfl, hb, hgg, rest⟩
    · exact .inl hn
    · have hlt := (Array.getElem?_eq_some_iff.1 hgg).1
      exact .inr ⟨g, cap, cur, rfl, hb, (hk.block g hlt (hS g (hg g rfl) hlt).1).trans hgg, rest⟩
  · rcases ho.2 with ⟨rfl, _⟩ | ⟨g, cap, cur, rfl, hb, hgg, rest⟩
    · simp [Value.ownBlock] at hk'
    · obtain rfl : g = k := by simpa [Value.ownBlock] using hk'
      exact (hS g (hg g rfl) (Array.getElem?_eq_some_iff.1 hgg).1).2
  · obtain ⟨u, hu, hel⟩ := he j hj
    exact ⟨u, hu, hel.keep hk (fun b _ hb hs => hS b hs hb)⟩
theorem PicsO.below {W W' : World} {base : Nat} {S : Nat → Prop} {v : Value} {ls : List (Option (List Int))} (h : PicsO W base S v ls) (hb : Below W.heap.size W W') : PicsO W' base S v ls :=
  h.keep (Keep.of_below hb : Keep (fun _ => True) _ _) (fun _ h _ => ⟨trivial, h⟩)
theorem OptV.grown {W w1 w2 : World} {base n : Nat} {S : Nat → Prop} {v u : Value} {l : Option (List Int)} {vs : List Value} (ho : W.ownsRow base 33 1 v n vs) (h : OptV W base S l u) (hW1 : Below W.heap.size W w1) (hg : w1.grownBy w2 v.ownBlock) : OptV w2 base S l u := by
  rcases h with (h | ⟨x, b, cap, e, e2, h1, h2, h3, h4⟩)
  · exact .inl h
  refine .inr ⟨x, b, cap, e, e2, h1, h2, h3.keep ((hg.block b (Nat.lt_of_lt_of_le h3.lt hW1.size) ?_).trans (hW1.block b h3.lt)), h4⟩
  rcases ho.2 with ⟨rfl, _⟩ | ⟨g, cap, cur, rfl, hbg, hgg, _⟩
  · simp [Value.ownBlock]
  · intro e
    obtain rfl : b = g := by simpa [Value.ownBlock] using e
    obtain ⟨sp, h3⟩ := h3
    rw [h3] at hgg; cases hgg
theorem PicsO.snoc {W w1 w2 : World} {base : Nat} {S : Nat → Prop} {v v' u : Value} {ls : List (Option (List Int))} {l : Option (List Int)} {vs : List Value}
    (ho : W.ownsRow base 33 1 v ls.length vs) (he : ∀ j (hj : j < ls.length), ∃ u, vs[j]? = some u ∧ OptV W base S ls[j] u) (hu : OptV W base S l u)
    (hW1 : Below W.heap.size W w1) (hg : w1.grownBy w2 v.ownBlock) (ho' : w2.ownsRow base 33 1 v' (ls.length + 1) (vs ++ [u])) (hS' : ∀ k, v'.ownBlock = some k → S k) : PicsO w2 base S v' (ls ++ [l]) := by
  have hlen : vs.length = ls.length := by have := ho.1; omega
  have hel : ∀ u l, OptV W base S l u → OptV w2 base S l u := fun u l h => h.grown ho hW1 hg
  refine ⟨vs ++ [u], by simpa using ho', hS', fun j hj => ?_⟩
  by_cases e : j < ls.length
  · obtain ⟨u', hu', hel'⟩ := he j e
    refine ⟨u', by rw [List.getElem?_append_left (by omega)]; exact hu', ?_⟩
    rw [List.getElem_append_left e]
    exact hel _ _ hel'
  · have : j = ls.length := by simp at hj; omega
    subst this
    refine ⟨u, by rw [List.getElem?_append_right (by omega), hlen]; simp, ?_⟩
    simp only [List.getElem_append_right (Nat.le_refl _), Nat.sub_self, List.getElem_cons_zero]
    exact hel _ _ hu
def OptsAt (W : World) (a : Option Addr) (os : List (Option (List Int))) : Prop :=
  ∀ j (hj : j < os.length), ∃ b off ra rn rc, a = some ⟨b, off, none⟩ ∧ b < W.heap.size ∧ W.cell? ⟨b, off + j, none⟩ = some (.slice ra rn rc) ∧ (os[j].getD []).length = rn ∧ rn ≤ maxLen ∧ IntsAt W ra (os[j].getD []) ∧ (ra = none ↔ os[j] = none)
theorem OptsAt.rows {W : World} {a : Option Addr} {os : List (Option (List Int))} (h : OptsAt W a os) : RowsAt W a (os.map (·.getD [])) := by
  intro j hj
  rw [List.length_map] at hj
  obtain ⟨b, off, ra, rn, rc, e, hb, hc, h1, h2, h3, _⟩ := h j hj
  exact ⟨b, off, ra, rn, rc, e, hb, hc, by rw [List.getElem_map]; exact h1, h2, by rw [List.getElem_map]; exact h3⟩
theorem OptsAt.below {w w' : World} {a : Option Addr} {l : List (Option (List Int))} (h : OptsAt w a l) (hb : Below w.heap.size w w') : OptsAt w' a l := by
  intro j hj
  obtain ⟨b, off, ra, n, cap, e, hlt, h0, hn, hm, hi, hnn⟩ := h j hj
  exact ⟨b, off, ra, n, cap, e, Nat.lt_of_lt_of_le hlt hb.size, (hb.cell (p := ⟨b, _, none⟩) hlt).trans h0, hn, hm, hi.below hb, hnn⟩
theorem PicsO.reads {W : World} {base : Nat} {S : Nat → Prop} {v : Value} {T : List (Option (List Int))} (h : PicsO W base S v T) : ∃ a cap, v = .slice a T.length cap ∧ T.length ≤ maxLen ∧ OptsAt W a T := by
  obtain ⟨xs, ho, hg, he⟩ := h
  rcases ho.2 with ⟨rfl, h0⟩ | ⟨g, cap, cur, rfl, hbg, hgg, hnc, hcm, hsz, htk⟩
  · exact ⟨none, 0, by rw [h0], by rw [h0]; decide, fun j hj => by omega⟩
  · refine ⟨_, cap, rfl, by omega, fun j hj => ?_⟩
    obtain ⟨u, h2, h3⟩ := he j hj
    have hc : ∀ i, i < T.length → W.cell? ⟨g, i, none⟩ = xs[i]? := fun i hi =>
      World.ownsRow.cellAt (w := W) (base := base) (e := 33) (size := 1) (g := g) (n := T.length) (cap := cap) (xs := xs) ⟨ho.1, .inr ⟨g, cap, cur, rfl, hbg, hgg, hnc, hcm, hsz, htk⟩⟩ i (by omega)
    obtain ⟨ra, rc, rfl, k1, k2, k3⟩ := h3.slice
    exact ⟨g, 0, ra, _, rc, rfl, (Array.getElem?_eq_some_iff.1 hgg).1, by rw [Nat.zero_add, hc _ hj]; exact h2, rfl, k1, k2, k3⟩

def decL (M : Mask) (k : Int) (F : List Frm) (t : Nat) : List (Option (List Int)) := (List.range t).map (fun j => decAt M k F (j + 1))
theorem decL_len (M : Mask) (k : Int) (F : List Frm) (t : Nat) : (decL M k F t).length = t := by simp [decL]
theorem decL_succ (M : Mask) (k : Int) (F : List Frm) (t : Nat) : decL M k F (t + 1) = decL M k F t ++ [decAt M k F (t + 1)] := by simp [decL, List.range_succ]
theorem decL_get (M : Mask) (k : Int) (F : List Frm) {t j : Nat} (h : j < (decL M k F t).length) : (decL M k F t)[j] = decAt M k F (j + 1) := by simp [decL]
set_option maxRecDepth 100000 in
set_option maxHeartbeats 2000000 in
theorem r8decode_c (w : World) (a a2 : Option Addr) (n cap n2 cap2 : Nat) (M : Mask) (F : List Frm) (k : Int) (hn : M.length = n) (hn2 : F.length = n2) (hm : n ≤ maxLen) (H : RowsAt w a M) (H2 : FramesAt w a2 F) (hV : validB M F = true) :
    Calls Tryz.prog 42 #[.slice a n cap, .slice a2 n2 cap2, .int .i64 k] w fun e w' => ∃ v, e = .returned v ∧ PicsO w' w.heap.size (fun _ => True) v (decL M k F n2) ∧ Below w.heap.size w w' := by
  obtain ⟨hM, h1, h60, _⟩ := validB_ok hV
  have hfv : ∀ f ∈ F, frB M f = true := by
    unfold validB at hV
    simp only [Bool.and_eq_true, List.all_eq_true] at hV
    exact hV.2
  have HH2 := hid H2
  have HN2 := hid hn2
  have HNX := hid (fun (X : World) (hX : Below w.heap.size w X) (kf : Bool) (ra : Option Addr) (rn rc : Nat) (l : List Int) (o : Option (List Int)) (nv : Value) (S : Nat → Prop) (hr : l.length = rn) (hrm : rn ≤ maxLen) (hri : IntsAt X ra l) (hf : frB M (kf, l) = true) (ho : OptV X w.heap.size S o nv) (hoo : okO M o) => r8next_c X a ra n cap rn rc M kf l o nv w.heap.size S k hn hM hr hrm (H.below hX) hri hf ho hoo)
  have HOK := hid (fun j => decAt_ok (k := k) hfv j)
  have HFV := hid hfv
  have HDS := hid (show ∀ j, (hj : j < F.length) → decAt M k F (j + 1) = nextF M k (decAt M k F j) F[j] from fun j hj => by
    show nextF M k (decAt M k F j) (F[j]?.getD (false, [])) = _
    rw [List.getElem?_eq_getElem hj, Option.getD_some])
  have hn60 : n2 ≤ 60 := by omega
  clear hn hn2 hm H H2 hV hM h1 h60 hfv
  go_enter Tryz.func42, Tryz.ntmps42
  go_wp2
  go_loopw [7, 8, 13] (fun v nv i wr => ∃ t : Nat, t ≤ n2 ∧ i = .int .i64 t ∧ PicsO wr w.heap.size (fun _ => True) v (decL M k F t) ∧ OptV wr w.heap.size (fun _ => True) (decAt M k F t) nv ∧ Below w.heap.size w wr) (fun _ _ i _ => n2 - (intOf i).toNat)
  case atStart => exact ⟨0, Nat.zero_le _, rfl, PicsO.nil _ _ _, .inl ⟨rfl, rfl⟩, Below.refl _ _⟩
  case round =>
    obtain ⟨t, ht, rfl, ho, hnv, hbk⟩ := hrel
    by_cases hlt : t < n2
    · have htF : t < F.length := by rw [HN2.out]; exact hlt
      obtain ⟨b, off, ra, rn, rc, rfl, hbs, hc0, hc1, hrn, hrm, hri⟩ := (HH2.out.below hbk) t htF
      have hfr := HFV.out _ (List.getElem_mem htF)
      have hds := HDS.out t htF
      obtain ⟨⟨kf, l⟩, hl⟩ : ∃ f, f = F[t]'htF := ⟨_, rfl⟩
      rw [← hl] at hc0 hrn hri hfr hds
      simp only [] at hc0 hrn hri
      have hti : (t : Int) < (n2 : Int) := by omega
      have hti0 : (0 : Int) ≤ (t : Int) := by omega
      have hba : ∀ o : Obj, Below wr.heap.size wr (wr.alloc o) := fun o => (Below.refl _ _).alloc (Nat.le_refl _) _
      have HX := hid (fun (o : Obj) => HNX.out (wr.alloc o) (chain hbk (hba o)) kf ra rn rc l (decAt M k F t) _ (fun _ => True) hrn hrm (hri.below (hba o)) hfr (hnv.below (hba o)) (HOK.out t))
      have HDS2 := hid hds
      have HBA := hid hba
      have HBK := hid hbk
      have HO := hid ho
      clear hds hl hfr hri hrn hba hbk ho hnv
      go_wp2_with (go_at_call 64; refine (HX.out _).mono ?_; rintro e w1 ⟨v1, rfl, ho1, hb1⟩; refine Stop.of ?_)
      refine Stop.go ?_
      have hb1' := chain (HBA.out _) hb1
      have hB1 := chain HBK.out hb1'
      have hbb := HBA.out
      obtain ⟨va, vc, rfl⟩ := HO.out.slice
      have hO1 := HO.out.below hb1'
      rw [decL_len]
      have hov : OptV w1 w.heap.size (fun _ => True) (decAt M k F (t + 1)) v1 := by
        rw [HDS2.out]
        rcases ho1 with h | ⟨x, b, c, h1, h2, h3, h4⟩
        · exact .inl h
        · exact .inr ⟨x, b, c, h1, h2, by have := HBK.out.size; simp at h3; omega, h4⟩
      obtain ⟨xa, xn, xc, rfl⟩ : ∃ a n c, v1 = .slice a n c := by obtain ⟨a, c, e, _⟩ := hov.slice; exact ⟨a, _, c, e⟩
      obtain ⟨vs, hvo, hvg, hve⟩ := hO1
      rw [decL_len] at hvo
      have HVO := hid hvo
      have HVG := hid hvg
      have HVE := hid hve
      have HOV := hid hov
      have HB1 := hid hB1
      have M1 := hid (show t + 1 ≤ maxLen by unfold maxLen; omega)
      have M2 := hid (show (t + 1) * 24 ≤ 140737488355328 by omega)
      have M3 := hid (Nat.le_trans hB1.size (le_alloc w1 (.cells #[.slice xa xn xc] 33)))
      have M4 := hid (hov.oneCell)
      clear hvo hvg hve hov hB1 hb1 hb1' ho1 hbb
      go_wp2_with (at_builtin; refine Stop.of ?_)
      refine Stop.go ?_
      (refine wpList_app _ rfl (.tmp 22) (.tmp 24) 22 rfl w.heap.size 33 (.slice none 0 0) 1 24 Tryz.underlying22 info_ints rfl Nat.one_pos (.slice va t vc) t vs rfl (HVO.out.alloc _) (some ⟨w1.heap.size, 0, none⟩) 1 1 [.slice xa xn xc] rfl rfl no_none (one_news w1 _ _) (by intro u hu; rw [List.mem_singleton.1 hu]; exact M4.out) M1.out M2.out M3.out ?_)
      intro a3 c3 w3 own3 g3
      have hla : Below w1.heap.size w1 (w1.alloc (.cells #[.slice xa xn xc] 33)) := (Below.refl _ _).alloc (Nat.le_refl _) _
      have hP3 := PicsO.snoc (l := decAt M k F (t + 1)) (by rw [decL_len]; exact HVO.out) HVE.out HOV.out hla g3 (by rw [decL_len]; exact own3) (fun _ _ => trivial)
      have hB3 : Below w.heap.size w w3 := (HB1.out.alloc HB1.out.size _).grown g3 M3.out (fun k hk => (HVO.out.lt k hk).1)
      have hO3 : OptV w3 w.heap.size (fun _ => True) (decAt M k F (t + 1)) (.slice xa xn xc) := HOV.out.grown HVO.out hla g3
      have HB3 := hid hB3
      have HO3 := hid hO3
      have HP3 := hid hP3
      clear hla hP3 hB3 hO3 own3 g3
      go_wp2
      refine ⟨⟨t + 1, by omega, by go_num, ?_, HO3.out, HB3.out⟩, by simp [intOf]; omega⟩
      rw [decL_succ]
      exact HP3.out
    · obtain rfl : n2 = t := by omega
      go_wp2
      go_ret
      exact ⟨_, rfl, ho, hbk⟩
end Go.Proofs.YtkmjeegnijohmaaGreat

namespace Go.Proofs.YtkmjeegnijohmaaGreat
open Go.RowKit
set_option linter.unusedVariables false

def missL (M : Mask) (F : List Frm) (k : Int) : List Int := if askE M F k = 0 then missF M k F else []
theorem askE_ok {M : Mask} {F : List Frm} {k : Int} (h : askE M F k = 0) : validB M F = true ∧ 0 ≤ k ∧ k ≤ colsM M := by
  unfold askE at h
  split at h
  · rename_i hv
    split at h
    · rename_i hk; unfold inB at hk; simp at hk; exact ⟨hv, hk⟩
    · simp at h
  · simp at h
theorem sMissing_c (w : World) (a a2 : Option Addr) (n cap n2 cap2 : Nat) (M : Mask) (F : List Frm) (k : Int) (hn : M.length = n) (hm : n ≤ maxLen) (H : RowsAt w a M) (hn2 : F.length = n2) (hm2 : n2 ≤ maxLen) (H2 : FramesAt w a2 F) :
    Calls Tryz.prog 18 #[.slice a n cap, .slice a2 n2 cap2, .int .i64 k] w fun e w' => ∃ va vc, e = .returned (.tuple #[.slice va (missL M F k).length vc, .int .i64 (askE M F k)]) ∧ IntsAt w' va (missL M F k) ∧ Below w.heap.size w w' := by
  have HA := hid (asked_c w a a2 n cap n2 cap2 M F k hn hm H hn2 hm2 H2)
  by_cases h0 : askE M F k = 0
  · have hL : missL M F k = missF M k F := by unfold missL; rw [if_pos h0]
    have hV := (askE_ok h0).1
    have HMS := hid (fun (X : World) (hX : Below w.heap.size w X) => missing_c X a a2 n cap n2 cap2 M F k hn hn2 hm (H.below hX) (H2.below hX) hV)
    rw [h0] at HA
    rw [hL, h0]
    obtain ⟨L, hLL⟩ : ∃ L, L = missF M k F := ⟨_, rfl⟩
    rw [← hLL] at HMS ⊢
    clear hn H hn2 H2 h0 hL hV hLL
    go_enter Tryz.func18, Tryz.ntmps18
    go_wp2_with first
      | (go_at_call 39; refine HA.out.mono ?_; rintro e w1 ⟨rfl, hb1⟩)
      | (go_at_call 43; refine (HMS.out _ hb1).mono ?_; rintro e w2 ⟨v, base, rfl, _, ho, hb2⟩; refine Stop.of ?_)
    refine Stop.go ?_
    obtain ⟨va, vc, rfl, hi, _⟩ := ints_of_own ho rfl
    have HI := hid hi
    have HB := hid (chain hb1 hb2)
    clear ho hi hb1 hb2
    go_wp2
    go_ret2
    exact ⟨va, vc, rfl, HI.out, HB.out⟩
  · have hL : missL M F k = [] := by unfold missL; rw [if_neg h0]
    have hne : (askE M F k != 0) = true := by simpa using h0
    rw [hL]
    obtain ⟨E, hE⟩ : ∃ E, E = askE M F k := ⟨_, rfl⟩
    rw [← hE] at HA hne ⊢
    clear hn H hn2 H2 h0 hL hE
    go_enter Tryz.func18, Tryz.ntmps18
    go_wp2_with first
      | (go_at_call 39; refine HA.out.mono ?_; rintro e w1 ⟨rfl, hb1⟩)
    go_ret2
    exact ⟨none, 0, rfl, fun j hj => by simp at hj, hb1⟩

end Go.Proofs.YtkmjeegnijohmaaGreat

namespace Go.Proofs.YtkmjeegnijohmaaGreat
open Go.RowKit
set_option linter.unusedVariables false

theorem info_truth : (Tryz.prog.info? 4).map (fun i => (i.zero, i.size, i.bytes)) = some (some (.bool false), 1, 1) := by kernel_rfl
def BoolsAt (W : World) (a : Option Addr) (l : List Bool) : Prop :=
  ∀ j (hj : j < l.length), ∃ b off, a = some ⟨b, off, none⟩ ∧ b < W.heap.size ∧ W.cell? ⟨b, off + j, none⟩ = some (.bool l[j])
theorem BoolsAt.below {w w' : World} {a : Option Addr} {l : List Bool} (h : BoolsAt w a l) (hb : Below w.heap.size w w') : BoolsAt w' a l := by
  intro j hj
  obtain ⟨b, off, e, hlt, h0⟩ := h j hj
  exact ⟨b, off, e, Nat.lt_of_lt_of_le hlt hb.size, (hb.cell (p := ⟨b, _, none⟩) hlt).trans h0⟩
theorem bools_of_own {W : World} {base : Nat} {v : Value} {n : Nat} {l : List Bool} (h : W.ownsRow base 4 1 v n (l.map Value.bool)) (hn : l.length = n) : ∃ a c, v = .slice a n c ∧ BoolsAt W a l ∧ n ≤ maxLen := by
  subst hn
  rcases h.2 with ⟨rfl, h0⟩ | ⟨g, cap, cur, rfl, hbg, hgg, hnc, hcm, hsz, htk⟩
  · exact ⟨none, 0, by rw [h0], fun j hj => by omega, by rw [h0]; decide⟩
  · refine ⟨_, cap, rfl, fun j hj => ?_, by omega⟩
    have hc := World.ownsRow.cellAt (w := W) (base := base) (e := 4) (size := 1) (g := g) (n := l.length) (cap := cap) (xs := l.map Value.bool) ⟨h.1, .inr ⟨g, cap, cur, rfl, hbg, hgg, hnc, hcm, hsz, htk⟩⟩ j (by omega)
    exact ⟨g, 0, rfl, (Array.getElem?_eq_some_iff.1 hgg).1, by rw [Nat.zero_add, hc, List.getElem?_map, List.getElem?_eq_getElem hj]; rfl⟩

theorem r8asked_c (w : World) (a a2 : Option Addr) (n cap n2 cap2 : Nat) (M : Mask) (F : List Frm) (k : Int) (hn : M.length = n) (hm : n ≤ maxLen) (H : RowsAt w a M) (hn2 : F.length = n2) (hm2 : n2 ≤ maxLen) (H2 : FramesAt w a2 F) :
    Calls Tryz.prog 41 #[.slice a n cap, .slice a2 n2 cap2, .int .i64 k] w fun e w' => e = .returned (.int .i64 (askE M F k)) ∧ Below w.heap.size w w' := by
  have HV := hid (r8valid_c w a n cap M hn hm H a2 n2 cap2 F hn2 hm2 H2)
  cases hV : validB M F
  · have he : askE M F k = 1 := by unfold askE; rw [hV]; rfl
    rw [hV] at HV
    rw [he]
    clear hn H hn2 H2 hV he
    go_enter Tryz.func41, Tryz.ntmps41
    go_wp2_with (go_at_call 47; refine HV.out.mono ?_; rintro e w1 ⟨rfl, hb1⟩)
    go_ret
    exact ⟨rfl, hb1⟩
  · obtain ⟨_, h1, _, _, _⟩ := okM_ok (validB_ok hV).1
    obtain ⟨b, off, ra, rc, rfl, hb, hc⟩ := rows_head H (by omega)
    have i0 : (0 : Int) < (n : Int) := by omega
    have HC0 := hid (show ∀ X : World, Below w.heap.size w X → X.cell? ⟨b, off, none⟩ = some (.slice ra (colsM M) rc) from fun X hX => (hX.cell (p := ⟨b, off, none⟩) hb).trans hc)
    have HT := hid (fun X => r8in_c k 0 (colsM M) X)
    have he : askE M F k = if inB k 0 (colsM M) = true then 0 else 7 := by unfold askE; rw [hV]; rfl
    rw [hV] at HV
    rw [he]
    obtain ⟨W, hW⟩ : ∃ W, W = colsM M := ⟨_, rfl⟩
    rw [← hW] at HT HC0 ⊢
    obtain ⟨B, hB⟩ : ∃ B, B = inB k 0 (W : Int) := ⟨_, rfl⟩
    rw [← hB] at HT ⊢
    clear hn H hn2 H2 hV he hc hW hB
    cases B
    all_goals
      go_enter Tryz.func41, Tryz.ntmps41
      go_wp2_with first
        | (go_at_call 47; refine HV.out.mono ?_; rintro e w1 ⟨rfl, hb1⟩; have hc1' := HC0.out w1 hb1)
        | (go_at_call 35; refine (HT.out _).mono ?_; rintro e w2 ⟨rfl, rfl⟩)
      go_ret
      exact ⟨rfl, hb1⟩

def decF (M : Mask) (F : List Frm) (k : Int) : List (Option (List Int)) := if askE M F k = 0 then decL M k F F.length else []
def toldL (M : Mask) (F : List Frm) (k : Int) : List Bool := (decF M F k).map (·.isSome)

set_option maxRecDepth 100000 in
set_option maxHeartbeats 2000000 in
theorem r8Decode_c (w : World) (a a2 : Option Addr) (n cap n2 cap2 : Nat) (M : Mask) (F : List Frm) (k : Int) (hn : M.length = n) (hm : n ≤ maxLen) (H : RowsAt w a M) (hn2 : F.length = n2) (hm2 : n2 ≤ maxLen) (H2 : FramesAt w a2 F) :
    Calls Tryz.prog 17 #[.slice a n cap, .slice a2 n2 cap2, .int .i64 k] w fun e w' => ∃ va vc ta tc, e = .returned (.tuple #[.slice va (decF M F k).length vc, .slice ta (toldL M F k).length tc, .int .i64 (askE M F k)]) ∧ OptsAt w' va (decF M F k) ∧ BoolsAt w' ta (toldL M F k) ∧ Below w.heap.size w w' := by
  have hneq := fun (w : World) (a : Option Addr) (n c : Nat) => run_neq_slice_nil_any (P := Tryz.prog) w 33 3 a n c 0 0 Tryz.underlying33
  have HA := hid (r8asked_c w a a2 n cap n2 cap2 M F k hn hm H hn2 hm2 H2)
  by_cases h0 : askE M F k = 0
  · have hV := (askE_ok h0).1
    have hL : decF M F k = decL M k F n2 := by unfold decF; rw [if_pos h0, hn2]
    have hT : toldL M F k = (decL M k F n2).map (·.isSome) := by unfold toldL; rw [hL]
    have hlen := decL_len M k F n2
    have HDC := hid (fun (X : World) (hX : Below w.heap.size w X) => r8decode_c X a a2 n cap n2 cap2 M F k hn hn2 hm (H.below hX) (H2.below hX) hV)
    have hn60 : n2 ≤ 60 := by have := (validB_ok hV).2.2.1; omega
    rw [hL, hT, h0]
    rw [h0] at HA
    obtain ⟨D, hD⟩ : ∃ D, D = decL M k F n2 := ⟨_, rfl⟩
    rw [← hD] at HDC hlen ⊢
    rw [List.length_map, hlen]
    have HLN := hid hlen
    clear hn hm H hn2 hm2 H2 h0 hV hL hT hlen hD
    go_enter Tryz.func17, Tryz.ntmps17
    go_wp2_with first
      | (go_at_call 41; refine HA.out.mono ?_; rintro e w1 ⟨rfl, hb1⟩)
      | (go_at_call 42; refine (HDC.out _ hb1).mono ?_; rintro e w2 ⟨v2, rfl, ho2, hb2⟩; refine Stop.of ?_)
    refine Stop.go ?_
    obtain ⟨va, vc, rfl, _, hdo⟩ := ho2.reads
    rw [HLN.out]
    have HDO := hid hdo
    have hB2 := chain hb1 hb2
    have HB2 := hid hB2
    clear ho2 hdo hb1 hb2 hB2
    go_wp2
    go_loopw [7, 25] (fun v i wr => ∃ t : Nat, t ≤ n2 ∧ i = .int .i64 t ∧ wr.ownsRow w2.heap.size 4 1 v t (((D.take t).map (·.isSome)).map Value.bool) ∧ Below w2.heap.size w2 wr) (fun _ i _ => n2 - (intOf i).toNat)
    case atStart => exact ⟨0, Nat.zero_le _, rfl, World.ownsRow_nil _ _ _ _, Below.refl _ _⟩
    case round =>
      obtain ⟨t, ht, rfl, ho, hbk⟩ := hrel
      by_cases hlt : t < n2
      · have htD : t < D.length := by rw [HLN.out]; exact hlt
        obtain ⟨b, off, xa, xn, xc, rfl, hbs, hc, _, _, _, hnn⟩ := (HDO.out.below hbk) t htD
        have hti : (t : Int) < (n2 : Int) := by omega
        have hti0 : (0 : Int) ≤ (t : Int) := by omega
        have htk : ((D.take (t + 1)).map (·.isSome)).map Value.bool = ((D.take t).map (·.isSome)).map Value.bool ++ [.bool (!xa.isNone)] := by
          rw [List.take_succ_eq_append_getElem htD, List.map_append, List.map_append]
          congr 1
          have : (D[t]'htD).isSome = !xa.isNone := by
            cases hx : D[t]'htD with
            | none => rw [hnn.2 hx]; rfl
            | some y => cases xa with
              | none => rw [hnn.1 rfl] at hx; cases hx
              | some z => rfl
          simp [this]
        obtain ⟨B, hB⟩ : ∃ B, B = (!xa.isNone) := ⟨_, rfl⟩
        rw [← hB] at htk
        have hB' := hB.symm
        obtain ⟨la, lc, rfl⟩ := ownsRow_slice ho
        have HTK := hid htk
        have HO := hid ho
        have M1 := hid (show t + 1 ≤ maxLen by unfold maxLen; omega)
        have M2 := hid (show (t + 1) * 1 ≤ 140737488355328 by omega)
        have HBK := hid hbk
        have M3 := hid (Nat.le_trans hbk.size (le_alloc wr (.cells #[.bool B] 4)))
        have HQ := hid (fun (w : World) => (hneq w xa xn xc).trans (by rw [hB']))
        clear hnn htk ho hbk hB
        have hq := HQ.out
        go_wp2_with (at_builtin; refine Stop.of ?_)
        refine Stop.go ?_
        (refine wpList_app _ rfl (.tmp 29) (.tmp 32) 39 rfl w2.heap.size 4 (.bool false) 1 1 Tryz.underlying39 info_truth rfl Nat.one_pos (.slice la t lc) t _ rfl (HO.out.alloc _) (some ⟨wr.heap.size, 0, none⟩) 1 1 [.bool B] rfl rfl no_none (one_news wr _ _) (by intro u hu; rw [List.mem_singleton.1 hu]; rfl) M1.out M2.out M3.out ?_)
        intro a3 c3 w3 own3 g3
        have hB3 : Below w2.heap.size w2 w3 := (HBK.out.alloc HBK.out.size _).grown g3 M3.out (fun k hk => (HO.out.lt k hk).1)
        have HB3 := hid hB3
        have HO3 := hid own3
        clear hB3 own3 g3
        go_wp2
        refine ⟨⟨t + 1, by omega, by go_num, ?_, HB3.out⟩, by simp [intOf]; omega⟩
        rw [HTK.out]
        exact HO3.out
      · obtain rfl : n2 = t := by omega
        rw [List.take_of_length_le (by rw [HLN.out]; exact Nat.le_refl _)] at ho
        obtain ⟨ta, tc, rfl, hbo, _⟩ := bools_of_own ho (by rw [List.length_map, HLN.out])
        have HBO := hid hbo
        have HBK := hid hbk
        clear ho hbo hbk
        go_wp2
        go_ret3
        exact ⟨va, vc, ta, tc, rfl, HDO.out.below HBK.out, HBO.out, chain HB2.out HBK.out⟩
  · have hL : decF M F k = [] := by unfold decF; rw [if_neg h0]
    have hT : toldL M F k = [] := by unfold toldL; rw [hL]; rfl
    rw [hL, hT]
    obtain ⟨E, hE⟩ : ∃ E, E = askE M F k := ⟨_, rfl⟩
    rw [← hE] at HA h0 ⊢
    have hne : (E != 0) = true := by simpa using h0
    clear hn hm H hn2 hm2 H2 hL hT h0 hE
    go_enter Tryz.func17, Tryz.ntmps17
    go_wp2_with (go_at_call 41; refine HA.out.mono ?_; rintro e w1 ⟨rfl, hb1⟩)
    go_ret3
    exact ⟨none, 0, none, 0, rfl, fun j hj => by simp at hj, fun j hj => by simp at hj, hb1⟩
end Go.Proofs.YtkmjeegnijohmaaGreat

namespace Go.Proofs.YtkmjeegnijohmaaGreat
open Go.RowKit
set_option linter.unusedVariables false

set_option maxRecDepth 100000 in
set_option maxHeartbeats 2000000 in
theorem r8missing_c (w : World) (a a2 : Option Addr) (n cap n2 cap2 : Nat) (M : Mask) (F : List Frm) (k : Int) (hn : M.length = n) (hn2 : F.length = n2) (hm : n ≤ maxLen) (H : RowsAt w a M) (H2 : FramesAt w a2 F) (hV : validB M F = true) :
    Calls Tryz.prog 44 #[.slice a n cap, .slice a2 n2 cap2, .int .i64 k] w fun e w' => ∃ v base, e = .returned v ∧ w.heap.size ≤ base ∧ w'.ownsRow base 3 1 v (missF M k F).length ((missF M k F).map (Value.int .i64)) ∧ Below w.heap.size w w' := by
  have heq := fun (w : World) (a : Option Addr) (n c : Nat) => Lib.run_eql_slice_nil (P := Tryz.prog) w 33 3 a n c 0 0 Tryz.underlying33
  have hlen := decL_len M k F n2
  have HDC := hid (r8decode_c w a a2 n cap n2 cap2 M F k hn hn2 hm H H2 hV)
  have hn60 : n2 ≤ 60 := by have := (validB_ok hV).2.2.1; omega
  have HMF := hid (show missF M k F = missTo M k F n2 by unfold missF; rw [hn2])
  have HML := hid (fun t => missTo_le M k F t)
  have HMT := hid (show ∀ t, missTo M k F (t + 1) = missTo M k F t ++ (if decAt M k F (t + 1) = none then [(t : Int)] else []) from fun t => rfl)
  have HDG := hid (show ∀ t (h : t < (decL M k F n2).length), (decL M k F n2)[t] = decAt M k F (t + 1) from fun t h => decL_get M k F h)
  obtain ⟨D, hD⟩ : ∃ D, D = decL M k F n2 := ⟨_, rfl⟩
  rw [← hD] at HDC hlen HDG
  have HLN := hid hlen
  clear hn hm H hn2 H2 hV hlen hD
  go_enter Tryz.func44, Tryz.ntmps44
  go_wp2_with (go_at_call 42; refine HDC.out.mono ?_; rintro e w2 ⟨v2, rfl, ho2, hb2⟩; refine Stop.of ?_)
  refine Stop.go ?_
  obtain ⟨va, vc, rfl, _, hdo⟩ := ho2.reads
  rw [HLN.out]
  have HDO := hid hdo
  have HB2 := hid hb2
  clear ho2 hdo hb2
  go_wp2
  go_loopw [7, 15] (fun v i wr => ∃ t : Nat, t ≤ n2 ∧ i = .int .i64 t ∧ wr.ownsRow w2.heap.size 3 1 v (missTo M k F t).length ((missTo M k F t).map (Value.int .i64)) ∧ Below w2.heap.size w2 wr) (fun _ i _ => n2 - (intOf i).toNat)
  case atStart => exact ⟨0, Nat.zero_le _, rfl, World.ownsRow_nil _ _ _ _, Below.refl _ _⟩
  case round =>
    obtain ⟨t, ht, rfl, ho, hbk⟩ := hrel
    by_cases hlt : t < n2
    · have htD : t < D.length := by rw [HLN.out]; exact hlt
      obtain ⟨b, off, xa, xn, xc, rfl, hbs, hc, _, _, _, hnn⟩ := (HDO.out.below hbk) t htD
      rw [HDG.out t htD] at hnn
      have hti : (t : Int) < (n2 : Int) := by omega
      have hti0 : (0 : Int) ≤ (t : Int) := by omega
      have htk := HMT.out t
      have hml := HML.out t
      cases xa with
      | none =>
        rw [if_pos (hnn.1 rfl)] at htk
        obtain ⟨L, hL⟩ : ∃ L, L = missTo M k F t := ⟨_, rfl⟩
        rw [← hL] at htk ho hml
        obtain ⟨la, lc, rfl⟩ := ownsRow_slice ho
        obtain ⟨ln, hln⟩ : ∃ ln, ln = L.length := ⟨_, rfl⟩
        rw [← hln] at ho hml ⊢
        have HLL := hid hln
        have HTK := hid htk
        have HO := hid ho
        have M1 := hid (show ln + 1 ≤ maxLen by unfold maxLen; omega)
        have M2 := hid (show (ln + 1) * 8 ≤ 140737488355328 by omega)
        have HBK := hid hbk
        have M3 := hid (Nat.le_trans hbk.size (le_alloc wr (.cells #[.int .i64 (t : Int)] 3)))
        clear hnn htk ho hbk hL hln hml
        go_wp2_with (at_builtin; refine Stop.of ?_)
        refine Stop.go ?_
        (refine wpList_app _ rfl (.tmp 22) (.tmp 24) 33 rfl w2.heap.size 3 (.int .i64 0) 1 8 Tryz.underlying33 li_int rfl Nat.one_pos (.slice la ln lc) ln _ rfl (HO.out.alloc _) (some ⟨wr.heap.size, 0, none⟩) 1 1 [.int .i64 (t : Int)] rfl rfl no_none (one_news wr _ _) (li_one _) M1.out M2.out M3.out ?_)
        intro a3 c3 w3 own3 g3
        have hB3 : Below w2.heap.size w2 w3 := (HBK.out.alloc HBK.out.size _).grown g3 M3.out (fun k hk => (HO.out.lt k hk).1)
        have HB3 := hid hB3
        have HO3 := hid own3
        clear hB3 own3 g3
        go_wp2
        refine ⟨⟨t + 1, by omega, by go_num, ?_, HB3.out⟩, by simp [intOf]; omega⟩
        rw [HTK.out, List.length_append, List.map_append, ← HLL.out]
        exact HO3.out
      | some xv =>
        rw [if_neg (fun h => by have := hnn.2 h; cases this), List.append_nil] at htk
        have HTK := hid htk
        have HO := hid ho
        have HBK := hid hbk
        clear hnn htk ho hbk hml
        go_wp2
        refine ⟨⟨t + 1, by omega, by go_num, ?_, HBK.out⟩, by simp [intOf]; omega⟩
        rw [HTK.out]
        exact HO.out
    · obtain rfl : n2 = t := by omega
      go_wp2
      go_ret
      refine ⟨_, w2.heap.size, rfl, HB2.out.size, ?_, chain HB2.out hbk⟩
      rw [HMF.out]
      exact ho

theorem r8Missing_c (w : World) (a a2 : Option Addr) (n cap n2 cap2 : Nat) (M : Mask) (F : List Frm) (k : Int) (hn : M.length = n) (hm : n ≤ maxLen) (H : RowsAt w a M) (hn2 : F.length = n2) (hm2 : n2 ≤ maxLen) (H2 : FramesAt w a2 F) :
    Calls Tryz.prog 19 #[.slice a n cap, .slice a2 n2 cap2, .int .i64 k] w fun e w' => ∃ va vc, e = .returned (.tuple #[.slice va (missL M F k).length vc, .int .i64 (askE M F k)]) ∧ IntsAt w' va (missL M F k) ∧ Below w.heap.size w w' := by
  have HA := hid (r8asked_c w a a2 n cap n2 cap2 M F k hn hm H hn2 hm2 H2)
  by_cases h0 : askE M F k = 0
  · have hL : missL M F k = missF M k F := by unfold missL; rw [if_pos h0]
    have hV := (askE_ok h0).1
    have HMS := hid (fun (X : World) (hX : Below w.heap.size w X) => r8missing_c X a a2 n cap n2 cap2 M F k hn hn2 hm (H.below hX) (H2.below hX) hV)
    rw [h0] at HA
    rw [hL, h0]
    obtain ⟨L, hLL⟩ : ∃ L, L = missF M k F := ⟨_, rfl⟩
    rw [← hLL] at HMS ⊢
    clear hn H hn2 H2 h0 hL hV hLL
    go_enter Tryz.func19, Tryz.ntmps19
    go_wp2_with first
      | (go_at_call 41; refine HA.out.mono ?_; rintro e w1 ⟨rfl, hb1⟩)
      | (go_at_call 44; refine (HMS.out _ hb1).mono ?_; rintro e w2 ⟨v, base, rfl, _, ho, hb2⟩; refine Stop.of ?_)
    refine Stop.go ?_
    obtain ⟨va, vc, rfl, hi, _⟩ := ints_of_own ho rfl
    have HI := hid hi
    have HB := hid (chain hb1 hb2)
    clear ho hi hb1 hb2
    go_wp2
    go_ret2
    exact ⟨va, vc, rfl, HI.out, HB.out⟩
  · have hL : missL M F k = [] := by unfold missL; rw [if_neg h0]
    rw [hL]
    obtain ⟨E, hE⟩ : ∃ E, E = askE M F k := ⟨_, rfl⟩
    rw [← hE] at HA h0 ⊢
    have hne : (E != 0) = true := by simpa using h0
    clear hn H hn2 H2 hL h0 hE
    go_enter Tryz.func19, Tryz.ntmps19
    go_wp2_with (go_at_call 41; refine HA.out.mono ?_; rintro e w1 ⟨rfl, hb1⟩)
    go_ret2
    exact ⟨none, 0, rfl, fun j hj => by simp at hj, hb1⟩
end Go.Proofs.YtkmjeegnijohmaaGreat

/- Walk: First of the reference. -/
import Derived.Test.YthaampmdponhbaaGreatDoorFltAN
namespace Go.Proofs.YthaampmdponhbaaGreatDoor
open Go.RowKit
set_option linter.unusedVariables false

set_option maxHeartbeats 1000000 in
theorem refFirst_c (w : World) (a : Option Addr) (n cap : Nat) (M : Mask) (hn : M.length = n) (hm : n ≤ maxLen) (H : RowsAt w a M) (a3 : Option Addr) (n3 cap3 : Nat) (t : List Tst) (hn3 : t.length = n3) (hm3 : n3 ≤ maxLen) (H3 : TestsAt w a3 t) :
    Calls Tryz.prog 14 #[.slice a n cap, .slice a3 n3 cap3] w fun e w' => e = .returned (.tuple #[(firstF M t).val, .int .i64 (firstE M t)]) ∧ Below w.heap.size w w' := by
  obtain ⟨w0, hw0⟩ : ∃ w0, w0 = w.alloc (.cells #[.int .i64 0, .int .i64 0, .int .i64 0] 25) := ⟨_, rfl⟩
  have hb0 : Below w.heap.size w w0 := by rw [hw0]; exact (Below.refl _ _).alloc (Nat.le_refl _) _
  have HT := hid (refValidTests_c w0 a n cap M hn hm (H.below hb0) a3 n3 cap3 t hn3 hm3 (H3.below hb0))
  have HWq := hid (fun (h : okTests M t = true) (W : World) (hb : Below w0.heap.size w0 W) => refWhich_c W a n cap M hn (H.below (chain hb0 hb)) (okTests_ok h).1 a3 n3 cap3 t hn3 hm3 (H3.below (chain hb0 hb)) (okTests_ok h).2.2)
  have HFC := hid (show FC w0 w.heap.size 0 0 0 by rw [hw0]; exact FC.new _ _ _ _ _)
  have HFZ := hid (show ∀ W, Below w0.heap.size w0 W → ∀ i, W.frozen? ⟨w.heap.size, i, none⟩ = false from fun W hb i => by
    rw [hb.frozen (p := ⟨w.heap.size, i, none⟩) (by rw [hw0]; simp)]
    rw [hw0]
    exact frozen_of_cells (World.alloc_heap_new w _) i)
  have HSZ := hid (show w0.heap.size = w.heap.size + 1 by rw [hw0]; simp)
  have HB0 := hid hb0
  have HW0 := hid hw0
  have H240 := hid (@whichF_240 M t)
  have HOK := hid (@okTests_ok M t)
  clear hn H hn3 H3 hb0 hw0
  cases h2 : okTests M t
  · have HE := hid (show firstF M t = ⟨0, 0, 0⟩ ∧ firstE M t = 1 ∧ whichE M t = 1 by unfold firstF firstE whichE; rw [h2]; simp)
    rw [h2] at HT
    clear h2 HWq
    go_enter Tryz.func14, Tryz.ntmps14
    go_wp2_with fail
    rw [← HW0.out]
    go_wp2_with (go_at_call 35; refine HT.out.mono ?_; rintro e w1 ⟨rfl, hb1⟩; refine Stop.of ?_)
    refine Stop.go ?_
    obtain ⟨f0, f1, f2⟩ := HFC.out.below (by rw [HSZ.out]; omega) hb1
    have z0 := HFZ.out w1 hb1 0
    have z1 := HFZ.out w1 hb1 1
    have z2 := HFZ.out w1 hb1 2
    have hz : w.heap.size < w1.heap.size := by have := hb1.size; have := HSZ.out; omega
    go_wp2
    refine bodyPost_ret (v := .tuple #[.agg #[.int .i64 0, .int .i64 0, .int .i64 0], .int .i64 1]) ?_ rfl ⟨by rw [HE.out.1, HE.out.2.1]; rfl, ?_⟩
    · simp [results, Tryz.results14, go_sem, f0, f1, f2, hz]
    · exact below_set (below_set (below_set (chain HB0.out hb1) (Nat.le_refl _) _ _) (Nat.le_refl _) _ _) (Nat.le_refl _) _ _
  · have HW := hid (HWq.out h2)
    rw [h2] at HT
    have h240 := H240.out (HOK.out h2).1
    obtain ⟨W9, hW9⟩ : ∃ l, l = whichF M t := ⟨_, rfl⟩
    rw [← hW9] at HW h240
    have HFE := hid (show firstF M t = W9[0]?.getD ⟨0, 0, 0⟩ ∧ firstE M t = (if W9.length = 0 then 8 else 0) by unfold firstF firstE; rw [h2, hW9]; simp)
    clear h2 hW9 HWq
    go_enter Tryz.func14, Tryz.ntmps14
    go_wp2_with fail
    rw [← HW0.out]
    go_wp2_with (first | (go_at_call 35; refine HT.out.mono ?_; rintro e w2 ⟨rfl, hb2⟩) | (go_at_call 38; refine (HW.out _ hb2).mono ?_; rintro e w1 ⟨v1, base1, rfl, hbase1, hF1, hb21⟩; refine Stop.of ?_))
    have hb1 := chain hb2 hb21
    refine Stop.go ?_
    obtain ⟨f0, f1, f2⟩ := HFC.out.below (by rw [HSZ.out]; omega) hb1
    have z0 := HFZ.out w1 hb1 0
    have z1 := HFZ.out w1 hb1 1
    have z2 := HFZ.out w1 hb1 2
    have hz : w.heap.size < w1.heap.size := by have := hb1.size; have := HSZ.out; omega
    obtain ⟨la, lc, rfl, hlm, hFA⟩ := hF1.reads
    obtain ⟨q, hq⟩ : ∃ q, q = W9.length := ⟨_, rfl⟩
    rw [← hq] at hlm h240 ⊢
    have HQ := hid hq
    have HFA := hid hFA
    unfold maxLen at hlm
    clear hF1 hFA hbase1 hq
    by_cases h0 : q = 0
    · have HE := hid (show firstF M t = ⟨0, 0, 0⟩ ∧ firstE M t = 8 by
        rw [HFE.out.1, HFE.out.2]
        have e : W9 = [] := List.eq_nil_of_length_eq_zero (by rw [← HQ.out]; exact h0)
        rw [e]; exact ⟨rfl, rfl⟩)
      subst h0
      go_wp2
      refine bodyPost_ret (v := .tuple #[.agg #[.int .i64 0, .int .i64 0, .int .i64 0], .int .i64 8]) ?_ rfl ⟨by rw [HE.out.1, HE.out.2]; rfl, ?_⟩
      · simp [results, Tryz.results14, go_sem, f0, f1, f2, hz]
      · exact below_set (below_set (below_set (chain HB0.out hb1) (Nat.le_refl _) _ _) (Nat.le_refl _) _ _) (Nat.le_refl _) _ _
    · have hq1 : 0 < q := by omega
      have hW0 : 0 < W9.length := by rw [← HQ.out]; exact hq1
      obtain ⟨b, off, rfl, hbs, g0, g1, g2⟩ := HFA.out 0 hW0
      simp only [Nat.zero_mul, Nat.add_zero] at g0 g1 g2
      have hnq : ((q : Int) == 0) = false := by simp; omega
      obtain ⟨x, hx⟩ : ∃ x, x = W9[0]'hW0 := ⟨_, rfl⟩
      rw [← hx] at g0 g1 g2
      have HE := hid (show firstF M t = x ∧ firstE M t = 0 by
        rw [HFE.out.1, HFE.out.2, List.getElem?_eq_getElem hW0, if_neg (by omega), hx]; exact ⟨rfl, rfl⟩)
      clear hx h0
      obtain ⟨xk, xr, xp⟩ := x
      simp only [] at g0 g1 g2
      go_wp2
      refine bodyPost_ret (v := .tuple #[.agg #[.int .i64 xk, .int .i64 xr, .int .i64 xp], .int .i64 0]) ?_ rfl ⟨by rw [HE.out.1, HE.out.2]; rfl, ?_⟩
      · simp [results, Tryz.results14, go_sem, f0, f1, f2, hz]
      · exact below_set (below_set (below_set (chain HB0.out hb1) (Nat.le_refl _) _ _) (Nat.le_refl _) _ _) (Nat.le_refl _) _ _

end Go.Proofs.YthaampmdponhbaaGreatDoor

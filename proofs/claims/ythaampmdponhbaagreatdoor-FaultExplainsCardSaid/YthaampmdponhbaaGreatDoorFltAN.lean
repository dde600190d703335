/- Walks: Explains and Which of the reference; First of both; the law's has. -/
import Derived.Test.YthaampmdponhbaaGreatDoorFltAL
namespace Go.Proofs.YthaampmdponhbaaGreatDoor
open Go.RowKit
set_option linter.unusedVariables false

set_option maxHeartbeats 1000000 in
theorem refExplains2_c (w : World) (a : Option Addr) (n cap : Nat) (M : Mask) (hn : M.length = n) (hm : n ≤ maxLen) (H : RowsAt w a M) (f : Flt) (a3 : Option Addr) (n3 cap3 : Nat) (t : List Tst) (hn3 : t.length = n3) (hm3 : n3 ≤ maxLen) (H3 : TestsAt w a3 t) :
    Calls Tryz.prog 10 #[.slice a n cap, f.val, .slice a3 n3 cap3] w fun e w' => e = .returned (.tuple #[.bool (explB M f t), .int .i64 (explE M f t)]) ∧ Below w.heap.size w w' := by
  obtain ⟨wf, hwf, hb0, hcells⟩ := fltBox w f
  have HV := hid (refFValid_c wf a n cap M hn hm (H.below hb0) f)
  have HT := hid (fun (W : World) (hb : Below wf.heap.size wf W) => refValidTests_c W a n cap M hn hm (H.below (chain hb0 hb)) a3 n3 cap3 t hn3 hm3 (H3.below (chain hb0 hb)))
  have HX := hid (fun (h : validF M f = true) (h2 : okTests M t = true) (W : World) (hb : Below wf.heap.size wf W) => refExplains_c W a n cap M hn (H.below (chain hb0 hb)) (validF_ok h).1 f (validF_ok h).2 a3 n3 cap3 t hn3 hm3 (H3.below (chain hb0 hb)) (okTests_ok h2).2.2)
  have HC := hid hcells
  have HB0 := hid hb0
  obtain ⟨_, f0, f1, f2⟩ := hcells wf (Below.refl _ _)
  have HWF := hid hwf
  clear hn H hcells hb0 hwf hn3 H3
  cases h1 : validF M f
  · have HE := hid (show explE M f t = 1 ∧ explB M f t = false by unfold explB explE; rw [h1]; simp)
    rw [h1] at HV
    clear h1 HX
    obtain ⟨kind, row, pixel⟩ := f
    simp only [Flt.val] at HV HWF f0 f1 f2 ⊢
    have hw := HWF.out
    clear HWF
    subst hw
    go_enter Tryz.func10, Tryz.ntmps10
    go_wp2_with (go_at_call 34; refine HV.out.mono ?_; rintro e w1 ⟨rfl, hb1⟩)
    go_ret2
    exact ⟨by rw [HE.out.1, HE.out.2]; rfl, chain HB0.out hb1⟩
  cases h2 : okTests M t
  · have HE := hid (show explE M f t = 1 ∧ explB M f t = false by unfold explB explE; rw [h1, h2]; simp)
    rw [h1] at HV
    rw [h2] at HT
    clear h1 h2 HX
    obtain ⟨kind, row, pixel⟩ := f
    simp only [Flt.val] at HV HWF f0 f1 f2 ⊢
    have hw := HWF.out
    clear HWF
    subst hw
    go_enter Tryz.func10, Tryz.ntmps10
    go_wp2_with (first | (go_at_call 34; refine HV.out.mono ?_; rintro e w1 ⟨rfl, hb1⟩) | (go_at_call 35; refine (HT.out _ hb1).mono ?_; rintro e w2 ⟨rfl, hb2⟩))
    go_ret2
    exact ⟨by rw [HE.out.1, HE.out.2]; rfl, chain HB0.out (chain hb1 hb2)⟩
  have HE := hid (show explE M f t = 0 ∧ explB M f t = explainsF M f t by unfold explB explE; rw [h1, h2]; simp)
  have HX1 := hid (HX.out h1 h2)
  rw [h1] at HV
  rw [h2] at HT
  clear h1 h2 HX
  obtain ⟨D, hD⟩ : ∃ D, D = explainsF M f t := ⟨_, rfl⟩
  rw [← hD] at HX1 HE
  clear hD
  obtain ⟨kind, row, pixel⟩ := f
  simp only [Flt.val] at HV HWF HX1 HC f0 f1 f2 ⊢
  have hw := HWF.out
  clear HWF
  subst hw
  go_enter Tryz.func10, Tryz.ntmps10
  go_wp2_with (first | (go_at_call 34; refine HV.out.mono ?_; rintro e w1 ⟨rfl, hb1⟩) | (go_at_call 35; refine (HT.out _ hb1).mono ?_; rintro e w2 ⟨rfl, hb2⟩; refine Stop.of ?_))
  refine Stop.go ?_
  have hb12 := chain hb1 hb2
  obtain ⟨_, f0, f1, f2⟩ := HC.out w2 hb12
  go_wp2_with (go_at_call 36; refine (HX1.out _ hb12).mono ?_; rintro e w3 ⟨rfl, hb3⟩)
  go_ret2
  exact ⟨by rw [HE.out.1, HE.out.2]; rfl, chain HB0.out (chain hb12 hb3)⟩

theorem refWhich2_c (w : World) (a : Option Addr) (n cap : Nat) (M : Mask) (hn : M.length = n) (hm : n ≤ maxLen) (H : RowsAt w a M) (a3 : Option Addr) (n3 cap3 : Nat) (t : List Tst) (hn3 : t.length = n3) (hm3 : n3 ≤ maxLen) (H3 : TestsAt w a3 t) :
    Calls Tryz.prog 12 #[.slice a n cap, .slice a3 n3 cap3] w fun e w' => ∃ v base, e = .returned (.tuple #[v, .int .i64 (whichE M t)]) ∧ w.heap.size ≤ base ∧ FltsO w' base v (whichL M t) ∧ Below w.heap.size w w' := by
  have HT := hid (refValidTests_c w a n cap M hn hm H a3 n3 cap3 t hn3 hm3 H3)
  have HX := hid (fun (h : okTests M t = true) (W : World) (hb : Below w.heap.size w W) => refWhich_c W a n cap M hn (H.below hb) (okTests_ok h).1 a3 n3 cap3 t hn3 hm3 (H3.below hb) (okTests_ok h).2.2)
  clear hn H hn3 H3
  cases h2 : okTests M t
  · have HE := hid (show whichE M t = 1 ∧ whichL M t = [] by unfold whichE whichL; rw [h2]; simp)
    rw [h2] at HT
    clear h2 HX
    go_enter Tryz.func12, Tryz.ntmps12
    go_wp2_with (go_at_call 35; refine HT.out.mono ?_; rintro e w2 ⟨rfl, hb2⟩)
    go_ret2
    refine ⟨.slice none 0 0, w2.heap.size, by rw [HE.out.1]; rfl, hb2.size, ?_, hb2⟩
    rw [HE.out.2]
    exact FltsO.nil _ _
  · have HE := hid (show whichE M t = 0 ∧ whichL M t = whichF M t by unfold whichE whichL; rw [h2]; simp)
    rw [h2] at HT
    have HX1 := hid (HX.out h2)
    clear h2 HX
    go_enter Tryz.func12, Tryz.ntmps12
    go_wp2_with (first | (go_at_call 35; refine HT.out.mono ?_; rintro e w2 ⟨rfl, hb2⟩) | (go_at_call 38; refine (HX1.out _ hb2).mono ?_; rintro e w3 ⟨v, base, rfl, hbase, hF, hb3⟩))
    go_ret2
    refine ⟨v, base, by rw [HE.out.1]; rfl, Nat.le_trans hb2.size hbase, ?_, chain hb2 hb3⟩
    rw [HE.out.2]
    exact hF

/-- the first fault that explains tests -/
def firstF (M : Mask) (t : List Tst) : Flt := if okTests M t = true then (whichF M t)[0]?.getD ⟨0, 0, 0⟩ else ⟨0, 0, 0⟩
def firstE (M : Mask) (t : List Tst) : Int := if okTests M t = true then (if (whichF M t).length = 0 then 8 else 0) else 1

theorem whichF_240 {M : Mask} {t : List Tst} (h : okM M = true) : (whichF M t).length ≤ 240 := Nat.le_trans (List.length_filter_le _ _) (all_240 h)

set_option maxHeartbeats 1000000 in
theorem First_c (w : World) (a : Option Addr) (n cap : Nat) (M : Mask) (hn : M.length = n) (hm : n ≤ maxLen) (H : RowsAt w a M) (a3 : Option Addr) (n3 cap3 : Nat) (t : List Tst) (hn3 : t.length = n3) (hm3 : n3 ≤ maxLen) (H3 : TestsAt w a3 t) :
    Calls Tryz.prog 13 #[.slice a n cap, .slice a3 n3 cap3] w fun e w' => e = .returned (.tuple #[(firstF M t).val, .int .i64 (firstE M t)]) ∧ Below w.heap.size w w' := by
  obtain ⟨w0, hw0⟩ : ∃ w0, w0 = w.alloc (.cells #[.int .i64 0, .int .i64 0, .int .i64 0] 25) := ⟨_, rfl⟩
  have hb0 : Below w.heap.size w w0 := by rw [hw0]; exact (Below.refl _ _).alloc (Nat.le_refl _) _
  have HW := hid (Which_c w0 a n cap M hn hm (H.below hb0) a3 n3 cap3 t hn3 hm3 (H3.below hb0))
  have HFC := hid (show FC w0 w.heap.size 0 0 0 by rw [hw0]; exact FC.new _ _ _ _ _)
  have HFZ := hid (show ∀ W, Below w0.heap.size w0 W → ∀ i, W.frozen? ⟨w.heap.size, i, none⟩ = false from fun W hb i => by
    rw [hb.frozen (p := ⟨w.heap.size, i, none⟩) (by rw [hw0]; simp)]
    rw [hw0]
    exact frozen_of_cells (World.alloc_heap_new w _) i)
  have HSZ := hid (show w0.heap.size = w.heap.size + 1 by rw [hw0]; simp)
  have HB0 := hid hb0
  have HW0 := hid hw0
  have H240 := hid (@whichF_240 M t)
  have HOK := hid (@okTests_ok M t)
  clear hn H hn3 H3 hb0 hw0
  cases h2 : okTests M t
  · have HE := hid (show firstF M t = ⟨0, 0, 0⟩ ∧ firstE M t = 1 ∧ whichE M t = 1 by unfold firstF firstE whichE; rw [h2]; simp)
    rw [HE.out.2.2] at HW
    clear h2
    go_enter Tryz.func13, Tryz.ntmps13
    go_wp2_with fail
    rw [← HW0.out]
    go_wp2_with (go_at_call 11; refine HW.out.mono ?_; rintro e w1 ⟨v1, base1, rfl, hbase1, hF1, hb1⟩; refine Stop.of ?_)
    refine Stop.go ?_
    obtain ⟨f0, f1, f2⟩ := HFC.out.below (by rw [HSZ.out]; omega) hb1
    have z0 := HFZ.out w1 hb1 0
    have z1 := HFZ.out w1 hb1 1
    have z2 := HFZ.out w1 hb1 2
    have hz : w.heap.size < w1.heap.size := by have := hb1.size; have := HSZ.out; omega
    go_wp2
    refine bodyPost_ret (v := .tuple #[.agg #[.int .i64 0, .int .i64 0, .int .i64 0], .int .i64 1]) ?_ rfl ⟨by rw [HE.out.1, HE.out.2.1]; rfl, ?_⟩
    · simp [results, Tryz.results13, go_sem, f0, f1, f2, hz]
    · exact below_set (below_set (below_set (chain HB0.out hb1) (Nat.le_refl _) _ _) (Nat.le_refl _) _ _) (Nat.le_refl _) _ _
  · have HW1 := hid (show whichE M t = 0 ∧ whichL M t = whichF M t by unfold whichE whichL; rw [h2]; simp)
    rw [HW1.out.1, HW1.out.2] at HW
    have h240 := H240.out (HOK.out h2).1
    obtain ⟨W9, hW9⟩ : ∃ l, l = whichF M t := ⟨_, rfl⟩
    rw [← hW9] at HW h240
    have HFE := hid (show firstF M t = W9[0]?.getD ⟨0, 0, 0⟩ ∧ firstE M t = (if W9.length = 0 then 8 else 0) by unfold firstF firstE; rw [h2, hW9]; simp)
    clear h2 hW9
    go_enter Tryz.func13, Tryz.ntmps13
    go_wp2_with fail
    rw [← HW0.out]
    go_wp2_with (go_at_call 11; refine HW.out.mono ?_; rintro e w1 ⟨v1, base1, rfl, hbase1, hF1, hb1⟩; refine Stop.of ?_)
    refine Stop.go ?_
    obtain ⟨f0, f1, f2⟩ := HFC.out.below (by rw [HSZ.out]; omega) hb1
    have z0 := HFZ.out w1 hb1 0
    have z1 := HFZ.out w1 hb1 1
    have z2 := HFZ.out w1 hb1 2
    have hz : w.heap.size < w1.heap.size := by have := hb1.size; have := HSZ.out; omega
    obtain ⟨la, lc, rfl, hlm, hFA⟩ := hF1.reads
    obtain ⟨q, hq⟩ : ∃ q, q = W9.length := ⟨_, rfl⟩
    rw [← hq] at hlm h240 ⊢
    have HQ := hid hq
    have HFA := hid hFA
    unfold maxLen at hlm
    clear hF1 hFA hbase1 hq
    by_cases h0 : q = 0
    · have HE := hid (show firstF M t = ⟨0, 0, 0⟩ ∧ firstE M t = 8 by
        rw [HFE.out.1, HFE.out.2]
        have e : W9 = [] := List.eq_nil_of_length_eq_zero (by rw [← HQ.out]; exact h0)
        rw [e]; exact ⟨rfl, rfl⟩)
      subst h0
      go_wp2
      refine bodyPost_ret (v := .tuple #[.agg #[.int .i64 0, .int .i64 0, .int .i64 0], .int .i64 8]) ?_ rfl ⟨by rw [HE.out.1, HE.out.2]; rfl, ?_⟩
      · simp [results, Tryz.results13, go_sem, f0, f1, f2, hz]
      · exact below_set (below_set (below_set (chain HB0.out hb1) (Nat.le_refl _) _ _) (Nat.le_refl _) _ _) (Nat.le_refl _) _ _
    · have hq1 : 0 < q := by omega
      have hW0 : 0 < W9.length := by rw [← HQ.out]; exact hq1
      obtain ⟨b, off, rfl, hbs, g0, g1, g2⟩ := HFA.out 0 hW0
      simp only [Nat.zero_mul, Nat.add_zero] at g0 g1 g2
      have hnq : ((q : Int) == 0) = false := by simp; omega
      obtain ⟨x, hx⟩ : ∃ x, x = W9[0]'hW0 := ⟨_, rfl⟩
      rw [← hx] at g0 g1 g2
      have HE := hid (show firstF M t = x ∧ firstE M t = 0 by
        rw [HFE.out.1, HFE.out.2, List.getElem?_eq_getElem hW0, if_neg (by omega), hx]; exact ⟨rfl, rfl⟩)
      clear hx h0
      obtain ⟨xk, xr, xp⟩ := x
      simp only [] at g0 g1 g2
      go_wp2
      refine bodyPost_ret (v := .tuple #[.agg #[.int .i64 xk, .int .i64 xr, .int .i64 xp], .int .i64 0]) ?_ rfl ⟨by rw [HE.out.1, HE.out.2]; rfl, ?_⟩
      · simp [results, Tryz.results13, go_sem, f0, f1, f2, hz]
      · exact below_set (below_set (below_set (chain HB0.out hb1) (Nat.le_refl _) _ _) (Nat.le_refl _) _ _) (Nat.le_refl _) _ _

theorem flt_split {x y : Flt} (h : x ≠ y) : ((x.kind == y.kind) = false) ∨ (x.kind = y.kind ∧ (x.row == y.row) = false) ∨ (x.kind = y.kind ∧ x.row = y.row ∧ (x.pixel == y.pixel) = false) := by
  obtain ⟨x1, x2, x3⟩ := x
  obtain ⟨y1, y2, y3⟩ := y
  simp only []
  by_cases e1 : x1 = y1
  · by_cases e2 : x2 = y2
    · by_cases e3 : x3 = y3
      · exact absurd (by rw [e1, e2, e3]) h
      · exact .inr (.inr ⟨e1, e2, by simpa using e3⟩)
    · exact .inr (.inl ⟨e1, by simpa using e2⟩)
  · exact .inl (by simpa using e1)

set_option maxHeartbeats 1000000 in
theorem has_c (w : World) (a : Option Addr) (n cap : Nat) (l : List Flt) (hn : l.length = n) (hm : n ≤ maxLen) (H : FltsAt w a l) (f : Flt) :
    Calls Tryz.prog 16 #[.slice a n cap, f.val] w fun e w' => e = .returned (.bool (l.any (fun x => decide (x = f)))) ∧ Below w.heap.size w w' := by
  obtain ⟨wf, hwf, hb0, hcells⟩ := fltBox w f
  have HN := hid hn
  have HH := hid (H.below hb0)
  have HC := hid (fun (W : World) (hb : Below wf.heap.size wf W) => (hcells W hb).2)
  have HS := hid (show wf.heap.size = w.heap.size + 1 by rw [hwf]; simp)
  have HB0 := hid hb0
  have HWF := hid hwf
  have HS1 := hid (fun (k : Nat) (hk : k < l.length) (h : l[k] = f) => show l.any (fun x => decide (x = f)) = true from List.any_eq_true.2 ⟨l[k], List.getElem_mem hk, by simpa using h⟩)
  have HS2 := hid (fun (h : ∀ k (hk : k < l.length), l[k] ≠ f) => show l.any (fun x => decide (x = f)) = false from by
    rw [List.any_eq_false]
    intro x hx
    obtain ⟨k, hk, rfl⟩ := List.mem_iff_getElem.1 hx
    simpa using h k hk)
  obtain ⟨A, hA⟩ : ∃ A, A = l.any (fun x => decide (x = f)) := ⟨_, rfl⟩
  rw [← hA] at HS1 HS2 ⊢
  unfold maxLen at hm
  clear hn H hcells hb0 hwf hA
  obtain ⟨fk, fr, fp⟩ := f
  simp only [Flt.val] at HWF ⊢
  simp only [] at HC
  have hw := HWF.out
  go_enter Tryz.func16, Tryz.ntmps16
  go_wp2
  rw [← hw]
  clear hw
  go_loopw [9] (fun i wr => ∃ k : Nat, k ≤ n ∧ i = .int .i64 k ∧ Below wf.heap.size wf wr ∧ Hid (∀ j (hj : j < l.length), j < k → l[j] ≠ ⟨fk, fr, fp⟩)) (fun i _ => n - (intOf i).toNat)
  case atStart => exact ⟨0, Nat.zero_le _, rfl, Below.refl _ _, hid (fun j _ h => by omega)⟩
  case round =>
    obtain ⟨k, hk, rfl, hbk, hno⟩ := hrel
    by_cases hlt : k < n
    · have hkl : k < l.length := by rw [HN.out]; exact hlt
      obtain ⟨b, off, rfl, hbs, h0, h1, h2⟩ := (HH.out.below hbk) k hkl
      obtain ⟨f0, f1, f2⟩ := HC.out wr hbk
      have hsz : w.heap.size < wr.heap.size := by have := hbk.size; have := HS.out; omega
      have HBK := hid (hbk.alloc hbk.size (.cells #[.int .i64 (l[k]'hkl).kind, .int .i64 (l[k]'hkl).row, .int .i64 (l[k]'hkl).pixel] 25))
      obtain ⟨x, hx⟩ : ∃ x, x = l[k]'hkl := ⟨_, rfl⟩
      rw [← hx] at h0 h1 h2 HBK
      have HX := hid hx
      have HKL := hid hkl
      by_cases he : x = ⟨fk, fr, fp⟩
      · subst he
        simp only [] at h0 h1 h2 HBK
        clear hx hbk
        go_wp2
        go_ret
        exact ⟨ret_bool (by rw [HS1.out k HKL.out HX.out.symm]), chain HB0.out HBK.out⟩
      · have hsp := flt_split he
        have HNE := hid he
        clear he hx hbk
        obtain ⟨xk, xr, xp⟩ := x
        simp only [] at h0 h1 h2 HBK hsp
        have HNO := hid (show ∀ j (hj : j < l.length), j < k + 1 → l[j] ≠ ⟨fk, fr, fp⟩ from fun j hj hjk => by
          rcases Nat.lt_or_ge j k with h | h
          · exact hno.out j hj h
          · obtain rfl : j = k := by omega
            have := HX.out
            rw [← this]; exact HNE.out)
        rcases hsp with h | ⟨rfl, h⟩ | ⟨rfl, rfl, h⟩
        all_goals
          go_wp2
          exact ⟨⟨k + 1, by omega, by go_num, HBK.out, hid HNO.out⟩, by simp [intOf]; omega⟩
    · obtain rfl : k = n := by omega
      go_wp2
      go_ret
      exact ⟨ret_bool (by rw [HS2.out (fun j hj => hno.out j hj (by rw [← HN.out]; exact hj))]), chain HB0.out hbk⟩
end Go.Proofs.YthaampmdponhbaaGreatDoor

/- The statement FaultExplains: the walk of the law. -/
import Derived.Test.YthaampmdponhbaaGreatDoorFltAO
import Derived.Test.YthaampmdponhbaaGreatDoorFltAM
import Derived.Test.YthaampmdponhbaaGreatDoorLift
namespace Go.Proofs.YthaampmdponhbaaGreatDoor
open Go.RowKit
set_option linter.unusedVariables false

theorem sameFaults_t (W : World) (a a2 : Option Addr) (n cap cap2 : Nat) (l : List Flt) (hn : l.length = n) (hm : n ≤ maxLen) (H : FltsAt W a l) (H2 : FltsAt W a2 l) :
    Calls Tryz.prog 15 #[.slice a n cap, .slice a2 n cap2] W fun e w' => e = .returned (.bool true) ∧ Below W.heap.size W w' :=
  (sameFaults_c W a a2 n cap n cap2 l l hn hn hm hm H H2).mono fun e w' ⟨h1, k, h2⟩ => ⟨by rw [h1]; simp, by rw [h2]; exact below_drewN (Below.refl _ _) _⟩

/-- a further test leaves no more faults -/
theorem which_more {M : Mask} {t : List Tst} {x : Tst} : ∀ y ∈ whichF M (t ++ [x]), (whichF M t).any (fun z => decide (z = y)) = true := by
  intro y hy
  unfold whichF at hy ⊢
  obtain ⟨h1, h2⟩ := List.mem_filter.1 hy
  rw [List.any_eq_true]
  refine ⟨y, List.mem_filter.2 ⟨h1, ?_⟩, by simp⟩
  unfold explainsF at h2 ⊢
  rw [List.all_append] at h2
  simp only [Bool.and_eq_true] at h2
  exact h2.1

theorem which_more' {M : Mask} {t : List Tst} {x : Tst} (h1 : whichE M t = 0) (h2 : whichE M (t ++ [x]) = 0) : ∀ y ∈ whichL M (t ++ [x]), (whichL M t).any (fun z => decide (z = y)) = true := by
  have e1 : whichL M t = whichF M t := by
    unfold whichE at h1; unfold whichL
    by_cases h : okTests M t = true
    · rw [if_pos h]
    · rw [if_neg h] at h1; simp at h1
  have e2 : whichL M (t ++ [x]) = whichF M (t ++ [x]) := by
    unfold whichE at h2; unfold whichL
    by_cases h : okTests M (t ++ [x]) = true
    · rw [if_pos h]
    · rw [if_neg h] at h2; simp at h2
  rw [e1, e2]; exact which_more

theorem news2 (w : World) (x0 x1 : Value) (T : TypeId) : ∀ ad, (some ⟨w.heap.size, 0, none⟩ : Option Addr) = some ad → ∀ j u, [x0, x1][j]? = some u → (w.alloc (.cells #[x0, x1] T)).cell? (ad.add j) = some u := by
  intro ad e j u hu
  cases e
  match j, hu with
  | 0, hu => rw [Addr.add_lit, World.cell?_alloc_at _ _ _ _ rfl]; simpa using hu
  | 1, hu => rw [Addr.add_lit, World.cell?_alloc_at _ _ _ _ rfl]; simpa using hu

theorem grown_cell {w w' : World} {r : Option Nat} {b o : Nat} {v : Value} (g : w.grownBy w' r) (h : w.cell? ⟨b, o, none⟩ = some v) (hne : some b ≠ r) : w'.cell? ⟨b, o, none⟩ = some v := by
  have hb := g.block b (cell_inT h) hne
  unfold World.cell? at h ⊢
  simp only [hb]
  exact h

theorem boxes2 (w : World) (f : Flt) (sa ra : Option Addr) (sn sc rn rc : Nat) : ∃ wg, wg = (w.alloc (.cells #[.int .i64 f.kind, .int .i64 f.row, .int .i64 f.pixel] 25)).alloc (.cells #[.slice sa sn sc, .slice ra rn rc] 29) ∧ Below w.heap.size w wg ∧
    (∀ W, Below wg.heap.size wg W → (W.cell? ⟨w.heap.size, 0, none⟩ = some (.int .i64 f.kind) ∧ W.cell? ⟨w.heap.size, 1, none⟩ = some (.int .i64 f.row) ∧ W.cell? ⟨w.heap.size, 2, none⟩ = some (.int .i64 f.pixel)) ∧ W.cell? ⟨w.heap.size + 1, 0, none⟩ = some (.slice sa sn sc) ∧ W.cell? ⟨w.heap.size + 1, 1, none⟩ = some (.slice ra rn rc)) := by
  obtain ⟨wf, hwf, hb0, hc0⟩ := fltBox w f
  obtain ⟨wg, hwg, hb1, hc1⟩ := tstBox wf sa ra sn sc rn rc
  have hs : wf.heap.size = w.heap.size + 1 := by rw [hwf]; simp
  rw [hs] at hc1
  exact ⟨wg, by rw [hwg, hwf], chain hb0 hb1, fun W hb => ⟨(hc0 W (chain hb1 hb)).2, (hc1 W hb).2⟩⟩

set_option maxRecDepth 100000 in
set_option maxHeartbeats 8000000 in
theorem faultExplains_c (w : World) (ht : Tab w) (a : Option Addr) (n cap : Nat) (M : Mask) (hn : M.length = n) (hm : n ≤ maxLen) (H : RowsAt w a M) (f : Flt)
    (a3 : Option Addr) (n3 cap3 : Nat) (t : List Tst) (hn3 : t.length = n3) (hm3 : n3 ≤ maxLen) (H3 : TestsAt w a3 t) (v : Value) (x : Tst) (hv : TstV w v x) :
    Calls Tryz.prog 3 #[.slice a n cap, f.val, .slice a3 n3 cap3, v] w fun e w' => e = .returned (.bool true) ∧ Below w.heap.size w w' := by
  obtain ⟨sa, sn, sc, ra, rn, rc, rfl, hsn, hsm, hsi, hrn, hrm, hri⟩ := hv
  obtain ⟨wg, hwg, hb0, hcells⟩ := boxes2 w f sa ra sn sc rn rc
  have HFit := hid (fit_c wg a n cap M hn hm (H.below hb0))
  have HT := hid (tests_c wg a3 n3 cap3 t hn3 hm3 (H3.below hb0))
  have HAw := hid (fun (W : World) (hb : Below wg.heap.size wg W) => awake_c W (ht.below (chain hb0 hb)))
  have HE1 := hid (fun (W : World) (hb : Below wg.heap.size wg W) => Explains_c W a n cap M hn hm (H.below (chain hb0 hb)) f a3 n3 cap3 t hn3 hm3 (H3.below (chain hb0 hb)))
  have HE2 := hid (fun (W : World) (hb : Below wg.heap.size wg W) => refExplains2_c W a n cap M hn hm (H.below (chain hb0 hb)) f a3 n3 cap3 t hn3 hm3 (H3.below (chain hb0 hb)))
  have HW1 := hid (fun (W : World) (hb : Below wg.heap.size wg W) => Which_c W a n cap M hn hm (H.below (chain hb0 hb)) a3 n3 cap3 t hn3 hm3 (H3.below (chain hb0 hb)))
  have HW2 := hid (fun (W : World) (hb : Below wg.heap.size wg W) => refWhich2_c W a n cap M hn hm (H.below (chain hb0 hb)) a3 n3 cap3 t hn3 hm3 (H3.below (chain hb0 hb)))
  have HF1 := hid (fun (W : World) (hb : Below wg.heap.size wg W) => First_c W a n cap M hn hm (H.below (chain hb0 hb)) a3 n3 cap3 t hn3 hm3 (H3.below (chain hb0 hb)))
  have HF2 := hid (fun (W : World) (hb : Below wg.heap.size wg W) => refFirst_c W a n cap M hn hm (H.below (chain hb0 hb)) a3 n3 cap3 t hn3 hm3 (H3.below (chain hb0 hb)))
  have HW3 := hid (fun (W : World) (hb : Below wg.heap.size wg W) (a5 : Option Addr) (n5 c5 : Nat) (h5 : (t ++ [x]).length = n5) (hm5 : n5 ≤ maxLen) (H5 : TestsAt W a5 (t ++ [x])) => Which_c W a n cap M hn hm (H.below (chain hb0 hb)) a5 n5 c5 (t ++ [x]) h5 hm5 H5)
  have HTA := hid (H3.below hb0)
  have HTN := hid hn3
  have HX := hid (show TstV wg (.agg #[.slice sa sn sc, .slice ra rn rc]) x from TstV.below ⟨sa, sn, sc, ra, rn, rc, rfl, hsn, hsm, hsi, hrn, hrm, hri⟩ hb0)
  have HXN := hid (And.intro hsn (And.intro (hsi.below hb0) (And.intro hrn (hri.below hb0))))
  have HXM := hid (And.intro hsm hrm)
  have HC := hid hcells
  have HB := hid (fun (W : World) (hb : Below wg.heap.size wg W) => chain hb0 hb)
  have HWG := hid hwg
  unfold maxLen at hm hm3 hsm hrm
  obtain ⟨xs, hxs, hxc, hxn⟩ := heads_of_tests (H3.below hb0)
  have HXS := hid hxs
  clear hn H hn3 H3 hsn hsi hrn hri hcells hb0 hwg ht
  by_cases hfit : fitM M = true ∧ fitT t = true ∧ sn ≤ 20 ∧ rn ≤ 20
  · obtain ⟨h1, h2, h3, h4⟩ := hfit
    rw [h1] at HFit
    rw [h2] at HT
    have hn16 : n3 ≤ 16 := by unfold fitT at h2; simp at h2; have := HTN.out; omega
    clear h1 h2
    obtain ⟨EE, hEE⟩ : ∃ E, E = explE M f t := ⟨_, rfl⟩
    obtain ⟨EB, hEB⟩ : ∃ E, E = explB M f t := ⟨_, rfl⟩
    rw [← hEE, ← hEB] at HE1 HE2
    obtain ⟨WE, hWE⟩ : ∃ E, E = whichE M t := ⟨_, rfl⟩
    obtain ⟨WL, hWL⟩ : ∃ E, E = whichL M t := ⟨_, rfl⟩
    rw [← hWE, ← hWL] at HW1 HW2
    obtain ⟨FE, hFE⟩ : ∃ E, E = firstE M t := ⟨_, rfl⟩
    obtain ⟨FF, hFF⟩ : ∃ E, E = firstF M t := ⟨_, rfl⟩
    rw [← hFE, ← hFF] at HF1 HF2
    have HWE := hid hWE
    have HWL := hid hWL
    clear hEE hEB hWE hWL hFE hFF
    obtain ⟨fk, fr, fp⟩ := FF
    obtain ⟨kind, row, pixel⟩ := f
    simp only [Flt.val] at HE1 HE2 HF1 HF2 HC HWG ⊢
    obtain ⟨⟨f0, f1, f2⟩, f3, f4⟩ := HC.out wg (Below.refl _ _)
    go_enter Tryz.func3, Tryz.ntmps3
    go_wp2_with fail
    rw [← HWG.out]
    go_wp2_with (first
      | (go_at_call 6; refine HFit.out.mono ?_; rintro e w1 ⟨rfl, rfl⟩)
      | (go_at_call 7; refine HT.out.mono ?_; rintro e w1 ⟨rfl, hb1⟩; refine Stop.of ?_))
    refine Stop.go ?_
    clear f0 f1 f2 f3 f4
    obtain ⟨⟨f0, f1, f2⟩, f3, f4⟩ := HC.out w1 hb1
    go_wp2_with (go_at_call 9; refine (HE1.out _ hb1).mono ?_; rintro e w2 ⟨rfl, hb2⟩; refine Stop.of ?_)
    refine Stop.go ?_
    have hbw2 := chain hb1 hb2
    clear f0 f1 f2 f3 f4
    obtain ⟨⟨f0, f1, f2⟩, f3, f4⟩ := HC.out w2 hbw2
    go_wp2_with (go_at_call 10; refine (HE2.out _ hbw2).mono ?_; rintro e w3 ⟨rfl, hb3⟩; refine Stop.of ?_)
    refine Stop.go ?_
    have hbw3 := chain hbw2 hb3
    clear f0 f1 f2 f3 f4
    go_wp2_with (go_at_call 11; refine (HW1.out _ hbw3).mono ?_; rintro e w4 ⟨v4, base4, rfl, hbase4, hF4, hb4⟩; refine Stop.of ?_)
    refine Stop.go ?_
    have hbw4 := chain hbw3 hb4
    obtain ⟨va4, vc4, rfl, hal, hA4⟩ := hF4.reads
    obtain ⟨q, hq⟩ : ∃ q, q = WL.length := ⟨_, rfl⟩
    rw [← hq] at hal ⊢
    have HQ := hid hq
    have HA4 := hid hA4
    clear hF4 hA4 hbase4 hq
    go_wp2_with (go_at_call 12; refine (HW2.out _ hbw4).mono ?_; rintro e w5 ⟨v5, base5, rfl, hbase5, hF5, hb5⟩; refine Stop.of ?_)
    refine Stop.go ?_
    have hbw5 := chain hbw4 hb5
    obtain ⟨va5, vc5, rfl, _, hA5⟩ := hF5.reads
    rw [← HQ.out]
    have HA5 := hid hA5
    have HA45 := hid (HA4.out.below hb5)
    clear hF5 hA5 hbase5 HA4
    go_wp2_with (go_at_call 13; refine (HF1.out _ hbw5).mono ?_; rintro e w6 ⟨rfl, hb6⟩; refine Stop.of ?_)
    refine Stop.go ?_
    have hbw6 := chain hbw5 hb6
    obtain ⟨wA, hwA⟩ : ∃ wA, wA = w6.alloc (.cells #[.int .i64 fk, .int .i64 fr, .int .i64 fp] 25) := ⟨_, rfl⟩
    have hbA : Below w6.heap.size w6 wA := by rw [hwA]; exact (Below.refl _ _).alloc (Nat.le_refl _) _
    have hfA : FC wA w6.heap.size fk fr fp := by rw [hwA]; exact FC.new _ _ _ _ _
    have hsA : wA.heap.size = w6.heap.size + 1 := by rw [hwA]; simp
    have hbwA := chain hbw6 hbA
    have HWA := hid hwA
    clear hwA
    go_wp2_with fail
    rw [← HWA.out]
    go_wp2_with (go_at_call 14; refine (HF2.out _ hbwA).mono ?_; rintro e w7 ⟨rfl, hb7⟩; refine Stop.of ?_)
    refine Stop.go ?_
    have hbw7 := chain hbwA hb7
    obtain ⟨wB, hwB⟩ : ∃ wB, wB = w7.alloc (.cells #[.int .i64 fk, .int .i64 fr, .int .i64 fp] 25) := ⟨_, rfl⟩
    have hbB : Below w7.heap.size w7 wB := by rw [hwB]; exact (Below.refl _ _).alloc (Nat.le_refl _) _
    have hfB : FC wB w7.heap.size fk fr fp := by rw [hwB]; exact FC.new _ _ _ _ _
    have hbwB := chain hbw7 hbB
    have hfAB : FC wB w6.heap.size fk fr fp := hfA.below (by omega) (chain hb7 hbB)
    have HWB := hid hwB
    clear hwB
    have HA6 := hid (HA45.out.below (chain hb6 (chain hbA (chain hb7 hbB))))
    have HA7 := hid (HA5.out.below (chain hb6 (chain hbA (chain hb7 hbB))))
    have hsB : wB.heap.size = w7.heap.size + 1 := by rw [HWB.out]; simp
    have hs67 : w6.heap.size < w7.heap.size := by have := hb7.size; omega
    go_wp2_with fail
    rw [← HWB.out]
    go_wp2_with (go_at_call 15; refine (sameFaults_t _ _ _ _ _ _ WL HQ.out.symm hal HA6.out HA7.out).mono ?_; rintro e w8 ⟨rfl, hb8⟩; refine Stop.of ?_)
    refine Stop.go ?_
    have hbw8 := chain hbwB hb8
    obtain ⟨p0, p1, p2⟩ := hfAB.below (by omega) hb8
    obtain ⟨q0, q1, q2⟩ := hfB.below (by omega) hb8
    go_wp2
    have HXL := hid (show xs.length = n3 * 2 by rw [HXS.out.1, HTN.out])
    have HXZ := hid (show a3 = none → n3 = 0 from fun h => by rw [← HTN.out]; exact hxn h)
    have HX1 := hid HXS.out.oneCell
    have HXC := hid (fun (W : World) (hb : Below wg.heap.size wg W) (ad : Addr) (ha : a3 = some ad) (j : Nat) (u : Value) (hu : xs[j]? = some u) => show W.cell? (ad.add j) = some u from by
      have h0 := hxc ad ha j u hu
      exact (hb.cell (p := ad.add j) (cell_inT h0)).trans h0)
    have HM1 := hid (show 0 + n3 ≤ maxLen by unfold maxLen; omega)
    have HM2 := hid (show (0 + n3) * 48 ≤ 140737488355328 by omega)
    have HM3 := hid (show n3 + 1 ≤ maxLen by unfold maxLen; omega)
    have HM4 := hid (show (n3 + 1) * 48 ≤ 140737488355328 by omega)
    have HO1 := hid (HeadT.one (sc := sc) (rc := rc) HXN.out.1 (show sn ≤ maxLen by unfold maxLen; omega) HXN.out.2.1 HXN.out.2.2.1 (show rn ≤ maxLen by unfold maxLen; omega) HXN.out.2.2.2)
    have HV1 := hid HO1.out.oneCell
    have FIN := hid (fun (W : World) (a2 : Option Addr) (c2 base : Nat) (h : W.ownsRow base 29 2 (.slice a2 (n3 + 1) c2) (n3 + 1) (xs ++ [.slice sa sn sc, .slice ra rn rc])) (hb : Below wg.heap.size wg W) => tests_of_own h ((HXS.out.below hb).append (HO1.out.below hb)) (show (t ++ [x]).length = n3 + 1 by simp [HTN.out]))
    have HLN := hid (show (t ++ [x]).length = n3 + 1 by simp [HTN.out])
    have HS := hid (fun (W : World) (hb : Below w8.heap.size w8 W) => (HC.out W (chain hbw8 hb)).2)
    have HBW := hid (fun (W : World) (hb : Below w8.heap.size w8 W) => chain hbw8 hb)
    refine region_cut (fun fr fr' W => ∃ v114 v115 v116 v117 v118 v119 v120 v121 v113 a2 q2 c2, fr' = ((((((((((((fr.put (some 114) v114).put (some 115) v115).put (some 116) v116).put (some 117) v117).put (some 118) v118).put (some 119) v119).put (some 120) v120).put (some 121) v121).put (some 113) v113).put (some 122) (.slice a2 q2 c2)).put (some 123) (.int .i64 (whichE M (t ++ [x])))).put (some 21) (.slice a2 q2 c2)).put (some 22) (.int .i64 (whichE M (t ++ [x]))) ∧ q2 = (whichL M (t ++ [x])).length ∧ q2 ≤ maxLen ∧ FltsAt W a2 (whichL M (t ++ [x])) ∧ Below w8.heap.size w8 W) ?_ ?_
    · refine plain_region (fun j' X => wAll j' = true → X.cell? ⟨w.heap.size + 1, 0, none⟩ = some (.slice sa sn sc) ∧ X.cell? ⟨w.heap.size + 1, 1, none⟩ = some (.slice ra rn rc)) (by kernel_rfl) ?_
      have hbd : Below w8.heap.size w8 w8.drew := (Below.refl _ _).drew
      generalize w8.drew = wd at hbd ⊢
      refine AnyT.takeD (i := 0) (v := .slice a n cap) rfl rfl (by kernel_rfl) (by kernel_rfl) (by kernel_rfl) (by first | exact (fun _ _ _ h => h) | exact (fun _ _ _ h => absurd h.1 (by simp))) (by kernel_rfl) (by rfl) (by rintro w' ⟨q4, q5⟩; go_simp) (HS.out _ hbd) ?_; go_frame
      refine AnyT.takeD (i := 2) (v := .slice a3 n3 cap3) rfl rfl (by kernel_rfl) (by kernel_rfl) (by kernel_rfl) (by first | exact (fun _ _ _ h => h) | exact (fun _ _ _ h => absurd h.1 (by simp))) (by kernel_rfl) (by rfl) (by rintro w' ⟨q4, q5⟩; go_simp) (HS.out _ hbd) ?_; go_frame
      refine AnyT.takeD (i := 4) (v := .agg #[.slice sa sn sc, .slice ra rn rc]) rfl rfl (by kernel_rfl) (by kernel_rfl) (by kernel_rfl) (by first | exact (fun _ _ _ h => h) | exact (fun _ _ _ h => absurd h.1 (by simp))) (by kernel_rfl) (by rfl) (by rintro w' ⟨q4, q5⟩; go_simp) (HS.out _ hbd) ?_; go_frame
      have hbA := hbd.alloc hbd.size (.cells #[] 29)
      have hbC := hbd.alloc hbd.size (.cells #[.slice sa sn sc, .slice ra rn rc] 29)
      refine AnyT.next2 (i := 1) (j := 5) (by kernel_rfl) (wpOp_of_list rfl ?_) (wpOp_of_list rfl ?_)
      · go_wp2
        refine ⟨fun _ => HS.out _ hbA, ?_⟩
        have M0 := World.ownsRow_made (base := wd.heap.size) (e := 29) (size := 2) wd #[] 0 (Nat.le_refl _) (Nat.zero_le _) rfl
        refine AnyT.next2 (i := 3) (j := 5) (by kernel_rfl) (wpOp_of_list rfl ?_) (wpOp_of_list rfl ?_)
        · (refine wpList_app _ rfl (.tmp 115) (.tmp 116) 26 rfl wd.heap.size 29 (.agg #[.slice none 0 0, .slice none 0 0]) 2 48 Tryz.underlying26 info_test rfl (by decide) (.slice (some ⟨wd.heap.size, 0, none⟩) 0 0) 0 [] rfl M0 a3 n3 cap3 xs rfl HXL.out HXZ.out (HXC.out _ (HBW.out _ hbA)) HX1.out HM1.out HM2.out (by simp <;> omega) ?_)
          intro a1 c1 w3 own1 g1
          rw [Nat.zero_add] at own1 ⊢
          rw [List.nil_append] at own1
          have hb3 := hbA.grown g1 hbA.size (fun k hk => Nat.le_trans hbd.size ((M0.lt k hk).1))
          have hz3 : wd.heap.size ≤ w3.heap.size := by have := g1.size; simp at this; omega
          refine ⟨fun _ => HS.out _ hb3, ?_⟩
          refine AnyT.next (i := 5) (by kernel_rfl) rfl (wpOp_of_list rfl ?_)
          go_wp2
          have hbP := hb3.alloc hb3.size (.cells #[.slice sa sn sc, .slice ra rn rc] 29)
          refine ⟨fun _ => HS.out _ hbP, ?_⟩
          have hnw := news2 w3 (.slice sa sn sc) (.slice ra rn rc) 29
          refine AnyT.next (i := 6) (by kernel_rfl) rfl (wpOp_of_list rfl ?_)
          (refine wpList_app _ rfl (.tmp 117) (.tmp 119) 26 rfl wd.heap.size 29 (.agg #[.slice none 0 0, .slice none 0 0]) 2 48 Tryz.underlying26 info_test rfl (by decide) (.slice a1 n3 c1) n3 xs rfl (own1.alloc _) (some ⟨w3.heap.size, 0, none⟩) 1 1 [.slice sa sn sc, .slice ra rn rc] rfl rfl no_none hnw HV1.out HM3.out HM4.out (Nat.le_trans hz3 (le_alloc _ _)) ?_)
          intro a2 c2 w4 own2 g2
          have hb4 := hbP.grown g2 hbP.size (fun k hk => Nat.le_trans hbd.size ((own1.lt k hk).1))
          refine ⟨fun _ => HS.out _ hb4, ?_⟩
          have HT4 := FIN.out _ _ _ _ own2 (HBW.out _ hb4)
          clear own1 own2 g1 g2 hnw
          refine AnyT.next (i := 7) (by kernel_rfl) rfl (wpOp_of_list rfl ?_)
          go_wp2_with (go_at_call 11; refine (HW3.out _ (HBW.out _ hb4) _ _ _ HLN.out HM3.out HT4).mono ?_; rintro e w9 ⟨v9, base9, rfl, hbase9, hF9, hb9⟩; refine Stop.of ?_)
          refine Stop.go ?_
          obtain ⟨va9, vc9, rfl, hal9, hA9⟩ := hF9.reads
          have hbb9 := chain hb4 hb9
          go_wp2
          refine ⟨fun _ => HS.out _ hbb9, ?_⟩
          refine AnyT.takeD (i := 8) (v := .tuple #[.slice va9 (whichL M (t ++ [x])).length vc9, .int .i64 (whichE M (t ++ [x]))]) rfl rfl (by kernel_rfl) (by kernel_rfl) (by kernel_rfl) (by first | exact (fun _ _ _ h => h) | exact (fun _ _ _ h => absurd h.1 (by simp))) (by kernel_rfl) (by rfl) (by rintro w' ⟨q4, q5⟩; go_simp) (HS.out _ hbb9) ?_; go_frame
          refine AnyT.takeD (i := 9) (v := .slice va9 (whichL M (t ++ [x])).length vc9) rfl rfl (by kernel_rfl) (by kernel_rfl) (by kernel_rfl) (by first | exact (fun _ _ _ h => h) | exact (fun _ _ _ h => absurd h.1 (by simp))) (by kernel_rfl) (by rfl) (by rintro w' ⟨q4, q5⟩; go_simp) (HS.out _ hbb9) ?_; go_frame
          refine AnyT.takeD (i := 10) (v := .int .i64 (whichE M (t ++ [x]))) rfl rfl (by kernel_rfl) (by kernel_rfl) (by kernel_rfl) (by first | exact (fun _ _ _ h => h) | exact (fun _ _ _ h => absurd h.1 (by simp))) (by kernel_rfl) (by rfl) (by rintro w' ⟨q4, q5⟩; go_simp) (HS.out _ hbb9) ?_; go_frame
          refine AnyT.takeD (i := 11) (v := .slice va9 (whichL M (t ++ [x])).length vc9) rfl rfl (by kernel_rfl) (by kernel_rfl) (by kernel_rfl) (by first | exact (fun _ _ _ h => h) | exact (fun _ _ _ h => absurd h.1 (by simp))) (by kernel_rfl) (by rfl) (by rintro w' ⟨q4, q5⟩; go_simp) (HS.out _ hbb9) ?_; go_frame
          refine AnyT.takeD (i := 12) (v := .int .i64 (whichE M (t ++ [x]))) rfl rfl (by kernel_rfl) (by kernel_rfl) (by kernel_rfl) (by first | exact (fun _ _ _ h => h) | exact (fun _ _ _ h => absurd h.1 (by simp))) (by kernel_rfl) (by rfl) (by rintro w' ⟨q4, q5⟩; go_simp) (HS.out _ hbb9) ?_; go_frame
          exact ⟨by kernel_rfl, rfl, .slice a n cap, .slice (some ⟨wd.heap.size, 0, none⟩) 0 0, .slice a3 n3 cap3, .slice a1 n3 c1, .agg #[.slice sa sn sc, .slice ra rn rc], .slice (some ⟨w3.heap.size, 0, none⟩) 1 1, .slice a2 (n3 + 1) c2, .tuple #[.slice va9 (whichL M (t ++ [x])).length vc9, .int .i64 (whichE M (t ++ [x]))], .tuple #[.slice va9 (whichL M (t ++ [x])).length vc9, .int .i64 (whichE M (t ++ [x]))], va9, (whichL M (t ++ [x])).length, vc9, (by go_frame), rfl, hal9, hA9, hbb9⟩
        · go_wp2
          have hbB := hbA.alloc hbA.size (.cells #[.slice sa sn sc, .slice ra rn rc] 29)
          refine ⟨fun _ => HS.out _ hbB, ?_⟩
          have hnw0 := news2 (wd.alloc (.cells #[] 29)) (.slice sa sn sc) (.slice ra rn rc) 29
          rw [World.size_alloc] at hnw0
          refine AnyT.next (i := 3) (by kernel_rfl) rfl (wpOp_of_list rfl ?_)
          (refine wpList_app _ rfl (.tmp 115) (.tmp 116) 26 rfl wd.heap.size 29 (.agg #[.slice none 0 0, .slice none 0 0]) 2 48 Tryz.underlying26 info_test rfl (by decide) (.slice (some ⟨wd.heap.size, 0, none⟩) 0 0) 0 [] rfl (M0.alloc _) a3 n3 cap3 xs rfl HXL.out HXZ.out (HXC.out _ (HBW.out _ hbB)) HX1.out HM1.out HM2.out (by simp <;> omega) ?_)
          intro a1 c1 w3 own1 g1
          rw [Nat.zero_add] at own1 ⊢
          rw [List.nil_append] at own1
          have hbP := hbB.grown g1 hbB.size (fun k hk => Nat.le_trans hbd.size ((M0.lt k hk).1))
          have hz3 : wd.heap.size ≤ w3.heap.size := by have := g1.size; simp at this; omega
          refine ⟨fun _ => HS.out _ hbP, ?_⟩
          have hnw : ∀ ad, (some ⟨wd.heap.size + 1, 0, none⟩ : Option Addr) = some ad → ∀ j u, ([.slice sa sn sc, .slice ra rn rc] : List Value)[j]? = some u → w3.cell? (ad.add j) = some u := by
            intro ad e j u hu
            have h0 := hnw0 ad e j u hu
            cases e
            rw [Addr.add_lit] at h0 ⊢
            exact grown_cell g1 h0 (by simp [Value.ownBlock])
          refine AnyT.next (i := 6) (by kernel_rfl) rfl (wpOp_of_list rfl ?_)
          (refine wpList_app _ rfl (.tmp 117) (.tmp 119) 26 rfl wd.heap.size 29 (.agg #[.slice none 0 0, .slice none 0 0]) 2 48 Tryz.underlying26 info_test rfl (by decide) (.slice a1 n3 c1) n3 xs rfl own1 (some ⟨wd.heap.size + 1, 0, none⟩) 1 1 [.slice sa sn sc, .slice ra rn rc] rfl rfl no_none hnw HV1.out HM3.out HM4.out hz3 ?_)
          intro a2 c2 w4 own2 g2
          have hb4 := hbP.grown g2 hbP.size (fun k hk => Nat.le_trans hbd.size ((own1.lt k hk).1))
          refine ⟨fun _ => HS.out _ hb4, ?_⟩
          have HT4 := FIN.out _ _ _ _ own2 (HBW.out _ hb4)
          clear own1 own2 g1 g2 hnw
          refine AnyT.next (i := 7) (by kernel_rfl) rfl (wpOp_of_list rfl ?_)
          go_wp2_with (go_at_call 11; refine (HW3.out _ (HBW.out _ hb4) _ _ _ HLN.out HM3.out HT4).mono ?_; rintro e w9 ⟨v9, base9, rfl, hbase9, hF9, hb9⟩; refine Stop.of ?_)
          refine Stop.go ?_
          obtain ⟨va9, vc9, rfl, hal9, hA9⟩ := hF9.reads
          have hbb9 := chain hb4 hb9
          go_wp2
          refine ⟨fun _ => HS.out _ hbb9, ?_⟩
          refine AnyT.takeD (i := 8) (v := .tuple #[.slice va9 (whichL M (t ++ [x])).length vc9, .int .i64 (whichE M (t ++ [x]))]) rfl rfl (by kernel_rfl) (by kernel_rfl) (by kernel_rfl) (by first | exact (fun _ _ _ h => h) | exact (fun _ _ _ h => absurd h.1 (by simp))) (by kernel_rfl) (by rfl) (by rintro w' ⟨q4, q5⟩; go_simp) (HS.out _ hbb9) ?_; go_frame
          refine AnyT.takeD (i := 9) (v := .slice va9 (whichL M (t ++ [x])).length vc9) rfl rfl (by kernel_rfl) (by kernel_rfl) (by kernel_rfl) (by first | exact (fun _ _ _ h => h) | exact (fun _ _ _ h => absurd h.1 (by simp))) (by kernel_rfl) (by rfl) (by rintro w' ⟨q4, q5⟩; go_simp) (HS.out _ hbb9) ?_; go_frame
          refine AnyT.takeD (i := 10) (v := .int .i64 (whichE M (t ++ [x]))) rfl rfl (by kernel_rfl) (by kernel_rfl) (by kernel_rfl) (by first | exact (fun _ _ _ h => h) | exact (fun _ _ _ h => absurd h.1 (by simp))) (by kernel_rfl) (by rfl) (by rintro w' ⟨q4, q5⟩; go_simp) (HS.out _ hbb9) ?_; go_frame
          refine AnyT.takeD (i := 11) (v := .slice va9 (whichL M (t ++ [x])).length vc9) rfl rfl (by kernel_rfl) (by kernel_rfl) (by kernel_rfl) (by first | exact (fun _ _ _ h => h) | exact (fun _ _ _ h => absurd h.1 (by simp))) (by kernel_rfl) (by rfl) (by rintro w' ⟨q4, q5⟩; go_simp) (HS.out _ hbb9) ?_; go_frame
          refine AnyT.takeD (i := 12) (v := .int .i64 (whichE M (t ++ [x]))) rfl rfl (by kernel_rfl) (by kernel_rfl) (by kernel_rfl) (by first | exact (fun _ _ _ h => h) | exact (fun _ _ _ h => absurd h.1 (by simp))) (by kernel_rfl) (by rfl) (by rintro w' ⟨q4, q5⟩; go_simp) (HS.out _ hbb9) ?_; go_frame
          exact ⟨by kernel_rfl, rfl, .slice a n cap, .slice (some ⟨wd.heap.size, 0, none⟩) 0 0, .slice a3 n3 cap3, .slice a1 n3 c1, .agg #[.slice sa sn sc, .slice ra rn rc], .slice (some ⟨wd.heap.size + 1, 0, none⟩) 1 1, .slice a2 (n3 + 1) c2, .tuple #[.slice va9 (whichL M (t ++ [x])).length vc9, .int .i64 (whichE M (t ++ [x]))], .tuple #[.slice va9 (whichL M (t ++ [x])).length vc9, .int .i64 (whichE M (t ++ [x]))], va9, (whichL M (t ++ [x])).length, vc9, (by go_frame), rfl, hal9, hA9, hbb9⟩
      · go_wp2
        refine ⟨fun _ => HS.out _ hbC, ?_⟩
        have hnw0 := news2 wd (.slice sa sn sc) (.slice ra rn rc) 29
        refine AnyT.next (i := 1) (by kernel_rfl) rfl (wpOp_of_list rfl ?_)
        go_wp2
        have hbB := hbC.alloc hbC.size (.cells #[] 29)
        refine ⟨fun _ => HS.out _ hbB, ?_⟩
        have M0 := World.ownsRow_made (base := wd.heap.size) (e := 29) (size := 2) (wd.alloc (.cells #[.slice sa sn sc, .slice ra rn rc] 29)) #[] 0 (by simp) (Nat.zero_le _) rfl
        rw [World.size_alloc] at M0
        refine AnyT.next (i := 3) (by kernel_rfl) rfl (wpOp_of_list rfl ?_)
        (refine wpList_app _ rfl (.tmp 115) (.tmp 116) 26 rfl wd.heap.size 29 (.agg #[.slice none 0 0, .slice none 0 0]) 2 48 Tryz.underlying26 info_test rfl (by decide) (.slice (some ⟨wd.heap.size + 1, 0, none⟩) 0 0) 0 [] rfl M0 a3 n3 cap3 xs rfl HXL.out HXZ.out (HXC.out _ (HBW.out _ hbB)) HX1.out HM1.out HM2.out (by simp <;> omega) ?_)
        intro a1 c1 w3 own1 g1
        rw [Nat.zero_add] at own1 ⊢
        rw [List.nil_append] at own1
        have hbP := hbB.grown g1 hbB.size (fun k hk => Nat.le_trans hbd.size ((M0.lt k hk).1))
        have hz3 : wd.heap.size ≤ w3.heap.size := by have := g1.size; simp at this; omega
        refine ⟨fun _ => HS.out _ hbP, ?_⟩
        have hnw : ∀ ad, (some ⟨wd.heap.size, 0, none⟩ : Option Addr) = some ad → ∀ j u, ([.slice sa sn sc, .slice ra rn rc] : List Value)[j]? = some u → w3.cell? (ad.add j) = some u := by
          intro ad e j u hu
          have h0 := hnw0 ad e j u hu
          cases e
          rw [Addr.add_lit] at h0 ⊢
          have h1 : ((wd.alloc (.cells #[.slice sa sn sc, .slice ra rn rc] 29)).alloc (.cells #[] 29)).cell? ⟨wd.heap.size, 0 + j, none⟩ = some u := (World.cell?_alloc_lt _ _ _ (by simp)).trans h0
          exact grown_cell g1 h1 (by simp [Value.ownBlock])
        refine AnyT.next (i := 6) (by kernel_rfl) rfl (wpOp_of_list rfl ?_)
        (refine wpList_app _ rfl (.tmp 117) (.tmp 119) 26 rfl wd.heap.size 29 (.agg #[.slice none 0 0, .slice none 0 0]) 2 48 Tryz.underlying26 info_test rfl (by decide) (.slice a1 n3 c1) n3 xs rfl own1 (some ⟨wd.heap.size, 0, none⟩) 1 1 [.slice sa sn sc, .slice ra rn rc] rfl rfl no_none hnw HV1.out HM3.out HM4.out hz3 ?_)
        intro a2 c2 w4 own2 g2
        have hb4 := hbP.grown g2 hbP.size (fun k hk => Nat.le_trans hbd.size ((own1.lt k hk).1))
        refine ⟨fun _ => HS.out _ hb4, ?_⟩
        have HT4 := FIN.out _ _ _ _ own2 (HBW.out _ hb4)
        clear own1 own2 g1 g2 hnw
        refine AnyT.next (i := 7) (by kernel_rfl) rfl (wpOp_of_list rfl ?_)
        go_wp2_with (go_at_call 11; refine (HW3.out _ (HBW.out _ hb4) _ _ _ HLN.out HM3.out HT4).mono ?_; rintro e w9 ⟨v9, base9, rfl, hbase9, hF9, hb9⟩; refine Stop.of ?_)
        refine Stop.go ?_
        obtain ⟨va9, vc9, rfl, hal9, hA9⟩ := hF9.reads
        have hbb9 := chain hb4 hb9
        go_wp2
        refine ⟨fun _ => HS.out _ hbb9, ?_⟩
        refine AnyT.takeD (i := 8) (v := .tuple #[.slice va9 (whichL M (t ++ [x])).length vc9, .int .i64 (whichE M (t ++ [x]))]) rfl rfl (by kernel_rfl) (by kernel_rfl) (by kernel_rfl) (by first | exact (fun _ _ _ h => h) | exact (fun _ _ _ h => absurd h.1 (by simp))) (by kernel_rfl) (by rfl) (by rintro w' ⟨q4, q5⟩; go_simp) (HS.out _ hbb9) ?_; go_frame
        refine AnyT.takeD (i := 9) (v := .slice va9 (whichL M (t ++ [x])).length vc9) rfl rfl (by kernel_rfl) (by kernel_rfl) (by kernel_rfl) (by first | exact (fun _ _ _ h => h) | exact (fun _ _ _ h => absurd h.1 (by simp))) (by kernel_rfl) (by rfl) (by rintro w' ⟨q4, q5⟩; go_simp) (HS.out _ hbb9) ?_; go_frame
        refine AnyT.takeD (i := 10) (v := .int .i64 (whichE M (t ++ [x]))) rfl rfl (by kernel_rfl) (by kernel_rfl) (by kernel_rfl) (by first | exact (fun _ _ _ h => h) | exact (fun _ _ _ h => absurd h.1 (by simp))) (by kernel_rfl) (by rfl) (by rintro w' ⟨q4, q5⟩; go_simp) (HS.out _ hbb9) ?_; go_frame
        refine AnyT.takeD (i := 11) (v := .slice va9 (whichL M (t ++ [x])).length vc9) rfl rfl (by kernel_rfl) (by kernel_rfl) (by kernel_rfl) (by first | exact (fun _ _ _ h => h) | exact (fun _ _ _ h => absurd h.1 (by simp))) (by kernel_rfl) (by rfl) (by rintro w' ⟨q4, q5⟩; go_simp) (HS.out _ hbb9) ?_; go_frame
        refine AnyT.takeD (i := 12) (v := .int .i64 (whichE M (t ++ [x]))) rfl rfl (by kernel_rfl) (by kernel_rfl) (by kernel_rfl) (by first | exact (fun _ _ _ h => h) | exact (fun _ _ _ h => absurd h.1 (by simp))) (by kernel_rfl) (by rfl) (by rintro w' ⟨q4, q5⟩; go_simp) (HS.out _ hbb9) ?_; go_frame
        exact ⟨by kernel_rfl, rfl, .slice a n cap, .slice (some ⟨wd.heap.size + 1, 0, none⟩) 0 0, .slice a3 n3 cap3, .slice a1 n3 c1, .agg #[.slice sa sn sc, .slice ra rn rc], .slice (some ⟨wd.heap.size, 0, none⟩) 1 1, .slice a2 (n3 + 1) c2, .tuple #[.slice va9 (whichL M (t ++ [x])).length vc9, .int .i64 (whichE M (t ++ [x]))], .tuple #[.slice va9 (whichL M (t ++ [x])).length vc9, .int .i64 (whichE M (t ++ [x]))], va9, (whichL M (t ++ [x])).length, vc9, (by go_frame), rfl, hal9, hA9, hbb9⟩
    · rintro fr' w9 ⟨v114, v115, v116, v117, v118, v119, v120, v121, v113, a9, q9, c9, rfl, hq9, hm9, hA9, hb9⟩
      go_frame
      have hbw9 := chain hbw8 hb9
      have HM := hid (which_more' (M := M) (t := t) (x := x))
      obtain ⟨WE2, hWE2⟩ : ∃ E, E = whichE M (t ++ [x]) := ⟨_, rfl⟩
      obtain ⟨WL2, hWL2⟩ : ∃ E, E = whichL M (t ++ [x]) := ⟨_, rfl⟩
      rw [← HWE.out, ← HWL.out, ← hWE2, ← hWL2] at HM
      rw [← hWE2]
      rw [← hWL2] at hA9 hq9
      have HA4 := hid (HA6.out.below (chain hb8 hb9))
      have HA9 := hid hA9
      have HQ9 := hid hq9
      have HBW9 := hid hbw9
      have HB9 := hid (fun (W : World) (hb : Below w9.heap.size w9 W) => chain hbw9 hb)
      unfold maxLen at hm9
      clear hWE2 hWL2 hA9 hq9 hb9 HXL HXZ HX1 HXC HM1 HM2 HM3 HM4 HO1 HV1 FIN HLN HS HBW p0 p1 p2 q0 q1 q2 hb8 hbw8 HWA HWB hbwB hbw7 hbwA hbw6 hbw5 hbw4 hbw3 hbw2 hbw9 hb1 hb2 hb3 hb4 hb5 hb6 hb7 hbA hbB hfA hfB hfAB hsA hsB hs67 HXS hxc hxn HWE HWL
      by_cases h1 : WE = 0
      · subst h1
        by_cases h2 : WE2 = 0
        · subst h2
          have HMM := hid (HM.out rfl rfl)
          clear HM
          go_wp2_with fail
          go_loopw [133] (fun i wr => ∃ k : Nat, k ≤ q9 ∧ i = .int .i64 k ∧ Below w9.heap.size w9 wr) (fun i _ => q9 - (intOf i).toNat)
          case atStart => exact ⟨0, Nat.zero_le _, rfl, Below.refl _ _⟩
          case round =>
            obtain ⟨k, hk, rfl, hbk⟩ := hrel
            by_cases hlt : k < q9
            · have hkl : k < WL2.length := by rw [← HQ9.out]; exact hlt
              obtain ⟨b, off, rfl, hbs, g0, g1, g2⟩ := (HA9.out.below hbk) k hkl
              have hy := HMM.out WL2[k] (List.getElem_mem hkl)
              obtain ⟨y, hyy⟩ : ∃ y, y = WL2[k]'hkl := ⟨_, rfl⟩
              rw [← hyy] at g0 g1 g2 hy
              have hbl : Below wr.heap.size wr (wr.alloc (.cells #[.int .i64 y.kind, .int .i64 y.row, .int .i64 y.pixel] 25)) := (Below.refl _ _).alloc (Nat.le_refl _) _
              have HH := hid (has_c _ va4 q vc4 WL HQ.out.symm hal (HA4.out.below (chain hbk hbl)) y)
              have HBK := hid (chain hbk hbl)
              rw [hy] at HH
              clear hyy hy hkl hbk hbl
              obtain ⟨yk, yr, yp⟩ := y
              simp only [Flt.val] at HH HBK
              simp only [] at g0 g1 g2
              go_wp2_with (go_at_call 16; refine HH.out.mono ?_; rintro e w10 ⟨rfl, hb10⟩)
              exact ⟨⟨k + 1, by omega, by go_num, chain HBK.out hb10⟩, by simp [intOf]; omega⟩
            · obtain rfl : k = q9 := by omega
              go_wp2_with (go_at_call 8; refine (HAw.out _ (HB9.out _ hbk)).mono ?_; rintro e w12 ⟨rfl, hb12⟩)
              go_ret
              exact ⟨rfl, HB.out _ (chain (HB9.out _ hbk) hb12)⟩
        · have hz2 : (WE2 != 0) = true := by simpa using h2
          clear h2 HM
          go_wp2_with (go_at_call 8; refine (HAw.out _ HBW9.out).mono ?_; rintro e w12 ⟨rfl, hb12⟩)
          go_ret
          exact ⟨rfl, HB.out _ (chain HBW9.out hb12)⟩
      · have hz2 : (WE != 0) = true := by simpa using h1
        clear h1 HM
        go_wp2_with (go_at_call 8; refine (HAw.out _ HBW9.out).mono ?_; rintro e w12 ⟨rfl, hb12⟩)
        go_ret
        exact ⟨rfl, HB.out _ (chain HBW9.out hb12)⟩
  · obtain ⟨kind, row, pixel⟩ := f
    simp only [Flt.val] at HC HWG ⊢
    clear HE1 HE2 HW1 HW2 HW3 HF1 HF2 HTA HXS hxc hxn HX HXN
    have HCC := hid (fun (W : World) (hb : Below wg.heap.size wg W) => (HC.out W hb).2)
    cases h1 : fitM M
    · rw [h1] at HFit
      clear h1 hfit
      go_enter Tryz.func3, Tryz.ntmps3
      go_wp2_with fail
      rw [← HWG.out]
      go_wp2_with (first
        | (go_at_call 6; refine HFit.out.mono ?_; rintro e w1 ⟨rfl, rfl⟩)
        | (go_at_call 8; refine (HAw.out _ (Below.refl _ _)).mono ?_; rintro e w12 ⟨rfl, hb12⟩))
      go_ret
      exact ⟨rfl, HB.out _ hb12⟩
    rw [h1] at HFit hfit
    clear h1
    cases h2 : fitT t
    · rw [h2] at HT
      clear h2 hfit
      go_enter Tryz.func3, Tryz.ntmps3
      go_wp2_with fail
      rw [← HWG.out]
      go_wp2_with (first
        | (go_at_call 6; refine HFit.out.mono ?_; rintro e w1 ⟨rfl, rfl⟩)
        | (go_at_call 7; refine HT.out.mono ?_; rintro e w1 ⟨rfl, hb1⟩)
        | (go_at_call 8; refine (HAw.out _ hb1).mono ?_; rintro e w12 ⟨rfl, hb12⟩))
      go_ret
      exact ⟨rfl, HB.out _ (chain hb1 hb12)⟩
    rw [h2] at HT hfit
    clear h2
    have HFF := hid hfit
    clear hfit
    by_cases h3 : sn ≤ 20
    · have h4 : 20 < rn := by
        rcases Nat.lt_or_ge 20 rn with h | h
        · exact h
        · exact absurd ⟨rfl, rfl, h3, h⟩ HFF.out
      go_enter Tryz.func3, Tryz.ntmps3
      go_wp2_with fail
      rw [← HWG.out]
      go_wp2_with (first
        | (go_at_call 6; refine HFit.out.mono ?_; rintro e w1 ⟨rfl, rfl⟩)
        | (go_at_call 7; refine HT.out.mono ?_; rintro e w1 ⟨rfl, hb1⟩; refine Stop.of ?_))
      refine Stop.go ?_
      obtain ⟨f3, f4⟩ := HCC.out w1 hb1
      go_wp2_with (go_at_call 8; refine (HAw.out _ hb1).mono ?_; rintro e w12 ⟨rfl, hb12⟩)
      go_ret
      exact ⟨rfl, HB.out _ (chain hb1 hb12)⟩
    · have h4 : 20 < sn := by omega
      clear h3
      go_enter Tryz.func3, Tryz.ntmps3
      go_wp2_with fail
      rw [← HWG.out]
      go_wp2_with (first
        | (go_at_call 6; refine HFit.out.mono ?_; rintro e w1 ⟨rfl, rfl⟩)
        | (go_at_call 7; refine HT.out.mono ?_; rintro e w1 ⟨rfl, hb1⟩; refine Stop.of ?_))
      refine Stop.go ?_
      obtain ⟨f3, f4⟩ := HCC.out w1 hb1
      go_wp2_with (go_at_call 8; refine (HAw.out _ hb1).mono ?_; rintro e w12 ⟨rfl, hb12⟩)
      go_ret
      exact ⟨rfl, HB.out _ (chain hb1 hb12)⟩
end Go.Proofs.YthaampmdponhbaaGreatDoor

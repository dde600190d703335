/- The statement BitFewer: the walk of the law. -/
import Derived.Test.YtdcflpfaaeijoaaBitX
import Derived.Test.YtdcflpfaaeijoaaBitOwn
namespace Go.Proofs.Ytdcflpfaaeijoaa
open Go.RowKit Go.Maps
set_option linter.unusedVariables false

theorem cell_lt {w : World} {a : Addr} {v : Value} (h : w.cell? a = some v) : a = a ∧ a.block < w.heap.size := by
  unfold World.cell? at h
  split at h
  · rename_i c _ _ hb
    exact ⟨rfl, (Array.getElem?_eq_some_iff.1 hb).1⟩
  · simp at h

/-- behind the region that appends: where the new slice is -/
def MoreR (src cell : Value) (n : Nat) (W0 : World) (l : List Cel) (fr fr' : Act) (W : World) : Prop :=
  ∃ v41 v43 v45 a2 c2, fr' = (((((((fr.put (some 41) v41).put (some 42) src).put (some 43) v43).put (some 44) cell).put (some 45) v45).put (some 46) (.slice a2 (n + 1) c2)).put (some 11) (.slice a2 (n + 1) c2)) ∧ CellsAt W a2 l ∧ Below W0.heap.size W0 W

theorem grown_cell {w w' : World} {r : Option Nat} {b o : Nat} {v : Value} (g : w.grownBy w' r) (h : w.cell? ⟨b, o, none⟩ = some v) (hne : some b ≠ r) : w'.cell? ⟨b, o, none⟩ = some v := by
  have hb := g.block b (cell_lt h).2 hne
  unfold World.cell? at h ⊢
  simp only [hb]
  exact h

set_option maxRecDepth 100000 in
set_option maxHeartbeats 4000000 in
theorem bitFewer_c (w : World) (p t : Int) (a : Option Addr) (n cap : Nat) (l : List Cel) (hn : l.length = n) (hm : n ≤ maxLen) (H : CellsAt w a l)
    (v : Value) (x : Cel) (hv : CelV w v x) (px thr : Int) :
    Calls Try.prog 4 #[.agg #[.int .i64 p, .int .i64 t], .slice a n cap, v, .int .i64 px, .int .i64 thr] w fun e w' => e = .returned (.bool true) ∧ Below w.heap.size w w' := by
  obtain ⟨ra, rn, rc, rfl, hrn, hrm, hri⟩ := hv
  obtain ⟨wf, hwf⟩ : ∃ wf, wf = (w.alloc (.cells #[.int .i64 p, .int .i64 t] 23)).alloc (.cells #[.slice ra rn rc, .int .i64 x.lo, .int .i64 x.hi] 41) := ⟨_, rfl⟩
  have hb0 : Below w.heap.size w wf := by rw [hwf]; exact ((Below.refl _ _).alloc (Nat.le_refl _) _).alloc (by simp) _
  have HF := hid (fun (W : World) (hb : Below wf.heap.size wf W) => show W.cell? ⟨w.heap.size, 0, none⟩ = some (.int .i64 p) ∧ W.cell? ⟨w.heap.size, 1, none⟩ = some (.int .i64 t) ∧ W.heap[w.heap.size + 1]? = some (.cells #[.slice ra rn rc, .int .i64 x.lo, .int .i64 x.hi] 41 (0, 0)) from by
    have hs := hb.size
    have hz : wf.heap.size = w.heap.size + 2 := by rw [hwf]; simp
    refine ⟨(hb.cell (p := ⟨w.heap.size, 0, none⟩) (show w.heap.size < wf.heap.size by omega)).trans ?_, (hb.cell (p := ⟨w.heap.size, 1, none⟩) (show w.heap.size < wf.heap.size by omega)).trans ?_, (hb.block (w.heap.size + 1) (by omega)).trans ?_⟩
    · rw [hwf, World.cell?_alloc_lt _ _ _ (show w.heap.size < (w.alloc _).heap.size by simp), World.cell?_alloc_at _ _ _ _ rfl]; rfl
    · rw [hwf, World.cell?_alloc_lt _ _ _ (show w.heap.size < (w.alloc _).heap.size by simp), World.cell?_alloc_at _ _ _ _ rfl]; rfl
    · rw [hwf]
      have := World.alloc_heap_new (w.alloc (.cells #[.int .i64 p, .int .i64 t] 23)) (.cells #[.slice ra rn rc, .int .i64 x.lo, .int .i64 x.hi] 41)
      rw [World.size_alloc] at this
      exact this)
  have HB := hid (fun (W : World) (hb : Below wf.heap.size wf W) => chain hb0 hb)
  have HFEW := hid (fun W : World => few_c W p t 1100)
  have HFIT := hid (fun (W : World) (hb : Below w.heap.size w W) => fit_c W a n cap l hn hm (H.below hb))
  have HAW := hid awake_c
  have HC1 := hid (fun (W : World) (hb : Below w.heap.size w W) => count_c W p t a n cap l hn hm (H.below hb))
  have HO1 := hid (fun (W : World) (hb : Below w.heap.size w W) => bounds_c W p t a n cap l hn hm (H.below hb) px)
  have HP1 := hid (fun (W : World) (hb : Below w.heap.size w W) => partsP_c W p t a n cap l hn hm (H.below hb) ra rn rc x.row hrn hrm (hri.below hb) thr)
  have HP2 := hid (fun (W : World) (hb : Below w.heap.size w W) => refPartsP_c W p t a n cap l hn hm (H.below hb) ra rn rc x.row hrn hrm (hri.below hb) thr)
  have HC2 := hid (fun (W : World) (a2 : Option Addr) (c2 : Nat) (hm2 : n + 1 ≤ maxLen) (H2 : CellsAt W a2 (l ++ [x])) => count_c W p t a2 (n + 1) c2 (l ++ [x]) (by simp [hn]) hm2 H2)
  have HO2 := hid (fun (W : World) (a2 : Option Addr) (c2 : Nat) (hm2 : n + 1 ≤ maxLen) (H2 : CellsAt W a2 (l ++ [x])) => bounds_c W p t a2 (n + 1) c2 (l ++ [x]) (by simp [hn]) hm2 H2 px)
  have HQ1 := hid (count_more (p := p) (t := t) (l := l) (x := x))
  have HQ2 := hid (bounds_more (p := p) (t := t) (px := px) (l := l) (x := x))
  have HQ3 := hid (parts_sum (p := p) (t := t) (thr := thr) (l := l) (row := x.row))
  obtain ⟨xs, hxs, hxn, hxc⟩ := vals_of_cells H
  have HXS := hid (And.intro hxs (And.intro hxn hxc))
  have HN := hid hn
  have HRI := hid (And.intro hrn hri)
  have hfb : fitB l = true → n ≤ 35 := by intro h; simp [fitB] at h; omega
  have HFB := hid hfb
  unfold maxLen at hm hrm
  clear hn H hrn hri hxs hxn hxc hfb
  rcases h1 : fewB p t 1100 with _ | _
  · rw [h1] at HFEW
    go_enter Try.func4, Try.ntmps4
    go_wp2_with fail
    rw [← hwf]
    clear hwf
    refine (HFEW.out _).mono ?_
    rintro e w1 ⟨rfl, hb1⟩
    go_wp2_with (go_at_call 12; refine (HAW.out _).mono ?_; rintro e w2 ⟨rfl, hb2⟩)
    go_ret
    exact ⟨rfl, chain (HB.out _ hb1) hb2⟩
  rcases h2 : fitB l with _ | _
  · rw [h1] at HFEW
    rw [h2] at HFIT
    go_enter Try.func4, Try.ntmps4
    go_wp2_with fail
    rw [← hwf]
    clear hwf
    refine (HFEW.out _).mono ?_
    rintro e w1 ⟨rfl, hb1⟩
    go_wp2_with (first | (go_at_call 11; refine (HFIT.out _ (HB.out _ hb1)).mono ?_; rintro e w2 ⟨rfl, hb2⟩) | (go_at_call 12; refine (HAW.out _).mono ?_; rintro e w3 ⟨rfl, hb3⟩))
    go_ret
    exact ⟨rfl, chain (HB.out _ (chain hb1 hb2)) hb3⟩
  rw [h1] at HFEW
  rw [h2] at HFIT
  have hn35 := HFB.out h2
  clear h1 h2
  by_cases h3 : rn ≤ 20
  · go_enter Try.func4, Try.ntmps4
    go_wp2_with fail
    rw [← hwf]
    clear hwf
    refine (HFEW.out _).mono ?_
    rintro e w1 ⟨rfl, hb1⟩
    go_wp2_with (go_at_call 11; refine (HFIT.out _ (HB.out _ hb1)).mono ?_; rintro e w2 ⟨rfl, hb2⟩; refine Stop.of ?_)
    refine Stop.go ?_
    have hbw2 := chain hb1 hb2
    obtain ⟨f0, f1, f2⟩ := HF.out _ hbw2
    obtain ⟨k0, k1, k2, _⟩ := cell3_get f2
    clear f2
    go_wp2
    have HS := hid (fun (W : World) (hb : Below w2.heap.size w2 W) => show W.cell? ⟨w.heap.size + 1, 0, none⟩ = some (.slice ra rn rc) ∧ W.cell? ⟨w.heap.size + 1, 1, none⟩ = some (.int .i64 x.lo) ∧ W.cell? ⟨w.heap.size + 1, 2, none⟩ = some (.int .i64 x.hi) from by
      obtain ⟨_, _, f2⟩ := HF.out _ (chain hbw2 hb)
      obtain ⟨k0, k1, k2, _⟩ := cell3_get f2
      exact ⟨k0, k1, k2⟩)
    have HBW := hid (fun (W : World) (hb : Below w2.heap.size w2 W) => HB.out _ (chain hbw2 hb))
    have HXL := hid (show xs.length = n * 3 by rw [HXS.out.1.1, HN.out])
    have HXZ := hid (show a = none → n = 0 from fun h => by rw [← HN.out]; exact HXS.out.2.1 h)
    have HX1 := hid (HXS.out.1.one')
    have HXN := hid (fun (W : World) (hb : Below w2.heap.size w2 W) (ad : Addr) (ha : a = some ad) (j : Nat) (u : Value) (hu : xs[j]? = some u) => show W.cell? (ad.add j) = some u from by
      have h0 := HXS.out.2.2 ad ha j u hu
      obtain ⟨e, hlt⟩ := cell_lt h0
      have := (HBW.out W hb).cell (p := ad.add j) hlt
      exact this.trans h0)
    have HM1 := hid (show 0 + n ≤ maxLen by unfold maxLen; omega)
    have HM2 := hid (show (0 + n) * 40 ≤ 140737488355328 by omega)
    have HM3 := hid (show n + 1 ≤ maxLen by unfold maxLen; omega)
    have HM4 := hid (show (n + 1) * 40 ≤ 140737488355328 by omega)
    have HV1 := hid (CelVals.one' (CelVals.one (c := x) (W := w) HRI.out.1 (show rn ≤ maxLen by unfold maxLen; omega) HRI.out.2 (cap := rc)))
    have FIN := hid (fun (W : World) (a2 : Option Addr) (c2 base : Nat) (h : W.ownsRow base 41 3 (.slice a2 (n + 1) c2) (n + 1) (xs ++ [.slice ra rn rc, .int .i64 x.lo, .int .i64 x.hi])) (hb : Below w2.heap.size w2 W) => cells_of_own h (CelVals.append (HXS.out.1.below (HBW.out W hb)) (CelVals.one HRI.out.1 (show rn ≤ maxLen by unfold maxLen; omega) (HRI.out.2.below (HBW.out W hb)))) (show (l ++ [x]).length = n + 1 by simp [HN.out]))
    refine region_cut (MoreR (.slice a n cap) (.agg #[.slice ra rn rc, .int .i64 x.lo, .int .i64 x.hi]) n w2 (l ++ [x])) ?_ ?_
    · refine plain_region (fun j w' => (fun _ : Nat => true) j = true → (w'.cell? ⟨w.heap.size + 1, 0, none⟩ = some (.slice ra rn rc) ∧ w'.cell? ⟨w.heap.size + 1, 1, none⟩ = some (.int .i64 x.lo) ∧ w'.cell? ⟨w.heap.size + 1, 2, none⟩ = some (.int .i64 x.hi))) (by kernel_rfl) ?_
      have hbd : Below w2.heap.size w2 w2.drew := (Below.refl _ _).drew
      generalize w2.drew = wd at hbd ⊢
      refine AnyT.takeW (i := 1) (v := .slice a n cap) rfl (by kernel_rfl) (by kernel_rfl) (by kernel_rfl) (fun _ _ _ h => absurd h.1 (by simp)) (by kernel_rfl) (by rfl) (by intro w' hw'; go_simp) (HS.out _ hbd) ?_
      refine AnyT.takeW (i := 3) (v := .agg #[.slice ra rn rc, .int .i64 x.lo, .int .i64 x.hi]) rfl (by kernel_rfl) (by kernel_rfl) (by kernel_rfl) (fun _ _ _ h => absurd h.1 (by simp)) (by kernel_rfl) (by rfl) (by rintro w' ⟨q0, q1, q2⟩; go_simp) (HS.out _ hbd) ?_
      have hbA := hbd.alloc hbd.size (.cells #[] 41)
      have hbC := hbd.alloc hbd.size (.cells #[.slice ra rn rc, .int .i64 x.lo, .int .i64 x.hi] 41)
      refine AnyT.next2 (i := 0) (j := 4) (by kernel_rfl) (wpOp_of_list rfl ?_) (wpOp_of_list rfl ?_)
      · go_wp2
        refine ⟨HS.out _ hbA, ?_⟩
        have M := World.ownsRow_made (base := wd.heap.size) (e := 41) (size := 3) wd #[] 0 (Nat.le_refl _) (Nat.zero_le _) rfl
        refine AnyT.next2 (i := 2) (j := 4) (by kernel_rfl) (wpOp_of_list rfl ?_) (wpOp_of_list rfl ?_)
        · (refine wpList_app _ rfl (.tmp 41) (.tmp 42) 24 rfl wd.heap.size 41 (.agg #[.slice none 0 0, .int .i64 0, .int .i64 0]) 3 40 Try.underlying24 info_cell rfl (by decide) (.slice (some ⟨wd.heap.size, 0, none⟩) 0 0) 0 [] rfl M a n cap xs rfl HXL.out HXZ.out (HXN.out _ hbA) HX1.out HM1.out HM2.out (by simp) ?_)
          intro a1 c1 w3 own1 g1
          rw [Nat.zero_add] at own1 ⊢
          rw [List.nil_append] at own1
          have hb3 := hbA.grown g1 hbA.size (fun k hk => Nat.le_trans hbd.size ((M.lt k hk).1))
          have hz3 : wd.heap.size ≤ w3.heap.size := by have := g1.size; simp at this; omega
          refine ⟨HS.out _ hb3, ?_⟩
          refine AnyT.next (i := 4) (by kernel_rfl) rfl (wpOp_of_list rfl ?_)
          go_wp2
          have hbP := hb3.alloc hb3.size (.cells #[.slice ra rn rc, .int .i64 x.lo, .int .i64 x.hi] 41)
          refine ⟨HS.out _ hbP, ?_⟩
          refine AnyT.next (i := 5) (by kernel_rfl) rfl (wpOp_of_list rfl ?_)
          (refine wpList_app _ rfl (.tmp 43) (.tmp 45) 24 rfl wd.heap.size 41 (.agg #[.slice none 0 0, .int .i64 0, .int .i64 0]) 3 40 Try.underlying24 info_cell rfl (by decide) (.slice a1 n c1) n xs rfl (own1.alloc _) (some ⟨w3.heap.size, 0, none⟩) 1 1 [.slice ra rn rc, .int .i64 x.lo, .int .i64 x.hi] rfl rfl no_none (news3 w3 _ _ _ _) HV1.out HM3.out HM4.out (Nat.le_trans hz3 (le_alloc _ _)) ?_)
          intro a2 c2 w4 own2 g2
          have hb4 := hbP.grown g2 hbP.size (fun k hk => Nat.le_trans hbd.size ((own1.lt k hk).1))
          refine ⟨HS.out _ hb4, ?_⟩
          refine AnyT.next (i := 6) (by kernel_rfl) rfl (wpOp_of_list rfl ?_)
          go_wp2
          exact ⟨HS.out _ hb4, by kernel_rfl, rfl, .slice (some ⟨wd.heap.size, 0, none⟩) 0 0, .slice a1 n c1, .slice (some ⟨w3.heap.size, 0, none⟩) 1 1, a2, c2, (by go_frame), FIN.out _ _ _ _ own2 hb4, hb4⟩
        · go_wp2
          have hbB := hbA.alloc hbA.size (.cells #[.slice ra rn rc, .int .i64 x.lo, .int .i64 x.hi] 41)
          refine ⟨HS.out _ hbB, ?_⟩
          have hnw := news3 (wd.alloc (.cells #[] 41)) (.slice ra rn rc) (.int .i64 x.lo) (.int .i64 x.hi) 41
          rw [World.size_alloc] at hnw
          refine AnyT.next (i := 2) (by kernel_rfl) rfl (wpOp_of_list rfl ?_)
          (refine wpList_app _ rfl (.tmp 41) (.tmp 42) 24 rfl wd.heap.size 41 (.agg #[.slice none 0 0, .int .i64 0, .int .i64 0]) 3 40 Try.underlying24 info_cell rfl (by decide) (.slice (some ⟨wd.heap.size, 0, none⟩) 0 0) 0 [] rfl (M.alloc _) a n cap xs rfl HXL.out HXZ.out (HXN.out _ hbB) HX1.out HM1.out HM2.out (by simp; omega) ?_)
          intro a1 c1 w3 own1 g1
          rw [Nat.zero_add] at own1 ⊢
          rw [List.nil_append] at own1
          have hbP := hbB.grown g1 hbB.size (fun k hk => Nat.le_trans hbd.size ((M.lt k hk).1))
          have hz3 : wd.heap.size ≤ w3.heap.size := by have := g1.size; simp at this; omega
          refine ⟨HS.out _ hbP, ?_⟩
          have hnw3 : ∀ ad, (some ⟨wd.heap.size + 1, 0, none⟩ : Option Addr) = some ad → ∀ j u, ([.slice ra rn rc, .int .i64 x.lo, .int .i64 x.hi] : List Value)[j]? = some u → w3.cell? (ad.add j) = some u := by
            intro ad e j u hu
            have h0 := hnw ad e j u hu
            cases e
            rw [Addr.add_lit] at h0 ⊢
            exact grown_cell g1 h0 (by simp [Value.ownBlock])
          refine AnyT.next (i := 5) (by kernel_rfl) rfl (wpOp_of_list rfl ?_)
          (refine wpList_app _ rfl (.tmp 43) (.tmp 45) 24 rfl wd.heap.size 41 (.agg #[.slice none 0 0, .int .i64 0, .int .i64 0]) 3 40 Try.underlying24 info_cell rfl (by decide) (.slice a1 n c1) n xs rfl own1 (some ⟨wd.heap.size + 1, 0, none⟩) 1 1 [.slice ra rn rc, .int .i64 x.lo, .int .i64 x.hi] rfl rfl no_none hnw3 HV1.out HM3.out HM4.out hz3 ?_)
          intro a2 c2 w4 own2 g2
          have hb4 := hbP.grown g2 hbP.size (fun k hk => Nat.le_trans hbd.size ((own1.lt k hk).1))
          refine ⟨HS.out _ hb4, ?_⟩
          refine AnyT.next (i := 6) (by kernel_rfl) rfl (wpOp_of_list rfl ?_)
          go_wp2
          exact ⟨HS.out _ hb4, by kernel_rfl, rfl, .slice (some ⟨wd.heap.size, 0, none⟩) 0 0, .slice a1 n c1, .slice (some ⟨wd.heap.size + 1, 0, none⟩) 1 1, a2, c2, (by go_frame), FIN.out _ _ _ _ own2 hb4, hb4⟩
      · go_wp2
        refine ⟨HS.out _ hbC, ?_⟩
        have hnw := news3 wd (.slice ra rn rc) (.int .i64 x.lo) (.int .i64 x.hi) 41
        refine AnyT.next (i := 0) (by kernel_rfl) rfl (wpOp_of_list rfl ?_)
        go_wp2
        have hbB := hbC.alloc hbC.size (.cells #[] 41)
        refine ⟨HS.out _ hbB, ?_⟩
        have M := World.ownsRow_made (base := wd.heap.size) (e := 41) (size := 3) (wd.alloc (.cells #[.slice ra rn rc, .int .i64 x.lo, .int .i64 x.hi] 41)) #[] 0 (by simp) (Nat.zero_le _) rfl
        rw [World.size_alloc] at M
        refine AnyT.next (i := 2) (by kernel_rfl) rfl (wpOp_of_list rfl ?_)
        (refine wpList_app _ rfl (.tmp 41) (.tmp 42) 24 rfl wd.heap.size 41 (.agg #[.slice none 0 0, .int .i64 0, .int .i64 0]) 3 40 Try.underlying24 info_cell rfl (by decide) (.slice (some ⟨wd.heap.size + 1, 0, none⟩) 0 0) 0 [] rfl M a n cap xs rfl HXL.out HXZ.out (HXN.out _ hbB) HX1.out HM1.out HM2.out (by simp; omega) ?_)
        intro a1 c1 w3 own1 g1
        rw [Nat.zero_add] at own1 ⊢
        rw [List.nil_append] at own1
        have hbP := hbB.grown g1 hbB.size (fun k hk => Nat.le_trans hbd.size ((M.lt k hk).1))
        have hz3 : wd.heap.size ≤ w3.heap.size := by have := g1.size; simp at this; omega
        refine ⟨HS.out _ hbP, ?_⟩
        have hnw3 : ∀ ad, (some ⟨wd.heap.size, 0, none⟩ : Option Addr) = some ad → ∀ j u, ([.slice ra rn rc, .int .i64 x.lo, .int .i64 x.hi] : List Value)[j]? = some u → w3.cell? (ad.add j) = some u := by
          intro ad e j u hu
          have h0 := hnw ad e j u hu
          cases e
          rw [Addr.add_lit] at h0 ⊢
          have h1 : ((wd.alloc (.cells #[.slice ra rn rc, .int .i64 x.lo, .int .i64 x.hi] 41)).alloc (.cells #[] 41)).cell? ⟨wd.heap.size, 0 + j, none⟩ = some u := (World.cell?_alloc_lt _ _ _ (by simp)).trans h0
          exact grown_cell g1 h1 (by simp [Value.ownBlock])
        refine AnyT.next (i := 5) (by kernel_rfl) rfl (wpOp_of_list rfl ?_)
        (refine wpList_app _ rfl (.tmp 43) (.tmp 45) 24 rfl wd.heap.size 41 (.agg #[.slice none 0 0, .int .i64 0, .int .i64 0]) 3 40 Try.underlying24 info_cell rfl (by decide) (.slice a1 n c1) n xs rfl own1 (some ⟨wd.heap.size, 0, none⟩) 1 1 [.slice ra rn rc, .int .i64 x.lo, .int .i64 x.hi] rfl rfl no_none hnw3 HV1.out HM3.out HM4.out hz3 ?_)
        intro a2 c2 w4 own2 g2
        have hb4 := hbP.grown g2 hbP.size (fun k hk => Nat.le_trans hbd.size ((own1.lt k hk).1))
        refine ⟨HS.out _ hb4, ?_⟩
        refine AnyT.next (i := 6) (by kernel_rfl) rfl (wpOp_of_list rfl ?_)
        go_wp2
        exact ⟨HS.out _ hb4, by kernel_rfl, rfl, .slice (some ⟨wd.heap.size + 1, 0, none⟩) 0 0, .slice a1 n c1, .slice (some ⟨wd.heap.size, 0, none⟩) 1 1, a2, c2, (by go_frame), FIN.out _ _ _ _ own2 hb4, hb4⟩
    · rintro fr' w3 ⟨v41, v43, v45, a2, c2, rfl, hcel, hb3⟩
      have hbw3 := chain hbw2 hb3
      have HCE := hid hcel
      clear hcel k0 k1 k2 f0 f1
      obtain ⟨f0, f1, f2⟩ := HF.out _ hbw3
      clear f2
      go_frame
      go_wp2_with (first
        | (go_at_call 23; refine (HC1.out _ (HB.out _ hbw3)).mono ?_; rintro e w4 ⟨rfl, hb4⟩; refine Stop.of ?_))
      refine Stop.go ?_
      have hbw4 := chain hbw3 hb4
      have hb34 := chain hb3 hb4
      obtain ⟨g0, g1, g2⟩ := HF.out _ hbw4
      clear g2 f0 f1
      have HC3 := hid (HC2.out w4 a2 c2 (by unfold maxLen; omega) (HCE.out.below hb4))
      go_wp2_with (go_at_call 23; refine HC3.out.mono ?_; rintro e w5 ⟨rfl, hb5⟩; refine Stop.of ?_)
      refine Stop.go ?_
      have hbw5 := chain hbw4 hb5
      obtain ⟨f0, f1, f2⟩ := HF.out _ hbw5
      clear f2 g0 g1
      have CNT := hid (show ¬ (cellsE p t l = 0 ∧ cellsE p t (l ++ [x]) = 0 ∧ countV p t l < countV p t (l ++ [x])) from fun ⟨q1, q2, q3⟩ => by have := HQ1.out q1 q2; omega)
      obtain ⟨E1, hE1⟩ : ∃ E, E = cellsE p t l := ⟨_, rfl⟩
      obtain ⟨E2, hE2⟩ : ∃ E, E = cellsE p t (l ++ [x]) := ⟨_, rfl⟩
      obtain ⟨N1, hN1⟩ : ∃ E, E = countV p t l := ⟨_, rfl⟩
      obtain ⟨N2, hN2⟩ : ∃ E, E = countV p t (l ++ [x]) := ⟨_, rfl⟩
      rw [← hE1, ← hE2, ← hN1, ← hN2] at CNT ⊢
      rw [← hE1, ← hN1] at HQ3
      clear hE1 hE2 hN1 hN2 HQ1
      have hcase6 : (E1 == 0) = false ∨ ((E1 == 0) = true ∧ (E2 == 0) = false) ∨ ((E1 == 0) = true ∧ (E2 == 0) = true ∧ N2 ≤ N1) := by
        have := CNT.out
        by_cases c1 : E1 = 0
        · by_cases c2' : E2 = 0
          · right; right; exact ⟨by simp [c1], by simp [c2'], by omega⟩
          · right; left; exact ⟨by simp [c1], by simp [c2']⟩
        · left; simp [c1]
      have hcase10 : (boundsE p t l px == 0) = false ∨ ((boundsE p t l px == 0) = true ∧ (boundsE p t (l ++ [x]) px == 0) = false) ∨ ((boundsE p t l px == 0) = true ∧ (boundsE p t (l ++ [x]) px == 0) = true ∧ boundsLo p t l px ≤ boundsLo p t (l ++ [x]) px ∧ boundsHi p t (l ++ [x]) px ≤ boundsHi p t l px) := by
        by_cases c1 : boundsE p t l px = 0
        · by_cases c2' : boundsE p t (l ++ [x]) px = 0
          · right; right; exact ⟨by simp [c1], by simp [c2'], HQ2.out c1 c2'⟩
          · right; left; exact ⟨by simp [c1], by simp [c2']⟩
        · left; simp [c1]
      have hcase14 : (partsE p t l x.row thr = 0 ∧ E1 = 0 ∧ partsLo p t l x.row thr + partsHi p t l x.row thr = N1 ∧ 0 ≤ partsLo p t l x.row thr ∧ 0 ≤ partsHi p t l x.row thr ∧ N1 ≤ 65536) ∨ (partsE p t l x.row thr != 0) = true := by
        by_cases c : partsE p t l x.row thr = 0
        · left; exact ⟨c, HQ3.out c⟩
        · right; simp [c]
      obtain ⟨BE1, hBE1⟩ : ∃ E, E = boundsE p t l px := ⟨_, rfl⟩
      obtain ⟨BE2, hBE2⟩ : ∃ E, E = boundsE p t (l ++ [x]) px := ⟨_, rfl⟩
      obtain ⟨L1, hL1⟩ : ∃ E, E = boundsLo p t l px := ⟨_, rfl⟩
      obtain ⟨L2, hL2⟩ : ∃ E, E = boundsLo p t (l ++ [x]) px := ⟨_, rfl⟩
      obtain ⟨G1, hG1⟩ : ∃ E, E = boundsHi p t l px := ⟨_, rfl⟩
      obtain ⟨G2, hG2⟩ : ∃ E, E = boundsHi p t (l ++ [x]) px := ⟨_, rfl⟩
      obtain ⟨EP, hEP⟩ : ∃ E, E = partsE p t l x.row thr := ⟨_, rfl⟩
      obtain ⟨PL, hPL⟩ : ∃ E, E = partsLo p t l x.row thr := ⟨_, rfl⟩
      obtain ⟨PH, hPH⟩ : ∃ E, E = partsHi p t l x.row thr := ⟨_, rfl⟩
      rw [← hBE1, ← hBE2, ← hL1, ← hL2, ← hG1, ← hG2] at hcase10
      rw [← hEP, ← hPL, ← hPH] at hcase14 HP1 HP2
      rw [← hBE1, ← hL1, ← hG1] at HO1
      rw [← hBE2, ← hL2, ← hG2] at HO2
      have HC10 := hid hcase10
      have HC14 := hid hcase14
      clear hBE1 hBE2 hL1 hL2 hG1 hG2 hEP hPL hPH hcase10 hcase14 HQ2 HQ3 CNT HC1 HC2 HC3
      rcases hcase6 with h6 | ⟨h6, h7⟩ | ⟨h6, h7, h8⟩
      all_goals
        go_wp2_with (go_at_call 24; refine (HO1.out _ (HB.out _ hbw5)).mono ?_; rintro e w6 ⟨rfl, hb6⟩; refine Stop.of ?_)
        refine Stop.go ?_
        have hbw6 := chain hbw5 hb6
        have hbw7 := hbw6.alloc hbw6.size (.cells #[.int .i64 L1, .int .i64 G1] 34)
        have hb7 : Below w6.heap.size w6 (w6.alloc (.cells #[.int .i64 L1, .int .i64 G1] 34)) := (Below.refl _ _).alloc (Nat.le_refl _) _
        have HA := hid (World.alloc_heap_new w6 (.cells #[.int .i64 L1, .int .i64 G1] 34))
        obtain ⟨g0, g1, g2⟩ := HF.out _ hbw7
        clear g2 f0 f1
        have HO3 := hid (HO2.out _ a2 c2 (by unfold maxLen; omega) (HCE.out.below (chain (chain (chain hb4 hb5) hb6) hb7)))
        go_wp2_with (go_at_call 24; refine HO3.out.mono ?_; rintro e w8 ⟨rfl, hb8⟩; refine Stop.of ?_)
        refine Stop.go ?_
        have hbw8 := chain hbw7 hb8
        have hbw9 := hbw8.alloc hbw8.size (.cells #[.int .i64 L2, .int .i64 G2] 34)
        have hb9 : Below w8.heap.size w8 (w8.alloc (.cells #[.int .i64 L2, .int .i64 G2] 34)) := (Below.refl _ _).alloc (Nat.le_refl _) _
        have hA2 := box_later (chain hb8 hb9) HA.out
        obtain ⟨q0, q1, _⟩ := cell2_get hA2
        obtain ⟨r0, r1, _⟩ := cell2_get (World.alloc_heap_new w8 (.cells #[.int .i64 L2, .int .i64 G2] 34))
        obtain ⟨f0, f1, f2⟩ := HF.out _ hbw9
        obtain ⟨y0, y1, y2, _⟩ := cell3_get f2
        clear f2 g0 g1 hA2 HO3
        rcases HC10.out with h9 | ⟨h9, h10⟩ | ⟨h9, h10, h11, h12⟩
        all_goals
          go_wp2_with (go_at_call 25; refine (HP1.out _ (HB.out _ hbw9)).mono ?_; rintro e w10 ⟨rfl, hb10⟩; refine Stop.of ?_)
          refine Stop.go ?_
          have hbw10 := chain hbw9 hb10
          clear f0 f1 y0 y1 y2 q0 q1 r0 r1
          obtain ⟨f0, f1, f2⟩ := HF.out _ hbw10
          obtain ⟨y0, y1, y2, _⟩ := cell3_get f2
          clear f2
          rcases HC14.out with ⟨z1, z2, z3, z4, z5, z6⟩ | z1
          all_goals try (exfalso; simp [z2] at h6; done)
          all_goals
            try subst z1
            try subst z2
            go_wp2_with (first | (go_at_call 26; refine (HP2.out _ (HB.out _ hbw10)).mono ?_; rintro e w11 ⟨rfl, hb11⟩) | (go_at_call 12; refine (HAW.out _).mono ?_; rintro e w12 ⟨rfl, hb12⟩))
            go_ret
            exact ⟨rfl, chain (HB.out _ (chain hbw10 hb11)) hb12⟩
  · go_enter Try.func4, Try.ntmps4
    go_wp2_with fail
    rw [← hwf]
    clear hwf
    refine (HFEW.out _).mono ?_
    rintro e w1 ⟨rfl, hb1⟩
    go_wp2_with (go_at_call 11; refine (HFIT.out _ (HB.out _ hb1)).mono ?_; rintro e w2 ⟨rfl, hb2⟩; refine Stop.of ?_)
    refine Stop.go ?_
    have hbw2 := chain hb1 hb2
    obtain ⟨f0, f1, f2⟩ := HF.out _ hbw2
    obtain ⟨k0, k1, k2, _⟩ := cell3_get f2
    clear f2
    go_wp2_with (go_at_call 12; refine (HAW.out _).mono ?_; rintro e w3 ⟨rfl, hb3⟩)
    go_ret
    exact ⟨rfl, chain (HB.out _ hbw2) hb3⟩
end Go.Proofs.Ytdcflpfaaeijoaa
